/- The reference's Sound. -/
import Derived.Test.YtobejbgkfmpoeaaDsPoolB
set_option linter.all false
namespace Ds
open Go Go.Dv
set_option maxRecDepth 100000
set_option linter.unusedVariables false

theorem has_l (N : Nat) (x : Int) : ∀ (post pre : List Int) (m : Nat), post.length < m → (pre ++ post).length < 1000000 →
    ref11_Has_l0 N m (pre ++ post) x (pre.length : Int) = some (if x ∈ post then .inl (true, ()) else .inr ((), ()))
  | [], _, 0, h, _ => absurd h (Nat.not_lt_zero _)
  | _ :: _, _, 0, h, _ => absurd h (Nat.not_lt_zero _)
  | [], pre, m + 1, _, _ => by
    rw [ref11_Has_l0_succ]
    simp only [ref11_Has_l0_step, List.append_nil, Int.lt_irrefl, decide_false, cond_false]
    simp
  | y :: post, pre, m + 1, hm, hb => by
    simp only [List.length_append, List.length_cons] at hb hm
    rw [ref11_Has_l0_succ]
    simp only [ref11_Has_l0_step, lt_mid, in_mid, rd_mid, cond_true]
    rw [gd_t rfl, wr_mid (q := y) (by omega), app_mid (pre := pre) (q := y) (post := post)]
    by_cases e : y = x
    · rw [bif_t (eqi_iff.2 e), if_pos (by simp [e])]
    · rw [bif_f (eqi_ne e), has_l N x post (pre ++ [y]) m (by omega) (by simp only [List.length_append, List.length_cons, List.length_nil]; omega)]
      have e' : ¬ x = y := fun h => e h.symm
      simp [e']

theorem has_eq {N : Nat} (hN : 2000000 ≤ N) {l : List Int} (hl : l.length < 1000000) (x : Int) : ref11_Has N l x = some (decide (x ∈ l)) := by
  unfold ref11_Has
  have h := has_l N x l [] N (by omega) (by simpa using hl)
  have h' : ref11_Has_l0 N N l x (0 : Int) = _ := h
  rw [h']
  by_cases e : x ∈ l <;> simp [e]

theorem counts_l1 (N : Nat) (p : List Sl) : ∀ (post pre : List Int) (m : Nat) (ok : Bool) (cs : List Int), post.length < m → (pre ++ post).length < 1000000 → cs.length = p.length → (∀ i : Int, 0 ≤ i → 0 ≤ rdL cs i 0 ∧ rdL cs i 0 + (post.length : Int) < 1000000000) →
    ∃ cs', ref11_Counts_l1 N m ok (pre.length : Int) p cs (pre ++ post) = some (((), (ok && post.all (usedB p))), (cs', ())) ∧ cs'.length = p.length ∧ ∀ i : Int, usedB p i = true → rdL cs' i 0 = rdL cs i 0 + (post.count i : Int)
  | [], _, 0, _, _, h, _, _, _ => absurd h (Nat.not_lt_zero _)
  | _ :: _, _, 0, _, _, h, _, _, _ => absurd h (Nat.not_lt_zero _)
  | [], pre, m + 1, ok, cs, _, _, hl, _ => by
    refine ⟨cs, ?_, hl, fun i _ => by simp⟩
    rw [ref11_Counts_l1_succ]
    simp only [ref11_Counts_l1_step, List.append_nil, Int.lt_irrefl, decide_false, cond_false]
    simp
  | k :: post, pre, m + 1, ok, cs, hm, hb, hl, hc => by
    simp only [List.length_append, List.length_cons] at hb hm
    rw [ref11_Counts_l1_succ]
    simp only [ref11_Counts_l1_step, lt_mid, in_mid, rd_mid, cond_true, ref_used_eq, List.all_cons]
    rw [gd_t rfl, wr_mid (q := k) (by omega), app_mid (pre := pre) (q := k) (post := post)]
    cases hu : usedB p k with
    | false =>
      simp only [Bool.not_false, cond_true, Bool.false_and, Bool.and_false]
      obtain ⟨cs', e1, e2, e3⟩ := counts_l1 N p post (pre ++ [k]) m false cs (by omega) (by simp only [List.length_append, List.length_cons, List.length_nil]; omega) hl (fun i hi => by have := hc i hi; simp only [List.length_cons] at this; omega)
      refine ⟨cs', by simpa using e1, e2, fun i hi => ?_⟩
      have e : ¬ k = i := fun e => by rw [e, hi] at hu; cases hu
      rw [e3 i hi, List.count_cons]
      simp [e]
    | true =>
      have h0 := used_nn hu
      have h1 := used_lt hu
      have hck := hc k h0
      simp only [List.length_cons] at hck
      have hi : inB k cs.length = true := inB_t h0 (by rw [hl]; exact h1)
      simp only [Bool.not_true, cond_false, Bool.true_and]
      rw [gd_t rfl, gd_t hi, gd_t hi, w64 (by omega) (by omega)]
      have hset : ∀ i : Int, 0 ≤ i → rdL (setL cs k (rdL cs k 0 + 1)) i 0 = rdL cs i 0 + (if i = k then 1 else 0) := by
        intro i hi
        by_cases e : i = k
        · subst e; rw [rd_set_same h0 (by rw [hl]; exact h1), if_pos rfl]
        · rw [rd_set_other h0 hi e, if_neg e]; omega
      obtain ⟨cs', e1, e2, e3⟩ := counts_l1 N p post (pre ++ [k]) m ok (setL cs k (rdL cs k 0 + 1)) (by omega) (by simp only [List.length_append, List.length_cons, List.length_nil]; omega) (by simpa using hl) (fun i hi => by
        have := hc i hi
        simp only [List.length_cons] at this
        rw [hset i hi]
        split <;> omega)
      refine ⟨cs', e1, e2, fun i hi => ?_⟩
      rw [e3 i hi, hset i (used_nn hi), List.count_cons]
      by_cases e : i = k
      · subst e; simp; omega
      · have e' : ¬ k = i := fun h => e h.symm
        simp [e, e']

theorem counts_l0 (N : Nat) (ok : Bool) (cs : List Int) : ∀ (post pre : List Sl) (m : Nat) (out : List Int), post.length < m → (pre ++ post).length < 1000000 → out.length + (allKids post).length < 1000000 →
    ref11_Counts_l0 N m ok (pre.length : Int) (pre ++ post) cs out = some (((), ((), ((), ok))), (pre ++ post, (cs, (out ++ allKids post, ()))))
  | [], _, 0, _, h, _, _ => absurd h (Nat.not_lt_zero _)
  | _ :: _, _, 0, _, h, _, _ => absurd h (Nat.not_lt_zero _)
  | [], pre, m + 1, out, _, _, _ => by
    rw [ref11_Counts_l0_succ]
    simp only [ref11_Counts_l0_step, List.append_nil, Int.lt_irrefl, decide_false, cond_false]
    simp [allKids]
  | s :: post, pre, m + 1, out, hm, hb, ho => by
    simp only [List.length_append, List.length_cons] at hb hm
    have hak : allKids (s :: post) = kidsU s ++ allKids post := by simp [allKids]
    rw [hak] at ho ⊢
    simp only [List.length_append] at ho
    rw [ref11_Counts_l0_succ]
    simp only [ref11_Counts_l0_step, lt_mid, in_mid, rd_mid, cond_true]
    rw [gd_t rfl, wr_mid (q := s) (by omega), app_mid (pre := pre) (q := s) (post := post)]
    cases hu : s.1 with
    | true =>
      have hku : kidsU s = kidsS s := by rw [kidsU, if_pos hu]
      rw [hku] at ho ⊢
      have hkk : (((((s.2).2).2).2).2).1 = kidsS s := rfl
      simp only [cond_true, hkk]
      rw [gd_t rfl, gd_t (fits_p (by omega) (by omega)), counts_l0 N ok cs post (pre ++ [s]) m (out ++ kidsS s) (by omega) (by simp only [List.length_append, List.length_cons, List.length_nil]; omega) (by simp only [List.length_append]; omega)]
      simp
    | false =>
      have hku : kidsU s = [] := by rw [kidsU, if_neg (by simp [hu])]
      rw [hku] at ho ⊢
      simp only [cond_false, List.nil_append]
      rw [counts_l0 N ok cs post (pre ++ [s]) m out (by omega) (by simp only [List.length_append, List.length_cons, List.length_nil]; omega) (by simp only [List.length_nil] at ho; omega)]

theorem counts_ok {N : Nat} (hN : 2000000 ≤ N) {p : List Sl} {R : List Int} (hl : p.length ≤ 100000) (hk : (allKids p).length < 500000) (hR : R.length < 300000) :
    ∃ cs, ref11_Counts N p R = some (cs, (R ++ allKids p).all (usedB p)) ∧ cs.length = p.length ∧ ∀ i : Int, usedB p i = true → rdL cs i 0 = ((R.count i + (allKids p).count i : Nat) : Int) := by
  have z0 : ∀ i : Int, rdL (List.replicate p.length (0 : Int)) i 0 = 0 := fun i => by simp only [rdL, List.getD_eq_getElem?_getD, List.getElem?_replicate]; split <;> rfl
  have h0 := counts_l0 N true (List.replicate p.length (0 : Int)) p [] N R (by omega) (by simpa using (by omega : p.length < 1000000)) (by omega)
  obtain ⟨cs, e1, e2, e3⟩ := counts_l1 N p (R ++ allKids p) [] N true (List.replicate p.length (0 : Int)) (by rw [List.length_append]; omega) (by rw [List.nil_append, List.length_append]; omega) (by simp) (fun i _ => by rw [z0, List.length_append]; omega)
  refine ⟨cs, ?_, e2, fun i hi => by rw [e3 i hi, z0, List.count_append]; omega⟩
  unfold ref11_Counts
  rw [gd_len p 8 hl (by omega) (by omega), gd_t (fits_p (by omega) (by omega))]
  simp only [List.nil_append, Int.toNat_natCast]
  have h0' : ref11_Counts_l0 N N true (0 : Int) p (List.replicate p.length (0 : Int)) R = _ := h0
  rw [h0']
  simp only [List.nil_append]
  have e1' : ref11_Counts_l1 N N true (0 : Int) p (List.replicate p.length (0 : Int)) (R ++ allKids p) = _ := e1
  rw [e1']
  simp

/-- a slot that the reference finds right -/
def okAt (p : List Sl) (R : List Int) (i : Int) : Prop :=
  if usedB p i = true then refsS (slA p i) = ((R.count i + (allKids p).count i : Nat) : Int) ∧ Rch p R i ∧ ¬ Rch p (kidsS (slA p i)) i else emptyB (slA p i) = true

theorem sound_p1 {N : Nat} (hN : 2000000 ≤ N) {p : List Sl} {R : List Int} (hl : p.length ≤ 100000) (hk : (allKids p).length < 500000) (hks : ∀ s ∈ p, (kidsS s).length < 300000) {cs reached : List Int} (hcl : cs.length = p.length)
    (hcs : ∀ i : Int, usedB p i = true → rdL cs i 0 = ((R.count i + (allKids p).count i : Nat) : Int)) (hr : IsReach p R reached) (hrl : reached.length < 1000000) {i : Int} (h0 : 0 ≤ i) (h1 : i < (p.length : Int)) :
    ∃ b, ref11_Sound_p1 N i p cs reached = some (((), ((), (b, ((), i + 1)))), (p, (cs, (reached, ())))) ∧ (b = true ↔ okAt p R i) := by
  unfold ref11_Sound_p1 okAt
  have hw : IntKind.wrap .i64 (i + 1) = i + 1 := w64 (by omega) (by omega)
  rw [gd_t (inB_t h0 h1), hw]
  have hs : rdL p i D_api_Slot = slA p i := rfl
  rw [hs]
  cases hu : (slA p i).1 with
  | false =>
    have hnu : ¬ usedB p i = true := fun h => by have := (usedB_iff.1 h).2.2; rw [hu] at this; cases this
    rw [if_neg hnu]
    simp only [Bool.not_false, cond_true, zero_eq]
    exact ⟨_, rfl, Iff.rfl⟩
  | true =>
    have hub : usedB p i = true := usedB_iff.2 ⟨h0, h1, hu⟩
    rw [if_pos hub]
    simp only [Bool.not_true, cond_false]
    rw [gd_t (inB_t h0 (by rw [hcl]; exact h1)), hcs i hub]
    have hx : (((slA p i).2).2).1 = refsS (slA p i) := rfl
    rw [hx]
    by_cases e : refsS (slA p i) = ((R.count i + (allKids p).count i : Nat) : Int)
    · rw [bif_t (eqi_iff.2 e), has_eq hN hrl]
      simp only
      by_cases hm : i ∈ reached
      · have hri := (hr.2 i).1 hm
        rw [bif_t (by simpa using hm)]
        have hkk : (((((((slA p i).2).2).2).2).2).1) = kidsS (slA p i) := rfl
        obtain ⟨out, o1, o2⟩ := ref_Reach_ok (N := N) hN hl hk (R := kidsS (slA p i)) (hks _ (rd_mem h0 h1))
        have hol : out.length < 1000000 := by
          have := nodup_le (a := out) (b := uids p) (o2.1.imp (fun h => by omega)) (fun x hx => mem_uids.2 ((o2.2 x).1 hx).used)
          have hle : (uids p).length ≤ p.length := by rw [len_uids]; exact List.countP_le_length
          omega
        rw [hkk, o1]
        simp only [has_eq hN hol]
        refine ⟨_, rfl, ?_⟩
        simp only [Bool.not_eq_true', decide_eq_false_iff_not]
        rw [o2.2 i]
        exact ⟨fun h => ⟨e, hri, h⟩, fun h => h.2.2⟩
      · rw [bif_f (by simpa using hm)]
        exact ⟨false, rfl, ⟨fun h => (by cases h), fun h => absurd ((hr.2 i).2 h.2.1) hm⟩⟩
    · rw [bif_f (eqi_ne e)]
      exact ⟨false, rfl, ⟨fun h => (by cases h), fun h => absurd h.1 e⟩⟩

theorem rsound_l0 {N : Nat} (hN : 2000000 ≤ N) {p : List Sl} {R : List Int} (hl : p.length ≤ 100000) (hk : (allKids p).length < 500000) (hks : ∀ s ∈ p, (kidsS s).length < 300000) {cs reached : List Int} (hcl : cs.length = p.length)
    (hcs : ∀ i : Int, usedB p i = true → rdL cs i 0 = ((R.count i + (allKids p).count i : Nat) : Int)) (hr : IsReach p R reached) (hrl : reached.length < 1000000) : ∀ (k m i : Nat) (ok : Bool), i + k = p.length → k < m →
    ∃ b, ref11_Sound_l0 N m ok (i : Int) p cs reached = some (b, ()) ∧ (b = true ↔ ok = true ∧ ∀ j : Int, (i : Int) ≤ j → j < (p.length : Int) → okAt p R j)
  | _, 0, _, _, _, h => absurd h (Nat.not_lt_zero _)
  | 0, m + 1, i, ok, e, _ => by
    refine ⟨ok, ?_, ⟨fun h => ⟨h, fun j h1 h2 => by omega⟩, fun h => h.1⟩⟩
    rw [ref11_Sound_l0_succ]
    simp only [ref11_Sound_l0_step]
    rw [bif_f (by simp; omega)]
  | k + 1, m + 1, i, ok, e, hm => by
    rw [ref11_Sound_l0_succ]
    simp only [ref11_Sound_l0_step]
    rw [bif_t (by simp; omega)]
    cases ok with
    | false => exact ⟨false, rfl, ⟨fun h => (by cases h), fun h => (by cases h.1)⟩⟩
    | true =>
      obtain ⟨b, e1, e2⟩ := sound_p1 (N := N) hN hl hk hks hcl hcs hr hrl (i := (i : Int)) (by omega) (by omega)
      rw [e1]
      simp only [cond_true]
      obtain ⟨b', f1, f2⟩ := rsound_l0 hN hl hk hks hcl hcs hr hrl k m (i + 1) b (by omega) (by omega)
      have ei : ((i + 1 : Nat) : Int) = (i : Int) + 1 := by omega
      rw [ei] at f1
      refine ⟨b', f1, f2.trans ?_⟩
      rw [e2]
      constructor
      · rintro ⟨g1, g2⟩
        refine ⟨trivial, fun j h1 h2 => ?_⟩
        by_cases ej : j = (i : Int)
        · rw [ej]; exact g1
        · exact g2 j (by omega) h2
      · rintro ⟨_, g⟩
        exact ⟨g i (by omega) (by omega), fun j h1 h2 => g j (by omega) h2⟩

theorem ref_Sound_ok {N : Nat} (hN : 2000000 ≤ N) {p : List Sl} {R : List Int} (hl : p.length ≤ 100000) (hks : ∀ s ∈ p, (kidsS s).length < 300000) (hk : (allKids p).length < 500000) (hR : R.length < 300000) :
    ∃ b, ref11_Sound N p R = some b ∧ (b = true ↔ SoundP p R) := by
  obtain ⟨cs, c1, c2, c3⟩ := counts_ok hN hl hk hR
  obtain ⟨out, o1, o2⟩ := ref_Reach_ok hN hl hk hR
  have hol : out.length < 1000000 := by
    have := nodup_le (a := out) (b := uids p) (o2.1.imp (fun h => by omega)) (fun x hx => mem_uids.2 ((o2.2 x).1 hx).used)
    have hle : (uids p).length ≤ p.length := by rw [len_uids]; exact List.countP_le_length
    omega
  obtain ⟨b, b1, b2⟩ := rsound_l0 hN hl hk hks c2 c3 o2 hol p.length N 0 ((R ++ allKids p).all (usedB p)) (by omega) (by omega)
  refine ⟨b, ?_, b2.trans ?_⟩
  · unfold ref11_Sound
    rw [c1, o1]
    simp only
    have b1' : ref11_Sound_l0 N N ((R ++ allKids p).all (usedB p)) (0 : Int) p cs out = _ := b1
    rw [b1']
  · rw [all_used_iff]
    constructor
    · rintro ⟨g1, g2⟩
      have g2' : ∀ j, usedB p j = true → _ ∧ _ ∧ _ := fun j hj => by
        have h := g2 j (used_nn hj) (used_lt hj)
        unfold okAt at h
        rw [if_pos hj] at h
        exact h
      refine ⟨fun k hk => g1 k (by simp [hk]), fun k hk => g1 k (by simp [hk]), fun s hs he => ?_, fun i hi => (g2' i hi).1, fun i hi => (g2' i hi).2.1, fun i hi => (g2' i hi).2.2⟩
      obtain ⟨j, j0, j1, j2⟩ := mem_rd D0 hs
      have h := g2 j (by omega) j1
      unfold okAt at h
      have hj : slA p j = s := j2
      rw [if_neg (fun hu => by have := (usedB_iff.1 hu).2.2; rw [hj, he] at this; cases this), hj] at h
      exact h
    · intro h
      refine ⟨fun k hk => ?_, fun j h0 h1 => ?_⟩
      · rcases List.mem_append.1 hk with hk | hk
        · exact h.mem k hk
        · exact h.kid k hk
      · unfold okAt
        have h0 : (0 : Int) ≤ j := h0
        split
        · rename_i hu
          exact ⟨h.refs j hu, h.rch j hu, h.acy j hu⟩
        · rename_i hu
          refine h.emp _ (rd_mem h0 h1) ?_
          cases hx : (slA p j).1 with
          | false => rfl
          | true => exact absurd (usedB_iff.2 ⟨h0, h1, hx⟩) hu

/-- both agree -/
theorem sounds {N : Nat} (hN : 2000000 ≤ N) {p : List Sl} {R : List Int} (hl : p.length ≤ 100000) (hks : ∀ s ∈ p, (kidsS s).length < 300000) (hk : (allKids p).length < 500000) (hR : R.length < 300000) :
    ∃ b, pool_Sound N p R = some b ∧ ref11_Sound N p R = some b ∧ (b = true ↔ SoundP p R) := by
  obtain ⟨a, a1, a2⟩ := pool_Sound_ok hN hl (fun s hs => by have := hks s hs; omega) hk hR
  obtain ⟨b, b1, b2⟩ := ref_Sound_ok hN hl hks hk hR
  have : a = b := by
    cases a <;> cases b
    · rfl
    · exact absurd (a2.2 (b2.1 rfl)) (by decide)
    · exact absurd (b2.2 (a2.1 rfl)) (by decide)
    · rfl
  exact ⟨a, a1, by rw [b1, this], a2⟩

end Ds

/- Equal pools are the same; adding. -/
namespace Ds
open Go Go.Dv
set_option maxRecDepth 100000
set_option linter.unusedVariables false

theorem ints_l (N : Nat) : ∀ (post pre : List Int) (m : Nat), post.length < m → (pre ++ post).length < 1000000 → ref11_Ints_l0 N m (pre ++ post) (pre ++ post) (pre.length : Int) = some (.inr ((), ()))
  | [], _, 0, h, _ => absurd h (Nat.not_lt_zero _)
  | _ :: _, _, 0, h, _ => absurd h (Nat.not_lt_zero _)
  | [], pre, m + 1, _, _ => by
    rw [ref11_Ints_l0_succ]
    simp only [ref11_Ints_l0_step, List.append_nil, Int.lt_irrefl, decide_false, cond_false]
  | y :: post, pre, m + 1, hm, hb => by
    simp only [List.length_append, List.length_cons] at hb hm
    rw [ref11_Ints_l0_succ]
    simp only [ref11_Ints_l0_step, lt_mid, in_mid, rd_mid, cond_true, eqi_self, Bool.not_true, cond_false]
    rw [gd_t rfl, gd_t rfl, wr_mid (q := y) (by omega), app_mid (pre := pre) (q := y) (post := post)]
    exact ints_l N post (pre ++ [y]) m (by omega) (by simp only [List.length_append, List.length_cons, List.length_nil]; omega)

theorem ints_refl {N : Nat} (hN : 2000000 ≤ N) {l : List Int} (hl : l.length < 1000000) : ref11_Ints N l l = some true := by
  unfold ref11_Ints
  have h := ints_l N l [] N (by omega) (by simpa using hl)
  have h' : ref11_Ints_l0 N N l l (0 : Int) = _ := h
  simp only [eqi_self, Bool.not_true, cond_false, h']

theorem pairs_l (N : Nat) : ∀ (post pre : List V_api_Pair) (m : Nat), post.length < m → (pre ++ post).length < 1000000 → ref05_Same_l0 N m (pre ++ post) (pre ++ post) (pre.length : Int) = some (.inr ((), ()))
  | [], _, 0, h, _ => absurd h (Nat.not_lt_zero _)
  | _ :: _, _, 0, h, _ => absurd h (Nat.not_lt_zero _)
  | [], pre, m + 1, _, _ => by
    rw [ref05_Same_l0_succ]
    simp only [ref05_Same_l0_step, List.append_nil, Int.lt_irrefl, decide_false, cond_false]
  | y :: post, pre, m + 1, hm, hb => by
    simp only [List.length_append, List.length_cons] at hb hm
    rw [ref05_Same_l0_succ]
    simp only [ref05_Same_l0_step, lt_mid, in_mid, rd_mid, cond_true, eqi_self, eqs_self, Bool.and_self, Bool.not_true, cond_false]
    rw [gd_t rfl, gd_t rfl, wr_mid (q := y) (by omega), app_mid (pre := pre) (q := y) (post := post)]
    exact pairs_l N post (pre ++ [y]) m (by omega) (by simp only [List.length_append, List.length_cons, List.length_nil]; omega)

theorem pairs_refl {N : Nat} (hN : 2000000 ≤ N) {l : List V_api_Pair} (hl : l.length < 1000000) : ref05_Same N l l = some true := by
  unfold ref05_Same
  have h := pairs_l N l [] N (by omega) (by simpa using hl)
  have h' : ref05_Same_l0 N N l l (0 : Int) = _ := h
  simp only [eqi_self, Bool.not_true, cond_false, h']

theorem msgs_nil {N : Nat} (hN : 2000000 ≤ N) : ref05_SameMsgs N [] [] = some true := by
  unfold ref05_SameMsgs
  obtain ⟨m, rfl⟩ : ∃ m, N = m + 1 := ⟨N - 1, by omega⟩
  rw [ref05_SameMsgs_l0_succ]
  rfl

/-- the nodes of scripts -/
structure SmallN (n : Nd) : Prop where
  pairs : n.1.length < 1000
  pivots : n.2.1 = []
  kids : n.2.2.1.length < 1000
  sums : n.2.2.2.1 = []
  buf : n.2.2.2.2 = []

theorem sameNode_refl {N : Nat} (hN : 2000000 ≤ N) {n : Nd} (h : SmallN n) : ref11_SameNode N n n = some true := by
  obtain ⟨n1, n2, n3, n4, n5⟩ := n
  obtain ⟨h1, h2, h3, h4, h5⟩ := h
  simp only at h1 h2 h3 h4 h5
  subst h2; subst h4; subst h5
  unfold ref11_SameNode
  simp only [pairs_refl hN (by omega : n1.length < 1000000), ints_refl hN (by omega : n3.length < 1000000), msgs_nil hN, Bool.not_true, cond_false, eqi_self]
  obtain ⟨m, rfl⟩ : ∃ m, N = m + 1 := ⟨N - 1, by omega⟩
  simp only [ref11_SameNode_p1, ref11_SameNode_p0, cond_false]
  rw [ref11_SameNode_l2_succ]
  simp only [ref11_SameNode_l2_step, List.length_nil]
  rw [bif_f (by decide)]
  simp only
  rw [ref11_SameNode_l3_succ]
  simp only [ref11_SameNode_l3_step, List.length_nil]
  rw [bif_f (by decide)]

theorem eqb_self (b : Bool) : eqb b b = true := by simp [eqb]

theorem same_l {N : Nat} (hN : 2000000 ≤ N) : ∀ (post pre : List Sl) (m : Nat), post.length < m → (pre ++ post).length < 1000000 → (∀ s ∈ post, SmallN (nodeS s)) → ref11_Same_l0 N m (pre.length : Int) (pre ++ post) (pre ++ post) = some (.inr ((), ()))
  | [], _, 0, h, _, _ => absurd h (Nat.not_lt_zero _)
  | _ :: _, _, 0, h, _, _ => absurd h (Nat.not_lt_zero _)
  | [], pre, m + 1, _, _, _ => by
    rw [ref11_Same_l0_succ]
    simp only [ref11_Same_l0_step, List.append_nil, Int.lt_irrefl, decide_false, cond_false]
  | y :: post, pre, m + 1, hm, hb, hs => by
    simp only [List.length_append, List.length_cons] at hb hm
    have hn : ref11_SameNode N ((((y).2).2).2) ((((y).2).2).2) = some true := sameNode_refl hN (hs y (by simp))
    rw [ref11_Same_l0_succ]
    simp only [ref11_Same_l0_step, lt_mid, in_mid, rd_mid, cond_true, eqi_self, eqb_self, Bool.not_true, cond_false, hn]
    rw [gd_t rfl, gd_t rfl, wr_mid (q := y) (by omega), app_mid (pre := pre) (q := y) (post := post)]
    exact same_l hN post (pre ++ [y]) m (by omega) (by simp only [List.length_append, List.length_cons, List.length_nil]; omega) (fun s h => hs s (by simp [h]))

theorem same_refl {N : Nat} (hN : 2000000 ≤ N) {p : List Sl} (hl : p.length < 1000000) (hs : ∀ s ∈ p, SmallN (nodeS s)) : ref11_Same N p p = some true := by
  unfold ref11_Same
  have h := same_l hN p [] N (by omega) (by simpa using hl) hs
  have h' : ref11_Same_l0 N N (0 : Int) p p = _ := h
  simp only [eqi_self, Bool.not_true, cond_false, h']

/-! ## adding -/
def newId (p : List Sl) : Nat := (p.takeWhile (fun s => s.1)).length
def ext (p : List Sl) : List Sl := if newId p = p.length then p ++ [D0] else p
def bumpOne (q : List Sl) (k : Int) : List Sl := setL q k (withRefs (slA q k) (IntKind.wrap .i64 (refsS (slA q k) + 1)))
def bump (q : List Sl) (ks : List Int) : List Sl := ks.foldl bumpOne q
def newSl (n : Nd) : Sl := (true, (false, ((1 : Int), n)))
def addP (p : List Sl) (n : Nd) : List Sl := bump (setL (ext p) (newId p : Int) (newSl n)) n.2.2.1
def addF (p : List Sl) (n : Nd) : List Sl × (Int × Int) :=
  if n.2.2.1.all (usedB p) = true then (if 4096 ≤ (newId p : Int) then (p, ((0 : Int), (111 : Int))) else (addP p n, ((newId p : Int), (0 : Int)))) else (p, ((0 : Int), (110 : Int)))

theorem newId_le (p : List Sl) : newId p ≤ p.length := (List.takeWhile_prefix _).length_le

theorem newId_used {p : List Sl} {i : Int} (h0 : 0 ≤ i) (h1 : i < (newId p : Int)) : usedB p i = true := by
  have hle := newId_le p
  refine usedB_iff.2 ⟨h0, by omega, ?_⟩
  have hlt : i.toNat < (p.takeWhile (fun s => s.1)).length := by have : newId p = (p.takeWhile (fun s => s.1)).length := rfl; omega
  have hpre := List.takeWhile_prefix (l := p) (fun s : Sl => s.1)
  have hget : (p.takeWhile (fun s => s.1))[i.toNat] = p[i.toNat]'(by omega) := hpre.getElem hlt
  rw [slA_get (by omega), ← hget]
  have hall := List.all_takeWhile (l := p) (p := fun s : Sl => s.1)
  exact List.all_eq_true.1 hall _ (List.getElem_mem hlt)

theorem tw_next : ∀ (p : List Sl) (h : (p.takeWhile (fun s => s.1)).length < p.length), (p[(p.takeWhile (fun s => s.1)).length]).1 = false
  | [], h => absurd h (Nat.not_lt_zero _)
  | s :: p, h => by
    cases hs : s.1 with
    | false => simp [hs]
    | true =>
      have h' : (p.takeWhile (fun s => s.1)).length < p.length := by simpa [hs] using h
      have := tw_next p h'
      simpa [hs] using this

theorem newId_free (p : List Sl) : usedB p (newId p : Int) = false := by
  cases hu : usedB p (newId p : Int) with
  | false => rfl
  | true =>
    obtain ⟨h0, h1, h2⟩ := usedB_iff.1 hu
    have hlt : newId p < p.length := by omega
    have := tw_next p hlt
    rw [slA_get (by simpa using hlt)] at h2
    simp only [Int.toNat_natCast] at h2
    have h3 : (p[newId p]).1 = false := this
    rw [h3] at h2; cases h2

theorem idx_l (N : Nat) : ∀ (post pre : List Sl) (m : Nat), post.length < m → (pre ++ post).length < 1000000 →
    slices_IndexFunc_s_api_Slot_api_Slot__pool_Add_c1_l0 N m (pre ++ post) ((pre ++ post).length : Int) (pre.length : Int) = some (if newId post = post.length then .inr ((), ()) else .inl (((pre.length + newId post : Nat) : Int), ()))
  | [], _, 0, h, _ => absurd h (Nat.not_lt_zero _)
  | _ :: _, _, 0, h, _ => absurd h (Nat.not_lt_zero _)
  | [], pre, m + 1, _, _ => by
    rw [slices_IndexFunc_s_api_Slot_api_Slot__pool_Add_c1_l0_succ]
    simp only [slices_IndexFunc_s_api_Slot_api_Slot__pool_Add_c1_l0_step, List.append_nil, Int.lt_irrefl, decide_false, cond_false]
    simp [newId]
  | s :: post, pre, m + 1, hm, hb => by
    simp only [List.length_append, List.length_cons] at hb hm
    rw [slices_IndexFunc_s_api_Slot_api_Slot__pool_Add_c1_l0_succ]
    simp only [slices_IndexFunc_s_api_Slot_api_Slot__pool_Add_c1_l0_step, lt_mid, in_mid, rd_mid, cond_true, pool_Add_c1]
    rw [gd_t rfl, wr_mid (q := s) (by omega), app_mid (pre := pre) (q := s) (post := post)]
    cases hs : s.1 with
    | false =>
      simp only [Bool.not_false, cond_true]
      have : newId (s :: post) = 0 := by simp [newId, hs]
      rw [this, if_neg (by simp)]
      rfl
    | true =>
      simp only [Bool.not_true, cond_false]
      rw [idx_l N post (pre ++ [s]) m (by omega) (by simp only [List.length_append, List.length_cons, List.length_nil]; omega)]
      have : newId (s :: post) = newId post + 1 := by simp [newId, hs]
      rw [this]
      simp only [List.length_append, List.length_cons, List.length_nil, Nat.add_right_cancel_iff]
      have e : pre.length + (0 + 1) + newId post = pre.length + (newId post + 1) := by omega
      rw [e]

theorem idx_eq {N : Nat} (hN : 2000000 ≤ N) {p : List Sl} (hl : p.length ≤ 100000) : slices_IndexFunc_s_api_Slot_api_Slot__pool_Add_c1 N p = some (if newId p = p.length then -1 else (newId p : Int)) := by
  unfold slices_IndexFunc_s_api_Slot_api_Slot__pool_Add_c1
  have h := idx_l N p [] N (by omega) (by simpa using (by omega : p.length < 1000000))
  have h' : slices_IndexFunc_s_api_Slot_api_Slot__pool_Add_c1_l0 N N p (List.length p : Int) (0 : Int) = _ := h
  rw [h']
  by_cases e : newId p = p.length
  · simp [e]
  · simp [e]

theorem used_lt_len {p q : List Sl} {k : Int} (h : usedB p k = true) (hq : p.length ≤ q.length) : inB k q.length = true := inB_t (used_nn h) (by have := used_lt h; omega)

theorem bumpOne_len (q : List Sl) (k : Int) : (bumpOne q k).length = q.length := len_setL _ _ _

theorem padd_l2 (N : Nat) (p : List Sl) (id : Int) (b4 : List Sl) : ∀ (post pre : List Int) (m : Nat) (q : List Sl), post.length < m → (pre ++ post).length < 1000000 → post.all (usedB p) = true → p.length ≤ q.length →
    pool_Add_l2 N m id (pre ++ post) ((pre ++ post).length : Int) (pre.length : Int) b4 q = some (((), (id, ())), ((), (b4, ((), (bump q post, ())))))
  | [], _, 0, _, h, _, _, _ => absurd h (Nat.not_lt_zero _)
  | _ :: _, _, 0, _, h, _, _, _ => absurd h (Nat.not_lt_zero _)
  | [], pre, m + 1, q, _, _, _, _ => by
    rw [pool_Add_l2_succ]
    simp only [pool_Add_l2_step, List.append_nil, Int.lt_irrefl, decide_false, cond_false]
    rfl
  | k :: post, pre, m + 1, q, hm, hb, hu, hq => by
    simp only [List.length_append, List.length_cons] at hb hm
    simp only [List.all_cons, Bool.and_eq_true] at hu
    have hi := used_lt_len hu.1 hq
    rw [pool_Add_l2_succ]
    simp only [pool_Add_l2_step, lt_mid, in_mid, rd_mid, cond_true]
    rw [gd_t rfl, gd_t hi, gd_t hi, wr_mid (q := k) (by omega), app_mid (pre := pre) (q := k) (post := post)]
    exact padd_l2 N p id b4 post (pre ++ [k]) m (bumpOne q k) (by omega) (by simp only [List.length_append, List.length_cons, List.length_nil]; omega) hu.2 (by rw [bumpOne_len]; exact hq)

theorem radd_l2 (N : Nat) (p : List Sl) (id : Int) (b2 : List V_api_Pair) (b3 : List (List UInt8)) (b5 : List V_api_Sum) (b6 : List V_api_Msg) (b7 b8 : Int) (b9 : List Sl) : ∀ (post pre : List Int) (m : Nat) (q : List Sl), post.length < m → (pre ++ post).length < 1000000 → post.all (usedB p) = true → p.length ≤ q.length →
    ref11_Add_l2 N m id (pre.length : Int) b2 b3 (pre ++ post) b5 b6 b7 b8 b9 q = some (((), (id, ())), (((), (b7, b8)), (b9, ((), (bump q post, ())))))
  | [], _, 0, _, h, _, _, _ => absurd h (Nat.not_lt_zero _)
  | _ :: _, _, 0, _, h, _, _, _ => absurd h (Nat.not_lt_zero _)
  | [], pre, m + 1, q, _, _, _, _ => by
    rw [ref11_Add_l2_succ]
    simp only [ref11_Add_l2_step, List.append_nil, Int.lt_irrefl, decide_false, cond_false]
    rfl
  | k :: post, pre, m + 1, q, hm, hb, hu, hq => by
    simp only [List.length_append, List.length_cons] at hb hm
    simp only [List.all_cons, Bool.and_eq_true] at hu
    have hi := used_lt_len hu.1 hq
    rw [ref11_Add_l2_succ]
    simp only [ref11_Add_l2_step, lt_mid, in_mid, rd_mid, cond_true]
    rw [gd_t rfl, gd_t hi, gd_t hi, wr_mid (q := k) (by omega), app_mid (pre := pre) (q := k) (post := post)]
    exact radd_l2 N p id b2 b3 b5 b6 b7 b8 b9 post (pre ++ [k]) m (bumpOne q k) (by omega) (by simp only [List.length_append, List.length_cons, List.length_nil]; omega) hu.2 (by rw [bumpOne_len]; exact hq)

theorem padd_l0 (N : Nat) (p : List Sl) (b4 : List V_api_Pair) (b5 : List (List UInt8)) (b6 : List Int) (b7 : List V_api_Sum) (b8 : List V_api_Msg) (b9 : List Sl) : ∀ (post pre : List Int) (m : Nat), post.length < m → (pre ++ post).length < 1000000 →
    pool_Add_l0 N m (pre ++ post) ((pre ++ post).length : Int) (pre.length : Int) p b4 b5 b6 b7 b8 b9 = some (bif post.all (usedB p) then .inr (((), ((), ())), (p, ((b4, (b5, (b6, (b7, b8)))), ((), (b9, ()))))) else .inl (((), ((0 : Int), (110 : Int))), (p, ())))
  | [], _, 0, h, _ => absurd h (Nat.not_lt_zero _)
  | _ :: _, _, 0, h, _ => absurd h (Nat.not_lt_zero _)
  | [], pre, m + 1, _, _ => by
    rw [pool_Add_l0_succ]
    simp only [pool_Add_l0_step, List.append_nil, Int.lt_irrefl, decide_false, cond_false]
    rfl
  | k :: post, pre, m + 1, hm, hb => by
    simp only [List.length_append, List.length_cons] at hb hm
    rw [pool_Add_l0_succ]
    simp only [pool_Add_l0_step, lt_mid, in_mid, rd_mid, cond_true, pool_used_eq, List.all_cons]
    rw [gd_t rfl, wr_mid (q := k) (by omega), app_mid (pre := pre) (q := k) (post := post)]
    cases hu : usedB p k with
    | false => rfl
    | true =>
      simp only [Bool.not_true, cond_false, Bool.true_and]
      exact padd_l0 N p b4 b5 b6 b7 b8 b9 post (pre ++ [k]) m (by omega) (by simp only [List.length_append, List.length_cons, List.length_nil]; omega)

theorem radd_l0 (N : Nat) (p : List Sl) (b2 : List V_api_Pair) (b3 : List (List UInt8)) (b5 : List V_api_Sum) (b6 : List V_api_Msg) (b7 b8 : Int) (b9 : List Sl) : ∀ (post pre : List Int) (m : Nat), post.length < m → (pre ++ post).length < 1000000 →
    ref11_Add_l0 N m (pre.length : Int) p b2 b3 (pre ++ post) b5 b6 b7 b8 b9 = some (bif post.all (usedB p) then .inr (((), ((), ())), (p, ((b2, (b3, (pre ++ post, (b5, b6)))), (((), (b7, b8)), (b9, ()))))) else .inl ((), ((p, ((0 : Int), (110 : Int))), ())))
  | [], _, 0, h, _ => absurd h (Nat.not_lt_zero _)
  | _ :: _, _, 0, h, _ => absurd h (Nat.not_lt_zero _)
  | [], pre, m + 1, _, _ => by
    rw [ref11_Add_l0_succ]
    simp only [ref11_Add_l0_step, List.append_nil, Int.lt_irrefl, decide_false, cond_false]
    rfl
  | k :: post, pre, m + 1, hm, hb => by
    simp only [List.length_append, List.length_cons] at hb hm
    rw [ref11_Add_l0_succ]
    simp only [ref11_Add_l0_step, lt_mid, in_mid, rd_mid, cond_true, ref_used_eq, List.all_cons]
    rw [gd_t rfl, wr_mid (q := k) (by omega), app_mid (pre := pre) (q := k) (post := post)]
    cases hu : usedB p k with
    | false => rfl
    | true =>
      simp only [Bool.not_true, cond_false, Bool.true_and]
      exact radd_l0 N p b2 b3 b5 b6 b7 b8 b9 post (pre ++ [k]) m (by omega) (by simp only [List.length_append, List.length_cons, List.length_nil]; omega)

theorem radd_l1 (N : Nat) (b2 : List V_api_Pair) (b3 : List (List UInt8)) (b4 : List Int) (b5 : List V_api_Sum) (b6 : List V_api_Msg) (b7 b8 : Int) (b9 : List Sl) : ∀ (post pre : List Sl) (m : Nat), post.length < m → (pre ++ post).length < 1000000 →
    ref11_Add_l1 N m (pre.length : Int) (pre ++ post) b2 b3 b4 b5 b6 b7 b8 b9 = some (((), ((), ((), ((pre.length + newId post : Nat) : Int)))), (pre ++ post, ((b2, (b3, (b4, (b5, b6)))), (((), (b7, b8)), (b9, ())))))
  | [], _, 0, h, _ => absurd h (Nat.not_lt_zero _)
  | _ :: _, _, 0, h, _ => absurd h (Nat.not_lt_zero _)
  | [], pre, m + 1, _, _ => by
    rw [ref11_Add_l1_succ]
    simp only [ref11_Add_l1_step, List.append_nil, Int.lt_irrefl, decide_false, cond_false]
    rfl
  | s :: post, pre, m + 1, hm, hb => by
    simp only [List.length_append, List.length_cons] at hb hm
    rw [ref11_Add_l1_succ]
    simp only [ref11_Add_l1_step, lt_mid, in_mid, rd_mid, cond_true]
    rw [gd_t rfl, wr_mid (q := s) (by omega)]
    cases hs : s.1 with
    | false =>
      have : newId (s :: post) = 0 := by simp [newId, hs]
      rw [this]
      rfl
    | true =>
      have h := radd_l1 N b2 b3 b4 b5 b6 b7 b8 b9 post (pre ++ [s]) m (by omega) (by simp only [List.length_append, List.length_cons, List.length_nil]; omega)
      have : newId (s :: post) = newId post + 1 := by simp [newId, hs]
      rw [this]
      have e : (pre ++ [s]).length + newId post = pre.length + (newId post + 1) := by simp; omega
      rw [e] at h
      rw [← app_mid (pre := pre) (q := s) (post := post)] at h
      exact h

theorem pool_Add_eq {N : Nat} (hN : 2000000 ≤ N) {p : List Sl} {n : Nd} (hl : p.length ≤ 50000) (hk : n.2.2.1.length < 1000000) : pool_Add N p n = some (addF p n) := by
  obtain ⟨n1, n2, n3, n4, n5⟩ := n
  simp only at hk
  unfold pool_Add addF
  have h0 := padd_l0 N p n1 n2 n3 n4 n5 [] n3 [] N (by omega) (by simpa using hk)
  have h0' : pool_Add_l0 N N n3 (List.length n3 : Int) (0 : Int) p n1 n2 n3 n4 n5 ([] : List V_api_Slot) = _ := h0
  simp only [h0']
  cases hu : n3.all (usedB p) with
  | false => rfl
  | true =>
    simp only [cond_true, if_true, idx_eq hN (by omega : p.length ≤ 100000)]
    have hle := newId_le p
    have hp1 : ∀ i : Int, i = (newId p : Int) → pool_Add_p1 N i p n1 n2 n3 n4 n5 [] = some (if 4096 ≤ (newId p : Int) then (((), ((0 : Int), (111 : Int))), (p, ())) else (((), ((newId p : Int), (0 : Int))), (addP p (n1, n2, n3, n4, n5), ()))) := by
      rintro i rfl
      unfold pool_Add_p1
      by_cases hbig : (4096 : Int) ≤ (newId p : Int)
      · rw [bif_t (by simpa using hbig), if_pos hbig]
      · rw [bif_f (by simpa using hbig), if_neg hbig, clone_eq N p (by omega)]
        try simp only
        by_cases e : newId p = p.length
        · rw [bif_t (eqi_iff.2 (by omega)), gd_t (fits_p (by simp; omega) (by omega)), gd_t (inB_t (by omega) (by simp; omega))]
          have hx : setL (p ++ [D0]) (newId p : Int) (newSl (n1, n2, n3, n4, n5)) = setL (ext p) (newId p : Int) (newSl (n1, n2, n3, n4, n5)) := by rw [ext, if_pos e]
          have h2 := padd_l2 N p (newId p : Int) [] n3 [] N (setL (p ++ [D0]) (newId p : Int) (newSl (n1, n2, n3, n4, n5))) (by omega) (by simpa using hk) hu (by simp)
          have h2' : pool_Add_l2 N N (newId p : Int) n3 (List.length n3 : Int) (0 : Int) ([] : List V_api_Slot) (setL (p ++ [D0]) (newId p : Int) (newSl (n1, n2, n3, n4, n5))) = _ := h2
          have h3 : pool_Add_l2 N N (newId p : Int) n3 (List.length n3 : Int) (0 : Int) ([] : List V_api_Slot) (setL (p ++ [(false, (false, ((0 : Int), (([] : List V_api_Pair), (([] : List (List UInt8)), (([] : List Int), (([] : List V_api_Sum), ([] : List V_api_Msg))))))))]) (newId p : Int) (true, (false, ((1 : Int), (n1, (n2, (n3, (n4, n5)))))))) = _ := h2'
          try simp only
          rw [h3, hx]
          rfl
        · rw [bif_f (eqi_ne (by omega)), gd_t (inB_t (by omega) (by omega))]
          have hx : setL p (newId p : Int) (newSl (n1, n2, n3, n4, n5)) = setL (ext p) (newId p : Int) (newSl (n1, n2, n3, n4, n5)) := by rw [ext, if_neg e]
          have h2 := padd_l2 N p (newId p : Int) [] n3 [] N (setL p (newId p : Int) (newSl (n1, n2, n3, n4, n5))) (by omega) (by simpa using hk) hu (by simp)
          have h3 : pool_Add_l2 N N (newId p : Int) n3 (List.length n3 : Int) (0 : Int) ([] : List V_api_Slot) (setL p (newId p : Int) (true, (false, ((1 : Int), (n1, (n2, (n3, (n4, n5)))))))) = _ := h2
          try simp only
          rw [h3, hx]
          rfl
    by_cases e : newId p = p.length
    · rw [if_pos e, bif_t (by decide), hp1 _ (by omega)]
      by_cases hbig : (4096 : Int) ≤ (newId p : Int)
      · simp only [if_pos hbig]
      · simp only [if_neg hbig]
    · rw [if_neg e, bif_f (by simp), hp1 _ rfl]
      by_cases hbig : (4096 : Int) ≤ (newId p : Int)
      · simp only [if_pos hbig]
      · simp only [if_neg hbig]

theorem ref_Add_eq {N : Nat} (hN : 2000000 ≤ N) {p : List Sl} {n : Nd} (hl : p.length ≤ 50000) (hk : n.2.2.1.length < 1000000) : ref11_Add N p n = some (addF p n) := by
  obtain ⟨n1, n2, n3, n4, n5⟩ := n
  simp only at hk
  unfold ref11_Add addF
  have h0 := radd_l0 N p n1 n2 n4 n5 0 0 [] n3 [] N (by omega) (by simpa using hk)
  have h0' : ref11_Add_l0 N N (0 : Int) p n1 n2 n3 n4 n5 (0 : Int) (0 : Int) ([] : List V_api_Slot) = _ := h0
  simp only [h0']
  cases hu : n3.all (usedB p) with
  | false => rfl
  | true =>
    simp only [cond_true, if_true, List.nil_append]
    have hle := newId_le p
    have h1 := radd_l1 N n1 n2 n3 n4 n5 0 0 [] p [] N (by omega) (by simpa using (by omega : p.length < 1000000))
    have h1' : ref11_Add_l1 N N (0 : Int) p n1 n2 n3 n4 n5 (0 : Int) (0 : Int) ([] : List V_api_Slot) = some (((), ((), ((), (newId p : Int)))), (p, ((n1, (n2, (n3, (n4, n5)))), (((), ((0 : Int), (0 : Int))), ([], ()))))) := by
      rw [show ((newId p : Nat) : Int) = (([] : List Sl).length + newId p : Nat) by simp]
      exact h1
    rw [h1']
    try simp only
    by_cases hbig : (4096 : Int) ≤ (newId p : Int)
    · rw [bif_t (by simpa using hbig), if_pos hbig]
    · rw [bif_f (by simpa using hbig), if_neg hbig, copied_eq N p (by omega)]
      try simp only
      by_cases e : newId p = p.length
      · rw [bif_t (eqi_iff.2 (by omega)), gd_t (fits_p (by simp; omega) (by omega)), gd_t (inB_t (by omega) (by simp; omega))]
        have hx : setL (p ++ [D0]) (newId p : Int) (newSl (n1, n2, n3, n4, n5)) = setL (ext p) (newId p : Int) (newSl (n1, n2, n3, n4, n5)) := by rw [ext, if_pos e]
        have h2 := radd_l2 N p (newId p : Int) n1 n2 n4 n5 0 0 [] n3 [] N (setL (p ++ [D0]) (newId p : Int) (newSl (n1, n2, n3, n4, n5))) (by omega) (by simpa using hk) hu (by simp)
        have h3 : ref11_Add_l2 N N (newId p : Int) (0 : Int) n1 n2 n3 n4 n5 (0 : Int) (0 : Int) ([] : List V_api_Slot) (setL (p ++ [(false, (false, ((0 : Int), (([] : List V_api_Pair), (([] : List (List UInt8)), (([] : List Int), (([] : List V_api_Sum), ([] : List V_api_Msg))))))))]) (newId p : Int) (true, (false, ((1 : Int), (n1, (n2, (n3, (n4, n5)))))))) = _ := h2
        rw [h3, hx]
        rfl
      · rw [bif_f (eqi_ne (by omega)), gd_t (inB_t (by omega) (by omega))]
        have hx : setL p (newId p : Int) (newSl (n1, n2, n3, n4, n5)) = setL (ext p) (newId p : Int) (newSl (n1, n2, n3, n4, n5)) := by rw [ext, if_neg e]
        have h2 := radd_l2 N p (newId p : Int) n1 n2 n4 n5 0 0 [] n3 [] N (setL p (newId p : Int) (newSl (n1, n2, n3, n4, n5))) (by omega) (by simpa using hk) hu (by simp)
        have h3 : ref11_Add_l2 N N (newId p : Int) (0 : Int) n1 n2 n3 n4 n5 (0 : Int) (0 : Int) ([] : List V_api_Slot) (setL p (newId p : Int) (true, (false, ((1 : Int), (n1, (n2, (n3, (n4, n5)))))))) = _ := h2
        rw [h3, hx]
        rfl

end Ds
