/- Adding keeps the balance; what a node of a script is. -/
import Derived.Test.YtobejbgkfmpoeaaDsPoolC
import Derived.Test.YtobejbgkfmpoeaaDsPure
import Derived.Test.YtobejbgkfmpoeaaDvD
set_option linter.all false
namespace Ds
open Go Go.Dv
set_option maxRecDepth 100000
set_option linter.unusedVariables false

theorem slA_out {p : List Sl} {i : Int} (h0 : 0 ≤ i) (h : (p.length : Int) ≤ i) : slA p i = D0 := by
  have : p.length ≤ i.toNat := by omega
  simp only [slA, rdL, List.getD_eq_getElem?_getD]
  rw [List.getElem?_eq_none this]; rfl

theorem slA_ext {p : List Sl} {i : Int} (h0 : 0 ≤ i) : slA (ext p) i = slA p i := by
  unfold ext
  split
  · have hl : (p ++ [D0]).length = p.length + 1 := by simp
    by_cases h : i < (p.length : Int)
    · have h1 : i.toNat < p.length := by omega
      have h2 : i.toNat < (p ++ [D0]).length := by omega
      rw [slA_get h2, slA_get h1, List.getElem_append_left h1]
    · rw [slA_out (p := p) h0 (by omega)]
      by_cases e : i = (p.length : Int)
      · have h2 : i.toNat < (p ++ [D0]).length := by omega
        have h3 : i.toNat = p.length := by omega
        rw [slA_get h2]
        simp [h3]
      · rw [slA_out (p := p ++ [D0]) h0 (by omega)]
  · rfl

theorem ext_len (p : List Sl) : (newId p : Int) < ((ext p).length : Int) ∧ p.length ≤ (ext p).length ∧ (ext p).length ≤ p.length + 1 := by
  have hle := newId_le p
  unfold ext
  split <;> simp <;> omega

theorem allKids_ext' (p : List Sl) : allKids (ext p) = allKids p := by
  unfold ext
  split
  · simp only [allKids, List.flatMap_append, List.flatMap_cons, List.flatMap_nil]
    have : kidsU D0 = [] := rfl
    rw [this]; simp
  · rfl

theorem allKids_congr {p q : List Sl} (hl : p.length = q.length) (h : ∀ i : Int, 0 ≤ i → i < (p.length : Int) → kidsU (slA p i) = kidsU (slA q i)) : allKids p = allKids q := by
  have : p.map kidsU = q.map kidsU := by
    apply List.ext_getElem (by simpa using hl)
    intro n h1 h2
    simp only [List.length_map] at h1 h2
    have := h (n : Int) (by omega) (by omega)
    rw [slA_get (by simpa using h1), slA_get (by simpa using h2)] at this
    simpa using this
  unfold allKids
  rw [List.flatMap_def, List.flatMap_def, this]

theorem bump_len : ∀ (ks : List Int) (q : List Sl), (bump q ks).length = q.length
  | [], _ => rfl
  | k :: ks, q => by
    have := bump_len ks (bumpOne q k)
    rw [bumpOne_len] at this
    exact this

theorem bump_at : ∀ (ks : List Int) (q : List Sl), (∀ k ∈ ks, 0 ≤ k ∧ k < (q.length : Int)) → (∀ i : Int, 0 ≤ i → 0 ≤ refsS (slA q i) ∧ refsS (slA q i) + (ks.length : Int) < 1000000000) → ∀ i : Int, 0 ≤ i → slA (bump q ks) i = withRefs (slA q i) (refsS (slA q i) + (ks.count i : Int))
  | [], q, _, _, i, _ => by
    show slA q i = _
    rw [List.count_nil]
    have : refsS (slA q i) + ((0 : Nat) : Int) = refsS (slA q i) := by omega
    rw [this]; rfl
  | k :: ks, q, hk, hr, i, hi => by
    obtain ⟨k0, k1⟩ := hk k (by simp)
    have hrk := hr k k0
    simp only [List.length_cons] at hrk
    have hw : IntKind.wrap .i64 (refsS (slA q k) + 1) = refsS (slA q k) + 1 := w64 (by omega) (by omega)
    have h1 : ∀ j : Int, 0 ≤ j → slA (bumpOne q k) j = if j = k then withRefs (slA q k) (refsS (slA q k) + 1) else slA q j := by
      intro j hj
      unfold bumpOne
      rw [hw]
      by_cases e : j = k
      · subst e; rw [slA_set_same k0 k1, if_pos rfl]
      · rw [slA_set_other k0 hj e, if_neg e]
    have hrr : ∀ j : Int, 0 ≤ j → refsS (slA (bumpOne q k) j) = refsS (slA q j) + (if j = k then 1 else 0) := by
      intro j hj
      rw [h1 j hj]
      by_cases e : j = k
      · subst e; rw [if_pos rfl, if_pos rfl]; rfl
      · rw [if_neg e, if_neg e]; omega
    have ih := bump_at ks (bumpOne q k) (fun j hj => by rw [bumpOne_len]; exact hk j (by simp [hj])) (fun j hj => by
      have := hr j hj
      simp only [List.length_cons] at this
      rw [hrr j hj]
      split <;> omega) i hi
    show slA (bump (bumpOne q k) ks) i = _
    rw [ih, hrr i hi, h1 i hi, List.count_cons]
    by_cases e : i = k
    · subst e
      rw [if_pos rfl, if_pos rfl]
      simp only [beq_self_eq_true, if_true]
      have : refsS (slA q i) + 1 + (ks.count i : Int) = refsS (slA q i) + ((ks.count i + 1 : Nat) : Int) := by omega
      rw [this]; rfl
    · have e' : ¬ k = i := fun h => e h.symm
      rw [if_neg e, if_neg e]
      simp [e']

/-- what adding a node whose kids are there comes to -/
theorem addP_at {p : List Sl} {n : Nd} (hu : n.2.2.1.all (usedB p) = true) (hr : ∀ i : Int, 0 ≤ i → 0 ≤ refsS (slA p i) ∧ refsS (slA p i) + (n.2.2.1.length : Int) < 500000000) :
    (addP p n).length = (ext p).length ∧ ∀ i : Int, 0 ≤ i → slA (addP p n) i = if i = (newId p : Int) then newSl n else withRefs (slA p i) (refsS (slA p i) + (n.2.2.1.count i : Int)) := by
  have hlen := ext_len p
  have hs : ∀ i : Int, 0 ≤ i → slA (setL (ext p) (newId p : Int) (newSl n)) i = if i = (newId p : Int) then newSl n else slA p i := by
    intro i hi
    by_cases e : i = (newId p : Int)
    · subst e; rw [slA_set_same (by omega) hlen.1, if_pos rfl]
    · rw [slA_set_other (by omega) hi e, if_neg e, slA_ext hi]
  have hrn : refsS (newSl n) = 1 := rfl
  have hl0 := hr 0 (by omega)
  have hb := bump_at n.2.2.1 (setL (ext p) (newId p : Int) (newSl n)) (fun k hk => by
    have := all_used_iff.1 hu k hk
    have := used_lt this
    have := used_nn (all_used_iff.1 hu k hk)
    rw [len_setL]; omega) (fun i hi => by
    rw [hs i hi]
    have := hr i hi
    split
    · rw [hrn]; omega
    · omega)
  refine ⟨by unfold addP; rw [bump_len, len_setL], fun i hi => ?_⟩
  have h := hb i hi
  unfold addP
  rw [h, hs i hi]
  by_cases e : i = (newId p : Int)
  · rw [if_pos e, if_pos e]
    have hc : n.2.2.1.count i = 0 := List.count_eq_zero.2 fun hm => by
      have := all_used_iff.1 hu i hm
      rw [e, newId_free] at this; cases this
    rw [hc]; rfl
  · rw [if_neg e, if_neg e]

theorem add_bal {p : List Sl} {n : Nd} {R : List Int} (h : Bal p R) (hu : n.2.2.1.all (usedB p) = true) (hb : R.length + (allKids p).length + n.2.2.1.length < 1000000) :
    Bal (addP p n) (R ++ [(newId p : Int)]) ∧ (allKids (addP p n)).length = (allKids p).length + n.2.2.1.length := by
  have hrefs : ∀ i : Int, 0 ≤ i → 0 ≤ refsS (slA p i) ∧ refsS (slA p i) + (n.2.2.1.length : Int) < 500000000 := by
    intro i hi
    by_cases hui : usedB p i = true
    · rw [h.refs i hui]
      have l1 := List.count_le_length (a := i) (l := R)
      have l2 := List.count_le_length (a := i) (l := allKids p)
      omega
    · by_cases hi1 : i < (p.length : Int)
      · rw [not_used_zero h hi hi1 hui]
        have : refsS D0 = 0 := rfl
        omega
      · rw [slA_out hi (by omega)]
        have : refsS D0 = 0 := rfl
        omega
  obtain ⟨hl, hat⟩ := addP_at hu hrefs
  have hlen := ext_len p
  have hid := newId_free p
  have hused : ∀ i : Int, usedB (addP p n) i = true ↔ i = (newId p : Int) ∨ usedB p i = true := by
    intro i
    constructor
    · intro hi
      obtain ⟨h0, h1, h2⟩ := usedB_iff.1 hi
      by_cases e : i = (newId p : Int)
      · exact .inl e
      · rw [hat i h0, if_neg e] at h2
        have h2 : (slA p i).1 = true := h2
        refine .inr (usedB_iff.2 ⟨h0, ?_, h2⟩)
        by_cases hlt : i < (p.length : Int)
        · exact hlt
        · rw [slA_out h0 (by omega)] at h2; cases h2
    · rintro (rfl | hi)
      · refine usedB_iff.2 ⟨by omega, by rw [hl]; exact hlen.1, ?_⟩
        rw [hat _ (by omega), if_pos rfl]; rfl
      · obtain ⟨h0, h1, h2⟩ := usedB_iff.1 hi
        have e : i ≠ (newId p : Int) := fun e => by rw [e, hid] at hi; cases hi
        refine usedB_iff.2 ⟨h0, by rw [hl]; omega, ?_⟩
        rw [hat i h0, if_neg e]; exact h2
  have hak : allKids (addP p n) = allKids (setL (ext p) (newId p : Int) (newSl n)) := by
    refine allKids_congr (by rw [hl, len_setL]) fun i h0 h1 => ?_
    rw [hat i h0]
    by_cases e : i = (newId p : Int)
    · subst e; rw [if_pos rfl, slA_set_same (by omega) hlen.1]
    · rw [if_neg e, slA_set_other (by omega) h0 e, slA_ext h0]; rfl
  have hkD : kidsU (slA (ext p) (newId p : Int)) = [] := by
    rw [slA_ext (by omega)]
    by_cases hlt : (newId p : Int) < (p.length : Int)
    · rw [not_used_zero h (by omega) hlt (by rw [hid]; decide)]; rfl
    · rw [slA_out (by omega) (by omega)]; rfl
  have hkn : kidsU (newSl n) = n.2.2.1 := rfl
  have hcnt : ∀ j, (allKids (addP p n)).count j = (allKids p).count j + n.2.2.1.count j := by
    intro j
    have := cnt_setL (ext p) (newId p : Int) (newSl n) j (by omega) hlen.1
    rw [hkD, hkn, allKids_ext', ← hak] at this
    simpa using this
  have hmem : ∀ j, j ∈ allKids (addP p n) → usedB p j = true := by
    intro j hj
    have h1 := List.count_pos_iff.2 hj
    rw [hcnt] at h1
    by_cases hc : 0 < (allKids p).count j
    · exact h.kid j (List.count_pos_iff.1 hc)
    · exact all_used_iff.1 hu j (List.count_pos_iff.1 (by omega))
  have hc0 : R.count (newId p : Int) = 0 ∧ (allKids (addP p n)).count (newId p : Int) = 0 := by
    refine ⟨List.count_eq_zero.2 fun hm => ?_, List.count_eq_zero.2 fun hm => ?_⟩
    · have := h.mem _ hm; rw [hid] at this; cases this
    · have := hmem _ hm; rw [hid] at this; cases this
  have hR : ∀ i : Int, (R ++ [(newId p : Int)]).count i = R.count i + (if i = (newId p : Int) then 1 else 0) := by
    intro i
    rw [List.count_append, List.count_cons, List.count_nil]
    by_cases e : i = (newId p : Int)
    · subst e; simp
    · have e' : ¬ (newId p : Int) = i := fun h => e h.symm
      simp [e, e']
  refine ⟨⟨fun s hs he => ?_, fun s hs => ?_, fun i hi => ?_, fun k hk => ?_, fun k hk => (hused k).2 (.inr (hmem k hk)), fun i hi => ?_, ?_⟩, ?_⟩
  · obtain ⟨i, h0, h1, h2⟩ := mem_rd D0 hs
    have h2 : slA (addP p n) i = s := h2
    rw [hat i h0] at h2
    by_cases e : i = (newId p : Int)
    · rw [if_pos e] at h2; subst h2; cases he
    · rw [if_neg e] at h2
      subst h2
      have he : (slA p i).1 = false := he
      have hnu : ¬ usedB p i = true := fun hh => by have := (usedB_iff.1 hh).2.2; rw [he] at this; cases this
      have hc : n.2.2.1.count i = 0 := List.count_eq_zero.2 fun hm => hnu (all_used_iff.1 hu i hm)
      have hz : slA p i = D0 := by
        by_cases hlt : i < (p.length : Int)
        · exact not_used_zero h h0 hlt hnu
        · exact slA_out h0 (by omega)
      rw [hz, hc]; rfl
  · obtain ⟨i, h0, h1, h2⟩ := mem_rd D0 hs
    have h2 : slA (addP p n) i = s := h2
    rw [hat i h0] at h2
    by_cases e : i = (newId p : Int)
    · rw [if_pos e] at h2; subst h2; rfl
    · rw [if_neg e] at h2
      subst h2
      show (slA p i).2.1 = false
      by_cases hlt : i < (p.length : Int)
      · exact h.lost _ (rd_mem h0 hlt)
      · rw [slA_out h0 (by omega)]
  · rw [hR, hcnt]
    rcases (hused i).1 hi with rfl | hip
    · have := hcnt (newId p : Int)
      rw [hat _ (by omega), if_pos rfl, if_pos rfl, hc0.1]
      have : refsS (newSl n) = 1 := rfl
      omega
    · have e : i ≠ (newId p : Int) := fun e => by rw [e, hid] at hip; cases hip
      rw [hat i (used_nn hip), if_neg e, if_neg e]
      have : ∀ x, refsS (withRefs (slA p i) x) = x := fun _ => rfl
      rw [this, h.refs i hip]
      omega
  · rcases List.mem_append.1 hk with hk | hk
    · exact (hused k).2 (.inr (h.mem k hk))
    · exact (hused k).2 (.inl (by simpa using hk))
  · rw [hR, hcnt]
    rcases (hused i).1 hi with rfl | hip
    · rw [if_pos rfl]; omega
    · have := h.pos i hip; omega
  · obtain ⟨r, hr⟩ := h.rank
    obtain ⟨B, hB⟩ := rank_bound p r
    refine ⟨fun j => if j = (newId p : Int) then B else r j, fun i hi k hk => ?_⟩
    have kne : ∀ k, usedB p k = true → k ≠ (newId p : Int) := fun k hk e => by rw [e, hid] at hk; cases hk
    rcases (hused i).1 hi with rfl | hip
    · rw [hat _ (by omega), if_pos rfl] at hk
      have hk : k ∈ n.2.2.1 := hk
      have hku := all_used_iff.1 hu k hk
      simp only [if_neg (kne k hku), if_true]
      exact hB k hku
    · have e := kne i hip
      rw [hat i (used_nn hip), if_neg e] at hk
      have hk : k ∈ kidsS (slA p i) := hk
      have hku := h.kid k (kid_mem hip hk)
      simp only [if_neg (kne k hku), if_neg e]
      exact hr i hip k hk
  · have := lkids_setL (ext p) (newId p : Int) (newSl n) (by omega) hlen.1
    rw [hkD, hkn, allKids_ext', ← hak] at this
    simpa using this

/-! ## nodes of scripts -/
theorem key_some {N : Nat} {x : Int} (h0 : 0 ≤ x) (h1 : x < 256) : ∃ k, ref05_Key N x = some k := by
  obtain ⟨k, hk, _⟩ := u8_opt (f := fun x => ref05_Key 0 x) (p := fun _ => true) (by decide +kernel) h0 h1
  exact ⟨k, hk⟩

abbrev pickI (roots : List Int) (x : Int) : Int := rdL roots (Int.tmod (IntKind.wrap .i64 (IntKind.wrap .u8 (Int.tdiv x (4 : Int)))) (List.length roots : Int)) (0 : Int)

theorem pick_ok {roots : List Int} (hr : roots ≠ []) (hl : roots.length < 1000000) (x : Int) : inB (Int.tmod (IntKind.wrap .i64 (IntKind.wrap .u8 (Int.tdiv x (4 : Int)))) (List.length roots : Int)) roots.length = true ∧ pickI roots x ∈ roots := by
  have hp : 0 < roots.length := List.length_pos_iff.2 hr
  have hb : 0 ≤ IntKind.wrap .u8 (Int.tdiv x 4) ∧ IntKind.wrap .u8 (Int.tdiv x 4) < 256 := by rw [IntKind.wrap_u8]; omega
  have hw : IntKind.wrap .i64 (IntKind.wrap .u8 (Int.tdiv x 4)) = IntKind.wrap .u8 (Int.tdiv x 4) := w64 (by omega) (by omega)
  have ht := tmod_b hb.1 (b := (roots.length : Int)) (by omega)
  rw [hw]
  refine ⟨inB_t ht.1 ht.2, ?_⟩
  unfold pickI
  rw [hw]
  exact rd_mem ht.1 ht.2

theorem node_p2 (N : Nat) {roots : List Int} (hr : roots ≠ []) (hl : roots.length < 1000000) (b7 : List V_api_Pair) (b8 : List (List UInt8)) (b9 : List Int) (b10 : List V_api_Sum) (b11 : List V_api_Msg) (b12 : List V_api_Pair) (b13 : List (List UInt8)) (b14 : List Int) (b15 : List V_api_Sum) (b16 : List V_api_Msg) (hk : b14.length < 1000)
    {i : Int} (hi : i = 1 ∨ i = 2 ∨ i = 3) (f : Bool) (x0 x1 x2 x3 : Int) : ∃ ks, ref11_Node_p2 N roots i f x0 x1 x2 x3 b7 b8 b9 b10 b11 b12 b13 b14 b15 b16 =
      some ((roots, ((), ((), ((), i)))), ((x0, (x1, (x2, x3))), (((), ((), ((), ((), ())))), (b7, (b8, (b9, (b10, (b11, (((), ((), ((), ((), ())))), (b12, (b13, (ks, (b15, (b16, ())))))))))))))) ∧ (∀ k ∈ ks, k ∈ b14 ∨ k ∈ roots) ∧ ks.length ≤ b14.length + 1 := by
  have hne : (!(eqi (List.length roots : Int) 0)) = true := by
    have : 0 < roots.length := List.length_pos_iff.2 hr
    rw [eqi_ne (by omega)]; rfl
  unfold ref11_Node_p2
  cases f with
  | false => exact ⟨b14, rfl, fun k hk => .inl hk, by omega⟩
  | true =>
    have key : ∀ x, ∀ k ∈ b14 ++ [pickI roots x], k ∈ b14 ∨ k ∈ roots := fun x k hk => by
      rcases List.mem_append.1 hk with h | h
      · exact .inl h
      · simp only [List.mem_singleton] at h
        subst h; exact .inr (pick_ok hr hl x).2
    rcases hi with rfl | rfl | rfl
    · refine ⟨b14 ++ [pickI roots x1], ?_, key x1, by simp⟩
      rw [bif_t rfl, bif_f (by decide), bif_f (by decide), bif_t (by decide), gd_t hne, gd_t (pick_ok hr hl x1).1, gd_t (fits_p (by omega) (by omega))]
    · refine ⟨b14 ++ [pickI roots x2], ?_, key x2, by simp⟩
      rw [bif_t rfl, bif_f (by decide), bif_t (by decide), gd_t hne, gd_t (pick_ok hr hl x2).1, gd_t (fits_p (by omega) (by omega))]
    · refine ⟨b14 ++ [pickI roots x3], ?_, key x3, by simp⟩
      rw [bif_t rfl, bif_t (by decide), gd_t hne, gd_t (pick_ok hr hl x3).1, gd_t (fits_p (by omega) (by omega))]

theorem node_l0 (N : Nat) {roots : List Int} (hl : roots.length < 1000000) (x0 x1 x2 x3 : Int) (b6 : List V_api_Pair) (b7 : List (List UInt8)) (b8 : List Int) (b9 : List V_api_Sum) (b10 : List V_api_Msg) (b11 : List V_api_Pair) (b12 : List (List UInt8)) (b14 : List V_api_Sum) (b15 : List V_api_Msg) : ∀ (k m : Nat) (i : Int) (b13 : List Int), i + k = 4 → 1 ≤ i → k < m → b13.length + k < 1000 →
    ∃ ks, ref11_Node_l0 N m roots i x0 x1 x2 x3 b6 b7 b8 b9 b10 b11 b12 b13 b14 b15 =
      some (((), ()), (((), ((), ((), ((), ())))), (b6, (b7, (b8, (b9, (b10, (((), ((), ((), ((), ())))), (b11, (b12, (ks, (b14, (b15, ()))))))))))))) ∧ (∀ k ∈ ks, k ∈ b13 ∨ k ∈ roots) ∧ ks.length ≤ b13.length + k
  | _, 0, _, _, _, _, h, _ => absurd h (Nat.not_lt_zero _)
  | 0, m + 1, i, b13, e, _, _, _ => by
    have : i = 4 := by omega
    subst this
    refine ⟨b13, ?_, fun k hk => .inl hk, by omega⟩
    rw [ref11_Node_l0_succ]
    rfl
  | k + 1, m + 1, i, b13, e, h1, hm, hb => by
    rw [ref11_Node_l0_succ]
    simp only [ref11_Node_l0_step]
    rw [bif_t (by simp; omega)]
    by_cases hr : roots = []
    · subst hr
      refine ⟨b13, rfl, fun k hk => .inl hk, by omega⟩
    · have hp : 0 < roots.length := List.length_pos_iff.2 hr
      rw [bif_t (by simp; omega)]
      cases hx : decide ((3 : Int) < Int.tmod x0 8) with
      | false => exact ⟨b13, rfl, fun k hk => .inl hk, by omega⟩
      | true =>
        simp only [cond_true]
        have go : ∀ f : Bool, ∃ ks, (match ref11_Node_p2 N roots i f x0 x1 x2 x3 b6 b7 b8 b9 b10 b11 b12 b13 b14 b15 with
            | some r18 => (match ref11_Node_p1 N r18.1.1 r18.1.2.2.2.2 r18.2.1.1 r18.2.1.2.1 r18.2.1.2.2.1 r18.2.1.2.2.2 r18.2.2.2.1 r18.2.2.2.2.1 r18.2.2.2.2.2.1 r18.2.2.2.2.2.2.1 r18.2.2.2.2.2.2.2.1 r18.2.2.2.2.2.2.2.2.2.1 r18.2.2.2.2.2.2.2.2.2.2.1 r18.2.2.2.2.2.2.2.2.2.2.2.1 r18.2.2.2.2.2.2.2.2.2.2.2.2.1 r18.2.2.2.2.2.2.2.2.2.2.2.2.2.1 with
              | some r19 => (ref11_Node_l0 N m r19.1.1 r19.1.2.2.2.2 r19.2.1.1 r19.2.1.2.1 r19.2.1.2.2.1 r19.2.1.2.2.2 r19.2.2.2.1 r19.2.2.2.2.1 r19.2.2.2.2.2.1 r19.2.2.2.2.2.2.1 r19.2.2.2.2.2.2.2.1 r19.2.2.2.2.2.2.2.2.2.1 r19.2.2.2.2.2.2.2.2.2.2.1 r19.2.2.2.2.2.2.2.2.2.2.2.1 r19.2.2.2.2.2.2.2.2.2.2.2.2.1 r19.2.2.2.2.2.2.2.2.2.2.2.2.2.1)
              | none => none)
            | none => none) = some (((), ()), (((), ((), ((), ((), ())))), (b6, (b7, (b8, (b9, (b10, (((), ((), ((), ((), ())))), (b11, (b12, (ks, (b14, (b15, ()))))))))))))) ∧ (∀ k ∈ ks, k ∈ b13 ∨ k ∈ roots) ∧ ks.length ≤ b13.length + (k + 1) := by
          intro f
          obtain ⟨ks, e1, e2, e3⟩ := node_p2 N hr hl b6 b7 b8 b9 b10 b11 b12 b13 b14 b15 (by omega) (i := i) (by omega) f x0 x1 x2 x3
          rw [e1]
          simp only [ref11_Node_p1]
          rw [w64 (by omega) (by omega)]
          obtain ⟨ks', f1, f2, f3⟩ := node_l0 N hl x0 x1 x2 x3 b6 b7 b8 b9 b10 b11 b12 b14 b15 k m (i + 1) ks (by omega) (by omega) (by omega) (by omega)
          refine ⟨ks', f1, fun j hj => ?_, by omega⟩
          rcases f2 j hj with h | h
          · exact e2 j h
          · exact .inr h
        have hi : i = 1 ∨ i = 2 ∨ i = 3 := by omega
        rcases hi with rfl | rfl | rfl
        · rw [bif_f (by decide), bif_f (by decide), bif_t (by decide)]; exact go _
        · rw [bif_f (by decide), bif_t (by decide)]; exact go _
        · rw [bif_t (by decide)]; exact go _

theorem node_ok {N : Nat} (hN : 2000000 ≤ N) {x : V_ref11_Raw} (h0 : 0 ≤ x.2.1) (h1 : x.2.1 < 256) {roots : List Int} (hl : roots.length < 1000000) : ∃ n : Nd, ref11_Node N x roots = some n ∧ SmallN n ∧ (∀ k ∈ n.2.2.1, k ∈ roots) ∧ n.2.2.1.length ≤ 3 := by
  obtain ⟨x0, x1, x2, x3⟩ := x
  obtain ⟨key, hk⟩ := key_some (N := N) h0 h1
  simp only at hk
  obtain ⟨ks, e1, e2, e3⟩ := node_l0 N hl x0 x1 x2 x3 [] [] [] [] [] [(key, (([] : List UInt8), (0 : Int)))] [] [] [] 3 N 1 [] (by omega) (by omega) (by omega) (by simp)
  simp only [List.length_nil, Nat.zero_add] at e3
  have e2' : ∀ k ∈ ks, k ∈ roots := fun k hk => by
    rcases e2 k hk with h | h
    · cases h
    · exact h
  unfold ref11_Node
  simp only [hk, e1]
  by_cases hp : (0 : Int) < (ks.length : Int)
  · rw [bif_t (by simpa using hp)]
    exact ⟨_, rfl, ⟨by simp, rfl, by show ks.length < 1000; omega, rfl, rfl⟩, e2', e3⟩
  · rw [bif_f (by simpa using hp)]
    exact ⟨_, rfl, ⟨by simp, rfl, by show ks.length < 1000; omega, rfl, rfl⟩, e2', e3⟩

end Ds

/- The fixed examples. -/
namespace Ds
open Go Go.Dv
set_option maxRecDepth 100000

abbrev NN : Nat := 2000000

def insI (x : Int) : List Int → List Int
  | [] => [x]
  | y :: l => bif decide (x ≤ y) then x :: y :: l else y :: insI x l
def isort : List Int → List Int
  | [] => []
  | x :: l => insI x (isort l)

theorem insI_perm (x : Int) : ∀ l, (insI x l).Perm (x :: l)
  | [] => List.Perm.refl _
  | y :: l => by
    simp only [insI]
    cases decide (x ≤ y)
    · exact ((insI_perm x l).cons y).trans (List.Perm.swap x y l)
    · exact List.Perm.refl _
theorem isort_perm : ∀ l, (isort l).Perm l
  | [] => List.Perm.refl _
  | x :: l => (insI_perm x (isort l)).trans ((isort_perm l).cons x)
theorem insI_sorted (x : Int) : ∀ l : List Int, l.Pairwise (· ≤ ·) → (insI x l).Pairwise (· ≤ ·)
  | [], _ => by simp [insI]
  | y :: l, h => by
    obtain ⟨h1, h2⟩ := List.pairwise_cons.1 h
    simp only [insI]
    cases e : decide (x ≤ y)
    · have e : ¬ x ≤ y := by simpa using e
      refine List.pairwise_cons.2 ⟨fun z hz => ?_, insI_sorted x l h2⟩
      rcases List.mem_cons.1 ((insI_perm x l).mem_iff.1 hz) with rfl | hz
      · omega
      · exact h1 z hz
    · have e : x ≤ y := by simpa using e
      refine List.pairwise_cons.2 ⟨fun z hz => ?_, h⟩
      rcases List.mem_cons.1 hz with rfl | hz
      · exact e
      · have := h1 z hz; omega
theorem isort_sorted : ∀ l : List Int, (isort l).Pairwise (· ≤ ·)
  | [] => List.Pairwise.nil
  | x :: l => insI_sorted x _ (isort_sorted l)

theorem sort_isort (l : List Int) : sortI l = isort l := by
  refine List.Perm.eq_of_pairwise (le := (· ≤ ·)) (fun a b _ _ h1 h2 => by omega) ?_ (isort_sorted l) ((List.mergeSort_perm l _).trans (isort_perm l).symm)
  have := List.pairwise_mergeSort (le := fun x y : Int => decide (x ≤ y)) (fun a b c x y => by simp only [decide_eq_true_eq] at x y ⊢; omega) (fun a b => by simp only [Bool.or_eq_true, decide_eq_true_eq]; omega) l
  exact this.imp (fun h => by simpa using h)

def reachK (N : Nat) (a0 : (List V_api_Slot)) (a1 : (List Int)) : Option ((List Int)) :=
  match pool_visit_m__pool_Reach_c1 N a0 a1 ([] : List Int) with
  | some r1 => (match gd (Nat.blt (List.length r1.2.2.1) 4611686018427387904) (some (isort r1.2.2.1)) with
  | some r2 => (some r2)
  | none => none)
  | none => none

theorem reachK_eq : pool_Reach = reachK := by
  funext N a b
  unfold pool_Reach reachK slices_Sort_s_int_int_m
  cases pool_visit_m__pool_Reach_c1 N a b ([] : List Int) with
  | none => rfl
  | some r1 =>
    simp only [sort_isort]
    cases Nat.blt (List.length r1.2.2.1) 4611686018427387904 <;> rfl

theorem sanity_ok : law11_sanity NN = some true := by
  unfold law11_sanity law11_sanity_p0
  rw [reachK_eq]
  decide +kernel

end Ds

/- Scripts: each step keeps the balance. -/
namespace Ds
open Go Go.Dv
set_option maxRecDepth 100000
set_option linter.unusedVariables false

structure HInv (p : List Sl) (R : List Int) (m : Nat) : Prop where
  bal : Bal p R
  pl : p.length ≤ m
  rl : R.length ≤ m
  small : ∀ s ∈ p, SmallN (nodeS s)
  kk : ∀ s ∈ p, (kidsS s).length ≤ 3

theorem ak_le : ∀ (p : List Sl) (c : Nat), (∀ s ∈ p, (kidsS s).length ≤ c) → (allKids p).length ≤ c * p.length
  | [], _, _ => Nat.zero_le _
  | s :: p, c, h => by
    have ih := ak_le p c (fun s hs => h s (by simp [hs]))
    have h1 := h s (by simp)
    have hk : (kidsU s).length ≤ c := by
      unfold kidsU
      split
      · exact h1
      · simp
    have e : allKids (s :: p) = kidsU s ++ allKids p := by simp [allKids]
    rw [e, List.length_append, List.length_cons, Nat.mul_add]
    omega

theorem HInv.ak {p : List Sl} {R : List Int} {m : Nat} (h : HInv p R m) : (allKids p).length ≤ 3 * m :=
  Nat.le_trans (ak_le p 3 h.kk) (Nat.mul_le_mul_left 3 h.pl)

theorem smallD0 : SmallN (nodeS D0) := ⟨by decide, rfl, by decide, rfl, rfl⟩

theorem small_shr {p q : List Sl} {L : List Int} (hs : ∀ s ∈ p, SmallN (nodeS s)) (hk : ∀ s ∈ p, (kidsS s).length ≤ 3) (h : Shr p q) (hq : Bal q L) : (∀ s ∈ q, SmallN (nodeS s)) ∧ ∀ s ∈ q, (kidsS s).length ≤ 3 := by
  have key : ∀ s ∈ q, nodeS s = nodeS D0 ∨ ∃ t ∈ p, nodeS s = nodeS t := by
    intro s hsq
    obtain ⟨i, h0, h1, h2⟩ := mem_rd D0 hsq
    have h2 : slA q i = s := h2
    by_cases hu : usedB q i = true
    · obtain ⟨a, b⟩ := h.node i hu
      refine .inr ⟨slA p i, rd_mem (used_nn a) (used_lt a), ?_⟩
      rw [← h2]; exact b
    · have := not_used_zero hq h0 h1 hu
      rw [h2] at this
      exact .inl (by rw [this])
  refine ⟨fun s hsq => ?_, fun s hsq => ?_⟩
  · rcases key s hsq with e | ⟨t, ht, e⟩
    · rw [e]; exact smallD0
    · rw [e]; exact hs t ht
  · rw [kids_node]
    rcases key s hsq with e | ⟨t, ht, e⟩
    · rw [e]; decide
    · rw [e]; exact hk t ht

theorem HInv.drop {p q : List Sl} {R R' : List Int} {m : Nat} (h : HInv p R m) (hq : Bal q R') (hs : Shr p q) (hl : R'.length ≤ m) : HInv q R' m := by
  obtain ⟨a, b⟩ := small_shr h.small h.kk hs hq
  exact ⟨hq, by rw [hs.len]; exact h.pl, hl, a, b⟩

theorem HInv.mono {p : List Sl} {R : List Int} {m m' : Nat} (h : HInv p R m) (hm : m ≤ m') : HInv p R m' := ⟨h.bal, Nat.le_trans h.pl hm, Nat.le_trans h.rl hm, h.small, h.kk⟩

theorem count_take_drop (R : List Int) (k : Nat) (h : k < R.length) (i : Int) : (R.take k ++ R.drop (k + 1)).count i + (if i = R[k] then 1 else 0) = R.count i := by
  have e : R = R.take k ++ R[k] :: R.drop (k + 1) := by rw [List.getElem_cons_drop h, List.take_append_drop]
  conv => rhs; rw [e]
  rw [List.count_append, List.count_append, List.count_cons]
  by_cases hi : i = R[k]
  · simp [hi]; omega
  · have hi' : ¬ R[k] = i := fun e => hi e.symm
    simp [hi, hi']

theorem bal_out {p : List Sl} {R : List Int} (h : Bal p R) {k : Nat} (hk : k < R.length) : Bal p (R[k] :: (R.take k ++ R.drop (k + 1))) := by
  refine h.congr fun i => ?_
  have := count_take_drop R k hk i
  rw [List.count_cons]
  by_cases e : i = R[k]
  · subst e; simp at this ⊢; omega
  · have e' : ¬ R[k] = i := fun h => e h.symm
    simp [e, e'] at this ⊢; omega

theorem add_small {p : List Sl} {n : Nd} {R : List Int} {m : Nat} (h : HInv p R m) (hm : m ≤ 100) (hu : n.2.2.1.all (usedB p) = true) (hn : SmallN n) (hk3 : n.2.2.1.length ≤ 3) : HInv (addP p n) (R ++ [(newId p : Int)]) (m + 1) ∧ addF p n = (addP p n, ((newId p : Int), 0)) := by
  have hak := h.ak
  have hpl := h.pl
  have hrl := h.rl
  obtain ⟨a, b⟩ := add_bal h.bal hu (by omega)
  have hrefs : ∀ i : Int, 0 ≤ i → 0 ≤ refsS (slA p i) ∧ refsS (slA p i) + (n.2.2.1.length : Int) < 500000000 := by
    intro i hi
    by_cases hui : usedB p i = true
    · rw [h.bal.refs i hui]
      have l1 := List.count_le_length (a := i) (l := R)
      have l2 := List.count_le_length (a := i) (l := allKids p)
      omega
    · have hz : refsS D0 = 0 := rfl
      by_cases hi1 : i < (p.length : Int)
      · rw [not_used_zero h.bal hi hi1 hui]; omega
      · rw [slA_out hi (by omega)]; omega
  obtain ⟨hl, hat⟩ := addP_at hu hrefs
  have hlen := ext_len p
  have hid := newId_le p
  have key : ∀ s ∈ addP p n, nodeS s = n ∨ nodeS s = nodeS D0 ∨ ∃ t ∈ p, nodeS s = nodeS t := by
    intro s hs
    obtain ⟨i, h0, h1, h2⟩ := mem_rd D0 hs
    have h2 : slA (addP p n) i = s := h2
    rw [hat i h0] at h2
    by_cases e : i = (newId p : Int)
    · rw [if_pos e] at h2; subst h2; exact .inl rfl
    · rw [if_neg e] at h2
      subst h2
      by_cases hi1 : i < (p.length : Int)
      · exact .inr (.inr ⟨slA p i, rd_mem h0 hi1, rfl⟩)
      · refine .inr (.inl ?_)
        rw [slA_out h0 (by omega)]; rfl
  refine ⟨⟨a, by rw [hl]; omega, by simp; omega, fun s hs => ?_, fun s hs => ?_⟩, ?_⟩
  · rcases key s hs with e | e | ⟨t, ht, e⟩
    · rw [e]; exact hn
    · rw [e]; exact smallD0
    · rw [e]; exact h.small t ht
  · rw [kids_node]
    rcases key s hs with e | e | ⟨t, ht, e⟩
    · rw [e]; exact hk3
    · rw [e]; decide
    · rw [e]; exact h.kk t ht
  · unfold addF
    rw [if_pos hu, if_neg (by omega)]

theorem hold_small {p : List Sl} {R : List Int} {m : Nat} {id : Int} (h : HInv p R m) (hm : m ≤ 100) (hu : usedB p id = true) : HInv (holdP p id) (R ++ [id]) (m + 1) := by
  have hak := h.ak
  have hpl := h.pl
  have hrl := h.rl
  obtain ⟨a, b, c, d⟩ := hold_bal h.bal hu (by omega)
  have ha : Bal (holdP p id) (R ++ [id]) := a.congr fun i => by simp only [List.count_append, List.count_cons, List.count_nil]; omega
  obtain ⟨s1, s2⟩ := small_shr h.small h.kk b ha
  exact ⟨ha, by rw [b.len]; omega, by simp; omega, s1, s2⟩

/-! ## steps -/
abbrev rootK (R : List Int) (x : V_ref11_Raw) : Int := Int.tmod (IntKind.wrap .i64 x.2.1) (List.length R : Int)

theorem rootK_ok {R : List Int} (hr : R ≠ []) {x : V_ref11_Raw} (h0 : 0 ≤ x.2.1) (h1 : x.2.1 < 256) : 0 ≤ rootK R x ∧ rootK R x < (R.length : Int) := by
  have hp : 0 < R.length := List.length_pos_iff.2 hr
  unfold rootK
  rw [w64 (by omega) (by omega)]
  exact tmod_b h0 (by omega)

def isAdd (R : List Int) (x : V_ref11_Raw) : Prop := Int.tmod x.1 8 < 5 ∨ R = []

theorem step_ok {p : List Sl} {R : List Int} {m : Nat} (h : HInv p R m) (hm : m ≤ 100) {x : V_ref11_Raw} (h0 : 0 ≤ x.2.1) (h1 : x.2.1 < 256) :
    ∃ p' R', ref11_Step NN (p, R) x = some (p', R') ∧ HInv p' R' (m + 1) ∧
      ((isAdd R x ∧ ∃ n, ref11_Node NN x R = some n ∧ n.2.2.1.length ≤ 3 ∧ addF p n = (p', ((newId p : Int), 0)) ∧ R' = R ++ [(newId p : Int)]) ∨
       (¬ isAdd R x ∧ Int.tmod x.1 8 = 5 ∧ usedB p (rdL R (rootK R x) 0) = true ∧ p' = holdP p (rdL R (rootK R x) 0)) ∨
       (¬ isAdd R x ∧ Int.tmod x.1 8 ≠ 5 ∧ Bal p (rdL R (rootK R x) 0 :: R') ∧ Shr p p')) := by
  have hak := h.ak
  have hpl := h.pl
  have hrl := h.rl
  have addcase : ∃ n, ref11_Node NN x R = some n ∧ n.2.2.1.length ≤ 3 ∧ HInv (addP p n) (R ++ [(newId p : Int)]) (m + 1) ∧ ref11_Add NN p n = some (addP p n, ((newId p : Int), 0)) ∧ addF p n = (addP p n, ((newId p : Int), 0)) := by
    obtain ⟨n, n1, n2, n3, n4⟩ := node_ok (N := NN) (by decide) h0 h1 (roots := R) (by omega)
    obtain ⟨a, b⟩ := add_small h hm (all_used_iff.2 fun k hk => h.bal.mem k (n3 k hk)) n2 n4
    exact ⟨n, n1, n4, a, by rw [ref_Add_eq (by decide) (by omega) (by omega), b], b⟩
  unfold ref11_Step
  simp only
  by_cases hx : Int.tmod x.1 8 < 5
  · obtain ⟨n, n1, n2, n3, n4, n5⟩ := addcase
    refine ⟨addP p n, R ++ [(newId p : Int)], ?_, n3, .inl ⟨.inl hx, n, n1, n2, n5, rfl⟩⟩
    rw [bif_t (by simpa using hx), n1]
    simp only [n4]
    rw [gd_t (fits_p (by omega) (by omega)), gd_t (fits_p (by simp; omega) (by omega))]
    simp
  · rw [bif_f (by simpa using hx)]
    by_cases hr : R = []
    · obtain ⟨n, n1, n2, n3, n4, n5⟩ := addcase
      refine ⟨addP p n, R ++ [(newId p : Int)], ?_, n3, .inl ⟨.inr hr, n, n1, n2, n5, rfl⟩⟩
      rw [bif_t (by rw [hr]; rfl), n1]
      simp only [n4]
      rw [gd_t (fits_p (by omega) (by omega)), gd_t (fits_p (by simp; omega) (by omega))]
      simp
    · have hp : 0 < R.length := List.length_pos_iff.2 hr
      have hna : ¬ isAdd R x := fun hh => by rcases hh with hh | hh; exact hx hh; exact hr hh
      obtain ⟨k0, k1⟩ := rootK_ok hr h0 h1
      have hmem : rdL R (rootK R x) 0 ∈ R := rd_mem k0 k1
      have hu := h.bal.mem _ hmem
      rw [bif_f (eqi_ne (by omega))]
      unfold ref11_Step_p0
      rw [gd_t (by rw [eqi_ne (by omega)]; rfl)]
      have hrk : Int.tmod (IntKind.wrap .i64 x.2.1) (List.length R : Int) = rootK R x := rfl
      simp only [hrk]
      rw [gd_t (inB_t k0 k1)]
      by_cases h5 : Int.tmod x.1 8 = 5
      · refine ⟨holdP p (rdL R (rootK R x) 0), R ++ [rdL R (rootK R x) 0], ?_, hold_small h hm hu, .inr (.inl ⟨hna, h5, hu, rfl⟩)⟩
        rw [bif_t (eqi_iff.2 h5), ref_Hold_eq (by omega), if_pos hu]
        simp only
        rw [gd_t (fits_p (by omega) (by omega)), gd_t (fits_p (by simp; omega) (by omega))]
        simp
      · have hkn : (rootK R x).toNat < R.length := by omega
        have hrd : rdL R (rootK R x) 0 = R[(rootK R x).toNat] := by simp [rdL, hkn]
        have hb := bal_out h.bal hkn
        rw [← hrd] at hb
        obtain ⟨q, q1, q2, q3⟩ := ref_Drop_ok (N := NN) (by decide) hb (by omega) (by rw [List.length_append, List.length_take, List.length_drop]; omega)
        refine ⟨q, R.take (rootK R x).toNat ++ R.drop ((rootK R x).toNat + 1), ?_, (h.drop q2 q3 (by rw [List.length_append, List.length_take, List.length_drop]; omega)).mono (by omega), .inr (.inr ⟨hna, h5, hb, q3⟩)⟩
        rw [bif_f (eqi_ne h5), q1]
        simp only
        have c1 : cut2 R 0 (rootK R x) = R.take (rootK R x).toNat := by simp [cut2]
        have w1 : IntKind.wrap .i64 (rootK R x + 1) = rootK R x + 1 := w64 (by omega) (by omega)
        have c2 : cut2 R (rootK R x + 1) (List.length R : Int) = R.drop ((rootK R x).toNat + 1) := by
          have : (rootK R x + 1).toNat = (rootK R x).toNat + 1 := by omega
          simp only [cut2, this, Int.toNat_natCast]
          exact List.take_of_length_le (by simp)
        rw [w1, c1, c2]
        rw [gd_t (by simp; omega), gd_t (fits_p (by rw [List.length_take]; omega) (by omega)), gd_t (by simp; omega), gd_t (fits_p (by simp; omega) (by omega))]
        simp

theorem bytes_raw {x : V_ref11_Raw} (h : okT T_ref11_Raw x) : 0 ≤ x.2.1 ∧ x.2.1 < 256 := u8_of_wf h.2.1

theorem play_l (l : List V_ref11_Raw) (hl : ∀ x ∈ l, okT T_ref11_Raw x) (b3 : List Sl) (b4 : List Int) : ∀ (k n i : Nat) (p : List Sl) (R : List Int), i + k = 16 → k < n → HInv p R i →
    ∃ p' R', ref11_Play_l0 NN n l 16 (i : Int) b3 b4 p R = some (((), ()), (((), ()), (b3, (b4, ((p', R'), ()))))) ∧ HInv p' R' 16
  | _, 0, _, _, _, _, h, _ => absurd h (Nat.not_lt_zero _)
  | 0, n + 1, i, p, R, e, _, h => by
    have : i = 16 := by omega
    subst this
    refine ⟨p, R, ?_, h⟩
    rw [ref11_Play_l0_succ]
    simp only [ref11_Play_l0_step]
    by_cases hlt : ((16 : Nat) : Int) < (l.length : Int)
    · rw [bif_t (by simpa using hlt)]; rfl
    · rw [bif_f (by simpa using hlt)]
  | k + 1, n + 1, i, p, R, e, hn, h => by
    rw [ref11_Play_l0_succ]
    simp only [ref11_Play_l0_step]
    by_cases hlt : (i : Int) < (l.length : Int)
    · rw [bif_t (by simpa using hlt), bif_t (by simp; omega), gd_t (inB_t (by omega) hlt)]
      have hx := bytes_raw (hl (rdL l (i : Int) D_ref11_Raw) (rd_mem (by omega) hlt))
      obtain ⟨p', R', e1, e2, _⟩ := step_ok h (by omega) hx.1 hx.2
      rw [e1]
      simp only
      rw [w64 (by omega) (by omega)]
      obtain ⟨p'', R'', f1, f2⟩ := play_l l hl b3 b4 k n (i + 1) p' R' (by omega) (by omega) e2
      have ei : ((i + 1 : Nat) : Int) = (i : Int) + 1 := by omega
      rw [ei] at f1
      exact ⟨p'', R'', f1, f2⟩
    · refine ⟨p, R, ?_, h.mono (by omega)⟩
      rw [bif_f (by simpa using hlt)]

theorem hinv0 : HInv [] [] 0 := by
  refine ⟨⟨fun s hs => (by cases hs), fun s hs => (by cases hs), fun i hi => ?_, fun k hk => (by cases hk), fun k hk => (by simp [allKids] at hk), fun i hi => ?_, ⟨fun _ => 0, fun i hi => ?_⟩⟩, Nat.le_refl _, Nat.le_refl _, fun s hs => (by cases hs), fun s hs => (by cases hs)⟩
  all_goals
    obtain ⟨h0, h1, _⟩ := usedB_iff.1 hi
    simp at h1; omega

theorem mem_getq {α : Type} {l : List α} {x : α} (h : x ∈ l) : ∃ i, getq l i = some x := by
  obtain ⟨i, hi, rfl⟩ := List.mem_iff_getElem.1 h
  exact ⟨i, by simp [getq, hi]⟩

theorem raws_ok {l : List V_ref11_Raw} (h : okT (.list T_ref11_Raw) l) : ∀ x ∈ l, okT T_ref11_Raw x := fun x hx => by
  obtain ⟨i, hi⟩ := mem_getq hx
  exact h.2 i x hi

theorem play_ok {l : List V_ref11_Raw} (h : okT (.list T_ref11_Raw) l) : ∃ p R, ref11_Play NN l 16 = some (p, R) ∧ HInv p R 16 := by
  obtain ⟨p, R, e1, e2⟩ := play_l l (raws_ok h) [] [] 16 NN 0 [] [] (by omega) (by decide) hinv0
  refine ⟨p, R, ?_, e2⟩
  unfold ref11_Play
  have e1' : ref11_Play_l0 NN NN l (16 : Int) (0 : Int) ([] : List V_api_Slot) ([] : List Int) ([] : List V_api_Slot) ([] : List Int) = _ := e1
  rw [e1']

end Ds
