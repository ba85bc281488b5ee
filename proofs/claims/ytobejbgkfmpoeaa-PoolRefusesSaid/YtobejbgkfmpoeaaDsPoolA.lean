/- Pools: slots, counts, balance; what dropping leaves is one pool alone. -/
import Derived.Test.YtobejbgkfmpoeaaDsPure
import Derived.Test.YtobejbgkfmpoeaaDvD
set_option linter.all false
namespace Ds
open Go Go.Dv
set_option maxRecDepth 100000
set_option linter.unusedVariables false

abbrev Sl : Type := V_api_Slot
abbrev Nd : Type := V_api_Node
abbrev D0 : Sl := D_api_Slot

def kidsS (s : Sl) : List Int := s.2.2.2.2.2.1
def refsS (s : Sl) : Int := s.2.2.1
def nodeS (s : Sl) : Nd := s.2.2.2
def slA (p : List Sl) (i : Int) : Sl := rdL p i D0
def usedB (p : List Sl) (i : Int) : Bool := decide (0 ≤ i) && (decide (i < (p.length : Int)) && (slA p i).1)
def kidsU (s : Sl) : List Int := if s.1 = true then kidsS s else []
def allKids (p : List Sl) : List Int := p.flatMap kidsU

theorem usedB_iff {p : List Sl} {i : Int} : usedB p i = true ↔ 0 ≤ i ∧ i < (p.length : Int) ∧ (slA p i).1 = true := by
  simp [usedB]

theorem rd_set_same {α : Type} {p : List α} {i : Int} {y d : α} (h0 : 0 ≤ i) (h1 : i < (p.length : Int)) : rdL (setL p i y) i d = y := by
  have : i.toNat < p.length := by omega
  simp [rdL, setL, this]
theorem rd_set_other {α : Type} {p : List α} {i j : Int} {y d : α} (h0 : 0 ≤ i) (h1 : 0 ≤ j) (h : j ≠ i) : rdL (setL p i y) j d = rdL p j d := by
  have : i.toNat ≠ j.toNat := by omega
  simp [rdL, setL, List.getElem?_set, this]
@[simp] theorem len_setL {α : Type} (p : List α) (i : Int) (y : α) : (setL p i y).length = p.length := by simp [setL]

theorem rd_mem {α : Type} {p : List α} {i : Int} {d : α} (h0 : 0 ≤ i) (h1 : i < (p.length : Int)) : rdL p i d ∈ p := by
  have : i.toNat < p.length := by omega
  simp [rdL, this]

theorem mem_rd {α : Type} {p : List α} {x : α} (d : α) (h : x ∈ p) : ∃ i : Int, 0 ≤ i ∧ i < (p.length : Int) ∧ rdL p i d = x := by
  obtain ⟨n, hn, rfl⟩ := List.mem_iff_getElem.1 h
  exact ⟨(n : Int), by omega, by omega, by simp [rdL, hn]⟩

theorem rd_ext {α : Type} {p q : List α} (d : α) (hl : p.length = q.length) (h : ∀ i : Int, 0 ≤ i → i < (p.length : Int) → rdL p i d = rdL q i d) : p = q := by
  apply List.ext_getElem hl
  intro n h1 h2
  have := h (n : Int) (by omega) (by omega)
  simpa [rdL, h1, h2] using this

/-- counts of kids where one slot is another one -/
theorem cnt_set (j : Int) : ∀ (p : List Sl) (n : Nat) (y : Sl) (h : n < p.length), (allKids (p.set n y)).count j + (kidsU p[n]).count j = (allKids p).count j + (kidsU y).count j
  | [], _, _, h => absurd h (Nat.not_lt_zero _)
  | s :: p, 0, y, _ => by simp only [allKids, List.set_cons_zero, List.flatMap_cons, List.count_append, List.getElem_cons_zero]; omega
  | s :: p, n + 1, y, h => by
    have ih := cnt_set j p n y (by simpa using h)
    simp only [allKids, List.set_cons_succ, List.flatMap_cons, List.count_append, List.getElem_cons_succ] at ih ⊢
    omega

theorem slA_get {p : List Sl} {i : Int} (h1 : i.toNat < p.length) : slA p i = p[i.toNat] := by simp [slA, rdL, h1]

theorem cnt_setL (p : List Sl) (i : Int) (y : Sl) (j : Int) (h0 : 0 ≤ i) (h1 : i < (p.length : Int)) : (allKids (setL p i y)).count j + (kidsU (slA p i)).count j = (allKids p).count j + (kidsU y).count j := by
  have h : i.toNat < p.length := by omega
  rw [slA_get h]
  exact cnt_set j p i.toNat y h

theorem kid_mem {p : List Sl} {i k : Int} (hu : usedB p i = true) (hk : k ∈ kidsS (slA p i)) : k ∈ allKids p := by
  obtain ⟨h0, h1, h2⟩ := usedB_iff.1 hu
  refine List.mem_flatMap.2 ⟨slA p i, rd_mem h0 h1, ?_⟩
  rw [kidsU, if_pos h2]; exact hk

theorem kid_of {p : List Sl} {k : Int} (h : k ∈ allKids p) : ∃ i, usedB p i = true ∧ k ∈ kidsS (slA p i) := by
  obtain ⟨s, hs, hk⟩ := List.mem_flatMap.1 h
  obtain ⟨i, h0, h1, h2⟩ := mem_rd D0 hs
  unfold kidsU at hk
  split at hk
  · rename_i hu
    exact ⟨i, usedB_iff.2 ⟨h0, h1, by rw [show slA p i = s from h2]; exact hu⟩, by rw [show slA p i = s from h2]; exact hk⟩
  · cases hk

/-- a pool whose counts are right for a list of roots -/
structure Bal (p : List Sl) (L : List Int) : Prop where
  z : ∀ s ∈ p, s.1 = false → s = D0
  lost : ∀ s ∈ p, s.2.1 = false
  refs : ∀ i, usedB p i = true → refsS (slA p i) = ((L.count i + (allKids p).count i : Nat) : Int)
  mem : ∀ k ∈ L, usedB p k = true
  kid : ∀ k ∈ allKids p, usedB p k = true
  pos : ∀ i, usedB p i = true → 0 < L.count i + (allKids p).count i
  rank : ∃ r : Int → Nat, ∀ i, usedB p i = true → ∀ k ∈ kidsS (slA p i), r k < r i

theorem Bal.congr {p : List Sl} {L L' : List Int} (h : Bal p L) (hc : ∀ i, L'.count i = L.count i) : Bal p L' := by
  refine ⟨h.z, h.lost, fun i hi => by rw [hc]; exact h.refs i hi, fun k hk => ?_, h.kid, fun i hi => by rw [hc]; exact h.pos i hi, h.rank⟩
  apply h.mem
  rw [← List.count_pos_iff, ← hc, List.count_pos_iff]; exact hk

/-- what is there is as it was, but for the counts -/
structure Shr (p q : List Sl) : Prop where
  len : q.length = p.length
  node : ∀ i, usedB q i = true → usedB p i = true ∧ nodeS (slA q i) = nodeS (slA p i)

theorem Shr.refl (p : List Sl) : Shr p p := ⟨rfl, fun i h => ⟨h, rfl⟩⟩
theorem Shr.trans {p q r : List Sl} (h : Shr p q) (k : Shr q r) : Shr p r :=
  ⟨k.len.trans h.len, fun i hi => ⟨(h.node i (k.node i hi).1).1, (k.node i hi).2.trans (h.node i (k.node i hi).1).2⟩⟩

theorem kids_node (s : Sl) : kidsS s = (nodeS s).2.2.1 := rfl

/-- one more than all ranks -/
theorem rank_bound (p : List Sl) (r : Int → Nat) : ∃ B, ∀ i, usedB p i = true → r i < B := by
  have : ∀ n : Nat, ∃ B, ∀ i : Int, 0 ≤ i → i < (n : Int) → r i < B := by
    intro n
    induction n with
    | zero => exact ⟨0, fun i h0 h1 => by omega⟩
    | succ n ih =>
      obtain ⟨B, hB⟩ := ih
      refine ⟨B + r n + 1, fun i h0 h1 => ?_⟩
      by_cases e : i = (n : Int)
      · subst e; omega
      · have := hB i h0 (by omega); omega
  obtain ⟨B, hB⟩ := this p.length
  exact ⟨B, fun i hi => by obtain ⟨h0, h1, _⟩ := usedB_iff.1 hi; exact hB i h0 h1⟩

/-- whoever is there is there for a root: along the parents -/
theorem up_ind {p : List Sl} {L : List Int} (h : Bal p L) (Q : Int → Prop) (hr : ∀ k ∈ L, Q k) (hk : ∀ i k, usedB p i = true → Q i → k ∈ kidsS (slA p i) → Q k) : ∀ i, usedB p i = true → Q i := by
  obtain ⟨r, hrk⟩ := h.rank
  obtain ⟨B, hB⟩ := rank_bound p r
  have : ∀ n i, usedB p i = true → B - r i ≤ n → Q i := by
    intro n
    induction n with
    | zero => intro i hi hn; have := hB i hi; omega
    | succ n ih =>
      intro i hi hn
      have hp := h.pos i hi
      by_cases hc : 0 < L.count i
      · exact hr i (List.count_pos_iff.1 hc)
      · have : 0 < (allKids p).count i := by omega
        obtain ⟨j, hj, hkj⟩ := kid_of (List.count_pos_iff.1 this)
        have := hrk j hj i hkj
        exact hk j i hj (ih j hj (by omega)) hkj
  exact fun i hi => this _ i hi (Nat.le_refl _)

theorem used_le {p q q' : List Sl} {R : List Int} (hq : Bal q R) (hq' : Bal q' R) (s : Shr p q) (s' : Shr p q') : ∀ i, usedB q i = true → usedB q' i = true := by
  refine up_ind hq (fun i => usedB q' i = true) hq'.mem fun i k hi hi' hk => ?_
  refine hq'.kid k (kid_mem hi' ?_)
  rw [kids_node, (s'.node i hi').2, ← (s.node i hi).2, ← kids_node]
  exact hk

theorem not_used_zero {p : List Sl} {L : List Int} (h : Bal p L) {i : Int} (h0 : 0 ≤ i) (h1 : i < (p.length : Int)) (hu : ¬ usedB p i = true) : slA p i = D0 := by
  refine h.z _ (rd_mem h0 h1) ?_
  cases e : (slA p i).1 with
  | false => rfl
  | true => exact absurd (usedB_iff.2 ⟨h0, h1, e⟩) hu

theorem bal_unique {p q q' : List Sl} {R : List Int} (hq : Bal q R) (hq' : Bal q' R) (s : Shr p q) (s' : Shr p q') : q = q' := by
  have hl : q.length = q'.length := s.len.trans s'.len.symm
  have hu : ∀ i, usedB q i = true ↔ usedB q' i = true := fun i => ⟨used_le hq hq' s s' i, used_le hq' hq s' s i⟩
  have hkd : ∀ i : Int, 0 ≤ i → i < (q.length : Int) → kidsU (slA q i) = kidsU (slA q' i) := by
    intro i h0 h1
    by_cases h : usedB q i = true
    · have h' := (hu i).1 h
      rw [kidsU, if_pos (usedB_iff.1 h).2.2, kidsU, if_pos (usedB_iff.1 h').2.2, kids_node, kids_node, (s.node i h).2, (s'.node i h').2]
    · rw [not_used_zero hq h0 h1 h, not_used_zero hq' h0 (by omega) (fun e => h ((hu i).2 e))]
  have hak : allKids q = allKids q' := by
    have : q.map kidsU = q'.map kidsU := by
      apply List.ext_getElem (by simpa using hl)
      intro n h1 h2
      simp only [List.length_map] at h1 h2
      have := hkd (n : Int) (by omega) (by omega)
      rw [slA_get (by simpa using h1), slA_get (by simpa using h2)] at this
      simpa using this
    unfold allKids
    rw [List.flatMap_def, List.flatMap_def, this]
  refine rd_ext D0 hl fun i h0 h1 => ?_
  show slA q i = slA q' i
  by_cases h : usedB q i = true
  · have h' := (hu i).1 h
    have a1 := (usedB_iff.1 h).2.2
    have b1 := (usedB_iff.1 h').2.2
    have a2 := hq.lost _ (rd_mem (d := D0) h0 h1)
    have b2 := hq'.lost _ (rd_mem (d := D0) h0 (by omega))
    have a3 := hq.refs i h
    have b3 := hq'.refs i h'
    rw [← hak] at b3
    have a4 : nodeS (slA q i) = nodeS (slA q' i) := (s.node i h).2.trans (s'.node i h').2.symm
    have : ∀ x y : Sl, x.1 = true → y.1 = true → x.2.1 = false → y.2.1 = false → refsS x = refsS y → nodeS x = nodeS y → x = y := by
      rintro ⟨x1, x2, x3, x4⟩ ⟨y1, y2, y3, y4⟩ e1 e2 e3 e4 e5 e6
      simp only [refsS, nodeS] at e1 e2 e3 e4 e5 e6
      subst e1; subst e2; subst e3; subst e4; subst e5; subst e6; rfl
    exact this _ _ a1 b1 a2 b2 (a3.trans b3.symm) a4
  · rw [not_used_zero hq h0 h1 h, not_used_zero hq' h0 (by omega) (fun e => h ((hu i).2 e))]

theorem slA_set_same {p : List Sl} {i : Int} {y : Sl} (h0 : 0 ≤ i) (h1 : i < (p.length : Int)) : slA (setL p i y) i = y := rd_set_same h0 h1
theorem slA_set_other {p : List Sl} {i j : Int} {y : Sl} (h0 : 0 ≤ i) (h1 : 0 ≤ j) (h : j ≠ i) : slA (setL p i y) j = slA p j := rd_set_other h0 h1 h

theorem used_set {p : List Sl} {i j : Int} {y : Sl} (h0 : 0 ≤ i) (h1 : i < (p.length : Int)) : usedB (setL p i y) j = if j = i then y.1 else usedB p j := by
  by_cases e : j = i
  · subst e
    rw [if_pos rfl, usedB, slA_set_same h0 h1, len_setL]
    simp [h0, h1]
  · rw [if_neg e]
    by_cases hj : 0 ≤ j
    · rw [usedB, usedB, slA_set_other h0 hj e, len_setL]
    · simp [usedB, hj]

theorem mem_setL {p : List Sl} {i : Int} {y s : Sl} (h : s ∈ setL p i y) : s ∈ p ∨ s = y := List.mem_or_eq_of_mem_set h

/-- a slot with another count -/
def withRefs (s : Sl) (n : Int) : Sl := (s.1, (s.2.1, (n, s.2.2.2)))

theorem bal_refs {p : List Sl} {L L' : List Int} {k : Int} {n : Int} (h : Bal p L) (hk : usedB p k = true)
    (hc : ∀ i, i ≠ k → L'.count i = L.count i) (hn : n = ((L'.count k + (allKids p).count k : Nat) : Int)) (hp : 0 < L'.count k + (allKids p).count k) :
    Bal (setL p k (withRefs (slA p k) n)) L' ∧ Shr p (setL p k (withRefs (slA p k) n)) := by
  obtain ⟨h0, h1, h2⟩ := usedB_iff.1 hk
  have hu : ∀ j, usedB (setL p k (withRefs (slA p k) n)) j = usedB p j := by
    intro j
    rw [used_set h0 h1]
    by_cases e : j = k
    · subst e; rw [if_pos rfl, hk]; exact h2
    · rw [if_neg e]
  have hcn : ∀ j, (allKids (setL p k (withRefs (slA p k) n))).count j = (allKids p).count j := by
    intro j
    have := cnt_setL p k (withRefs (slA p k) n) j h0 h1
    have e : kidsU (withRefs (slA p k) n) = kidsU (slA p k) := rfl
    rw [e] at this; omega
  have hmk : ∀ j, j ∈ allKids (setL p k (withRefs (slA p k) n)) ↔ j ∈ allKids p := fun j => by rw [← List.count_pos_iff, hcn, List.count_pos_iff]
  have hkd : ∀ j, 0 ≤ j → kidsS (slA (setL p k (withRefs (slA p k) n)) j) = kidsS (slA p j) ∧ nodeS (slA (setL p k (withRefs (slA p k) n)) j) = nodeS (slA p j) := by
    intro j hj
    by_cases e : j = k
    · subst e; rw [slA_set_same h0 h1]; exact ⟨rfl, rfl⟩
    · rw [slA_set_other h0 hj e]; exact ⟨rfl, rfl⟩
  refine ⟨⟨fun s hs he => ?_, fun s hs => ?_, fun i hi => ?_, fun j hj => ?_, fun j hj => ?_, fun i hi => ?_, ?_⟩, ⟨len_setL _ _ _, fun i hi => ?_⟩⟩
  · rcases mem_setL hs with hs | rfl
    · exact h.z s hs he
    · rw [show (withRefs (slA p k) n).1 = (slA p k).1 from rfl, h2] at he; cases he
  · rcases mem_setL hs with hs | rfl
    · exact h.lost s hs
    · exact h.lost (slA p k) (rd_mem h0 h1)
  · rw [hu] at hi
    rw [hcn]
    by_cases e : i = k
    · subst e; rw [slA_set_same h0 h1]; exact hn
    · rw [slA_set_other h0 (usedB_iff.1 hi).1 e, hc i e]; exact h.refs i hi
  · rw [hu]
    by_cases e : j = k
    · subst e; exact hk
    · apply h.mem; rw [← List.count_pos_iff, ← hc j e, List.count_pos_iff]; exact hj
  · rw [hu]; exact h.kid j ((hmk j).1 hj)
  · rw [hu] at hi; rw [hcn]
    by_cases e : i = k
    · subst e; exact hp
    · rw [hc i e]; exact h.pos i hi
  · obtain ⟨r, hr⟩ := h.rank
    refine ⟨r, fun i hi j hj => ?_⟩
    rw [hu] at hi
    rw [(hkd i (usedB_iff.1 hi).1).1] at hj
    exact hr i hi j hj
  · rw [hu] at hi
    exact ⟨hi, (hkd i (usedB_iff.1 hi).1).2⟩

/-- a slot that nobody holds any more -/
theorem bal_free {p : List Sl} {L L' : List Int} {k : Int} (h : Bal p L) (hk : usedB p k = true)
    (hc : ∀ i, i ≠ k → L'.count i = L.count i) (h0c : L'.count k = 0) (hak : (allKids p).count k = 0) :
    Bal (setL p k D0) (L' ++ kidsS (slA p k)) ∧ Shr p (setL p k D0) := by
  obtain ⟨h0, h1, h2⟩ := usedB_iff.1 hk
  have hu : ∀ j, usedB (setL p k D0) j = if j = k then false else usedB p j := fun j => used_set h0 h1
  have hcn : ∀ j, (allKids (setL p k D0)).count j + (kidsS (slA p k)).count j = (allKids p).count j := by
    intro j
    have := cnt_setL p k D0 j h0 h1
    have e : kidsU D0 = [] := rfl
    rw [e, kidsU, if_pos h2] at this
    simpa using this
  have hne : ∀ j, j ∈ allKids p → j ≠ k := fun j hj e => by subst e; have := List.count_pos_iff.2 hj; omega
  have hkne : ∀ j, j ∈ kidsS (slA p k) → j ≠ k := fun j hj => hne j (kid_mem hk hj)
  have hsub : ∀ j, j ∈ allKids (setL p k D0) → j ∈ allKids p := fun j hj => by
    have := List.count_pos_iff.2 hj
    have := hcn j
    exact List.count_pos_iff.1 (by omega)
  have hun : ∀ i, usedB (setL p k D0) i = true → i ≠ k ∧ usedB p i = true := by
    intro i hi
    rw [hu] at hi
    by_cases e : i = k
    · rw [if_pos e] at hi; cases hi
    · rw [if_neg e] at hi; exact ⟨e, hi⟩
  refine ⟨⟨fun s hs he => ?_, fun s hs => ?_, fun i hi => ?_, fun j hj => ?_, fun j hj => ?_, fun i hi => ?_, ?_⟩, ⟨len_setL _ _ _, fun i hi => ?_⟩⟩
  · rcases mem_setL hs with hs | rfl
    · exact h.z s hs he
    · rfl
  · rcases mem_setL hs with hs | rfl
    · exact h.lost s hs
    · rfl
  · obtain ⟨e, hi⟩ := hun i hi
    rw [slA_set_other h0 (usedB_iff.1 hi).1 e, h.refs i hi, List.count_append, hc i e]
    have := hcn i
    congr 1; omega
  · rw [hu]
    rcases List.mem_append.1 hj with hj1 | hj
    · have e : j ≠ k := fun e => by rw [e] at hj1; have := List.count_pos_iff.2 hj1; omega
      rw [if_neg e]
      apply h.mem; rw [← List.count_pos_iff, ← hc j e, List.count_pos_iff]; exact hj1
    · rw [if_neg (hkne j hj)]; exact h.kid j (kid_mem hk hj)
  · rw [hu, if_neg (hne j (hsub j hj))]; exact h.kid j (hsub j hj)
  · obtain ⟨e, hi⟩ := hun i hi
    have := h.pos i hi
    rw [List.count_append, hc i e]
    have := hcn i
    omega
  · obtain ⟨r, hr⟩ := h.rank
    refine ⟨r, fun i hi j hj => ?_⟩
    obtain ⟨e, hi⟩ := hun i hi
    rw [slA_set_other h0 (usedB_iff.1 hi).1 e] at hj
    exact hr i hi j hj
  · obtain ⟨e, hi⟩ := hun i hi
    exact ⟨hi, by rw [slA_set_other h0 (usedB_iff.1 hi).1 e]⟩

end Ds

/- Dropping: both loops come to the one pool that is balanced for the roots that are left. -/
namespace Ds
open Go Go.Dv
set_option maxRecDepth 100000
set_option linter.unusedVariables false

theorem pool_used_eq (N : Nat) (p : List Sl) (i : Int) : pool_used N p i = some (usedB p i) := by
  unfold pool_used usedB slA
  by_cases h0 : 0 ≤ i
  · by_cases h1 : i < (p.length : Int)
    · simp only [h0, h1, decide_true, cond_true, Bool.true_and]
      rw [gd_t (inB_t h0 h1)]
    · simp [h0, h1]
  · simp [h0]

theorem ref_used_eq (N : Nat) (p : List Sl) (i : Int) : ref11_Used N p i = some (usedB p i) := by
  unfold ref11_Used usedB slA
  by_cases h0 : 0 ≤ i
  · by_cases h1 : i < (p.length : Int)
    · simp only [h0, h1, decide_true, cond_true, Bool.true_and]
      rw [gd_t (inB_t h0 h1)]
    · simp [h0, h1]
  · simp [h0]

theorem clone_eq (N : Nat) (p : List Sl) (h : p.length ≤ 100000) : pool_clone N p = some p := by
  unfold pool_clone
  have hmx : (maxB : Int) = 4398046511104 := rfl
  rw [gd_t (by simp only [Bool.and_eq_true, decide_eq_true_eq, hmx]; exact ⟨⟨by omega, by omega⟩, by omega, by omega⟩)]
  simp only [copyL, Int.toNat_natCast, List.length_replicate, List.take_length, Option.some.injEq]
  rw [List.drop_eq_nil_of_le (by simp), List.append_nil]

theorem copied_eq (N : Nat) (p : List Sl) (h : p.length ≤ 100000) : ref11_Copied N p = some p := by
  unfold ref11_Copied
  rw [gd_t (fits_p (by omega) (by omega))]
  simp

theorem lkids_set : ∀ (p : List Sl) (n : Nat) (y : Sl) (h : n < p.length), (allKids (p.set n y)).length + (kidsU p[n]).length = (allKids p).length + (kidsU y).length
  | [], _, _, h => absurd h (Nat.not_lt_zero _)
  | s :: p, 0, y, _ => by simp only [allKids, List.set_cons_zero, List.flatMap_cons, List.length_append, List.getElem_cons_zero]; omega
  | s :: p, n + 1, y, h => by
    have ih := lkids_set p n y (by simpa using h)
    simp only [allKids, List.set_cons_succ, List.flatMap_cons, List.length_append, List.getElem_cons_succ] at ih ⊢
    omega

theorem lkids_setL (p : List Sl) (i : Int) (y : Sl) (h0 : 0 ≤ i) (h1 : i < (p.length : Int)) : (allKids (setL p i y)).length + (kidsU (slA p i)).length = (allKids p).length + (kidsU y).length := by
  have h : i.toNat < p.length := by omega
  rw [slA_get h]
  exact lkids_set p i.toNat y h

theorem setL_setL (p : List Sl) (i : Int) (x y : Sl) : setL (setL p i x) i y = setL p i y := by simp [setL]

/-- what a step of a drop comes to -/
theorem drop_step {p : List Sl} {rest R : List Int} {k : Int} (h : Bal p (k :: (rest ++ R))) (hb : rest.length + 1 + R.length + (allKids p).length < 1000000) :
    ∃ c : Int, IntKind.wrap .i64 (refsS (slA p k) - 1) = c ∧ 0 ≤ c ∧
      (0 < c → Bal (setL p k (withRefs (slA p k) c)) (rest ++ R) ∧ Shr p (setL p k (withRefs (slA p k) c)) ∧ (allKids (setL p k (withRefs (slA p k) c))).length = (allKids p).length) ∧
      (c = 0 → Bal (setL p k D0) ((rest ++ kidsS (slA p k)) ++ R) ∧ Shr p (setL p k D0) ∧ (allKids (setL p k D0)).length + (kidsS (slA p k)).length = (allKids p).length) := by
  have hk := h.mem k (by simp)
  obtain ⟨h0, h1, h2⟩ := usedB_iff.1 hk
  have hr := h.refs k hk
  rw [List.count_cons_self] at hr
  have l1 := List.count_le_length (a := k) (l := rest ++ R)
  have l2 := List.count_le_length (a := k) (l := allKids p)
  rw [List.length_append] at l1
  have hw : IntKind.wrap .i64 (refsS (slA p k) - 1) = (((rest ++ R).count k + (allKids p).count k : Nat) : Int) := by
    rw [hr, w64 (by omega) (by omega)]; omega
  have hc : ∀ i, i ≠ k → (rest ++ R).count i = (k :: (rest ++ R)).count i := fun i e => by
    rw [List.count_cons]; simp [Ne.symm e]
  refine ⟨_, hw, by omega, fun hpos => ?_, fun hz => ?_⟩
  · obtain ⟨a, b⟩ := bal_refs h hk hc rfl (by omega)
    refine ⟨a, b, ?_⟩
    have := lkids_setL p k (withRefs (slA p k) (((rest ++ R).count k + (allKids p).count k : Nat) : Int)) h0 h1
    have e : kidsU (withRefs (slA p k) (((rest ++ R).count k + (allKids p).count k : Nat) : Int)) = kidsU (slA p k) := rfl
    rw [e] at this; omega
  · obtain ⟨a, b⟩ := bal_free h hk hc (by omega) (by omega)
    refine ⟨a.congr fun i => by simp only [List.count_append]; omega, b, ?_⟩
    have := lkids_setL p k D0 h0 h1
    have e : kidsU D0 = [] := rfl
    rw [e, kidsU, if_pos h2] at this
    simpa using this

theorem pool_drop_l (N : Nat) (R : List Int) (b0 : List Sl) : ∀ (n : Nat) (todo : List Int) (p : List Sl), Bal p (todo ++ R) → todo.length + R.length + (allKids p).length < 1000000 → todo.length + (allKids p).length < n →
    ∃ q, pool_Drop_l0 N n b0 p todo = some (((), ()), ((), (b0, ((), (q, ()))))) ∧ Bal q R ∧ Shr p q
  | 0, _, _, _, _, hn => absurd hn (Nat.not_lt_zero _)
  | n + 1, todo, p, h, hb, hn => by
    rcases List.eq_nil_or_concat todo with rfl | ⟨pre, k, e⟩
    · refine ⟨p, ?_, by simpa using h, Shr.refl p⟩
      rw [pool_Drop_l0_succ]
      simp [pool_Drop_l0_step]
    · rw [List.concat_eq_append] at e
      subst e
      simp only [List.length_append, List.length_singleton] at hb hn
      have h' : Bal p (k :: (pre ++ R)) := h.congr fun i => by simp only [List.count_append, List.count_cons, List.append_assoc, List.count_nil]; omega
      have hk := h'.mem k (by simp)
      obtain ⟨h0, h1, h2⟩ := usedB_iff.1 hk
      obtain ⟨c, hc, hc0, hc1, hc2⟩ := drop_step h' (by omega)
      have hx4 : IntKind.wrap .i64 (((pre ++ [k]).length : Int) - 1) = (pre.length : Int) := by
        rw [w64 (by simp <;> omega) (by simp <;> omega)]; simp
      have hrd : rdL (pre ++ [k]) (pre.length : Int) (0 : Int) = k := rd_mid
      have htk : List.take (Int.toNat (pre.length : Int)) (pre ++ [k]) = pre := by simp
      rw [pool_Drop_l0_succ]
      simp only [pool_Drop_l0_step, hx4, hrd, htk]
      rw [bif_t (by simp <;> omega), gd_t (inB_t (by omega) (by simp <;> omega)), gd_t (by simp <;> omega), gd_t (inB_t h0 h1)]
      have hx7 : setL p k ((rdL p k D_api_Slot).1, (((rdL p k D_api_Slot).2).1, ((IntKind.wrap .i64 ((((rdL p k D_api_Slot).2).2).1 - (1 : Int))), ((((rdL p k D_api_Slot).2).2).2)))) = setL p k (withRefs (slA p k) c) := by
        rw [← hc]; rfl
      rw [hx7]
      have hr7 : rdL (setL p k (withRefs (slA p k) c)) k D_api_Slot = withRefs (slA p k) c := slA_set_same h0 h1
      rw [hr7]
      have hc8 : (((withRefs (slA p k) c).2).2).1 = c := rfl
      have hk8 : ((((((withRefs (slA p k) c).2).2).2).2).2).1 = kidsS (slA p k) := rfl
      rw [hc8, hk8, setL_setL]
      by_cases hcp : 0 < c
      · obtain ⟨a, b, d⟩ := hc1 hcp
        obtain ⟨q, q1, q2, q3⟩ := pool_drop_l N R b0 n pre _ a (by rw [d]; omega) (by rw [d]; omega)
        refine ⟨q, ?_, q2, b.trans q3⟩
        rw [bif_t (by simpa using hcp)]
        exact q1
      · have hcz : c = 0 := by omega
        obtain ⟨a, b, d⟩ := hc2 hcz
        obtain ⟨q, q1, q2, q3⟩ := pool_drop_l N R b0 n (pre ++ kidsS (slA p k)) _ a (by rw [List.length_append]; omega) (by rw [List.length_append]; omega)
        refine ⟨q, ?_, q2, b.trans q3⟩
        rw [bif_f (by simpa using hcp), gd_t (fits_p (by omega) (by omega))]
        exact q1

theorem cut2_tail (k : Int) (rest : List Int) : cut2 (k :: rest) 1 ((k :: rest).length : Int) = rest := by
  simp only [cut2, Int.toNat_natCast, List.length_cons]
  show List.take (rest.length + 1 - 1) (List.drop 1 (k :: rest)) = rest
  simp

theorem ref_drop_l (N : Nat) (R : List Int) (b1 : List Sl) : ∀ (n : Nat) (todo : List Int) (p : List Sl), Bal p (todo ++ R) → todo.length + R.length + (allKids p).length < 1000000 → todo.length + (allKids p).length < n →
    ∃ q, ref11_Drop_l0 N n todo b1 p = some (((), ()), ((), (b1, ((), (q, ()))))) ∧ Bal q R ∧ Shr p q
  | 0, _, _, _, _, hn => absurd hn (Nat.not_lt_zero _)
  | n + 1, [], p, h, hb, hn => by
    refine ⟨p, ?_, by simpa using h, Shr.refl p⟩
    rw [ref11_Drop_l0_succ]
    simp [ref11_Drop_l0_step]
  | n + 1, k :: rest, p, h, hb, hn => by
    simp only [List.length_cons] at hb hn
    have hk := h.mem k (by simp)
    obtain ⟨h0, h1, h2⟩ := usedB_iff.1 hk
    obtain ⟨c, hc, hc0, hc1, hc2⟩ := drop_step (rest := rest) (R := R) h (by omega)
    have hrd : rdL (k :: rest) (0 : Int) (0 : Int) = k := rfl
    rw [ref11_Drop_l0_succ]
    simp only [ref11_Drop_l0_step, hrd, cut2_tail, ref_used_eq, hk]
    rw [bif_t (by simp <;> omega), gd_t (inB_t (by omega) (by simp <;> omega)), gd_t (by simp <;> omega)]
    simp only [Bool.not_true, cond_false]
    rw [gd_t (inB_t h0 h1), gd_t (inB_t h0 h1)]
    have hx7 : setL p k ((rdL p k D_api_Slot).1, (((rdL p k D_api_Slot).2).1, ((IntKind.wrap .i64 ((((rdL p k D_api_Slot).2).2).1 - (1 : Int))), ((((rdL p k D_api_Slot).2).2).2)))) = setL p k (withRefs (slA p k) c) := by
      rw [← hc]; rfl
    rw [hx7]
    have hr7 : rdL (setL p k (withRefs (slA p k) c)) k D_api_Slot = withRefs (slA p k) c := slA_set_same h0 h1
    rw [hr7]
    have hc8 : (((withRefs (slA p k) c).2).2).1 = c := rfl
    have hk8 : ((((((withRefs (slA p k) c).2).2).2).2).2).1 = kidsS (slA p k) := rfl
    rw [hc8, hk8, setL_setL, gd_t (inB_t h0 (by simpa using h1))]
    by_cases hcz : c = 0
    · obtain ⟨a, b, d⟩ := hc2 hcz
      obtain ⟨q, q1, q2, q3⟩ := ref_drop_l N R b1 n (rest ++ kidsS (slA p k)) _ a (by rw [List.length_append]; omega) (by rw [List.length_append]; omega)
      refine ⟨q, ?_, q2, b.trans q3⟩
      rw [bif_t (eqi_iff.2 hcz), gd_t (fits_p (by omega) (by omega)), gd_t (inB_t h0 (by simpa using h1)), gd_t (fits_p (by simp; omega) (by omega)), gd_t (inB_t h0 (by simpa using h1))]
      exact q1
    · obtain ⟨a, b, d⟩ := hc1 (by omega)
      obtain ⟨q, q1, q2, q3⟩ := ref_drop_l N R b1 n rest _ a (by rw [d]; omega) (by rw [d]; omega)
      refine ⟨q, ?_, q2, b.trans q3⟩
      rw [bif_f (eqi_ne hcz)]
      exact q1

theorem pool_Drop_ok {N : Nat} (hN : 2000000 ≤ N) {p : List Sl} {id : Int} {R : List Int} (h : Bal p (id :: R)) (hl : p.length ≤ 100000) (hb : R.length + (allKids p).length < 500000) :
    ∃ q, pool_Drop N p id = some (q, 0) ∧ Bal q R ∧ Shr p q := by
  have hk := h.mem id (by simp)
  obtain ⟨q, q1, q2, q3⟩ := pool_drop_l N R [] N [id] p h (by simp; omega) (by simp; omega)
  refine ⟨q, ?_, q2, q3⟩
  unfold pool_Drop
  rw [pool_used_eq, clone_eq N p hl, hk]
  simp only [Bool.not_true, cond_false]
  have q1' : pool_Drop_l0 N N ([] : List V_api_Slot) p ([id] : List Int) = _ := q1
  rw [q1']

theorem ref_Drop_ok {N : Nat} (hN : 2000000 ≤ N) {p : List Sl} {id : Int} {R : List Int} (h : Bal p (id :: R)) (hl : p.length ≤ 100000) (hb : R.length + (allKids p).length < 500000) :
    ∃ q, ref11_Drop N p id = some (q, 0) ∧ Bal q R ∧ Shr p q := by
  have hk := h.mem id (by simp)
  obtain ⟨q, q1, q2, q3⟩ := ref_drop_l N R [] N [id] p h (by simp; omega) (by simp; omega)
  refine ⟨q, ?_, q2, q3⟩
  unfold ref11_Drop
  rw [ref_used_eq, copied_eq N p hl, hk]
  simp only [Bool.not_true, cond_false]
  have q1' : ref11_Drop_l0 N N ([id] : List Int) ([] : List V_api_Slot) p = _ := q1
  rw [q1']

theorem pool_Drop_no {N : Nat} {p : List Sl} {id : Int} (h : usedB p id = false) : pool_Drop N p id = some (p, 110) := by
  unfold pool_Drop; rw [pool_used_eq, h]; rfl
theorem ref_Drop_no {N : Nat} {p : List Sl} {id : Int} (h : usedB p id = false) : ref11_Drop N p id = some (p, 110) := by
  unfold ref11_Drop; rw [ref_used_eq, h]; rfl

/-- holding once more -/
def holdP (p : List Sl) (id : Int) : List Sl := setL p id (withRefs (slA p id) (IntKind.wrap .i64 (refsS (slA p id) + 1)))

theorem pool_Hold_eq {N : Nat} {p : List Sl} {id : Int} (hl : p.length ≤ 100000) : pool_Hold N p id = some (if usedB p id = true then (holdP p id, 0) else (p, 110)) := by
  unfold pool_Hold
  rw [pool_used_eq, clone_eq N p hl]
  cases hu : usedB p id with
  | false => rfl
  | true =>
    obtain ⟨h0, h1, h2⟩ := usedB_iff.1 hu
    simp only [Bool.not_true, cond_false]
    rw [gd_t (inB_t h0 h1), gd_t (inB_t h0 h1)]
    rfl
theorem ref_Hold_eq {N : Nat} {p : List Sl} {id : Int} (hl : p.length ≤ 100000) : ref11_Hold N p id = some (if usedB p id = true then (holdP p id, 0) else (p, 110)) := by
  unfold ref11_Hold
  rw [ref_used_eq, copied_eq N p hl]
  cases hu : usedB p id with
  | false => rfl
  | true =>
    obtain ⟨h0, h1, h2⟩ := usedB_iff.1 hu
    simp only [Bool.not_true, cond_false]
    rw [gd_t (inB_t h0 h1), gd_t (inB_t h0 h1)]
    rfl

theorem hold_bal {p : List Sl} {id : Int} {L : List Int} (h : Bal p L) (hu : usedB p id = true) (hb : L.length + (allKids p).length < 1000000) : Bal (holdP p id) (id :: L) ∧ Shr p (holdP p id) ∧ Shr (holdP p id) p ∧ (allKids (holdP p id)).length = (allKids p).length := by
  obtain ⟨h0, h1, h2⟩ := usedB_iff.1 hu
  have hr := h.refs id hu
  have l1 := List.count_le_length (a := id) (l := L)
  have l2 := List.count_le_length (a := id) (l := allKids p)
  have hw : IntKind.wrap .i64 (refsS (slA p id) + 1) = (((id :: L).count id + (allKids p).count id : Nat) : Int) := by
    rw [hr, w64 (by omega) (by omega), List.count_cons_self]; omega
  have hb' := bal_refs (L' := id :: L) h hu (fun i e => by rw [List.count_cons]; simp [Ne.symm e]) hw (by rw [List.count_cons_self]; omega)
  refine ⟨hb'.1, hb'.2, ⟨(len_setL _ _ _).symm, fun i hi => ?_⟩, ?_⟩
  · have hu' : usedB (holdP p id) i = usedB p i := by
      unfold holdP
      rw [used_set h0 h1]
      by_cases e : i = id
      · subst e; rw [if_pos rfl, hu]; exact h2
      · rw [if_neg e]
    exact ⟨by rw [hu']; exact hi, ((hb'.2.node i (by show usedB (holdP p id) i = true; rw [hu']; exact hi)).2).symm⟩
  · have := lkids_setL p id (withRefs (slA p id) (IntKind.wrap .i64 (refsS (slA p id) + 1))) h0 h1
    have e : kidsU (withRefs (slA p id) (IntKind.wrap .i64 (refsS (slA p id) + 1))) = kidsU (slA p id) := rfl
    rw [e] at this
    unfold holdP; omega

end Ds

/- What is reached: a walk over a pool in plain words, and what it knows when it ends. -/
namespace Ds
open Go Go.Dv
set_option maxRecDepth 100000
set_option linter.unusedVariables false

inductive Rch (p : List Sl) (R : List Int) : Int → Prop
  | root {k : Int} : k ∈ R → usedB p k = true → Rch p R k
  | kid {i k : Int} : Rch p R i → k ∈ kidsS (slA p i) → usedB p k = true → Rch p R k

theorem Rch.used {p : List Sl} {R : List Int} {i : Int} (h : Rch p R i) : usedB p i = true := by cases h <;> assumption
theorem Rch.mono {p : List Sl} {R R' : List Int} (hR : ∀ k ∈ R, k ∈ R') {i : Int} (h : Rch p R i) : Rch p R' i := by
  induction h with
  | root h u => exact .root (hR _ h) u
  | kid _ h u ih => exact .kid ih h u
theorem Rch.up {p : List Sl} {id : Int} (hu : usedB p id = true) {i : Int} (h : Rch p (kidsS (slA p id)) i) : Rch p [id] i := by
  induction h with
  | root h u => exact .kid (.root (by simp) hu) h u
  | kid _ h u ih => exact .kid ih h u
theorem Rch.trans {p : List Sl} {R R' : List Int} (hR : ∀ k ∈ R, usedB p k = true → Rch p R' k) {i : Int} (h : Rch p R i) : Rch p R' i := by
  induction h with
  | root h u => exact hR _ h u
  | kid _ h u ih => exact .kid ih h u

theorem asc_ext : ∀ {a b : List Int}, a.Pairwise (· < ·) → b.Pairwise (· < ·) → (∀ x, x ∈ a ↔ x ∈ b) → a = b
  | [], [], _, _, _ => rfl
  | [], y :: b, _, _, h => absurd ((h y).2 (by simp)) (by simp)
  | x :: a, [], _, _, h => absurd ((h x).1 (by simp)) (by simp)
  | x :: a, y :: b, ha, hb, h => by
    obtain ⟨a1, a2⟩ := List.pairwise_cons.1 ha
    obtain ⟨b1, b2⟩ := List.pairwise_cons.1 hb
    have hxy : x = y := by
      rcases List.mem_cons.1 ((h x).1 (by simp)) with e | e
      · exact e
      · rcases List.mem_cons.1 ((h y).2 (by simp)) with e' | e'
        · exact e'.symm
        · have := b1 x e; have := a1 y e'; omega
    subst hxy
    congr 1
    refine asc_ext a2 b2 fun z => ⟨fun hz => ?_, fun hz => ?_⟩
    · rcases List.mem_cons.1 ((h z).1 (by simp [hz])) with e | e
      · have := a1 z hz; omega
      · exact e
    · rcases List.mem_cons.1 ((h z).2 (by simp [hz])) with e | e
      · have := b1 z hz; omega
      · exact e

/-- the ids that are reached, in order -/
def IsReach (p : List Sl) (R : List Int) (out : List Int) : Prop := out.Pairwise (· < ·) ∧ ∀ i, i ∈ out ↔ Rch p R i
theorem IsReach.unique {p : List Sl} {R a b : List Int} (h : IsReach p R a) (k : IsReach p R b) : a = b := asc_ext h.1 k.1 fun x => (h.2 x).trans (k.2 x).symm

/-! ## the walk -/
structure DS where
  st : List Int
  fine : Bool
  out : List Int

def dfs (p : List Sl) : Nat → Int → DS → DS
  | 0, _, s => s
  | n + 1, id, s =>
    if usedB p id = false ∨ rdL s.st id 0 = 2 then s
    else if rdL s.st id 0 = 1 then ⟨s.st, false, s.out⟩
    else
      let s' := (kidsS (slA p id)).foldl (fun s k => dfs p n k s) ⟨setL s.st id 1, s.fine, s.out⟩
      ⟨setL s'.st id 2, s'.fine, s'.out ++ [id]⟩

abbrev DS.c (s : DS) (i : Int) : Int := rdL s.st i 0
def DS.white (s : DS) : Nat := s.st.count 0
def V3 (s : DS) : Prop := ∀ i, s.c i = 0 ∨ s.c i = 1 ∨ s.c i = 2

structure Post (p : List Sl) (R : List Int) (s s' : DS) : Prop where
  len : s'.st.length = s.st.length
  wh : s'.white ≤ s.white
  ol : s'.out.length + s'.white ≤ s.out.length + s.white
  v3 : V3 s'
  one : ∀ i, 0 ≤ i → (s'.c i = 1 ↔ s.c i = 1)
  two : ∀ i, 0 ≤ i → s.c i = 2 → s'.c i = 2
  self : ∀ k ∈ R, usedB p k = true → s'.c k ≠ 0
  new : ∀ i, 0 ≤ i → s.c i ≠ 2 → s'.c i = 2 → Rch p R i
  clo : ∀ i, 0 ≤ i → s.c i ≠ 2 → s'.c i = 2 → ∀ k ∈ kidsS (slA p i), usedB p k = true → s'.c k ≠ 0
  out : ∃ l, s'.out = s.out ++ l ∧ (∀ i, i ∈ l ↔ 0 ≤ i ∧ i < (s.st.length : Int) ∧ s.c i = 0 ∧ s'.c i = 2) ∧ l.Nodup ∧
    (s'.fine = true → ∀ A i B, l = A ++ i :: B → ∀ k ∈ kidsS (slA p i), usedB p k = true → s.c k = 2 ∨ k ∈ A)
  fine1 : s'.fine = true → s.fine = true
  fine2 : s'.fine = true → ∀ k ∈ R, usedB p k = true → s'.c k = 2
  fine4 : s.fine = true → s'.fine = false → (∃ x, s.c x = 1 ∧ Rch p R x) ∨ ∃ x, Rch p R x ∧ Rch p (kidsS (slA p x)) x

theorem used_nn {p : List Sl} {k : Int} (h : usedB p k = true) : 0 ≤ k := (usedB_iff.1 h).1
theorem used_lt {p : List Sl} {k : Int} (h : usedB p k = true) : k < (p.length : Int) := (usedB_iff.1 h).2.1

theorem post_refl {p : List Sl} {R : List Int} {s : DS} (hv : V3 s) (h : ∀ k ∈ R, usedB p k = true → s.c k = 2) : Post p R s s :=
  ⟨rfl, Nat.le_refl _, Nat.le_refl _, hv, fun _ _ => Iff.rfl, fun _ _ h => h, fun k hk hu e => (by rw [h k hk hu] at e; cases e), fun i _ a b => absurd b a, fun i _ a b => absurd b a,
    ⟨[], by simp, fun i => (by simp; omega), List.nodup_nil, fun _ A i B e => (by cases A <;> cases e)⟩, fun h => h, fun _ => h, fun a b => (by rw [a] at b; cases b)⟩

theorem post_cons {p : List Sl} {k : Int} {R : List Int} {s s1 s2 : DS} (hv : V3 s) (h : Post p [k] s s1) (g : Post p R s1 s2) : Post p (k :: R) s s2 := by
  have keep : ∀ i, 0 ≤ i → s1.c i ≠ 0 → s2.c i ≠ 0 := by
    intro i hi h0
    rcases h.v3 i with e | e | e
    · exact absurd e h0
    · have := (g.one i hi).2 e; omega
    · have := g.two i hi e; omega
  have m1 : ∀ {i}, Rch p [k] i → Rch p (k :: R) i := fun r => r.mono (by simp)
  have m2 : ∀ {i}, Rch p R i → Rch p (k :: R) i := fun r => r.mono (fun x hx => by simp [hx])
  refine ⟨g.len.trans h.len, Nat.le_trans g.wh h.wh, Nat.le_trans g.ol h.ol, g.v3, fun i hi => (g.one i hi).trans (h.one i hi), fun i hi e => g.two i hi (h.two i hi e), ?_, ?_, ?_, ?_, fun e => h.fine1 (g.fine1 e), ?_, ?_⟩
  · intro j hj hu
    rcases List.mem_cons.1 hj with rfl | hj
    · exact keep j (used_nn hu) (h.self j (by simp) hu)
    · exact g.self j hj hu
  · intro i hi h0 h2
    by_cases e : s1.c i = 2
    · exact m1 (h.new i hi h0 e)
    · exact m2 (g.new i hi e h2)
  · intro i hi h0 h2 j hj hu
    by_cases e : s1.c i = 2
    · exact keep j (used_nn hu) (h.clo i hi h0 e j hj hu)
    · exact g.clo i hi e h2 j hj hu
  · obtain ⟨l1, a1, a2, a3, a4⟩ := h.out
    obtain ⟨l2, b1, b2, b3, b4⟩ := g.out
    refine ⟨l1 ++ l2, by rw [b1, a1, List.append_assoc], fun i => ?_, ?_, fun hf A i B e j hj hu => ?_⟩
    · rw [List.mem_append, a2, b2, h.len]
      constructor
      · rintro (⟨x1, x2, x3, x4⟩ | ⟨x1, x2, x3, x4⟩)
        · exact ⟨x1, x2, x3, g.two i x1 x4⟩
        · refine ⟨x1, x2, ?_, x4⟩
          rcases hv i with e | e | e
          · exact e
          · have := (h.one i x1).2 e; omega
          · have := h.two i x1 e; omega
      · rintro ⟨x1, x2, x3, x4⟩
        rcases h.v3 i with e | e | e
        · exact .inr ⟨x1, x2, e, x4⟩
        · have := (h.one i x1).1 e; omega
        · exact .inl ⟨x1, x2, x3, e⟩
    · refine List.nodup_append.2 ⟨a3, b3, fun i hi j hj e => ?_⟩
      subst e
      have := ((a2 i).1 hi).2.2.2
      have := ((b2 i).1 hj).2.2.1
      omega
    · have hf1 := g.fine1 hf
      rcases List.append_eq_append_iff.1 e with ⟨zs, e1, e2⟩ | ⟨bs, e1, e2⟩
      · rcases b4 hf zs i B e2 j hj hu with h1 | h1
        · have hjn := used_nn hu
          by_cases hc : s.c j = 2
          · exact .inl hc
          · refine .inr ?_
            rw [e1, List.mem_append]
            refine .inl ((a2 j).2 ⟨hjn, ?_, ?_, h1⟩)
            · by_cases hlt : j < (s.st.length : Int)
              · exact hlt
              · exfalso
                have : s1.c j = 0 := by
                  have hl := h.len
                  simp only [DS.c, rdL]
                  rw [List.getD_eq_getElem?_getD, List.getElem?_eq_none (by omega)]; rfl
                omega
            · rcases hv j with e | e | e
              · exact e
              · have := (h.one j hjn).2 e; omega
              · exact absurd e hc
        · exact .inr (by rw [e1, List.mem_append]; exact .inr h1)
      · cases bs with
        | nil =>
          simp only [List.append_nil, List.nil_append] at e1 e2
          rcases b4 hf [] i B e2.symm j hj hu with h1 | h1
          · have hjn := used_nn hu
            by_cases hc : s.c j = 2
            · exact .inl hc
            · refine .inr ?_
              rw [← e1]
              refine (a2 j).2 ⟨hjn, ?_, ?_, h1⟩
              · by_cases hlt : j < (s.st.length : Int)
                · exact hlt
                · exfalso
                  have : s1.c j = 0 := by
                    have hl := h.len
                    simp only [DS.c, rdL]
                    rw [List.getD_eq_getElem?_getD, List.getElem?_eq_none (by omega)]; rfl
                  omega
              · rcases hv j with e | e | e
                · exact e
                · have := (h.one j hjn).2 e; omega
                · exact absurd e hc
          · cases h1
        | cons b bs =>
          simp only [List.cons_append, List.cons.injEq] at e2
          obtain ⟨rfl, e2⟩ := e2
          exact a4 hf1 A i bs e1 j hj hu
  · intro hf j hj hu
    rcases List.mem_cons.1 hj with rfl | hj
    · exact g.two j (used_nn hu) (h.fine2 (g.fine1 hf) j (by simp) hu)
    · exact g.fine2 hf j hj hu
  · intro hs hf
    cases e : s1.fine with
    | false =>
      rcases h.fine4 hs e with ⟨x, x1, x2⟩ | ⟨x, x1, x2⟩
      · exact .inl ⟨x, x1, m1 x2⟩
      · exact .inr ⟨x, m1 x1, x2⟩
    | true =>
      rcases g.fine4 e hf with ⟨x, x1, x2⟩ | ⟨x, x1, x2⟩
      · exact .inl ⟨x, (h.one x (used_nn x2.used)).1 x1, m2 x2⟩
      · exact .inr ⟨x, m2 x1, x2⟩

theorem count_set0 {l : List Int} {i : Int} {y : Int} (h0 : 0 ≤ i) (h1 : i < (l.length : Int)) (hy : y ≠ 0) : (setL l i y).count 0 + (if rdL l i 0 = 0 then 1 else 0) = l.count 0 := by
  have h : i.toNat < l.length := by omega
  have hr : rdL l i 0 = l[i.toNat] := by simp [rdL, h]
  unfold setL
  rw [List.count_set h, hr]
  have hle : (if (l[i.toNat] == 0) = true then 1 else 0) ≤ l.count 0 := by
    split
    · rename_i e
      have : l[i.toNat] = 0 := by simpa using e
      exact List.count_pos_iff.2 (by rw [← this]; exact List.getElem_mem h)
    · omega
  have hy' : (if (y == 0) = true then 1 else 0) = 0 := by simp [hy]
  rw [hy']
  by_cases e : l[i.toNat] = 0
  · simp only [e, beq_self_eq_true, if_true] at hle ⊢; omega
  · simp only [beq_iff_eq, e, if_false] at hle ⊢; omega

theorem c_set {s : DS} {id i : Int} {y : Int} {f : Bool} {o : List Int} (h0 : 0 ≤ id) (h1 : id < (s.st.length : Int)) (hi : 0 ≤ i) : (DS.mk (setL s.st id y) f o).c i = if i = id then y else s.c i := by
  by_cases e : i = id
  · subst e; rw [if_pos rfl]; exact rd_set_same h0 h1
  · rw [if_neg e]; exact rd_set_other h0 hi e

theorem c_neg {s : DS} {i : Int} (h : i < 0) : s.c i = s.c 0 := by
  simp only [DS.c, rdL]; congr 1; omega

theorem v3_of {s : DS} (h : ∀ i, 0 ≤ i → s.c i = 0 ∨ s.c i = 1 ∨ s.c i = 2) : V3 s := fun i => by
  by_cases hi : 0 ≤ i
  · exact h i hi
  · rw [c_neg (by omega)]; exact h 0 (by omega)

theorem post_node {p : List Sl} {id : Int} {s s2 : DS} (hv : V3 s) (hl : s.st.length = p.length) (hu : usedB p id = true) (hc : s.c id = 0)
    (g : Post p (kidsS (slA p id)) ⟨setL s.st id 1, s.fine, s.out⟩ s2) : Post p [id] s ⟨setL s2.st id 2, s2.fine, s2.out ++ [id]⟩ := by
  have h0 := used_nn hu
  have h1 : id < (s.st.length : Int) := by rw [hl]; exact used_lt hu
  have hl2 : s2.st.length = s.st.length := by rw [g.len]; simp
  have h2 : id < (s2.st.length : Int) := by rw [hl2]; exact h1
  obtain ⟨s1, hs1⟩ : ∃ s1 : DS, s1 = ⟨setL s.st id 1, s.fine, s.out⟩ := ⟨_, rfl⟩
  have c1 : ∀ i, 0 ≤ i → s1.c i = if i = id then 1 else s.c i := fun i hi => by rw [hs1]; exact c_set h0 h1 hi
  rw [← hs1] at g
  have c3 : ∀ i, 0 ≤ i → (DS.mk (setL s2.st id 2) s2.fine (s2.out ++ [id])).c i = if i = id then 2 else s2.c i := fun i hi => c_set h0 h2 hi
  have w1 : s1.white + 1 = s.white := by
    have := count_set0 (y := 1) h0 h1 (by decide)
    rw [if_pos hc] at this
    rw [hs1]; exact this
  have w3 : (DS.mk (setL s2.st id 2) s2.fine (s2.out ++ [id])).white ≤ s2.white := by
    have := count_set0 (y := 2) h0 h2 (by decide)
    show (setL s2.st id 2).count 0 ≤ s2.st.count 0
    omega
  have c2id : s2.c id = 1 := (g.one id h0).2 (by rw [c1 id h0, if_pos rfl])
  have hlen1 : s1.st.length = s.st.length := by rw [hs1]; simp
  have hout1 : s1.out = s.out := by rw [hs1]
  have hfine1 : s1.fine = s.fine := by rw [hs1]
  have gwh := g.wh
  have gol := g.ol
  rw [hout1] at gol
  have up : ∀ {i}, Rch p (kidsS (slA p id)) i → Rch p [id] i := fun r => r.up hu
  have nz : ∀ i, 0 ≤ i → s2.c i ≠ 0 → (DS.mk (setL s2.st id 2) s2.fine (s2.out ++ [id])).c i ≠ 0 := by
    intro i hi h
    rw [c3 i hi]
    by_cases e : i = id
    · rw [if_pos e]; decide
    · rw [if_neg e]; exact h
  refine ⟨by simpa using hl2, by omega, ?_, ?_, ?_, ?_, ?_, ?_, ?_, ?_, ?_, ?_, ?_⟩
  · simp only [List.length_append, List.length_singleton]; omega
  · refine v3_of fun i hi => ?_
    rw [c3 i hi]
    by_cases e : i = id
    · rw [if_pos e]; exact .inr (.inr rfl)
    · rw [if_neg e]; exact g.v3 i
  · intro i hi
    rw [c3 i hi]
    by_cases e : i = id
    · subst e; rw [if_pos rfl, hc]; decide
    · rw [if_neg e, g.one i hi, c1 i hi, if_neg e]
  · intro i hi h
    rw [c3 i hi]
    by_cases e : i = id
    · rw [if_pos e]
    · rw [if_neg e]; exact g.two i hi (by rw [c1 i hi, if_neg e]; exact h)
  · intro k hk _
    simp only [List.mem_singleton] at hk
    subst hk
    rw [c3 k h0, if_pos rfl]; decide
  · intro i hi ha hb
    rw [c3 i hi] at hb
    by_cases e : i = id
    · subst e; exact .root (by simp) hu
    · rw [if_neg e] at hb
      exact up (g.new i hi (by rw [c1 i hi, if_neg e]; exact ha) hb)
  · intro i hi ha hb k hk hku
    apply nz k (used_nn hku)
    rw [c3 i hi] at hb
    by_cases e : i = id
    · subst e; exact g.self k hk hku
    · rw [if_neg e] at hb
      exact g.clo i hi (by rw [c1 i hi, if_neg e]; exact ha) hb k hk hku
  · obtain ⟨l, a1, a2, a3, a4⟩ := g.out
    refine ⟨l ++ [id], by show s2.out ++ [id] = _; rw [a1, hout1, List.append_assoc], fun i => ?_, ?_, fun hf A i B e k hk hku => ?_⟩
    · rw [List.mem_append, a2, hlen1]
      constructor
      · rintro (⟨x1, x2, x3, x4⟩ | h)
        · have e : i ≠ id := fun e => by rw [c1 i x1, if_pos e] at x3; cases x3
          rw [c1 i x1, if_neg e] at x3
          exact ⟨x1, x2, x3, by rw [c3 i x1, if_neg e]; exact x4⟩
        · simp only [List.mem_singleton] at h
          subst h
          exact ⟨h0, h1, hc, by rw [c3 i h0, if_pos rfl]⟩
      · rintro ⟨x1, x2, x3, x4⟩
        by_cases e : i = id
        · exact .inr (by simp [e])
        · rw [c3 i x1, if_neg e] at x4
          exact .inl ⟨x1, x2, by rw [c1 i x1, if_neg e]; exact x3, x4⟩
    · refine List.nodup_append.2 ⟨a3, by simp, fun i hi j hj e => ?_⟩
      simp only [List.mem_singleton] at hj
      subst hj; subst e
      have := ((a2 i).1 hi).2.2.1
      rw [c1 i h0, if_pos rfl] at this; cases this
    · have hf : s2.fine = true := hf
      have hkn := used_nn hku
      have conv : s1.c k = 2 → s.c k = 2 := fun h => by
        rw [c1 k hkn] at h
        by_cases e : k = id
        · rw [if_pos e] at h; cases h
        · rw [if_neg e] at h; exact h
      rcases List.append_eq_append_iff.1 e with ⟨zs, e1, e2⟩ | ⟨bs, e1, e2⟩
      · have hcase : zs = [] ∧ i = id := by
          cases zs with
          | nil => simp only [List.nil_append, List.cons.injEq] at e2; exact ⟨rfl, e2.1.symm⟩
          | cons x xs => simp at e2
        obtain ⟨rfl, rfl⟩ := hcase
        rw [List.append_nil] at e1
        subst e1
        have h2k := g.fine2 hf k hk hku
        by_cases hc2 : s1.c k = 2
        · exact .inl (conv hc2)
        · refine .inr ((a2 k).2 ⟨hkn, ?_, ?_, h2k⟩)
          · rw [hlen1, hl]; exact used_lt hku
          · have hv1 : V3 s1 := v3_of fun i hi => by
              rw [c1 i hi]
              by_cases e : i = i
              · split
                · exact .inr (.inl rfl)
                · exact hv i
              · exact absurd rfl e
            rcases hv1 k with e | e | e
            · exact e
            · have := (g.one k hkn).2 e; omega
            · exact absurd e hc2
      · cases bs with
        | nil =>
          simp only [List.nil_append, List.append_nil, List.cons.injEq] at e2 e1
          obtain ⟨rfl, _⟩ := e2
          subst e1
          have h2k := g.fine2 hf k hk hku
          by_cases hc2 : s1.c k = 2
          · exact .inl (conv hc2)
          · refine .inr ((a2 k).2 ⟨hkn, ?_, ?_, h2k⟩)
            · rw [hlen1, hl]; exact used_lt hku
            · have hv1 : V3 s1 := v3_of fun j hj => by
                rw [c1 j hj]
                split
                · exact .inr (.inl rfl)
                · exact hv j
              rcases hv1 k with e | e | e
              · exact e
              · have := (g.one k hkn).2 e; omega
              · exact absurd e hc2
        | cons b bs =>
          simp only [List.cons_append, List.cons.injEq] at e2
          obtain ⟨rfl, e2⟩ := e2
          rcases a4 hf A i bs e1 k hk hku with h | h
          · exact .inl (conv h)
          · exact .inr h
  · intro hf
    have := g.fine1 hf
    rw [hfine1] at this; exact this
  · intro hf k hk _
    simp only [List.mem_singleton] at hk
    subst hk
    rw [c3 k h0, if_pos rfl]
  · intro hs hf
    rcases g.fine4 (by rw [hfine1]; exact hs) hf with ⟨x, x1, x2⟩ | ⟨x, x1, x2⟩
    · rw [c1 x (used_nn x2.used)] at x1
      by_cases e : x = id
      · subst e; exact .inr ⟨x, .root (by simp) hu, x2⟩
      · rw [if_neg e] at x1; exact .inl ⟨x, x1, up x2⟩
    · exact .inr ⟨x, up x1, x2⟩

/-- the walk over a list of ids -/
def dfsL (p : List Sl) (n : Nat) (R : List Int) (s : DS) : DS := R.foldl (fun s k => dfs p n k s) s

theorem v3_set {s : DS} (hv : V3 s) {id : Int} (h0 : 0 ≤ id) (h1 : id < (s.st.length : Int)) {y : Int} (hy : y = 1 ∨ y = 2) {f : Bool} {o : List Int} : V3 ⟨setL s.st id y, f, o⟩ := v3_of fun i hi => by
  rw [c_set h0 h1 hi]
  split
  · rcases hy with rfl | rfl
    · exact .inr (.inl rfl)
    · exact .inr (.inr rfl)
  · exact hv i

theorem dfsL_post {p : List Sl} {n : Nat} (ih : ∀ (id : Int) (s : DS), V3 s → s.st.length = p.length → s.white < n → Post p [id] s (dfs p n id s)) :
    ∀ (R : List Int) (s : DS), V3 s → s.st.length = p.length → s.white < n → Post p R s (dfsL p n R s)
  | [], s, hv, hl, hw => post_refl hv (fun k hk => (by cases hk))
  | k :: R, s, hv, hl, hw => by
    have a := ih k s hv hl hw
    exact post_cons hv a (dfsL_post ih R _ a.v3 (a.len.trans hl) (Nat.lt_of_le_of_lt a.wh hw))

theorem dfs_post (p : List Sl) : ∀ (n : Nat) (id : Int) (s : DS), V3 s → s.st.length = p.length → s.white < n → Post p [id] s (dfs p n id s)
  | 0, _, _, _, _, hw => absurd hw (Nat.not_lt_zero _)
  | n + 1, id, s, hv, hl, hw => by
    unfold dfs
    by_cases hu : usedB p id = true
    · have h0 := used_nn hu
      have h1 : id < (s.st.length : Int) := by rw [hl]; exact used_lt hu
      rcases hv id with e | e | e
      · have e' : rdL s.st id 0 = 0 := e
        rw [if_neg (by simp [hu, e']), if_neg (by simp [e'])]
        refine post_node hv hl hu e (dfsL_post (dfs_post p n) (kidsS (slA p id)) ⟨setL s.st id 1, s.fine, s.out⟩ (v3_set hv h0 h1 (.inl rfl)) (by simpa using hl) ?_)
        have := count_set0 (y := 1) h0 h1 (by decide)
        rw [if_pos e'] at this
        show (setL s.st id 1).count 0 < n
        have : s.white = s.st.count 0 := rfl
        omega
      · have e' : rdL s.st id 0 = 1 := e
        rw [if_neg (by simp [hu, e']), if_pos e']
        have hr : ∀ i, (DS.mk s.st false s.out).c i = s.c i := fun _ => rfl
        refine ⟨rfl, Nat.le_refl _, Nat.le_refl _, hv, fun _ _ => Iff.rfl, fun _ _ h => h, fun k hk _ => ?_, fun i _ a b => absurd b a, fun i _ a b => absurd b a, ⟨[], by simp, fun i => ?_, List.nodup_nil, fun h => (by cases h)⟩, fun h => (by cases h), fun h => (by cases h), fun _ _ => .inl ⟨id, e, .root (by simp) hu⟩⟩
        · simp only [List.mem_singleton] at hk
          subst hk
          show s.c k ≠ 0
          omega
        · simp only [List.not_mem_nil, hr, false_iff]; omega
      · have e' : rdL s.st id 0 = 2 := e
        rw [if_pos (.inr e')]
        exact post_refl hv fun k hk _ => by simp only [List.mem_singleton] at hk; subst hk; exact e
    · rw [if_pos (.inl (by simpa using hu))]
      exact post_refl hv fun k hk hku => by simp only [List.mem_singleton] at hk; subst hk; exact absurd hku hu

/-- a walk from the start -/
theorem walk_ok {p : List Sl} {n : Nat} (hn : p.length < n) (R : List Int) : ∃ s, dfsL p n R ⟨List.replicate p.length 0, true, []⟩ = s ∧
    s.out.Nodup ∧ (∀ i, i ∈ s.out ↔ Rch p R i) ∧ s.out.length ≤ p.length ∧ (s.fine = false → ∃ x, Rch p R x ∧ Rch p (kidsS (slA p x)) x) ∧
    (s.fine = true → ∀ i, Rch p R i → ¬ Rch p (kidsS (slA p i)) i) := by
  obtain ⟨s0, hs0⟩ : ∃ s0 : DS, s0 = ⟨List.replicate p.length 0, true, []⟩ := ⟨_, rfl⟩
  have c0 : ∀ i, s0.c i = 0 := fun i => by rw [hs0]; simp only [DS.c, rdL, List.getD_eq_getElem?_getD, List.getElem?_replicate]; split <;> rfl
  have hv : V3 s0 := fun i => .inl (c0 i)
  have hl : s0.st.length = p.length := by rw [hs0]; simp
  have hw : s0.white ≤ p.length := by rw [hs0]; exact Nat.le_trans List.count_le_length (by simp)
  rw [← hs0]
  have h := dfsL_post (dfs_post p n) R s0 hv hl (by omega)
  obtain ⟨s, hs⟩ : ∃ s, dfsL p n R s0 = s := ⟨_, rfl⟩
  rw [hs] at h
  refine ⟨s, hs, ?_⟩
  obtain ⟨l, a1, a2, a3, a4⟩ := h.out
  have ho : s0.out = [] := by rw [hs0]
  rw [ho, List.nil_append] at a1
  subst a1
  have no1 : ∀ i, 0 ≤ i → s.c i ≠ 1 := fun i hi e => by have := (h.one i hi).1 e; rw [c0] at this; cases this
  have two_of : ∀ i, 0 ≤ i → s.c i ≠ 0 → s.c i = 2 := fun i hi hz => by
    rcases h.v3 i with e | e | e
    · exact absurd e hz
    · exact absurd e (no1 i hi)
    · exact e
  have r2 : ∀ i, Rch p R i → s.c i = 2 := by
    intro i hi
    induction hi with
    | root hk hu => exact two_of _ (used_nn hu) (h.self _ hk hu)
    | kid hr hk hu ih => exact two_of _ (used_nn hu) (h.clo _ (used_nn hr.used) (by rw [c0]; decide) ih _ hk hu)
  have hmem : ∀ i, i ∈ s.out ↔ Rch p R i := by
    intro i
    rw [a2]
    constructor
    · rintro ⟨x1, x2, x3, x4⟩
      exact h.new i x1 (by rw [c0]; decide) x4
    · intro hr
      exact ⟨used_nn hr.used, by rw [hl]; exact used_lt hr.used, c0 i, r2 i hr⟩
  refine ⟨a3, hmem, ?_, ?_, ?_⟩
  · have := h.ol
    rw [ho] at this
    simp only [List.length_nil] at this
    omega
  · intro hf
    rcases h.fine4 (by rw [hs0]) hf with ⟨x, x1, _⟩ | h
    · rw [c0] at x1; cases x1
    · exact h
  · intro hf i hi hcyc
    have key : ∀ A i B, s.out = A ++ i :: B → ∀ k, Rch p (kidsS (slA p i)) k → k ∈ A := by
      intro A i B e k hk
      induction hk with
      | root hk hu =>
        rcases a4 hf A i B e _ hk hu with h | h
        · rw [c0] at h; cases h
        · exact h
      | @kid j k hr hk hu ih =>
        obtain ⟨A1, B1, e1⟩ := List.append_of_mem ih
        rcases a4 hf A1 j (B1 ++ i :: B) (by rw [e, e1]; simp) k hk hu with h | h
        · rw [c0] at h; cases h
        · rw [e1]; exact List.mem_append.2 (.inl h)
    obtain ⟨A, B, e⟩ := List.append_of_mem ((hmem i).2 hi)
    have hA := key A i B e i hcyc
    rw [e] at a3
    exact (List.nodup_append.1 a3).2.2 i hA i (by simp) rfl

end Ds
