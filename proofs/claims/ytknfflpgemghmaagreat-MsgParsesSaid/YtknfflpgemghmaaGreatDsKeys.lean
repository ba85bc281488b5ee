/- What messages read and write, key by key. -/
import Derived.Test.YtknfflpgemghmaaGreatDsApps
import Derived.Test.YtknfflpgemghmaaGreatDsSpans
set_option linter.all false
namespace Ds
open Go Go.Dv
set_option maxRecDepth 100000
set_option linter.unusedVariables false

theorem lts_succ : ∀ (j k : B), lts j (k ++ [0]) = (lts j k || eqs j k)
  | [], [] => rfl
  | [], b :: k => by simp only [List.cons_append]; rfl
  | a :: j, [] => by
    simp only [List.nil_append, lts_cons, lts_nil, Bool.and_false, Bool.or_false]
    have : decide (a < (0 : UInt8)) = false := by
      simp only [decide_eq_false_iff_not, UInt8.lt_iff_toNat_lt]; simp
    rw [this, eqs_ne (by simp)]; rfl
  | a :: j, b :: k => by
    simp only [List.cons_append, lts_cons, lts_succ j k]
    have e : eqs (a :: j) (b :: k) = (a == b && eqs j k) := rfl
    rw [e]
    cases decide (a < b) <;> cases (a == b) <;> cases lts j k <;> cases eqs j k <;> rfl

theorem eqs_comm (a b : B) : eqs a b = eqs b a := by
  cases h : eqs b a
  · cases h2 : eqs a b
    · rfl
    · rw [eqs_iff.1 h2, eqs_self] at h; cases h
  · rw [eqs_iff.1 h, eqs_self]

theorem one_has (k j : B) : hasB (k, k ++ [0]) j = eqs k j := by
  rw [hasB_eq]
  have e : eqs (k ++ [0]) [] = false := eqs_ne (by simp)
  have s : eqs k j = eqs j k := eqs_comm k j
  simp only [belowB, e, Bool.false_or, lts_succ, s]
  cases h : eqs j k
  · cases lts j k <;> rfl
  · have := eqs_iff.1 h; subst this
    rw [lts_irrefl]; rfl

/-- what a message writes, reads, kills -/
def wr (m : Mg) : List Sp := bif eqi m.1 1 || eqi m.1 2 then [(m.2.1, m.2.1 ++ [0])] else bif eqi m.1 4 then [preB m.2.2.2.2.1, preB m.2.2.2.2.2.1] else bif eqi m.1 5 then [preB m.2.2.2.2.2.1] else [m.2.2.2.1]
def rds (m : Mg) : List Sp := bif eqi m.1 4 || eqi m.1 5 then [preB m.2.2.2.2.1] else bif eqi m.1 6 then [m.2.2.2.1] else []
def kls (m : Mg) : List Sp := bif eqi m.1 6 then [] else wr m

section said
variable {m : Mg} (hm : Good m)
include hm
theorem Writes_ok : msg_Writes NN m = some (wr m) ∧ ref05_Writes NN m = some (wr m) := by
  cases hm with
  | put k v x hk hv h0 h1 =>
    have := good_key hk
    have e : msg_of NN ((1, k, v, ([], []), [], [], x) : Mg) = some (.inl (1, k, v, ([], []), [], [], x)) := rfl
    have e1 : span_One NN k = some (k, k ++ [0]) := by
      simp only [span_One]; rw [gd_p (by simp only [maxS, List.length_cons, List.length_nil]; omega)]
    have e2 : ref02_One NN k = some (k, k ++ [0]) := by
      simp only [ref02_One]; rw [gd_p (by simp only [maxS, List.length_cons, List.length_nil]; omega)]
    refine ⟨?_, ?_⟩
    · simp only [msg_Writes, e, msg_put_writes, e1]; rfl
    · simp only [ref05_Writes, eqi_self, cond_true, e2]; rfl
  | del k hk =>
    have := good_key hk
    have e : msg_of NN ((2, k, [], ([], []), [], [], 0) : Mg) = some (.inr (.inl (2, k, [], ([], []), [], [], 0))) := rfl
    have e1 : span_One NN k = some (k, k ++ [0]) := by
      simp only [span_One]; rw [gd_p (by simp only [maxS, List.length_cons, List.length_nil]; omega)]
    have e2 : ref02_One NN k = some (k, k ++ [0]) := by
      simp only [ref02_One]; rw [gd_p (by simp only [maxS, List.length_cons, List.length_nil]; omega)]
    have j1 : eqi (2 : Int) 1 = false := by decide
    refine ⟨?_, ?_⟩
    · simp only [msg_Writes, e, msg_del_writes, e1]; rfl
    · simp only [ref05_Writes, j1, cond_false, eqi_self, cond_true, e2]; rfl
  | drop s hs => exact ⟨rfl, rfl⟩
  | move e he =>
    obtain ⟨h1, h2⟩ := ends_path he
    have e' : msg_of NN ((4, [], [], ([], []), e.1, e.2, 0) : Mg) = some (.inr (.inr (.inr (.inl (4, [], [], ([], []), e.1, e.2, 0))))) := rfl
    have j1 : eqi (4 : Int) 1 = false := by decide
    have j2 : eqi (4 : Int) 2 = false := by decide
    refine ⟨?_, ?_⟩
    · simp only [msg_Writes, e', msg_move_writes, (pre_ok h1).1, (pre_ok h2).1]; rfl
    · simp only [ref05_Writes, j1, j2, cond_false, eqi_self, cond_true, (pre_ok h1).2, (pre_ok h2).2]; rfl
  | clone e he =>
    obtain ⟨h1, h2⟩ := ends_path he
    have e' : msg_of NN ((5, [], [], ([], []), e.1, e.2, 0) : Mg) = some (.inr (.inr (.inr (.inr (.inl (5, [], [], ([], []), e.1, e.2, 0)))))) := rfl
    have j1 : eqi (5 : Int) 1 = false := by decide
    have j2 : eqi (5 : Int) 2 = false := by decide
    have j3 : eqi (5 : Int) 4 = false := by decide
    refine ⟨?_, ?_⟩
    · simp only [msg_Writes, e', msg_clone_writes, (pre_ok h2).1]; rfl
    · simp only [ref05_Writes, j1, j2, j3, cond_false, eqi_self, cond_true, (pre_ok h2).2]; rfl
  | stamp s x hs h0 h1 => exact ⟨rfl, rfl⟩
theorem Reads_ok : msg_Reads NN m = some (rds m) ∧ ref05_Reads NN m = some (rds m) := by
  cases hm with
  | put k v x hk hv h0 h1 => exact ⟨rfl, rfl⟩
  | del k hk => exact ⟨rfl, rfl⟩
  | drop s hs => exact ⟨rfl, rfl⟩
  | move e he =>
    obtain ⟨h1, h2⟩ := ends_path he
    have e' : msg_of NN ((4, [], [], ([], []), e.1, e.2, 0) : Mg) = some (.inr (.inr (.inr (.inl (4, [], [], ([], []), e.1, e.2, 0))))) := rfl
    refine ⟨?_, ?_⟩
    · simp only [msg_Reads, e', msg_move_reads, (pre_ok h1).1]; rfl
    · simp only [ref05_Reads, eqi_self, cond_true, (pre_ok h1).2]; rfl
  | clone e he =>
    obtain ⟨h1, h2⟩ := ends_path he
    have e' : msg_of NN ((5, [], [], ([], []), e.1, e.2, 0) : Mg) = some (.inr (.inr (.inr (.inr (.inl (5, [], [], ([], []), e.1, e.2, 0)))))) := rfl
    have j3 : eqi (5 : Int) 4 = false := by decide
    refine ⟨?_, ?_⟩
    · simp only [msg_Reads, e', msg_clone_reads, (pre_ok h1).1]; rfl
    · simp only [ref05_Reads, j3, cond_false, eqi_self, cond_true, (pre_ok h1).2]; rfl
  | stamp s x hs h0 h1 => exact ⟨rfl, rfl⟩
theorem Kills_ok : msg_Kills NN m = some (kls m) ∧ ref05_Kills NN m = some (kls m) := by
  obtain ⟨h1, h2⟩ := Writes_ok hm
  simp only [msg_Kills, ref05_Kills, h1, h2, kls]
  cases eqi m.1 6 <;> exact ⟨rfl, rfl⟩
theorem wr_len : (wr m).length ≤ 2 ∧ (rds m).length ≤ 1 ∧ (kls m).length ≤ 2 := by
  cases hm <;> exact ⟨Nat.le_of_ble_eq_true rfl, Nat.le_of_ble_eq_true rfl, Nat.le_of_ble_eq_true rfl⟩
end said

/-! ## key by key -/
section keys
variable {t : List Pr}
theorem fnd_put (k v : B) (x : Int) (j : B) : fnd (app (putMsg k v x) t) j = bif eqs k j then some (v, x) else fnd t j := fnd_insT (k, v, x) t j
theorem fnd_del (k j : B) : fnd (app (delMsg k) t) j = bif eqs k j then none else fnd t j := by
  show fnd (t.filter fun p => !(hasB (k, k ++ [0]) p.1)) j = _
  rw [fnd_filter (fun x => !(hasB (k, k ++ [0]) x)), one_has]
  cases eqs k j <;> rfl
theorem fnd_drop (s : B × B) (j : B) : fnd (app (dropMsg s) t) j = bif hasB s j then none else fnd t j := by
  show fnd (t.filter fun p => !(hasB s p.1)) j = _
  rw [fnd_filter (fun x => !(hasB s x))]
  cases hasB s j <;> rfl
theorem fnd_clone {e : B × B} (he : e ∈ ends) (hs : Srt t) (j : B) : fnd (app (mv 5 e) t) j = bif e.2.isPrefixOf j then fnd t (e.1 ++ j.drop e.2.length) else fnd t j := by
  show fnd (uniT (t.filter fun p => !(hasB (preB e.2) p.1)) (mvd e.1 e.2 t)) j = _
  rw [uniT_fnd (hs.mvd e.1 e.2), fnd_mvd, fnd_filter (fun x => !(hasB (preB e.2) x)), hasB_pre (ends_path he).2]
  cases e.2.isPrefixOf j
  · rfl
  · simp only [cond_true, Bool.not_true, cond_false]
    cases fnd t (e.1 ++ j.drop e.2.length) <;> rfl
theorem fnd_move {e : B × B} (he : e ∈ ends) (hs : Srt t) (j : B) : fnd (app (mv 4 e) t) j = bif e.1.isPrefixOf j then none else bif e.2.isPrefixOf j then fnd t (e.1 ++ j.drop e.2.length) else fnd t j := by
  show fnd ((app (mv 5 e) t).filter fun p => !(hasB (preB e.1) p.1)) j = _
  rw [fnd_filter (fun x => !(hasB (preB e.1) x)), hasB_pre (ends_path he).1, fnd_clone he hs]
  cases e.1.isPrefixOf j <;> rfl
theorem fnd_stamp (s : B × B) (x : Int) (j : B) : fnd (app (stampMsg s x) t) j = bif hasB s j then (fnd t j).map (fun v => (v.1, x)) else fnd t j := by
  show fnd (t.map (stp s x)) j = _
  have e : stp s x = fun p => (p.1, (fun (k : B) (v : B × Int) => bif hasB s k then (v.1, x) else v) p.1 p.2) := by
    funext p; simp only [stp]; cases hasB s p.1 <;> rfl
  rw [e, fnd_map (fun (k : B) (v : B × Int) => bif hasB s k then (v.1, x) else v)]
  cases hasB s j
  · cases fnd t j <;> rfl
  · rfl
end keys

theorem in2 (a b : Sp) (k : B) : inS [a, b] k = (hasB a k || hasB b k) := by simp [inS]

/-- outside of what a message writes, all is as it was -/
theorem app_out {m : Mg} (hm : Good m) {t : List Pr} (hs : Srt t) {k : B} (hk : inS (wr m) k = false) : fnd (app m t) k = fnd t k := by
  cases hm with
  | put j v x => 
    have e : inS (wr (1, j, v, ([], []), [], [], x)) k = hasB (j, j ++ [0]) k := in1 _ _
    rw [e, one_has] at hk
    exact (fnd_put j v x k).trans (by rw [hk]; rfl)
  | del j =>
    have e : inS (wr (2, j, [], ([], []), [], [], 0)) k = hasB (j, j ++ [0]) k := in1 _ _
    rw [e, one_has] at hk
    exact (fnd_del j k).trans (by rw [hk]; rfl)
  | drop s =>
    have e : inS (wr (3, [], [], (s.1, s.2), [], [], 0)) k = hasB s k := in1 _ _
    rw [e] at hk
    exact (fnd_drop s k).trans (by rw [hk]; rfl)
  | move e he =>
    have e' : inS (wr (mv 4 e)) k = (hasB (preB e.1) k || hasB (preB e.2) k) := in2 _ _ _
    have hk : inS (wr (mv 4 e)) k = false := hk
    rw [e', hasB_pre (ends_path he).1, hasB_pre (ends_path he).2, Bool.or_eq_false_iff] at hk
    exact (fnd_move he hs k).trans (by rw [hk.1, hk.2]; rfl)
  | clone e he =>
    have e' : inS (wr (mv 5 e)) k = hasB (preB e.2) k := in1 _ _
    have hk : inS (wr (mv 5 e)) k = false := hk
    rw [e', hasB_pre (ends_path he).2] at hk
    exact (fnd_clone he hs k).trans (by rw [hk]; rfl)
  | stamp s x =>
    have e : inS (wr (6, [], [], (s.1, s.2), [], [], x)) k = hasB s k := in1 _ _
    rw [e] at hk
    exact (fnd_stamp s x k).trans (by rw [hk]; rfl)

theorem pre_src {e : B × B} (he : e ∈ ends) (k : B) : hasB (preB e.1) (e.1 ++ k) = true := by
  rw [hasB_pre (ends_path he).1]; simp

/-- what a message writes hangs on what it reads alone -/
theorem app_in {m : Mg} (hm : Good m) {s t : List Pr} (hs : Srt s) (ht : Srt t) {k : B} (hk : inS (wr m) k = true) (h : ∀ j, inS (rds m) j = true → fnd s j = fnd t j) : fnd (app m s) k = fnd (app m t) k := by
  cases hm with
  | put j v x => 
    have e : inS (wr (1, j, v, ([], []), [], [], x)) k = hasB (j, j ++ [0]) k := in1 _ _
    rw [e, one_has] at hk
    have a := fnd_put (t := s) j v x k
    have b := fnd_put (t := t) j v x k
    rw [hk] at a b
    exact a.trans b.symm
  | del j =>
    have e : inS (wr (2, j, [], ([], []), [], [], 0)) k = hasB (j, j ++ [0]) k := in1 _ _
    rw [e, one_has] at hk
    have a := fnd_del (t := s) j k
    have b := fnd_del (t := t) j k
    rw [hk] at a b
    exact a.trans b.symm
  | drop q =>
    have e : inS (wr (3, [], [], (q.1, q.2), [], [], 0)) k = hasB q k := in1 _ _
    rw [e] at hk
    have a := fnd_drop (t := s) q k
    have b := fnd_drop (t := t) q k
    rw [hk] at a b
    exact a.trans b.symm
  | move e he =>
    have a := fnd_move he hs k
    have b := fnd_move he ht k
    have e' : inS (wr (mv 4 e)) k = (hasB (preB e.1) k || hasB (preB e.2) k) := in2 _ _ _
    have hk : inS (wr (mv 4 e)) k = true := hk
    rw [e', hasB_pre (ends_path he).1, hasB_pre (ends_path he).2] at hk
    refine a.trans (Eq.trans ?_ b.symm)
    cases q1 : e.1.isPrefixOf k
    · rw [q1, Bool.false_or] at hk
      rw [hk]
      exact h _ ((in1 _ _).trans (pre_src he _))
    · rfl
  | clone e he =>
    have a := fnd_clone he hs k
    have b := fnd_clone he ht k
    have e' : inS (wr (mv 5 e)) k = hasB (preB e.2) k := in1 _ _
    have hk : inS (wr (mv 5 e)) k = true := hk
    rw [e', hasB_pre (ends_path he).2] at hk
    refine a.trans (Eq.trans ?_ b.symm)
    rw [hk]
    exact h _ ((in1 _ _).trans (pre_src he _))
  | stamp q x =>
    have e : inS (wr (6, [], [], (q.1, q.2), [], [], x)) k = hasB q k := in1 _ _
    rw [e] at hk
    have a := fnd_stamp (t := s) q x k
    have b := fnd_stamp (t := t) q x k
    refine a.trans (Eq.trans ?_ b.symm)
    rw [h k ((in1 _ _).trans hk)]

theorem kls_wr {m : Mg} {k : B} (h : inS (kls m) k = true) : inS (wr m) k = true := by
  unfold kls at h
  cases e : eqi m.1 6
  · rw [e] at h; exact h
  · rw [e] at h; cases h

/-! ## freedom -/
def touchB (l m : List Sp) : Bool := l.any fun a => m.any fun b => !(emptyB (meetB a b))
def freeB (m n : Mg) : Bool := !(touchB (wr m) (wr n)) && (!(touchB (wr m) (rds n)) && !(touchB (wr n) (rds m)))

theorem touch_no {l m : List Sp} (h : touchB l m = false) (k : B) : (inS l k && inS m k) = false := by
  cases h1 : inS l k
  · rfl
  · cases h2 : inS m k
    · rfl
    · exfalso
      obtain ⟨a, ha, ka⟩ := List.any_eq_true.1 h1
      obtain ⟨b, hb, kb⟩ := List.any_eq_true.1 h2
      have : touchB l m = true := List.any_eq_true.2 ⟨a, ha, List.any_eq_true.2 ⟨b, hb, by
        cases e : emptyB (meetB a b)
        · rfl
        · have := meet_none e k
          rw [ka, kb] at this; cases this⟩⟩
      rw [h] at this; cases this

theorem empty_comm (a b : Sp) : emptyB (meetB a b) = emptyB (meetB b a) := by
  have e1 : maxB' a.1 b.1 = maxB' b.1 a.1 := by
    unfold maxB'
    rcases lts_tri a.1 b.1 with h | h | h
    · rw [h, lts_asymm h]; rfl
    · rw [h]
    · rw [h, lts_asymm h]; rfl
  have e2 : (bif lessB b.2 a.2 then b.2 else a.2) = (bif lessB a.2 b.2 then a.2 else b.2) := by
    simp only [lessB]
    cases h1 : eqs a.2 [] <;> cases h2 : eqs b.2 []
    · simp only [Bool.not_false, Bool.false_or, Bool.true_and]
      rcases lts_tri a.2 b.2 with h | h | h
      · rw [h, lts_asymm h]; rfl
      · rw [h]
      · rw [h, lts_asymm h]; rfl
    · rfl
    · rfl
    · rw [eqs_iff.1 h1, eqs_iff.1 h2]
  unfold meetB meetR
  rw [e1, e2]

theorem any_comm (l m : List Sp) (f : Sp → Sp → Bool) (hf : ∀ a b, f a b = f b a) : (l.any fun a => m.any fun b => f a b) = (m.any fun a => l.any fun b => f a b) := by
  rw [Bool.eq_iff_iff]
  simp only [List.any_eq_true]
  constructor
  · rintro ⟨a, ha, b, hb, h⟩
    exact ⟨b, hb, a, ha, by rw [hf]; exact h⟩
  · rintro ⟨a, ha, b, hb, h⟩
    exact ⟨b, hb, a, ha, by rw [hf]; exact h⟩
theorem touch_comm (l m : List Sp) : touchB l m = touchB m l := any_comm l m _ fun a b => by rw [empty_comm]

theorem free_comm (m n : Mg) : freeB m n = freeB n m := by
  unfold freeB
  rw [touch_comm (wr m) (wr n)]
  cases touchB (wr n) (wr m) <;> cases touchB (wr m) (rds n) <;> cases touchB (wr n) (rds m) <;> rfl

/-- free messages may change places -/
theorem free_swap {m n : Mg} (hm : Good m) (hn : Good n) {t : List Pr} (hs : Srt t) (hsm : Srt (app m t)) (hsn : Srt (app n t)) (hf : freeB m n = true) (k : B) : fnd (app n (app m t)) k = fnd (app m (app n t)) k := by
  simp only [freeB, Bool.and_eq_true, Bool.not_eq_true'] at hf
  obtain ⟨f1, f2, f3⟩ := hf
  have no : ∀ {l m : List Sp}, touchB l m = false → ∀ {j : B}, inS m j = true → inS l j = false := fun h j hj => by
    have := touch_no h j
    rw [hj, Bool.and_true] at this; exact this
  cases q1 : inS (wr m) k
  · cases q2 : inS (wr n) k
    · rw [app_out hn hsm q2, app_out hm hs q1, app_out hm hsn q1, app_out hn hs q2]
    · rw [app_out hm hsn q1]
      exact app_in hn hsm hs q2 fun j hj => app_out hm hs (no f2 hj)
  · have q2 : inS (wr n) k = false := by
      have := touch_no f1 k
      rw [q1, Bool.true_and] at this; exact this
    rw [app_out hn hsm q2]
    exact (app_in hm hsn hs q1 fun j hj => app_out hn hs (no f3 hj)).symm
end Ds
