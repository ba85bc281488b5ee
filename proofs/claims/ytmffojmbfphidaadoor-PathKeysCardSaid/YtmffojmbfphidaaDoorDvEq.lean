/- Types whose values are compared cell by cell. -/
import Derived.Test.YtmffojmbfphidaaDoorDvOps2
set_option linter.all false
namespace Go.Dv
open Go.RowKit

variable [LTab]

def nlEq : List Nat → List Nat → Bool
  | [], [] => true
  | a :: as, b :: bs => Nat.beq a b && nlEq as bs
  | _, _ => false

theorem nlEq_ok : ∀ {a b : List Nat}, nlEq a b = true → a = b
  | [], [], _ => rfl
  | a :: as, b :: bs, h => by
    simp only [nlEq, Bool.and_eq_true] at h
    rw [Nat.eq_of_beq_eq_true h.1, nlEq_ok h.2]
  | [], _ :: _, h => by cases h
  | _ :: _, [], h => by cases h

/-- the kinds of the cells of a type's values, if all of them are numbers, truth values and strings -/
def eqSh (P : Program) : Nat → TypeId → Option (List Nat)
  | 0, _ => none
  | d + 1, t => match P.underlying t, P.info? t with
    | some .bool, some _ => some [1]
    | some (.int _), some _ => some [0]
    | some .string, some _ => some [2]
    | some (.struct fs), some i => bif P.stoodInHeld t then none else
      (match fs.toList.foldl (fun o f => match o with
        | some ks => bif Nat.beq f.offset ks.length && (f.name != "_") then (match eqSh P d f.type with | some n => some (ks ++ n) | none => none) else none
        | none => none) (some []) with
      | some n => bif Nat.beq i.size n.length then some n else none
      | none => none)
    | _, _ => none

def eqFs (P : Program) (d : Nat) (o : Option (List Nat)) (fs : List Field) : Option (List Nat) :=
  fs.foldl (fun o f => match o with
        | some ks => bif Nat.beq f.offset ks.length && (f.name != "_") then (match eqSh P d f.type with | some n => some (ks ++ n) | none => none) else none
        | none => none) o

theorem eqFs_none (P : Program) (d : Nat) : ∀ fs, eqFs P d none fs = none
  | [] => rfl
  | f :: fs => by simpa [eqFs] using eqFs_none P d fs

theorem eqFs_cons {P : Program} {d : Nat} {off n : List Nat} {f : Field} {fs : List Field} (h : eqFs P d (some off) (f :: fs) = some n) : f.offset = off.length ∧ f.name ≠ "_" ∧ ∃ k, eqSh P d f.type = some k ∧ eqFs P d (some (off ++ k)) fs = some n := by
  unfold eqFs at h
  simp only [List.foldl_cons] at h
  cases hc : (Nat.beq f.offset off.length && (f.name != "_")) with
  | false => rw [hc] at h; have := eqFs_none P d fs; unfold eqFs at this; rw [cond_false, this] at h; cases h
  | true =>
    rw [hc] at h
    simp only [cond_true] at h
    simp only [Bool.and_eq_true, bne_iff_ne] at hc
    cases hk : eqSh P d f.type with
    | none => rw [hk] at h; have := eqFs_none P d fs; unfold eqFs at this; rw [this] at h; cases h
    | some k =>
      rw [hk] at h
      exact ⟨Nat.eq_of_beq_eq_true hc.1, hc.2, k, rfl, h⟩

def eqB (P : Program) (t : Nat) (n : List Nat) : Bool :=
  (match P.underlying t with | some (.struct _) => true | _ => false) && ((match eqSh P 20 t with | some k => nlEq k n | none => false) && !(P.eqGuardType P.depth t))

theorem kindsOf_length : ∀ cs : List AV, (kindsOf cs).length = cs.length
  | [] => rfl
  | _ :: cs => by simp [kindsOf, kindsOf_length cs]

theorem kindsOf_take : ∀ (cs : List AV) (k : Nat), kindsOf (cs.take k) = (kindsOf cs).take k
  | [], k => by simp [kindsOf]
  | _ :: _, 0 => rfl
  | c :: cs, k + 1 => by simp [kindsOf, kindsOf_take cs k]

theorem kindsOf_drop : ∀ (cs : List AV) (k : Nat), kindsOf (cs.drop k) = (kindsOf cs).drop k
  | [], k => by simp [kindsOf]
  | _ :: _, 0 => rfl
  | c :: cs, k + 1 => by simp [kindsOf, kindsOf_drop cs k]

theorem eqCells_cons {a b : AV} {as bs : List AV} {r : Bool} (h : eqCells (a :: as) (b :: bs) = some r) : ∃ x y, eqCell a b = some x ∧ eqCells as bs = some y ∧ r = (x && y) := by
  simp only [eqCells] at h
  split at h
  · rename_i x hx
    split at h
    · rename_i y hy
      cases h
      exact ⟨x, y, hx, hy, rfl⟩
    · cases h
  · cases h

theorem eqCells_split : ∀ (k : Nat) {cs ds : List AV} {r : Bool}, eqCells cs ds = some r → ∃ x y, eqCells (cs.take k) (ds.take k) = some x ∧ eqCells (cs.drop k) (ds.drop k) = some y ∧ r = (x && y)
  | 0, cs, ds, r, h => ⟨true, r, rfl, h, by simp⟩
  | k + 1, [], [], r, h => by cases h; exact ⟨true, true, rfl, rfl, rfl⟩
  | k + 1, [], _ :: _, r, h => by cases h
  | k + 1, _ :: _, [], r, h => by cases h
  | k + 1, a :: as, b :: bs, r, h => by
    obtain ⟨x, y, h1, h2, rfl⟩ := eqCells_cons h
    obtain ⟨z, u, k1, k2, rfl⟩ := eqCells_split k h2
    refine ⟨x && z, u, ?_, k2, by rw [Bool.and_assoc]⟩
    simp only [List.take_succ_cons, eqCells, h1, k1]

theorem eqCells_len : ∀ {cs ds : List AV} {r : Bool}, eqCells cs ds = some r → ds.length = cs.length
  | [], [], _, _ => rfl
  | [], _ :: _, _, h => by cases h
  | _ :: _, [], _, h => by cases h
  | a :: as, b :: bs, r, h => by
    obtain ⟨x, y, h1, h2, rfl⟩ := eqCells_cons h
    simp [eqCells_len h2]

section eq
variable {P : Program} {w : World} {S : Nat → Prop} {γ : Nat → Loc} {m : Nat → Option MO}

theorem part_scalar {t : TypeId} {d : TypeDesc} (hu : P.underlying t = some d) (hd : (match d with | .struct _ => false | .array _ _ => false | _ => true) = true) {xs : Array Value} {off : Nat} {v : Value} (hx : (xs.toList.drop off).take 1 = [v]) : (part t xs off).run P w = .ok v w := by
  have h1 : xs[off]? = some v := by
    have : (xs.toList.drop off)[0]? = some v := by
      cases hq : xs.toList.drop off with
      | nil => rw [hq] at hx; cases hx
      | cons a l => rw [hq] at hx; simp at hx; simp [hx]
    simpa using this
  cases d <;> first | cases hd; done | simp [part, isAgg, run_underlying hu, h1]

theorem run_sizeOf' {t : TypeId} {i : TypeInfo} (h : P.info? t = some i) : (sizeOf t).run P w = .ok i.size w := by
  simp [sizeOf, run_typeInfo w h]

theorem eq_part : ∀ (d : Nat) {D : Nat} (_ : d ≤ D) {t : TypeId} {ks : List Nat} (_ : eqSh P d t = some ks) {xs ys : Array Value} {off : Nat} {vs us : List Value} (_ : (xs.toList.drop off).take ks.length = vs) (_ : (ys.toList.drop off).take ks.length = us) {cs ds : List AV} {b : Bool}
    (_ : kindsOf cs = ks) (_ : RepAs w S γ m cs vs) (_ : RepAs w S γ m ds us) (_ : eqCells cs ds = some b), ∃ a c, (part t xs off).run P w = .ok a w ∧ (part t ys off).run P w = .ok c w ∧ (Op.equalIn D t a c).run P w = .ok b w
  | 0, D, _, t, ks, h, _, _, _, _, _, _, _, _, _, _, _, _, _, _ => by cases h
  | d + 1, 0, hD, _, _, _, _, _, _, _, _, _, _, _, _, _, _, _, _, _ => by omega
  | d + 1, D + 1, hD, t, ks, h, xs, ys, off, vs, us, hx, hy, cs, ds, b, hk, hr, hr', he => by
    unfold eqSh at h
    have one : ∀ {n : Nat}, ks = [n] → ∃ c e x u v, cs = [c] ∧ ds = [e] ∧ vs = [u] ∧ us = [v] ∧ kindOf c = n ∧ eqCell c e = some x ∧ b = x ∧ RepA w S γ m c u ∧ RepA w S γ m e v := by
      intro n hn
      have hl := kindsOf_length cs
      rw [hk, hn] at hl
      match cs, ds, hl, hk, hr, hr', he with
      | [c], [], _, _, _, _, he => cases he
      | [c], [e], _, hk, hr, hr', he =>
        obtain ⟨u, us', rfl, k1, k2⟩ := hr
        obtain ⟨v, vs', rfl, k3, k4⟩ := hr'
        obtain ⟨x, y, j1, j2, rfl⟩ := eqCells_cons he
        cases j2
        rw [hn] at hk
        simp only [kindsOf, List.cons.injEq, and_true] at hk
        exact ⟨c, e, x, u, v, rfl, rfl, by rw [show us' = [] from k2], by rw [show vs' = [] from k4], hk, j1, by simp, k1, k3⟩
      | [c], _ :: _ :: _, _, _, _, _, he =>
        obtain ⟨x, y, j1, j2, rfl⟩ := eqCells_cons he
        cases j2
    split at h
    · rename_i i hu hi
      cases h
      obtain ⟨c, e, x, u, v, rfl, rfl, rfl, rfl, k1, k2, rfl, k3, k4⟩ := one rfl
      refine ⟨u, v, part_scalar hu rfl hx, part_scalar hu rfl hy, ?_⟩
      cases c <;> cases k1
      cases e <;> simp only [eqCell] at k2 <;> try (cases k2; done)
      cases k2
      simp only [RepA] at k3 k4
      subst k3; subst k4
      exact run_equalIn_bool' w D t _ _ hu
    · rename_i k i hu hi
      cases h
      obtain ⟨c, e, x, u, v, rfl, rfl, rfl, rfl, k1, k2, rfl, k3, k4⟩ := one rfl
      refine ⟨u, v, part_scalar hu rfl hx, part_scalar hu rfl hy, ?_⟩
      cases c <;> cases k1
      cases e <;> simp only [eqCell] at k2 <;> try (cases k2; done)
      split at k2
      · rename_i q _
        have := ik_some (by assumption)
        subst this
        cases k2
        simp only [RepA] at k3 k4
        subst k3; subst k4
        exact run_equalIn_int w D t _ _ _ _ hu
      · cases k2
    · rename_i i hu hi
      cases h
      obtain ⟨c, e, x, u, v, rfl, rfl, rfl, rfl, k1, k2, rfl, k3, k4⟩ := one rfl
      refine ⟨u, v, part_scalar hu rfl hx, part_scalar hu rfl hy, ?_⟩
      cases c <;> cases k1
      cases e <;> simp only [eqCell] at k2 <;> try (cases k2; done)
      cases k2
      simp only [RepA] at k3 k4
      subst k3; subst k4
      rw [run_equalIn_string w D t _ _ hu]
      simp [eqs, ByteArray.toList_eq]
    · rename_i fs i hu hi
      rcases bif_some h with ⟨_, h⟩ | ⟨hst, h⟩
      · cases h
      · split at h
        · rename_i n hn
          rcases bif_some h with ⟨hsz, h⟩ | ⟨_, h⟩
          · simp only [Option.some.injEq] at h
            subst h
            have hsz := Nat.eq_of_beq_eq_true hsz
            have pt : ∀ {zs : Array Value} {us : List Value}, (zs.toList.drop off).take n.length = us → (part t zs off).run P w = .ok (.agg us.toArray) w := by
              intro zs us hz
              have e : zs.extract off (off + i.size) = us.toArray := by
                apply Array.ext'
                simp only [Array.toList_extract, List.extract_eq_take_drop]
                rw [← hz, hsz]
                congr 1
                omega
              simp only [part, isAgg, Sem.run_bind, run_underlying hu, Result.andThen_ok, Sem.run_pure, if_true, run_sizeOf' hi]
              rw [e]
            refine ⟨_, _, pt hx, pt hy, ?_⟩
            have hfo : P.underlying t = some (.struct (P.fieldsOf t)) := by simp [Program.fieldsOf, hu]
            rw [run_equalIn_struct w D t _ _ hfo hst]
            have hfs : (P.fieldsOf t).toList = fs.toList := by simp [Program.fieldsOf, hu]
            rw [hfs]
            -- the fields
            have go : ∀ (l : List Field) (o : List Nat), eqFs P d (some o) l = some n → ∀ {b : Bool}, eqCells (cs.drop o.length) (ds.drop o.length) = some b → (Op.eqFields D vs.toArray us.toArray l).run P w = .ok b w := by
              intro l
              induction l with
              | nil =>
                intro o ho b hb
                simp only [eqFs, List.foldl_nil, Option.some.injEq] at ho
                subst ho
                have hl := kindsOf_length cs
                rw [hk] at hl
                rw [List.drop_of_length_le (by omega), List.drop_of_length_le (by rw [eqCells_len he]; omega)] at hb
                cases hb
                simp [Op.eqFields]
              | cons f l ih =>
                intro o ho b hb
                obtain ⟨h1, h2, k, h3, h4⟩ := eqFs_cons ho
                obtain ⟨x, y, j1, j2, rfl⟩ := eqCells_split k.length hb
                have hkk : kindsOf ((cs.drop o.length).take k.length) = k := by
                  rw [kindsOf_take, kindsOf_drop, hk]
                  have pre : ∀ (l : List Field) (o n : List Nat), eqFs P d (some o) l = some n → ∃ z, n = o ++ z := by
                    intro l
                    induction l with
                    | nil => intro o n h; simp only [eqFs, List.foldl_nil, Option.some.injEq] at h; exact ⟨[], by simp [h]⟩
                    | cons f l ih =>
                      intro o n h
                      obtain ⟨_, _, k, _, h4⟩ := eqFs_cons h
                      obtain ⟨z, rfl⟩ := ih _ _ h4
                      exact ⟨k ++ z, by simp⟩
                  obtain ⟨z, rfl⟩ := pre l _ _ h4
                  simp
                obtain ⟨a, c, i1, i2, i3⟩ := eq_part d (D := D) (by omega) h3 (xs := vs.toArray) (ys := us.toArray) (off := o.length) rfl rfl hkk (by simpa using (hr.drop o.length).take k.length) (by simpa using (hr'.drop o.length).take k.length) j1
                simp only [Op.eqFields, if_pos h2, Sem.run_bind, h1, i1, i2, i3, Result.andThen_ok]
                cases x with
                | false => simp
                | true =>
                  simp only [Bool.not_true, Bool.false_eq_true, if_false, Bool.true_and]
                  exact ih (o ++ k) h4 (by rw [List.length_append, ← List.drop_drop, ← List.drop_drop]; exact j2)
            exact go fs.toList [] hn (by simpa using he)
          · cases h
        · cases h
    · cases h

theorem eqB_ok {t : TypeId} {n : List Nat} (h : eqB P t n = true) : EqOk P t n ∧ P.eqGuardType P.depth t = false := by
  simp only [eqB, Bool.and_eq_true, Bool.not_eq_true'] at h
  obtain ⟨h1, h2, h3⟩ := h
  refine ⟨fun w S γ m cs ds vs us b hk hr hr' he => ?_, h3⟩
  split at h2
  · rename_i k hk'
    have := nlEq_ok h2
    subst this
    have hl := kindsOf_length cs
    rw [hk] at hl
    obtain ⟨a, c, i1, i2, i3⟩ := eq_part 20 (D := 10000) (by omega) hk' (xs := vs.toArray) (ys := us.toArray) (off := 0) (vs := vs) (us := us) (by simp only [List.drop_zero]; exact List.take_of_length_le (by rw [hr.length, hl]; exact Nat.le_refl _)) (by simp only [List.drop_zero]; exact List.take_of_length_le (by rw [hr'.length, eqCells_len he, hl]; exact Nat.le_refl _)) hk hr hr' he
    have pt : ∀ {zs : List Value}, zs.length = k.length → (part t zs.toArray 0).run P w = .ok (.agg zs.toArray) w := by
      intro zs hz
      unfold eqSh at hk'
      split at h1
      · rename_i fs hu
        rw [hu] at hk'
        cases hi : P.info? t with
        | none => rw [hi] at hk'; simp at hk'
        | some i =>
          rw [hi] at hk'
          simp only at hk'
          rcases bif_some hk' with ⟨_, h⟩ | ⟨hst, h⟩
          · cases h
          · split at h
            · rename_i n hn
              rcases bif_some h with ⟨hsz, h⟩ | ⟨_, h⟩
              · cases h
                have hsz := Nat.eq_of_beq_eq_true hsz
                simp only [part, isAgg, Sem.run_bind, run_underlying hu, Result.andThen_ok, Sem.run_pure, if_true, run_sizeOf' hi]
                have e : zs.toArray.extract 0 (0 + i.size) = zs.toArray := by
                  apply Array.ext'
                  simp [hsz, ← hz]
                rw [e]
              · cases h
            · cases h
      · cases h1
    rw [pt (by rw [hr.length, hl])] at i1
    rw [pt (by rw [hr'.length, eqCells_len he, hl])] at i2
    cases i1; cases i2
    exact i3
  · cases h2

end eq
end Go.Dv
