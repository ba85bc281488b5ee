/- Operations that write nothing that is there already: what the evaluator says of them is what the model does. -/
import Derived.Test.YtmffojmbfphidaaDoorDvObj
set_option linter.all false
namespace Go.Dv
open Go.RowKit

variable [LTab]

variable {R : Type}

/-- what an operation of this sort comes to -/
def CoreOk (w : World) (S : Nat → Prop) (γ : Nat → Loc) (m : Nat → Option MO) (dst : Option Nat) (run : Result Next) (K : AV → Option MO → Option R) (r : R) : Prop :=
  ∃ x w' v ob, run = .ok (.value x) w' ∧ Below w.heap.size w w' ∧ K v ob = some r ∧
    (match ob with
    | none => RepA w' S γ m v x
    | some ob => ∃ d l, dst = some d ∧ ob.live = true ∧ (∀ b, l.blk = some b → w.heap.size ≤ b) ∧
        (m d = none → ObjRel w' S (gupd γ d l) (mupd m d ob) d ob ∧ RepA w' S (gupd γ d l) (mupd m d ob) v x))

theorem CoreOk.pure {w : World} {S : Nat → Prop} {γ : Nat → Loc} {m : Nat → Option MO} {dst : Option Nat} {run : Result Next} {K : AV → Option MO → Option R} {r : R} {v : AV} {x : Value}
    (hr : run = .ok (.value x) w) (hv : RepA w S γ m v x) (hk : K v none = some r) : CoreOk w S γ m dst run K r :=
  ⟨x, w, v, none, hr, Below.refl _ _, hk, hv⟩

theorem gd_some {b : Bool} {k : Option R} {r : R} (h : gd b k = some r) : b = true ∧ k = some r := by
  cases b with
  | true => exact ⟨rfl, h⟩
  | false => simp [gd] at h

theorem bif_some {b : Bool} {x y : Option R} {r : R} (h : (bif b then x else y) = some r) : (b = true ∧ x = some r) ∨ (b = false ∧ y = some r) := by
  cases b with
  | true => exact .inl ⟨rfl, h⟩
  | false => exact .inr ⟨rfl, h⟩

def aggV (b : Bool) (vs : List Value) : Value := match b with | true => .agg vs.toArray | false => vs.getD 0 undef

section types
variable {P : Program} {E : Env} (hE : ∀ t ti, E.ty t = some ti → TIok P t ti) (w : World)
include hE

theorem run_sizeOf_ty {t : TypeId} {ti : TI} (h : E.ty t = some ti) : (sizeOf t).run P w = .ok ti.size w := by
  obtain ⟨i, z, h1, h2, _⟩ := (hE t ti h).inf
  simp [sizeOf, typeInfo, h1, h2]

theorem run_typeInfo_ty {t : TypeId} {ti : TI} (h : E.ty t = some ti) : ∃ i, (typeInfo t).run P w = .ok i w ∧ i.size = ti.size ∧ i.bytes = ti.bytes := by
  obtain ⟨i, z, h1, h2, h3, _⟩ := (hE t ti h).inf
  exact ⟨i, by simp [typeInfo, h1], h2, h3⟩

theorem run_und_ty {t : TypeId} {ti : TI} (h : E.ty t = some ti) : ∃ d, (underlying t).run P w = .ok d w ∧ tdOf d = ti.d := by
  obtain ⟨d, h1, h2⟩ := (hE t ti h).und
  exact ⟨d, run_underlying h1 w, h2⟩

theorem run_isAgg_ty {t : TypeId} {ti : TI} (h : E.ty t = some ti) : (isAgg t).run P w = .ok ti.d.agg w := by
  obtain ⟨d, h1, h2⟩ := run_und_ty hE w h
  unfold isAgg
  rw [Sem.run_bind, h1, ← h2]
  cases d <;> simp [tdOf, TD.agg]

theorem run_zero_ty {t : TypeId} {ti : TI} (h : E.ty t = some ti) : ∃ z, (zeroValue t).run P w = .ok z w ∧ zsEq z.cells.toList ti.zero = true ∧ z.cells.size = ti.size := by
  obtain ⟨i, z, h1, h2, h3, h4, h5, h6⟩ := (hE t ti h).inf
  exact ⟨z, by simp [zeroValue, typeInfo, h1, h4], h5, h6⟩

theorem run_loadVar_ty {t : TypeId} {ti : TI} (h : E.ty t = some ti) {b o : Nat} {vs : List Value} (hc : CellsAt w b o vs) (hl : vs.length = ti.size) :
    (loadVar t ⟨b, o, none⟩).run P w = .ok (aggV ti.d.agg vs) w := by
  unfold loadVar
  rw [Sem.run_bind, run_isAgg_ty hE w h]
  cases ha : ti.d.agg with
  | true =>
    have hl' : (loadCells ⟨b, o, none⟩ vs.length).run P w = .ok vs.toArray w := run_loadCells_list (P := P) w ⟨b, o, none⟩ vs (fun j v hv => by
      have hadd : (⟨b, o, none⟩ : Addr).add j = ⟨b, o + j, none⟩ := by unfold Addr.add; split <;> simp_all
      rw [hadd]; exact hc j v hv)
    simp [run_sizeOf_ty hE w h, ← hl, hl', aggV]
  | false =>
    have h1 := (hE t ti h).one ha
    rw [h1] at hl
    cases vs with
    | nil => simp at hl
    | cons v vs =>
      have := hc 0 v rfl
      simp only [Nat.add_zero] at this
      simp [this, aggV]

end types

theorem mkAgg_rep {w : World} {S : Nat → Prop} {γ : Nat → Loc} {m : Nat → Option MO} {b : Bool} {cs : List AV} {vs : List Value} {v : AV} (h : mkAgg b cs = some v) (hr : RepAs w S γ m cs vs) (ha : allOne cs = true) :
    RepA w S γ m v (aggV b vs) := by
  cases b with
  | true => simp only [mkAgg, Option.some.injEq] at h; subst h; exact ⟨vs, rfl, hr, ha⟩
  | false =>
    cases cs with
    | nil => simp [mkAgg] at h
    | cons c cs =>
      cases cs with
      | nil =>
        simp only [mkAgg, Option.some.injEq] at h; subst h
        obtain ⟨u, us, rfl, h2, _⟩ := hr
        exact h2
      | cons c' cs => simp [mkAgg] at h

theorem allOne_take (n : Nat) {cs : List AV} (h : allOne cs = true) : allOne (cs.take n) = true := by
  simp only [allOne, List.all_eq_true] at *
  exact fun x hx => h x (List.mem_of_mem_take hx)
theorem allOne_drop (n : Nat) {cs : List AV} (h : allOne cs = true) : allOne (cs.drop n) = true := by
  simp only [allOne, List.all_eq_true] at *
  exact fun x hx => h x (List.mem_of_mem_drop hx)

/-- reading a variable, or a part of one -/
theorem read_ok {P : Program} {E : Env} (hE : ∀ t ti, E.ty t = some ti → TIok P t ti) {w : World} {S : Nat → Prop} {γ : Nat → Loc} {m : Nat → Option MO} {t : TypeId} {ti : TI} (h : E.ty t = some ti) {cs : List AV} {vs : List Value}
    (hr : RepAs w S γ m cs vs) (ha : allOne cs = true) {b o off : Nat} (hc : CellsAt w b o vs) {v : AV} (hv : readCells ti off cs = some v) :
    ∃ x, (loadVar t ⟨b, o + off, none⟩).run P w = .ok x w ∧ RepA w S γ m v x := by
  unfold readCells at hv
  rcases bif_some hv with ⟨h1, h2⟩ | ⟨_, h2⟩
  · have h1' : off + ti.size ≤ cs.length := by simpa using h1
    have hlen := hr.length
    have hr' : RepAs w S γ m ((cs.drop off).take ti.size) ((vs.drop off).take ti.size) := RepAs.take _ (RepAs.drop _ hr)
    have hl : ((vs.drop off).take ti.size).length = ti.size := by simp; omega
    have hc' : CellsAt w b (o + off) ((vs.drop off).take ti.size) := by
      intro j u hj
      have : vs[off + j]? = some u := by
        rw [List.getElem?_take] at hj
        split at hj
        · rw [List.getElem?_drop] at hj; exact hj
        · cases hj
      have := hc (off + j) u this
      rw [← Nat.add_assoc] at this
      exact this
    exact ⟨_, run_loadVar_ty hE w h hc' hl, mkAgg_rep h2 hr' (allOne_take _ (allOne_drop _ ha))⟩
  · cases h2

section core
variable {P : Program} {E : Env} (hE : ∀ t ti, E.ty t = some ti → TIok P t ti) {w : World} {S : Nat → Prop} {γ : Nat → Loc} {m : Nat → Option MO} {base : Nat → Prop} (hm : MemRel w S γ m base)
  {ev : Operand → AV} {el : Operand → Value} (hev : ∀ x, RepA w S γ m (ev x) (el x)) {K : AV → Option MO → Option R} {r : R}

include hev in
theorem core_move {o : Oper} {x : Operand} (ho : o.op = .move x) (h : K (ev x) none = some r) : CoreOk w S γ m o.dst ((execOp el o).run P w) K r :=
  .pure (by simp [execOp, ho]) (hev x) h
include hev in
theorem core_assign {o : Oper} {x : Operand} (ho : o.op = .assign x) (h : K (ev x) none = some r) : CoreOk w S γ m o.dst ((execOp el o).run P w) K r :=
  .pure (by simp [execOp, ho]) (hev x) h

include hev in
theorem core_nilCheck {o : Oper} {x : Operand} (ho : o.op = .nilCheck x) (h : (match ev x with
    | .ptr n off => K (.ptr n off) none
    | .oel n i off => K (.oel n i off) none
    | .bx cs off => K (.bx cs off) none
    | .ro t y off => K (.ro t y off) none
    | _ => none) = some r) : CoreOk w S γ m o.dst ((execOp el o).run P w) K r := by
  have hx := hev x
  split at h
  · rename_i n off hv
    rw [hv] at hx
    have hx' := hx
    obtain ⟨cs, s, b, _, _, k3⟩ := hx'
    have hr : (execOp el o).run P w = .ok (.value (el x)) w := by simp [execOp, ho, k3]
    exact .pure hr hx h
  · rename_i n i off hv
    rw [hv] at hx
    have hx' := hx
    obtain ⟨t, xs, s, b, _, _, _, k3⟩ := hx'
    have hr : (execOp el o).run P w = .ok (.value (el x)) w := by simp [execOp, ho, k3]
    exact .pure hr hx h
  · rename_i cs off hv
    rw [hv] at hx
    have hx' := hx
    obtain ⟨b, vs, k3, _⟩ := hx'
    have hr : (execOp el o).run P w = .ok (.value (el x)) w := by simp [execOp, ho, k3]
    exact .pure hr hx h
  · rename_i t y off hv
    rw [hv] at hx
    have hx' := hx
    obtain ⟨b, o', cs, k3, _⟩ := hx'
    have hr : (execOp el o).run P w = .ok (.value (el x)) w := by simp [execOp, ho, k3]
    exact .pure hr hx h
  · cases h

include hev in
theorem core_pick {o : Oper} {c x y : Operand} (ho : o.op = .pick c x y) (h : (match ev c with | .bool b => bif b then K (ev x) none else K (ev y) none | _ => none) = some r) :
    CoreOk w S γ m o.dst ((execOp el o).run P w) K r := by
  split at h
  · rename_i b hb
    have hc := hev c
    rw [hb] at hc
    simp only [RepA] at hc
    rcases bif_some h with ⟨e, h⟩ | ⟨e, h⟩
    · subst e; exact .pure (by simp [execOp, ho, hc, asBool]) (hev x) h
    · subst e; exact .pure (by simp [execOp, ho, hc, asBool]) (hev y) h
  · cases h

include hE hm hev in
theorem core_load {o : Oper} {t : TypeId} {x : Operand} (ho : o.op = .load t x) (h : coreA E o.dst o.op ev m K = some r) : CoreOk w S γ m o.dst ((execOp el o).run P w) K r := by
  rw [ho] at h
  simp only [coreA] at h
  have hx := hev x
  split at h
  · cases h
  · rename_i ti hti
    have fin : ∀ {b oo off : Nat} {cs : List AV} {vs : List Value}, RepAs w S γ m cs vs → allOne cs = true → CellsAt w b oo vs → el x = .pointer (some ⟨b, oo + off, none⟩) →
        (match readCells ti off cs with | some v => K v none | none => none) = some r → CoreOk w S γ m o.dst ((execOp el o).run P w) K r := by
      intro b oo off cs vs h1 h2 h3 h4 h5
      split at h5
      · rename_i v hv
        obtain ⟨y, hy, hv'⟩ := read_ok (P := P) hE hti h1 h2 h3 hv
        exact .pure (x := y) (by simp [execOp, ho, h4, Instr.loadAt, Instr.sureAddr, hy]) hv' h5
      · cases h5
    split at h
    · rename_i n off he
      rw [he] at hx
      obtain ⟨cs0, s0, b, hb1, hb2, hb3⟩ := hx
      have box : ∀ {cs : List AV} {s : Stat}, m n = some (.box cs s) → ∃ vs, RepAs w S γ m cs vs ∧ allOne cs = true ∧ CellsAt w b 0 vs := by
        intro cs s hn
        obtain ⟨b', vs, el', k1, k2, k3, k4, _⟩ := hm.obj n _ hn
        rw [hb2] at k1
        cases k1
        exact ⟨vs, k3, k4, fun j u hj => by rw [Nat.zero_add, cell_of_row w b j _ _ _ k2]; simpa using hj⟩
      split at h
      · rename_i cs hn
        obtain ⟨vs, k1, k2, k3⟩ := box hn
        exact fin k1 k2 k3 (by rw [hb3, Nat.zero_add]) h
      · rename_i cs hn
        obtain ⟨vs, k1, k2, k3⟩ := box hn
        exact fin k1 k2 k3 (by rw [hb3, Nat.zero_add]) h
      · cases h
    · rename_i cs off he
      rw [he] at hx
      obtain ⟨b, vs, k1, k2, k3, k4, k5⟩ := hx
      exact fin k3 k4 k5 (by rw [k1, Nat.zero_add]) h
    · rename_i t' y off he
      rw [he] at hx
      obtain ⟨b, oo, cs, k1, k2, k3, k4⟩ := hx
      exact fin k3.enc (allOne_enc _ _) k4 k1 h
    · rename_i n i off he
      rw [he] at hx
      obtain ⟨t0, xs0, s0, b, k1, k2, k3, k4⟩ := hx
      have row : ∀ {t' : Ty} {xs : List t'.T} {s : Stat}, m n = some (.sl t' xs s) → s ≠ .dead → ∃ vs, RepAs w S γ m (enc t' (xs.getD i t'.dflt)) vs ∧ CellsAt w b (i * t'.size) vs := by
        intro t' xs s hn hs
        have hob : ObjRel w S γ m n (.sl t' xs s) := hm.obj n _ hn
        have hob : RowRel w S (γ n) t' xs s := by cases s <;> first | exact hob | exact absurd rfl hs
        rw [k1] at hn
        cases hn
        obtain ⟨b', arr, el', fz, e1, e2, e3, e4, e5, _⟩ := hob.row _ k2
        cases e1
        obtain ⟨c, f1, f2⟩ := e5 i xs0[i] (by simp [getq, k3])
        refine ⟨c, ?_, fun j u hj => ?_⟩
        · have : xs0.getD i t0.dflt = xs0[i] := by simp [k3]
          rw [this]; exact f1.enc
        · rw [cell_of_row w b _ _ _ _ e2]; exact f2 j u hj
      have e0 : ∀ {t' : Ty} {xs : List t'.T} {s : Stat}, m n = some (.sl t' xs s) → t'.size = t0.size := by
        intro t' xs s hn; rw [k1] at hn; cases hn; rfl
      split at h
      · rename_i t' xs hn
        obtain ⟨vs, f1, f2⟩ := row hn (by simp)
        exact fin f1 (allOne_enc _ _) f2 (by rw [k4, e0 hn]) h
      · rename_i t' xs hn
        obtain ⟨vs, f1, f2⟩ := row hn (by simp)
        exact fin f1 (allOne_enc _ _) f2 (by rw [k4, e0 hn]) h
      · cases h
    · cases h

end core
end Go.Dv
