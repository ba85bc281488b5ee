/- Structs, arrays and slices that are made; lengths; the least and the greatest. -/
import Derived.Test.YtmffojmbfphidaaDoorDvOps5
set_option linter.all false
namespace Go.Dv
open Go.RowKit

variable [LTab]

variable {R : Type}

theorem foldl_write (off : Nat) : ∀ (vs : List Value) (k : Nat) (cells : Array Value), off + k + vs.length ≤ cells.size →
    (List.foldl (fun cs (x : Value × Nat) => cs.setIfInBounds (off + x.2) x.1) cells (vs.zipIdx k)).toList = cells.toList.take (off + k) ++ vs ++ cells.toList.drop (off + k + vs.length)
  | [], k, cells, _ => by simp
  | v :: vs, k, cells, h => by
    simp only [List.length_cons] at h
    simp only [List.zipIdx_cons, List.foldl_cons]
    have hi : off + k < cells.size := by omega
    have ih := foldl_write off vs (k + 1) (cells.setIfInBounds (off + k) v) (by simp; omega)
    rw [ih]
    have e := list_seg_step cells.toList (off + k) v vs (by simp; omega)
    rw [← Nat.add_assoc]
    simpa [Array.toList_setIfInBounds, Nat.add_assoc] using e

theorem fill_cons {place : Nat → Option (Nat × Nat)} {cells : Array Value} {i : Nat} {v : Value} {rest : List (Nat × Value)} {off size : Nat} (hp : place i = some (off, size)) (hs : v.cells.size = size) (hl : off + size ≤ cells.size) :
    Instr.fill place cells ((i, v) :: rest) = Instr.fill place (cells.toList.take off ++ v.cells.toList ++ cells.toList.drop (off + size)).toArray rest := by
  simp only [Instr.fill, hp]
  rw [if_neg (by simp [hs]; omega)]
  congr 1
  apply Array.ext'
  have := foldl_write off v.cells.toList 0 cells (by simp [hs]; omega)
  simp only [Nat.add_zero, Array.length_toList, hs] at this
  rw [← this]
  rw [← Array.foldl_toList, Array.toList_zipIdx]

theorem fillA_rep {w : World} {S : Nat → Prop} {γ : Nat → Loc} {m : Nat → Option MO} {ev : Operand → AV} {el : Operand → Value} (hev : ∀ x, RepA w S γ m (ev x) (el x)) {place : Nat → Option (Nat × Nat)} :
    ∀ (parts : List (Nat × Operand)) (cells : List AV) (vals : Array Value) (cs : List AV), RepAs w S γ m cells vals.toList → allOne cells = true →
      fillA place cells (parts.map fun p => (p.1, ev p.2)) = some cs → ∃ vs, Instr.fill place vals (parts.map fun p => (p.1, el p.2)) = some vs ∧ RepAs w S γ m cs vs.toList ∧ allOne cs = true ∧ cs.length = cells.length
  | [], cells, vals, cs, hr, ha, h => by
    simp only [List.map_nil, fillA, Option.some.injEq] at h
    subst h
    exact ⟨vals, rfl, hr, ha, rfl⟩
  | (i, x) :: parts, cells, vals, cs, hr, ha, h => by
    simp only [List.map_cons, fillA] at h
    split at h
    · cases h
    · rename_i off size hp
      rcases bif_some h with ⟨hb, h⟩ | ⟨_, h⟩
      · simp only [Bool.and_eq_true, Nat.beq_eq, Nat.ble_eq] at hb
        obtain ⟨⟨b1, b2⟩, b3⟩ := hb
        have hc := cells_rep (hev x) b3
        have hl := hc.length
        have hl2 := hr.length
        simp only [Array.length_toList] at hl hl2
        have hr' : RepAs w S γ m (writeCells off (ev x).cells cells) (vals.toList.take off ++ (el x).cells.toList ++ vals.toList.drop (off + size)) := by
          unfold writeCells
          rw [b1]
          exact ((hr.take off).append hc).append (hr.drop _)
        have ha' : allOne (writeCells off (ev x).cells cells) = true := by
          unfold writeCells
          rw [allOne_append, allOne_append, allOne_take _ ha, allOne_drop _ ha, b3]; rfl
        obtain ⟨vs, k1, k2, k3, k4⟩ := fillA_rep hev parts _ (vals.toList.take off ++ (el x).cells.toList ++ vals.toList.drop (off + size)).toArray cs (by simpa using hr') ha' h
        refine ⟨vs, ?_, k2, k3, ?_⟩
        · simp only [List.map_cons]
          rw [fill_cons hp (by omega) (by omega)]
          exact k1
        · rw [k4]; simp [writeCells]; omega
      · cases h

section core
variable {P : Program} {E : Env} (hE : ∀ t ti, E.ty t = some ti → TIok P t ti) {w : World} {S : Nat → Prop} {γ : Nat → Loc} {m : Nat → Option MO} {base : Nat → Prop} (hm : MemRel w S γ m base)
  {ev : Operand → AV} {el : Operand → Value} (hev : ∀ x, RepA w S γ m (ev x) (el x)) {K : AV → Option MO → Option R} {r : R}

include hE in
theorem sizes_ok : ∀ {fs : List Field} {l : List (Nat × Nat)}, sizes E (fs.map fun f => (f.offset, f.type)) = some l → (fs.mapM fun f => (do pure (f.offset, ← sizeOf f.type) : Sem (Nat × Nat))).run P w = .ok l w
  | [], l, h => by simp only [List.map_nil, sizes, Option.some.injEq] at h; subst h; simp
  | f :: fs, l, h => by
    simp only [List.map_cons, sizes] at h
    split at h
    · rename_i ti hti
      split at h
      · rename_i l' hl'
        cases h
        have ih := sizes_ok hl'
        simp only [List.mapM_cons, Sem.run_bind, run_sizeOf_ty hE w hti, Result.andThen_ok, Sem.run_pure, ih]
      · cases h
    · cases h

include hE hev in
theorem core_build {o : Oper} {t : TypeId} {parts : Array (Nat × Operand)} (ho : o.op = .build t parts) (h : coreA E o.dst o.op ev m K = some r) : CoreOk w S γ m o.dst ((execOp el o).run P w) K r := by
  rw [ho] at h
  simp only [coreA] at h
  split at h
  · rename_i ti hti
    obtain ⟨d, hd1, hd2⟩ := run_und_ty hE w hti
    obtain ⟨z, z1, z2, z3⟩ := run_zero_ty hE w hti
    have hz : RepAs w S γ m (ti.zero.map Z.av) z.cells.toList := zsEq_rep z2
    have hp : (parts.map fun (i, x) => (i, el x)).toList = parts.toList.map fun p => (p.1, el p.2) := by simp
    split at h
    · rename_i fs hfs
      rw [hfs] at hd2
      obtain ⟨a, rfl, rfl⟩ := tdOf_struct hd2
      split at h
      · rename_i l hl
        have hsz := sizes_ok (P := P) hE (w := w) hl
        split at h
        · rename_i cs hcs
          obtain ⟨vs, k1, k2, k3, _⟩ := fillA_rep hev parts.toList _ z.cells cs hz (allOne_zero _) hcs
          refine .pure (v := .agg cs) (x := .agg vs) ?_ ⟨vs.toList, by simp, k2, k3⟩ h
          have hm' : (a.mapM fun f => (do pure (f.offset, ← sizeOf f.type) : Sem (Nat × Nat))).run P w = .ok l.toArray w := by
            rw [Array.mapM_eq_mapM_toList]
            simp only [Sem.run_map, hsz, Result.andThen_ok]
          have hpl : (fun i : Nat => l.toArray[i]?) = fun i : Nat => l[i]? := by funext i; simp
          simp only [execOp, ho, Instr.build, Sem.run_bind, z1, hd1, Result.andThen_ok, hm', hp, hpl, k1]
          rfl
        · cases h
      · cases h
    · rename_i n e hte
      rw [hte] at hd2
      have := tdOf_arr hd2; subst this
      split at h
      · rename_i ei hei
        have hs := run_sizeOf_ty hE w hei
        split at h
        · rename_i cs hcs
          obtain ⟨vs, k1, k2, k3, _⟩ := fillA_rep hev parts.toList _ z.cells cs hz (allOne_zero _) hcs
          refine .pure (v := .agg cs) (x := .agg vs) ?_ ⟨vs.toList, by simp, k2, k3⟩ h
          simp only [execOp, ho, Instr.build, Sem.run_bind, z1, hd1, Result.andThen_ok, hs, hp, k1]
          rfl
        · cases h
      · cases h
    · cases h
  · cases h

end core


/-! ## rows that are made -/
def RowArr (w : World) (S : Nat → Prop) (t : Ty) (arr : List Value) (xs : List t.T) : Prop :=
  arr.length = xs.length * t.size ∧ ∀ i (x : t.T), getq xs i = some x → ∃ c, RepT w S t x c ∧ ∀ j u, c[j]? = some u → arr[i * t.size + j]? = some u

theorem mul_step {i k s : Nat} (h : i < k) : i * s + s ≤ k * s := by
  have : (i + 1) * s ≤ k * s := Nat.mul_le_mul_right s h
  rwa [Nat.add_mul, Nat.one_mul] at this

def Rows (w : World) (S : Nat → Prop) (t : Ty) (arr : List Value) (xs : List t.T) : Prop :=
  ∀ i (x : t.T), getq xs i = some x → ∃ c, RepT w S t x c ∧ ∀ j u, c[j]? = some u → arr[i * t.size + j]? = some u

theorem Rows.set {w : World} {S : Nat → Prop} {t : Ty} {arr : List Value} {xs : List t.T} (h2 : Rows w S t arr xs) {i : Nat} {x : t.T} {c : List Value} (hi : i < xs.length) (hx : RepT w S t x c) (hle : i * t.size + t.size ≤ arr.length) :
    Rows w S t (arr.take (i * t.size) ++ c ++ arr.drop (i * t.size + t.size)) (xs.set i x) := by
  have hc := hx.length
  intro k y hy
  by_cases e : k = i
  · subst e
    have : y = x := by
      have hy' : (xs.set k x)[k]? = some y := hy
      simp [hi] at hy'
      exact hy'.symm
    subst this
    refine ⟨c, hx, fun j u hj => ?_⟩
    have hjl := (List.getElem?_eq_some_iff.1 hj).1
    rw [List.append_assoc, List.getElem?_append_right (by simp; omega), List.getElem?_append_left (by simp; omega)]
    rw [← hj]; congr 1
    simp; omega
  · have hy' : getq xs k = some y := by
      have hy' : (xs.set i x)[k]? = some y := hy
      rw [List.getElem?_set_ne (Ne.symm e)] at hy'
      exact hy'
    obtain ⟨d, k1, k2⟩ := h2 k y hy'
    refine ⟨d, k1, fun j u hj => ?_⟩
    have hjl := (List.getElem?_eq_some_iff.1 hj).1
    have hd := k1.length
    have := k2 j u hj
    rw [← this]
    rcases Nat.lt_or_gt_of_ne e with hlt | hgt
    · have := mul_step (s := t.size) hlt
      rw [List.append_assoc, List.getElem?_append_left (by simp; omega), List.getElem?_take, if_pos (by omega)]
    · have := mul_step (s := t.size) hgt
      rw [List.getElem?_append_right (by simp; omega), List.getElem?_drop]
      congr 1
      simp; omega

theorem RowArr.set {w : World} {S : Nat → Prop} {t : Ty} {arr : List Value} {xs : List t.T} (h : RowArr w S t arr xs) {i : Nat} {x : t.T} {c : List Value} (hi : i < xs.length) (hx : RepT w S t x c) :
    RowArr w S t (arr.take (i * t.size) ++ c ++ arr.drop (i * t.size + t.size)) (xs.set i x) := by
  have hle := mul_step (s := t.size) hi
  have hc := hx.length
  have h1 := h.1
  exact ⟨by simp; omega, Rows.set h.2 hi hx (by omega)⟩

theorem RowArr.made {w : World} {S : Nat → Prop} {t : Ty} {z : Array Value} (hz : RepT w S t t.dflt z.toList) (n : Nat) : RowArr w S t (madeCells z (n * t.size)).toList (List.replicate n t.dflt) := by
  have hzs : z.size = t.size := by have := hz.length; simpa using this
  refine ⟨by simp [madeCells], fun i x hx => ?_⟩
  have hi := getq_mem hx
  simp only [List.length_replicate] at hi
  have hxe : x = t.dflt := by
    have hx' : (List.replicate n t.dflt)[i]? = some x := hx
    simp [hi] at hx'
    exact hx'.symm
  subst hxe
  refine ⟨z.toList, hz, fun j u hj => ?_⟩
  have hjl : j < z.size := by have := (List.getElem?_eq_some_iff.1 hj).1; simpa using this
  have hle := mul_step (s := t.size) hi
  have hlt : i * t.size + j < n * t.size := by omega
  have hmod : (i * t.size + j) % z.size = j := by rw [hzs, Nat.mul_comm, Nat.mul_add_mod, Nat.mod_eq_of_lt (by omega)]
  simp [madeCells, hlt, hmod, hjl]
  simp [hjl] at hj
  exact hj

theorem fillL_rep {w : World} {S : Nat → Prop} {γ : Nat → Loc} {m : Nat → Option MO} {base : Nat → Prop} (hm : MemRel w S γ m base) {ev : Operand → AV} {el : Operand → Value} (hev : ∀ x, RepA w S γ m (ev x) (el x)) {t : Ty} :
    ∀ (parts : List (Nat × Operand)) (arr : Array Value) (acc xs : List t.T), RowArr w S t arr.toList acc → fillL m t (parts.map fun p => (p.1, ev p.2)) acc = some xs →
      ∃ vs, Instr.fill (fun i => some (i * t.size, t.size)) arr (parts.map fun p => (p.1, el p.2)) = some vs ∧ RowArr w S t vs.toList xs ∧ xs.length = acc.length
  | [], arr, acc, xs, hr, h => by
    simp only [List.map_nil, fillL, Option.some.injEq] at h
    subst h
    exact ⟨arr, rfl, hr, rfl⟩
  | (i, x) :: parts, arr, acc, xs, hr, h => by
    simp only [List.map_cons, fillL] at h
    split at h
    · rename_i y hy
      rcases bif_some h with ⟨hb, h⟩ | ⟨_, h⟩
      · have hi : i < acc.length := by simpa [Nat.blt_eq] using hb
        have hone : allOne (ev x).cells = true := dec_one hy
        have hc := cells_rep (hev x) hone
        have hT := dec_rep hm hy hc
        have hl := hT.length
        simp only [Array.length_toList] at hl
        have hle := mul_step (s := t.size) hi
        have hl2 := hr.1
        simp only [Array.length_toList] at hl2
        obtain ⟨vs, k1, k2, k3⟩ := fillL_rep hm hev parts (arr.toList.take (i * t.size) ++ (el x).cells.toList ++ arr.toList.drop (i * t.size + t.size)).toArray (acc.set i y) xs (by simpa using hr.set hi hT) h
        refine ⟨vs, ?_, k2, by simpa using k3⟩
        simp only [List.map_cons]
        rw [fill_cons (off := i * t.size) (size := t.size) rfl hl (by omega)]
        exact k1
      · cases h
    · cases h

section core2
variable {P : Program} {E : Env} (hE : ∀ t ti, E.ty t = some ti → TIok P t ti) {w : World} {S : Nat → Prop} {γ : Nat → Loc} {m : Nat → Option MO} {base : Nat → Prop} (hm : MemRel w S γ m base)
  {ev : Operand → AV} {el : Operand → Value} (hev : ∀ x, RepA w S γ m (ev x) (el x)) {K : AV → Option MO → Option R} {r : R}

include hE hm hev in
theorem core_buildSlice {o : Oper} {t : TypeId} {n : Nat} {parts : Array (Nat × Operand)} (ho : o.op = .buildSlice t n parts) (h : coreA E o.dst o.op ev m K = some r) : CoreOk w S γ m o.dst ((execOp el o).run P w) K r := by
  rw [ho] at h
  simp only [coreA] at h
  split at h
  · rename_i e ei ty d he hd
    obtain ⟨e1, e2, e3⟩ := elemTy_some hE he
    obtain ⟨y1, y2, y3, y4⟩ := (hE e _ e2).ty _ e3
    obtain ⟨hb, h⟩ := gd_some h
    have hb : n * ei.size ≤ 16777216 := by simpa using hb
    split at h
    · rename_i xs hxs
      obtain ⟨z, z1, z2, z3⟩ := run_zero_ty hE w e2
      rw [y4] at z2
      have hz : RepT w S ty ty.dflt z.cells.toList := zero_rep z2
      have hmade := RowArr.made hz n
      obtain ⟨vs, k1, k2, k3⟩ := fillL_rep hm hev parts.toList (madeCells z.cells (n * ty.size)) _ xs hmade hxs
      simp only [List.length_replicate] at k3
      have hp : (parts.map fun (i, x) => (i, el x)).toList = parts.toList.map fun p => (p.1, el p.2) := by simp
      have hs := run_sizeOf_ty hE w e2
      refine CoreOk.newRow (w' := w.alloc (.cells vs e)) (xs := xs) (arr := vs) (cap := n) hm hd ?_ (below_alloc _ _) (heap_alloc_new w _) ?_ (by omega) (by unfold maxLen; have := Nat.le_mul_of_pos_right n y2; omega) (fun i _ hi => by simp at hi) (fun i x hx => ?_) h
      · rw [k3]
        rw [y1] at k1
        have hn : ¬ n * ei.size > 2 ^ 24 := by omega
        by_cases h0 : n * ei.size = 0
        · have hmc : madeCells z.cells 0 = #[] := by simp [madeCells]
          rw [h0, hmc] at k1
          simp [execOp, ho, Instr.buildSlice, run_underlying e1, hs, h0, Array.range_zero', k1, newRow]
        · have hmc : (Array.range (n * ei.size)).map (z.cells[· % z.cells.size]!) = madeCells z.cells (n * ei.size) := rfl
          simp only [execOp, ho, Instr.buildSlice, Sem.run_bind, run_underlying e1, Result.andThen_ok, hs, Sem.run_ite, if_neg hn, if_neg h0, z1, Sem.run_pure, hmc, hp, k1]
          rfl
      · have := k2.1; simp only [Array.length_toList] at this; rw [this, k3]
      · obtain ⟨c, f1, f2⟩ := k2.2 i x hx
        exact ⟨c, f1, fun j u hj => by have := f2 j u hj; simpa using this⟩
    · cases h
  · cases h

include hE hev in
theorem core_makeSlice {o : Oper} {t : TypeId} {n c : Operand} (hm : MemRel w S γ m base) (ho : o.op = .makeSlice t n c) (h : coreA E o.dst o.op ev m K = some r) : CoreOk w S γ m o.dst ((execOp el o).run P w) K r := by
  rw [ho] at h
  simp only [coreA] at h
  have hn := hev n
  have hc := hev c
  split at h
  · rename_i e ei ty d k1 n' k2 c' he hd hn' hc'
    rw [hn'] at hn; rw [hc'] at hc
    simp only [RepA] at hn hc
    obtain ⟨e1, e2, e3⟩ := elemTy_some hE he
    obtain ⟨y1, y2, y3, y4⟩ := (hE e _ e2).ty _ e3
    obtain ⟨hb, h⟩ := gd_some h
    simp only [Bool.and_eq_true, decide_eq_true_eq] at hb
    obtain ⟨⟨b1, b2⟩, b3, b4⟩ := hb
    obtain ⟨i, z, z1, z2, z3, z4, z5, z6⟩ := (hE e _ e2).inf
    rw [y4] at z5
    have hz : RepT w S ty ty.dflt z.cells.toList := zero_rep z5
    have hb' : (i.bytes : Int) * c' ≤ 281474976710656 := by rw [z3, Int.mul_comm]; unfold maxB at b4; omega
    have hrun := run_make (P := P) w t e i z e1 z1 z4 k1 k2 n' c' b1 b2 hb' (by unfold maxB at b3; omega)
    have hmade := RowArr.made hz c'.toNat
    have hmade2 := RowArr.made hz n'.toNat
    refine CoreOk.newRow (w' := w.alloc (.cells (madeCells z.cells (c'.toNat * i.size)) e)) (xs := List.replicate n'.toNat ty.dflt) (cap := c'.toNat) hm hd ?_ (below_alloc _ _) (heap_alloc_new w _) ?_ (by simp; omega) (by unfold maxLen; unfold maxB at b3; omega) (fun i _ hi => by simp at hi) (fun i x hx => ?_) h
    · simp only [execOp, ho, hn, hc]
      rw [Sem.run_bind, hrun]
      simp
    · rw [size_madeCells, z2, y1]
    · have hi := getq_mem hx
      simp only [List.length_replicate] at hi
      have hxe : x = ty.dflt := by
        have hx' : (List.replicate n'.toNat ty.dflt)[i]? = some x := hx
        simp [hi] at hx'
        exact hx'.symm
      have hic : i < c'.toNat := by omega
      obtain ⟨c, f1, f2⟩ := hmade.2 i ty.dflt (by simp [getq, hic])
      rw [hxe]
      refine ⟨c, f1, fun j u hj => ?_⟩
      have := f2 j u hj
      rw [z2, ← y1]
      simpa using this
  · cases h

include hE hev in
theorem core_len {o : Oper} {args : Array Operand} {ts : Array TypeId} (ho : o.op = .call ⟨.builtin .len, args, ts⟩) (h : coreA E o.dst o.op ev m K = some r) : CoreOk w S γ m o.dst ((execOp el o).run P w) K r := by
  rw [ho] at h
  simp only [coreA] at h
  split at h
  · rename_i x t hx' ht'
    have ha : args = #[x] := by apply Array.ext'; simpa using hx'
    have hts : ts = #[t] := by apply Array.ext'; simpa using ht'
    subst ha; subst hts
    have hx := hev x
    split at h
    · rename_i ti hti
      obtain ⟨d, hd1, hd2⟩ := run_und_ty hE w hti
      split at h
      · rename_i hts
        rw [hts] at hd2
        have := tdOf_str hd2; subst this
        split at h
        · rename_i s hs
          rw [hs] at hx; simp only [RepA] at hx
          refine .pure (v := .int .i64 s.length) (x := .int .i64 s.length) ?_ rfl h
          have hsz : (⟨s.toArray⟩ : ByteArray).size = s.length := by simp [ByteArray.size]
          simp [execOp, ho, resolve, invoke, builtin, Builtin.len_, hd1, hx, goInt, hsz]
        · cases h
      · rename_i e hts
        rw [hts] at hd2
        have := tdOf_slice hd2; subst this
        split at h
        · cases h
        · split at h
          · rename_i hns _ n hl
            have hsl : ∃ ao cap, el x = .slice ao n.toNat cap ∧ (n.toNat : Int) = n := by
              unfold lenA at hl
              split at hl
              · rename_i t' xs he
                rw [he] at hx
                obtain ⟨ao, cap, k1, _⟩ := hx
                simp only [List.cons.injEq, and_true] at k1
                cases hl
                exact ⟨ao, cap, k1, rfl⟩
              · rename_i t' xs he
                rw [he] at hx
                obtain ⟨_, ao, cap, k1, _⟩ := hx
                simp only [List.cons.injEq, and_true] at k1
                cases hl
                exact ⟨ao, cap, k1, rfl⟩
              · rename_i he
                rw [he] at hx; simp only [RepA] at hx
                cases hl
                exact ⟨none, 0, hx, rfl⟩
              · rename_i s he
                exact absurd he (hns s)
              · rename_i k he
                rw [he] at hx
                obtain ⟨t0, xs0, s0, k1, k2⟩ := hx
                split at hl
                · rename_i _ t1 xs1 hn1
                  rw [k1] at hn1; cases hn1; cases hl
                  exact ⟨_, _, k2, rfl⟩
                · rename_i _ t1 xs1 hn1
                  rw [k1] at hn1; cases hn1; cases hl
                  exact ⟨_, _, k2, rfl⟩
                · cases hl
              · cases hl
            obtain ⟨ao, cap, e1, e2⟩ := hsl
            refine .pure (v := .int .i64 n) (x := .int .i64 n) ?_ rfl h
            simp [execOp, ho, resolve, invoke, builtin, Builtin.len_, hd1, e1, goInt]
            omega
          · cases h
      · rename_i n e hts
        rw [hts] at hd2
        have := tdOf_arr hd2; subst this
        refine .pure (v := .int .i64 n) (x := .int .i64 n) ?_ rfl h
        simp [execOp, ho, resolve, invoke, builtin, Builtin.len_, hd1, goInt]
      · cases h
    · cases h
  · cases h

include hev in
theorem core_min {o : Oper} {args : Array Operand} {ts : Array TypeId} (ho : o.op = .call ⟨.builtin .min, args, ts⟩) (h : coreA E o.dst o.op ev m K = some r) : CoreOk w S γ m o.dst ((execOp el o).run P w) K r := by
  rw [ho] at h
  simp only [coreA] at h
  obtain ⟨l, hl⟩ : ∃ l, args = List.toArray l := ⟨args.toList, by simp⟩
  subst hl
  simp only at h
  match l, ho, h with
  | [x, y], ho, h =>
    have hx := hev x
    have hy := hev y
    simp only [List.map_cons, List.map_nil] at h
    split at h
    · rename_i a b hab
      simp only [List.cons.injEq, and_true] at hab
      rw [hab.1] at hx; rw [hab.2] at hy
      simp only [RepA] at hx hy
      refine .pure (v := .str (bif lts a b || eqs a b then a else b)) (x := .string ⟨(bif lts a b || eqs a b then a else b).toArray⟩) ?_ rfl h
      simp only [execOp, ho, resolve, invoke, builtin, Builtin.min_, Builtin.min2, hx, hy, Op.stringOp, asBool, lts, eqs, List.map_toArray, List.map_cons, List.map_nil, Sem.run_bind, Sem.run_pure, Result.andThen_ok, List.foldlM_cons, List.foldlM_nil, ByteArray.toList_mk]
      cases (Op.bytesLess a b || a == b) <;> rfl
    · rename_i k a l' b hab
      simp only [List.cons.injEq, and_true] at hab
      rw [hab.1] at hx; rw [hab.2] at hy
      simp only [RepA] at hx hy
      split at h
      · rename_i hk
        have hk := ik_some hk
        subst hk
        refine .pure (v := .int k (bif decide (b < a) then b else a)) (x := .int k (bif decide (b < a) then b else a)) ?_ rfl h
        by_cases hq : b < a <;> simp [execOp, ho, resolve, invoke, builtin, Builtin.min_, Builtin.min2, hx, hy, hq]
      · cases h
    · cases h
  | [], ho, h => simp at h
  | [_], ho, h => simp at h
  | _ :: _ :: _ :: _, ho, h => simp at h

include hev in
theorem core_max {o : Oper} {args : Array Operand} {ts : Array TypeId} (ho : o.op = .call ⟨.builtin .max, args, ts⟩) (h : coreA E o.dst o.op ev m K = some r) : CoreOk w S γ m o.dst ((execOp el o).run P w) K r := by
  rw [ho] at h
  simp only [coreA] at h
  obtain ⟨l, hl⟩ : ∃ l, args = List.toArray l := ⟨args.toList, by simp⟩
  subst hl
  simp only at h
  match l, ho, h with
  | [x, y], ho, h =>
    have hx := hev x
    have hy := hev y
    simp only [List.map_cons, List.map_nil] at h
    split at h
    · rename_i a b hab
      simp only [List.cons.injEq, and_true] at hab
      rw [hab.1] at hx; rw [hab.2] at hy
      simp only [RepA] at hx hy
      refine .pure (v := .str (bif !(lts a b) then a else b)) (x := .string ⟨(bif !(lts a b) then a else b).toArray⟩) ?_ rfl h
      simp [execOp, ho, resolve, invoke, builtin, Builtin.max_, Builtin.max2, hx, hy, Op.stringOp, asBool, lts]
      cases (Op.bytesLess a b) <;> simp
    · rename_i k a l' b hab
      simp only [List.cons.injEq, and_true] at hab
      rw [hab.1] at hx; rw [hab.2] at hy
      simp only [RepA] at hx hy
      split at h
      · rename_i hk
        have hk := ik_some hk
        subst hk
        refine .pure (v := .int k (bif decide (a < b) then b else a)) (x := .int k (bif decide (a < b) then b else a)) ?_ rfl h
        by_cases hq : a < b <;> simp [execOp, ho, resolve, invoke, builtin, Builtin.max_, Builtin.max2, hx, hy, hq]
      · cases h
    · cases h
  | [], ho, h => simp at h
  | [_], ho, h => simp at h
  | _ :: _ :: _ :: _, ho, h => simp at h

end core2
end Go.Dv
