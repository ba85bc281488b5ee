/- Operations that write: stores into variables of the call's own and into slices of its own; append. -/
import Derived.Test.YtmffojmbfphidaaDoorDvOps6
set_option linter.all false
namespace Go.Dv
open Go.RowKit

variable [LTab]

variable {R : Type}

theorem run_storeCells_fz (P : Program) (g o : Nat) (t : TypeId) (fz : Nat × Nat) : ∀ (vs : List Value) (i : Nat) (cur : Array Value) (w : World), w.heap[g]? = some (.cells cur t fz) → fzW cur.size fz → o + i + vs.length ≤ cur.size → (∀ v ∈ vs, v.oneCell' = true) →
    (storeCells ⟨g, o, none⟩ vs i).run P w = .ok () (w.setRow g (cur.toList.take (o + i) ++ vs ++ cur.toList.drop (o + i + vs.length)).toArray)
  | [], i, cur, w, hg, _, _, _ => by
    simp only [storeCells, List.append_nil, List.length_nil, Nat.add_zero, List.take_append_drop, Array.toArray_toList]
    rw [setRow_self w g cur t fz hg]
    rfl
  | v :: rest, i, cur, w, hg, hz, hl, h1 => by
    have hi : o + i < cur.size := by simp at hl; omega
    have hadd : (⟨g, o, none⟩ : Addr).add i = ⟨g, o + i, none⟩ := by unfold Addr.add; split <;> simp_all
    have hcell : w.cell? ⟨g, o + i, none⟩ = some cur[o + i] := by simp [World.cell?, hg, hi]
    have hfro : w.frozen? ⟨g, o + i, none⟩ = false := by
      have := hz (o + i) hi
      simp only [World.frozen?, hg]
      obtain ⟨lo, hi'⟩ := fz
      simpa using this
    have hst : (store ((⟨g, o, none⟩ : Addr).add i) v).run P w = .ok () (w.setRow g (cur.setIfInBounds (o + i) v)) := by
      rw [hadd, run_store P w _ v _ (h1 v (by simp)), hcell]
      simp [hfro, setCell_eq_setRow w g (o + i) cur t fz v hg]
    have ih := run_storeCells_fz P g o t fz rest (i + 1) (cur.setIfInBounds (o + i) v) (w.setRow g (cur.setIfInBounds (o + i) v)) (setRow_heap w g cur _ t _ hg) (by simpa using hz) (by simp at hl ⊢; omega) (fun x hx => h1 x (by simp [hx]))
    simp only [storeCells, Sem.run_bind, hst, Result.andThen_ok, ih, setRow_setRow]
    congr 3
    have e := list_seg_step cur.toList (o + i) v rest (by simp at hl ⊢; omega)
    simpa [Array.toList_setIfInBounds, Nat.add_assoc] using e

/-- a block of the call's own is written: all else stays -/
structure Wrote (b : Nat) (w w' : World) : Prop where
  os : w'.os = w.os
  tape : w'.tape = w.tape
  output : w'.output = w.output
  size : w'.heap.size = w.heap.size
  block : ∀ k, k ≠ b → w'.heap[k]? = w.heap[k]?
  cells : ∃ arr el fz, w.heap[b]? = some (.cells arr el fz)

theorem Wrote.setRow (w : World) (g : Nat) (cs : Array Value) {arr : Array Value} {el : TypeId} {fz : Nat × Nat} (hg : w.heap[g]? = some (.cells arr el fz)) : Wrote g w (w.setRow g cs) :=
  ⟨rfl, rfl, rfl, by simp, fun k hk => setRow_other w g k cs hk, arr, el, fz, hg⟩

theorem Wrote.below {b : Nat} {base : Nat → Prop} {w w' : World} (h : Wrote b w w') (hb : ¬ base b) : Bel base w w' :=
  ⟨h.os, h.tape, h.output, by rw [h.size]; exact Nat.le_refl _, fun k hk => h.block k (fun e => hb (e ▸ hk)), fun k ds hk => by
    have hne : k ≠ b := fun e => by
      obtain ⟨arr, el, fz, hg⟩ := h.cells
      rw [e, hg] at hk; cases hk
    rw [h.block k hne]; exact hk⟩

theorem RowRel.other {w w' : World} {S : Nat → Prop} {l : Loc} {t : Ty} {xs : List t.T} {s : Stat} {b : Nat} (h : RowRel w S l t xs s) (hw : Wrote b w w') (hb : ¬ S b) (hne : l.blk ≠ some b) : RowRel w' S l t xs s := by
  refine ⟨h.len, h.cap, h.nil, fun a ha => ?_⟩
  obtain ⟨b', arr, el, fz, h1, h2, h3, h4, h5, h6, h7⟩ := h.row a ha
  have hne' : b' ≠ b := by
    intro e
    apply hne
    subst h1; subst e
    simp [Loc.blk, ha]
  refine ⟨b', arr, el, fz, h1, (hw.block b' hne').trans h2, h3, h4, fun i x hx => ?_, h6, h7⟩
  obtain ⟨c, k1, k2⟩ := h5 i x hx
  exact ⟨c, RepT.mono (fun k hk => hw.block k (fun e => hb (e ▸ hk))) (fun _ h => h) t x c k1, k2⟩

/-- one live object is another one now, of the same kind and at the same place -/
theorem MemRel.write {w w' : World} {S : Nat → Prop} {γ : Nat → Loc} {m : Nat → Option MO} {base : Nat → Prop} {n b : Nat} {o o' : MO} (h : MemRel w S γ m base) (hn : m n = some o) (hl : o.live = true) (hb : (γ n).blk = some b) (hw : Wrote b w w')
    (hk : o'.kind = o.kind) (hS : ¬ S b) (ho : ObjRel w' S γ (mupd m n o') n o') : MemRel w' S γ (mupd m n o') base := by
  have keep : Keeps m γ (mupd m n o') γ := by
    intro k q hq
    by_cases e : k = n
    · subst e; rw [hn] at hq; cases hq; exact ⟨o', mupd_same _ _ _, hk, rfl⟩
    · exact ⟨q, by rw [mupd_ne _ _ e]; exact hq, rfl, rfl⟩
  refine ⟨fun k q hq => ?_, fun c hc => by rw [hw.size]; exact h.low c hc, ?_, ?_⟩
  · by_cases e : k = n
    · subst e; rw [mupd_same] at hq; cases hq; exact ho
    · rw [mupd_ne _ _ e] at hq
      exact ObjRel.later (h.obj k q hq) (fun c hc => hw.block c (fun e => hS (e ▸ hc))) (fun _ h => h) keep rfl fun hlq c hc =>
        ⟨hw.block c (fun e' => h.apart k n q o b hq hn hlq hl e (e' ▸ hc) hb), (ObjRel.notS (h.obj k q hq) hlq hc).1⟩
  · intro k k' q q' c hq hq' hlq hlq' hne hc hc'
    have get : ∀ {k : Nat} {q : MO}, mupd m n o' k = some q → q.live = true → ∃ q0, m k = some q0 ∧ q0.live = true := by
      intro k q hq hlq
      by_cases e : k = n
      · subst e; exact ⟨o, hn, hl⟩
      · rw [mupd_ne _ _ e] at hq; exact ⟨q, hq, hlq⟩
    obtain ⟨q0, a1, a2⟩ := get hq hlq
    obtain ⟨q1, b1, b2⟩ := get hq' hlq'
    exact h.apart k k' q0 q1 c a1 b1 a2 b2 hne hc hc'
  · intro k q c hq hlq hc
    by_cases e : k = n
    · subst e; exact h.high k o c hn hl hc
    · rw [mupd_ne _ _ e] at hq; exact h.high k q c hq hlq hc

theorem keeps_write {γ : Nat → Loc} {m : Nat → Option MO} {n : Nat} {o o' : MO} (hn : m n = some o) (hk : o'.kind = o.kind) : Keeps m γ (mupd m n o') γ := by
  intro k q hq
  by_cases e : k = n
  · subst e; rw [hn] at hq; cases hq; exact ⟨o', mupd_same _ _ _, hk, rfl⟩
  · exact ⟨q, by rw [mupd_ne _ _ e]; exact hq, rfl, rfl⟩

theorem dom_write {m : Nat → Option MO} {n : Nat} {o o' : MO} (hn : m n = some o) {dd : Nat → Prop} : ∀ k, mupd m n o' k ≠ none → m k ≠ none ∨ dd k := by
  intro k hk
  by_cases e : k = n
  · subst e; exact .inl (by rw [hn]; simp)
  · rw [mupd_ne _ _ e] at hk; exact .inl hk

theorem dom_new {m : Nat → Option MO} {d : Nat} {o : MO} : ∀ k, mupd m d o k ≠ none → m k ≠ none ∨ k = d := by
  intro k hk
  by_cases e : k = d
  · exact .inr e
  · rw [mupd_ne _ _ e] at hk; exact .inl hk

theorem dom_kill {m m' : Nat → Option MO} {n : Nat} {o o' : MO} {dd : Nat → Prop} (hn : m n = some o) (h : ∀ k, m' k ≠ none → mupd m n o' k ≠ none ∨ dd k) : ∀ k, m' k ≠ none → m k ≠ none ∨ dd k := by
  intro k hk
  rcases h k hk with h | h
  · by_cases e : k = n
    · subst e; exact .inl (by rw [hn]; simp)
    · rw [mupd_ne _ _ e] at h; exact .inl h
  · exact .inr h

/-- what an operation that writes comes to -/
def WOk (dd : Nat → Prop) (base : Nat → Prop) (w : World) (S : Nat → Prop) (γ : Nat → Loc) (m : Nat → Option MO) (run : Result Next) (out : Option AV) (m' : Nat → Option MO) : Prop :=
  ∃ w' γ' nx, run = .ok nx w' ∧ Bel base w w' ∧ (∀ n, m' n ≠ none → m n ≠ none ∨ dd n) ∧ MemRel w' S γ' m' base ∧ Keeps m γ m' γ' ∧ (∀ b, S b → w'.heap[b]? = w.heap[b]?) ∧
    (match out with
    | none => nx = .skip
    | some v => ∃ x, nx = .value x ∧ RepA w' S γ' m' v x)

theorem seg_eq {arr c x : List Value} {p off n s : Nat} (hc : c.length = s) (ho : off + n ≤ s) (h : ∀ j u, c[j]? = some u → arr[p + j]? = some u) :
    arr.take (p + off) ++ x ++ arr.drop (p + off + n) = arr.take p ++ (c.take off ++ x ++ c.drop (off + n)) ++ arr.drop (p + s) := by
  have hd : arr.drop p = c ++ arr.drop (p + s) := by
    apply List.ext_getElem?
    intro j
    rw [List.getElem?_drop]
    by_cases hj : j < s
    · rw [List.getElem?_append_left (by omega)]
      exact (h j (c[j]'(by omega)) (List.getElem?_eq_getElem (by omega))).trans (List.getElem?_eq_getElem (by omega)).symm
    · rw [List.getElem?_append_right (by omega), List.getElem?_drop]
      congr 1; omega
  have h1 : arr.take (p + off) = arr.take p ++ c.take off := by
    rw [List.take_add, hd, List.take_append_of_le_length (by omega)]
  have h2 : arr.drop (p + off + n) = c.drop (off + n) ++ arr.drop (p + s) := by
    rw [Nat.add_assoc, ← List.drop_drop, hd, List.drop_append_of_le_length (by omega)]
  rw [h1, h2]
  simp

def storeA (E : Env) (t : TypeId) (m : Nat → Option MO) (p v : AV) (K : (Nat → Option MO) → Option R) : Option R :=
  match E.ty t with
  | none => none
  | some ti =>
    gd (Nat.beq v.cells.length ti.size && allOne v.cells) (match p with
    | .ptr n off => match m n with
      | some (.box cs .live) => gd (Nat.ble (off + ti.size) cs.length) (K (mupd m n (.box (writeCells off v.cells cs) .live)))
      | _ => none
    | .oel n i off => match m n with
      | some (.sl t' xs .live) => gd (Nat.ble (off + ti.size) t'.size) (match dec m t' (writeCells off v.cells (enc t' (xs.getD i t'.dflt))) with
        | some y => K (mupd m n (.sl t' (xs.set i y) .live))
        | none => none)
      | _ => none
    | _ => none)

theorem run_storeVar_ty {P : Program} {E : Env} (hE : ∀ t ti, E.ty t = some ti → TIok P t ti) {w : World} {t : TypeId} {ti : TI} (hti : E.ty t = some ti) {b off : Nat} {v : Value} (hv : v.cells.size = ti.size) {cur : Array Value} {el : TypeId} {fz : Nat × Nat}
    (hg : w.heap[b]? = some (.cells cur el fz)) (hz : fzW cur.size fz) (hl : off + ti.size ≤ cur.size) (h1 : ∀ u ∈ v.cells.toList, u.oneCell' = true) :
    (storeVar t ⟨b, off, none⟩ v).run P w = .ok () (w.setRow b (cur.toList.take off ++ v.cells.toList ++ cur.toList.drop (off + ti.size)).toArray) := by
  have hs := run_sizeOf_ty hE w hti
  have hst := run_storeCells_fz P b off el fz v.cells.toList 0 cur w hg hz (by simp [hv]; omega) h1
  simp only [Nat.add_zero, Array.length_toList, hv] at hst
  unfold storeVar
  simp [hs, hv, hst]

theorem store_ok {P : Program} {E : Env} (hE : ∀ t ti, E.ty t = some ti → TIok P t ti) {w : World} {S : Nat → Prop} {γ : Nat → Loc} {m : Nat → Option MO} {base : Nat → Prop} (hm : MemRel w S γ m base) {ev : Operand → AV} {el : Operand → Value} (hev : ∀ x, RepA w S γ m (ev x) (el x))
    {o : Oper} {t : TypeId} {p x : Operand} (ho : o.op = .store t p x) {K : (Nat → Option MO) → Option R} {r : R} (h : storeA E t m (ev p) (ev x) K = some r) : ∃ m', K m' = some r ∧ WOk (fun _ => False) base w S γ m ((execOp el o).run P w) none m' := by
  unfold storeA at h
  have hp := hev p
  have hx := hev x
  split at h
  · cases h
  · rename_i ti hti
    obtain ⟨hb, h⟩ := gd_some h
    simp only [Bool.and_eq_true, Nat.beq_eq] at hb
    have hc := cells_rep hx hb.2
    have hcl := hc.length
    simp only [Array.length_toList] at hcl
    have hone := all_one_cell hb.2 hc
    split at h
    · rename_i n off hn
      rw [hn] at hp
      obtain ⟨cs0, s0, b, p1, p2, p3⟩ := hp
      split at h
      · rename_i cs hmn
        obtain ⟨hle, h⟩ := gd_some h
        have hle : off + ti.size ≤ cs.length := by simpa using hle
        obtain ⟨b', vs, el', h1, h2, h3, h4, h5, h6⟩ := hm.obj n _ hmn
        rw [p2] at h1; cases h1
        have hvl := h3.length
        have hrun := run_storeVar_ty (P := P) hE hti (b := b) (off := off) (v := el x) (by omega) h2 (fun i _ hi => by simp at hi) (by simp; omega) hone
        have hS := h5 rfl
        have hW := Wrote.setRow w b (vs.take off ++ (el x).cells.toList ++ vs.drop (off + ti.size)).toArray h2
        have hk : (MO.box (writeCells off (ev x).cells cs) .live).kind = (MO.box cs .live).kind := rfl
        have hblk : (γ n).blk = some b := by simp [Loc.blk, p2]
        refine ⟨_, h, w.setRow b (vs.take off ++ (el x).cells.toList ++ vs.drop (off + ti.size)).toArray, γ, .skip, ?_, hW.below (hm.high n _ b hmn rfl hblk), dom_write hmn, ?_, keeps_write hmn hk, fun k hk => hW.block k (fun e => hS (e ▸ hk)), rfl⟩
        · simp only [execOp, ho, Instr.storeAt, p3, Instr.sureAddr]
          simp only [] at hrun
          simp [hrun]
        · refine hm.write hmn rfl hblk hW hk hS ?_
          refine ⟨b, _, el', p2, setRow_heap w b _ _ _ _ h2, ?_, ?_, fun _ => hS, fun e => absurd rfl e⟩
          · have hcells : RepAs w S γ m (writeCells off (ev x).cells cs) (vs.take off ++ (el x).cells.toList ++ vs.drop (off + ti.size)) := by
              unfold writeCells
              rw [hb.1]
              exact ((h3.take off).append hc).append (h3.drop _)
            have := RepAs.mono (fun k hk => hW.block k (fun e => hS (e ▸ hk))) (fun _ h => h) (keeps_write (γ := γ) hmn hk) _ _ hcells
            simpa using this
          · unfold writeCells
            rw [allOne_append, allOne_append, allOne_take _ h4, allOne_drop _ h4, hb.2]; rfl
      · cases h
    · rename_i n i off hn
      rw [hn] at hp
      obtain ⟨t0, xs0, s0, b, p1, p2, p3, p4⟩ := hp
      split at h
      · rename_i t' xs hmn
        obtain ⟨hle, h⟩ := gd_some h
        have hle : off + ti.size ≤ t'.size := by simpa using hle
        split at h
        · rename_i y hy
          have hob : RowRel w S (γ n) t' xs .live := hm.obj n _ hmn
          rw [hmn] at p1; cases p1
          obtain ⟨b', arr, el', fz, e1, e2, e3, e4, e5, e6, _⟩ := hob.row _ p2
          cases e1
          have hS := e6 rfl
          obtain ⟨c, c1, c2⟩ := e5 i xs0[i] (by simp [getq, p3])
          have hget : xs0.getD i t0.dflt = xs0[i] := by simp [p3]
          rw [hget] at hy
          have hcl' := c1.length
          have hcells : RepAs w S γ m (writeCells off (ev x).cells (enc t0 xs0[i])) (c.take off ++ (el x).cells.toList ++ c.drop (off + ti.size)) := by
            unfold writeCells
            rw [hb.1]
            exact ((c1.enc.take off).append hc).append (c1.enc.drop _)
          have hT := dec_rep hm hy hcells
          have hcap := hob.len
          have hfit := mul_step (s := t0.size) (Nat.lt_of_lt_of_le p3 hcap)
          have hseg : arr.toList.take (i * t0.size + off) ++ (el x).cells.toList ++ arr.toList.drop (i * t0.size + off + ti.size) =
              arr.toList.take (i * t0.size) ++ (c.take off ++ (el x).cells.toList ++ c.drop (off + ti.size)) ++ arr.toList.drop (i * t0.size + t0.size) :=
            seg_eq hcl' hle (fun j u hj => by have := c2 j u hj; simpa using this)
          have hrun := run_storeVar_ty (P := P) hE hti (b := b) (off := i * t0.size + off) (v := el x) (by omega) e2 e4.weak (by omega) hone
          rw [hseg] at hrun
          have hW := Wrote.setRow w b (arr.toList.take (i * t0.size) ++ (c.take off ++ (el x).cells.toList ++ c.drop (off + ti.size)) ++ arr.toList.drop (i * t0.size + t0.size)).toArray e2
          have hk : (MO.sl t0 (xs0.set i y) .live).kind = (MO.sl t0 xs0 .live).kind := by simp [MO.kind]
          have hblk : (γ n).blk = some b := by simp [Loc.blk, p2]
          refine ⟨_, h, _, γ, .skip, ?_, hW.below (hm.high n _ b hmn rfl hblk), dom_write hmn, ?_, keeps_write hmn hk, fun k hk => hW.block k (fun e => hS (e ▸ hk)), rfl⟩
          · simp only [execOp, ho, Instr.storeAt, p4, Instr.sureAddr]
            simp [hrun]
          · refine hm.write hmn rfl hblk hW hk hS ?_
            show RowRel _ S (γ n) t0 (xs0.set i y) .live
            have hlen : (arr.toList.take (i * t0.size) ++ (c.take off ++ (el x).cells.toList ++ c.drop (off + ti.size)) ++ arr.toList.drop (i * t0.size + t0.size)).length = arr.size := by simp; omega
            refine ⟨by simpa using hcap, hob.cap, hob.nil, fun a ha => ?_⟩
            rw [p2] at ha; cases ha
            refine ⟨b, _, el', fz, rfl, setRow_heap w b _ _ _ _ e2, by rw [← e3]; simpa using hlen, ?_, ?_, fun _ => hS, fun e => (by cases e)⟩
            · have : (arr.toList.take (i * t0.size) ++ (c.take off ++ (el x).cells.toList ++ c.drop (off + ti.size)) ++ arr.toList.drop (i * t0.size + t0.size)).toArray.size = arr.size := by simpa using hlen
              rw [this]; exact e4
            · have hrows : Rows w S t0 arr.toList xs0 := fun k z hz => by
                obtain ⟨d, d1, d2⟩ := e5 k z hz
                exact ⟨d, d1, fun j u hj => by have := d2 j u hj; simpa using this⟩
              have := Rows.set hrows p3 hT (by simp; omega)
              intro k z hz
              obtain ⟨d, d1, d2⟩ := this k z hz
              exact ⟨d, RepT.mono (fun k hk => hW.block k (fun e => hS (e ▸ hk))) (fun _ h => h) t0 z d d1, fun j u hj => by have := d2 j u hj; simpa using this⟩
        · cases h
      · cases h
    · cases h

end Go.Dv
