/- Places: fields and elements; parts of slices and strings. -/
import Derived.Test.YtmffojmbfphidaaDoorDvOps3
set_option linter.all false
namespace Go.Dv
open Go.RowKit

variable [LTab]

variable {R : Type}

section core
variable {P : Program} {E : Env} (hE : ∀ t ti, E.ty t = some ti → TIok P t ti) {w : World} {S : Nat → Prop} {γ : Nat → Loc} {m : Nat → Option MO} {base : Nat → Prop} (hm : MemRel w S γ m base)
  {ev : Operand → AV} {el : Operand → Value} (hev : ∀ x, RepA w S γ m (ev x) (el x)) {K : AV → Option MO → Option R} {r : R}

/-- moving a pointer on inside what it points into -/
def moveA (v : AV) (n : Nat) : Option AV := match v with
  | .ptr k off => some (.ptr k (off + n))
  | .bx cs off => some (.bx cs (off + n))
  | .ro t y off => some (.ro t y (off + n))
  | .oel k i off => some (.oel k i (off + n))
  | _ => none

theorem moveA_rep {v v' : AV} {x : Value} {n : Nat} (h : RepA w S γ m v x) (hv : moveA v n = some v') : ∃ b o, x = .pointer (some ⟨b, o, none⟩) ∧ RepA w S γ m v' (.pointer (some ⟨b, o + n, none⟩)) := by
  unfold moveA at hv
  split at hv
  · cases hv
    obtain ⟨cs, s, b, h1, h2, rfl⟩ := h
    exact ⟨b, _, rfl, cs, s, b, h1, h2, rfl⟩
  · cases hv
    obtain ⟨b, vs, rfl, h2⟩ := h
    exact ⟨b, _, rfl, b, vs, rfl, h2⟩
  · cases hv
    obtain ⟨b, o, cs, rfl, h2⟩ := h
    exact ⟨b, _, rfl, b, o, cs, by rw [Nat.add_assoc], h2⟩
  · cases hv
    obtain ⟨t, xs, s, b, h1, h2, h3, rfl⟩ := h
    exact ⟨b, _, rfl, t, xs, s, b, h1, h2, h3, by rw [Nat.add_assoc]⟩
  · cases hv

theorem moveA_match {v : AV} {n : Nat} {r : R} (h : (match v with
    | .ptr k off => K (.ptr k (off + n)) none
    | .bx cs off => K (.bx cs (off + n)) none
    | .ro t y off => K (.ro t y (off + n)) none
    | .oel k i off => K (.oel k i (off + n)) none
    | _ => none) = some r) : ∃ v', moveA v n = some v' ∧ K v' none = some r := by
  split at h
  · exact ⟨_, rfl, h⟩
  · exact ⟨_, rfl, h⟩
  · exact ⟨_, rfl, h⟩
  · exact ⟨_, rfl, h⟩
  · cases h

include hE in
theorem part_ok {t : TypeId} {ti : TI} (hti : E.ty t = some ti) {cs : List AV} {vs : List Value} (hr : RepAs w S γ m cs vs) (ha : allOne cs = true) {off : Nat} {v : AV} (hv : readCells ti off cs = some v) :
    ∃ x, (part t vs.toArray off).run P w = .ok x w ∧ RepA w S γ m v x := by
  unfold readCells at hv
  rcases bif_some hv with ⟨h1, h2⟩ | ⟨_, h2⟩
  · have h1' : off + ti.size ≤ cs.length := by simpa using h1
    have hlen := hr.length
    have hr' : RepAs w S γ m ((cs.drop off).take ti.size) ((vs.drop off).take ti.size) := RepAs.take _ (RepAs.drop _ hr)
    refine ⟨_, ?_, mkAgg_rep h2 hr' (allOne_take _ (allOne_drop _ ha))⟩
    unfold part
    rw [Sem.run_bind, run_isAgg_ty hE w hti]
    cases hg : ti.d.agg with
    | true =>
      simp [run_sizeOf_ty hE w hti, aggV]
    | false =>
      have h1 := (hE t ti hti).one hg
      have hlt : off < vs.length := by omega
      simp [aggV, hlt, h1]
  · cases h2

include hE hev in
theorem core_fieldAddr {o : Oper} {s : TypeId} {x : Operand} {f : Nat} (ho : o.op = .fieldAddr s x f) (h : coreA E o.dst o.op ev m K = some r) : CoreOk w S γ m o.dst ((execOp el o).run P w) K r := by
  rw [ho] at h
  simp only [coreA] at h
  split at h
  · rename_i ti hti
    obtain ⟨d, hd1, hd2⟩ := run_und_ty hE w hti
    split at h
    · rename_i fs hfs
      rw [hfs] at hd2
      obtain ⟨a, rfl, rfl⟩ := tdOf_struct hd2
      split at h
      · rename_i fo ft hf
        obtain ⟨fd, g1, g2, g3⟩ := field_get hf
        split at h
        · rename_i fi hfi
          obtain ⟨hpos, h⟩ := gd_some h
          have hpos : 0 < fi.size := by simpa using hpos
          obtain ⟨v', hv', hk⟩ := moveA_match h
          obtain ⟨b, off, hx, hrep⟩ := moveA_rep (hev x) hv'
          refine .pure ?_ hrep hk
          have hs : (sizeOf fd.type).run P w = .ok fi.size w := by rw [g3]; exact run_sizeOf_ty hE w hfi
          have hne : fi.size ≠ 0 := by omega
          simp [execOp, ho, Instr.fieldAt, hd1, g1, hx, Instr.sureAddr, fieldPlace, hs, hne, add_none, g2]
        · cases h
      · cases h
    · cases h
  · cases h

theorem listEl_rep {t : Ty} {xs : List t.T} {x : Value} (h : RepT w S (.list t) xs [x]) {i : Int} (hi : inB i xs.length = true) :
    ∃ b o cap, x = .slice (some ⟨b, o, none⟩) xs.length cap ∧ RepA w S γ m (.ro t (rd t xs i) 0) (.pointer (some ⟨b, o + i.toNat * t.size, none⟩)) := by
  obtain ⟨ao, cap, k1, k2, k3, k4, k5⟩ := h
  simp only [List.cons.injEq, and_true] at k1
  obtain ⟨a, c, e, hs, hr, hc⟩ := k5 i.toNat _ (rd_getq hi)
  subst e
  have ha := addr_eta (k4 a rfl)
  refine ⟨a.block, a.off, cap, by rw [k1]; congr 2, a.block, a.off + i.toNat * t.size, c, rfl, hs, hr, hc⟩

include hE hm hev in
theorem core_indexAddr {o : Oper} {T : TypeId} {x i : Operand} (ho : o.op = .indexAddr T x i) (h : coreA E o.dst o.op ev m K = some r) : CoreOk w S γ m o.dst ((execOp el o).run P w) K r := by
  rw [ho] at h
  simp only [coreA] at h
  have hx := hev x
  have hi := hev i
  split at h
  · rename_i ki iv hiv
    rw [hiv] at hi; simp only [RepA] at hi
    split at h
    · rename_i ti hti
      obtain ⟨d, hd1, hd2⟩ := run_und_ty hE w hti
      split at h
      · rename_i e hte
        rw [hte] at hd2
        have := tdOf_slice hd2; subst this
        split at h
        · rename_i ei hei
          have hs := run_sizeOf_ty hE w hei
          have fin : ∀ {t : Ty} {xs : List t.T}, RepT w S (.list t) xs [el x] → (Nat.beq t.size ei.size && inB iv xs.length) = true → K (.ro t (rd t xs iv) 0) none = some r → CoreOk w S γ m o.dst ((execOp el o).run P w) K r := by
            intro t xs hrep hb hk
            simp only [Bool.and_eq_true, Nat.beq_eq] at hb
            obtain ⟨b, oo, cap, k1, k2⟩ := listEl_rep (γ := γ) (m := m) hrep hb.2
            refine .pure ?_ k2 hk
            have hin := hb.2
            simp only [inB, Bool.and_eq_true, decide_eq_true_eq] at hin
            simp [execOp, ho, Instr.indexAt, hi, k1, asIntOf, hd1, hin.1, hin.2, hs, add_none, hb.1]
          split at h
          · rename_i t xs he
            obtain ⟨hb, h⟩ := gd_some h
            rw [he] at hx
            exact fin hx hb h
          · rename_i t xs he
            obtain ⟨hb, h⟩ := gd_some h
            rw [he] at hx
            exact fin hx.2 hb h
          · rename_i n he
            rw [he] at hx
            split at h
            · rename_i t xs hn
              obtain ⟨hb, h⟩ := gd_some h
              simp only [Bool.and_eq_true, Nat.beq_eq] at hb
              obtain ⟨t0, xs0, s0, k1, k2⟩ := hx
              have hob : RowRel w S (γ n) t xs .live := hm.obj n _ hn
              rw [hn] at k1; cases k1
              have hin := hb.2
              simp only [inB, Bool.and_eq_true, decide_eq_true_eq] at hin
              have hlt : iv.toNat < xs.length := by omega
              cases ha : (γ n).a with
              | none =>
                have h1 := hob.nil ha
                have h2 := hob.len
                omega
              | some a =>
                obtain ⟨b, arr, el', fz, e1, e2, _⟩ := hob.row a ha
                subst e1
                rw [ha] at k2
                refine .pure (v := .oel n iv.toNat 0) (x := .pointer (some ⟨b, iv.toNat * ei.size, none⟩)) ?_ ⟨t, xs, .live, b, hn, ha, hlt, by rw [hb.1]; rfl⟩ h
                simp [execOp, ho, Instr.indexAt, hi, k2, asIntOf, hd1, hin.1, hin.2, hs, add_none]
            · rename_i t xs hn
              obtain ⟨hb, h⟩ := gd_some h
              have hrep : RepT w S (.list t) xs [el x] := by
                obtain ⟨t0, xs0, s0, k1, k2⟩ := hx
                have hob : RowRel w S (γ n) t xs .still := hm.obj n _ hn
                rw [hn] at k1; cases k1
                rw [k2]
                refine row_rep hob (fun _ h => h) fun a ha => ?_
                obtain ⟨b, _, _, _, e1, _, _, _, _, _, e7⟩ := hob.row a ha
                subst e1; exact e7 rfl
              exact fin hrep hb h
            · cases h
          · cases h
        · cases h
      · rename_i len e hte
        rw [hte] at hd2
        have := tdOf_arr hd2; subst this
        split at h
        · rename_i ei hei
          have hs := run_sizeOf_ty hE w hei
          obtain ⟨j, hj, hb, h⟩ := armN_some h
          obtain ⟨v', hv', hk⟩ := moveA_match h
          obtain ⟨b, off, hx, hrep⟩ := moveA_rep (hev x) hv'
          refine .pure ?_ hrep hk
          have h0 : (0 : Int) ≤ (j : Int) := by omega
          have h1 : (j : Int) < (len : Int) := by omega
          simp [execOp, ho, Instr.indexAt, hi, hj, hx, asIntOf, hd1, h0, hb, hs, add_none, Instr.sureAddr]
        · cases h
      · cases h
    · cases h
  · cases h

include hE hev in
theorem core_index {o : Oper} {T : TypeId} {x i : Operand} (ho : o.op = .index T x i) (h : coreA E o.dst o.op ev m K = some r) : CoreOk w S γ m o.dst ((execOp el o).run P w) K r := by
  rw [ho] at h
  simp only [coreA] at h
  have hx := hev x
  have hi := hev i
  split at h
  · rename_i ki iv hiv
    rw [hiv] at hi; simp only [RepA] at hi
    split at h
    · rename_i ti hti
      obtain ⟨d, hd1, hd2⟩ := run_und_ty hE w hti
      split at h
      · rename_i s hts hs
        rw [hts] at hd2
        have := tdOf_str hd2; subst this
        rw [hs] at hx; simp only [RepA] at hx
        obtain ⟨hb, h⟩ := gd_some h
        simp only [inB, Bool.and_eq_true, decide_eq_true_eq] at hb
        have hlt : iv.toNat < s.length := by omega
        refine .pure (v := .int .u8 (bt s iv)) (x := .int .u8 (bt s iv)) ?_ rfl h
        have hg : (⟨s.toArray⟩ : ByteArray)[iv.toNat]? = some s[iv.toNat] := by
          rw [getElem?_pos _ _ (by simpa [ByteArray.size] using hlt)]
          rfl
        simp [execOp, ho, Instr.index, hi, hx, asIntOf, hd1, hb.1, hg, bt, hlt]
      · rename_i len e cs hts hcs
        rw [hts] at hd2
        have := tdOf_arr hd2; subst this
        rw [hcs] at hx
        obtain ⟨vs, hxv, hr, ha⟩ := hx
        split at h
        · rename_i ei hei
          obtain ⟨hb, h⟩ := gd_some h
          simp only [inB, Bool.and_eq_true, decide_eq_true_eq] at hb
          split at h
          · rename_i v hv
            obtain ⟨y, hy, hv'⟩ := part_ok (P := P) hE hei hr ha hv
            refine .pure (x := y) ?_ hv' h
            have hs := run_sizeOf_ty hE w hei
            simp [execOp, ho, Instr.index, hi, hxv, asIntOf, hd1, hb.1, hb.2, hs, hy]
          · cases h
        · cases h
      · cases h
    · cases h
  · cases h

include hE hev in
theorem core_field {o : Oper} {T : TypeId} {x : Operand} {f : Nat} (ho : o.op = .field T x f) (h : coreA E o.dst o.op ev m K = some r) : CoreOk w S γ m o.dst ((execOp el o).run P w) K r := by
  rw [ho] at h
  simp only [coreA] at h
  have hx := hev x
  split at h
  · rename_i ti hti
    obtain ⟨d, hd1, hd2⟩ := run_und_ty hE w hti
    split at h
    · rename_i fs cs hfs hcs
      rw [hfs] at hd2
      obtain ⟨a, rfl, rfl⟩ := tdOf_struct hd2
      rw [hcs] at hx
      obtain ⟨vs, hxv, hr, ha⟩ := hx
      split at h
      · rename_i fo ft hf
        obtain ⟨fd, g1, g2, g3⟩ := field_get hf
        split at h
        · rename_i fi hfi
          split at h
          · rename_i v hv
            obtain ⟨y, hy, hv'⟩ := part_ok (P := P) hE hfi hr ha hv
            refine .pure (x := y) ?_ hv' h
            simp [execOp, ho, Instr.field, hxv, hd1, g1, g2, g3, asAgg, hy]
          · cases h
        · cases h
      · cases h
    · cases h
  · cases h

end core
end Go.Dv
