/- Parts of slices and strings; structs, arrays and slices that are made; lengths; the least and the greatest. -/
import Derived.Test.YtmffojmbfphidaaDoorDvOps4
set_option linter.all false
namespace Go.Dv
open Go.RowKit

variable [LTab]

variable {R : Type}

section core
variable {P : Program} {E : Env} (hE : ∀ t ti, E.ty t = some ti → TIok P t ti) {w : World} {S : Nat → Prop} {γ : Nat → Loc} {m : Nat → Option MO} {base : Nat → Prop} (hm : MemRel w S γ m base)
  {ev : Operand → AV} {el : Operand → Value} (hev : ∀ x, RepA w S γ m (ev x) (el x)) {K : AV → Option MO → Option R} {r : R}

include hev in
theorem bound_ok {lo : Option Operand} {d l : Int} (h : boundA (lo.map ev) d = some l) : (lo = none ∧ l = d) ∨ ∃ x k, lo = some x ∧ el x = .int k l := by
  cases lo with
  | none => simp only [Option.map_none, boundA, Option.some.injEq] at h; exact .inl ⟨rfl, h.symm⟩
  | some x =>
    have hx := hev x
    cases hq : ev x <;> rw [hq] at hx <;> simp only [Option.map_some, hq, boundA] at h <;> try (cases h; done)
    cases h
    exact .inr ⟨x, _, rfl, hx⟩

theorem run_sliceBound {P : Program} {w : World} {k : IntKind} {i : Int} {y : Nat} {c : BoundsCode} (h0 : 0 ≤ i) (h1 : i ≤ y) : (Instr.sliceBound (.int k i) y c).run P w = .ok i.toNat w := by
  simp [Instr.sliceBound, asIntOf, h0, h1]

include hev in
theorem run_sliceBounds {isS : Bool} {len cap : Nat} {lo hi : Option Operand} {l h : Int} (hl : boundA (lo.map ev) 0 = some l) (hh : boundA (hi.map ev) len = some h) (h0 : 0 ≤ l) (h1 : l ≤ h) (h2 : h ≤ len) (h3 : len ≤ cap) :
    (Instr.sliceBounds isS len cap (lo.map el) (hi.map el) none).run P w = .ok (l.toNat, h.toNat, cap) w := by
  have hc : h ≤ (cap : Int) := by omega
  have hn : (h.toNat : Int) = h := by omega
  have e1 : ((match hi.map el with | some v => Instr.sliceBound v cap (if isS = true then .sliceAcap else .sliceAlen) | none => pure len) : Sem Nat).run P w = .ok h.toNat w := by
    rcases bound_ok hev hh with ⟨rfl, rfl⟩ | ⟨x, k, rfl, e⟩
    · simp
    · simp only [Option.map_some, e]
      exact run_sliceBound (by omega) hc
  have e2 : ((match lo.map el with | some v => Instr.sliceBound v h.toNat .sliceB | none => pure 0) : Sem Nat).run P w = .ok l.toNat w := by
    rcases bound_ok hev hl with ⟨rfl, rfl⟩ | ⟨x, k, rfl, e⟩
    · simp
    · simp only [Option.map_some, e]
      exact run_sliceBound h0 (by omega)
  cases hi with
  | none =>
    cases lo with
    | none => simp only [Option.map_none] at e1 e2 ⊢; simp [Instr.sliceBounds] at e1 e2 ⊢; exact ⟨e2, e1⟩
    | some x => simp only [Option.map_none, Option.map_some] at e1 e2 ⊢; simp [Instr.sliceBounds] at e1 ⊢; rw [← e1] at e2; rw [e2]; simp [e1]
  | some y =>
    cases lo with
    | none => simp only [Option.map_none, Option.map_some] at e1 e2 ⊢; simp [Instr.sliceBounds, e1] at e2 ⊢; exact e2
    | some x => simp only [Option.map_some] at e1 e2 ⊢; simp [Instr.sliceBounds, e1, e2]

theorem getq_cut2 {α : Type} {xs : List α} {l h : Int} {i : Nat} {x : α} (hx : getq (cut2 xs l h) i = some x) : getq xs (l.toNat + i) = some x := by
  unfold getq cut2 at *
  rw [List.getElem?_take] at hx
  split at hx
  · rwa [List.getElem?_drop] at hx
  · cases hx

theorem length_cut2 {α : Type} {xs : List α} {l h : Int} (_h0 : 0 ≤ l) (h1 : l ≤ h) (h2 : h ≤ xs.length) : (cut2 xs l h).length = h.toNat - l.toNat := by
  simp [cut2]; omega

theorem cut2_rep {t : Ty} {xs : List t.T} {ao : Option Addr} {cap mx : Nat} {l h : Int} (hr : RepT w S (.list t) xs [.slice ao xs.length cap]) (_h0 : 0 ≤ l) (h1 : l ≤ h) (h2 : h ≤ xs.length) (h3 : h ≤ mx) (h4 : mx ≤ cap) :
    RepT w S (.list t) (cut2 xs l h) [.slice (if mx = l.toNat then ao else ao.map (·.add (l.toNat * t.size))) (h.toNat - l.toNat) (mx - l.toNat)] := by
  obtain ⟨ao', cap', k1, k2, k3, k4, k5⟩ := hr
  simp only [List.cons.injEq, and_true, Value.slice.injEq] at k1
  obtain ⟨rfl, -, rfl⟩ := k1
  refine ⟨_, mx - l.toNat, by rw [length_cut2 (xs := xs) _h0 h1 h2], by rw [length_cut2 (xs := xs) _h0 h1 h2]; omega, ?_, ?_, ?_⟩
  · intro e
    split at e
    · have := k3 e; omega
    · cases ao with
      | none => have := k3 rfl; omega
      | some a => simp at e
  · intro a e
    split at e
    · exact k4 a e
    · cases ao with
      | none => simp at e
      | some b =>
        simp only [Option.map_some, Option.some.injEq] at e
        subst e
        have := k4 b rfl
        unfold Addr.add
        split <;> simp [this]
  · intro i x hx
    have hx' := getq_cut2 hx
    have hi := getq_mem hx
    rw [length_cut2 (xs := xs) _h0 h1 h2] at hi
    obtain ⟨a, c, e, hs, hrr, hc⟩ := k5 _ x hx'
    subst e
    have ha := addr_eta (k4 a rfl)
    have hne : mx ≠ l.toNat := by omega
    rw [if_neg hne]
    refine ⟨a.add (l.toNat * t.size), c, rfl, ?_, hrr, ?_⟩
    · rw [ha, add_none]; exact hs
    · rw [ha, add_none]
      have : a.off + (l.toNat + i) * t.size = a.off + l.toNat * t.size + i * t.size := by rw [Nat.add_mul, Nat.add_assoc]
      rw [this] at hc
      exact hc

include hE hm hev in
theorem core_slice {o : Oper} {T : TypeId} {x : Operand} {lo hi mx : Option Operand} (ho : o.op = .slice T x lo hi mx) (h : coreA E o.dst o.op ev m K = some r) : CoreOk w S γ m o.dst ((execOp el o).run P w) K r := by
  rw [ho] at h
  simp only [coreA] at h
  have hx := hev x
  split at h
  · rename_i ti hti
    obtain ⟨d, hd1, hd2⟩ := run_und_ty hE w hti
    split at h
    · rename_i s hts hs
      rw [hts] at hd2
      have := tdOf_str hd2; subst this
      rw [hs] at hx; simp only [RepA] at hx
      split at h
      · split at h
        · rename_i l hh hl' hh'
          obtain ⟨hb, h⟩ := gd_some h
          simp only [Bool.and_eq_true, decide_eq_true_eq] at hb
          obtain ⟨b0, b1, b2⟩ := hb
          have hsz : (⟨s.toArray⟩ : ByteArray).size = s.length := by simp [ByteArray.size]
          have hrun := run_sliceBounds (P := P) (w := w) hev (isS := false) (len := s.length) (cap := s.length) hl' hh' b0 b1 b2 (Nat.le_refl _)
          refine .pure (v := .str (cut2 s l hh)) (x := .string ⟨(cut2 s l hh).toArray⟩) ?_ rfl h
          have hex : (⟨s.toArray⟩ : ByteArray).extract l.toNat hh.toNat = ⟨(cut2 s l hh).toArray⟩ := by
            apply ByteArray.ext
            simp [cut2]
          simp [execOp, ho, Instr.sliceAt, Instr.slice, hx, hd1, hsz, hrun, hex]
        · cases h
      · cases h
    · rename_i e hts
      rw [hts] at hd2
      have := tdOf_slice hd2; subst this
      split at h
      · rename_i ee ei ty he
        obtain ⟨e1, e2, e3⟩ := elemTy_some hE he
        have hs := run_sizeOf_ty hE w e2
        obtain ⟨d', hd1', hd2'⟩ := run_und_ty hE w hti
        have hee : (underlying T).run P w = .ok (.slice ee) w := run_underlying e1 w
        rw [hee] at hd1
        cases hd1
        split at h
        · rename_i xs hxs
          have hrep := asList_rep hm hxs hx
          obtain ⟨ao, cap, k1, k2⟩ := hrep
          simp only [List.cons.injEq, and_true] at k1
          have hrep : RepT w S (.list ty) xs [.slice ao (List.length xs) cap] := ⟨ao, cap, rfl, k2⟩
          split at h
          · rename_i l hh hl' hh'
            split at h
            · obtain ⟨hb, h⟩ := gd_some h
              simp only [Bool.and_eq_true, decide_eq_true_eq, Nat.beq_eq] at hb
              obtain ⟨b3, b0, b1, b2⟩ := hb
              have hrun := run_sliceBounds (P := P) (w := w) hev (isS := true) (len := List.length xs) (cap := cap) hl' hh' b0 b1 b2 k2.1
              have hfin := cut2_rep hrep b0 b1 b2 (mx := cap) (by have := k2.1; omega) (Nat.le_refl _)
              refine .pure (v := .list ty (cut2 xs l hh)) (x := _) ?_ hfin h
              simp [execOp, ho, Instr.sliceAt, Instr.slice, k1, hee, hrun, hs, b3]
            · rename_i mx'
              have hmx := hev mx'
              split at h
              · rename_i kq q hq
                rw [hq] at hmx; simp only [RepA] at hmx
                obtain ⟨hb, h⟩ := gd_some h
                simp only [Bool.and_eq_true, decide_eq_true_eq, Nat.beq_eq] at hb
                obtain ⟨b3, ⟨b0, b1, b2⟩, b4, b5⟩ := hb
                have b4 : q = hh := by simpa [eqi] using b4
                subst b4
                have hcapq : q ≤ (cap : Int) := by have := k2.1; omega
                have hfin := cut2_rep hrep b0 b1 b2 (mx := q.toNat) (by omega) (by omega)
                have hlen : (cut2 xs l q).length = q.toNat - l.toNat := length_cut2 (xs := xs) b0 b1 b2
                have hrun : (Instr.sliceBounds true (List.length xs) cap (lo.map el) (hi.map el) (some (el mx'))).run P w = .ok (l.toNat, q.toNat, q.toNat) w := by
                  have hqn : (q.toNat : Int) = q := by omega
                  have m1 : (Instr.sliceBound (el mx') cap .slice3Acap).run P w = .ok q.toNat w := by rw [hmx]; exact run_sliceBound (by omega) hcapq
                  have m2 : ∀ y k, hi = some y → el y = .int k q → (Instr.sliceBound (el y) q.toNat .slice3B).run P w = .ok q.toNat w := by
                    intro y k _ e; rw [e]; exact run_sliceBound (by omega) (by omega)
                  have m3 : ((match lo.map el with | some v => Instr.sliceBound v q.toNat .slice3C | none => pure 0) : Sem Nat).run P w = .ok l.toNat w := by
                    rcases bound_ok hev hl' with ⟨rfl, rfl⟩ | ⟨x, k, rfl, e⟩
                    · simp
                    · simp only [Option.map_some, e]
                      exact run_sliceBound b0 (by omega)
                  cases hi with
                  | none => simp at b5
                  | some y =>
                    rcases bound_ok hev hh' with ⟨e, _⟩ | ⟨y', k, e, e'⟩
                    · cases e
                    · cases e
                      cases lo with
                      | none => simp [Instr.sliceBounds, m1, m2 y k rfl e'] at m3 ⊢; exact m3
                      | some x => simp only [Option.map_some] at m3 ⊢; simp [Instr.sliceBounds, m1, m2 y k rfl e', m3]
                refine .pure (v := .clip ty (cut2 xs l q)) (x := _) ?_ ⟨?_, hfin⟩ h
                · simp [execOp, ho, Instr.sliceAt, Instr.slice, k1, hee, hrun, hs, b3]
                · exact ⟨_, by rw [hlen]⟩
              · cases h
          · cases h
        · cases h
      · cases h
    · cases h
  · cases h

end core
end Go.Dv
