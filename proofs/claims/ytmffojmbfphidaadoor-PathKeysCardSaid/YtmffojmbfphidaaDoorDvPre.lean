/- The front of a slice of the function's own. -/
import Derived.Test.YtmffojmbfphidaaDoorDvCall
set_option linter.all false
namespace Go.Dv
open Go.RowKit

variable [LTab]

variable {R : Type}

theorem pre_ok {P : Program} {E : Env} (hE : ∀ t ti, E.ty t = some ti → TIok P t ti) {w : World} {S : Nat → Prop} {γ : Nat → Loc} {m : Nat → Option MO} {base : Nat → Prop} (hm : MemRel w S γ m base) {ev : Operand → AV} {el : Operand → Value} (hev : ∀ x, RepA w S γ m (ev x) (el x))
    {o : Oper} {T : TypeId} {x y : Operand} (ho : o.op = .slice T x none (some y) none) {d : Nat} {K : AV → (Nat → Option MO) → Option R} {r : R} (h : preA E m d T (ev x) (ev y) K = some r) :
    ∃ v m', K v m' = some r ∧ WOk (fun n => n = d) base w S γ m ((execOp el o).run P w) (some v) m' := by
  unfold preA at h
  have hx := hev x
  split at h
  · cases h
  · rename_i e ei ty he
    obtain ⟨e1, e2, e3⟩ := elemTy_some hE he
    split at h
    · cases h
    · rename_i hd
      split at h
      · rename_i n hea
        rw [hea] at hx
        split at h
        · rename_i t' xs' hmn
          split at h
          · rename_i xs hxs
            rw [castL_self_eq hxs] at hmn
            split at h
            · rename_i kq q hq
              obtain ⟨hb, h⟩ := gd_some h
              simp only [Bool.and_eq_true, decide_eq_true_eq, Nat.beq_eq] at hb
              obtain ⟨b0, b1, b2⟩ := hb
              obtain ⟨t0, xs0, s0, k1, k2⟩ := hx
              rw [hmn] at k1; cases k1
              have hob : RowRel w S (γ n) ty xs .live := hm.obj n _ hmn
              have hnd : d ≠ n := fun e => by rw [e, hmn] at hd; cases hd
              have hkill := hm.kill hmn
              have hkk : Keeps m γ (mupd m n (.sl ty xs .dead)) γ := keeps_write hmn rfl
              have hd' : mupd m n (.sl ty xs .dead) d = none := by rw [mupd_ne _ _ hnd]; exact hd
              have hlen : (xs.take q.toNat).length = q.toNat := by rw [List.length_take]; omega
              have hrun := run_sliceBounds (P := P) (w := w) hev (isS := true) (len := xs.length) (cap := (γ n).cap) (lo := none) (hi := some y) (l := 0) (h := q) rfl (by simp [boundA, hq]) (Int.le_refl 0) b1 b2 hob.len
              have hs := run_sizeOf_ty hE w e2
              have hee : (underlying T).run P w = .ok (.slice e) w := run_underlying e1 w
              have hval : (if (γ n).cap = 0 then (γ n).a else (γ n).a.map (·.add (0 * ty.size))) = (γ n).a := by
                split
                · rfl
                · cases ha : (γ n).a with
                  | none => rfl
                  | some a =>
                    obtain ⟨b, arr, el', fz, g1, _⟩ := hob.row a ha
                    subst g1
                    simp [Addr.add]
              have hex : (execOp el o).run P w = .ok (.value (.slice (γ n).a (xs.take q.toNat).length (γ n).cap)) w := by
                have hv : el x = .slice (γ n).a xs.length (γ n).cap := k2
                rw [hlen]
                simp only [Option.map_none, Option.map_some] at hrun
                have hval' := hval
                simp only [Nat.zero_mul] at hval'
                simp [execOp, ho, Instr.sliceAt, Instr.slice, hv, hee, hrun, hs, hval']
              refine ⟨_, _, h, w, gupd γ d (γ n), _, hex, Bel.refl _ _, dom_kill hmn dom_new, ?_, hkk.trans (Keeps.new hd'), fun _ _ => rfl, _, rfl, ?_⟩
              · refine hkill.addHere (fun b hb => ⟨hm.high n _ b hmn rfl hb, fun k q' hk hl => ?_⟩) hd' ?_
                · by_cases e : k = n
                  · subst e; rw [mupd_same] at hk; cases hk; cases hl
                  · rw [mupd_ne _ _ e] at hk
                    exact fun hb' => hm.apart k n q' _ b hk hmn hl rfl e hb' hb
                · show RowRel w S (gupd γ d (γ n) d) ty (xs.take q.toNat) .live
                  rw [gupd_same]
                  refine ⟨by rw [hlen]; have := hob.len; omega, hob.cap, hob.nil, fun a ha => ?_⟩
                  obtain ⟨b, arr, el', fz, g1, g2, g3, g4, g5, g6, g7⟩ := hob.row a ha
                  refine ⟨b, arr, el', fz, g1, g2, g3, g4, fun i z hz => g5 i z ?_, g6, g7⟩
                  simp only [getq, List.getElem?_take] at hz ⊢
                  split at hz
                  · exact hz
                  · cases hz
              · exact ⟨ty, _, .live, mupd_same _ _ _, by rw [gupd_same]⟩
            · cases h
          · cases h
        · cases h
      · cases h

end Go.Dv
