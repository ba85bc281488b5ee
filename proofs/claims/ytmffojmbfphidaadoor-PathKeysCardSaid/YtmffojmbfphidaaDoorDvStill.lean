/- What is written no more. -/
import Derived.Test.YtmffojmbfphidaaDoorDvYld
set_option linter.all false
namespace Go.Dv
open Go.RowKit

variable [LTab]

/-! ## what is written no more -/
theorem ObjRel.more {w : World} {S S' : Nat → Prop} {γ : Nat → Loc} {m m' : Nat → Option MO} {k : Nat} {q : MO} (h : ObjRel w S γ m k q) (hS : ∀ b, S b → S' b) (hk : Keeps m γ m' γ) (hl : q.live = true → ∀ b, (γ k).blk = some b → ¬ S' b) : ObjRel w S' γ m' k q :=
  ObjRel.later h (fun _ _ => rfl) hS hk rfl fun hlq b hb => ⟨rfl, hl hlq b hb⟩

theorem Rel.stillAt {X : Cx} {w : World} {S : Nat → Prop} {γ : Nat → Loc} {ρ : Nat → AV} {m : Nat → Option MO} {a : Act} (h : Rel X w S γ ⟨ρ, m⟩ a) {n : Nat} {o o' : MO} (hn : m n = some o) (hl : o.live = true) (hl' : o'.live = false) (hk : o'.kind = o.kind)
    (ho : ∀ S' : Nat → Prop, (∀ b, S b → S' b) → (∀ b, (γ n).blk = some b → S' b) → ObjRel w S' γ (mupd m n o') n o') : ∃ S', Rel X w S' γ ⟨ρ, mupd m n o'⟩ a := by
  have hkk := keeps_write (γ := γ) hn hk
  have old : ∀ k q, mupd m n o' k = some q → q.live = true → k ≠ n ∧ m k = some q := by
    intro k q hq hlq
    by_cases e : k = n
    · subst e; rw [mupd_same] at hq; cases hq; rw [hl'] at hlq; cases hlq
    · rw [mupd_ne _ _ e] at hq; exact ⟨e, hq⟩
  have hmark : ∀ D, w.heap[D]? = some (.deferred (some [])) → (S D ∨ (γ n).blk = some D) → S D := by
    rintro D hD (hs | hs)
    · exact hs
    obtain ⟨_, o', g1, g2⟩ := ObjRel.notS (h.mem.obj n o hn) hl hs
    rw [hD] at g1; cases g1
    exact absurd rfl (g2 _)
  have hpin : ∀ k l, X.pn k = some l → mupd m n o' k ≠ none → m k ≠ none := by
    intro k _ _ hk
    by_cases e : k = n
    · subst e; rw [hn]; simp
    · rwa [mupd_ne _ _ e] at hk
  refine ⟨fun b => S b ∨ (γ n).blk = some b, ⟨fun k q hq => ?_, ?_, ?_, ?_⟩, fun t => RepA.mono (fun _ _ => rfl) (fun _ h => .inl h) hkk _ _ (h.tm t), h.below, h.base_le, fun b hb => .inl (h.s0 b hb), ?_, h.defers.mono (fun _ _ h => h) hmark, pin_keep h.pin hkk hpin, h.pnhi, h.small⟩
  · have hq : mupd m n o' k = some q := hq
    show ObjRel w _ γ (mupd m n o') k q
    by_cases e : k = n
    · subst e; rw [mupd_same] at hq; cases hq
      exact ho _ (fun _ h => .inl h) fun _ h => .inr h
    · rw [mupd_ne _ _ e] at hq
      refine ObjRel.more (h.mem.obj k q hq) (fun _ h => .inl h) hkk fun hlq b hb => ?_
      rintro (hs | hs)
      · exact (ObjRel.notS (h.mem.obj k q hq) hlq hb).1 hs
      · exact h.mem.apart k n q o b hq hn hlq hl e hb hs
  · rintro b (hs | hs)
    · exact h.mem.low b hs
    · exact ObjRel.lt (h.mem.obj n o hn) hl hs
  · intro k k' q q' b hq hq' hlq hlq' hne hb hb'
    obtain ⟨_, h1⟩ := old k q hq hlq
    obtain ⟨_, h2⟩ := old k' q' hq' hlq'
    exact h.mem.apart k k' q q' b h1 h2 hlq hlq' hne hb hb'
  · intro k q b hq hlq hb
    obtain ⟨_, h1⟩ := old k q hq hlq
    exact h.mem.high k q b h1 hlq hb
  · rintro b (hs | hs)
    · exact h.snew b hs
    · exact .inr (h.mem.high n o b hn hl hs)

theorem Rel.stillO {X : Cx} {w : World} {S : Nat → Prop} {γ : Nat → Loc} {ρ : Nat → AV} {m : Nat → Option MO} {a : Act} (h : Rel X w S γ ⟨ρ, m⟩ a) (n : Nat) : ∃ S', Rel X w S' γ ⟨ρ, stillO m n⟩ a := by
  unfold Dv.stillO
  split
  · rename_i cs hn
    refine h.stillAt hn rfl rfl rfl fun S' hS hb => ?_
    obtain ⟨b, vs, el, g1, g2, g3, g4, g5, g6⟩ := h.mem.obj n _ hn
    exact ⟨b, vs, el, g1, g2, RepAs.mono (fun _ _ => rfl) hS (keeps_write (o' := .box cs .still) hn rfl) cs vs g3, g4, (fun e => by cases e), fun _ => hb b (by rw [Loc.blk, g1]; rfl)⟩
  · rename_i t xs hn
    refine h.stillAt hn rfl rfl rfl fun S' hS hb => ?_
    have hob : RowRel w S (γ n) t xs .live := h.mem.obj n _ hn
    show RowRel w S' (γ n) t xs .still
    refine ⟨hob.len, hob.cap, hob.nil, fun a ha => ?_⟩
    obtain ⟨b, arr, el, fz, g1, g2, g3, g4, g5, g6, g7⟩ := hob.row a ha
    refine ⟨b, arr, el, fz, g1, g2, g3, g4, fun i x hx => ?_, (fun e => by cases e), fun _ => hb b (by rw [Loc.blk, ha, g1]; rfl)⟩
    obtain ⟨c, d1, d2⟩ := g5 i x hx
    exact ⟨c, RepT.mono (fun _ _ => rfl) hS t x c d1, d2⟩
  · exact ⟨S, h⟩

theorem Rel.stillL {X : Cx} {w : World} {γ : Nat → Loc} {ρ : Nat → AV} {a : Act} : ∀ (ns : List Nat) {S : Nat → Prop} {m : Nat → Option MO} (_ : Rel X w S γ ⟨ρ, m⟩ a), ∃ S', Rel X w S' γ ⟨ρ, stillL m ns⟩ a
  | [], S, _, h => ⟨S, h⟩
  | n :: ns, _, _, h => by
    obtain ⟨S1, h1⟩ := h.stillO n
    exact Rel.stillL ns h1


end Go.Dv
