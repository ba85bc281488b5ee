/- Cut points: states of a given look. -/
import Derived.Test.YtmffojmbfphidaaDoorDvCode
set_option linter.all false
namespace Go.Dv
open Go.RowKit

variable [LTab]

variable {R : Type}

def getC (c : Cut) (σ : St) : Option c.T := getM c σ.ρ (stillL σ.m c.sts)

section cut
variable {w : World} {S : Nat → Prop} {γ : Nat → Loc} {m : Nat → Option MO} {rl : List (Nat × Option Nat)} {m' : Nat → Option MO} {γ' : Nat → Loc}

theorem cutM_ok {X : Cx} {σ : St} {a : Act} (h : Rel X w S γ σ a) {c : Cut} {v : c.T} (hc : getM c σ.ρ σ.m = some v) : ∃ γ', Rel X w S γ' (mkC c v) a := by
  unfold getM at hc
  obtain ⟨γ', g1, _, k1, k2, hq, hdist⟩ := getW_ok (g := fun src n => bif Nat.ble 5000000 n then some n else srcOf σ.ρ σ.m src) h.mem h.tm (renL_map c.objs) hc
  refine ⟨γ', k1, fun t => zlook_rep t k2, h.below, h.base_le, h.s0, h.snew, h.defers, fun n q l hn hl => ?_, h.pnhi, h.small⟩
  have hhi := h.pnhi n l hl
  have hself : ∀ {e}, rlook n (renL σ.ρ σ.m c.objs) = some e → e = some n := fun {e} h => renL_pin hhi h
  rcases hq n q hn with ⟨d', t, xs, k1, k2, rfl⟩ | ⟨t, k1, rfl⟩ | ⟨d', l', cs, s, z, k1, k2, k3, rfl⟩ | ⟨d', l', cs, id, ee, z, k1, k2, k3, rfl⟩
  · have := hself k1; cases this
    obtain ⟨p1, p2⟩ := h.pin _ _ l k2 hl
    exact ⟨(g1 _ _ k1).trans p1, p2⟩
  · have := hself k1; cases this
  · have := hself k1; cases this
    obtain ⟨p1, p2⟩ := h.pin _ _ l k2 hl
    exact ⟨(g1 _ _ k1).trans p1, p2⟩
  · have := hself k1; cases this
    obtain ⟨p1, p2⟩ := h.pin _ _ l k2 hl
    exact ⟨(g1 _ _ k1).trans p1, p2⟩

theorem cut_ok {X : Cx} {σ : St} {a : Act} (h : Rel X w S γ σ a) {c : Cut} {v : c.T} (hc : getC c σ = some v) : ∃ S' γ', Rel X w S' γ' (mkC c v) a := by
  obtain ⟨S', h'⟩ := Rel.stillL c.sts h
  obtain ⟨γ', h''⟩ := cutM_ok h' hc
  exact ⟨S', γ', h''⟩
end cut
end Go.Dv
