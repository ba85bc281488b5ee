/- Code: where the evaluator has an answer, the model comes to a state that is related to it. -/
import Derived.Test.YtmffojmbfphidaaDoorDvReg
set_option linter.all false
namespace Go.Dv
open Go.RowKit

variable [LTab]

variable {R : Type}

/-- what is said of a piece of code in place of a walk through it -/
structure Lp where
  T : Type
  dom : St → Option (Option T)
  out : {R : Type} → T → (Ex → St → Option R) → Option R

def Lp.run (l : Lp) (σ : St) (K : Ex → St → Option R) : Option R :=
  match l.dom σ with
  | some o => match o with
    | some t => l.out t K
    | none => none
  | none => none

abbrev Lps := Nat → Option Lp

def viaA (l : Option Lp) (σ : St) (K : Ex → St → Option R) (d : Option R) : Option R :=
  match l with
  | some l => l.run σ K
  | none => d

def codeA (E : Env) (Λ : Lps) : Code → Nat → St → (Ex → St → Option R) → Option R
  | .skip, p, σ, K => viaA (Λ p) σ K (K .normal σ)
  | .label _, p, σ, K => viaA (Λ p) σ K (K .normal σ)
  | .region id ops draw, p, σ, K => viaA (Λ p) σ K (bif !draw || openOk E ops then opsA E ops ops.toList ⟨σ.ρ, stillL σ.m (E.still id)⟩ (K .normal) else opsA E ops ops.toList ⟨σ.ρ, stillL σ.m (E.still id)⟩ fun σ' => gd (openDyn E ops σ') (K .normal σ'))
  | .seq a b, p, σ, K => viaA (Λ p) σ K (codeA E Λ a (2 * p) σ fun e σ' => match e with
    | .normal => codeA E Λ b (2 * p + 1) σ' K
    | .exit i => K (.exit i) σ'
    | .ret => K .ret σ')
  | .cond c x y, p, σ, K => viaA (Λ p) σ K (match c with
    | .tmp t => match σ.ρ t with
      | .bool b => bif b then codeA E Λ x (2 * p) (σ.set t (.bool true)) K else codeA E Λ y (2 * p + 1) (σ.set t (.bool false)) K
      | _ => none
    | _ => none)
  | .block id c, p, σ, K => viaA (Λ p) σ K (codeA E Λ c (2 * p) σ fun e σ' => match e with
    | .exit i => bif Nat.beq i id then K .normal σ' else K (.exit i) σ'
    | .normal => K .normal σ'
    | .ret => K .ret σ')
  | .scope c, p, σ, K => viaA (Λ p) σ K (codeA E Λ c (2 * p) σ K)
  | .exit id, p, σ, K => viaA (Λ p) σ K (K (.exit id) σ)
  | .ret, p, σ, K => viaA (Λ p) σ K (K .ret σ)
  | .loop _, p, σ, K => viaA (Λ p) σ K none
  | .rangeFunc .., p, σ, K => viaA (Λ p) σ K none
  | .goto _, p, σ, K => viaA (Λ p) σ K none
  | .refuse _, p, σ, K => viaA (Λ p) σ K none

def Ex.mod : Ex → Exit
  | .normal => .normal
  | .exit id => .exit id
  | .ret => .ret

def Post (X : Cx) (n : Nat) (K : Ex → St → Option R) (r : R) : Exit → Act → World → Prop :=
  fun e a w => ∃ e' σ' S' γ', e = e'.mod ∧ Rel X w S' γ' σ' a ∧ a.tmps.size = n ∧ K e' σ' = some r

def LpOk (P : Program) (n : Nat) (ro : Option Nat) (l : Lp) (c : Code) : Prop :=
  ∀ {R : Type} {X : Cx} {w : World} {S : Nat → Prop} {γ : Nat → Loc} {σ : St} {a : Act} {K : Ex → St → Option R} {r : R},
    Rel X w S γ σ a → a.tmps.size = n → l.run σ K = some r → c.wpIn (RF ro) 0 P (Post X n K r) a w

def obs1 (Λ : Lps) (c : Code) (p : Nat) : List (Lp × Code) := match Λ p with | some l => [(l, c)] | none => []

/-- the pieces of code that something is said of -/
def obs (Λ : Lps) : Code → Nat → List (Lp × Code)
  | .seq a b, p => obs1 Λ (.seq a b) p ++ (obs Λ a (2 * p) ++ obs Λ b (2 * p + 1))
  | .cond c a b, p => obs1 Λ (.cond c a b) p ++ (obs Λ a (2 * p) ++ obs Λ b (2 * p + 1))
  | .block id c, p => obs1 Λ (.block id c) p ++ obs Λ c (2 * p)
  | .scope c, p => obs1 Λ (.scope c) p ++ obs Λ c (2 * p)
  | c, p => obs1 Λ c p

def dstsOk (n : Nat) : Code → Bool
  | .seq a b => dstsOk n a && dstsOk n b
  | .cond _ a b => dstsOk n a && dstsOk n b
  | .block _ c => dstsOk n c
  | .scope c => dstsOk n c
  | .region _ ops _ => ops.toList.all fun o => match o.dst with | some d => Nat.blt d n | none => true
  | _ => true

section scope
variable {F : Fence} {n : Nat} {P : Program} {b : Frame} {a : Act} {k : List Item} {cs : List Frame} {w : World} {Q : Exit → Act → World → Prop}

theorem stepR_scope {c : Code} : step P (lone (b.atR a (.code (.scope c) :: k)) cs w) = .next (lone (b.atR a (.code c :: .inScope c :: k)) cs w) :=
  step_lone_go (by simp [_root_.Go.stepG, _root_.Go.stepG.exec, Frame.atR])
theorem stepR_inScope {c : Code} : step P (lone (b.atR a (.inScope c :: k)) cs w) = .next (lone (b.atR a k) cs w) :=
  step_lone_go (by simp [_root_.Go.stepG, _root_.Go.stepG.exec, Frame.atR])

theorem wpIn_scope_straight {c : Code} (h : c.wpIn F n P (Exit.noGoto Q) a w) : (Code.scope c).wpIn F n P Q a w := by
  intro b k cs hro hb hr
  have h0 : (lone (b.atR a (.code (.scope c) :: k)) cs w).fenced P F := fenced_calm hb hr rfl
  obtain ⟨e, a₁, w₁, hq, harr⟩ := h b (.inScope c :: k) cs hro hb hr
  cases e with
  | normal => exact ⟨.normal, a₁, w₁, hq, .head h0 stepR_scope (StepsIn.trans harr (.one (fenced_calm hb hr rfl) stepR_inScope))⟩
  | exit id =>
    have hx : exitTo id (.inScope c :: k) = exitTo id k := by simp [exitTo]
    exact ⟨_, a₁, w₁, hq, fun k' hk => .head h0 stepR_scope (harr.1 k' (by rw [hx]; exact hk)),
      fun hr' hk => let ⟨k₁, h1, h2⟩ := harr.2 hr' (by rw [hx]; exact hk); ⟨k₁, h1, .head h0 stepR_scope h2⟩⟩
  | goto l => exact hq.elim
  | ret => exact ⟨_, a₁, w₁, hq, .of_steps (.one h0 stepR_scope) harr⟩
  | panic ch => exact ⟨_, a₁, w₁, hq, .of_steps (.one h0 stepR_scope) harr⟩
  | outgrown => exact ⟨_, a₁, w₁, hq, .of_steps (.one h0 stepR_scope) harr⟩
end scope

/-! ## code -/
section code
variable {ro : Option Nat} {P : Program} {E : Env} (hE : EnvOk P E) (hmix : P.follows .mixedOrders = true) {Λ : Lps} {n : Nat}

theorem via_sound {c : Code} {p : Nat} (ho : ∀ x, x ∈ obs1 Λ c p → LpOk P n ro x.1 x.2) {X : Cx} {w : World} {S : Nat → Prop} {γ : Nat → Loc} {σ : St} {a : Act} {K : Ex → St → Option R} {r : R} {d : Option R}
    (hrel : Rel X w S γ σ a) (hn : a.tmps.size = n) (h : viaA (Λ p) σ K d = some r) (hd : d = some r → c.wpIn (RF ro) 0 P (Post X n K r) a w) : c.wpIn (RF ro) 0 P (Post X n K r) a w := by
  unfold viaA at h
  unfold obs1 at ho
  cases hp : Λ p with
  | none => rw [hp] at h; exact hd h
  | some l =>
    rw [hp] at h ho
    exact ho (l, c) (by simp) hrel hn h

include hE hmix in
theorem code_sound : ∀ (c : Code) (p : Nat) (_ : ∀ x, x ∈ obs Λ c p → LpOk P n ro x.1 x.2) (_ : dstsOk n c = true) {R : Type} {X : Cx} {w : World} {S : Nat → Prop} {γ : Nat → Loc} {σ : St} {a : Act} {K : Ex → St → Option R} {r : R}
    (_ : Rel X w S γ σ a) (_ : a.tmps.size = n) (_ : codeA E Λ c p σ K = some r), c.wpIn (RF ro) 0 P (Post X n K r) a w
  | .skip, p, ho, hd, _, X, w, S, γ, σ, a, K, r, hrel, hn, h => via_sound ho hrel hn h fun h => wpIn_skip ⟨.normal, σ, S, γ, rfl, hrel, hn, h⟩
  | .label _, p, ho, hd, _, X, w, S, γ, σ, a, K, r, hrel, hn, h => via_sound ho hrel hn h fun h => wpIn_label ⟨.normal, σ, S, γ, rfl, hrel, hn, h⟩
  | .exit id, p, ho, hd, _, X, w, S, γ, σ, a, K, r, hrel, hn, h => via_sound ho hrel hn h fun h => wpIn_exit ⟨.exit id, σ, S, γ, rfl, hrel, hn, h⟩
  | .ret, p, ho, hd, _, X, w, S, γ, σ, a, K, r, hrel, hn, h => via_sound ho hrel hn h fun h => wpIn_ret ⟨.ret, σ, S, γ, rfl, hrel, hn, h⟩
  | .loop _, p, ho, hd, _, X, w, S, γ, σ, a, K, r, hrel, hn, h => via_sound ho hrel hn h fun h => by cases h
  | .rangeFunc .., p, ho, hd, _, X, w, S, γ, σ, a, K, r, hrel, hn, h => via_sound ho hrel hn h fun h => by cases h
  | .goto _, p, ho, hd, _, X, w, S, γ, σ, a, K, r, hrel, hn, h => via_sound ho hrel hn h fun h => by cases h
  | .refuse _, p, ho, hd, _, X, w, S, γ, σ, a, K, r, hrel, hn, h => via_sound ho hrel hn h fun h => by cases h
  | .scope c, p, ho, hd, _, X, w, S, γ, σ, a, K, r, hrel, hn, h => by
    refine via_sound (fun x hx => ho x (by simp only [obs, List.mem_append]; exact .inl hx)) hrel hn h fun h => ?_
    refine wpIn_scope_straight (wpIn_mono (code_sound c (2 * p) (fun x hx => ho x (by simp only [obs, List.mem_append]; exact .inr hx)) hd hrel hn h) ?_)
    rintro e a' w' ⟨e', σ', S', γ', rfl, h1, h2, h3⟩
    cases e' <;> exact ⟨_, σ', S', γ', rfl, h1, h2, h3⟩
  | .block id c, p, ho, hd, _, X, w, S, γ, σ, a, K, r, hrel, hn, h => by
    refine via_sound (fun x hx => ho x (by simp only [obs, List.mem_append]; exact .inl hx)) hrel hn h fun h => ?_
    refine wpIn_block (wpIn_mono (code_sound c (2 * p) (fun x hx => ho x (by simp only [obs, List.mem_append]; exact .inr hx)) hd hrel hn h) ?_)
    rintro e a' w' ⟨e', σ', S', γ', rfl, h1, h2, h3⟩
    cases e' with
    | normal => exact ⟨.normal, σ', S', γ', rfl, h1, h2, h3⟩
    | ret => exact ⟨.ret, σ', S', γ', rfl, h1, h2, h3⟩
    | exit i =>
      simp only [Ex.mod, Exit.inBlock]
      rcases bif_some h3 with ⟨e, h3⟩ | ⟨e, h3⟩
      · rw [if_pos (Nat.eq_of_beq_eq_true e)]
        exact ⟨.normal, σ', S', γ', rfl, h1, h2, h3⟩
      · rw [if_neg (fun q => by rw [q, Nat.beq_refl] at e; cases e)]
        exact ⟨.exit i, σ', S', γ', rfl, h1, h2, h3⟩
  | .seq x y, p, ho, hd, _, X, w, S, γ, σ, a, K, r, hrel, hn, h => by
    refine via_sound (fun x hx => ho x (by simp only [obs, List.mem_append]; exact .inl hx)) hrel hn h fun h => ?_
    simp only [dstsOk, Bool.and_eq_true] at hd
    refine wpIn_seq (wpIn_mono (code_sound x (2 * p) (fun x hx => ho x (by simp only [obs, List.mem_append]; exact .inr (.inl hx))) hd.1 hrel hn h) ?_)
    rintro e a' w' ⟨e', σ', S', γ', rfl, h1, h2, h3⟩
    cases e' with
    | normal => exact code_sound y (2 * p + 1) (fun x hx => ho x (by simp only [obs, List.mem_append]; exact .inr (.inr hx))) hd.2 h1 h2 h3
    | ret => exact ⟨.ret, σ', S', γ', rfl, h1, h2, h3⟩
    | exit i => exact ⟨.exit i, σ', S', γ', rfl, h1, h2, h3⟩
  | .cond c x y, p, ho, hd, _, X, w, S, γ, σ, a, K, r, hrel, hn, h => by
    refine via_sound (fun x hx => ho x (by simp only [obs, List.mem_append]; exact .inl hx)) hrel hn h fun h => ?_
    simp only [dstsOk, Bool.and_eq_true] at hd
    cases c with
    | tmp t =>
      simp only at h
      split at h
      · rename_i b hb
        have hv : a.eval (.tmp t) = .bool b := by
          have := hrel.tm t
          rw [hb] at this
          exact this
        have hset : σ.set t (.bool b) = σ := set_self hb
        refine wpIn_cond hv ?_
        cases b with
        | true =>
          simp only [cond_true] at h
          rw [hset] at h
          exact code_sound x (2 * p) (fun x hx => ho x (by simp only [obs, List.mem_append]; exact .inr (.inl hx))) hd.1 hrel hn h
        | false =>
          simp only [cond_false] at h
          rw [hset] at h
          exact code_sound y (2 * p + 1) (fun x hx => ho x (by simp only [obs, List.mem_append]; exact .inr (.inr hx))) hd.2 hrel hn h
      · cases h
    | _ => cases h
  | .region id ops draw, p, ho, hd, _, X, w, S, γ, σ, a, K, r, hrel, hn, h => by
    refine via_sound ho hrel hn h fun h => ?_
    obtain ⟨σ', h1, h2, h3⟩ : ∃ σ', (draw = true → OpenOk E ops σ') ∧ runG E ops ops.toList ⟨σ.ρ, Dv.stillL σ.m (E.still id)⟩ = some σ' ∧ K .normal σ' = some r := by
      rcases bif_some h with ⟨e, h⟩ | ⟨_, h⟩
      · obtain ⟨σ', h2, h3⟩ := opsA_run E ops ops.toList _ _ r h
        refine ⟨σ', fun hd => ?_, h2, h3⟩
        rw [hd] at e
        exact openOk_spec (by simpa using e) σ'
      · obtain ⟨σ', h2, h3⟩ := opsA_run E ops ops.toList _ _ r h
        obtain ⟨h4, h5⟩ := gd_some h3
        exact ⟨σ', fun _ => openDyn_spec h4, h2, h5⟩
    obtain ⟨S1, hrel1⟩ := Rel.stillL (E.still id) hrel
    refine region_wp hE hmix hrel1 h1 h2 (fun i o hi => ?_) fun a' w' S' γ' k1 k2 => ⟨.normal, σ', S', γ', rfl, k1, k2.trans hn, h3⟩
    simp only [dstsOk, List.all_eq_true] at hd
    have := hd o (by
      obtain ⟨hi', e⟩ := Array.getElem?_eq_some_iff.1 hi
      rw [← e]; simp)
    cases hdst : o.dst with
    | none => trivial
    | some d =>
      rw [hdst] at this
      show d < a.tmps.size
      rw [hn]; simpa [Nat.blt_eq] using this

end code
end Go.Dv
