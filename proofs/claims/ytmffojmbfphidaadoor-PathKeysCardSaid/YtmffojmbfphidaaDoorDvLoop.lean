/- Loops and other pieces of code that a plain function speaks for. -/
import Derived.Test.YtmffojmbfphidaaDoorDvCut
import Derived.LoopNIn
set_option linter.all false
namespace Go.Dv
open Go.RowKit

variable [LTab]

variable {R : Type}

/-- what a piece of code leaves behind: for each way out of it a look -/
def OutT (o : Nat × Cut) : List (Nat × Cut) → Type
  | [] => o.2.T
  | o' :: r => o.2.T ⊕ OutT o' r

def getOut (o : Nat × Cut) : (l : List (Nat × Cut)) → Ex → St → Option (OutT o l)
  | [], e, σ => bif Nat.beq e.key o.1 then getC o.2 σ else none
  | o' :: r, e, σ => bif Nat.beq e.key o.1 then (match getC o.2 σ with | some v => some (.inl v) | none => none) else (match getOut o' r e σ with | some v => some (.inr v) | none => none)

def outOut (o : Nat × Cut) : (l : List (Nat × Cut)) → OutT o l → (Ex → St → Option R) → Option R
  | [], t, K => K (unkey o.1) (mkC o.2 t)
  | o' :: r, t, K => match t with
    | .inl v => K (unkey o.1) (mkC o.2 v)
    | .inr v => outOut o' r v K

theorem out_ok {X : Cx} {w : World} {S : Nat → Prop} {γ : Nat → Loc} {σ : St} {a : Act} (h : Rel X w S γ σ a) {e : Ex} {K : Ex → St → Option R} {r : R} :
    ∀ {l : List (Nat × Cut)} {o : Nat × Cut} {t : OutT o l}, getOut o l e σ = some t → outOut o l t K = some r → ∃ σ' S' γ', Rel X w S' γ' σ' a ∧ K e σ' = some r
  | [], o, t, hg, ho => by
    have hg : (bif Nat.beq e.key o.1 then getC o.2 σ else none) = some t := hg
    rcases bif_some hg with ⟨hb, hg⟩ | ⟨_, hg⟩
    · obtain ⟨S', γ', h'⟩ := cut_ok h hg
      refine ⟨_, S', γ', h', ?_⟩
      simp only [outOut] at ho
      rw [← Nat.eq_of_beq_eq_true hb, unkey_key] at ho
      exact ho
    · cases hg
  | o' :: l, o, t, hg, ho => by
    rcases bif_some (by simpa only [getOut] using hg) with ⟨hb, hg⟩ | ⟨_, hg⟩
    · split at hg
      · rename_i v hv
        cases hg
        obtain ⟨S', γ', h'⟩ := cut_ok h hv
        refine ⟨_, S', γ', h', ?_⟩
        simp only [outOut] at ho
        rw [← Nat.eq_of_beq_eq_true hb, unkey_key] at ho
        exact ho
      · cases hg
    · split at hg
      · rename_i v hv
        cases hg
        exact out_ok h hv ho
      · cases hg

def lpOf (cin : Cut) (o : Nat × Cut) (l : List (Nat × Cut)) (F : cin.T → Option (OutT o l)) : Lp where
  T := OutT o l
  dom := fun σ => match getC cin σ with | some v => some (F v) | none => none
  out := fun t K => outOut o l t K

def iter {A T : Type} (f : (A → Option T) → A → Option T) : Nat → A → Option T
  | 0, _ => none
  | n + 1, a => f (iter f n) a

section loop
variable {ro : Option Nat} {P : Program} {E : Env} (hE : EnvOk P E) (hmix : P.follows .mixedOrders = true) {Λ : Lps} {nt : Nat}

include hE hmix in
/-- a piece of code -/
theorem piece_ok {c : Code} {p : Nat} (hobs : ∀ x, x ∈ obs Λ c p → LpOk P nt ro x.1 x.2) (hd : dstsOk nt c = true) {cin : Cut} {o : Nat × Cut} {l : List (Nat × Cut)} {F : cin.T → Option (OutT o l)}
    (hF : ∀ v, F v = codeA E Λ c p (mkC cin v) (getOut o l)) : LpOk P nt ro (lpOf cin o l F) c := by
  intro R X w S γ σ a K r hrel hn h
  simp only [Lp.run, lpOf] at h
  split at h
  · rename_i o' ho'
    split at ho'
    · rename_i v hv
      cases ho'
      split at h
      · rename_i t ht
        obtain ⟨S1, γ', hrel'⟩ := cut_ok hrel hv
        rw [hF] at ht
        refine wpIn_mono (code_sound hE hmix c p hobs hd hrel' hn ht) ?_
        rintro e a' w' ⟨e', σ', S', γ'', rfl, h1, h2, h3⟩
        obtain ⟨σ'', S3, γ3, k1, k2⟩ := out_ok h1 h3 h
        exact ⟨e', σ'', S3, γ3, rfl, k1, h2, k2⟩
      · cases h
    · cases ho'
  · cases h

include hE hmix in
theorem loop_rounds {c : Code} {p : Nat} (hobs : ∀ x, x ∈ obs Λ c p → LpOk P nt ro x.1 x.2) (hd : dstsOk nt c = true) {cin : Cut} {o : Nat × Cut} {l : List (Nat × Cut)} {step : (cin.T → Option (OutT o l)) → cin.T → Option (OutT o l)}
    (hF : ∀ rec v, step rec v = codeA E Λ c p (mkC cin v) (fun e σ => match e with
      | .normal => (match getC cin σ with | some v' => rec v' | none => none)
      | .exit i => getOut o l (.exit i) σ
      | .ret => getOut o l .ret σ)) {X : Cx} {K : Ex → St → Option R} {r : R} {t : OutT o l} (h : outOut o l t K = some r) :
    ∀ (N : Nat) (v : cin.T) {w : World} {S : Nat → Prop} {γ : Nat → Loc} {a : Act}, Rel X w S γ (mkC cin v) a → a.tmps.size = nt → iter step N v = some t → Code.roundsIn (RF ro) 0 P c (Post X nt K r) N a w
  | 0, _, _, _, _, _, _, _, ht => by cases ht
  | n + 1, v, w, S, γ, a, hrel, hn, ht => by
    rw [roundsIn_succ]
    simp only [iter] at ht
    rw [hF] at ht
    refine wpIn_mono (code_sound hE hmix c p hobs hd hrel hn ht) ?_
    rintro e a' w' ⟨e', σ', S', γ'', rfl, h1, h2, h3⟩
    cases e' with
    | normal =>
      simp only at h3
      split at h3
      · rename_i v' hv'
        obtain ⟨S3, γ3, h4⟩ := cut_ok h1 hv'
        exact loop_rounds hobs hd hF h n v' h4 h2 h3
      · cases h3
    | exit i =>
      obtain ⟨σ'', S3, γ3, k1, k2⟩ := out_ok h1 h3 h
      exact ⟨.exit i, σ'', S3, γ3, rfl, k1, h2, k2⟩
    | ret =>
      obtain ⟨σ'', S3, γ3, k1, k2⟩ := out_ok h1 h3 h
      exact ⟨.ret, σ'', S3, γ3, rfl, k1, h2, k2⟩

include hE hmix in
/-- a loop -/
theorem loop_ok {c : Code} {p : Nat} (hobs : ∀ x, x ∈ obs Λ c p → LpOk P nt ro x.1 x.2) (hd : dstsOk nt c = true) {cin : Cut} {o : Nat × Cut} {l : List (Nat × Cut)} {step : (cin.T → Option (OutT o l)) → cin.T → Option (OutT o l)}
    (hF : ∀ rec v, step rec v = codeA E Λ c p (mkC cin v) (fun e σ => match e with
      | .normal => (match getC cin σ with | some v' => rec v' | none => none)
      | .exit i => getOut o l (.exit i) σ
      | .ret => getOut o l .ret σ)) (N : Nat) : LpOk P nt ro (lpOf cin o l (iter step N)) (.loop c) := by
  intro R X w S γ σ a K r hrel hn h
  simp only [Lp.run, lpOf] at h
  split at h
  · rename_i o' ho'
    split at ho'
    · rename_i v hv
      cases ho'
      split at h
      · rename_i t ht
        obtain ⟨S1, γ', hrel'⟩ := cut_ok hrel hv
        exact wpIn_loop_rounds N (loop_rounds hE hmix hobs hd hF h N v hrel' hn ht)
      · cases h
    · cases ho'
  · cases h

end loop
end Go.Dv
