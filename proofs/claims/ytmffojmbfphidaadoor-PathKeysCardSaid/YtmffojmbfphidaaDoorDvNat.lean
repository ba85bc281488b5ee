/- The evaluator's steps as functions: what goes on behind a step is handed its state, and nothing else. -/
import Derived.Test.YtmffojmbfphidaaDoorDvEval
set_option linter.all false
namespace Go.Dv
open Go.RowKit

variable [LTab]

variable {R : Type}

theorem gd_bind {A : Type} (b : Bool) (x : Option A) (f : A → Option R) : (gd b x).bind f = gd b (x.bind f) := by cases b <;> rfl
theorem bif_bind {A : Type} (b : Bool) (x y : Option A) (f : A → Option R) : (bif b then x else y).bind f = bif b then x.bind f else y.bind f := by cases b <;> rfl

theorem armN_bind {A : Type} (i : Int) (k : Nat → Option A) (f : A → Option R) : ∀ n, (armN i k n).bind f = armN i (fun j => (k j).bind f) n
  | 0 => rfl
  | n + 1 => by
    simp only [armN]
    rw [bif_bind, armN_bind i k f n]

set_option maxHeartbeats 4000000 in
theorem coreA_nat (E : Env) (dst : Option Nat) (op : Op) (ev : Operand → AV) (m : Nat → Option MO) (K : AV → Option MO → Option R) :
    coreA E dst op ev m K = (coreA E dst op ev m fun v ob => some (v, ob)).bind fun p => K p.1 p.2 := by
  unfold coreA
  split <;> (repeat' split) <;> first | rfl | (simp only [gd_bind, bif_bind, Option.bind_some, Option.bind_none]; done) | (rw [armN_bind]; done) | (rw [armN_bind]; congr 1; done) | (rw [armN_bind]; congr 1; funext j; (repeat' split) <;> rfl) | (simp only [gd_bind, bif_bind, Option.bind_some, Option.bind_none]; congr 1; (repeat' split) <;> rfl)

theorem storeA_nat (E : Env) (t : TypeId) (m : Nat → Option MO) (p v : AV) (K : (Nat → Option MO) → Option R) : storeA E t m p v K = (storeA E t m p v some).bind K := by
  unfold storeA
  (repeat' split) <;> first | rfl | (simp only [gd_bind, Option.bind_some, Option.bind_none]; done) | (simp only [gd_bind, Option.bind_some, Option.bind_none]; congr 1; (repeat' split) <;> rfl)

theorem appA_nat (E : Env) (m : Nat → Option MO) (d : Nat) (t u : TypeId) (a b : AV) (K : AV → (Nat → Option MO) → Option R) : appA E m d t u a b K = (appA E m d t u a b fun v m => some (v, m)).bind fun p => K p.1 p.2 := by
  unfold appA
  (repeat' split) <;> first | rfl | (simp only [gd_bind, Option.bind_some]; done)

theorem preA_nat (E : Env) (m : Nat → Option MO) (d : Nat) (T : TypeId) (a h : AV) (K : AV → (Nat → Option MO) → Option R) : preA E m d T a h K = (preA E m d T a h fun v m => some (v, m)).bind fun p => K p.1 p.2 := by
  unfold preA
  (repeat' split) <;> first | rfl | (simp only [gd_bind, Option.bind_some]; done)

theorem callA_nat (E : Env) (m : Nat → Option MO) (f : FuncId) (as : List AV) (K : AV → Option R) : callA E m f as K = (callA E m f as some).bind K := by
  unfold callA
  split
  · exact E.callK_nat ..
  · split
    · rw [E.callK_nat (K := fun r => gd (scal r) (K r)), E.callK_nat (K := fun r => gd (scal r) (some r)), Option.bind_assoc]
      congr 1
      funext r
      rw [gd_bind, Option.bind_some]
    · rfl

theorem doneA_nat (σ : St) (dst : Option Nat) (K : St → Option R) (r : AV) : doneA σ dst K r = (doneA σ dst some r).bind K := by
  unfold doneA
  split <;> simp only [gd_bind, Option.bind_some]

theorem callA_nat2 (E : Env) (m : Nat → Option MO) (f : FuncId) (as : List AV) (σ : St) (dst : Option Nat) (K : St → Option R) : callA E m f as (doneA σ dst K) = (callA E m f as (doneA σ dst some)).bind K := by
  rw [callA_nat, callA_nat (K := doneA σ dst some), Option.bind_assoc]
  congr 1
  funext r
  exact doneA_nat σ dst K r

theorem backA_nat (rl : List (Nat × Option Nat)) (σ : St) (dst : Option Nat) (d : Nat) (τ : St) (ns : List Nat) (K : St → Option R) : backA rl σ dst d τ ns K = (backA rl σ dst d τ ns some).bind K := by
  unfold backA
  cases lents rl with
  | none => rfl
  | some le =>
    simp only [gd_bind]
    congr 1
    cases apL τ.m (le ++ newNames le d 0 ns) le σ.m with
    | none => rfl
    | some m1 =>
      simp only
      cases apN τ.m (le ++ newNames le d 0 ns) (newNames le d 0 ns) m1 <;> rfl

theorem memsA_nat (σ : St) (dst : Option Nat) (d : Nat) (as : List AV) (K : St → Option R) : ∀ l : List CtrM, memsA l σ dst d as K = (memsA l σ dst d as some).bind K
  | [] => rfl
  | c :: r => by
    simp only [memsA]
    cases getW (renC (argsA 0 as) σ.m c.cin.objs) c.cin (argsA 0 as) σ.m with
    | none => exact memsA_nat σ dst d as K r
    | some v =>
      simp only [gd_bind]
      congr 1
      cases c.F v with
      | none => rfl
      | some t =>
        simp only
        rw [c.nat, c.nat (K := fun τ ns => backA (renC (argsA 0 as) σ.m c.cin.objs) σ dst d τ ns some), Option.bind_assoc]
        congr 1
        funext p
        exact backA_nat ..

theorem backA_nat2 (rl : List (Nat × Option Nat)) (σ : St) (dst : Option Nat) (d : Nat) (τ : St) (ns : List Nat) (g : St → St) (K : St → Option R) : (backA rl σ dst d τ ns fun σ' => K (g σ')) = (backA rl σ dst d τ ns fun σ' => some (g σ')).bind K := by
  rw [backA_nat, backA_nat (K := fun σ' => some (g σ')), Option.bind_assoc]
  rfl

theorem outR_nat {A : Type} (c : CtrR) (t : c.T) (K : Ex → St → List Nat → Option R) (K' : Ex → St → List Nat → Option A) (f : A → Option R) (h : ∀ e τ ns, K e τ ns = (K' e τ ns).bind f) : c.out t K = (c.out t K').bind f := by
  rw [c.nat, c.nat (K := K'), Option.bind_assoc]
  congr 1
  funext p
  exact h ..

theorem yldA_nat (E : Env) (σ : St) (d n : Nat) (as : List AV) (K : St → Option R) : yldA E σ d n as K = (yldA E σ d n as some).bind K := by
  unfold yldA
  split
  · split
    · rename_i c _
      split
      · simp only [gd_bind]
        congr 1
        split
        · rename_i t _
          refine outR_nat c t _ _ K fun e τ ns => ?_
          exact backA_nat2 _ _ _ _ _ _ (fun σ' => ⟨σ'.ρ, mupd σ'.m n (.rng _ _ (some e.key))⟩) K
        · rfl
      · rfl
    · rfl
  · rfl

theorem opB_nat (E : Env) (o : Oper) (σ : St) (K : St → Option R) : opB E o σ K = (opB E o σ some).bind K := by
  unfold opB
  rw [bif_bind]
  congr 1
  · unfold preS
    split
    · split
      · exact memsA_nat ..
      · exact yldA_nat ..
      · rfl
    · split
      · split
        · exact memsA_nat ..
        · rfl
      · rfl
    · rw [preA_nat, preA_nat (K := fun v m => some (⟨upd σ.ρ _ v, m⟩ : St)), Option.bind_assoc]
      congr 1
    · rfl
  split
  · rw [storeA_nat, storeA_nat (K := fun m => some (⟨putO σ.ρ o.dst .undef, m⟩ : St)), Option.bind_assoc]
    congr 1
  · split
    · rw [appA_nat, appA_nat (K := fun v m => some (⟨upd σ.ρ _ v, m⟩ : St)), Option.bind_assoc]
      congr 1
    · rfl
  · split
    · exact callA_nat2 _ _ _ _ _ _ _
    · rfl
  · split
    · split
      · exact callA_nat2 _ _ _ _ _ _ _
      · rfl
    · rfl
  · refine (coreA_nat E _ _ _ _ _).trans (Eq.trans ?_ (congrArg (fun z => Option.bind z K) (coreA_nat E _ _ _ _ _)).symm)
    rw [Option.bind_assoc]
    congr 1
    funext p
    (repeat' split) <;> rfl

theorem opA_nat (E : Env) (o : Oper) (σ : St) (K : St → Option R) : opA E o σ K = (opA E o σ some).bind K := by
  unfold opA
  rw [opB_nat, opB_nat (K := fun σ' => some (⟨σ'.ρ, stillL σ'.m (opBorn E o)⟩ : St)), Option.bind_assoc]
  rfl
theorem opA_some {E : Env} {o : Oper} {σ σ' : St} (h : opA E o σ some = some σ') : ∃ σ1, opB E o ⟨σ.ρ, stillL σ.m (opStill E o)⟩ some = some σ1 ∧ σ' = ⟨σ1.ρ, stillL σ1.m (opBorn E o)⟩ := by
  unfold opA at h
  rw [opB_nat] at h
  obtain ⟨σ1, h1, h2⟩ := Option.bind_eq_some_iff.1 h
  exact ⟨σ1, h1, by cases h2; rfl⟩

/-- the step of one operation, its guard looked at -/
def stepG (E : Env) (all : Array Oper) (o : Oper) (σ : St) : Option St :=
  match o.guard with
  | none => opA E o σ some
  | some (j, want) =>
    match (all[j]?).bind (·.dst) with
    | none => none
    | some t =>
      match σ.ρ t with
      | .bool b => if b = want then opA E o σ some else some (σ.put o.dst (.tup []))
      | .tup [] => some (σ.put o.dst (.tup []))
      | _ => none

def runG (E : Env) (all : Array Oper) : List Oper → St → Option St
  | [], σ => some σ
  | o :: rest, σ => (stepG E all o σ).bind (runG E all rest)

theorem set_self {σ : St} {t : Nat} {v : AV} (h : σ.ρ t = v) : σ.set t v = σ := by
  cases σ with
  | mk ρ m =>
    simp only [St.set, St.mk.injEq, and_true]
    funext i
    by_cases e : i = t
    · subst e; rw [upd_same]; exact h.symm
    · rw [upd_ne _ _ e]

theorem opsA_run (E : Env) (all : Array Oper) : ∀ (l : List Oper) (σ : St) (K : St → Option R) (r : R), opsA E all l σ K = some r → ∃ σ', runG E all l σ = some σ' ∧ K σ' = some r
  | [], σ, K, r, h => ⟨σ, rfl, h⟩
  | o :: rest, σ, K, r, h => by
    unfold opsA at h
    have step : ∀ {σ1 : St}, stepG E all o σ = some σ1 → opsA E all rest σ1 K = some r → ∃ σ', runG E all (o :: rest) σ = some σ' ∧ K σ' = some r := by
      intro σ1 h1 h2
      obtain ⟨σ', k1, k2⟩ := opsA_run E all rest σ1 K r h2
      exact ⟨σ', by simp only [runG, h1, Option.bind_some]; exact k1, k2⟩
    split at h
    · rename_i hg
      rw [opA_nat] at h
      cases ho : opA E o σ some with
      | none => rw [ho] at h; cases h
      | some σ1 =>
        rw [ho] at h
        exact step (by simp only [stepG, hg, ho]) h
    · rename_i j want hg
      split at h
      · cases h
      · rename_i t ht
        split at h
        · rename_i b hb
          have fin : ∀ {b : Bool}, σ.ρ t = .bool b → b = want → (opA E o (σ.set t (.bool b)) fun σ' => opsA E all rest σ' K) = some r → ∃ σ', runG E all (o :: rest) σ = some σ' ∧ K σ' = some r := by
            intro b hb hw h
            rw [set_self hb, opA_nat] at h
            cases ho : opA E o σ some with
            | none => rw [ho] at h; cases h
            | some σ1 =>
              rw [ho] at h
              exact step (by simp only [stepG, hg, ht, hb, if_pos hw, ho]) h
          have skip : ∀ {b : Bool}, σ.ρ t = .bool b → b ≠ want → opsA E all rest ((σ.set t (.bool b)).put o.dst (.tup [])) K = some r → ∃ σ', runG E all (o :: rest) σ = some σ' ∧ K σ' = some r := by
            intro b hb hw h
            rw [set_self hb] at h
            exact step (by simp only [stepG, hg, ht, hb, if_neg hw]) h
          cases b <;> cases want
          · exact fin hb rfl h
          · exact skip hb (by simp) h
          · exact skip hb (by simp) h
          · exact fin hb rfl h
        · rename_i hb
          exact step (by simp only [stepG, hg, ht, hb]) h
        · cases h

end Go.Dv
