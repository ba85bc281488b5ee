/- Regions: in the text's order, and in whatever order is open. -/
import Derived.Test.YtmffojmbfphidaaDoorDvSwap
set_option linter.all false
namespace Go.Dv
open Go.RowKit

variable [LTab]

theorem look_op {all : Array Oper} {o : Oper} {t : Tmp} (h : t ∉ o.looksAt all) : (∀ x, x ∈ o.op.operands → x ≠ .tmp t) ∧ ∀ j want, o.guard = some (j, want) → (all[j]?).bind (·.dst) ≠ some t := by
  constructor
  · intro x hx e
    subst e
    apply h
    unfold Oper.looksAt
    simp only [List.mem_append]
    left
    exact List.mem_filterMap.2 ⟨.tmp t, by simpa using hx, rfl⟩
  · intro j want hg e
    apply h
    unfold Oper.looksAt
    simp only [List.mem_append, hg]
    right
    rw [e]; simp

theorem ev_upd {σ : St} {d : Nat} {v : AV} {m : Nat → Option MO} {x : Operand} (h : x ≠ .tmp d) : (⟨upd σ.ρ d v, m⟩ : St).ev x = σ.ev x := by
  cases x with
  | tmp t =>
    have : t ≠ d := fun e => h (by rw [e])
    exact upd_ne _ _ this
  | _ => rfl

/-- a state that the model can be in -/
def Good (σ : St) : Prop := ∃ X w S γ a, Rel X w S γ σ a

theorem mupdL_get (d : Nat) : ∀ (os : List MO) (m : Nat → Option MO) (k n : Nat), mupdL m d k os n = (match os[(n - nm d k) / 4096]? with | some o => if n = nm d (k + (n - nm d k) / 4096) then some o else m n | none => m n)
  | [], m, k, n => by simp [mupdL]
  | o :: os, m, k, n => by
    simp only [mupdL]
    rw [mupdL_get d os _ (k + 1) n]
    by_cases h0 : n = nm d k
    · subst h0
      have e1 : (nm d k - nm d (k + 1)) / 4096 = 0 := by unfold nm; omega
      have e2 : nm d k ≠ nm d (k + 1 + 0) := by unfold nm; omega
      rw [e1]
      simp only [Nat.sub_self, Nat.zero_div, Nat.add_zero, List.getElem?_cons_zero, if_true, mupd_same]
      cases os[0]? with
      | none => rfl
      | some q => simp only; rw [if_neg (by unfold nm; omega)]
    · rw [mupd_ne _ _ h0]
      by_cases h1 : ∃ i, n = nm d (k + 1 + i)
      · obtain ⟨i, hi⟩ := h1
        have e1 : (n - nm d (k + 1)) / 4096 = i := by rw [hi]; unfold nm; omega
        have e2 : (n - nm d k) / 4096 = i + 1 := by rw [hi]; unfold nm; omega
        rw [e1, e2]
        simp only [List.getElem?_cons_succ]
        have e3 : k + 1 + i = k + (i + 1) := by omega
        rw [e3]
      · have a1 : n ≠ nm d (k + 1 + (n - nm d (k + 1)) / 4096) := fun e => h1 ⟨_, e⟩
        have a2 : n ≠ nm d (k + (n - nm d k) / 4096) := by
          intro e
          by_cases hz : (n - nm d k) / 4096 = 0
          · rw [hz] at e; exact h0 e
          · exact h1 ⟨(n - nm d k) / 4096 - 1, by rw [e]; congr 1; rw [← e]; omega⟩
        simp only [a1, a2, if_false]
        generalize os[(n - nm d (k + 1)) / 4096]? = q1
        generalize (o :: os)[(n - nm d k) / 4096]? = q2
        cases q1 <;> cases q2 <;> rfl

theorem nm_ne {d d' k k' : Nat} (h : d < 4096) (h' : d' < 4096) (hne : d ≠ d') : nm d k ≠ nm d' k' := by unfold nm; omega

theorem mupdL_comm {m : Nat → Option MO} {d d' : Nat} {os os' : List MO} (h : d < 4096) (h' : d' < 4096) (hne : d ≠ d') : mupdL (mupdL m d 0 os) d' 0 os' = mupdL (mupdL m d' 0 os') d 0 os := by
  funext n
  rw [mupdL_get, mupdL_get, mupdL_get, mupdL_get]
  by_cases h1 : n = nm d (0 + (n - nm d 0) / 4096)
  · have h2 : ¬ n = nm d' (0 + (n - nm d' 0) / 4096) := fun e => nm_ne h h' hne (h1.symm.trans e)
    simp only [if_neg h2]
    generalize os[(n - nm d 0) / 4096]? = q1
    generalize os'[(n - nm d' 0) / 4096]? = q2
    cases q1 <;> cases q2 <;> rfl
  · simp only [if_neg h1]
    generalize os[(n - nm d 0) / 4096]? = q1
    generalize os'[(n - nm d' 0) / 4096]? = q2
    cases q1 <;> cases q2 <;> rfl

theorem ext_mupdL {m : Nat → Option MO} {d : Nat} : ∀ {os : List MO} {k : Nat}, freeL m d k os = true → Ext m (mupdL m d k os)
  | [], _, _ => fun _ _ => rfl
  | o :: os, k, h => by
    simp only [freeL, Bool.and_eq_true] at h
    have hfree : m (nm d k) = none := by
      have := h.1
      split at this
      · assumption
      · cases this
    have h2 : freeL (mupd m (nm d k) o) d (k + 1) os = true := freeL_congr d os m _ (k + 1) (fun i hi => mupd_ne _ _ (fun e => by have := nm_inj e; omega)) h.2
    intro n hn
    simp only [mupdL]
    have hne : n ≠ nm d k := fun e => hn (e ▸ hfree)
    rw [ext_mupdL h2 n (by rw [mupd_ne _ _ hne]; exact hn), mupd_ne _ _ hne]

theorem Ext.trans_free {m m' : Nat → Option MO} (h : Ext m m') {d : Nat} : ∀ {os : List MO} {k : Nat}, freeL m' d k os = true → freeL m d k os = true
  | [], _, _ => rfl
  | o :: os, k, hf => by
    simp only [freeL, Bool.and_eq_true] at hf ⊢
    refine ⟨?_, Ext.trans_free h hf.2⟩
    cases hq : m (nm d k) with
    | none => rfl
    | some q => have := h (nm d k) (by rw [hq]; simp); rw [this, hq] at hf; exact absurd hf.1 (by simp)

theorem free_other {m : Nat → Option MO} {d d' : Nat} {os : List MO} (h : d < 4096) (h' : d' < 4096) (hne : d ≠ d') : ∀ {os' : List MO} {k : Nat}, freeL m d' k os' = true → freeL (mupdL m d 0 os) d' k os' = true := by
  intro os' k hf
  exact freeL_congr d' os' m _ k (fun i _ => mupdL_other d os m 0 _ (fun i' _ => nm_ne h' h (Ne.symm hne))) hf

theorem resG_same {E : Env} {all : Array Oper} {o : Oper} {σ : St} (hg : Good σ) {d : Option Nat} {p : AV × List MO} {σ' : St} (hl : ∀ t, d = some t → t ∉ o.looksAt all) (he : extA σ d p = some σ') : resG E all o σ' = resG E all o σ := by
  obtain ⟨X, w, S, γ, a, hrel⟩ := hg
  cases d with
  | none =>
    obtain ⟨_, he⟩ := gd_some he
    cases he; rfl
  | some t =>
    obtain ⟨hf, he⟩ := gd_some he
    simp only [Bool.and_eq_true] at hf
    obtain ⟨_, hf⟩ := hf
    cases he
    obtain ⟨h1, h2⟩ := look_op (hl t rfl)
    have hp : plainA E o (⟨upd σ.ρ t p.1, mupdL σ.m t 0 p.2⟩ : St).ev (mupdL σ.m t 0 p.2) = plainA E o σ.ev σ.m := by
      rw [plainA_congr E o _ σ.ev _ (fun x hx => ev_upd (h1 x hx))]
      exact plainA_ext hrel.mem (ext_mupdL hf) E hrel.ev
    unfold resG
    cases hgd : o.guard with
    | none => exact hp
    | some g =>
      obtain ⟨j, want⟩ := g
      simp only
      cases ht : (all[j]?).bind (·.dst) with
      | none => rfl
      | some u =>
        have hne : u ≠ t := fun e => h2 j want hgd (by rw [ht, e])
        simp only [upd_ne _ _ hne, hp]

/-- what an append leaves of the objects -/
def Sub (m m' : Nat → Option MO) (d : Nat) : Prop := m d = none ∧ ∀ k, k ≠ d → m' k = m k ∨ ((∃ t xs, m k = some (.sl t xs .live)) ∧ ∃ t xs, m' k = some (.sl t xs .dead))

theorem appA_sub {E : Env} {m m' : Nat → Option MO} {d : Nat} {t u : TypeId} {a b v : AV} (h : appA E m d t u a b (fun v m => some (v, m)) = some (v, m')) : Sub m m' d ∧ v = .own d := by
  unfold appA at h
  split at h
  · cases h
  · split at h
    · cases h
    · rename_i ys _
      split at h
      · cases h
      · rename_i hd
        split at h
        · obtain ⟨_, h⟩ := gd_some h
          cases h
          exact ⟨⟨hd, fun k hk => .inl (mupd_ne _ _ hk)⟩, rfl⟩
        · rename_i n
          split at h
          · rename_i t' xs hn
            split at h
            · obtain ⟨_, h⟩ := gd_some h
              cases h
              refine ⟨⟨hd, fun k hk => ?_⟩, rfl⟩
              rw [mupd_ne _ _ hk]
              by_cases e : k = n
              · subst e
                exact .inr ⟨⟨_, _, hn⟩, _, _, mupd_same _ _ _⟩
              · exact .inl (mupd_ne _ _ e)
            · cases h
          · cases h
        · split at h
          · obtain ⟨_, h⟩ := gd_some h
            cases h
            exact ⟨⟨hd, fun k hk => .inl (mupd_ne _ _ hk)⟩, rfl⟩
          · cases h
        · cases h

theorem load_sub {E : Env} {w : World} {S : Nat → Prop} {γ : Nat → Loc} {m m' : Nat → Option MO} {d : Nat} (hs : Sub m m' d) {dst : Option Nat} {t : TypeId} {p : Operand} {ev : Operand → AV} {x : Value} (hp : RepA w S γ m (ev p) x)
    {q : AV × List MO} (h : coreA E dst (.load t p) ev m' (fun v ob => some (v, ob.toList)) = some q) : coreA E dst (.load t p) ev m (fun v ob => some (v, ob.toList)) = some q ∧ q.2 = [] := by
  have live : ∀ {k : Nat} {o : MO}, m k ≠ none → m' k = some o → (∀ t xs, o ≠ .sl t xs .dead) → m k = some o := by
    intro k o hk ho hne
    have : k ≠ d := fun e => hk (by rw [e]; exact hs.1)
    rcases hs.2 k this with h | ⟨_, t, xs, h⟩
    · rw [← h]; exact ho
    · rw [h] at ho; cases ho; exact absurd rfl (hne t xs)
  simp only [coreA] at h ⊢
  split at h
  · cases h
  · rename_i ti hti
    split at h
    · rename_i n off hv
      rw [hv] at hp
      obtain ⟨cs0, s0, b, k1, _⟩ := hp
      have hk : m n ≠ none := by rw [k1]; simp
      split at h
      · rename_i cs hn
        rw [live hk hn (fun _ _ => by simp)]
        simp only
        split at h
        · cases h; exact ⟨rfl, rfl⟩
        · cases h
      · rename_i cs hn
        rw [live hk hn (fun _ _ => by simp)]
        simp only
        split at h
        · cases h; exact ⟨rfl, rfl⟩
        · cases h
      · cases h
    · rename_i cs off hv
      split at h
      · cases h; exact ⟨rfl, rfl⟩
      · cases h
    · rename_i t' x' off hv
      split at h
      · cases h; exact ⟨rfl, rfl⟩
      · cases h
    · rename_i n i off hv
      rw [hv] at hp
      obtain ⟨t0, xs0, s0, b, k1, _⟩ := hp
      have hk : m n ≠ none := by rw [k1]; simp
      split at h
      · rename_i t' xs hn
        rw [live hk hn (fun _ _ => by simp)]
        simp only
        split at h
        · cases h; exact ⟨rfl, rfl⟩
        · cases h
      · rename_i t' xs hn
        rw [live hk hn (fun _ _ => by simp)]
        simp only
        split at h
        · cases h; exact ⟨rfl, rfl⟩
        · cases h
      · cases h
    · cases h

theorem asList_sub {w : World} {S : Nat → Prop} {γ : Nat → Loc} {m m' : Nat → Option MO} {d : Nat} (hs : Sub m m' d) {t : Ty} {v : AV} {x : Value} {xs : List t.T} (hv : RepA w S γ m v x) (h : asList m' t v = some xs) : asList m t v = some xs := by
  cases v with
  | own n =>
    obtain ⟨t0, xs0, s0, k1, _⟩ := hv
    have hk : n ≠ d := fun e => by rw [e, hs.1] at k1; cases k1
    rcases hs.2 n hk with h' | ⟨_, t', xs', h'⟩
    · simp only [asList] at h ⊢
      rw [h'] at h; exact h
    · simp only [asList] at h
      rw [h'] at h; cases h
  | _ => exact h

theorem slice_none {E : Env} {dst : Option Nat} {T : TypeId} {y : Operand} {lo hi mx : Option Operand} {ev : Operand → AV} {m : Nat → Option MO} {q : AV × List MO} (h : coreA E dst (.slice T y lo hi mx) ev m (fun v ob => some (v, ob.toList)) = some q) : q.2 = [] := by
  simp only [coreA] at h
  (repeat' split at h) <;> first | (cases h; done) | (obtain ⟨_, h⟩ := gd_some h; cases h; rfl)

theorem slice_sub {E : Env} {w : World} {S : Nat → Prop} {γ : Nat → Loc} {m m' : Nat → Option MO} {d : Nat} (hs : Sub m m' d) {dst : Option Nat} {T : TypeId} {y : Operand} {lo hi mx : Option Operand} {ev : Operand → AV} {x : Value} (hp : RepA w S γ m (ev y) x)
    {q : AV × List MO} (h : coreA E dst (.slice T y lo hi mx) ev m' (fun v ob => some (v, ob.toList)) = some q) : coreA E dst (.slice T y lo hi mx) ev m (fun v ob => some (v, ob.toList)) = some q ∧ q.2 = [] := by
  refine ⟨?_, slice_none h⟩
  simp only [coreA] at h ⊢
  cases hT : E.ty T with
  | none => rw [hT] at h; cases h
  | some ti =>
    rw [hT] at h
    simp only at h ⊢
    cases hd : ti.d with
    | str =>
      rw [hd] at h
      cases hv : ev y <;> rw [hv] at h <;> first | (exact h; done) | cases h
    | slice e' =>
      rw [hd] at h
      simp only at h ⊢
      cases he : elemTy E T with
      | none => rw [he] at h; cases h
      | some p =>
        obtain ⟨e, ei, ty⟩ := p
        rw [he] at h
        simp only at h ⊢
        cases ha : asList m' ty (ev y) with
        | none => rw [ha] at h; cases h
        | some xs =>
          rw [ha] at h
          rw [asList_sub hs hp ha]
          exact h
    | _ => rw [hd] at h; cases h

theorem bornL_nil (E : Env) (o : Oper) : bornL E o [] = [] := by unfold bornL; split <;> rfl

/-- an operation that reads alone, behind an append -/
theorem look_sub {E : Env} {w : World} {S : Nat → Prop} {γ : Nat → Loc} {m m' : Nat → Option MO} {d : Nat} (hs : Sub m m' d) {o : Oper} {ev : Operand → AV} {el : Operand → Value} (hp : ∀ x, RepA w S γ m (ev x) (el x)) (ho : plainLoad E o = true)
    {q : AV × List MO} (h : plainA E o ev m' = some q) : plainA E o ev m = some q ∧ q.2 = [] := by
  unfold plainA at h
  obtain ⟨q0, h0, rfl⟩ := Option.map_eq_some_iff.1 h
  clear h
  have h := h0
  have key : plain0 E o ev m = some q0 ∧ q0.2 = [] := by
    unfold plainLoad at ho
    unfold plain0 at h ⊢
    cases hop : o.op with
    | load t p =>
      rw [hop] at h
      exact load_sub hs (hp p) h
    | move x =>
      rw [hop] at h
      simp only [coreA] at h ⊢
      cases h; exact ⟨rfl, rfl⟩
    | slice T y lo hi mx =>
      rw [hop] at h
      exact slice_sub hs (hp y) h
    | _ => rw [hop] at ho; cases ho
  refine ⟨by unfold plainA; rw [key.1]; rfl, ?_⟩
  show bornL E o q0.2 = []
  rw [key.2]
  exact bornL_nil E o

theorem load_plain {E : Env} {o : Oper} (ho : plainLoad E o = true) : o.guard = none ∧ o.dst.isSome = true ∧ plainOp E o = true := by
  unfold plainLoad at ho
  split at ho <;> first | (simp only [Bool.and_eq_true, Option.isNone_iff_eq_none] at ho; exact ⟨ho.1, ho.2.1, ho.2.2⟩) | cases ho

theorem upd_comm {ρ : Nat → AV} {d d' : Nat} {v v' : AV} (h : d ≠ d') : upd (upd ρ d v) d' v' = upd (upd ρ d' v') d v := by
  funext n
  simp only [upd]
  cases h1 : Nat.beq n d <;> cases h2 : Nat.beq n d' <;> simp only [cond_true, cond_false]
  exact absurd ((Nat.eq_of_beq_eq_true h1).symm.trans (Nat.eq_of_beq_eq_true h2)) h

/-- the step of an append -/
theorem stepG_app {E : Env} {all : Array Oper} {x : Oper} (hx : plainApp E x = true) : ∃ (args : Array Operand) (ts : Array TypeId) (d : Nat), x.op = .call ⟨.builtin .append, args, ts⟩ ∧ x.dst = some d ∧ ∀ σ : St, stepG E all x σ = (match args.toList, ts.toList with
          | [a, b], [t, u] => (appA E σ.m d t u (σ.ev a) (σ.ev b) fun v m => some (v, m)).bind fun q => some ⟨upd σ.ρ d q.1, q.2⟩
          | _, _ => none) := by
  unfold plainApp at hx
  split at hx
  · rename_i args ts hox
    simp only [Bool.and_eq_true, Option.isNone_iff_eq_none, Bool.not_eq_true', List.isEmpty_iff] at hx
    obtain ⟨gx, dx, px, sx, bx⟩ := hx
    obtain ⟨d, hdx⟩ := Option.isSome_iff_exists.1 dx
    refine ⟨args, ts, d, hox, hdx, fun σ => ?_⟩
    unfold stepG
    rw [gx]
    simp only
    unfold opA
    rw [sx, bx]
    simp only [stillL]
    unfold opB
    rw [px, hox, hdx]
    simp only [cond_false]
    rcases args.toList with _ | ⟨a, _ | ⟨b, _ | ⟨c, l⟩⟩⟩ <;> rcases ts.toList with _ | ⟨t, _ | ⟨u, _ | ⟨v, l'⟩⟩⟩ <;> first | rfl | exact appA_nat ..
  · cases hx

/-- the step of a store -/
theorem stepG_store {E : Env} {all : Array Oper} {y : Oper} (hy : plainStore y = true) : ∃ (t : TypeId) (p v : Operand), y.op = .store t p v ∧ y.dst = none ∧ ∀ σ : St, stepG E all y σ = storeA E t σ.m (σ.ev p) (σ.ev v) fun m => some ⟨σ.ρ, m⟩ := by
  unfold plainStore at hy
  split at hy
  · rename_i t p v hop
    simp only [Bool.and_eq_true, Option.isNone_iff_eq_none] at hy
    obtain ⟨gy, dy⟩ := hy
    refine ⟨t, p, v, hop, dy, fun σ => ?_⟩
    have e1 : opStill E y = [] := by unfold opStill; rw [dy]
    have e2 : opBorn E y = [] := by unfold opBorn; rw [dy]
    have e3 : preO E y = false := by unfold preO; rw [hop]
    unfold stepG
    rw [gy]
    simp only
    unfold opA
    rw [e1, e2]
    simp only [stillL]
    unfold opB
    rw [e3, hop, dy]
    rfl
  · cases hy

theorem stepG_noguard {E : Env} {all : Array Oper} {y : Oper} (gy : y.guard = none) (py : plainOp E y = true) (σ : St) : stepG E all y σ = (plainA E y σ.ev σ.m).bind (extA σ y.dst) := by
  unfold stepG
  rw [gy]
  simp only
  rw [opA_plain E y σ py]

/-- an append, and a look at memory behind it -/
theorem swapApp {E : Env} {all : Array Oper} {x y : Oper} {σ σ1 σ2 : St} (hg : Good σ) (ha : x.apart all y = true) (hx : plainApp E x = true) (hy : plainLoad E y = true) (h1 : stepG E all x σ = some σ1) (h2 : stepG E all y σ1 = some σ2) :
    ∃ σ1', stepG E all y σ = some σ1' ∧ stepG E all x σ1' = some σ2 := by
  obtain ⟨X, w, S, γ, a, hrel⟩ := hg
  obtain ⟨a1, a2, a3⟩ := Oper.apart_spec ha
  obtain ⟨args, ts, d, hox, hdx, stepX⟩ := stepG_app (all := all) hx
  obtain ⟨gy, dy, py⟩ := load_plain hy
  obtain ⟨d', hdy⟩ := Option.isSome_iff_exists.1 dy
  have hne : d ≠ d' := fun e => a2 d hdx (by rw [hdy, e])
  have stepY := stepG_noguard (all := all) gy py
  rw [stepX] at h1
  split at h1
  · rename_i a0 b0 t0 u0 hargs hts
    obtain ⟨q, hq, h1⟩ := Option.bind_eq_some_iff.1 h1
    cases h1
    obtain ⟨hsub, hq1⟩ := appA_sub hq
    rw [stepY] at h2
    obtain ⟨r, hr, h2⟩ := Option.bind_eq_some_iff.1 h2
    have hpl : ∀ z, z ∈ y.op.operands → z ≠ .tmp d := (look_op (a1 d hdx)).1
    rw [plainA_congr E y _ σ.ev _ (fun z hz => ev_upd (hpl z hz))] at hr
    obtain ⟨hr', hr2⟩ := look_sub hsub hrel.ev hy hr
    obtain ⟨v, ob⟩ := r
    simp only at hr2
    subst hr2
    rw [hdy] at h2
    simp only [extA, few0, freeL, Bool.and_self, gd, cond_true, mupdL, Option.some.injEq] at h2
    subst h2
    refine ⟨⟨upd σ.ρ d' v, σ.m⟩, ?_, ?_⟩
    · rw [stepY, hr', hdy]
      simp only [Option.bind_some, extA, few0, freeL, Bool.and_self, gd, cond_true, mupdL]
    · rw [stepX]
      have hxl : ∀ z, z ∈ x.op.operands → z ≠ .tmp d' := (look_op (a3 d' hdy)).1
      have e1 : (⟨upd σ.ρ d' v, σ.m⟩ : St).ev a0 = σ.ev a0 := ev_upd (hxl a0 (by rw [hox]; have : a0 ∈ args := Array.mem_def.2 (by rw [hargs]; simp); simpa [Op.operands, Call.operands] using this))
      have e2 : (⟨upd σ.ρ d' v, σ.m⟩ : St).ev b0 = σ.ev b0 := ev_upd (hxl b0 (by rw [hox]; have : b0 ∈ args := Array.mem_def.2 (by rw [hargs]; simp); simpa [Op.operands, Call.operands] using this))
      simp only [hargs, hts, e1, e2, hq, Option.bind_some]
      rw [upd_comm hne]
  · cases h1

/-! ## operations that do not look at the memory -/
theorem pure_any {E : Env} {o : Oper} (ho : pureOp o.op = true) (ev : Operand → AV) (m m' : Nat → Option MO) : plainA E o ev m' = plainA E o ev m := by
  unfold plainA
  congr 1
  unfold plain0
  cases hop : o.op <;> rw [hop] at ho <;> first | (cases ho; done) | rfl | skip
  rename_i u t x
  cases u <;> rfl

theorem core_none {E : Env} {dst : Option Nat} {op : Op} (ho : pureOp op = true ∨ lookOp op = true) {ev : Operand → AV} {m : Nat → Option MO} {q : AV × List MO} (h : coreA E dst op ev m (fun v ob => some (v, ob.toList)) = some q) : q.2 = [] := by
  cases op <;> first | (rcases ho with ho | ho <;> cases ho; done) | skip
  case unOp u t x => cases u <;> simp only [coreA] at h <;> first | (cases h; done) | (split at h <;> first | (cases h; done) | (cases h; rfl))
  case call c =>
    obtain ⟨callee, args, ts⟩ := c
    cases callee with
    | value f => rcases ho with ho | ho <;> cases ho
    | invoke x n => rcases ho with ho | ho <;> cases ho
    | builtin b =>
      cases b <;> first | (rcases ho with ho | ho <;> cases ho; done) | skip
      simp only [coreA] at h
      (repeat' split at h) <;> first | (cases h; done) | (cases h; rfl)
  case binOp op t x y k =>
    simp only [coreA] at h
    obtain ⟨_, h⟩ := gd_some h
    obtain ⟨_, h⟩ := gd_some h
    split at h <;> first | (cases h; done) | (cases h; rfl)
  case pick c a b =>
    simp only [coreA] at h
    split at h
    · rename_i x _
      cases x <;> (cases h; rfl)
    · cases h
  all_goals
    simp only [coreA] at h
    (repeat' split at h) <;> first | (cases h; done) | (cases h; rfl) | (obtain ⟨_, _, _, h⟩ := armN_some h; cases h; rfl) | (obtain ⟨_, _, _, h⟩ := armN_some h; cases h; done) | (obtain ⟨_, h⟩ := gd_some h; (repeat' split at h) <;> first | (cases h; done) | (cases h; rfl))

theorem plainA_none {E : Env} {o : Oper} (ho : pureOp o.op = true ∨ lookOp o.op = true) {ev : Operand → AV} {m : Nat → Option MO} {q : AV × List MO} (h : plainA E o ev m = some q) : q.2 = [] := by
  unfold plainA at h
  obtain ⟨q0, h0, rfl⟩ := Option.map_eq_some_iff.1 h
  clear h
  have h := h0
  have e : coreA E o.dst o.op ev m (fun v ob => some (v, ob.toList)) = some q0 := by
    unfold plain0 at h
    split at h
    · rename_i hop; rw [hop] at ho; rcases ho with ho | ho <;> cases ho
    · rename_i hop; rw [hop] at ho; rcases ho with ho | ho <;> cases ho
    · exact h
  show bornL E o q0.2 = []
  rw [core_none ho e]
  exact bornL_nil E o

/-- an operation that makes nothing -/
theorem step_none {E : Env} {all : Array Oper} {x : Oper} (ho : pureOp x.op = true ∨ lookOp x.op = true) (gx : x.guard = none) (px : plainOp E x = true) {d : Nat} (hd : x.dst = some d) {σ σ1 : St} (h1 : stepG E all x σ = some σ1) : ∃ v, plainA E x σ.ev σ.m = some (v, []) ∧ σ1 = ⟨upd σ.ρ d v, σ.m⟩ := by
  rw [stepG_noguard gx px] at h1
  obtain ⟨q, hq, h1⟩ := Option.bind_eq_some_iff.1 h1
  have hn := plainA_none ho hq
  obtain ⟨v, ob⟩ := q
  simp only at hn
  subst hn
  rw [hd] at h1
  simp only [extA, few0, freeL, Bool.and_self, gd, cond_true, mupdL, Option.some.injEq] at h1
  exact ⟨v, hq, h1.symm⟩
theorem step_mk {E : Env} {all : Array Oper} {x : Oper} (gx : x.guard = none) (px : plainOp E x = true) {d : Nat} (hd : x.dst = some d) {σ : St} {v : AV} (h : plainA E x σ.ev σ.m = some (v, [])) : stepG E all x σ = some ⟨upd σ.ρ d v, σ.m⟩ := by
  rw [stepG_noguard gx px, h, hd]
  simp only [Option.bind_some, extA, few0, freeL, Bool.and_self, gd, cond_true, mupdL]

theorem swapPureApp {E : Env} {all : Array Oper} {x y : Oper} {σ σ1 σ2 : St} (ha : x.apart all y = true) (hx : pureX E x = true) (hy : plainApp E y = true) (h1 : stepG E all x σ = some σ1) (h2 : stepG E all y σ1 = some σ2) :
    ∃ σ1', stepG E all y σ = some σ1' ∧ stepG E all x σ1' = some σ2 := by
  obtain ⟨a1, a2, a3⟩ := Oper.apart_spec ha
  simp only [pureX, Bool.and_eq_true, Option.isNone_iff_eq_none] at hx
  obtain ⟨ox, gx, dx, px⟩ := hx
  obtain ⟨d, hdx⟩ := Option.isSome_iff_exists.1 dx
  obtain ⟨v, hv, rfl⟩ := step_none (.inl ox) gx px hdx h1
  obtain ⟨args, ts, d', hoy, hdy, stepY⟩ := stepG_app (all := all) hy
  have hne : d ≠ d' := fun e => a2 d hdx (by rw [hdy, e])
  rw [stepY] at h2
  split at h2
  · rename_i a0 b0 t0 u0 hargs hts
    have hyl : ∀ z, z ∈ y.op.operands → z ≠ .tmp d := (look_op (a1 d hdx)).1
    have e1 : (⟨upd σ.ρ d v, σ.m⟩ : St).ev a0 = σ.ev a0 := ev_upd (hyl a0 (by rw [hoy]; have : a0 ∈ args := Array.mem_def.2 (by rw [hargs]; simp); simpa [Op.operands, Call.operands] using this))
    have e2 : (⟨upd σ.ρ d v, σ.m⟩ : St).ev b0 = σ.ev b0 := ev_upd (hyl b0 (by rw [hoy]; have : b0 ∈ args := Array.mem_def.2 (by rw [hargs]; simp); simpa [Op.operands, Call.operands] using this))
    rw [e1, e2] at h2
    obtain ⟨q, hq, h2⟩ := Option.bind_eq_some_iff.1 h2
    cases h2
    refine ⟨⟨upd σ.ρ d' q.1, q.2⟩, ?_, ?_⟩
    · rw [stepY]
      simp only [hargs, hts, hq, Option.bind_some]
    · have hxl : ∀ z, z ∈ x.op.operands → z ≠ .tmp d' := (look_op (a3 d' hdy)).1
      have := step_mk (all := all) (σ := ⟨upd σ.ρ d' q.1, q.2⟩) gx px hdx (v := v) (by
        rw [plainA_congr E x _ σ.ev _ (fun z hz => ev_upd (hxl z hz)), pure_any ox σ.ev σ.m q.2]; exact hv)
      rw [this, upd_comm hne]
  · cases h2

theorem swapStore {E : Env} {all : Array Oper} {x y : Oper} {σ σ1 σ2 : St} (ha : x.apart all y = true) (ho : pureOp x.op = true ∨ lookOp x.op = true) (gx : x.guard = none) (dx : x.dst.isSome = true) (px : plainOp E x = true) (hy : plainStore y = true) (h1 : stepG E all x σ = some σ1) (h2 : stepG E all y σ1 = some σ2)
    (hsame : ∀ m2 v, (∀ t p u, y.op = .store t p u → storeA E t σ.m (σ.ev p) (σ.ev u) some = some m2) → plainA E x σ.ev σ.m = some v → plainA E x σ.ev m2 = some v) :
    ∃ σ1', stepG E all y σ = some σ1' ∧ stepG E all x σ1' = some σ2 := by
  obtain ⟨a1, a2, a3⟩ := Oper.apart_spec ha
  obtain ⟨d, hdx⟩ := Option.isSome_iff_exists.1 dx
  obtain ⟨v, hv, rfl⟩ := step_none ho gx px hdx h1
  obtain ⟨t, p, u, hoy, hdy, stepY⟩ := stepG_store (E := E) (all := all) hy
  have hyl : ∀ z, z ∈ y.op.operands → z ≠ .tmp d := (look_op (a1 d hdx)).1
  have e1 : (⟨upd σ.ρ d v, σ.m⟩ : St).ev p = σ.ev p := ev_upd (hyl p (by rw [hoy]; simp [Op.operands]))
  have e2 : (⟨upd σ.ρ d v, σ.m⟩ : St).ev u = σ.ev u := ev_upd (hyl u (by rw [hoy]; simp [Op.operands]))
  rw [stepY, e1, e2, storeA_nat] at h2
  obtain ⟨m2, hm2, h2⟩ := Option.bind_eq_some_iff.1 h2
  cases h2
  refine ⟨⟨σ.ρ, m2⟩, ?_, ?_⟩
  · rw [stepY, storeA_nat, hm2]; rfl
  · exact step_mk (σ := ⟨σ.ρ, m2⟩) gx px hdx (v := v) (hsame m2 _ (fun t' p' u' h => by rw [hoy] at h; cases h; exact hm2) hv)

/-- two operations change places -/
theorem swap {E : Env} {all : Array Oper} {x y : Oper} {σ σ1 σ2 : St} (hg : Good σ) (ha : apartOps E all x y = true) (sx : dstSmall x = true) (sy : dstSmall y = true) (h1 : stepG E all x σ = some σ1) (h2 : stepG E all y σ1 = some σ2) :
    ∃ σ1', stepG E all y σ = some σ1' ∧ stepG E all x σ1' = some σ2 := by
  simp only [apartOps, Bool.and_eq_true, Bool.or_eq_true] at ha
  obtain ⟨ha, hpl⟩ := ha
  rcases hpl with ⟨px, py⟩ | ⟨px, py⟩ | ⟨px, py | py⟩
  rotate_left
  · exact swapApp hg ha px py h1 h2
  · exact swapPureApp ha px py h1 h2
  · have hx := px
    simp only [pureX, Bool.and_eq_true, Option.isNone_iff_eq_none] at hx
    exact swapStore ha (.inl hx.1) hx.2.1 hx.2.2.1 hx.2.2.2 py h1 h2 fun m2 v _ h => by rw [pure_any hx.1 σ.ev σ.m m2]; exact h
  obtain ⟨a1, a2, a3⟩ := Oper.apart_spec ha
  rw [stepG_plain E all x σ px] at h1
  rw [stepG_plain E all y σ1 py] at h2
  cases hx : resG E all x σ with
  | none => rw [hx] at h1; cases h1
  | some p =>
    rw [hx] at h1
    simp only [Option.bind_some] at h1
    rw [resG_same hg a1 h1] at h2
    cases hy : resG E all y σ with
    | none => rw [hy] at h2; cases h2
    | some q =>
      rw [hy] at h2
      simp only [Option.bind_some] at h2
      cases hdx : x.dst with
      | none =>
        rw [hdx] at h1
        obtain ⟨hpe, h1⟩ := gd_some h1
        cases h1
        refine ⟨σ2, by rw [stepG_plain E all y σ py, hy]; exact h2, ?_⟩
        rw [stepG_plain E all x σ2 px, resG_same hg a3 h2, hx, hdx]
        simp [extA, gd, hpe]
      | some d =>
        rw [hdx] at h1
        obtain ⟨hf1, h1⟩ := gd_some h1
        simp only [Bool.and_eq_true] at hf1
        obtain ⟨hl1, hf1⟩ := hf1
        cases h1
        cases hdy : y.dst with
        | none =>
          rw [hdy] at h2
          obtain ⟨hqe, h2⟩ := gd_some h2
          cases h2
          have he : extA σ y.dst q = some σ := by rw [hdy]; simp [extA, gd, hqe]
          refine ⟨σ, by rw [stepG_plain E all y σ py, hy]; exact he, ?_⟩
          rw [stepG_plain E all x σ px, hx, hdx]
          simp [extA, gd, hf1, hl1]
        | some d' =>
          rw [hdy] at h2
          obtain ⟨hf2, h2⟩ := gd_some h2
          simp only [Bool.and_eq_true] at hf2
          obtain ⟨hl2, hf2⟩ := hf2
          cases h2
          have hne : d ≠ d' := fun e => a2 d hdx (by rw [hdy, e])
          have hd : d < 4096 := by rw [dstSmall, hdx] at sx; simpa using sx
          have hd' : d' < 4096 := by rw [dstSmall, hdy] at sy; simpa using sy
          have hf2' : freeL σ.m d' 0 q.2 = true := Ext.trans_free (ext_mupdL hf1) hf2
          have he : extA σ y.dst q = some ⟨upd σ.ρ d' q.1, mupdL σ.m d' 0 q.2⟩ := by rw [hdy]; simp [extA, gd, hf2', hl2]
          refine ⟨_, by rw [stepG_plain E all y σ py, hy]; exact he, ?_⟩
          rw [stepG_plain E all x _ px, resG_same hg a3 he, hx, hdx]
          simp only [Option.bind_some, extA]
          rw [free_other hd' hd (Ne.symm hne) hf1, hl1]
          simp only [Bool.and_self, gd, cond_true, Option.some.injEq, St.mk.injEq]
          refine ⟨?_, mupdL_comm hd' hd (Ne.symm hne)⟩
          funext n
          simp only [upd]
          cases h1 : Nat.beq n d <;> cases h2 : Nat.beq n d' <;> simp only [cond_true, cond_false]
          exact absurd ((Nat.eq_of_beq_eq_true h1).symm.trans (Nat.eq_of_beq_eq_true h2)) hne

/-! ## a look at the memory, and a store into another variable behind it -/
section box
variable {R : Type} {m : Nat → Option MO} {n' : Nat} {cs cs' : List AV} {s s' : Stat} (hm : m n' = some (.box cs s))
include hm
theorem box_sl {n : Nat} {t : Ty} {xs : List t.T} {st : Stat} (h : m n = some (.sl t xs st)) : mupd m n' (.box cs' s') n = m n := by
  by_cases e : n = n'
  · subst e; rw [hm] at h; cases h
  · exact mupd_ne _ _ e
theorem box_asList {t : Ty} {v : AV} : asList (mupd m n' (.box cs' s')) t v = asList m t v := by
  cases v with
  | own n =>
    simp only [asList]
    by_cases e : n = n'
    · subst e; rw [mupd_same, hm]
    · rw [mupd_ne _ _ e]
  | _ => rfl
theorem box_len {v : AV} : lenA (mupd m n' (.box cs' s')) v = lenA m v := by
  cases v with
  | own n =>
    simp only [lenA]
    by_cases e : n = n'
    · subst e; rw [mupd_same, hm]
    · rw [mupd_ne _ _ e]
  | _ => rfl
theorem box_core {E : Env} {dst : Option Nat} {op : Op} (ho : lookOp op = true) {ev : Operand → AV} (hl : ∀ t a off, op = .load t a → ev a ≠ .ptr n' off) (K : AV → Option MO → Option R) : coreA E dst op ev (mupd m n' (.box cs' s')) K = coreA E dst op ev m K := by
  cases op <;> first | (cases ho; done) | rfl | skip
  case load t a =>
    simp only [coreA]
    have h := hl t a
    cases hv : ev a <;> rw [hv] at h <;> simp only
    case ptr n off =>
      rw [mupd_ne]
      rintro rfl
      exact h off rfl rfl
    case oel n i off =>
      by_cases e : n = n'
      · subst e; rw [mupd_same, hm]
      · rw [mupd_ne _ _ e]
  case slice t x lo hi mx =>
    simp only [coreA]
    cases E.ty t with
    | none => rfl
    | some ti =>
      simp only
      cases ti.d <;> cases hv : ev x <;> first | rfl | (simp only [box_asList hm])
  case indexAddr t x i =>
    simp only [coreA]
    cases hv : ev x <;> simp only
    case own n =>
      by_cases e : n = n'
      · subst e; rw [mupd_same, hm]
      · rw [mupd_ne _ _ e]
  case call c =>
    obtain ⟨callee, args, ts⟩ := c
    cases callee with
    | value f => cases ho
    | invoke x n => cases ho
    | builtin b =>
      cases b <;> first | (cases ho; done) | skip
      simp only [coreA]
      split
      · rename_i x t _ _
        cases E.ty t with
        | none => rfl
        | some ti =>
          simp only
          cases ti.d <;> cases hv : ev x <;> first | rfl | (simp only [box_len hm])
      · rfl
theorem box_plain {E : Env} {x : Oper} (ho : lookOp x.op = true) {ev : Operand → AV} (hl : ∀ t a off, x.op = .load t a → ev a ≠ .ptr n' off) : plainA E x ev (mupd m n' (.box cs' s')) = plainA E x ev m := by
  unfold plainA
  congr 1
  unfold plain0
  split
  · rename_i hop; rw [hop] at ho; cases ho
  · rename_i hop; rw [hop] at ho; cases ho
  · exact box_core hm ho hl _
end box

/-! ## what steps leave of the slots -/
theorem backA_rho {rl : List (Nat × Option Nat)} {σ σ' : St} {dst : Option Nat} {d : Nat} {τ : St} {ns : List Nat} (h : backA rl σ dst d τ ns some = some σ') : ∃ v, σ'.ρ = putO σ.ρ dst v := by
  unfold backA at h
  split at h
  · obtain ⟨_, h⟩ := gd_some h
    split at h
    · split at h
      · cases h; exact ⟨_, rfl⟩
      · cases h
    · cases h
  · cases h

theorem memsA_rho {σ σ' : St} {dst : Option Nat} {d : Nat} {as : List AV} : ∀ {l : List CtrM}, memsA l σ dst d as some = some σ' → ∃ v, σ'.ρ = putO σ.ρ dst v
  | [], h => by cases h
  | c :: r, h => by
    simp only [memsA] at h
    split at h
    · obtain ⟨_, h⟩ := gd_some h
      split at h
      · rename_i t _
        rw [c.nat] at h
        obtain ⟨p, _, h2⟩ := Option.bind_eq_some_iff.1 h
        exact backA_rho h2
      · cases h
    · exact memsA_rho h

theorem putO_ne {ρ : Nat → AV} {dst : Option Nat} {v : AV} {t : Nat} (h : dst ≠ some t) : putO ρ dst v t = ρ t := by
  cases dst with
  | none => rfl
  | some d => exact upd_ne _ _ fun e => h (by rw [e])

theorem opB_rho {E : Env} {o : Oper} {σ σ' : St} (h : opB E o σ some = some σ') {t : Nat} (ht : o.dst ≠ some t) : σ'.ρ t = σ.ρ t := by
  unfold opB at h
  rcases bif_some h with ⟨_, h⟩ | ⟨_, h⟩
  · unfold preS at h
    split at h
    · rename_i f args ts d _ hd
      split at h
      · obtain ⟨v, e⟩ := memsA_rho h
        rw [e]; exact putO_ne (by rw [← hd]; exact ht)
      · unfold yldA at h
        split at h
        · split at h
          · split at h
            · obtain ⟨_, h⟩ := gd_some h
              split at h
              · rename_i c hc v hv g0 g1 g2 g3 t' ht'
                rw [c.nat] at h
                obtain ⟨p, _, h2⟩ := Option.bind_eq_some_iff.1 h
                rw [backA_nat] at h2
                obtain ⟨σ1, h3, h4⟩ := Option.bind_eq_some_iff.1 h2
                obtain ⟨v, e⟩ := backA_rho h3
                cases h4
                show σ1.ρ t = _
                rw [e]; exact putO_ne (by rw [← hd]; exact ht)
              · cases h
            · cases h
          · cases h
        · cases h
      · cases h
    · rename_i x name args ts d _ hd
      split at h
      · split at h
        · obtain ⟨v, e⟩ := memsA_rho h
          rw [e]; exact putO_ne (by rw [← hd]; exact ht)
        · cases h
      · cases h
    · rename_i d _ hd
      rw [preA_nat] at h
      obtain ⟨p, _, h2⟩ := Option.bind_eq_some_iff.1 h
      cases h2
      exact upd_ne _ _ fun e => ht (by rw [hd, e])
    · cases h
  · split at h
    · rw [storeA_nat] at h
      obtain ⟨p, _, h2⟩ := Option.bind_eq_some_iff.1 h
      cases h2
      exact putO_ne ht
    · split at h
      · rename_i d _ _ _ _ hd _ _
        rw [appA_nat] at h
        obtain ⟨p, _, h2⟩ := Option.bind_eq_some_iff.1 h
        cases h2
        exact upd_ne _ _ fun e => ht (by rw [hd, e])
      · cases h
    · split at h
      · rw [callA_nat] at h
        obtain ⟨p, _, h2⟩ := Option.bind_eq_some_iff.1 h
        unfold doneA at h2
        split at h2
        · rename_i d hd
          obtain ⟨_, h2⟩ := gd_some h2
          cases h2
          exact upd_ne _ _ fun e => ht (by rw [hd, e])
        · obtain ⟨_, h2⟩ := gd_some h2
          cases h2; rfl
      · cases h
    · split at h
      · split at h
        · rw [callA_nat] at h
          obtain ⟨p, _, h2⟩ := Option.bind_eq_some_iff.1 h
          unfold doneA at h2
          split at h2
          · rename_i d hd
            obtain ⟨_, h2⟩ := gd_some h2
            cases h2
            exact upd_ne _ _ fun e => ht (by rw [hd, e])
          · obtain ⟨_, h2⟩ := gd_some h2
            cases h2; rfl
        · cases h
      · cases h
    · rw [coreA_nat] at h
      obtain ⟨p, _, h2⟩ := Option.bind_eq_some_iff.1 h
      split at h2
      · cases h2; exact putO_ne ht
      · split at h2
        · rename_i d hd
          split at h2
          · cases h2; exact upd_ne _ _ fun e => ht (by rw [hd, e])
          · cases h2
        · cases h2

theorem stepG_rho {E : Env} {all : Array Oper} {o : Oper} {σ σ' : St} (h : stepG E all o σ = some σ') {t : Nat} (ht : o.dst ≠ some t) : σ'.ρ t = σ.ρ t := by
  have op : opA E o σ some = some σ' → σ'.ρ t = σ.ρ t := fun h => by
    obtain ⟨σ1, h1, rfl⟩ := opA_some h
    exact opB_rho h1 ht
  unfold stepG at h
  split at h
  · exact op h
  · split at h
    · cases h
    · split at h
      · split at h
        · exact op h
        · cases h; exact putO_ne ht
      · cases h; exact putO_ne ht
      · cases h

/-- a run of operations by their numbers -/
def runI (E : Env) (all : Array Oper) : List Nat → St → Option St
  | [], σ => some σ
  | i :: l, σ => match all[i]? with
    | none => runI E all l σ
    | some o => (stepG E all o σ).bind (runI E all l)

theorem runI_rho {E : Env} {all : Array Oper} {t : Nat} : ∀ {l : List Nat} {σ σ' : St}, runI E all l σ = some σ' → (∀ k ∈ l, ∀ o, all[k]? = some o → o.dst ≠ some t) → σ'.ρ t = σ.ρ t
  | [], _, _, h, _ => by cases h; rfl
  | i :: l, σ, σ', h, ht => by
    simp only [runI] at h
    split at h
    · exact runI_rho h fun k hk => ht k (by simp [hk])
    · rename_i o ho
      obtain ⟨σ1, h1, h2⟩ := Option.bind_eq_some_iff.1 h
      rw [runI_rho h2 fun k hk => ht k (by simp [hk]), stepG_rho h1 (ht i (by simp) o ho)]

theorem notLater_spec {all : Array Oper} {b i j t : Nat} (h : notLater all b i j t = true) {k : Nat} (hk : j ≤ k) (hb : k < i → b.testBit k = false) {o : Oper} (ho : all[k]? = some o) : o.dst ≠ some t := by
  obtain ⟨hlt, _⟩ := Array.getElem?_eq_some_iff.1 ho
  unfold notLater at h
  simp only [List.all_eq_true, List.mem_range, Bool.or_eq_true] at h
  rcases h k hlt with (h | h) | h
  · rw [Nat.blt_eq] at h; omega
  · rw [Bool.and_eq_true, Nat.blt_eq] at h
    rw [hb h.1] at h; cases h.2
  · rw [ho] at h
    simp only at h
    intro e
    rw [e] at h
    simp at h

/-- two operations change places, as is seen at the region's end -/
theorem swapDyn {E : Env} {all : Array Oper} {x y : Oper} {σ σ1 σ2 σf : St} {b i j : Nat} (hij : j ≤ i) (hxj : all[j]? = some x) (hyi : all[i]? = some y) {l : List Nat} (hl : ∀ k ∈ l, j ≤ k ∧ (k < i → b.testBit k = false)) (hxb : b.testBit j = false) (hd : dynOk E all σf b i j x y = true) (h1 : stepG E all x σ = some σ1) (h2 : stepG E all y σ1 = some σ2) (hf : runI E all l σ2 = some σf) :
    ∃ σ1', stepG E all y σ = some σ1' ∧ stepG E all x σ1' = some σ2 := by
  have same : ∀ q, notLater all b i j q = true → σf.ρ q = σ.ρ q := fun q hq => by
    rw [runI_rho hf fun k hk o ho => notLater_spec hq (hl k hk).1 (hl k hk).2 ho, stepG_rho h2 (notLater_spec hq hij (fun h => absurd h (Nat.lt_irrefl _)) hyi), stepG_rho h1 (notLater_spec hq (Nat.le_refl _) (fun _ => hxb) hxj)]
  simp only [dynOk, Bool.and_eq_true, Option.isNone_iff_eq_none] at hd
  obtain ⟨ha, ⟨ox, gx, dx, px⟩, py, hd⟩ := hd
  refine swapStore ha (.inr ox) gx dx px py h1 h2 fun m2 v hm2 hv => ?_
  split at hd
  · rename_i t q u hop
    simp only [Bool.and_eq_true] at hd
    obtain ⟨hq, hd⟩ := hd
    split at hd
    · rename_i n' off' hn'
      have hst := hm2 t (.tmp q) u hop
      have hev : σ.ev (.tmp q) = .ptr n' off' := by rw [← hn']; exact (same q hq).symm
      rw [hev] at hst
      unfold storeA at hst
      split at hst
      · cases hst
      · obtain ⟨_, hst⟩ := gd_some hst
        simp only at hst
        split at hst
        · rename_i cs hcs
          obtain ⟨_, hst⟩ := gd_some hst
          cases hst
          rw [box_plain hcs ox fun t' a off hl' => ?_]
          · exact hv
          · rw [hl'] at hd
            cases a with
            | tmp a =>
              simp only [Bool.and_eq_true] at hd
              obtain ⟨hna, hd⟩ := hd
              have e := same a hna
              intro hc
              have hc' : σf.ρ a = .ptr n' off := by rw [e]; exact hc
              rw [hc'] at hd
              simp at hd
            | _ => simp at hd
        · cases hst
    · cases hd
  · cases hd

theorem wp_exists {P : Program} {o : Oper} {a : Act} {w : World} {K : Act → World → Prop} (h : o.wpIn (RF none) 0 P a w K fun _ _ _ => False) : ∃ a' w', K a' w' := by
  unfold Oper.wpIn at h
  have h := h.2
  generalize (o.semAt (RF none).round a.eval).run P w = r at h
  cases r with
  | ok n w' =>
    cases n <;> simp only [Oper.uponIn] at h
    case value v => exact ⟨_, _, h⟩
    case skip => exact ⟨_, _, h⟩
    case defer d => exact ⟨_, _, h⟩
    case enter f args =>
      obtain ⟨e, w'', fr, hR, _⟩ := h.2.2 [] (fun _ h => by cases h)
      cases e with
      | returned v => exact ⟨_, _, hR⟩
      | panicked c => exact hR.elim
      | outgrown => obtain ⟨_, _, hf⟩ := hR; exact hf.elim
    case row row args =>
      obtain ⟨v, w'', hR, _⟩ := h.2 default [] (fun _ h => by cases h)
      exact ⟨_, _, hR⟩
    case round l f tmps c1 c2 =>
      obtain ⟨e, w'', hR, _⟩ := h.2.2 default [] (fun _ h => by cases h)
      cases e with
      | returned v => exact ⟨_, _, hR⟩
      | panicked c => exact hR.elim
      | outgrown => obtain ⟨_, _, hf⟩ := hR; exact hf.elim
  | halt x w' => cases x <;> simp only [Oper.uponIn] at h

section reg
variable {ro : Option Nat} {P : Program} {E : Env} (hE : EnvOk P E) {all : Array Oper} {Q : Exit → Act → World → Prop}

theorem wanted_eq {X : Cx} {w : World} {S : Nat → Prop} {γ : Nat → Loc} {σ : St} {a : Act} (hrel : Rel X w S γ σ a) {o : Oper} {j : Nat} {want : Bool} {t : Tmp} (hg : o.guard = some (j, want)) (ht : (all[j]?).bind (·.dst) = some t) {b : Bool} (hb : σ.ρ t = .bool b) :
    Region.wanted o (yielded all a.tmps) = (b == want) := by
  have h := hrel.tm t
  rw [hb] at h
  simp only [RepA] at h
  have hq : a.tmps[t]? = some (.bool b) := by
    rw [Array.getD_eq_getD_getElem?] at h
    cases hq : a.tmps[t]? with
    | none => rw [hq] at h; simp [undef] at h
    | some v => rw [hq] at h; simp at h; rw [h]
  simp only [Region.wanted, hg, yielded, ht, Option.bind_some, hq]
  cases b <;> cases want <;> rfl

theorem wanted_hole {X : Cx} {w : World} {S : Nat → Prop} {γ : Nat → Loc} {σ : St} {a : Act} (hrel : Rel X w S γ σ a) {o : Oper} {j : Nat} {want : Bool} {t : Tmp} (hg : o.guard = some (j, want)) (ht : (all[j]?).bind (·.dst) = some t) (hb : σ.ρ t = .tup []) :
    Region.wanted o (yielded all a.tmps) = false := by
  have h := hrel.tm t
  rw [hb] at h
  obtain ⟨vs, h1, h2⟩ := h
  rw [show vs = [] from h2] at h1
  rw [Array.getD_eq_getD_getElem?] at h1
  simp only [Region.wanted, hg, yielded, ht, Option.bind_some]
  cases hq : a.tmps[t]? with
  | none => rfl
  | some v => rw [hq] at h1; simp at h1; rw [h1]; rfl

include hE in
theorem stepG_wp {X : Cx} {w : World} {S : Nat → Prop} {γ : Nat → Loc} {σ : St} {a : Act} (hrel : Rel X w S γ σ a) {o : Oper} {σ' : St} (h : stepG E all o σ = some σ') (hd : dstLt a.tmps.size o.dst) {K : Act → World → Prop}
    (hK : ∀ a' w' S' γ', Rel X w' S' γ' σ' a' → a'.tmps.size = a.tmps.size → K a' w') :
    if Region.wanted o (yielded all a.tmps) then o.wpIn (RF ro) 0 P a w K Q else K (a.put o.dst undef) w := by
  unfold stepG at h
  split at h
  · rename_i hg
    rw [show Region.wanted o (yielded all a.tmps) = true by simp [Region.wanted, hg], if_pos rfl]
    exact op_wp hE hrel h hd hK
  · rename_i j want hg
    split at h
    · cases h
    · rename_i t ht
      split at h
      · rename_i b hb
        rw [wanted_eq hrel hg ht hb]
        by_cases hbw : b = want
        · rw [if_pos hbw] at h
          subst hbw
          rw [if_pos (by simp)]
          exact op_wp hE hrel h hd hK
        · rw [if_neg hbw] at h
          rw [if_neg (by simpa using hbw)]
          cases h
          exact hK _ _ S γ (hrel.val (v := .tup []) (x := undef) (Below.refl _ _) ⟨[], rfl, rfl⟩ hd) (put_size _ _ _)
      · rename_i hb
        rw [wanted_hole hrel hg ht hb, if_neg (by simp)]
        cases h
        exact hK _ _ S γ (hrel.val (v := .tup []) (x := undef) (Below.refl _ _) ⟨[], rfl, rfl⟩ hd) (put_size _ _ _)
      · cases h

include hE in
theorem good_step {X : Cx} {w : World} {S : Nat → Prop} {γ : Nat → Loc} {σ : St} {a : Act} (hrel : Rel X w S γ σ a) {o : Oper} {σ' : St} (h : stepG E all o σ = some σ') (hd : dstLt a.tmps.size o.dst) :
    ∃ w' S' γ' a', Rel X w' S' γ' σ' a' ∧ a'.tmps.size = a.tmps.size := by
  have hk := stepG_wp (ro := none) hE (Q := fun _ _ _ => False) hrel h hd (K := fun a' w' => ∃ S' γ', Rel X w' S' γ' σ' a' ∧ a'.tmps.size = a.tmps.size) fun a' w' S' γ' h1 h2 => ⟨S', γ', h1, h2⟩
  split at hk
  · obtain ⟨a', w', S', γ', h1, h2⟩ := wp_exists hk
    exact ⟨w', S', γ', a', h1, h2⟩
  · obtain ⟨S', γ', h1, h2⟩ := hk
    exact ⟨w, S', γ', _, h1, h2⟩

theorem runG_runI (E : Env) (all : Array Oper) : ∀ (l : List Oper) (k : Nat) (σ : St), (∀ j, l[j]? = all[k + j]?) → runG E all l σ = runI E all ((List.range' k l.length)) σ
  | [], _, _, _ => rfl
  | o :: l, k, σ, h => by
    have h0 : all[k]? = some o := (h 0).symm
    simp only [runG, List.length_cons, List.range'_succ, runI, h0]
    congr 1
    funext σ'
    exact runG_runI E all l (k + 1) σ' fun j => by have := h (j + 1); rw [List.getElem?_cons_succ] at this; rw [this]; congr 1; omega

include hE in
theorem runI_wp : ∀ (l : List Nat) {X : Cx} {w : World} {S : Nat → Prop} {γ : Nat → Loc} {σ : St} {a : Act} (_ : Rel X w S γ σ a) {σ' : St} (_ : runI E all l σ = some σ') (_ : ∀ (i : Nat) (o : Oper), all[i]? = some o → dstLt a.tmps.size o.dst)
    (_ : ∀ a' w' S' γ', Rel X w' S' γ' σ' a' → a'.tmps.size = a.tmps.size → Q .normal a' w'), wpOpsIn (RF ro) 0 P all Q l a w
  | [], _, _, S, γ, _, a, hrel, σ', h, _, hQ => by
    simp only [runI, Option.some.injEq] at h
    subst h
    exact hQ _ _ S γ hrel rfl
  | i :: l, _, _, _, _, σ, a, hrel, σ', h, hd, hQ => by
    rw [wpOpsIn_cons]
    unfold wpOpIn
    simp only [runI] at h
    cases ho : all[i]? with
    | none =>
      rw [ho] at h
      exact runI_wp l hrel h hd hQ
    | some o =>
      rw [ho] at h
      simp only at h
      simp only
      cases hs : stepG E all o σ with
      | none => rw [hs] at h; cases h
      | some σ1 =>
        rw [hs] at h
        have hk := stepG_wp (ro := ro) hE (Q := Q) hrel hs (hd i o ho) (K := wpOpsIn (RF ro) 0 P all Q l) fun a' w' S' γ' h1 h2 =>
          runI_wp l h1 h (fun i o ho => by rw [h2]; exact hd i o ho) fun a'' w'' S'' γ'' k1 k2 => hQ a'' w'' S'' γ'' k1 (k2.trans h2)
        split
        · rename_i hw; rw [if_pos hw] at hk; exact hk
        · rename_i hw; rw [if_neg hw] at hk; exact ⟨fun _ _ => trivial, hk⟩

/-! ## whatever order is open -/
theorem maskOf_bit {acc : List Nat} {o : Oper} {j : Nat} (h : (maskOf acc o).testBit j = true) : ∃ e, e ∈ o.after.toList ∧ Region.binds .any e = true ∧ (j = e.on ∨ (acc.getD e.on 0).testBit j = true) := by
  unfold maskOf at h
  have gen : ∀ (l : List Edge) (s : Nat), (l.foldl (fun s e => bif Region.binds .any e then s ||| (2 ^ e.on ||| acc.getD e.on 0) else s) s).testBit j = true → s.testBit j = true ∨ ∃ e, e ∈ l ∧ Region.binds .any e = true ∧ (j = e.on ∨ (acc.getD e.on 0).testBit j = true) := by
    intro l
    induction l with
    | nil => intro s h; exact .inl h
    | cons e l ih =>
      intro s h
      simp only [List.foldl_cons] at h
      rcases ih _ h with h | ⟨e', h1, h2⟩
      · cases hb : Region.binds .any e with
        | false => rw [hb] at h; exact .inl h
        | true =>
          rw [hb] at h
          simp only [cond_true, Nat.testBit_or, Bool.or_eq_true] at h
          rcases h with h | h | h
          · exact .inl h
          · rw [Nat.testBit_two_pow] at h
            exact .inr ⟨e, by simp, hb, .inl (of_decide_eq_true h).symm⟩
          · exact .inr ⟨e, by simp, hb, .inr h⟩
      · exact .inr ⟨e', by simp [h1], h2⟩
  rcases gen _ 0 h with h | h
  · simp at h
  · exact h

theorem masks_prefix : ∀ (os : List Oper) (acc : List Nat) (i : Nat), i < acc.length → (masks os acc).getD i 0 = acc.getD i 0
  | [], _, _, _ => rfl
  | o :: os, acc, i, h => by
    simp only [masks]
    rw [masks_prefix os _ i (by simp; omega)]
    simp [List.getD_eq_getElem?_getD, List.getElem?_append_left h]

theorem masks_bit : ∀ (os : List Oper) (acc : List Nat) (i j : Nat) (o : Oper), os[i]? = some o → ((masks os acc).getD (acc.length + i) 0).testBit j = true →
    ∃ e, e ∈ o.after.toList ∧ Region.binds .any e = true ∧ (j = e.on ∨ ((masks os acc).getD e.on 0).testBit j = true)
  | [], _, _, _, _, h, _ => by simp at h
  | o' :: os, acc, 0, j, o, h, hb => by
    simp only [List.getElem?_cons_zero, Option.some.injEq] at h
    subst h
    simp only [masks, Nat.add_zero] at hb ⊢
    rw [masks_prefix os _ _ (by simp)] at hb
    simp only [List.getD_eq_getElem?_getD, List.getElem?_concat_length, Option.getD_some] at hb
    obtain ⟨e, h1, h2, h3⟩ := maskOf_bit hb
    refine ⟨e, h1, h2, h3.imp id fun h => ?_⟩
    have hlt : e.on < acc.length := by
      rcases Nat.lt_or_ge e.on acc.length with h' | h'
      · exact h'
      · simp [List.getD_eq_getElem?_getD, List.getElem?_eq_none h'] at h
    rw [masks_prefix os _ _ (by simp; omega)]
    simpa [List.getD_eq_getElem?_getD, List.getElem?_append_left hlt] using h
  | o' :: os, acc, i + 1, j, o, h, hb => by
    simp only [List.getElem?_cons_succ] at h
    simp only [masks] at hb ⊢
    refine masks_bit os (acc ++ [maskOf acc o']) i j o h ?_
    have : (acc ++ [maskOf acc o']).length + i = acc.length + (i + 1) := by simp; omega
    rw [this]; exact hb

include hE in
/-- an operation is taken first -/
theorem pull_front {b i : Nat} {o : Oper} (ho : all[i]? = some o) (hs : ∀ (k : Nat) (q : Oper), all[k]? = some q → dstSmall q = true) : ∀ (L1 L2 : List Nat) {X : Cx} {w : World} {S : Nat → Prop} {γ : Nat → Loc} {σ : St} {a : Act} (_ : Rel X w S γ σ a) (_ : ∀ (i : Nat) (o : Oper), all[i]? = some o → dstLt a.tmps.size o.dst) {σ' : St}
    (_ : (L1 ++ i :: L2).Pairwise (· < ·)) (_ : runI E all (L1 ++ i :: L2) σ = some σ') (_ : ∀ j, j ∈ L1 → ∀ q, all[j]? = some q → apartOps E all q o = true ∨ dynOk E all σ' b i j q o = true) (_ : ∀ j, j ∈ L1 → b.testBit j = false), ∃ σ1, stepG E all o σ = some σ1 ∧ runI E all (L1 ++ L2) σ1 = some σ'
  | [], L2, _, _, _, _, σ, a, _, _, σ', _, h, _, _ => by
    simp only [List.nil_append, runI, ho] at h ⊢
    cases hst : stepG E all o σ with
    | none => rw [hst] at h; cases h
    | some σ1 => rw [hst] at h; exact ⟨σ1, rfl, h⟩
  | j :: L1, L2, X, w, S, γ, σ, a, hrel, hd, σ', hsort, h, hap, hbits => by
    simp only [List.cons_append, runI] at h ⊢
    obtain ⟨hj1, hj2⟩ := List.pairwise_cons.1 hsort
    cases hj : all[j]? with
    | none =>
      rw [hj] at h
      simp only at h ⊢
      exact pull_front ho hs L1 L2 hrel hd hj2 h (fun k hk => hap k (by simp [hk])) fun k hk => hbits k (by simp [hk])
    | some q =>
      rw [hj] at h
      simp only at h ⊢
      cases hq : stepG E all q σ with
      | none => rw [hq] at h; cases h
      | some σ1 =>
        rw [hq] at h
        obtain ⟨w', S', γ', a', hrel', hsz⟩ := good_step hE hrel hq (hd j q hj)
        obtain ⟨σ2, k1, k2⟩ := pull_front ho hs L1 L2 hrel' (fun i o ho => by rw [hsz]; exact hd i o ho) hj2 h (fun k hk => hap k (by simp [hk])) fun k hk => hbits k (by simp [hk])
        have hji : j ≤ i := Nat.le_of_lt (hj1 i (by simp))
        have hrest : ∀ k ∈ L1 ++ L2, j ≤ k ∧ (k < i → b.testBit k = false) := fun k hk => ⟨Nat.le_of_lt (hj1 k (by
          rcases List.mem_append.1 hk with hk | hk
          · exact List.mem_append.2 (.inl hk)
          · exact List.mem_append.2 (.inr (List.mem_cons_of_mem _ hk)))), fun hki => by
          rcases List.mem_append.1 hk with hk1 | hk1
          · exact hbits k (by simp [hk1])
          · have := (List.pairwise_cons.1 (List.pairwise_append.1 hj2).2.1).1 k hk1
            omega⟩
        have hxb := hbits j (by simp)
        rcases (hap j (by simp) q hj) with hh | hh
        · obtain ⟨σ1', z1, z2⟩ := swap ⟨X, w, S, γ, a, hrel⟩ hh (hs j q hj) (hs i o ho) hq k1
          exact ⟨σ1', z1, by rw [z2]; exact k2⟩
        · obtain ⟨σ1', z1, z2⟩ := swapDyn hji hj ho hrest hxb hh hq k1 k2
          exact ⟨σ1', z1, by rw [z2]; exact k2⟩

def remI (all : Array Oper) (listed : Array Bool) : List Nat := (List.range all.size).filter fun i => !listed.getD i true

structure OpenOk (E : Env) (all : Array Oper) (σf : St) : Prop where
  small : ∀ (k : Nat) (q : Oper), all[k]? = some q → dstSmall q = true
  edge : ∀ (i : Nat) (o : Oper), all[i]? = some o → ∀ e, e ∈ o.after.toList → Region.binds .any e = true → e.on < i
  pair : ∀ (i j : Nat) (x y : Oper), j < i → all[j]? = some x → all[i]? = some y → ((masks all.toList []).getD i 0).testBit j = true ∨ (apartOps E all x y = true ∨ dynOk E all σf ((masks all.toList []).getD i 0) i j x y = true)

theorem openB_spec (h : openB all = true) : (∀ (k : Nat) (q : Oper), all[k]? = some q → dstSmall q = true) ∧ ∀ (i : Nat) (o : Oper), all[i]? = some o → ∀ e, e ∈ o.after.toList → Region.binds .any e = true → e.on < i := by
  unfold openB at h
  simp only [Bool.and_eq_true, List.all_eq_true, List.mem_range] at h
  obtain ⟨h1, h2⟩ := h
  refine ⟨fun k q hq => ?_, fun i o ho e he hb => ?_⟩
  · rw [Array.all_eq_true] at h1
    obtain ⟨hk, e⟩ := Array.getElem?_eq_some_iff.1 hq
    rw [← e]; exact h1 k hk
  · obtain ⟨hi, _⟩ := Array.getElem?_eq_some_iff.1 ho
    have := h2 i hi
    rw [ho] at this
    simp only [List.all_eq_true] at this
    have := this e he
    rw [hb] at this
    simpa using this

theorem openPairs_spec {i j : Nat} {x y : Oper} (hj : j < i) (hx : all[j]? = some x) (hy : all[i]? = some y) : ((masks all.toList []).getD i 0).testBit j = true ∨ (apartOps E all x y = true ∨ (j, i) ∈ openPairs E all) := by
  obtain ⟨hi, _⟩ := Array.getElem?_eq_some_iff.1 hy
  cases h1 : ((masks all.toList []).getD i 0).testBit j
  · cases h2 : apartOps E all x y
    · refine .inr (.inr ?_)
      unfold openPairs
      refine List.mem_flatMap.2 ⟨i, List.mem_range.2 hi, List.mem_map.2 ⟨j, List.mem_filter.2 ⟨List.mem_range.2 hj, ?_⟩, rfl⟩⟩
      rw [hx, hy]
      simp only [h1, h2, Bool.or_self, Bool.not_false]
    · exact .inr (.inl rfl)
  · exact .inl rfl

theorem openOk_spec (h : openOk E all = true) (σf : St) : OpenOk E all σf := by
  unfold openOk at h
  simp only [Bool.and_eq_true, List.isEmpty_iff] at h
  obtain ⟨h1, h2⟩ := h
  obtain ⟨a1, a2⟩ := openB_spec h1
  refine ⟨a1, a2, fun i j x y hj hx hy => ?_⟩
  rcases openPairs_spec (E := E) hj hx hy with h | h | h
  · exact .inl h
  · exact .inr (.inl h)
  · rw [h2] at h; cases h

theorem openDyn_spec {σf : St} (h : openDyn E all σf = true) : OpenOk E all σf := by
  unfold openDyn at h
  simp only [Bool.and_eq_true, List.all_eq_true] at h
  obtain ⟨h1, h2⟩ := h
  obtain ⟨a1, a2⟩ := openB_spec h1
  refine ⟨a1, a2, fun i j x y hj hx hy => ?_⟩
  rcases openPairs_spec (E := E) hj hx hy with h | h | h
  · exact .inl h
  · exact .inr (.inl h)
  · have := h2 _ h
    simp only [hx, hy] at this
    exact .inr (.inr this)

theorem rem_sorted (listed : Array Bool) : (remI all listed).Pairwise (· < ·) := List.Pairwise.filter _ List.pairwise_lt_range

theorem mem_rem {listed : Array Bool} {i : Nat} : i ∈ remI all listed ↔ i < all.size ∧ listed.getD i true = false := by simp [remI]

theorem rem_set {listed : Array Bool} {i : Nat} {s t : List Nat} (hsz : listed.size = all.size) (h : remI all listed = s ++ i :: t) : remI all (listed.setIfInBounds i true) = s ++ t := by
  have hsort := rem_sorted (all := all) listed
  rw [h] at hsort
  obtain ⟨p1, p2, p3⟩ := List.pairwise_append.1 hsort
  have hi : i < all.size := (mem_rem.1 (by rw [h]; simp : i ∈ remI all listed)).1
  have e : remI all (listed.setIfInBounds i true) = (remI all listed).filter fun k => k != i := by
    unfold remI
    rw [List.filter_filter]
    apply List.filter_congr
    intro k hk
    simp only [List.mem_range] at hk
    by_cases hki : k = i
    · subst hki
      simp [hsz, hk]
    · have : (listed.setIfInBounds i true).getD k true = listed.getD k true := by
        simp only [Array.getD_eq_getD_getElem?]
        rw [Array.getElem?_setIfInBounds_ne (Ne.symm hki)]
      rw [this]
      simp [hki]
  rw [e, h, List.filter_append, List.filter_cons]
  have h1 : s.filter (fun k => k != i) = s := List.filter_eq_self.2 fun k hk => by have := p3 k hk i (by simp); simp; omega
  have h2 : t.filter (fun k => k != i) = t := List.filter_eq_self.2 fun k hk => by have := (List.pairwise_cons.1 p2).1 k hk; simp; omega
  rw [h1, h2]
  simp

include hE in
theorem wpAny_of_run {σ' : St} (hO : OpenOk E all σ') : ∀ (fuel : Nat) (listed : Array Bool) {X : Cx} {w : World} {S : Nat → Prop} {γ : Nat → Loc} {σ : St} {a : Act} (_ : Rel X w S γ σ a) (_ : listed.size = all.size) (_ : (remI all listed).length ≤ fuel)
    (_ : ∀ (k j : Nat), listed.getD k false = true → ((masks all.toList []).getD k 0).testBit j = true → listed.getD j false = true) (_ : runI E all (remI all listed) σ = some σ') (_ : ∀ (i : Nat) (o : Oper), all[i]? = some o → dstLt a.tmps.size o.dst)
    (_ : ∀ a' w' S' γ', Rel X w' S' γ' σ' a' → a'.tmps.size = a.tmps.size → Q .normal a' w'), wpAnyIn (RF ro) 0 P .any all Q fuel listed a w
  | fuel, listed, X, w, S, γ, σ, a, hrel, hsz, hlen, hdown, hrun, hd, hQ => by
    have done : remI all listed = [] → Q .normal a w := by
      intro h0
      rw [h0] at hrun
      simp only [runI, Option.some.injEq] at hrun
      subst hrun
      exact hQ a w S γ hrel rfl
    have toF : ∀ {i : Nat}, i < all.size → listed.getD i true = false → listed.getD i false = false := by
      intro i hi h
      have hi' : i < listed.size := by omega
      simp [hi'] at h ⊢
      exact h
    have ofF : ∀ {i : Nat}, i < all.size → listed.getD i false = false → listed.getD i true = false := by
      intro i hi h
      have hi' : i < listed.size := by omega
      simp [hi'] at h ⊢
      exact h
    have ready0 : Region.ready .any all listed = [] → remI all listed = [] := by
      intro hr
      cases hrem : remI all listed with
      | nil => rfl
      | cons i t =>
        exfalso
        have hi : i ∈ remI all listed := by rw [hrem]; simp
        obtain ⟨hi1, hi2⟩ := mem_rem.1 hi
        have : i ∈ Region.ready .any all listed := by
          unfold Region.ready
          simp only [List.mem_filter, List.mem_range, Bool.and_eq_true, Bool.not_eq_true']
          refine ⟨hi1, hi2, ?_⟩
          have ho : all[i]? = some all[i] := Array.getElem?_eq_getElem hi1
          rw [ho]
          simp only [Option.map_some, Option.getD_some]
          rw [← Array.all_toList]
          simp only [List.all_eq_true, Bool.or_eq_true, Bool.not_eq_true']
          intro e he
          cases hb : Region.binds .any e with
          | false => exact .inl rfl
          | true =>
            right
            have hlt := hO.edge i _ ho e he hb
            cases hq : listed.getD e.on false with
            | true => rfl
            | false =>
              exfalso
              have hm : e.on ∈ remI all listed := mem_rem.2 ⟨by omega, ofF (by omega) hq⟩
              have hsort := rem_sorted (all := all) listed
              rw [hrem] at hsort hm
              rcases List.mem_cons.1 hm with e1 | e1
              · omega
              · have := (List.pairwise_cons.1 hsort).1 _ e1; omega
        rw [hr] at this
        cases this
    cases fuel with
    | zero =>
      have h0 : remI all listed = [] := List.eq_nil_of_length_eq_zero (by omega)
      refine ⟨?_, done h0⟩
      cases hr : Region.ready .any all listed with
      | nil => rfl
      | cons i t =>
        exfalso
        have hi : i ∈ Region.ready .any all listed := by rw [hr]; simp
        unfold Region.ready at hi
        simp only [List.mem_filter, List.mem_range, Bool.and_eq_true, Bool.not_eq_true'] at hi
        have : i ∈ remI all listed := mem_rem.2 ⟨hi.1, hi.2.1⟩
        rw [h0] at this; cases this
    | succ fuel =>
      refine ⟨fun hr => done (ready0 hr), fun i hi => ?_⟩
      have hi' := hi
      unfold Region.ready at hi'
      simp only [List.mem_filter, List.mem_range, Bool.and_eq_true, Bool.not_eq_true'] at hi'
      obtain ⟨hi1, hi2, hi3⟩ := hi'
      have ho : all[i]? = some all[i] := Array.getElem?_eq_getElem hi1
      rw [ho] at hi3
      simp only [Option.map_some, Option.getD_some] at hi3
      rw [← Array.all_toList] at hi3
      simp only [List.all_eq_true, Bool.or_eq_true, Bool.not_eq_true'] at hi3
      have hmem : i ∈ remI all listed := mem_rem.2 ⟨hi1, hi2⟩
      obtain ⟨s, t, hst⟩ := List.append_of_mem hmem
      have hsort := rem_sorted (all := all) listed
      rw [hst] at hsort
      obtain ⟨_, _, p3⟩ := List.pairwise_append.1 hsort
      have hbit : ∀ j, ((masks all.toList []).getD i 0).testBit j = true → listed.getD j false = true := by
        intro j hj
        obtain ⟨e, e1, e2, e3⟩ := masks_bit all.toList [] i j all[i] (by simp [hi1]) (by simpa using hj)
        have hon : listed.getD e.on false = true := by
          rcases hi3 e e1 with h | h
          · rw [e2] at h; cases h
          · exact h
        rcases e3 with rfl | e3
        · exact hon
        · exact hdown e.on j hon e3
      rw [hst] at hrun
      have hbits : ∀ j, j ∈ s → ((masks all.toList []).getD i 0).testBit j = false := fun j hj => by
        cases h : ((masks all.toList []).getD i 0).testBit j
        · rfl
        · exfalso
          have h1 := hbit j h
          have h2 : j ∈ remI all listed := by rw [hst]; simp [hj]
          obtain ⟨h3, h4⟩ := mem_rem.1 h2
          rw [toF h3 h4] at h1; cases h1
      obtain ⟨σ1, k1, k2⟩ := pull_front hE ho hO.small s t hrel hd hsort hrun (fun j hj q hq => by
        have hlt : j < i := p3 j hj i (by simp)
        rcases hO.pair i j q all[i] hlt hq ho with h | h
        · exfalso
          rw [hbits j hj] at h; cases h
        · exact h) hbits
      have hdown' : ∀ (k j : Nat), (listed.setIfInBounds i true).getD k false = true → ((masks all.toList []).getD k 0).testBit j = true → (listed.setIfInBounds i true).getD j false = true := by
        intro k j hk hb
        by_cases e : k = i
        · subst e; exact getD_set_true (hbit j hb)
        · rw [getD_set_ne false (Ne.symm e)] at hk
          exact getD_set_true (hdown k j hk hb)
      have hlen' : (remI all (listed.setIfInBounds i true)).length ≤ fuel := by
        rw [rem_set hsz hst]
        rw [hst] at hlen
        simp at hlen ⊢
        omega
      have hk := stepG_wp (ro := ro) hE (Q := Q) hrel k1 (hd i _ ho) (K := wpAnyIn (RF ro) 0 P .any all Q fuel (listed.setIfInBounds i true)) fun a' w' S' γ' h1 h2 =>
        wpAny_of_run hO fuel (listed.setIfInBounds i true) h1 (by simpa using hsz) hlen' hdown' (by rw [rem_set hsz hst]; exact k2) (fun i o ho => by rw [h2]; exact hd i o ho) fun a'' w'' S'' γ'' z1 z2 => hQ a'' w'' S'' γ'' z1 (z2.trans h2)
      unfold wpOpIn
      rw [ho]
      simp only
      split
      · rename_i hw; rw [if_pos hw] at hk; exact hk
      · rename_i hw; rw [if_neg hw] at hk; exact ⟨fun _ _ => trivial, hk⟩

include hE in
/-- a region -/
theorem region_wp (hmix : P.follows .mixedOrders = true) {id : Nat} {draw : Bool} {X : Cx} {w : World} {S : Nat → Prop} {γ : Nat → Loc} {σ : St} {a : Act} (hrel : Rel X w S γ σ a) {σ' : St} (hdr : draw = true → OpenOk E all σ') (hrun : runG E all all.toList σ = some σ')
    (hd : ∀ (i : Nat) (o : Oper), all[i]? = some o → dstLt a.tmps.size o.dst) (hQ : ∀ a' w' S' γ', Rel X w' S' γ' σ' a' → a'.tmps.size = a.tmps.size → Q .normal a' w') : (Code.region id all draw).wpIn (RF ro) 0 P Q a w := by
  have hr : runI E all (List.range all.size) σ = some σ' := by
    rw [runG_runI E all all.toList 0 σ (fun j => by simp)] at hrun
    rw [List.range_eq_range']
    simpa using hrun
  cases draw with
  | false => exact wpIn_region (runI_wp hE _ hrel hr hd hQ)
  | true =>
    have hO := hdr rfl
    have hrel' : Rel X { w with drawn := w.drawn + 1 } S γ σ a := by
      have hb : Below w.heap.size w { w with drawn := w.drawn + 1 } := ⟨rfl, rfl, rfl, Nat.le_refl _, fun _ _ => rfl⟩
      refine ⟨hrel.mem.grow hb, fun t => RepA.mono (w := w) (w' := { w with drawn := w.drawn + 1 }) (fun _ _ => rfl) (fun _ h => h) (Keeps.refl _ _) _ _ (hrel.tm t), hrel.below.trans (Below.bel hb hrel.size_le), hrel.base_le, hrel.s0, hrel.snew, MarksOk.mono (w := w) (w' := { w with drawn := w.drawn + 1 }) (S := S) (fun _ _ h => h) (fun _ _ h => h) hrel.defers, hrel.pin, hrel.pnhi, hrel.small⟩
    have hrem : remI all (Array.replicate all.size false) = List.range all.size := by
      unfold remI
      rw [List.filter_eq_self]
      intro i hi
      simp only [List.mem_range] at hi
      simp [hi]
    refine wpIn_region_any hmix (wpAny_of_run hE hO all.size (Array.replicate all.size false) hrel' (by simp) (by rw [hrem]; simp) (fun k j hk _ => ?_) (by rw [hrem]; exact hr) hd hQ)
    exfalso
    simp only [Array.getD_eq_getD_getElem?] at hk
    by_cases hk' : k < all.size
    · simp [hk'] at hk
    · simp [hk'] at hk

end reg

end Go.Dv
