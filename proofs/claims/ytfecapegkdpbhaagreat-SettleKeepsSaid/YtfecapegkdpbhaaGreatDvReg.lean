/- Regions: in the text's order, and in whatever order is open. -/
import Derived.Test.YtfecapegkdpbhaaGreatDvSwap
set_option linter.all false
namespace Go.Dv
open Go.RowKit

variable [LTab]

theorem look_op {all : Array Oper} {o : Oper} {t : Tmp} (h : t ∉ o.looksAt all) : (∀ x, x ∈ o.op.operands → x ≠ .tmp t) ∧ ∀ j want, o.guard = some (j, want) → (all[j]?).bind (·.dst) ≠ some t := by
  constructor
  · intro x hx e
    subst e
    apply h
    unfold Oper.looksAt
    simp only [List.mem_append]
    left
    exact List.mem_filterMap.2 ⟨.tmp t, by simpa using hx, rfl⟩
  · intro j want hg e
    apply h
    unfold Oper.looksAt
    simp only [List.mem_append, hg]
    right
    rw [e]; simp

theorem ev_upd {σ : St} {d : Nat} {v : AV} {m : Nat → Option MO} {x : Operand} (h : x ≠ .tmp d) : (⟨upd σ.ρ d v, m⟩ : St).ev x = σ.ev x := by
  cases x with
  | tmp t =>
    have : t ≠ d := fun e => h (by rw [e])
    exact upd_ne _ _ this
  | _ => rfl

/-- a state that the model can be in -/
def Good (σ : St) : Prop := ∃ X w S γ a, Rel X w S γ σ a

theorem mupdL_get (d : Nat) : ∀ (os : List MO) (m : Nat → Option MO) (k n : Nat), mupdL m d k os n = (match os[(n - nm d k) / 4096]? with | some o => if n = nm d (k + (n - nm d k) / 4096) then some o else m n | none => m n)
  | [], m, k, n => by simp [mupdL]
  | o :: os, m, k, n => by
    simp only [mupdL]
    rw [mupdL_get d os _ (k + 1) n]
    by_cases h0 : n = nm d k
    · subst h0
      have e1 : (nm d k - nm d (k + 1)) / 4096 = 0 := by unfold nm; omega
      have e2 : nm d k ≠ nm d (k + 1 + 0) := by unfold nm; omega
      rw [e1]
      simp only [Nat.sub_self, Nat.zero_div, Nat.add_zero, List.getElem?_cons_zero, if_true, mupd_same]
      cases os[0]? with
      | none => rfl
      | some q => simp only; rw [if_neg (by unfold nm; omega)]
    · rw [mupd_ne _ _ h0]
      by_cases h1 : ∃ i, n = nm d (k + 1 + i)
      · obtain ⟨i, hi⟩ := h1
        have e1 : (n - nm d (k + 1)) / 4096 = i := by rw [hi]; unfold nm; omega
        have e2 : (n - nm d k) / 4096 = i + 1 := by rw [hi]; unfold nm; omega
        rw [e1, e2]
        simp only [List.getElem?_cons_succ]
        have e3 : k + 1 + i = k + (i + 1) := by omega
        rw [e3]
      · have a1 : n ≠ nm d (k + 1 + (n - nm d (k + 1)) / 4096) := fun e => h1 ⟨_, e⟩
        have a2 : n ≠ nm d (k + (n - nm d k) / 4096) := by
          intro e
          by_cases hz : (n - nm d k) / 4096 = 0
          · rw [hz] at e; exact h0 e
          · exact h1 ⟨(n - nm d k) / 4096 - 1, by rw [e]; congr 1; rw [← e]; omega⟩
        simp only [a1, a2, if_false]
        generalize os[(n - nm d (k + 1)) / 4096]? = q1
        generalize (o :: os)[(n - nm d k) / 4096]? = q2
        cases q1 <;> cases q2 <;> rfl

theorem nm_ne {d d' k k' : Nat} (h : d < 4096) (h' : d' < 4096) (hne : d ≠ d') : nm d k ≠ nm d' k' := by unfold nm; omega

theorem mupdL_comm {m : Nat → Option MO} {d d' : Nat} {os os' : List MO} (h : d < 4096) (h' : d' < 4096) (hne : d ≠ d') : mupdL (mupdL m d 0 os) d' 0 os' = mupdL (mupdL m d' 0 os') d 0 os := by
  funext n
  rw [mupdL_get, mupdL_get, mupdL_get, mupdL_get]
  by_cases h1 : n = nm d (0 + (n - nm d 0) / 4096)
  · have h2 : ¬ n = nm d' (0 + (n - nm d' 0) / 4096) := fun e => nm_ne h h' hne (h1.symm.trans e)
    simp only [if_neg h2]
    generalize os[(n - nm d 0) / 4096]? = q1
    generalize os'[(n - nm d' 0) / 4096]? = q2
    cases q1 <;> cases q2 <;> rfl
  · simp only [if_neg h1]
    generalize os[(n - nm d 0) / 4096]? = q1
    generalize os'[(n - nm d' 0) / 4096]? = q2
    cases q1 <;> cases q2 <;> rfl

theorem ext_mupdL {m : Nat → Option MO} {d : Nat} : ∀ {os : List MO} {k : Nat}, freeL m d k os = true → Ext m (mupdL m d k os)
  | [], _, _ => fun _ _ => rfl
  | o :: os, k, h => by
    simp only [freeL, Bool.and_eq_true] at h
    have hfree : m (nm d k) = none := by
      have := h.1
      split at this
      · assumption
      · cases this
    have h2 : freeL (mupd m (nm d k) o) d (k + 1) os = true := freeL_congr d os m _ (k + 1) (fun i hi => mupd_ne _ _ (fun e => by have := nm_inj e; omega)) h.2
    intro n hn
    simp only [mupdL]
    have hne : n ≠ nm d k := fun e => hn (e ▸ hfree)
    rw [ext_mupdL h2 n (by rw [mupd_ne _ _ hne]; exact hn), mupd_ne _ _ hne]

theorem Ext.trans_free {m m' : Nat → Option MO} (h : Ext m m') {d : Nat} : ∀ {os : List MO} {k : Nat}, freeL m' d k os = true → freeL m d k os = true
  | [], _, _ => rfl
  | o :: os, k, hf => by
    simp only [freeL, Bool.and_eq_true] at hf ⊢
    refine ⟨?_, Ext.trans_free h hf.2⟩
    cases hq : m (nm d k) with
    | none => rfl
    | some q => have := h (nm d k) (by rw [hq]; simp); rw [this, hq] at hf; exact absurd hf.1 (by simp)

theorem free_other {m : Nat → Option MO} {d d' : Nat} {os : List MO} (h : d < 4096) (h' : d' < 4096) (hne : d ≠ d') : ∀ {os' : List MO} {k : Nat}, freeL m d' k os' = true → freeL (mupdL m d 0 os) d' k os' = true := by
  intro os' k hf
  exact freeL_congr d' os' m _ k (fun i _ => mupdL_other d os m 0 _ (fun i' _ => nm_ne h' h (Ne.symm hne))) hf

theorem resG_same {E : Env} {all : Array Oper} {o : Oper} {σ : St} (hg : Good σ) {d : Option Nat} {p : AV × List MO} {σ' : St} (hl : ∀ t, d = some t → t ∉ o.looksAt all) (he : extA σ d p = some σ') : resG E all o σ' = resG E all o σ := by
  obtain ⟨X, w, S, γ, a, hrel⟩ := hg
  cases d with
  | none =>
    obtain ⟨_, he⟩ := gd_some he
    cases he; rfl
  | some t =>
    obtain ⟨hf, he⟩ := gd_some he
    simp only [Bool.and_eq_true] at hf
    obtain ⟨_, hf⟩ := hf
    cases he
    obtain ⟨h1, h2⟩ := look_op (hl t rfl)
    have hp : plainA E o (⟨upd σ.ρ t p.1, mupdL σ.m t 0 p.2⟩ : St).ev (mupdL σ.m t 0 p.2) = plainA E o σ.ev σ.m := by
      rw [plainA_congr E o _ σ.ev _ (fun x hx => ev_upd (h1 x hx))]
      exact plainA_ext hrel.mem (ext_mupdL hf) E hrel.ev
    unfold resG
    cases hgd : o.guard with
    | none => exact hp
    | some g =>
      obtain ⟨j, want⟩ := g
      simp only
      cases ht : (all[j]?).bind (·.dst) with
      | none => rfl
      | some u =>
        have hne : u ≠ t := fun e => h2 j want hgd (by rw [ht, e])
        simp only [upd_ne _ _ hne, hp]

/-- what an append leaves of the objects -/
def Sub (m m' : Nat → Option MO) (d : Nat) : Prop := m d = none ∧ ∀ k, k ≠ d → m' k = m k ∨ ((∃ t xs, m k = some (.sl t xs .live)) ∧ ∃ t xs, m' k = some (.sl t xs .dead))

theorem appA_sub {E : Env} {m m' : Nat → Option MO} {d : Nat} {t u : TypeId} {a b v : AV} (h : appA E m d t u a b (fun v m => some (v, m)) = some (v, m')) : Sub m m' d ∧ v = .own d := by
  unfold appA at h
  split at h
  · cases h
  · split at h
    · cases h
    · rename_i ys _
      split at h
      · cases h
      · rename_i hd
        split at h
        · obtain ⟨_, h⟩ := gd_some h
          cases h
          exact ⟨⟨hd, fun k hk => .inl (mupd_ne _ _ hk)⟩, rfl⟩
        · rename_i n
          split at h
          · rename_i t' xs hn
            split at h
            · obtain ⟨_, h⟩ := gd_some h
              cases h
              refine ⟨⟨hd, fun k hk => ?_⟩, rfl⟩
              rw [mupd_ne _ _ hk]
              by_cases e : k = n
              · subst e
                exact .inr ⟨⟨_, _, hn⟩, _, _, mupd_same _ _ _⟩
              · exact .inl (mupd_ne _ _ e)
            · cases h
          · cases h
        · split at h
          · obtain ⟨_, h⟩ := gd_some h
            cases h
            exact ⟨⟨hd, fun k hk => .inl (mupd_ne _ _ hk)⟩, rfl⟩
          · cases h
        · cases h

theorem load_sub {E : Env} {w : World} {S : Nat → Prop} {γ : Nat → Loc} {m m' : Nat → Option MO} {d : Nat} (hs : Sub m m' d) {dst : Option Nat} {t : TypeId} {p : Operand} {ev : Operand → AV} {x : Value} (hp : RepA w S γ m (ev p) x)
    {q : AV × List MO} (h : coreA E dst (.load t p) ev m' (fun v ob => some (v, ob.toList)) = some q) : coreA E dst (.load t p) ev m (fun v ob => some (v, ob.toList)) = some q ∧ q.2 = [] := by
  have live : ∀ {k : Nat} {o : MO}, m k ≠ none → m' k = some o → (∀ t xs, o ≠ .sl t xs .dead) → m k = some o := by
    intro k o hk ho hne
    have : k ≠ d := fun e => hk (by rw [e]; exact hs.1)
    rcases hs.2 k this with h | ⟨_, t, xs, h⟩
    · rw [← h]; exact ho
    · rw [h] at ho; cases ho; exact absurd rfl (hne t xs)
  simp only [coreA] at h ⊢
  split at h
  · cases h
  · rename_i ti hti
    split at h
    · rename_i n off hv
      rw [hv] at hp
      obtain ⟨cs0, s0, b, k1, _⟩ := hp
      have hk : m n ≠ none := by rw [k1]; simp
      split at h
      · rename_i cs hn
        rw [live hk hn (fun _ _ => by simp)]
        simp only
        split at h
        · cases h; exact ⟨rfl, rfl⟩
        · cases h
      · rename_i cs hn
        rw [live hk hn (fun _ _ => by simp)]
        simp only
        split at h
        · cases h; exact ⟨rfl, rfl⟩
        · cases h
      · cases h
    · rename_i cs off hv
      split at h
      · cases h; exact ⟨rfl, rfl⟩
      · cases h
    · rename_i t' x' off hv
      split at h
      · cases h; exact ⟨rfl, rfl⟩
      · cases h
    · rename_i n i off hv
      rw [hv] at hp
      obtain ⟨t0, xs0, s0, b, k1, _⟩ := hp
      have hk : m n ≠ none := by rw [k1]; simp
      split at h
      · rename_i t' xs hn
        rw [live hk hn (fun _ _ => by simp)]
        simp only
        split at h
        · cases h; exact ⟨rfl, rfl⟩
        · cases h
      · rename_i t' xs hn
        rw [live hk hn (fun _ _ => by simp)]
        simp only
        split at h
        · cases h; exact ⟨rfl, rfl⟩
        · cases h
      · cases h
    · cases h

theorem asList_sub {w : World} {S : Nat → Prop} {γ : Nat → Loc} {m m' : Nat → Option MO} {d : Nat} (hs : Sub m m' d) {t : Ty} {v : AV} {x : Value} {xs : List t.T} (hv : RepA w S γ m v x) (h : asList m' t v = some xs) : asList m t v = some xs := by
  cases v with
  | own n =>
    obtain ⟨t0, xs0, s0, k1, _⟩ := hv
    have hk : n ≠ d := fun e => by rw [e, hs.1] at k1; cases k1
    rcases hs.2 n hk with h' | ⟨_, t', xs', h'⟩
    · simp only [asList] at h ⊢
      rw [h'] at h; exact h
    · simp only [asList] at h
      rw [h'] at h; cases h
  | _ => exact h

theorem slice_none {E : Env} {dst : Option Nat} {T : TypeId} {y : Operand} {lo hi mx : Option Operand} {ev : Operand → AV} {m : Nat → Option MO} {q : AV × List MO} (h : coreA E dst (.slice T y lo hi mx) ev m (fun v ob => some (v, ob.toList)) = some q) : q.2 = [] := by
  simp only [coreA] at h
  (repeat' split at h) <;> first | (cases h; done) | (obtain ⟨_, h⟩ := gd_some h; cases h; rfl)

theorem slice_sub {E : Env} {w : World} {S : Nat → Prop} {γ : Nat → Loc} {m m' : Nat → Option MO} {d : Nat} (hs : Sub m m' d) {dst : Option Nat} {T : TypeId} {y : Operand} {lo hi mx : Option Operand} {ev : Operand → AV} {x : Value} (hp : RepA w S γ m (ev y) x)
    {q : AV × List MO} (h : coreA E dst (.slice T y lo hi mx) ev m' (fun v ob => some (v, ob.toList)) = some q) : coreA E dst (.slice T y lo hi mx) ev m (fun v ob => some (v, ob.toList)) = some q ∧ q.2 = [] := by
  refine ⟨?_, slice_none h⟩
  simp only [coreA] at h ⊢
  cases hT : E.ty T with
  | none => rw [hT] at h; cases h
  | some ti =>
    rw [hT] at h
    simp only at h ⊢
    cases hd : ti.d with
    | str =>
      rw [hd] at h
      cases hv : ev y <;> rw [hv] at h <;> first | (exact h; done) | cases h
    | slice e' =>
      rw [hd] at h
      simp only at h ⊢
      cases he : elemTy E T with
      | none => rw [he] at h; cases h
      | some p =>
        obtain ⟨e, ei, ty⟩ := p
        rw [he] at h
        simp only at h ⊢
        cases ha : asList m' ty (ev y) with
        | none => rw [ha] at h; cases h
        | some xs =>
          rw [ha] at h
          rw [asList_sub hs hp ha]
          exact h
    | _ => rw [hd] at h; cases h

/-- an operation that reads alone, behind an append -/
theorem look_sub {E : Env} {w : World} {S : Nat → Prop} {γ : Nat → Loc} {m m' : Nat → Option MO} {d : Nat} (hs : Sub m m' d) {o : Oper} {ev : Operand → AV} {el : Operand → Value} (hp : ∀ x, RepA w S γ m (ev x) (el x)) (ho : plainLoad E o = true)
    {q : AV × List MO} (h : plainA E o ev m' = some q) : plainA E o ev m = some q ∧ q.2 = [] := by
  unfold plainLoad at ho
  unfold plainA at h ⊢
  cases hop : o.op with
  | load t p =>
    rw [hop] at h
    exact load_sub hs (hp p) h
  | move x =>
    rw [hop] at h
    simp only [coreA] at h ⊢
    cases h; exact ⟨rfl, rfl⟩
  | slice T y lo hi mx =>
    rw [hop] at h
    exact slice_sub hs (hp y) h
  | _ => rw [hop] at ho; cases ho

theorem load_plain {E : Env} {o : Oper} (ho : plainLoad E o = true) : o.guard = none ∧ o.dst.isSome = true ∧ plainOp E o = true := by
  unfold plainLoad at ho
  split at ho <;> first | (simp only [Bool.and_eq_true, Option.isNone_iff_eq_none] at ho; exact ⟨ho.1, ho.2.1, ho.2.2⟩) | cases ho

theorem upd_comm {ρ : Nat → AV} {d d' : Nat} {v v' : AV} (h : d ≠ d') : upd (upd ρ d v) d' v' = upd (upd ρ d' v') d v := by
  funext n
  simp only [upd]
  cases h1 : Nat.beq n d <;> cases h2 : Nat.beq n d' <;> simp only [cond_true, cond_false]
  exact absurd ((Nat.eq_of_beq_eq_true h1).symm.trans (Nat.eq_of_beq_eq_true h2)) h

/-- an append, and a look at memory behind it -/
theorem swapApp {E : Env} {all : Array Oper} {x y : Oper} {σ σ1 σ2 : St} (hg : Good σ) (ha : x.apart all y = true) (hx : plainApp E x = true) (hy : plainLoad E y = true) (h1 : stepG E all x σ = some σ1) (h2 : stepG E all y σ1 = some σ2) :
    ∃ σ1', stepG E all y σ = some σ1' ∧ stepG E all x σ1' = some σ2 := by
  obtain ⟨X, w, S, γ, a, hrel⟩ := hg
  obtain ⟨a1, a2, a3⟩ := Oper.apart_spec ha
  unfold plainApp at hx
  split at hx
  · rename_i args ts hox
    simp only [Bool.and_eq_true, Option.isNone_iff_eq_none, Bool.not_eq_true', List.isEmpty_iff] at hx
    obtain ⟨gx, dx, px, sx⟩ := hx
    obtain ⟨gy, dy, py⟩ := load_plain hy
    · skip
      obtain ⟨d, hdx⟩ := Option.isSome_iff_exists.1 dx
      obtain ⟨d', hdy⟩ := Option.isSome_iff_exists.1 dy
      have hne : d ≠ d' := fun e => a2 d hdx (by rw [hdy, e])
      have stepX : ∀ σ : St, stepG E all x σ = (match args.toList, ts.toList with
          | [a, b], [t, u] => (appA E σ.m d t u (σ.ev a) (σ.ev b) fun v m => some (v, m)).bind fun q => some ⟨upd σ.ρ d q.1, q.2⟩
          | _, _ => none) := by
        intro σ
        unfold stepG
        rw [gx]
        simp only
        unfold opA
        rw [sx]
        simp only [stillL]
        unfold opB
        rw [px, hox, hdx]
        simp only [cond_false]
        rcases args.toList with _ | ⟨a, _ | ⟨b, _ | ⟨c, l⟩⟩⟩ <;> rcases ts.toList with _ | ⟨t, _ | ⟨u, _ | ⟨v, l'⟩⟩⟩ <;> first | rfl | exact appA_nat ..
      have stepY : ∀ σ : St, stepG E all y σ = (plainA E y σ.ev σ.m).bind (extA σ y.dst) := by
        intro σ
        unfold stepG
        rw [gy]
        simp only
        rw [opA_plain E y σ py]
      rw [stepX] at h1
      split at h1
      · rename_i a0 b0 t0 u0 hargs hts
        obtain ⟨q, hq, h1⟩ := Option.bind_eq_some_iff.1 h1
        cases h1
        obtain ⟨hsub, hq1⟩ := appA_sub hq
        rw [stepY] at h2
        obtain ⟨r, hr, h2⟩ := Option.bind_eq_some_iff.1 h2
        have hpl : ∀ z, z ∈ y.op.operands → z ≠ .tmp d := (look_op (a1 d hdx)).1
        rw [plainA_congr E y _ σ.ev _ (fun z hz => ev_upd (hpl z hz))] at hr
        obtain ⟨hr', hr2⟩ := look_sub hsub hrel.ev hy hr
        obtain ⟨v, ob⟩ := r
        simp only at hr2
        subst hr2
        rw [hdy] at h2
        simp only [extA, few0, freeL, Bool.and_self, gd, cond_true, mupdL, Option.some.injEq] at h2
        subst h2
        refine ⟨⟨upd σ.ρ d' v, σ.m⟩, ?_, ?_⟩
        · rw [stepY, hr', hdy]
          simp only [Option.bind_some, extA, few0, freeL, Bool.and_self, gd, cond_true, mupdL]
        · rw [stepX]
          have hxl : ∀ z, z ∈ x.op.operands → z ≠ .tmp d' := (look_op (a3 d' hdy)).1
          have e1 : (⟨upd σ.ρ d' v, σ.m⟩ : St).ev a0 = σ.ev a0 := ev_upd (hxl a0 (by rw [hox]; have : a0 ∈ args := Array.mem_def.2 (by rw [hargs]; simp); simpa [Op.operands, Call.operands] using this))
          have e2 : (⟨upd σ.ρ d' v, σ.m⟩ : St).ev b0 = σ.ev b0 := ev_upd (hxl b0 (by rw [hox]; have : b0 ∈ args := Array.mem_def.2 (by rw [hargs]; simp); simpa [Op.operands, Call.operands] using this))
          simp only [hargs, hts, e1, e2, hq, Option.bind_some]
          rw [upd_comm hne]
      · cases h1
  · cases hx

/-- two operations change places -/
theorem swap {E : Env} {all : Array Oper} {x y : Oper} {σ σ1 σ2 : St} (hg : Good σ) (ha : apartOps E all x y = true) (sx : dstSmall x = true) (sy : dstSmall y = true) (h1 : stepG E all x σ = some σ1) (h2 : stepG E all y σ1 = some σ2) :
    ∃ σ1', stepG E all y σ = some σ1' ∧ stepG E all x σ1' = some σ2 := by
  simp only [apartOps, Bool.and_eq_true, Bool.or_eq_true] at ha
  obtain ⟨ha, hpl⟩ := ha
  rcases hpl with ⟨px, py⟩ | ⟨px, py⟩
  case inr => exact swapApp hg ha px py h1 h2
  obtain ⟨a1, a2, a3⟩ := Oper.apart_spec ha
  rw [stepG_plain E all x σ px] at h1
  rw [stepG_plain E all y σ1 py] at h2
  cases hx : resG E all x σ with
  | none => rw [hx] at h1; cases h1
  | some p =>
    rw [hx] at h1
    simp only [Option.bind_some] at h1
    rw [resG_same hg a1 h1] at h2
    cases hy : resG E all y σ with
    | none => rw [hy] at h2; cases h2
    | some q =>
      rw [hy] at h2
      simp only [Option.bind_some] at h2
      cases hdx : x.dst with
      | none =>
        rw [hdx] at h1
        obtain ⟨hpe, h1⟩ := gd_some h1
        cases h1
        refine ⟨σ2, by rw [stepG_plain E all y σ py, hy]; exact h2, ?_⟩
        rw [stepG_plain E all x σ2 px, resG_same hg a3 h2, hx, hdx]
        simp [extA, gd, hpe]
      | some d =>
        rw [hdx] at h1
        obtain ⟨hf1, h1⟩ := gd_some h1
        simp only [Bool.and_eq_true] at hf1
        obtain ⟨hl1, hf1⟩ := hf1
        cases h1
        cases hdy : y.dst with
        | none =>
          rw [hdy] at h2
          obtain ⟨hqe, h2⟩ := gd_some h2
          cases h2
          have he : extA σ y.dst q = some σ := by rw [hdy]; simp [extA, gd, hqe]
          refine ⟨σ, by rw [stepG_plain E all y σ py, hy]; exact he, ?_⟩
          rw [stepG_plain E all x σ px, hx, hdx]
          simp [extA, gd, hf1, hl1]
        | some d' =>
          rw [hdy] at h2
          obtain ⟨hf2, h2⟩ := gd_some h2
          simp only [Bool.and_eq_true] at hf2
          obtain ⟨hl2, hf2⟩ := hf2
          cases h2
          have hne : d ≠ d' := fun e => a2 d hdx (by rw [hdy, e])
          have hd : d < 4096 := by rw [dstSmall, hdx] at sx; simpa using sx
          have hd' : d' < 4096 := by rw [dstSmall, hdy] at sy; simpa using sy
          have hf2' : freeL σ.m d' 0 q.2 = true := Ext.trans_free (ext_mupdL hf1) hf2
          have he : extA σ y.dst q = some ⟨upd σ.ρ d' q.1, mupdL σ.m d' 0 q.2⟩ := by rw [hdy]; simp [extA, gd, hf2', hl2]
          refine ⟨_, by rw [stepG_plain E all y σ py, hy]; exact he, ?_⟩
          rw [stepG_plain E all x _ px, resG_same hg a3 he, hx, hdx]
          simp only [Option.bind_some, extA]
          rw [free_other hd' hd (Ne.symm hne) hf1, hl1]
          simp only [Bool.and_self, gd, cond_true, Option.some.injEq, St.mk.injEq]
          refine ⟨?_, mupdL_comm hd' hd (Ne.symm hne)⟩
          funext n
          simp only [upd]
          cases h1 : Nat.beq n d <;> cases h2 : Nat.beq n d' <;> simp only [cond_true, cond_false]
          exact absurd ((Nat.eq_of_beq_eq_true h1).symm.trans (Nat.eq_of_beq_eq_true h2)) hne

theorem wp_exists {P : Program} {o : Oper} {a : Act} {w : World} {K : Act → World → Prop} (h : o.wpIn (RF none) 0 P a w K fun _ _ _ => False) : ∃ a' w', K a' w' := by
  unfold Oper.wpIn at h
  have h := h.2
  generalize (o.semAt (RF none).round a.eval).run P w = r at h
  cases r with
  | ok n w' =>
    cases n <;> simp only [Oper.uponIn] at h
    case value v => exact ⟨_, _, h⟩
    case skip => exact ⟨_, _, h⟩
    case defer d => exact ⟨_, _, h⟩
    case enter f args =>
      obtain ⟨e, w'', fr, hR, _⟩ := h.2.2 [] (fun _ h => by cases h)
      cases e with
      | returned v => exact ⟨_, _, hR⟩
      | panicked c => exact hR.elim
      | outgrown => obtain ⟨_, _, hf⟩ := hR; exact hf.elim
    case row row args =>
      obtain ⟨v, w'', hR, _⟩ := h.2 default [] (fun _ h => by cases h)
      exact ⟨_, _, hR⟩
    case round l f tmps c1 c2 =>
      obtain ⟨e, w'', hR, _⟩ := h.2.2 default [] (fun _ h => by cases h)
      cases e with
      | returned v => exact ⟨_, _, hR⟩
      | panicked c => exact hR.elim
      | outgrown => obtain ⟨_, _, hf⟩ := hR; exact hf.elim
  | halt x w' => cases x <;> simp only [Oper.uponIn] at h

section reg
variable {ro : Option Nat} {P : Program} {E : Env} (hE : EnvOk P E) {all : Array Oper} {Q : Exit → Act → World → Prop}

theorem wanted_eq {X : Cx} {w : World} {S : Nat → Prop} {γ : Nat → Loc} {σ : St} {a : Act} (hrel : Rel X w S γ σ a) {o : Oper} {j : Nat} {want : Bool} {t : Tmp} (hg : o.guard = some (j, want)) (ht : (all[j]?).bind (·.dst) = some t) {b : Bool} (hb : σ.ρ t = .bool b) :
    Region.wanted o (yielded all a.tmps) = (b == want) := by
  have h := hrel.tm t
  rw [hb] at h
  simp only [RepA] at h
  have hq : a.tmps[t]? = some (.bool b) := by
    rw [Array.getD_eq_getD_getElem?] at h
    cases hq : a.tmps[t]? with
    | none => rw [hq] at h; simp [undef] at h
    | some v => rw [hq] at h; simp at h; rw [h]
  simp only [Region.wanted, hg, yielded, ht, Option.bind_some, hq]
  cases b <;> cases want <;> rfl

theorem wanted_hole {X : Cx} {w : World} {S : Nat → Prop} {γ : Nat → Loc} {σ : St} {a : Act} (hrel : Rel X w S γ σ a) {o : Oper} {j : Nat} {want : Bool} {t : Tmp} (hg : o.guard = some (j, want)) (ht : (all[j]?).bind (·.dst) = some t) (hb : σ.ρ t = .tup []) :
    Region.wanted o (yielded all a.tmps) = false := by
  have h := hrel.tm t
  rw [hb] at h
  obtain ⟨vs, h1, h2⟩ := h
  rw [show vs = [] from h2] at h1
  rw [Array.getD_eq_getD_getElem?] at h1
  simp only [Region.wanted, hg, yielded, ht, Option.bind_some]
  cases hq : a.tmps[t]? with
  | none => rfl
  | some v => rw [hq] at h1; simp at h1; rw [h1]; rfl

include hE in
theorem stepG_wp {X : Cx} {w : World} {S : Nat → Prop} {γ : Nat → Loc} {σ : St} {a : Act} (hrel : Rel X w S γ σ a) {o : Oper} {σ' : St} (h : stepG E all o σ = some σ') (hd : dstLt a.tmps.size o.dst) {K : Act → World → Prop}
    (hK : ∀ a' w' S' γ', Rel X w' S' γ' σ' a' → a'.tmps.size = a.tmps.size → K a' w') :
    if Region.wanted o (yielded all a.tmps) then o.wpIn (RF ro) 0 P a w K Q else K (a.put o.dst undef) w := by
  unfold stepG at h
  split at h
  · rename_i hg
    rw [show Region.wanted o (yielded all a.tmps) = true by simp [Region.wanted, hg], if_pos rfl]
    exact op_wp hE hrel h hd hK
  · rename_i j want hg
    split at h
    · cases h
    · rename_i t ht
      split at h
      · rename_i b hb
        rw [wanted_eq hrel hg ht hb]
        by_cases hbw : b = want
        · rw [if_pos hbw] at h
          subst hbw
          rw [if_pos (by simp)]
          exact op_wp hE hrel h hd hK
        · rw [if_neg hbw] at h
          rw [if_neg (by simpa using hbw)]
          cases h
          exact hK _ _ S γ (hrel.val (v := .tup []) (x := undef) (Below.refl _ _) ⟨[], rfl, rfl⟩ hd) (put_size _ _ _)
      · rename_i hb
        rw [wanted_hole hrel hg ht hb, if_neg (by simp)]
        cases h
        exact hK _ _ S γ (hrel.val (v := .tup []) (x := undef) (Below.refl _ _) ⟨[], rfl, rfl⟩ hd) (put_size _ _ _)
      · cases h

include hE in
theorem good_step {X : Cx} {w : World} {S : Nat → Prop} {γ : Nat → Loc} {σ : St} {a : Act} (hrel : Rel X w S γ σ a) {o : Oper} {σ' : St} (h : stepG E all o σ = some σ') (hd : dstLt a.tmps.size o.dst) :
    ∃ w' S' γ' a', Rel X w' S' γ' σ' a' ∧ a'.tmps.size = a.tmps.size := by
  have hk := stepG_wp (ro := none) hE (Q := fun _ _ _ => False) hrel h hd (K := fun a' w' => ∃ S' γ', Rel X w' S' γ' σ' a' ∧ a'.tmps.size = a.tmps.size) fun a' w' S' γ' h1 h2 => ⟨S', γ', h1, h2⟩
  split at hk
  · obtain ⟨a', w', S', γ', h1, h2⟩ := wp_exists hk
    exact ⟨w', S', γ', a', h1, h2⟩
  · obtain ⟨S', γ', h1, h2⟩ := hk
    exact ⟨w, S', γ', _, h1, h2⟩

/-- a run of operations by their numbers -/
def runI (E : Env) (all : Array Oper) : List Nat → St → Option St
  | [], σ => some σ
  | i :: l, σ => match all[i]? with
    | none => runI E all l σ
    | some o => (stepG E all o σ).bind (runI E all l)

theorem runG_runI (E : Env) (all : Array Oper) : ∀ (l : List Oper) (k : Nat) (σ : St), (∀ j, l[j]? = all[k + j]?) → runG E all l σ = runI E all ((List.range' k l.length)) σ
  | [], _, _, _ => rfl
  | o :: l, k, σ, h => by
    have h0 : all[k]? = some o := (h 0).symm
    simp only [runG, List.length_cons, List.range'_succ, runI, h0]
    congr 1
    funext σ'
    exact runG_runI E all l (k + 1) σ' fun j => by have := h (j + 1); rw [List.getElem?_cons_succ] at this; rw [this]; congr 1; omega

include hE in
theorem runI_wp : ∀ (l : List Nat) {X : Cx} {w : World} {S : Nat → Prop} {γ : Nat → Loc} {σ : St} {a : Act} (_ : Rel X w S γ σ a) {σ' : St} (_ : runI E all l σ = some σ') (_ : ∀ (i : Nat) (o : Oper), all[i]? = some o → dstLt a.tmps.size o.dst)
    (_ : ∀ a' w' S' γ', Rel X w' S' γ' σ' a' → a'.tmps.size = a.tmps.size → Q .normal a' w'), wpOpsIn (RF ro) 0 P all Q l a w
  | [], _, _, S, γ, _, a, hrel, σ', h, _, hQ => by
    simp only [runI, Option.some.injEq] at h
    subst h
    exact hQ _ _ S γ hrel rfl
  | i :: l, _, _, _, _, σ, a, hrel, σ', h, hd, hQ => by
    rw [wpOpsIn_cons]
    unfold wpOpIn
    simp only [runI] at h
    cases ho : all[i]? with
    | none =>
      rw [ho] at h
      exact runI_wp l hrel h hd hQ
    | some o =>
      rw [ho] at h
      simp only at h
      simp only
      cases hs : stepG E all o σ with
      | none => rw [hs] at h; cases h
      | some σ1 =>
        rw [hs] at h
        have hk := stepG_wp (ro := ro) hE (Q := Q) hrel hs (hd i o ho) (K := wpOpsIn (RF ro) 0 P all Q l) fun a' w' S' γ' h1 h2 =>
          runI_wp l h1 h (fun i o ho => by rw [h2]; exact hd i o ho) fun a'' w'' S'' γ'' k1 k2 => hQ a'' w'' S'' γ'' k1 (k2.trans h2)
        split
        · rename_i hw; rw [if_pos hw] at hk; exact hk
        · rename_i hw; rw [if_neg hw] at hk; exact ⟨fun _ _ => trivial, hk⟩

/-! ## whatever order is open -/
theorem maskOf_bit {acc : List Nat} {o : Oper} {j : Nat} (h : (maskOf acc o).testBit j = true) : ∃ e, e ∈ o.after.toList ∧ Region.binds .any e = true ∧ (j = e.on ∨ (acc.getD e.on 0).testBit j = true) := by
  unfold maskOf at h
  have gen : ∀ (l : List Edge) (s : Nat), (l.foldl (fun s e => bif Region.binds .any e then s ||| (2 ^ e.on ||| acc.getD e.on 0) else s) s).testBit j = true → s.testBit j = true ∨ ∃ e, e ∈ l ∧ Region.binds .any e = true ∧ (j = e.on ∨ (acc.getD e.on 0).testBit j = true) := by
    intro l
    induction l with
    | nil => intro s h; exact .inl h
    | cons e l ih =>
      intro s h
      simp only [List.foldl_cons] at h
      rcases ih _ h with h | ⟨e', h1, h2⟩
      · cases hb : Region.binds .any e with
        | false => rw [hb] at h; exact .inl h
        | true =>
          rw [hb] at h
          simp only [cond_true, Nat.testBit_or, Bool.or_eq_true] at h
          rcases h with h | h | h
          · exact .inl h
          · rw [Nat.testBit_two_pow] at h
            exact .inr ⟨e, by simp, hb, .inl (of_decide_eq_true h).symm⟩
          · exact .inr ⟨e, by simp, hb, .inr h⟩
      · exact .inr ⟨e', by simp [h1], h2⟩
  rcases gen _ 0 h with h | h
  · simp at h
  · exact h

theorem masks_prefix : ∀ (os : List Oper) (acc : List Nat) (i : Nat), i < acc.length → (masks os acc).getD i 0 = acc.getD i 0
  | [], _, _, _ => rfl
  | o :: os, acc, i, h => by
    simp only [masks]
    rw [masks_prefix os _ i (by simp; omega)]
    simp [List.getD_eq_getElem?_getD, List.getElem?_append_left h]

theorem masks_bit : ∀ (os : List Oper) (acc : List Nat) (i j : Nat) (o : Oper), os[i]? = some o → ((masks os acc).getD (acc.length + i) 0).testBit j = true →
    ∃ e, e ∈ o.after.toList ∧ Region.binds .any e = true ∧ (j = e.on ∨ ((masks os acc).getD e.on 0).testBit j = true)
  | [], _, _, _, _, h, _ => by simp at h
  | o' :: os, acc, 0, j, o, h, hb => by
    simp only [List.getElem?_cons_zero, Option.some.injEq] at h
    subst h
    simp only [masks, Nat.add_zero] at hb ⊢
    rw [masks_prefix os _ _ (by simp)] at hb
    simp only [List.getD_eq_getElem?_getD, List.getElem?_concat_length, Option.getD_some] at hb
    obtain ⟨e, h1, h2, h3⟩ := maskOf_bit hb
    refine ⟨e, h1, h2, h3.imp id fun h => ?_⟩
    have hlt : e.on < acc.length := by
      rcases Nat.lt_or_ge e.on acc.length with h' | h'
      · exact h'
      · simp [List.getD_eq_getElem?_getD, List.getElem?_eq_none h'] at h
    rw [masks_prefix os _ _ (by simp; omega)]
    simpa [List.getD_eq_getElem?_getD, List.getElem?_append_left hlt] using h
  | o' :: os, acc, i + 1, j, o, h, hb => by
    simp only [List.getElem?_cons_succ] at h
    simp only [masks] at hb ⊢
    refine masks_bit os (acc ++ [maskOf acc o']) i j o h ?_
    have : (acc ++ [maskOf acc o']).length + i = acc.length + (i + 1) := by simp; omega
    rw [this]; exact hb

include hE in
/-- an operation is taken first -/
theorem pull_front {i : Nat} {o : Oper} (ho : all[i]? = some o) (hs : ∀ (k : Nat) (q : Oper), all[k]? = some q → dstSmall q = true) : ∀ (L1 L2 : List Nat) {X : Cx} {w : World} {S : Nat → Prop} {γ : Nat → Loc} {σ : St} {a : Act} (_ : Rel X w S γ σ a) (_ : ∀ (i : Nat) (o : Oper), all[i]? = some o → dstLt a.tmps.size o.dst) {σ' : St}
    (_ : runI E all (L1 ++ i :: L2) σ = some σ') (_ : ∀ j, j ∈ L1 → ∀ q, all[j]? = some q → apartOps E all q o = true), ∃ σ1, stepG E all o σ = some σ1 ∧ runI E all (L1 ++ L2) σ1 = some σ'
  | [], L2, _, _, _, _, σ, a, _, _, σ', h, _ => by
    simp only [List.nil_append, runI, ho] at h ⊢
    cases hst : stepG E all o σ with
    | none => rw [hst] at h; cases h
    | some σ1 => rw [hst] at h; exact ⟨σ1, rfl, h⟩
  | j :: L1, L2, X, w, S, γ, σ, a, hrel, hd, σ', h, hap => by
    simp only [List.cons_append, runI] at h ⊢
    cases hj : all[j]? with
    | none =>
      rw [hj] at h
      simp only at h ⊢
      exact pull_front ho hs L1 L2 hrel hd h fun k hk => hap k (by simp [hk])
    | some q =>
      rw [hj] at h
      simp only at h ⊢
      cases hq : stepG E all q σ with
      | none => rw [hq] at h; cases h
      | some σ1 =>
        rw [hq] at h
        obtain ⟨w', S', γ', a', hrel', hsz⟩ := good_step hE hrel hq (hd j q hj)
        obtain ⟨σ2, k1, k2⟩ := pull_front ho hs L1 L2 hrel' (fun i o ho => by rw [hsz]; exact hd i o ho) h fun k hk => hap k (by simp [hk])
        obtain ⟨σ1', z1, z2⟩ := swap ⟨X, w, S, γ, a, hrel⟩ (hap j (by simp) q hj) (hs j q hj) (hs i o ho) hq k1
        exact ⟨σ1', z1, by rw [z2]; exact k2⟩

def remI (all : Array Oper) (listed : Array Bool) : List Nat := (List.range all.size).filter fun i => !listed.getD i true

structure OpenOk (E : Env) (all : Array Oper) : Prop where
  small : ∀ (k : Nat) (q : Oper), all[k]? = some q → dstSmall q = true
  edge : ∀ (i : Nat) (o : Oper), all[i]? = some o → ∀ e, e ∈ o.after.toList → Region.binds .any e = true → e.on < i
  pair : ∀ (i j : Nat) (x y : Oper), j < i → all[j]? = some x → all[i]? = some y → ((masks all.toList []).getD i 0).testBit j = true ∨ apartOps E all x y = true

theorem openOk_spec (h : openOk E all = true) : OpenOk E all := by
  unfold openOk at h
  simp only [Bool.and_eq_true, List.all_eq_true, List.mem_range, Bool.or_eq_true] at h
  obtain ⟨h1, h2⟩ := h
  refine ⟨fun k q hq => ?_, fun i o ho e he hb => ?_, fun i j x y hj hx hy => ?_⟩
  · rw [Array.all_eq_true] at h1
    obtain ⟨hk, e⟩ := Array.getElem?_eq_some_iff.1 hq
    rw [← e]; exact h1 k hk
  · obtain ⟨hi, _⟩ := Array.getElem?_eq_some_iff.1 ho
    have := (h2 i hi).1
    rw [ho] at this
    simp only [List.all_eq_true] at this
    have := this e he
    rw [hb] at this
    simpa using this
  · obtain ⟨hi, _⟩ := Array.getElem?_eq_some_iff.1 hy
    have := (h2 i hi).2 j hj
    rw [hx, hy] at this
    exact this

theorem rem_sorted (listed : Array Bool) : (remI all listed).Pairwise (· < ·) := List.Pairwise.filter _ List.pairwise_lt_range

theorem mem_rem {listed : Array Bool} {i : Nat} : i ∈ remI all listed ↔ i < all.size ∧ listed.getD i true = false := by simp [remI]

theorem rem_set {listed : Array Bool} {i : Nat} {s t : List Nat} (hsz : listed.size = all.size) (h : remI all listed = s ++ i :: t) : remI all (listed.setIfInBounds i true) = s ++ t := by
  have hsort := rem_sorted (all := all) listed
  rw [h] at hsort
  obtain ⟨p1, p2, p3⟩ := List.pairwise_append.1 hsort
  have hi : i < all.size := (mem_rem.1 (by rw [h]; simp : i ∈ remI all listed)).1
  have e : remI all (listed.setIfInBounds i true) = (remI all listed).filter fun k => k != i := by
    unfold remI
    rw [List.filter_filter]
    apply List.filter_congr
    intro k hk
    simp only [List.mem_range] at hk
    by_cases hki : k = i
    · subst hki
      simp [hsz, hk]
    · have : (listed.setIfInBounds i true).getD k true = listed.getD k true := by
        simp only [Array.getD_eq_getD_getElem?]
        rw [Array.getElem?_setIfInBounds_ne (Ne.symm hki)]
      rw [this]
      simp [hki]
  rw [e, h, List.filter_append, List.filter_cons]
  have h1 : s.filter (fun k => k != i) = s := List.filter_eq_self.2 fun k hk => by have := p3 k hk i (by simp); simp; omega
  have h2 : t.filter (fun k => k != i) = t := List.filter_eq_self.2 fun k hk => by have := (List.pairwise_cons.1 p2).1 k hk; simp; omega
  rw [h1, h2]
  simp

include hE in
theorem wpAny_of_run (hO : OpenOk E all) : ∀ (fuel : Nat) (listed : Array Bool) {X : Cx} {w : World} {S : Nat → Prop} {γ : Nat → Loc} {σ : St} {a : Act} (_ : Rel X w S γ σ a) (_ : listed.size = all.size) (_ : (remI all listed).length ≤ fuel)
    (_ : ∀ (k j : Nat), listed.getD k false = true → ((masks all.toList []).getD k 0).testBit j = true → listed.getD j false = true) {σ' : St} (_ : runI E all (remI all listed) σ = some σ') (_ : ∀ (i : Nat) (o : Oper), all[i]? = some o → dstLt a.tmps.size o.dst)
    (_ : ∀ a' w' S' γ', Rel X w' S' γ' σ' a' → a'.tmps.size = a.tmps.size → Q .normal a' w'), wpAnyIn (RF ro) 0 P .any all Q fuel listed a w
  | fuel, listed, X, w, S, γ, σ, a, hrel, hsz, hlen, hdown, σ', hrun, hd, hQ => by
    have done : remI all listed = [] → Q .normal a w := by
      intro h0
      rw [h0] at hrun
      simp only [runI, Option.some.injEq] at hrun
      subst hrun
      exact hQ a w S γ hrel rfl
    have toF : ∀ {i : Nat}, i < all.size → listed.getD i true = false → listed.getD i false = false := by
      intro i hi h
      have hi' : i < listed.size := by omega
      simp [hi'] at h ⊢
      exact h
    have ofF : ∀ {i : Nat}, i < all.size → listed.getD i false = false → listed.getD i true = false := by
      intro i hi h
      have hi' : i < listed.size := by omega
      simp [hi'] at h ⊢
      exact h
    have ready0 : Region.ready .any all listed = [] → remI all listed = [] := by
      intro hr
      cases hrem : remI all listed with
      | nil => rfl
      | cons i t =>
        exfalso
        have hi : i ∈ remI all listed := by rw [hrem]; simp
        obtain ⟨hi1, hi2⟩ := mem_rem.1 hi
        have : i ∈ Region.ready .any all listed := by
          unfold Region.ready
          simp only [List.mem_filter, List.mem_range, Bool.and_eq_true, Bool.not_eq_true']
          refine ⟨hi1, hi2, ?_⟩
          have ho : all[i]? = some all[i] := Array.getElem?_eq_getElem hi1
          rw [ho]
          simp only [Option.map_some, Option.getD_some]
          rw [← Array.all_toList]
          simp only [List.all_eq_true, Bool.or_eq_true, Bool.not_eq_true']
          intro e he
          cases hb : Region.binds .any e with
          | false => exact .inl rfl
          | true =>
            right
            have hlt := hO.edge i _ ho e he hb
            cases hq : listed.getD e.on false with
            | true => rfl
            | false =>
              exfalso
              have hm : e.on ∈ remI all listed := mem_rem.2 ⟨by omega, ofF (by omega) hq⟩
              have hsort := rem_sorted (all := all) listed
              rw [hrem] at hsort hm
              rcases List.mem_cons.1 hm with e1 | e1
              · omega
              · have := (List.pairwise_cons.1 hsort).1 _ e1; omega
        rw [hr] at this
        cases this
    cases fuel with
    | zero =>
      have h0 : remI all listed = [] := List.eq_nil_of_length_eq_zero (by omega)
      refine ⟨?_, done h0⟩
      cases hr : Region.ready .any all listed with
      | nil => rfl
      | cons i t =>
        exfalso
        have hi : i ∈ Region.ready .any all listed := by rw [hr]; simp
        unfold Region.ready at hi
        simp only [List.mem_filter, List.mem_range, Bool.and_eq_true, Bool.not_eq_true'] at hi
        have : i ∈ remI all listed := mem_rem.2 ⟨hi.1, hi.2.1⟩
        rw [h0] at this; cases this
    | succ fuel =>
      refine ⟨fun hr => done (ready0 hr), fun i hi => ?_⟩
      have hi' := hi
      unfold Region.ready at hi'
      simp only [List.mem_filter, List.mem_range, Bool.and_eq_true, Bool.not_eq_true'] at hi'
      obtain ⟨hi1, hi2, hi3⟩ := hi'
      have ho : all[i]? = some all[i] := Array.getElem?_eq_getElem hi1
      rw [ho] at hi3
      simp only [Option.map_some, Option.getD_some] at hi3
      rw [← Array.all_toList] at hi3
      simp only [List.all_eq_true, Bool.or_eq_true, Bool.not_eq_true'] at hi3
      have hmem : i ∈ remI all listed := mem_rem.2 ⟨hi1, hi2⟩
      obtain ⟨s, t, hst⟩ := List.append_of_mem hmem
      have hsort := rem_sorted (all := all) listed
      rw [hst] at hsort
      obtain ⟨_, _, p3⟩ := List.pairwise_append.1 hsort
      have hbit : ∀ j, ((masks all.toList []).getD i 0).testBit j = true → listed.getD j false = true := by
        intro j hj
        obtain ⟨e, e1, e2, e3⟩ := masks_bit all.toList [] i j all[i] (by simp [hi1]) (by simpa using hj)
        have hon : listed.getD e.on false = true := by
          rcases hi3 e e1 with h | h
          · rw [e2] at h; cases h
          · exact h
        rcases e3 with rfl | e3
        · exact hon
        · exact hdown e.on j hon e3
      rw [hst] at hrun
      obtain ⟨σ1, k1, k2⟩ := pull_front hE ho hO.small s t hrel hd hrun fun j hj q hq => by
        have hlt : j < i := p3 j hj i (by simp)
        rcases hO.pair i j q all[i] hlt hq ho with h | h
        · exfalso
          have h1 := hbit j h
          have h2 : j ∈ remI all listed := by rw [hst]; simp [hj]
          obtain ⟨h3, h4⟩ := mem_rem.1 h2
          rw [toF h3 h4] at h1; cases h1
        · exact h
      have hdown' : ∀ (k j : Nat), (listed.setIfInBounds i true).getD k false = true → ((masks all.toList []).getD k 0).testBit j = true → (listed.setIfInBounds i true).getD j false = true := by
        intro k j hk hb
        by_cases e : k = i
        · subst e; exact getD_set_true (hbit j hb)
        · rw [getD_set_ne false (Ne.symm e)] at hk
          exact getD_set_true (hdown k j hk hb)
      have hlen' : (remI all (listed.setIfInBounds i true)).length ≤ fuel := by
        rw [rem_set hsz hst]
        rw [hst] at hlen
        simp at hlen ⊢
        omega
      have hk := stepG_wp (ro := ro) hE (Q := Q) hrel k1 (hd i _ ho) (K := wpAnyIn (RF ro) 0 P .any all Q fuel (listed.setIfInBounds i true)) fun a' w' S' γ' h1 h2 =>
        wpAny_of_run hO fuel (listed.setIfInBounds i true) h1 (by simpa using hsz) hlen' hdown' (by rw [rem_set hsz hst]; exact k2) (fun i o ho => by rw [h2]; exact hd i o ho) fun a'' w'' S'' γ'' z1 z2 => hQ a'' w'' S'' γ'' z1 (z2.trans h2)
      unfold wpOpIn
      rw [ho]
      simp only
      split
      · rename_i hw; rw [if_pos hw] at hk; exact hk
      · rename_i hw; rw [if_neg hw] at hk; exact ⟨fun _ _ => trivial, hk⟩

include hE in
/-- a region -/
theorem region_wp (hmix : P.follows .mixedOrders = true) {id : Nat} {draw : Bool} {X : Cx} {w : World} {S : Nat → Prop} {γ : Nat → Loc} {σ : St} {a : Act} (hrel : Rel X w S γ σ a) (hdr : (!draw || openOk E all) = true) {σ' : St} (hrun : runG E all all.toList σ = some σ')
    (hd : ∀ (i : Nat) (o : Oper), all[i]? = some o → dstLt a.tmps.size o.dst) (hQ : ∀ a' w' S' γ', Rel X w' S' γ' σ' a' → a'.tmps.size = a.tmps.size → Q .normal a' w') : (Code.region id all draw).wpIn (RF ro) 0 P Q a w := by
  have hr : runI E all (List.range all.size) σ = some σ' := by
    rw [runG_runI E all all.toList 0 σ (fun j => by simp)] at hrun
    rw [List.range_eq_range']
    simpa using hrun
  cases draw with
  | false => exact wpIn_region (runI_wp hE _ hrel hr hd hQ)
  | true =>
    simp only [Bool.not_true, Bool.false_or] at hdr
    have hO := openOk_spec hdr
    have hrel' : Rel X { w with drawn := w.drawn + 1 } S γ σ a := by
      have hb : Below w.heap.size w { w with drawn := w.drawn + 1 } := ⟨rfl, rfl, rfl, Nat.le_refl _, fun _ _ => rfl⟩
      refine ⟨hrel.mem.grow hb, fun t => RepA.mono (w := w) (w' := { w with drawn := w.drawn + 1 }) (fun _ _ => rfl) (fun _ h => h) (Keeps.refl _ _) _ _ (hrel.tm t), hrel.below.trans (Below.bel hb hrel.size_le), hrel.base_le, hrel.s0, hrel.snew, MarksOk.mono (w := w) (w' := { w with drawn := w.drawn + 1 }) (S := S) (fun _ _ h => h) (fun _ _ h => h) hrel.defers, hrel.pin, hrel.pnhi, hrel.small⟩
    have hrem : remI all (Array.replicate all.size false) = List.range all.size := by
      unfold remI
      rw [List.filter_eq_self]
      intro i hi
      simp only [List.mem_range] at hi
      simp [hi]
    refine wpIn_region_any hmix (wpAny_of_run hE hO all.size (Array.replicate all.size false) hrel' (by simp) (by rw [hrem]; simp) (fun k j hk _ => ?_) (by rw [hrem]; exact hr) hd hQ)
    exfalso
    simp only [Array.getD_eq_getD_getElem?] at hk
    by_cases hk' : k < all.size
    · simp [hk'] at hk
    · simp [hk'] at hk

end reg

end Go.Dv
