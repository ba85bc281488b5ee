/- Calls of functions that are lent objects. -/
import Derived.Test.YtmffojmbfphidaaDoorDvSee
set_option linter.all false
namespace Go.Dv
open Go.RowKit

variable [LTab]

variable {R : Type}

theorem argsA_rep {w : World} {S : Nat → Prop} {γ : Nat → Loc} {m : Nat → Option MO} : ∀ {as : List AV} {vals rest : List Value} (k t : Nat), RepAs w S γ m as vals → RepA w S γ m (argsA k as t) ((List.replicate k undef ++ vals ++ rest).getD t undef)
  | [], _, _, _, _, _ => trivial
  | v :: vs, vals, rest, k, t, h => by
    obtain ⟨u, us, rfl, h1, h2⟩ := h
    simp only [argsA]
    cases hb : Nat.beq t k with
    | true =>
      have := Nat.eq_of_beq_eq_true hb
      subst this
      simp only [cond_true]
      have : (List.replicate t undef ++ u :: us ++ rest).getD t undef = u := by
        rw [List.append_assoc, List.getD_eq_getElem?_getD, List.getElem?_append_right (by simp)]
        simp
      rw [this]; exact h1
    | false =>
      simp only [cond_false]
      have ih := argsA_rep (rest := rest) (k + 1) t h2
      by_cases hlt : t < k
      · have hne : ∀ (vs : List AV) (j : Nat), t < j → argsA j vs t = .undef := by
          intro vs
          induction vs with
          | nil => intro j _; rfl
          | cons v vs ihv =>
            intro j hj
            simp only [argsA]
            rw [nbeq (by omega)]
            exact ihv (j + 1) (by omega)
        rw [hne vs (k + 1) (by omega)]
        trivial
      · have hk : k < t := by
          rcases Nat.lt_or_ge k t with h | h
          · exact h
          · have : t = k := by omega
            subst this
            rw [Nat.beq_refl] at hb; cases hb
        have key : ∀ L : List Value, (List.replicate k undef ++ u :: L).getD t undef = (List.replicate (k + 1) undef ++ L).getD t undef := by
          intro L
          rw [List.getD_eq_getElem?_getD, List.getD_eq_getElem?_getD, List.getElem?_append_right (by simp; omega), List.getElem?_append_right (by simp; omega)]
          simp only [List.length_replicate]
          have : t - k = (t - (k + 1)) + 1 := by omega
          rw [this, List.getElem?_cons_succ]
        have : (List.replicate k undef ++ u :: us ++ rest).getD t undef = (List.replicate (k + 1) undef ++ us ++ rest).getD t undef := by
          rw [List.append_assoc, List.append_assoc]; exact key (us ++ rest)
        rw [this]; exact ih


/-- what a call leaves behind, with the callee's names -/
structure BackOk (ex : Nat → Prop) (B : Nat → Prop) (w : World) (S : Nat → Prop) (γ : Nat → Loc) (m : Nat → Option MO) (w' : World) (S' : Nat → Prop) (γ' : Nat → Loc) (τ : St) (ns : List Nat) (x : Value) : Prop where
  bel : Bel (fun k => B k ∧ ¬ ex k) w w'
  s0 : ∀ b, S b → S' b
  snew : ∀ b, S' b → S b ∨ ¬ B b
  mem : MemRel w' S' γ' τ.m B
  res : RepA w' S' γ' τ.m (τ.ρ 0) x
  pin : ∀ n q q', m n = some q → τ.m n = some q' → γ' n = γ n ∧ q'.kind = q.kind
  dom : ∀ n, τ.m n ≠ none → n ∈ ns

/-- a contract of a function that is lent objects -/
def SoundM (P : Program) (f : FuncId) (c : CtrM) : Prop :=
  ∀ (w : World) (S : Nat → Prop) (γ : Nat → Loc) (B : Nat → Prop) (v : c.cin.T) (vals : List Value) {R : Type} (t : c.T) (K : St → List Nat → Option R) (r : R),
    MemRel w S γ (mofO c.cin.objs v.2) B → (∀ k, B k → k < w.heap.size) → RepAs w S γ (mofO c.cin.objs v.2) (mkL c.cin.sh v.1) vals → c.F v = some t → c.out t K = some r →
    (∀ w' (args : Array Value), (callFunc f args).run P w' = .ok (.enter f args) w') ∧
    Calls P f vals.toArray w fun e w' => ∃ x S' γ' τ ns, e = .returned x ∧ K τ ns = some r ∧ BackOk (fun _ => False) B w S γ (mofO c.cin.objs v.2) w' S' γ' τ ns x

/-! ## other names -/
mutual
theorem RepA.ren {w : World} {S : Nat → Prop} {γ γ' : Nat → Loc} {m m' : Nat → Option MO} {l : List (Nat × Nat)} (hk : ∀ n o, m n = some o → ∃ o', m' (asc n l) = some o' ∧ o'.kind = o.kind ∧ γ' (asc n l) = γ n) :
    ∀ (v : AV) (x : Value), RepA w S γ m v x → RepA w S γ' m' (renV l v) x
  | .undef, _, h => by simp only [renV]; trivial
  | .int _ _, _, h => by simp only [renV]; exact h
  | .bool _, _, h => by simp only [renV]; exact h
  | .str _, _, h => by simp only [renV]; exact h
  | .nils, _, h => by simp only [renV]; exact h
  | .nilp, _, h => by simp only [renV]; exact h
  | .nilf, _, h => by simp only [renV]; exact h
  | .nili, _, h => by simp only [renV]; exact h
  | .list _ _, _, h => by simp only [renV]; exact h
  | .clip _ _, _, h => by simp only [renV]; exact h
  | .fresh _ _, _, h => by simp only [renV]; exact h
  | .ro _ _ _, _, h => by simp only [renV]; exact h
  | .own n, _, h => by
    obtain ⟨t, xs, s, h1, h2⟩ := h
    obtain ⟨o', k1, k2, k3⟩ := hk n _ h1
    obtain ⟨t', xs', s', rfl, _, e⟩ := kind_sl k2
    simp only [renV]
    exact ⟨t', xs', s', k1, by rw [k3, e]; exact h2⟩
  | .ptr n off, _, h => by
    obtain ⟨cs, s, b, h1, h2, h3⟩ := h
    obtain ⟨o', k1, k2, k3⟩ := hk n _ h1
    obtain ⟨cs', s', rfl⟩ := kind_box k2
    simp only [renV]
    exact ⟨cs', s', b, k1, by rw [k3]; exact h2, h3⟩
  | .oel n i off, _, h => by
    obtain ⟨t, xs, s, b, h1, h2, h3, h4⟩ := h
    obtain ⟨o', k1, k2, k3⟩ := hk n _ h1
    obtain ⟨t', xs', s', rfl, e1, e2⟩ := kind_sl k2
    simp only [renV]
    exact ⟨t', xs', s', b, k1, by rw [k3]; exact h2, by rw [e2]; exact h3, by rw [e1]; exact h4⟩
  | .yld n, _, h => by
    obtain ⟨id, cs, e, l, h1, h2, h3⟩ := h
    obtain ⟨o', k1, k2, k3⟩ := hk n _ h1
    obtain ⟨cs', e', rfl⟩ := kind_rng k2
    simp only [renV]
    exact ⟨id, cs', e', l, k1, by rw [k3]; exact h2, h3⟩
  | .bx cs off, _, h => by
    obtain ⟨b, vs, h1, h2, h3, h4, h5⟩ := h
    obtain ⟨k1, k2⟩ := RepAs.ren hk cs vs h3
    simp only [renV]
    exact ⟨b, vs, h1, h2, k1, k2 h4, h5⟩
  | .clo f caps, _, h => by
    obtain ⟨vs, h1, h2⟩ := h
    simp only [renV]
    exact ⟨vs, h1, (RepAs.ren hk caps vs h2).1⟩
  | .iface t v, _, h => by
    obtain ⟨u, h1, h2⟩ := h
    simp only [renV]
    exact ⟨u, h1, RepA.ren hk v u h2⟩
  | .agg cs, _, h => by
    obtain ⟨vs, h1, h2, h3⟩ := h
    obtain ⟨k1, k2⟩ := RepAs.ren hk cs vs h2
    simp only [renV]
    exact ⟨vs, h1, k1, k2 h3⟩
  | .tup cs, _, h => by
    obtain ⟨vs, h1, h2⟩ := h
    simp only [renV]
    exact ⟨vs, h1, (RepAs.ren hk cs vs h2).1⟩
theorem RepAs.ren {w : World} {S : Nat → Prop} {γ γ' : Nat → Loc} {m m' : Nat → Option MO} {l : List (Nat × Nat)} (hk : ∀ n o, m n = some o → ∃ o', m' (asc n l) = some o' ∧ o'.kind = o.kind ∧ γ' (asc n l) = γ n) :
    ∀ (cs : List AV) (vs : List Value), RepAs w S γ m cs vs → RepAs w S γ' m' (renVs l cs) vs ∧ (allOne cs = true → allOne (renVs l cs) = true)
  | [], vs, h => by simp only [renVs]; exact ⟨h, fun h => h⟩
  | c :: cs, vs, h => by
    obtain ⟨u, us, h1, h2, h3⟩ := h
    obtain ⟨k1, k2⟩ := RepAs.ren hk cs us h3
    simp only [renVs]
    refine ⟨⟨u, us, h1, RepA.ren hk c u h2, k1⟩, fun h => ?_⟩
    simp only [allOne, List.all_cons, Bool.and_eq_true] at h ⊢
    refine ⟨?_, by simpa [allOne] using k2 (by simpa [allOne] using h.2)⟩
    have := h.1
    cases c <;> simp only [renV] <;> first | exact this | rfl
end

theorem renO_kind (l : List (Nat × Nat)) (q : MO) : (renO l q).kind = q.kind := by cases q <;> rfl
theorem renO_live (l : List (Nat × Nat)) (q : MO) : (renO l q).live = q.live := by
  cases q with
  | box cs s => cases s <;> rfl
  | sl t xs s => cases s <;> rfl
  | rng id cs e => cases e <;> rfl

theorem notIn_spec {n : Nat} : ∀ {l : List Nat}, notIn n l = true → n ∉ l
  | [], _ => by simp
  | k :: r, h => by
    simp only [notIn, Bool.and_eq_true, Bool.not_eq_true'] at h
    simp only [List.mem_cons, not_or]
    exact ⟨fun e => (by rw [e, Nat.beq_refl] at h; cases h.1), notIn_spec h.2⟩
theorem onceL_spec : ∀ {l : List Nat}, onceL l = true → l.Nodup
  | [], _ => List.nodup_nil
  | k :: r, h => by
    simp only [onceL, Bool.and_eq_true] at h
    exact List.nodup_cons.2 ⟨notIn_spec h.1, onceL_spec h.2⟩

theorem asc_mem {n n' : Nat} : ∀ {l : List (Nat × Nat)}, (l.map (·.1)).Nodup → (n, n') ∈ l → asc n l = n'
  | [], _, h => by cases h
  | (k, x) :: r, hn, h => by
    simp only [List.map_cons, List.nodup_cons] at hn
    simp only [asc]
    rcases List.mem_cons.1 h with e | h
    · cases e; rw [Nat.beq_refl]; rfl
    · have : n ≠ k := fun e => hn.1 (List.mem_map.2 ⟨(n, n'), h, e⟩)
      rw [nbeq this]; exact asc_mem hn.2 h

theorem lents_sub : ∀ {rl : List (Nat × Option Nat)} {le : List (Nat × Nat)}, lents rl = some le → ∀ n d, (n, d) ∈ le → n ∈ rl.map (·.1)
  | [], le, h, n, d, hm => by cases h; cases hm
  | (k, some d') :: r, le, h, n, d, hm => by
    simp only [lents] at h
    split at h
    · rename_i l hl
      cases h
      rcases List.mem_cons.1 hm with e | hm
      · cases e; simp
      · simp only [List.map_cons, List.mem_cons]; exact .inr (lents_sub hl n d hm)
    · cases h
  | (k, none) :: r, le, h, n, d, hm => by
    simp only [lents] at h
    simp only [List.map_cons, List.mem_cons]; exact .inr (lents_sub h n d hm)

theorem lents_spec : ∀ {rl : List (Nat × Option Nat)} {le : List (Nat × Nat)}, lents rl = some le → (rl.map (·.1)).Nodup → ∀ n d, (n, d) ∈ le → rlook n rl = some (some d)
  | [], le, h, _, n, d, hm => by cases h; cases hm
  | (k, some d') :: r, le, h, hn, n, d, hm => by
    simp only [lents] at h
    split at h
    · rename_i l hl
      cases h
      simp only [List.map_cons, List.nodup_cons] at hn
      simp only [rlook]
      rcases List.mem_cons.1 hm with e | hm
      · cases e; rw [Nat.beq_refl]; rfl
      · have : n ≠ k := fun e => hn.1 (e ▸ lents_sub hl n d hm)
        rw [nbeq this]; exact lents_spec hl hn.2 n d hm
    · cases h
  | (k, none) :: r, le, h, hn, n, d, hm => by
    simp only [lents] at h
    simp only [List.map_cons, List.nodup_cons] at hn
    simp only [rlook]
    have : n ≠ k := fun e => hn.1 (e ▸ lents_sub h n d hm)
    rw [nbeq this]; exact lents_spec h hn.2 n d hm

theorem hasFst_spec {n : Nat} : ∀ {l : List (Nat × Nat)}, hasFst n l = true → ∃ d, (n, d) ∈ l
  | [], h => by cases h
  | (k, x) :: r, h => by
    simp only [hasFst, Bool.or_eq_true] at h
    rcases h with h | h
    · rw [Nat.eq_of_beq_eq_true h]; exact ⟨x, by simp⟩
    · obtain ⟨d, hd⟩ := hasFst_spec h; exact ⟨d, List.mem_cons_of_mem _ hd⟩

theorem newNames_cover {le : List (Nat × Nat)} {d n : Nat} : ∀ {ns : List Nat} {k : Nat}, n ∈ ns → (∃ n', (n, n') ∈ le) ∨ ∃ n', (n, n') ∈ newNames le d k ns
  | [], _, h => by cases h
  | x :: r, k, h => by
    simp only [newNames]
    cases hb : hasFst x le with
    | true =>
      simp only [cond_true]
      rcases List.mem_cons.1 h with e | h
      · rw [e]; exact .inl (hasFst_spec hb)
      · exact newNames_cover h
    | false =>
      simp only [cond_false]
      rcases List.mem_cons.1 h with e | h
      · rw [e]; exact .inr ⟨_, List.mem_cons_self ..⟩
      · exact (newNames_cover (k := k + 1) h).imp id fun ⟨n', h⟩ => ⟨n', List.mem_cons_of_mem _ h⟩

theorem newNames_small {le : List (Nat × Nat)} {d n n' : Nat} : ∀ {ns : List Nat} {k : Nat}, (n, n') ∈ newNames le d k ns → n' < d + 4096 * (k + ns.length)
  | [], _, h => by cases h
  | x :: r, k, h => by
    simp only [newNames] at h
    simp only [List.length_cons]
    cases hb : hasFst x le with
    | true => rw [hb] at h; have := newNames_small h; omega
    | false =>
      rw [hb] at h
      rcases List.mem_cons.1 h with e | h
      · cases e; omega
      · have := newNames_small h; omega

theorem apL_spec {τ : Nat → Option MO} {rn : List (Nat × Nat)} : ∀ {l : List (Nat × Nat)} {m m' : Nat → Option MO}, apL τ rn l m = some m' → (l.map (·.2)).Nodup →
    (∀ n n', (n, n') ∈ l → (∀ q, τ n = some q → m' n' = some (renO rn q)) ∧ (τ n = none → ∃ t xs, m n' = some (.sl t xs .live) ∧ m' n' = some (.sl t xs .dead))) ∧ (∀ n', n' ∉ l.map (·.2) → m' n' = m n')
  | [], m, m', h, _ => by cases h; exact ⟨fun n n' h => (by cases h), fun _ _ => rfl⟩
  | (k, d) :: r, m, m', h, hn => by
    simp only [List.map_cons, List.nodup_cons] at hn
    simp only [apL] at h
    have go : ∀ {o : MO}, apL τ rn r (mupd m d o) = some m' → ((∀ q, τ k = some q → o = renO rn q) ∧ (τ k = none → ∃ t xs, m d = some (.sl t xs .live) ∧ o = .sl t xs .dead)) →
        (∀ n n', (n, n') ∈ (k, d) :: r → (∀ q, τ n = some q → m' n' = some (renO rn q)) ∧ (τ n = none → ∃ t xs, m n' = some (.sl t xs .live) ∧ m' n' = some (.sl t xs .dead))) ∧ (∀ n', n' ∉ ((k, d) :: r).map (·.2) → m' n' = m n') := by
      intro o ha ho
      obtain ⟨h1, h2⟩ := apL_spec ha hn.2
      have hd : m' d = some o := by rw [h2 d hn.1, mupd_same]
      refine ⟨fun n n' hm => ?_, fun n' hn' => ?_⟩
      · rcases List.mem_cons.1 hm with e | hm
        · cases e
          exact ⟨fun q hq => by rw [hd, ho.1 q hq], fun hq => by obtain ⟨t, xs, a, b⟩ := ho.2 hq; exact ⟨t, xs, a, by rw [hd, b]⟩⟩
        · have hne : n' ≠ d := fun e => hn.1 (List.mem_map.2 ⟨(n, n'), hm, e⟩)
          obtain ⟨a, b⟩ := h1 n n' hm
          exact ⟨a, fun hq => by obtain ⟨t, xs, c, e⟩ := b hq; exact ⟨t, xs, by rwa [mupd_ne _ _ hne] at c, e⟩⟩
      · simp only [List.map_cons, List.mem_cons, not_or] at hn'
        rw [h2 n' hn'.2, mupd_ne _ _ hn'.1]
    split at h
    · rename_i q hq
      exact go h ⟨fun q' hq' => (by rw [hq] at hq'; cases hq'; rfl), fun hq' => (by rw [hq] at hq'; cases hq')⟩
    · rename_i hq
      split at h
      · rename_i t xs hmd
        exact go h ⟨fun q' hq' => (by rw [hq] at hq'; cases hq'), fun _ => ⟨t, xs, hmd, rfl⟩⟩
      · cases h

theorem apN_spec {τ : Nat → Option MO} {rn : List (Nat × Nat)} : ∀ {l : List (Nat × Nat)} {m m' : Nat → Option MO}, apN τ rn l m = some m' → (l.map (·.2)).Nodup →
    (∀ n n', (n, n') ∈ l → m n' = none ∧ ∃ q, τ n = some q ∧ m' n' = some (renO rn q)) ∧ (∀ n', n' ∉ l.map (·.2) → m' n' = m n')
  | [], m, m', h, _ => by cases h; exact ⟨fun n n' h => (by cases h), fun _ _ => rfl⟩
  | (k, d) :: r, m, m', h, hn => by
    simp only [List.map_cons, List.nodup_cons] at hn
    simp only [apN] at h
    split at h
    · rename_i q hq
      split at h
      · rename_i hmd
        obtain ⟨h1, h2⟩ := apN_spec h hn.2
        have hd : m' d = some (renO rn q) := by rw [h2 d hn.1, mupd_same]
        refine ⟨fun n n' hm => ?_, fun n' hn' => ?_⟩
        · rcases List.mem_cons.1 hm with e | hm
          · cases e; exact ⟨hmd, q, hq, hd⟩
          · have hne : n' ≠ d := fun e => hn.1 (List.mem_map.2 ⟨(n, n'), hm, e⟩)
            obtain ⟨a, b⟩ := h1 n n' hm
            exact ⟨by rwa [mupd_ne _ _ hne] at a, b⟩
        · simp only [List.map_cons, List.mem_cons, not_or] at hn'
          rw [h2 n' hn'.2, mupd_ne _ _ hn'.1]
      · cases h
    · cases h

/-- whose new name is it? -/
def rsc (n' : Nat) : List (Nat × Nat) → Option Nat
  | [] => none
  | (k, x) :: r => if n' = x then some k else rsc n' r
theorem rsc_mem {n n' : Nat} : ∀ {l : List (Nat × Nat)}, (l.map (·.2)).Nodup → (n, n') ∈ l → rsc n' l = some n
  | [], _, h => by cases h
  | (k, x) :: r, hn, h => by
    simp only [List.map_cons, List.nodup_cons] at hn
    simp only [rsc]
    rcases List.mem_cons.1 h with e | h
    · cases e; rw [if_pos rfl]
    · have : n' ≠ x := fun e => hn.1 (List.mem_map.2 ⟨(n, n'), h, e⟩)
      rw [if_neg this]; exact rsc_mem hn.2 h
theorem rsc_none {n' : Nat} : ∀ {l : List (Nat × Nat)}, n' ∉ l.map (·.2) → rsc n' l = none
  | [], _ => rfl
  | (k, x) :: r, h => by
    simp only [List.map_cons, List.mem_cons, not_or] at h
    simp only [rsc, if_neg h.1]
    exact rsc_none h.2

end Go.Dv
