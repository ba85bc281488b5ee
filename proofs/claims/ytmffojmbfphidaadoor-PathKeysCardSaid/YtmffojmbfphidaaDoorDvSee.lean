/- What is seen of a state. -/
import Derived.Test.YtmffojmbfphidaaDoorDvPre
set_option linter.all false
namespace Go.Dv
open Go.RowKit

variable [LTab]

variable {R : Type}

/-! ## a state is as good as what is seen of it at a cut -/
section cut
variable {w : World} {S : Nat → Prop} {γ : Nat → Loc} {m : Nat → Option MO} {rl : List (Nat × Option Nat)} {m' : Nat → Option MO} {γ' : Nat → Loc}

structure Ren (γ : Nat → Loc) (m : Nat → Option MO) (rl : List (Nat × Option Nat)) (m' : Nat → Option MO) (γ' : Nat → Loc) : Prop where
  old : ∀ n d, rlook n rl = some (some d) → ∃ o o', m d = some o ∧ m' n = some o' ∧ o'.kind = o.kind ∧ γ' n = γ d
  new : ∀ n, rlook n rl = some none → ∃ t : Ty, m' n = some (.sl t [] .live) ∧ γ' n = ⟨none, 0⟩

theorem castE_self {t' t : Ty} {x : t'.T} {y : t.T} (h : castE t' t x = some y) : ∃ e : t' = t, e ▸ x = y := by
  unfold castE at h
  split at h
  · rename_i e _
    cases h
    exact ⟨e, rfl⟩
  · cases h

theorem allDone_some {α : Type} {o : Option (α × List AV)} {x : α} (h : allDone o = some x) : o = some (x, []) := by
  unfold allDone at h
  split at h
  · cases h; rfl
  · cases h

theorem RepAs.one {v : AV} {x : Value} (h : RepA w S γ m v x) : RepAs w S γ m [v] [x] := ⟨x, [], rfl, h, rfl⟩
theorem RepAs.one' {v : AV} {xs : List Value} (h : RepAs w S γ m [v] xs) : ∃ x, xs = [x] ∧ RepA w S γ m v x := by
  obtain ⟨u, us, rfl, h1, h2⟩ := h
  exact ⟨u, by rw [show us = [] from h2], h1⟩

/-- what a look at the front of a list has found -/
def Found (w : World) (S : Nat → Prop) (γ : Nat → Loc) (m : Nat → Option MO) (m' : Nat → Option MO) (γ' : Nat → Loc) (s : Sh) (x : s.T) (vs r : List AV) (xs : List Value) : Prop :=
  ∃ xs1 xs2 vs1, xs = xs1 ++ xs2 ∧ vs = vs1 ++ r ∧ RepAs w S γ' m' (mkL s x) xs1 ∧ RepAs w S γ m r xs2 ∧ (allOne vs1 = true → allOne (mkL s x) = true)

theorem Found.one {s : Sh} {x : s.T} {v v' : AV} {r : List AV} {xs : List Value} (he : mkL s x = [v']) (h : RepAs w S γ m (v :: r) xs) (hv : ∀ u, RepA w S γ m v u → RepA w S γ' m' v' u) (ho : v.one = true → v'.one = true) : Found w S γ m m' γ' s x (v :: r) r xs := by
  obtain ⟨u, us, rfl, h1, h2⟩ := h
  refine ⟨[u], us, [v], rfl, rfl, by rw [he]; exact .one (hv u h1), h2, fun h => ?_⟩
  rw [he]
  simp only [allOne, List.all_cons, List.all_nil, Bool.and_true] at h ⊢
  exact ho h

theorem getP_rep {base : Nat → Prop} (hm : MemRel w S γ m base) (hr : Ren γ m rl m' γ') (s : Sh) : ∀ (vs r : List AV) (x : s.T) (xs : List Value), getP m rl s vs = some (x, r) → RepAs w S γ m vs xs → Found w S γ m m' γ' s x vs r xs := by
  induction s with
  | nil =>
    intro vs r x xs h hv
    simp only [getP, Option.some.injEq, Prod.mk.injEq] at h
    obtain ⟨_, rfl⟩ := h
    exact ⟨[], xs, [], rfl, rfl, rfl, hv, fun _ => rfl⟩
  | cons a b iha ihb =>
    intro vs r x xs h hv
    simp only [getP] at h
    split at h
    · rename_i x1 r1 h1
      split at h
      · rename_i y1 r2 h2
        cases h
        obtain ⟨xs1, xs2, vs1, rfl, rfl, k1, k2, k3⟩ := iha vs r1 x1 xs h1 hv
        obtain ⟨ys1, ys2, us1, rfl, rfl, l1, l2, l3⟩ := ihb r1 r y1 xs2 h2 k2
        refine ⟨xs1 ++ ys1, ys2, vs1 ++ us1, by simp, by simp, k1.append l1, l2, fun h => ?_⟩
        rw [allOne_append, Bool.and_eq_true] at h
        show allOne (mkL a x1 ++ mkL b y1) = true
        rw [allOne_append, Bool.and_eq_true]
        exact ⟨k3 h.1, l3 h.2⟩
      · cases h
    · cases h
  | int k =>
    intro vs r x xs h hv
    cases vs with
    | nil => simp [getP] at h
    | cons v vs =>
      cases v <;> simp only [getP] at h <;> try (cases h; done)
      split at h
      · rename_i e _
        obtain ⟨e⟩ := e
        subst e
        cases h
        exact .one rfl hv (fun _ h => h) fun h => h
      · cases h
  | bool =>
    intro vs r x xs h hv
    cases vs with
    | nil => simp [getP] at h
    | cons v vs =>
      cases v <;> simp only [getP] at h <;> try (cases h; done)
      cases h
      exact .one rfl hv (fun _ h => h) fun h => h
  | str =>
    intro vs r x xs h hv
    cases vs with
    | nil => simp [getP] at h
    | cons v vs =>
      cases v <;> simp only [getP] at h <;> try (cases h; done)
      cases h
      exact .one rfl hv (fun _ h => h) fun h => h
  | list t =>
    intro vs r x xs h hv
    cases vs with
    | nil => simp [getP] at h
    | cons v vs =>
      simp only [getP] at h
      split at h
      · rename_i ys hys
        cases h
        exact .one rfl hv (fun u hu => asList_rep hm hys hu) fun _ => rfl
      · cases h
  | val t =>
    intro vs r x xs h hv
    cases vs with
    | nil => simp [getP] at h
    | cons v vs =>
      cases v <;> simp only [getP] at h <;> try (cases h; done)
      rename_i cs
      split at h
      · rename_i y hy
        cases h
        refine .one rfl hv (fun u hu => ?_) fun h => h
        obtain ⟨us, h1, h2, h3⟩ := hu
        exact ⟨us, h1, (dec_rep hm hy h2).enc, allOne_enc _ _⟩
      · cases h
  | ro t off =>
    intro vs r x xs h hv
    cases vs with
    | nil => simp [getP] at h
    | cons v vs =>
      cases v <;> simp only [getP] at h <;> try (cases h; done)
      rcases bif_some h with ⟨e, h⟩ | ⟨_, h⟩
      · split at h
        · rename_i y hy
          cases h
          obtain ⟨e', rfl⟩ := castE_self hy
          subst e'
          have := Nat.eq_of_beq_eq_true e
          subst this
          exact .one rfl hv (fun _ h => h) fun h => h
        · cases h
      · cases h
  | own n =>
    intro vs r x xs h hv
    cases vs with
    | nil => simp [getP] at h
    | cons v vs =>
      cases v <;> simp only [getP] at h <;> try (cases h; done)
      · split at h
        · rename_i hl
          cases h
          refine .one rfl hv (fun u hu => ?_) fun _ => rfl
          obtain ⟨t, h1, h2⟩ := hr.new n hl
          simp only [RepA] at hu
          exact ⟨t, [], .live, h1, by rw [hu, h2]; rfl⟩
        · cases h
      · rename_i d
        split at h
        · rename_i d' hl
          rcases bif_some h with ⟨e, h⟩ | ⟨_, h⟩
          · cases h
            have := Nat.eq_of_beq_eq_true e
            subst this
            refine .one rfl hv (fun u hu => ?_) fun _ => rfl
            obtain ⟨t, ys, s, h1, h2⟩ := hu
            obtain ⟨o, o', k1, k2, k3, k4⟩ := hr.old n d hl
            rw [h1] at k1; cases k1
            obtain ⟨t', xs', s', rfl, j1, j2⟩ := kind_sl k3
            exact ⟨t', xs', s', k2, by rw [h2, k4, j2]⟩
          · cases h
        · cases h
  | ptr n off =>
    intro vs r x xs h hv
    cases vs with
    | nil => simp [getP] at h
    | cons v vs =>
      cases v <;> simp only [getP] at h <;> try (cases h; done)
      rename_i d off'
      split at h
      · rename_i d' hl
        rcases bif_some h with ⟨e, h⟩ | ⟨_, h⟩
        · cases h
          simp only [Bool.and_eq_true] at e
          have e1 := Nat.eq_of_beq_eq_true e.1
          have e2 := Nat.eq_of_beq_eq_true e.2
          subst e1; subst e2
          refine .one rfl hv (fun u hu => ?_) fun _ => rfl
          obtain ⟨cs, s, b, h1, h2, h3⟩ := hu
          obtain ⟨o, o', k1, k2, k3, k4⟩ := hr.old n d hl
          rw [h1] at k1; cases k1
          obtain ⟨cs', s', rfl⟩ := kind_box k3
          exact ⟨cs', s', b, k2, by rw [k4]; exact h2, h3⟩
        · cases h
      · cases h
  | yld n =>
    intro vs r x xs h hv
    cases vs with
    | nil => simp [getP] at h
    | cons v vs =>
      cases v <;> simp only [getP] at h <;> try (cases h; done)
      rename_i d
      split at h
      · rename_i d' hl
        rcases bif_some h with ⟨e, h⟩ | ⟨_, h⟩
        · cases h
          have e1 := Nat.eq_of_beq_eq_true e
          subst e1
          refine .one rfl hv (fun u hu => ?_) fun _ => rfl
          obtain ⟨id, cs, e, l, h1, h2, h3⟩ := hu
          obtain ⟨o, o', k1, k2, k3, k4⟩ := hr.old n d hl
          rw [h1] at k1; cases k1
          obtain ⟨cs', e', rfl⟩ := kind_rng k3
          exact ⟨id, cs', e', l, k2, by rw [k4]; exact h2, h3⟩
        · cases h
      · cases h
  | nils =>
    intro vs r x xs h hv
    cases vs with
    | nil => simp [getP] at h
    | cons v vs =>
      cases v <;> simp only [getP] at h <;> try (cases h; done)
      cases h
      exact .one rfl hv (fun _ h => h) fun h => h
  | nilp =>
    intro vs r x xs h hv
    cases vs with
    | nil => simp [getP] at h
    | cons v vs =>
      cases v <;> simp only [getP] at h <;> try (cases h; done)
      cases h
      exact .one rfl hv (fun _ h => h) fun h => h
  | nili =>
    intro vs r x xs h hv
    cases vs with
    | nil => simp [getP] at h
    | cons v vs =>
      cases v <;> simp only [getP] at h <;> try (cases h; done)
      cases h
      exact .one rfl hv (fun _ h => h) fun h => h
  | nilf =>
    intro vs r x xs h hv
    cases vs with
    | nil => simp [getP] at h
    | cons v vs =>
      cases v <;> simp only [getP] at h <;> try (cases h; done)
      cases h
      exact .one rfl hv (fun _ h => h) fun h => h
  | agg l ih =>
    intro vs r x xs h hv
    cases vs with
    | nil => simp [getP] at h
    | cons v vs =>
      cases v <;> simp only [getP] at h <;> try (cases h; done)
      rename_i cs
      split at h
      · rename_i y hy
        cases h
        refine .one rfl hv (fun u hu => ?_) fun h => h
        obtain ⟨us, h1, h2, h3⟩ := hu
        obtain ⟨xs1, xs2, vs1, rfl, e, k1, k2, k3⟩ := ih cs [] x us (allDone_some hy) h2
        simp only [List.append_nil] at e; subst e
        rw [show xs2 = [] from k2, List.append_nil] at h1
        exact ⟨xs1, h1, k1, k3 h3⟩
      · cases h
  | tup l ih =>
    intro vs r x xs h hv
    cases vs with
    | nil => simp [getP] at h
    | cons v vs =>
      cases v <;> simp only [getP] at h <;> try (cases h; done)
      rename_i cs
      split at h
      · rename_i y hy
        cases h
        refine .one rfl hv (fun u hu => ?_) fun h => (by cases h)
        obtain ⟨us, h1, h2⟩ := hu
        obtain ⟨xs1, xs2, vs1, rfl, e, k1, k2, k3⟩ := ih cs [] x us (allDone_some hy) h2
        simp only [List.append_nil] at e; subst e
        rw [show xs2 = [] from k2, List.append_nil] at h1
        exact ⟨xs1, h1, k1⟩
      · cases h
  | clo f l ih =>
    intro vs r x xs h hv
    cases vs with
    | nil => simp [getP] at h
    | cons v vs =>
      cases v <;> simp only [getP] at h <;> try (cases h; done)
      rename_i f' cs
      rcases bif_some h with ⟨e, h⟩ | ⟨_, h⟩
      · have := Nat.eq_of_beq_eq_true e
        subst this
        split at h
        · rename_i y hy
          cases h
          refine .one rfl hv (fun u hu => ?_) fun h => h
          obtain ⟨us, h1, h2⟩ := hu
          obtain ⟨xs1, xs2, vs1, rfl, e, k1, k2, k3⟩ := ih cs [] x us (allDone_some hy) h2
          rw [show xs2 = [] from k2, List.append_nil] at h1
          exact ⟨xs1, h1, k1⟩
        · cases h
      · cases h
  | iface t a ih =>
    intro vs r x xs h hv
    cases vs with
    | nil => simp [getP] at h
    | cons v vs =>
      cases v <;> simp only [getP] at h <;> try (cases h; done)
      rename_i t' y
      rcases bif_some h with ⟨e, h⟩ | ⟨_, h⟩
      · have := Nat.eq_of_beq_eq_true e
        subst this
        split at h
        · rename_i z hz
          cases h
          obtain ⟨u, us, rfl, ⟨u', h1, h2⟩, h3⟩ := hv
          obtain ⟨xs1, xs2, vs1, e1, e2, k1, k2, k3⟩ := ih [y] [] x [u'] (allDone_some hz) (.one h2)
          rw [show xs2 = [] from k2, List.append_nil] at e1
          subst e1
          have hlen := k1.length
          have he : ∃ v', mkL a x = [v'] := by
            cases hq : mkL a x with
            | nil => rw [hq] at hlen; simp at hlen
            | cons v' q => rw [hq] at hlen; cases q with
              | nil => exact ⟨v', rfl⟩
              | cons _ _ => simp at hlen
          obtain ⟨v', he⟩ := he
          have hmk : mkL (.iface t' a) x = [.iface t' v'] := by simp only [mkL]; rw [he]
          refine ⟨[u], us, [.iface t' y], rfl, rfl, ?_, h3, fun _ => by rw [hmk]; rfl⟩
          rw [hmk]
          rw [he] at k1
          obtain ⟨q, e, k1⟩ := k1.one'
          cases e
          exact .one ⟨u', h1, k1⟩
        · cases h
      · cases h
  | bx l off ih =>
    intro vs r x xs h hv
    cases vs with
    | nil => simp [getP] at h
    | cons v vs =>
      cases v <;> simp only [getP] at h <;> try (cases h; done)
      rename_i cs off'
      rcases bif_some h with ⟨e, h⟩ | ⟨_, h⟩
      · have := Nat.eq_of_beq_eq_true e
        subst this
        split at h
        · rename_i y hy
          cases h
          refine .one rfl hv (fun u hu => ?_) fun h => h
          obtain ⟨b, us, h1, h2, h3, h4, h5⟩ := hu
          obtain ⟨xs1, xs2, vs1, rfl, e, k1, k2, k3⟩ := ih cs [] x us (allDone_some hy) h3
          simp only [List.append_nil] at e; subst e
          rw [show xs2 = [] from k2, List.append_nil] at h5
          exact ⟨b, xs1, h1, h2, k1, k3 h4, h5⟩
        · cases h
      · cases h

theorem rlook_mem {n : Nat} {e : Option Nat} : ∀ {l : List (Nat × Option Nat)}, rlook n l = some e → (n, e) ∈ l
  | [], h => by cases h
  | (k, q) :: l, h => by
    rcases bif_some (by simpa only [rlook] using h) with ⟨hb, h2⟩ | ⟨_, h2⟩
    · have e1 := Nat.eq_of_beq_eq_true hb
      cases h2; rw [e1]; simp
    · exact List.mem_cons_of_mem _ (rlook_mem h2)

theorem noneHas_spec {d n : Nat} : ∀ {l : List (Nat × Option Nat)}, noneHas d l = true → (n, some d) ∉ l
  | [], _, h => by cases h
  | (k, some q) :: l, hn, h => by
    simp only [noneHas, Bool.and_eq_true, Bool.not_eq_true'] at hn
    rcases List.mem_cons.1 h with e | h
    · cases e; rw [Nat.beq_refl] at hn; cases hn.1
    · exact noneHas_spec hn.2 h
  | (k, none) :: l, hn, h => by
    simp only [noneHas] at hn
    rcases List.mem_cons.1 h with e | h
    · cases e
    · exact noneHas_spec hn h

theorem dist_spec {d : Nat} : ∀ {l : List (Nat × Option Nat)} {n n' : Nat}, dist l = true → rlook n l = some (some d) → rlook n' l = some (some d) → n = n'
  | [], _, _, _, h, _ => by cases h
  | (k, e) :: l, n, n', hd, h, h' => by
    have hd2 : dist l = true ∧ (e = some d → noneHas d l = true) := by
      cases e with
      | none => exact ⟨hd, fun h => by cases h⟩
      | some q => simp only [dist, Bool.and_eq_true] at hd; exact ⟨hd.2, fun h => by cases h; exact hd.1⟩
    rcases bif_some (by simpa only [rlook] using h) with ⟨hb, h2⟩ | ⟨_, h2⟩
    · have e1 := Nat.eq_of_beq_eq_true hb
      simp only [Option.some.injEq] at h2
      rcases bif_some (by simpa only [rlook] using h') with ⟨hb', h3⟩ | ⟨_, h3⟩
      · exact e1.trans (Nat.eq_of_beq_eq_true hb').symm
      · exact absurd (rlook_mem h3) (noneHas_spec (hd2.2 h2))
    · rcases bif_some (by simpa only [rlook] using h') with ⟨hb', h3⟩ | ⟨_, h3⟩
      · simp only [Option.some.injEq] at h3
        exact absurd (rlook_mem h2) (noneHas_spec (hd2.2 h3))
      · exact dist_spec hd2.1 h2 h3

/-- what an object has become -/
def QOk (m : Nat → Option MO) (rl : List (Nat × Option Nat)) (n : Nat) (q : MO) : Prop :=
  (∃ d t xs, rlook n rl = some (some d) ∧ m d = some (.sl t xs .live) ∧ q = .sl t xs .live) ∨
  (∃ t, rlook n rl = some none ∧ q = .sl t [] .live) ∨
  (∃ d l cs s x, rlook n rl = some (some d) ∧ m d = some (.box cs s) ∧ getP m rl l cs = some (x, []) ∧ q = .box (mkL l x) s) ∨
  (∃ d l cs id e x, rlook n rl = some (some d) ∧ m d = some (.rng id cs (some e)) ∧ getP m rl l cs = some (x, []) ∧ q = .rng id (mkL l x) (some e))

theorem getO1_ok {n : Nat} {k : OK} {e : Option Nat} {x : k.T} (hl : rlook n rl = some e) (h : getO1 m rl k e = some x) : QOk m rl n (mkO k x) := by
  cases k with
  | sl t =>
    cases e with
    | none => cases h; exact .inr (.inl ⟨t, hl, rfl⟩)
    | some d =>
      have h : (match m d with | some (.sl t' xs .live) => castL t' t xs | _ => none) = some x := h
      cases hd : m d with
      | none => rw [hd] at h; cases h
      | some o =>
        rw [hd] at h
        cases o with
        | box _ _ => cases h
        | rng _ _ _ => cases h
        | sl t' xs s =>
          cases s with
          | live =>
            have h : castL t' t xs = some x := h
            have e := castL_self_eq (s := .live) h
            rw [e] at hd
            exact .inl ⟨d, _, _, hl, hd, rfl⟩
          | still => cases h
          | dead => cases h
  | box l =>
    cases e with
    | none => cases h
    | some d =>
      simp only [getO1] at h
      split at h
      · rename_i cs hd
        exact .inr (.inr (.inl ⟨d, l, cs, .live, x, hl, hd, allDone_some h, rfl⟩))
      · cases h
  | boxS l =>
    cases e with
    | none => cases h
    | some d =>
      simp only [getO1] at h
      split at h
      · rename_i cs hd
        exact .inr (.inr (.inl ⟨d, l, cs, .still, x, hl, hd, allDone_some h, rfl⟩))
      · cases h
  | rng id l e' =>
    cases e with
    | none => cases h
    | some d =>
      simp only [getO1] at h
      split at h
      · rename_i id' cs e2 hd
        rcases bif_some h with ⟨hb, h⟩ | ⟨_, h⟩
        · simp only [Bool.and_eq_true] at hb
          have e3 := Nat.eq_of_beq_eq_true hb.1
          have e4 := Nat.eq_of_beq_eq_true hb.2
          subst e3; subst e4
          exact .inr (.inr (.inr ⟨d, l, cs, id', e2, x, hl, hd, allDone_some h, rfl⟩))
        · cases h
      · cases h

theorem getO_ok : ∀ {l : List (Nat × List Nat × OK)} {v : OT l}, getO m rl l = some v → ∀ n q, mofO l v n = some q → QOk m rl n q
  | [], _, _, _, _, hq => by cases hq
  | (k, src, ok) :: l, v, h, n, q, hq => by
    simp only [getO] at h
    split at h
    · rename_i e hl
      split at h
      · rename_i x hx
        split at h
        · rename_i y hy
          cases h
          rcases bif_some (by simpa only [mofO] using hq) with ⟨hb, h2⟩ | ⟨_, h2⟩
          · have e1 := Nat.eq_of_beq_eq_true hb
            cases h2
            rw [e1]
            exact getO1_ok hl hx
          · exact getO_ok hy n q h2
        · cases h
      · cases h
    · cases h

theorem renG_mofO {g : List Nat → Nat → Option Nat} {n : Nat} {e : Option Nat} : ∀ {l : List (Nat × List Nat × OK)} {v : OT l}, rlook n (l.map fun p => (p.1, g p.2.1 p.1)) = some e → ∃ q, mofO l v n = some q
  | [], _, h => by cases h
  | (k, src, ok) :: l, v, h => by
    simp only [mofO]
    rcases bif_some (by simpa only [List.map_cons, rlook] using h) with ⟨hb, h⟩ | ⟨hb, h⟩
    · rw [hb]; exact ⟨_, rfl⟩
    · rw [hb]; exact renG_mofO h

theorem zlook_rep {f : Nat → Value} : ∀ {ts : List Nat} {vs : List AV} (t : Nat), RepAs w S γ m vs (ts.map f) → RepA w S γ m (zlook ts vs t) (f t)
  | [], vs, t, _ => by cases vs <;> exact trivial
  | t0 :: ts, [], t, _ => trivial
  | t0 :: ts, v :: vs, t, h => by
    obtain ⟨u, us, e, h1, h2⟩ := h
    simp only [List.map_cons, List.cons.injEq] at e
    obtain ⟨rfl, rfl⟩ := e
    simp only [zlook]
    cases hb : Nat.beq t t0 with
    | true => rw [Nat.eq_of_beq_eq_true hb]; exact h1
    | false => exact zlook_rep t h2

theorem maps_rep {ρ : Nat → AV} {f : Nat → Value} (h : ∀ t, RepA w S γ m (ρ t) (f t)) : ∀ l : List Nat, RepAs w S γ m (l.map ρ) (l.map f)
  | [] => rfl
  | t :: l => ⟨_, _, rfl, h t, maps_rep h l⟩

/-- what is seen at a cut is there, under other names -/
theorem getW_ok {base : Nat → Prop} {ρ : Nat → AV} {f : Nat → Value} (hmem : MemRel w S γ m base) (htm : ∀ t, RepA w S γ m (ρ t) (f t)) {c : Cut} {v : c.T} {g : List Nat → Nat → Option Nat} {rl : List (Nat × Option Nat)} (hrl : rl = c.objs.map fun p => (p.1, g p.2.1 p.1)) (hc : getW rl c ρ m = some v) :
    ∃ γ', (∀ n d, rlook n rl = some (some d) → γ' n = γ d) ∧ (∀ n, rlook n rl = some none → γ' n = ⟨none, 0⟩) ∧ MemRel w S γ' (mofO c.objs v.2) base ∧ RepAs w S γ' (mofO c.objs v.2) (mkL c.sh v.1) (c.tms.map f) ∧ (∀ n q, mofO c.objs v.2 n = some q → QOk m rl n q) ∧ dist rl = true := by
  unfold getW at hc
  rcases bif_some hc with ⟨hdist, hc⟩ | ⟨_, hc⟩
  · split at hc
    · rename_i x hx
      split at hc
      · rename_i y hy
        cases hc
        have hnames : ∀ {n e} {y : OT c.objs}, rlook n rl = some e → ∃ q, mofO c.objs y n = some q := by
          intro n e y h
          rw [hrl] at h
          exact renG_mofO h
        let γ' : Nat → Loc := fun n => match rlook n rl with
          | some (some d) => γ d
          | _ => ⟨none, 0⟩
        have g1 : ∀ {n d}, rlook n rl = some (some d) → γ' n = γ d := fun {n d} h => by simp only [γ', h]
        have g2 : ∀ {n}, rlook n rl = some none → γ' n = ⟨none, 0⟩ := fun {n} h => by simp only [γ', h]
        have hq := getO_ok hy
        have hren : Ren γ m rl (mofO c.objs y) γ' := by
          refine ⟨fun n d hl => ?_, fun n hl => ?_⟩
          · obtain ⟨q, hq'⟩ := hnames (y := y) hl
            rcases hq n q hq' with ⟨d', t, xs, k1, k2, rfl⟩ | ⟨t, k1, rfl⟩ | ⟨d', l, cs, s, z, k1, k2, k3, rfl⟩ | ⟨d', l, cs, id, ee, z, k1, k2, k3, rfl⟩
            · rw [hl] at k1; cases k1
              exact ⟨_, _, k2, hq', rfl, g1 hl⟩
            · rw [hl] at k1; cases k1
            · rw [hl] at k1; cases k1
              exact ⟨_, _, k2, hq', rfl, g1 hl⟩
            · rw [hl] at k1; cases k1
              exact ⟨_, _, k2, hq', rfl, g1 hl⟩
          · obtain ⟨q, hq'⟩ := hnames (y := y) hl
            rcases hq n q hq' with ⟨d', t, xs, k1, k2, rfl⟩ | ⟨t, k1, rfl⟩ | ⟨d', l, cs, s, z, k1, k2, k3, rfl⟩ | ⟨d', l, cs, id, ee, z, k1, k2, k3, rfl⟩
            · rw [hl] at k1; cases k1
            · exact ⟨t, hq', g2 hl⟩
            · rw [hl] at k1; cases k1
            · rw [hl] at k1; cases k1
        have olds : ∀ {n q b}, mofO c.objs y n = some q → q.live = true → (γ' n).blk = some b → ∃ d o, rlook n rl = some (some d) ∧ m d = some o ∧ o.live = true ∧ (γ d).blk = some b := by
          intro n q b hn hlq hb
          rcases hq n q hn with ⟨d', t, xs, k1, k2, rfl⟩ | ⟨t, k1, rfl⟩ | ⟨d', l, cs, s, z, k1, k2, k3, rfl⟩ | ⟨d', l, cs, id, ee, z, k1, k2, k3, rfl⟩
          · rw [g1 k1] at hb; exact ⟨d', _, k1, k2, rfl, hb⟩
          · rw [g2 k1] at hb; cases hb
          · rw [g1 k1] at hb; exact ⟨d', _, k1, k2, (by cases s <;> first | rfl | cases hlq), hb⟩
          · rw [g1 k1] at hb; exact ⟨d', _, k1, k2, rfl, hb⟩
        refine ⟨γ', fun n d => g1, fun n => g2, ⟨fun n q hn => ?_, hmem.low, ?_, ?_⟩, ?_, hq, hdist⟩
        · rcases hq n q hn with ⟨d', t, xs, k1, k2, rfl⟩ | ⟨t, k1, rfl⟩ | ⟨d', l, cs, s, z, k1, k2, k3, rfl⟩ | ⟨d', l, cs, id, ee, z, k1, k2, k3, rfl⟩
          · have hob : RowRel w S (γ d') t xs .live := hmem.obj d' _ k2
            show RowRel w S (γ' n) t xs .live
            rw [g1 k1]; exact hob
          · show RowRel w S (γ' n) t [] .live
            rw [g2 k1]
            exact ⟨Nat.le_refl _, Nat.zero_le _, fun _ => rfl, fun a ha => by cases ha⟩
          · obtain ⟨b, vs, el, j1, j2, j3, j4, j5, j6⟩ := hmem.obj d' _ k2
            obtain ⟨xs1, xs2, vs1, rfl, e, i1, i2, i3⟩ := getP_rep hmem hren l cs [] z vs k3 j3
            simp only [List.append_nil] at e; subst e
            rw [show xs2 = [] from i2, List.append_nil] at j2
            exact ⟨b, xs1, el, by rw [g1 k1]; exact j1, j2, i1, i3 j4, j5, j6⟩
          · obtain ⟨l0, rec, hr⟩ := hmem.obj d' _ k2
            obtain ⟨xs1, xs2, vs1, e0, e, i1, i2, i3⟩ := getP_rep hmem hren l cs [] z _ k3 hr.caps
            rw [show xs2 = [] from i2, List.append_nil] at e0
            exact ⟨l0, rec, by rw [g1 k1]; exact hr.loc, hr.heap, hr.state, hr.pending, hr.ps, hr.assign, hr.body, hr.size, by rw [e0]; exact i1, hr.notS⟩
        · intro n n' q q' b hn hn' hlq hlq' hne hb hb'
          obtain ⟨d, o, k1, k2, k3, k4⟩ := olds hn hlq hb
          obtain ⟨d', o', k1', k2', k3', k4'⟩ := olds hn' hlq' hb'
          exact hmem.apart d d' o o' b k2 k2' k3 k3' (fun e => hne (dist_spec hdist k1 (e ▸ k1'))) k4 k4'
        · intro n q b hn hlq hb
          obtain ⟨d, o, k1, k2, k3, k4⟩ := olds hn hlq hb
          exact hmem.high d o b k2 k3 k4
        · have hvs : RepAs w S γ m (c.tms.map ρ) (c.tms.map f) := maps_rep htm c.tms
          obtain ⟨xs1, xs2, vs1, e1, e2, k1, k2, k3⟩ := getP_rep hmem hren c.sh _ [] x _ (allDone_some hx) hvs
          rw [show xs2 = [] from k2, List.append_nil] at e1
          rw [← e1] at k1
          exact k1
      · cases hc
    · cases hc
  · cases hc

theorem renL_map {ρ : Nat → AV} {m : Nat → Option MO} : ∀ l : List (Nat × List Nat × OK), renL ρ m l = l.map fun p => (p.1, (fun (src : List Nat) n => bif Nat.ble 5000000 n then some n else srcOf ρ m src) p.2.1 p.1)
  | [] => rfl
  | (n, src, k) :: r => by simp only [renL, List.map_cons, renL_map r]
theorem renC_map {ρ : Nat → AV} {m : Nat → Option MO} : ∀ l : List (Nat × List Nat × OK), renC ρ m l = l.map fun p => (p.1, (fun (src : List Nat) _ => srcOf ρ m src) p.2.1 p.1)
  | [] => rfl
  | (n, src, k) :: r => by simp only [renC, List.map_cons, renC_map r]


end cut
end Go.Dv
