/- Results of functions. -/
import Derived.Test.YtmffojmbfphidaaDoorDvLoop
set_option linter.all false
namespace Go.Dv
open Go.RowKit

variable [LTab]

variable {R : Type}

/-- looks of lists of results -/
inductive RS where
  | int (k : IntKind)
  | bool
  | str
  | list (t : Ty)
  | val (t : Ty)
  | fresh (t : Ty)
  | ro (t : Ty) (off : Nat)
  | nilp
  | nili
  | nilf
  | nil
  | cons (a b : RS)
  | agg (l : RS)
  | tup (l : RS)
  | clo (f : FuncId) (l : RS)
  | iface (t : TypeId) (a : RS)
  | bx (l : RS) (off : Nat)

def RS.T : RS → Type
  | .int _ => Int
  | .bool => Bool
  | .str => List UInt8
  | .list t => List t.T
  | .val t => t.T
  | .fresh t => List t.T
  | .ro t _ => t.T
  | .cons a b => a.T × b.T
  | .agg l => l.T
  | .tup l => l.T
  | .clo _ l => l.T
  | .iface _ a => a.T
  | .bx l _ => l.T
  | _ => Unit

def mkX : (s : RS) → s.T → List AV
  | .int k, n => [.int k n]
  | .bool, b => [.bool b]
  | .str, s => [.str s]
  | .list t, xs => [.list t xs]
  | .val t, x => [.agg (enc t x)]
  | .fresh t, xs => [.fresh t xs]
  | .ro t off, x => [.ro t x off]
  | .nilp, _ => [.nilp]
  | .nili, _ => [.nili]
  | .nilf, _ => [.nilf]
  | .nil, _ => []
  | .cons a b, x => mkX a x.1 ++ mkX b x.2
  | .agg l, x => [.agg (mkX l x)]
  | .tup l, x => [.tup (mkX l x)]
  | .clo f l, x => [.clo f (mkX l x)]
  | .iface t a, x => match mkX a x with
    | [v] => [.iface t v]
    | _ => []
  | .bx l off, x => [.bx (mkX l x) off]

abbrev Got (s : RS) := s.T × List AV × List (Option Nat)

/-- nothing that is handed over: what may lie within a pointer's target, a closure, an interface -/
def deadEnd {α : Type} : Option (α × List AV × List (Option Nat)) → Option α
  | some (x, [], []) => some x
  | _ => none

def wholeX {α : Type} : Option (α × List AV × List (Option Nat)) → Option (α × List (Option Nat))
  | some (x, [], ns) => some (x, ns)
  | _ => none

def getX (m : Nat → Option MO) : (s : RS) → List AV → Option (s.T × List AV × List (Option Nat))
  | .int k, .int k' n :: r => match ikEq k' k with | some _ => some (n, r, []) | none => none
  | .bool, .bool b :: r => some (b, r, [])
  | .str, .str s :: r => some (s, r, [])
  | .list t, v :: r => match asList m t v with | some xs => some (xs, r, []) | none => none
  | .val t, .agg cs :: r => match dec m t cs with | some x => some (x, r, []) | none => none
  | .fresh t, .own n :: r => match m n with
    | some (.sl t' xs .live) => match castL t' t xs with | some xs => some (xs, r, [some n]) | none => none
    | _ => none
  | .fresh _, .nils :: r => some ([], r, [none])
  | .ro t off, .ro t' x off' :: r => bif Nat.beq off' off then (match castE t' t x with | some x => some (x, r, []) | none => none) else none
  | .nilp, .nilp :: r => some ((), r, [])
  | .nili, .nili :: r => some ((), r, [])
  | .nilf, .nilf :: r => some ((), r, [])
  | .nil, r => some ((), r, [])
  | .cons a b, r => match getX m a r with
    | some (x, r', ns) => match getX m b r' with
      | some (y, r'', ns') => some ((x, y), r'', ns ++ ns')
      | none => none
    | none => none
  | .agg l, .agg cs :: r => match wholeX (getX m l cs) with | some (x, ns) => some (x, r, ns) | none => none
  | .tup l, .tup cs :: r => match wholeX (getX m l cs) with | some (x, ns) => some (x, r, ns) | none => none
  | .clo f l, .clo f' cs :: r => bif Nat.beq f' f then (match deadEnd (getX m l cs) with | some x => some (x, r, []) | none => none) else none
  | .iface t a, .iface t' v :: r => bif Nat.beq t' t then (match deadEnd (getX m a [v]) with | some x => some (x, r, []) | none => none) else none
  | .bx l off, .bx cs off' :: r => bif Nat.beq off' off then (match deadEnd (getX m l cs) with | some x => some (x, r, []) | none => none) else none
  | .bx l off, .ptr n off' :: r => bif Nat.beq off' off then (match m n with
    | some (.box cs .still) => match deadEnd (getX m l cs) with | some x => some (x, r, []) | none => none
    | _ => none) else none
  | _, _ => none

def hasN (n : Nat) : List (Option Nat) → Bool
  | [] => false
  | some k :: r => Nat.beq n k || hasN n r
  | none :: r => hasN n r

def onceN : List (Option Nat) → Bool
  | [] => true
  | some n :: r => !(hasN n r) && onceN r
  | none :: r => onceN r

def resT (o : RS) : List RS → Type
  | [] => o.T
  | o' :: r => o.T ⊕ resT o' r

def get1 (m : Nat → Option MO) (s : RS) (v : AV) : Option s.T := match wholeX (getX m s [v]) with
  | some (x, ns) => bif onceN ns then some x else none
  | none => none

def getRes (m : Nat → Option MO) (o : RS) : (l : List RS) → AV → Option (resT o l)
  | [], v => get1 m o v
  | o' :: r, v => match get1 m o v with
    | some x => some (.inl x)
    | none => match getRes m o' r v with | some x => some (.inr x) | none => none

def one1 (l : List AV) (K : AV → Option R) : Option R := match l with | [v] => K v | _ => none

def outRes (o : RS) : (l : List RS) → resT o l → (AV → Option R) → Option R
  | [], x, K => one1 (mkX o x) K
  | o' :: r, x, K => match x with
    | .inl x => one1 (mkX o x) K
    | .inr x => outRes o' r x K

theorem one1_nat (l : List AV) (K : AV → Option R) : one1 l K = (one1 l some).bind K := by
  unfold one1; split <;> rfl

theorem outRes_nat (K : AV → Option R) : ∀ (l : List RS) (o : RS) (x : resT o l), outRes o l x K = (outRes o l x some).bind K
  | [], o, x => one1_nat ..
  | o' :: r, o, x => by
    cases x with
    | inl x => exact one1_nat ..
    | inr x => exact outRes_nat K r o' x

/-! ## what is found is what is there -/
section res
variable {w : World} {S : Nat → Prop} {γ : Nat → Loc} {m : Nat → Option MO} {base : Nat → Prop}

def locN (γ : Nat → Loc) : Option Nat → Loc
  | some n => γ n
  | none => ⟨none, 0⟩

def FoundX (w : World) (S : Nat → Prop) (γ : Nat → Loc) (m : Nat → Option MO) (vs' : List AV) (vs r : List AV) (ns : List (Option Nat)) (xs : List Value) : Prop :=
  ∃ xs1 xs2 vs1, xs = xs1 ++ xs2 ∧ vs = vs1 ++ r ∧ RepXs w S vs' xs1 (ns.map (locN γ)) ∧ RepAs w S γ m r xs2 ∧ (∀ n, some n ∈ ns → ∃ q, m n = some q ∧ q.live = true) ∧ (allOne vs1 = true → vs'.all AV.oneX = true)

theorem RepXs.nil' : RepXs w S [] [] [] := ⟨rfl, rfl⟩

theorem RepXs.cons' {c : AV} {cs : List AV} {u : Value} {us : List Value} {l1 l2 : List Loc} (h : RepX w S c u l1) (h' : RepXs w S cs us l2) : RepXs w S (c :: cs) (u :: us) (l1 ++ l2) := ⟨u, us, l1, l2, rfl, rfl, h, h'⟩

theorem RepXs.append' : ∀ {cs ds : List AV} {us vs : List Value} {l1 l2 : List Loc}, RepXs w S cs us l1 → RepXs w S ds vs l2 → RepXs w S (cs ++ ds) (us ++ vs) (l1 ++ l2)
  | [], _, us, vs, l1, l2, h, h' => by
    obtain ⟨rfl, rfl⟩ := h
    exact h'
  | c :: cs, ds, us, vs, l1, l2, h, h' => by
    obtain ⟨u, us', k1, k2, rfl, rfl, h1, h2⟩ := h
    have := (h2.append' h')
    rw [List.append_assoc]
    exact ⟨u, us' ++ vs, k1, k2 ++ l2, rfl, rfl, h1, this⟩

/-- without anything handed over, a result is a plain value -/
def flat (v : AV) : Bool := match v with
  | .fresh _ _ => false
  | .agg _ => false
  | .tup _ => false
  | _ => true

theorem RepX.of {v : AV} {x : Value} (h : RepA w S g0 m0 v x) (hf : flat v = true) : RepX w S v x [] := by
  cases v <;> first | exact ⟨rfl, h⟩ | cases hf

mutual
theorem RepX.dead : ∀ (v : AV) (x : Value), RepX w S v x [] → RepA w S g0 m0 v x ∧ (v.oneX = true → v.one = true)
  | .fresh t xs, x, h => by obtain ⟨l, e, _⟩ := h; cases e
  | .agg cs, x, h => by
    obtain ⟨vs, h1, h2, h3⟩ := h
    obtain ⟨k1, k2⟩ := RepXs.dead cs vs h2
    exact ⟨⟨vs, h1, k1, k2 h3⟩, fun h => h⟩
  | .tup cs, x, h => by
    obtain ⟨vs, h1, h2⟩ := h
    obtain ⟨k1, k2⟩ := RepXs.dead cs vs h2
    exact ⟨⟨vs, h1, k1⟩, fun h => h⟩
  | .undef, x, h => ⟨h.2, fun h => h⟩
  | .int _ _, x, h => ⟨h.2, fun h => h⟩
  | .bool _, x, h => ⟨h.2, fun h => h⟩
  | .str _, x, h => ⟨h.2, fun h => h⟩
  | .nils, x, h => ⟨h.2, fun h => h⟩
  | .nilp, x, h => ⟨h.2, fun h => h⟩
  | .nilf, x, h => ⟨h.2, fun h => h⟩
  | .nili, x, h => ⟨h.2, fun h => h⟩
  | .list _ _, x, h => ⟨h.2, fun h => h⟩
  | .clip _ _, x, h => ⟨h.2, fun h => h⟩
  | .own _, x, h => ⟨h.2, fun h => h⟩
  | .ptr _ _, x, h => ⟨h.2, fun h => h⟩
  | .oel _ _ _, x, h => ⟨h.2, fun h => h⟩
  | .bx _ _, x, h => ⟨h.2, fun h => h⟩
  | .ro _ _ _, x, h => ⟨h.2, fun h => h⟩
  | .clo _ _, x, h => ⟨h.2, fun h => h⟩
  | .iface _ _, x, h => ⟨h.2, fun h => h⟩
theorem RepXs.dead : ∀ (vs : List AV) (xs : List Value), RepXs w S vs xs [] → RepAs w S g0 m0 vs xs ∧ (vs.all AV.oneX = true → allOne vs = true)
  | [], xs, h => ⟨h.1, fun _ => rfl⟩
  | v :: vs, xs, h => by
    obtain ⟨u, us, l1, l2, rfl, e, h1, h2⟩ := h
    obtain ⟨rfl, rfl⟩ := List.append_eq_nil_iff.1 e.symm
    obtain ⟨a1, a2⟩ := RepX.dead v u h1
    obtain ⟨b1, b2⟩ := RepXs.dead vs us h2
    refine ⟨⟨u, us, rfl, a1, b1⟩, fun h => ?_⟩
    simp only [List.all_cons, Bool.and_eq_true] at h
    simp only [allOne, List.all_cons, Bool.and_eq_true]
    exact ⟨a2 h.1, by simpa [allOne] using b2 h.2⟩
end

theorem FoundX.one {v v' : AV} {r : List AV} {ns : List (Option Nat)} {xs : List Value} (h : RepAs w S γ m (v :: r) xs) (hv : ∀ u, RepA w S γ m v u → RepX w S v' u (ns.map (locN γ))) (hn : ∀ n, some n ∈ ns → ∃ q, m n = some q ∧ q.live = true) (ho : v.one = true → v'.oneX = true) : FoundX w S γ m [v'] (v :: r) r ns xs := by
  obtain ⟨u, us, rfl, h1, h2⟩ := h
  refine ⟨[u], us, [v], rfl, rfl, ?_, h2, hn, fun h => ?_⟩
  · have := RepXs.cons' (hv u h1) RepXs.nil'
    rwa [List.append_nil] at this
  · simp only [allOne, List.all_cons, List.all_nil, Bool.and_true] at h ⊢
    exact ho h

theorem FoundX.flat {v v' : AV} {r : List AV} {xs : List Value} (h : RepAs w S γ m (v :: r) xs) (hv : ∀ u, RepA w S γ m v u → RepA w S g0 m0 v' u) (hf : flat v' = true) (ho : v.one = true → v'.oneX = true) : FoundX w S γ m [v'] (v :: r) r [] xs :=
  .one h (fun u hu => RepX.of (hv u hu) hf) (fun n hn => by cases hn) ho

theorem deadEnd_some {α : Type} {o : Option (α × List AV × List (Option Nat))} {x : α} (h : deadEnd o = some x) : o = some (x, [], []) := by
  unfold deadEnd at h
  split at h
  · cases h; rfl
  · cases h

theorem wholeX_some {α : Type} {o : Option (α × List AV × List (Option Nat))} {p : α × List (Option Nat)} (h : wholeX o = some p) : o = some (p.1, [], p.2) := by
  unfold wholeX at h
  split at h
  · cases h; rfl
  · cases h

/-- what lies within is a plain value -/
theorem FoundX.within {vs' vs : List AV} {xs : List Value} (h : FoundX w S γ m vs' vs [] [] xs) : RepAs w S g0 m0 vs' xs ∧ (allOne vs = true → allOne vs' = true) := by
  obtain ⟨xs1, xs2, vs1, rfl, e, k1, k2, k3, k4⟩ := h
  simp only [List.append_nil] at e; subst e
  rw [show xs2 = [] from k2, List.append_nil]
  obtain ⟨a, b⟩ := RepXs.dead vs' xs1 k1
  exact ⟨a, fun h => b (k4 h)⟩

theorem encX : ∀ {t : Ty} {x : t.T} {cs : List Value}, RepT w S t x cs → RepXs w S (enc t x) cs []
  | .int _, _, _, h => by rw [show _ = _ from h]; exact RepXs.cons' (l1 := []) ⟨rfl, rfl⟩ RepXs.nil'
  | .bool, _, _, h => by rw [show _ = _ from h]; exact RepXs.cons' (l1 := []) ⟨rfl, rfl⟩ RepXs.nil'
  | .str, _, _, h => by rw [show _ = _ from h]; exact RepXs.cons' (l1 := []) ⟨rfl, rfl⟩ RepXs.nil'
  | .unit, _, _, h => by rw [show _ = _ from h]; exact RepXs.nil'
  | .pair a b, x, _, h => by
    obtain ⟨c, d, rfl, h1, h2⟩ := h
    exact (encX h1).append' (encX h2)
  | .list t, xs, cs, h => by
    have h' := h
    obtain ⟨ao, cap, rfl, _⟩ := h
    exact RepXs.cons' (l1 := []) ⟨rfl, h'⟩ RepXs.nil'

theorem oneX_enc : ∀ (t : Ty) (x : t.T), (enc t x).all AV.oneX = true
  | .int _, _ => rfl
  | .bool, _ => rfl
  | .str, _ => rfl
  | .unit, _ => rfl
  | .pair a b, x => by simp only [enc, List.all_append, oneX_enc a x.1, oneX_enc b x.2, Bool.and_self]
  | .list _, _ => rfl

theorem getX_rep (hm : MemRel w S γ m base) (s : RS) : ∀ (vs r : List AV) (x : s.T) (ns : List (Option Nat)) (xs : List Value), getX m s vs = some (x, r, ns) → RepAs w S γ m vs xs → FoundX w S γ m (mkX s x) vs r ns xs := by
  induction s with
  | nil =>
    intro vs r x ns xs h hv
    simp only [getX, Option.some.injEq, Prod.mk.injEq] at h
    obtain ⟨_, rfl, rfl⟩ := h
    exact ⟨[], xs, [], rfl, rfl, RepXs.nil', hv, fun n hn => (by cases hn), fun _ => rfl⟩
  | cons a b iha ihb =>
    intro vs r x ns xs h hv
    simp only [getX] at h
    split at h
    · rename_i x1 r1 n1 h1
      split at h
      · rename_i y1 r2 n2 h2
        cases h
        obtain ⟨xs1, xs2, vs1, rfl, rfl, k1, k2, k3, k4⟩ := iha vs r1 x1 n1 xs h1 hv
        obtain ⟨ys1, ys2, us1, rfl, rfl, l1, l2, l3, l4⟩ := ihb r1 r y1 n2 xs2 h2 k2
        refine ⟨xs1 ++ ys1, ys2, vs1 ++ us1, by simp, by simp, ?_, l2, fun n hn => ?_, fun h => ?_⟩
        · rw [List.map_append]; exact k1.append' l1
        · rcases List.mem_append.1 hn with hn | hn
          · exact k3 n hn
          · exact l3 n hn
        · rw [allOne_append, Bool.and_eq_true] at h
          show (mkX a x1 ++ mkX b y1).all AV.oneX = true
          rw [List.all_append, Bool.and_eq_true]
          exact ⟨k4 h.1, l4 h.2⟩
      · cases h
    · cases h
  | int k =>
    intro vs r x ns xs h hv
    cases vs with
    | nil => simp [getX] at h
    | cons v vs =>
      cases v <;> simp only [getX] at h <;> try (cases h; done)
      split at h
      · rename_i e _
        obtain ⟨e⟩ := e
        subst e
        cases h
        exact .flat hv (fun _ h => h) rfl fun h => h
      · cases h
  | bool =>
    intro vs r x ns xs h hv
    cases vs with
    | nil => simp [getX] at h
    | cons v vs =>
      cases v <;> simp only [getX] at h <;> try (cases h; done)
      cases h
      exact .flat hv (fun _ h => h) rfl fun h => h
  | str =>
    intro vs r x ns xs h hv
    cases vs with
    | nil => simp [getX] at h
    | cons v vs =>
      cases v <;> simp only [getX] at h <;> try (cases h; done)
      cases h
      exact .flat hv (fun _ h => h) rfl fun h => h
  | list t =>
    intro vs r x ns xs h hv
    cases vs with
    | nil => simp [getX] at h
    | cons v vs =>
      simp only [getX] at h
      split at h
      · rename_i ys hys
        cases h
        exact .flat hv (fun u hu => asList_rep hm hys hu) rfl fun _ => rfl
      · cases h
  | val t =>
    intro vs r x ns xs h hv
    cases vs with
    | nil => simp [getX] at h
    | cons v vs =>
      cases v <;> simp only [getX] at h <;> try (cases h; done)
      rename_i cs
      split at h
      · rename_i y hy
        cases h
        obtain ⟨u, us, rfl, ⟨zs, h1, h2, h3⟩, h4⟩ := hv
        refine ⟨[u], us, [.agg cs], rfl, rfl, ?_, h4, fun n hn => (by cases hn), fun h => h⟩
        exact RepXs.cons' (c := .agg (enc t x)) (l1 := []) ⟨zs, h1, encX (dec_rep hm hy h2), oneX_enc t x⟩ RepXs.nil'
      · cases h
  | fresh t =>
    intro vs r x ns xs h hv
    cases vs with
    | nil => simp [getX] at h
    | cons v vs =>
      cases v <;> simp only [getX] at h <;> try (cases h; done)
      · cases h
        refine .one hv (fun u hu => ?_) (fun n hn => by simp at hn) fun _ => rfl
        simp only [RepA] at hu
        exact ⟨⟨none, 0⟩, rfl, hu, ⟨Nat.le_refl _, Nat.zero_le _, fun _ => rfl, fun a ha => by cases ha⟩⟩
      · rename_i n
        split at h
        · rename_i t' ys hn
          split at h
          · rename_i zs hz
            cases h
            have e := castL_self_eq (s := .live) hz
            rw [e] at hn
            refine .one hv (fun u hu => ?_) (fun k hk => ?_) fun _ => rfl
            · obtain ⟨t0, xs0, s0, h1, h2⟩ := hu
              rw [hn] at h1; cases h1
              exact ⟨γ n, rfl, h2, hm.obj n _ hn⟩
            · simp only [List.mem_singleton, Option.some.injEq] at hk
              subst hk
              exact ⟨_, hn, rfl⟩
          · cases h
        · cases h
  | ro t off =>
    intro vs r x ns xs h hv
    cases vs with
    | nil => simp [getX] at h
    | cons v vs =>
      cases v <;> simp only [getX] at h <;> try (cases h; done)
      rcases bif_some h with ⟨e, h⟩ | ⟨_, h⟩
      · split at h
        · rename_i y hy
          cases h
          obtain ⟨e', rfl⟩ := castE_self hy
          subst e'
          have := Nat.eq_of_beq_eq_true e
          subst this
          exact .flat hv (fun _ h => h) rfl fun h => h
        · cases h
      · cases h
  | nilp =>
    intro vs r x ns xs h hv
    cases vs with
    | nil => simp [getX] at h
    | cons v vs =>
      cases v <;> simp only [getX] at h <;> try (cases h; done)
      cases h
      exact .flat hv (fun _ h => h) rfl fun h => h
  | nili =>
    intro vs r x ns xs h hv
    cases vs with
    | nil => simp [getX] at h
    | cons v vs =>
      cases v <;> simp only [getX] at h <;> try (cases h; done)
      cases h
      exact .flat hv (fun _ h => h) rfl fun h => h
  | nilf =>
    intro vs r x ns xs h hv
    cases vs with
    | nil => simp [getX] at h
    | cons v vs =>
      cases v <;> simp only [getX] at h <;> try (cases h; done)
      cases h
      exact .flat hv (fun _ h => h) rfl fun h => h
  | agg l ih =>
    intro vs r x ns xs h hv
    cases vs with
    | nil => simp [getX] at h
    | cons v vs =>
      cases v <;> simp only [getX] at h <;> try (cases h; done)
      rename_i cs
      split at h
      · rename_i y n1 hy
        cases h
        have hk := fun us h2 => ih cs [] _ _ us (wholeX_some hy) h2
        obtain ⟨u0, us0, rfl, ⟨us, h1, h2, h3⟩, h4⟩ := hv
        obtain ⟨xs1, xs2, vs1, rfl, e, k1, k2, k3, k4⟩ := hk us h2
        simp only [List.append_nil] at e; subst e
        rw [show xs2 = [] from k2, List.append_nil] at h1
        refine ⟨[u0], us0, [.agg _], rfl, rfl, ?_, h4, k3, fun h => h⟩
        have := RepXs.cons' (c := .agg (mkX l x)) (u := u0) (w := w) (S := S) ⟨xs1, h1, k1, k4 h3⟩ RepXs.nil'
        rwa [List.append_nil] at this
      · cases h
  | tup l ih =>
    intro vs r x ns xs h hv
    cases vs with
    | nil => simp [getX] at h
    | cons v vs =>
      cases v <;> simp only [getX] at h <;> try (cases h; done)
      rename_i cs
      split at h
      · rename_i y n1 hy
        cases h
        have hk := fun us h2 => ih cs [] _ _ us (wholeX_some hy) h2
        obtain ⟨u0, us0, rfl, ⟨us, h1, h2⟩, h4⟩ := hv
        obtain ⟨xs1, xs2, vs1, rfl, e, k1, k2, k3, k4⟩ := hk us h2
        rw [show xs2 = [] from k2, List.append_nil] at h1
        refine ⟨[u0], us0, [.tup _], rfl, rfl, ?_, h4, k3, fun h => h⟩
        have := RepXs.cons' (c := .tup (mkX l x)) (u := u0) (w := w) (S := S) ⟨xs1, h1, k1⟩ RepXs.nil'
        rwa [List.append_nil] at this
      · cases h
  | clo f l ih =>
    intro vs r x ns xs h hv
    cases vs with
    | nil => simp [getX] at h
    | cons v vs =>
      cases v <;> simp only [getX] at h <;> try (cases h; done)
      rename_i f' cs
      rcases bif_some h with ⟨e, h⟩ | ⟨_, h⟩
      · have := Nat.eq_of_beq_eq_true e
        subst this
        split at h
        · rename_i y hy
          cases h
          refine .flat hv (fun u hu => ?_) rfl fun h => h
          obtain ⟨us, h1, h2⟩ := hu
          exact ⟨us, h1, (ih cs [] _ _ us (deadEnd_some hy) h2).within.1⟩
        · cases h
      · cases h
  | iface t a ih =>
    intro vs r x ns xs h hv
    cases vs with
    | nil => simp [getX] at h
    | cons v vs =>
      cases v <;> simp only [getX] at h <;> try (cases h; done)
      rename_i t' y
      rcases bif_some h with ⟨e, h⟩ | ⟨_, h⟩
      · have := Nat.eq_of_beq_eq_true e
        subst this
        split at h
        · rename_i z hz
          cases h
          obtain ⟨u, us, rfl, ⟨u', h1, h2⟩, h3⟩ := hv
          have hk := (ih [y] [] _ _ [u'] (deadEnd_some hz) (.one h2)).within.1
          have hlen := hk.length
          have he : ∃ v', mkX a x = [v'] := by
            cases hq : mkX a x with
            | nil => rw [hq] at hlen; simp at hlen
            | cons v' q => rw [hq] at hlen; cases q with
              | nil => exact ⟨v', rfl⟩
              | cons _ _ => simp at hlen
          obtain ⟨v', he⟩ := he
          have hmk : mkX (.iface t' a) x = [.iface t' v'] := by simp only [mkX]; rw [he]
          rw [hmk]
          rw [he] at hk
          obtain ⟨q, e, k1⟩ := hk.one'
          cases e
          refine ⟨[u], us, [.iface t' y], rfl, rfl, ?_, h3, fun n hn => (by cases hn), fun _ => rfl⟩
          exact RepXs.cons' (l1 := []) (RepX.of (v := .iface t' v') ⟨u', h1, k1⟩ rfl) RepXs.nil'
        · cases h
      · cases h
  | bx l off ih =>
    intro vs r x ns xs h hv
    cases vs with
    | nil => simp [getX] at h
    | cons v vs =>
      cases v <;> simp only [getX] at h <;> try (cases h; done)
      · rename_i n off'
        rcases bif_some h with ⟨e, h⟩ | ⟨_, h⟩
        · have := Nat.eq_of_beq_eq_true e
          subst this
          split at h
          · rename_i cs hn
            split at h
            · rename_i y hy
              cases h
              refine .flat hv (fun u hu => ?_) rfl fun h => rfl
              obtain ⟨cs0, s0, b, j1, j2, j3⟩ := hu
              obtain ⟨b', us, el', g1, g2, g3, g4, g5, g6⟩ := hm.obj n _ hn
              rw [j2] at g1; cases g1
              obtain ⟨i1, i2⟩ := (ih cs [] _ _ us (deadEnd_some hy) g3).within
              exact ⟨b, us, j3, g6 (by simp), i1, i2 g4, fun j u hj => by rw [Nat.zero_add, cell_of_row w b j _ _ _ g2]; simpa using hj⟩
            · cases h
          · cases h
        · cases h
      · rename_i cs off'
        rcases bif_some h with ⟨e, h⟩ | ⟨_, h⟩
        · have := Nat.eq_of_beq_eq_true e
          subst this
          split at h
          · rename_i y hy
            cases h
            refine .flat hv (fun u hu => ?_) rfl fun h => h
            obtain ⟨b, us, h1, h2, h3, h4, h5⟩ := hu
            obtain ⟨i1, i2⟩ := (ih cs [] _ _ us (deadEnd_some hy) h3).within
            exact ⟨b, us, h1, h2, i1, i2 h4, h5⟩
          · cases h
        · cases h

theorem hasN_spec {n : Nat} : ∀ {l : List (Option Nat)}, hasN n l = false → some n ∉ l
  | [], _, h => by cases h
  | some k :: l, hn, h => by
    simp only [hasN, Bool.or_eq_false_iff] at hn
    rcases List.mem_cons.1 h with e | h
    · cases e; rw [Nat.beq_refl] at hn; cases hn.1
    · exact hasN_spec hn.2 h
  | none :: l, hn, h => by
    simp only [hasN] at hn
    rcases List.mem_cons.1 h with e | h
    · cases e
    · exact hasN_spec hn h

theorem locs_ok (hm : MemRel w S γ m base) : ∀ {ns : List (Option Nat)}, onceN ns = true → (∀ n, some n ∈ ns → ∃ q, m n = some q ∧ q.live = true) → Locs base (ns.map (locN γ))
  | [], _, _ => ⟨fun _ h => (by cases h), List.Pairwise.nil⟩
  | none :: ns, h, hl => by
    have ih := locs_ok hm (ns := ns) h fun n hn => hl n (List.mem_cons_of_mem _ hn)
    refine ⟨fun l hl b hb => ?_, ?_⟩
    · simp only [List.map_cons, List.mem_cons] at hl
      rcases hl with rfl | hl
      · cases hb
      · exact ih.new l hl b hb
    · simp only [List.map_cons, List.pairwise_cons]
      exact ⟨fun l' _ b hb => (by cases hb), ih.once⟩
  | some n :: ns, h, hl => by
    simp only [onceN, Bool.and_eq_true, Bool.not_eq_true'] at h
    have ih := locs_ok hm (ns := ns) h.2 fun n hn => hl n (List.mem_cons_of_mem _ hn)
    obtain ⟨q, hq, hlq⟩ := hl n (by simp)
    refine ⟨fun l hl b hb => ?_, ?_⟩
    · simp only [List.map_cons, List.mem_cons] at hl
      rcases hl with rfl | hl
      · exact hm.high n q b hq hlq hb
      · exact ih.new l hl b hb
    · simp only [List.map_cons, List.pairwise_cons]
      refine ⟨fun l' hl' b hb hb' => ?_, ih.once⟩
      simp only [List.mem_map] at hl'
      obtain ⟨o, ho, rfl⟩ := hl'
      cases o with
      | none => cases hb'
      | some k =>
        obtain ⟨q', hq', hlq'⟩ := hl k (List.mem_cons_of_mem _ ho)
        have hne : n ≠ k := fun e => hasN_spec h.1 (e ▸ ho)
        exact hm.apart n k q q' b hq hq' hlq hlq' hne hb hb'

theorem get1_ok (hm : MemRel w S γ m base) {s : RS} {v : AV} {x : s.T} {u : Value} (h : get1 m s v = some x) (hv : RepA w S γ m v u) : ∃ v' ls, mkX s x = [v'] ∧ RepX w S v' u ls ∧ Locs base ls := by
  unfold get1 at h
  split at h
  · rename_i y ns hy
    rcases bif_some h with ⟨ho, h⟩ | ⟨_, h⟩
    · cases h
      obtain ⟨xs1, xs2, vs1, e, e', k1, k2, k3, k4⟩ := getX_rep hm s [v] [] _ _ [u] (wholeX_some hy) (.one hv)
      rw [show xs2 = [] from k2, List.append_nil] at e
      subst e
      cases hq : mkX s x with
      | nil => simp only [hq] at k1; obtain ⟨e, _⟩ := k1; cases e
      | cons v' q =>
        simp only [hq] at k1
        obtain ⟨a, b, l1, l2, e, e2, i1, i2⟩ := k1
        cases e
        cases q with
        | cons _ _ => obtain ⟨_, _, _, _, e, _⟩ := i2; cases e
        | nil =>
          obtain ⟨_, rfl⟩ := i2
          rw [List.append_nil] at e2
          subst e2
          exact ⟨v', _, rfl, i1, locs_ok hm ho k3⟩
    · cases h
  · cases h

theorem getRes_ok (hm : MemRel w S γ m base) {v : AV} {u : Value} (hv : RepA w S γ m v u) {K : AV → Option R} {r : R} : ∀ {l : List RS} {o : RS} {x : resT o l}, getRes m o l v = some x → outRes o l x K = some r → ∃ v' ls, K v' = some r ∧ RepX w S v' u ls ∧ Locs base ls
  | [], o, x, h, ho => by
    obtain ⟨v', ls, e, h1, h2⟩ := get1_ok hm h hv
    have ho : one1 (mkX o x) K = some r := ho
    rw [e] at ho
    exact ⟨v', ls, ho, h1, h2⟩
  | o' :: l, o, x, h, ho => by
    simp only [getRes] at h
    split at h
    · rename_i y hy
      cases h
      obtain ⟨v', ls, e, h1, h2⟩ := get1_ok hm hy hv
      have ho : one1 (mkX o y) K = some r := ho
      rw [e] at ho
      exact ⟨v', ls, ho, h1, h2⟩
    · split at h
      · rename_i y hy
        cases h
        exact getRes_ok hm hv hy ho
      · cases h

end res
end Go.Dv
