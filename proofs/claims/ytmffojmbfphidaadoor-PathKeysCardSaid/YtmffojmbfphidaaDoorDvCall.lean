/- Calls: what a contract says, what a callee sees of its arguments, and how its result is taken over. -/
import Derived.Test.YtmffojmbfphidaaDoorDvNat
set_option linter.all false
namespace Go.Dv
open Go.RowKit

variable [LTab]

variable {R : Type}

def g0 : Nat → Loc := fun _ => ⟨none, 0⟩
def m0 : Nat → Option MO := fun _ => none

def AV.oneX : AV → Bool
  | .fresh _ _ => true
  | v => v.one

mutual
/-- a callee's result: what of it is handed over lies in the places `ls` -/
def RepX (w : World) (S : Nat → Prop) : AV → Value → List Loc → Prop
  | .fresh t xs, v, ls => ∃ l, ls = [l] ∧ v = .slice l.a xs.length l.cap ∧ RowRel w S l t xs .live
  | .agg cs, v, ls => ∃ vs, v = .agg (List.toArray vs) ∧ RepXs w S cs vs ls ∧ cs.all AV.oneX = true
  | .tup cs, v, ls => ∃ vs, v = .tuple (List.toArray vs) ∧ RepXs w S cs vs ls
  | x, v, ls => ls = [] ∧ RepA w S g0 m0 x v
def RepXs (w : World) (S : Nat → Prop) : List AV → List Value → List Loc → Prop
  | [], vs, ls => vs = [] ∧ ls = []
  | c :: cs, vs, ls => ∃ u us l1 l2, vs = u :: us ∧ ls = l1 ++ l2 ∧ RepX w S c u l1 ∧ RepXs w S cs us l2
end

/-- new places, each one once -/
structure Locs (B : Nat → Prop) (ls : List Loc) : Prop where
  new : ∀ l, l ∈ ls → ∀ b, l.blk = some b → ¬ B b
  once : ls.Pairwise fun l l' => ∀ b, l.blk = some b → l'.blk ≠ some b

/-- what a contract says of a function: where `c` has an answer, the call comes to it, and leaves all that was there as it was -/
def SoundF (P : Program) (f : FuncId) (c : List AV → Option AV) : Prop :=
  ∀ (w : World) (S : Nat → Prop) (as : List AV) (vals : List Value) (r : AV), (∀ b, S b → b < w.heap.size) → RepAs w S g0 m0 as vals → c as = some r →
    (∀ w' (args : Array Value), (callFunc f args).run P w' = .ok (.enter f args) w') ∧
    Calls P f vals.toArray w fun e w' => ∃ v S' ls, e = .returned v ∧ Below w.heap.size w w' ∧ (∀ b, S b → S' b) ∧ (∀ b, S' b → S b ∨ (w.heap.size ≤ b ∧ b < w'.heap.size)) ∧ RepX w' S' r v ls ∧ Locs (fun k => k < w.heap.size) ls

/-! ## what a callee sees -/
section see
variable {w : World} {S S' : Nat → Prop} {γ : Nat → Loc} {m : Nat → Option MO} {base : Nat → Prop} {lv : Bool} (hm : MemRel w S γ m base) (hS : ∀ b, S b → S' b) (hlv : lv = true → ∀ b, b < w.heap.size → S' b)

theorem mapO_rep {f : AV → Option AV} (hf : ∀ v v' x, f v = some v' → RepA w S γ m v x → RepA w S' g0 m0 v' x ∧ (v.one = true → v'.one = true)) :
    ∀ (vs : List AV) (vs' : List AV) (xs : List Value), mapO f vs = some vs' → RepAs w S γ m vs xs → RepAs w S' g0 m0 vs' xs ∧ (allOne vs = true → allOne vs' = true)
  | [], vs', xs, h, hr => by
    simp only [mapO, Option.some.injEq] at h
    subst h
    exact ⟨hr, fun h => h⟩
  | v :: vs, vs', xs, h, hr => by
    obtain ⟨u, us, rfl, h1, h2⟩ := hr
    simp only [mapO] at h
    split at h
    · rename_i v' hv'
      split at h
      · rename_i us' hus'
        cases h
        obtain ⟨a1, a2⟩ := hf v v' u hv' h1
        obtain ⟨b1, b2⟩ := mapO_rep hf vs us' us hus' h2
        refine ⟨⟨u, us, rfl, a1, b1⟩, fun h => ?_⟩
        simp only [allOne, List.all_cons, Bool.and_eq_true] at h ⊢
        exact ⟨a2 h.1, by simpa [allOne] using b2 (by simpa [allOne] using h.2)⟩
      · cases h
    · cases h

include hm hS hlv in
theorem seeV_rep : ∀ (k : Nat) (v v' : AV) (x : Value), seeV lv m k v = some v' → RepA w S γ m v x → RepA w S' g0 m0 v' x ∧ (v.one = true → v'.one = true)
  | 0, _, _, _, h, _ => by cases h
  | k + 1, v, v', x, h, hr => by
    have ih := mapO_rep (seeV_rep k)
    have mono : ∀ {t : Ty} {xs : List t.T} {x : Value}, RepT w S (.list t) xs [x] → RepT w S' (.list t) xs [x] := fun h => RepT.mono (fun _ _ => rfl) hS _ _ _ h
    cases v <;> simp only [seeV] at h
    case undef => cases h
    case fresh => cases h
    case oel => cases h
    case yld => cases h
    case int => cases h; exact ⟨hr, fun h => h⟩
    case bool => cases h; exact ⟨hr, fun h => h⟩
    case str => cases h; exact ⟨hr, fun h => h⟩
    case nils => cases h; exact ⟨hr, fun h => h⟩
    case nilp => cases h; exact ⟨hr, fun h => h⟩
    case nilf => cases h; exact ⟨hr, fun h => h⟩
    case nili => cases h; exact ⟨hr, fun h => h⟩
    case list => cases h; exact ⟨mono hr, fun h => h⟩
    case clip => cases h; exact ⟨⟨hr.1, mono hr.2⟩, fun h => h⟩
    case own n =>
      obtain ⟨t0, xs0, s0, k1, k2⟩ := hr
      split at h
      · rename_i t xs hn
        rw [k1] at hn; cases hn; cases h
        have hob : RowRel w S (γ n) _ _ .still := hm.obj n _ k1
        refine ⟨?_, fun _ => rfl⟩
        rw [k2]
        refine row_rep hob hS fun a ha => ?_
        obtain ⟨b, _, _, _, e1, _, _, _, _, _, e7⟩ := hob.row a ha
        subst e1; exact hS _ (e7 rfl)
      · rename_i t xs hn
        rw [k1] at hn; cases hn
        rcases bif_some h with ⟨hl, h⟩ | ⟨_, h⟩
        · cases h
          have hob : RowRel w S (γ n) _ _ .live := hm.obj n _ k1
          refine ⟨?_, fun _ => rfl⟩
          rw [k2]
          refine row_rep hob hS fun a ha => ?_
          obtain ⟨b, _, _, _, e1, e2, _⟩ := hob.row a ha
          subst e1; exact hlv hl _ (heap_lt e2)
        · cases h
      · cases h
    case ptr n off =>
      obtain ⟨cs0, s0, b, k1, k2, k3⟩ := hr
      have fin : ∀ {cs cs' : List AV} {s : Stat}, m n = some (.box cs s) → (s = .live → S' b) → mapO (seeV lv m k) cs = some cs' → RepA w S' g0 m0 (.bx cs' off) x := by
        intro cs cs' s hn hs hcs
        obtain ⟨b', vs, el', h1, h2, h3, h4, h5, h6⟩ := hm.obj n _ hn
        rw [k2] at h1; cases h1
        obtain ⟨i1, i2⟩ := ih cs cs' vs hcs h3
        refine ⟨b, vs, k3, ?_, i1, i2 h4, fun j u hj => ?_⟩
        · by_cases e : s = .live
          · exact hs e
          · exact hS _ (h6 e)
        · rw [Nat.zero_add, cell_of_row w b j _ _ _ h2]; simpa using hj
      split at h
      · rename_i cs hn
        split at h
        · rename_i cs' hcs
          cases h
          exact ⟨fin hn (fun e => by cases e) hcs, fun _ => rfl⟩
        · cases h
      · rename_i cs hn
        rcases bif_some h with ⟨hl, h⟩ | ⟨_, h⟩
        · split at h
          · rename_i cs' hcs
            cases h
            refine ⟨fin hn (fun _ => ?_) hcs, fun _ => rfl⟩
            obtain ⟨b', vs, el', h1, h2, _⟩ := hm.obj n _ hn
            rw [k2] at h1; cases h1
            exact hlv hl _ (heap_lt h2)
          · cases h
        · cases h
      · cases h
    case bx cs off =>
      obtain ⟨b, vs, h1, h2, h3, h4, h5⟩ := hr
      split at h
      · rename_i cs' hcs
        cases h
        obtain ⟨i1, i2⟩ := ih cs cs' vs hcs h3
        exact ⟨⟨b, vs, h1, hS _ h2, i1, i2 h4, h5⟩, fun _ => rfl⟩
      · cases h
    case ro t y off =>
      cases h
      obtain ⟨b, o, cs, h1, h2, h3, h4⟩ := hr
      exact ⟨⟨b, o, cs, h1, hS _ h2, RepT.mono (fun _ _ => rfl) hS _ _ _ h3, h4⟩, fun h => h⟩
    case clo f caps =>
      obtain ⟨vs, h1, h2⟩ := hr
      split at h
      · rename_i cs' hcs
        cases h
        exact ⟨⟨vs, h1, (ih caps cs' vs hcs h2).1⟩, fun _ => rfl⟩
      · cases h
    case iface t y =>
      obtain ⟨u, h1, h2⟩ := hr
      split at h
      · rename_i y' hy
        cases h
        exact ⟨⟨u, h1, (seeV_rep k y y' u hy h2).1⟩, fun _ => rfl⟩
      · cases h
    case agg cs =>
      obtain ⟨vs, h1, h2, h3⟩ := hr
      split at h
      · rename_i cs' hcs
        cases h
        obtain ⟨i1, i2⟩ := ih cs cs' vs hcs h2
        exact ⟨⟨vs, h1, i1, i2 h3⟩, fun h => by cases h⟩
      · cases h
    case tup cs =>
      obtain ⟨vs, h1, h2⟩ := hr
      split at h
      · rename_i cs' hcs
        cases h
        exact ⟨⟨vs, h1, (ih cs cs' vs hcs h2).1⟩, fun h => by cases h⟩
      · cases h

end see

theorem noList_rep {w : World} {S S' : Nat → Prop} : ∀ (t : Ty) (x : t.T) (cs : List Value), noList t = true → RepT w S t x cs → RepT w S' t x cs
  | .int _, _, _, _, h => h
  | .bool, _, _, _, h => h
  | .str, _, _, _, h => h
  | .unit, _, _, _, h => h
  | .pair a b, x, cs, hn, h => by
    simp only [noList, Bool.and_eq_true] at hn
    obtain ⟨c, d, rfl, h1, h2⟩ := h
    exact ⟨c, d, rfl, noList_rep a _ _ hn.1 h1, noList_rep b _ _ hn.2 h2⟩
  | .list _, _, _, hn, _ => by cases hn

mutual
theorem scal_rep {w : World} {S S' : Nat → Prop} (hS : ∀ b, S' b → S b) : ∀ (v : AV) (x : Value) (ls : List Loc), scal v = true → RepX w S v x ls → RepX w S' v x ls
  | .int _ _, _, _, _, h => h
  | .bool _, _, _, _, h => h
  | .str _, _, _, _, h => h
  | .nils, _, _, _, h => h
  | .nilp, _, _, _, h => h
  | .nilf, _, _, _, h => h
  | .nili, _, _, _, h => h
  | .fresh t xs, _, _, hs, h => by
    obtain ⟨l, rfl, rfl, hr⟩ := h
    refine ⟨l, rfl, rfl, hr.len, hr.cap, hr.nil, fun a ha => ?_⟩
    obtain ⟨b, arr, el, fz, h1, h2, h3, h4, h5, h6, h7⟩ := hr.row a ha
    refine ⟨b, arr, el, fz, h1, h2, h3, h4, fun i y hy => ?_, fun e hb => h6 e (hS b hb), fun e => by cases e⟩
    obtain ⟨c, k1, k2⟩ := h5 i y hy
    exact ⟨c, noList_rep t y c hs k1, k2⟩
  | .agg cs, _, ls, hs, h => by
    obtain ⟨vs, h1, h2, h3⟩ := h
    exact ⟨vs, h1, scalL_rep hS cs vs ls hs h2, h3⟩
  | .tup cs, _, ls, hs, h => by
    obtain ⟨vs, h1, h2⟩ := h
    exact ⟨vs, h1, scalL_rep hS cs vs ls hs h2⟩
  | .undef, _, _, hs, _ => by cases hs
  | .list _ _, _, _, hs, _ => by cases hs
  | .clip _ _, _, _, hs, _ => by cases hs
  | .own _, _, _, hs, _ => by cases hs
  | .ptr _ _, _, _, hs, _ => by cases hs
  | .oel _ _ _, _, _, hs, _ => by cases hs
  | .bx _ _, _, _, hs, _ => by cases hs
  | .ro _ _ _, _, _, hs, _ => by cases hs
  | .clo _ _, _, _, hs, _ => by cases hs
  | .iface _ _, _, _, hs, _ => by cases hs
  | .yld _, _, _, hs, _ => by cases hs
theorem scalL_rep {w : World} {S S' : Nat → Prop} (hS : ∀ b, S' b → S b) : ∀ (vs : List AV) (xs : List Value) (ls : List Loc), scalL vs = true → RepXs w S vs xs ls → RepXs w S' vs xs ls
  | [], _, _, _, h => h
  | v :: vs, xs, ls, hs, h => by
    simp only [scalL, Bool.and_eq_true] at hs
    obtain ⟨u, us, l1, l2, rfl, rfl, h1, h2⟩ := h
    exact ⟨u, us, l1, l2, rfl, rfl, scal_rep hS v u l1 hs.1 h1, scalL_rep hS vs us l2 hs.2 h2⟩
end

/-! ## taking a result over -/
theorem MemRel.addHere {w : World} {S : Nat → Prop} {γ : Nat → Loc} {m : Nat → Option MO} {base : Nat → Prop} {d : Nat} {ob : MO} {l : Loc} (h : MemRel w S γ m base) (hfree : ∀ b, l.blk = some b → ¬ base b ∧ ∀ k q, m k = some q → q.live = true → (γ k).blk ≠ some b)
    (hd : m d = none) (ho : ObjRel w S (gupd γ d l) (mupd m d ob) d ob) : MemRel w S (gupd γ d l) (mupd m d ob) base := by
  refine ⟨fun k q hq => ?_, h.low, ?_, ?_⟩
  · by_cases e : k = d
    · subst e; rw [mupd_same] at hq; cases hq; exact ho
    · rw [mupd_ne _ _ e] at hq
      exact ObjRel.grow (h.obj k q hq) h.low (Below.refl _ _) (Keeps.new hd) (gupd_ne _ _ e)
  · intro k k' q q' c hq hq' hlq hlq' hne hc hc'
    by_cases e : k = d
    · subst e
      have e' : k' ≠ k := fun e => hne e.symm
      rw [gupd_same] at hc; rw [mupd_ne _ _ e'] at hq'; rw [gupd_ne _ _ e'] at hc'
      exact (hfree c hc).2 k' q' hq' hlq' hc'
    · by_cases e' : k' = d
      · subst e'
        rw [gupd_same] at hc'; rw [mupd_ne _ _ e] at hq; rw [gupd_ne _ _ e] at hc
        exact (hfree c hc').2 k q hq hlq hc
      · rw [mupd_ne _ _ e] at hq; rw [gupd_ne _ _ e] at hc; rw [mupd_ne _ _ e'] at hq'; rw [gupd_ne _ _ e'] at hc'
        exact h.apart k k' q q' c hq hq' hlq hlq' hne hc hc'
  · intro k q c hq hlq hc
    by_cases e : k = d
    · subst e; rw [gupd_same] at hc; exact (hfree c hc).1
    · rw [mupd_ne _ _ e] at hq; rw [gupd_ne _ _ e] at hc; exact h.high k q c hq hlq hc

def Free (base : Nat → Prop) (γ : Nat → Loc) (m : Nat → Option MO) (ls : List Loc) : Prop :=
  (∀ l, l ∈ ls → ∀ b, l.blk = some b → ¬ base b ∧ ∀ k q, m k = some q → q.live = true → (γ k).blk ≠ some b) ∧ ls.Pairwise fun l l' => ∀ b, l.blk = some b → l'.blk ≠ some b

/-- what has come to the memory, and what there was -/
structure Took (w : World) (S : Nat → Prop) (base : Nat → Prop) (γ : Nat → Loc) (m : Nat → Option MO) (ls : List Loc) (γ' : Nat → Loc) (m' : Nat → Option MO) : Prop where
  mem : MemRel w S γ' m' base
  keeps : Keeps m γ m' γ'
  live : ∀ k q b, m' k = some q → q.live = true → (γ' k).blk = some b → (∃ q0, m k = some q0 ∧ q0.live = true ∧ (γ k).blk = some b) ∨ ∃ l, l ∈ ls ∧ l.blk = some b

theorem nm_inj {d k k' : Nat} (h : nm d k = nm d k') : k = k' := by unfold nm at h; omega

theorem mupdL_append (m : Nat → Option MO) (d : Nat) : ∀ (os os' : List MO) (k : Nat), mupdL m d k (os ++ os') = mupdL (mupdL m d k os) d (k + os.length) os'
  | [], os', k => by simp [mupdL]
  | o :: os, os', k => by
    simp only [List.cons_append, mupdL, List.length_cons]
    rw [mupdL_append (mupd m (nm d k) o) d os os' (k + 1)]
    congr 1; omega

theorem mupdL_other (d : Nat) : ∀ (os : List MO) (m : Nat → Option MO) (k n : Nat), (∀ i, k ≤ i → n ≠ nm d i) → mupdL m d k os n = m n
  | [], _, _, _, _ => rfl
  | o :: os, m, k, n, h => by
    simp only [mupdL]
    rw [mupdL_other d os _ (k + 1) n (fun i hi => h i (by omega)), mupd_ne _ _ (h k (Nat.le_refl _))]

theorem mupdL_len (d : Nat) : ∀ (os : List MO) (m : Nat → Option MO) (k i : Nat), k + os.length ≤ i → mupdL m d k os (nm d i) = m (nm d i)
  | [], _, _, _, _ => rfl
  | o :: os, m, k, i, h => by
    simp only [List.length_cons] at h
    simp only [mupdL]
    rw [mupdL_len d os _ (k + 1) i (by omega), mupd_ne _ _ (fun e => by have := nm_inj e; omega)]

theorem freeL_append (m : Nat → Option MO) (d : Nat) : ∀ (os os' : List MO) (k : Nat), freeL m d k (os ++ os') = true → freeL m d k os = true ∧ freeL m d (k + os.length) os' = true
  | [], os', k, h => ⟨rfl, by simpa using h⟩
  | o :: os, os', k, h => by
    simp only [List.cons_append, freeL, Bool.and_eq_true] at h
    obtain ⟨a, b⟩ := freeL_append m d os os' (k + 1) h.2
    refine ⟨by simp only [freeL, Bool.and_eq_true]; exact ⟨h.1, a⟩, ?_⟩
    simp only [List.length_cons]
    have : k + (os.length + 1) = k + 1 + os.length := by omega
    rw [this]; exact b

theorem freeL_congr (d : Nat) : ∀ (os : List MO) (m m' : Nat → Option MO) (k : Nat), (∀ i, k ≤ i → m' (nm d i) = m (nm d i)) → freeL m d k os = true → freeL m' d k os = true
  | [], _, _, _, _, _ => rfl
  | o :: os, m, m', k, he, h => by
    simp only [freeL, Bool.and_eq_true] at h ⊢
    exact ⟨by rw [he k (Nat.le_refl _)]; exact h.1, freeL_congr d os m m' (k + 1) (fun i hi => he i (by omega)) h.2⟩

theorem Took.refl {w : World} {S : Nat → Prop} {base : Nat → Prop} {γ : Nat → Loc} {m : Nat → Option MO} (h : MemRel w S γ m base) : Took w S base γ m [] γ m :=
  ⟨h, Keeps.refl _ _, fun _ q _ hq hl hb => .inl ⟨q, hq, hl, hb⟩⟩

theorem repX_else {w : World} {S : Nat → Prop} {γ : Nat → Loc} {m : Nat → Option MO} {v : AV} {x : Value} (h : RepA w S g0 m0 v x) : RepA w S γ m v x :=
  RepA.mono (fun _ _ => rfl) (fun _ h => h) (fun n o h => by cases h) v x h

mutual
theorem impV_rep {w : World} {S : Nat → Prop} {base : Nat → Prop} {d : Nat} : ∀ (v : AV) (x : Value) (ls : List Loc) (k : Nat) (γ : Nat → Loc) (m : Nat → Option MO), MemRel w S γ m base → RepX w S v x ls → Free base γ m ls → freeL m d k (impV d k v).2 = true →
    ∃ γ', Took w S base γ m ls γ' (mupdL m d k (impV d k v).2) ∧ RepA w S γ' (mupdL m d k (impV d k v).2) (impV d k v).1 x ∧ (v.oneX = true → (impV d k v).1.one = true)
  | .fresh t xs, x, ls, k, γ, m, hm, hx, hf, hfr => by
    obtain ⟨l, rfl, rfl, hrow⟩ := hx
    have hd : m (nm d k) = none := by
      simp only [impV, freeL, Bool.and_true] at hfr
      split at hfr
      · assumption
      · cases hfr
    refine ⟨gupd γ (nm d k) l, ⟨?_, Keeps.new hd, ?_⟩, ⟨t, xs, .live, mupd_same _ _ _, by rw [gupd_same]⟩, fun _ => rfl⟩
    · refine hm.addHere (fun b hb => hf.1 l (by simp) b hb) hd ?_
      show RowRel w S (gupd γ (nm d k) l (nm d k)) t xs .live
      rw [gupd_same]; exact hrow
    · intro k' q b hq hl hb
      by_cases e : k' = nm d k
      · subst e; rw [gupd_same] at hb; exact .inr ⟨l, by simp, hb⟩
      · have hq : mupd m (nm d k) (.sl t xs .live) k' = some q := hq
        rw [mupd_ne _ _ e] at hq; rw [gupd_ne _ _ e] at hb; exact .inl ⟨q, hq, hl, hb⟩
  | .agg cs, x, ls, k, γ, m, hm, hx, hf, hfr => by
    obtain ⟨vs, rfl, h2, h3⟩ := hx
    obtain ⟨γ', a, b, c⟩ := impL_rep cs vs ls k γ m hm h2 hf hfr
    exact ⟨γ', a, ⟨vs, rfl, b, c h3⟩, fun h => by cases h⟩
  | .tup cs, x, ls, k, γ, m, hm, hx, hf, hfr => by
    obtain ⟨vs, rfl, h2⟩ := hx
    obtain ⟨γ', a, b, c⟩ := impL_rep cs vs ls k γ m hm h2 hf hfr
    exact ⟨γ', a, ⟨vs, rfl, b⟩, fun h => by cases h⟩
  | .undef, x, ls, k, γ, m, hm, hx, _, _ => by obtain ⟨rfl, hx⟩ := hx; exact ⟨γ, .refl hm, repX_else hx, fun h => h⟩
  | .int _ _, x, ls, k, γ, m, hm, hx, _, _ => by obtain ⟨rfl, hx⟩ := hx; exact ⟨γ, .refl hm, repX_else hx, fun h => h⟩
  | .bool _, x, ls, k, γ, m, hm, hx, _, _ => by obtain ⟨rfl, hx⟩ := hx; exact ⟨γ, .refl hm, repX_else hx, fun h => h⟩
  | .str _, x, ls, k, γ, m, hm, hx, _, _ => by obtain ⟨rfl, hx⟩ := hx; exact ⟨γ, .refl hm, repX_else hx, fun h => h⟩
  | .nils, x, ls, k, γ, m, hm, hx, _, _ => by obtain ⟨rfl, hx⟩ := hx; exact ⟨γ, .refl hm, repX_else hx, fun h => h⟩
  | .nilp, x, ls, k, γ, m, hm, hx, _, _ => by obtain ⟨rfl, hx⟩ := hx; exact ⟨γ, .refl hm, repX_else hx, fun h => h⟩
  | .nilf, x, ls, k, γ, m, hm, hx, _, _ => by obtain ⟨rfl, hx⟩ := hx; exact ⟨γ, .refl hm, repX_else hx, fun h => h⟩
  | .nili, x, ls, k, γ, m, hm, hx, _, _ => by obtain ⟨rfl, hx⟩ := hx; exact ⟨γ, .refl hm, repX_else hx, fun h => h⟩
  | .list t xs, x, ls, k, γ, m, hm, hx, _, _ => by obtain ⟨rfl, hx⟩ := hx; exact ⟨γ, .refl hm, repX_else hx, fun h => h⟩
  | .clip t xs, x, ls, k, γ, m, hm, hx, _, _ => by obtain ⟨rfl, hx⟩ := hx; exact ⟨γ, .refl hm, repX_else hx, fun h => h⟩
  | .own _, x, ls, k, γ, m, hm, hx, _, _ => by obtain ⟨rfl, hx⟩ := hx; exact ⟨γ, .refl hm, repX_else hx, fun h => h⟩
  | .ptr _ _, x, ls, k, γ, m, hm, hx, _, _ => by obtain ⟨rfl, hx⟩ := hx; exact ⟨γ, .refl hm, repX_else hx, fun h => h⟩
  | .oel _ _ _, x, ls, k, γ, m, hm, hx, _, _ => by obtain ⟨rfl, hx⟩ := hx; exact ⟨γ, .refl hm, repX_else hx, fun h => h⟩
  | .bx _ _, x, ls, k, γ, m, hm, hx, _, _ => by obtain ⟨rfl, hx⟩ := hx; exact ⟨γ, .refl hm, repX_else hx, fun h => h⟩
  | .ro _ _ _, x, ls, k, γ, m, hm, hx, _, _ => by obtain ⟨rfl, hx⟩ := hx; exact ⟨γ, .refl hm, repX_else hx, fun h => h⟩
  | .clo _ _, x, ls, k, γ, m, hm, hx, _, _ => by obtain ⟨rfl, hx⟩ := hx; exact ⟨γ, .refl hm, repX_else hx, fun h => h⟩
  | .iface _ _, x, ls, k, γ, m, hm, hx, _, _ => by obtain ⟨rfl, hx⟩ := hx; exact ⟨γ, .refl hm, repX_else hx, fun h => h⟩
theorem impL_rep {w : World} {S : Nat → Prop} {base : Nat → Prop} {d : Nat} : ∀ (vs : List AV) (xs : List Value) (ls : List Loc) (k : Nat) (γ : Nat → Loc) (m : Nat → Option MO), MemRel w S γ m base → RepXs w S vs xs ls → Free base γ m ls → freeL m d k (impL d k vs).2 = true →
    ∃ γ', Took w S base γ m ls γ' (mupdL m d k (impL d k vs).2) ∧ RepAs w S γ' (mupdL m d k (impL d k vs).2) (impL d k vs).1 xs ∧ (vs.all AV.oneX = true → allOne (impL d k vs).1 = true)
  | [], xs, ls, k, γ, m, hm, hx, _, _ => by obtain ⟨rfl, rfl⟩ := hx; exact ⟨γ, .refl hm, rfl, fun _ => rfl⟩
  | v :: vs, xs, ls, k, γ, m, hm, hx, hf, hfr => by
    obtain ⟨u, us, l1, l2, rfl, rfl, h1, h2⟩ := hx
    simp only [impL] at hfr ⊢
    obtain ⟨fr1, fr2⟩ := freeL_append m d _ _ k hfr
    obtain ⟨hf1, hf2⟩ := hf
    obtain ⟨p1, p2, p3⟩ := List.pairwise_append.1 hf2
    obtain ⟨γ1, t1, r1, o1⟩ := impV_rep v u l1 k γ m hm h1 ⟨fun l hl => hf1 l (by simp [hl]), p1⟩ fr1
    have fr2' : freeL (mupdL m d k (impV d k v).2) d (k + (impV d k v).2.length) (impL d (k + (impV d k v).2.length) vs).2 = true := by
      refine freeL_congr d _ m _ _ (fun i hi => ?_) fr2
      exact mupdL_len d (impV d k v).2 m k i hi
    have free2 : Free base γ1 (mupdL m d k (impV d k v).2) l2 := by
      refine ⟨fun l hl b hb => ⟨(hf1 l (by simp [hl]) b hb).1, fun k' q hq hlq hbq => ?_⟩, p2⟩
      rcases t1.live k' q b hq hlq hbq with ⟨q0, z1, z2, z3⟩ | ⟨l', z1, z2⟩
      · exact (hf1 l (by simp [hl]) b hb).2 k' q0 z1 z2 z3
      · exact p3 l' z1 l hl b z2 hb
    obtain ⟨γ2, t2, r2, o2⟩ := impL_rep vs us l2 (k + (impV d k v).2.length) γ1 _ t1.mem h2 free2 fr2'
    rw [mupdL_append]
    refine ⟨γ2, ⟨t2.mem, t1.keeps.trans t2.keeps, fun k' q b hq hlq hbq => ?_⟩, ⟨u, us, rfl, RepA.mono (fun _ _ => rfl) (fun _ h => h) t2.keeps _ _ r1, r2⟩, fun h => ?_⟩
    · rcases t2.live k' q b hq hlq hbq with ⟨q0, z1, z2, z3⟩ | ⟨l', z1, z2⟩
      · rcases t1.live k' q0 b z1 z2 z3 with h | ⟨l', y1, y2⟩
        · exact .inl h
        · exact .inr ⟨l', by simp [y1], y2⟩
      · exact .inr ⟨l', by simp [z1], z2⟩
    · simp only [List.all_cons, Bool.and_eq_true] at h
      simp only [allOne, List.all_cons, Bool.and_eq_true]
      exact ⟨o1 h.1, by simpa [allOne] using o2 h.2⟩
end

end Go.Dv
