/- Two operations whose order is open may change places. -/
import Derived.Test.YtmffojmbfphidaaDoorDvStep
import Derived.Orders
set_option linter.all false
namespace Go.Dv
open Go.RowKit

variable [LTab]

variable {R : Type}

/-! ## what an operation that writes nothing yields -/
def plain0 (E : Env) (o : Oper) (ev : Operand → AV) (m : Nat → Option MO) : Option (AV × List MO) :=
  match o.op with
  | .call ⟨.value f, args, _⟩ => match ev f with
    | .clo f caps => callA E m f (args.toList.map ev ++ caps) fun r => some (impV (o.dst.getD 0) 0 r)
    | _ => none
  | .call ⟨.invoke x name, args, _⟩ => match ev x with
    | .iface t v => match E.meth t name with
      | some f => callA E m f (v :: args.toList.map ev) fun r => some (impV (o.dst.getD 0) 0 r)
      | none => none
    | _ => none
  | op => coreA E o.dst op ev m fun v ob => some (v, ob.toList)

def stillM : MO → MO
  | .box cs .live => .box cs .still
  | .sl t xs .live => .sl t xs .still
  | o => o
def bornL (E : Env) (o : Oper) (os : List MO) : List MO := match opBorn E o with | [] => os | _ => os.map stillM
def plainA (E : Env) (o : Oper) (ev : Operand → AV) (m : Nat → Option MO) : Option (AV × List MO) := (plain0 E o ev m).map fun p => (p.1, bornL E o p.2)

def extA (σ : St) (dst : Option Nat) (p : AV × List MO) : Option St :=
  match dst with
  | some d => gd (few p.2 && freeL σ.m d 0 p.2) (some ⟨upd σ.ρ d p.1, mupdL σ.m d 0 p.2⟩)
  | none => gd p.2.isEmpty (some σ)

theorem few0 : few [] = true := rfl
theorem few1 (o : MO) : few [o] = true := rfl
theorem nm_zero (d : Nat) : nm d 0 = d := rfl

theorem opB_plain (E : Env) (o : Oper) (σ : St) (hp : plainOp E o = true) : opB E o σ some = (plain0 E o σ.ev σ.m).bind (extA σ o.dst) := by
  have hpre : preO E o = false := by
    unfold plainOp at hp
    simp only [Bool.and_eq_true, Bool.not_eq_true'] at hp
    exact hp.1
  have hp : (match o.op with | .store .. => false | .call ⟨.builtin .append, _, _⟩ => false | .call ⟨.builtin .copy, _, _⟩ => false | _ => true) = true := by
    unfold plainOp at hp
    simp only [Bool.and_eq_true] at hp
    exact hp.2.2.2
  unfold opB plain0
  rw [hpre, cond_false]
  split
  · rename_i ho; rw [ho] at hp; cases hp
  · rename_i ho; rw [ho] at hp; cases hp
  · rename_i f args ts ho
    simp only [ho]
    cases hf : σ.ev f with
    | clo f caps =>
      simp only
      rw [callA_nat (K := doneA σ o.dst some), callA_nat (K := fun r => some (impV (o.dst.getD 0) 0 r)), Option.bind_assoc]
      congr 1
      funext r
      unfold doneA extA
      cases o.dst <;> rfl
    | _ => rfl
  · rename_i x name args ts ho
    simp only [ho]
    cases hf : σ.ev x with
    | iface t v =>
      simp only
      cases E.meth t name with
      | none => rfl
      | some f =>
        simp only
        rw [callA_nat (K := doneA σ o.dst some), callA_nat (K := fun r => some (impV (o.dst.getD 0) 0 r)), Option.bind_assoc]
        congr 1
        funext r
        unfold doneA extA
        cases o.dst <;> rfl
    | _ => rfl
  · rename_i n1 n2 n3 n4
    have e : (match o.op with
      | .call ⟨.value f, args, _⟩ => match σ.ev f with
        | .clo f caps => callA E σ.m f (args.toList.map σ.ev ++ caps) fun r => some (impV (o.dst.getD 0) 0 r)
        | _ => none
      | .call ⟨.invoke x name, args, _⟩ => match σ.ev x with
        | .iface t v => match E.meth t name with
          | some f => callA E σ.m f (v :: args.toList.map σ.ev) fun r => some (impV (o.dst.getD 0) 0 r)
          | none => none
        | _ => none
      | op => coreA E o.dst op σ.ev σ.m fun v ob => some (v, ob.toList)) = coreA E o.dst o.op σ.ev σ.m fun v ob => some (v, ob.toList) := by
      split
      · rename_i f args ts ho; exact absurd ho (n3 f args ts)
      · rename_i x name args ts ho; exact absurd ho (n4 x name args ts)
      · rfl
    refine Eq.trans ?_ (congrArg (fun z => Option.bind z (extA σ o.dst)) e).symm
    refine (coreA_nat E _ _ _ _ _).trans (Eq.trans ?_ (congrArg (fun z => Option.bind z (extA σ o.dst)) (coreA_nat E _ _ _ _ _)).symm)
    rw [Option.bind_assoc]
    congr 1
    funext p
    obtain ⟨v, ob⟩ := p
    cases ob with
    | none => cases hd : o.dst <;> simp [extA, Option.toList, freeL, mupdL, gd, St.put, putO, few0]
    | some ob =>
      cases hd : o.dst with
      | none => simp [extA, Option.toList, gd]
      | some d =>
        cases hm : σ.m d <;> simp [extA, Option.toList, freeL, mupdL, gd, nm_zero, hm, few1]

theorem buildSlice_obj {E : Env} {d : Nat} {t : TypeId} {n : Nat} {ps : Array (Nat × Operand)} {ev : Operand → AV} {m : Nat → Option MO} {q : AV × List MO} (h : coreA E (some d) (.buildSlice t n ps) ev m (fun v ob => some (v, ob.toList)) = some q) : ∃ ty xs, q = (.own d, [.sl ty xs .live]) := by
  simp only [coreA] at h
  cases he : elemTy E t with
  | none => rw [he] at h; cases h
  | some p =>
    obtain ⟨e, ei, ty⟩ := p
    rw [he] at h
    simp only at h
    obtain ⟨_, h⟩ := gd_some h
    split at h
    · cases h
      exact ⟨_, _, rfl⟩
    · cases h

theorem opA_plain (E : Env) (o : Oper) (σ : St) (hp : plainOp E o = true) : opA E o σ some = (plainA E o σ.ev σ.m).bind (extA σ o.dst) := by
  have hstill : opStill E o = [] := by
    unfold plainOp at hp
    simp only [Bool.and_eq_true, List.isEmpty_iff] at hp
    exact hp.2.1
  have hb : bornOk E o = true := by
    unfold plainOp at hp
    simp only [Bool.and_eq_true] at hp
    exact hp.2.2.1
  have hA : opA E o σ some = ((plain0 E o σ.ev σ.m).bind (extA σ o.dst)).bind fun σ' => some ⟨σ'.ρ, stillL σ'.m (opBorn E o)⟩ := by
    unfold opA
    rw [hstill, opB_nat]
    show (opB E o σ some).bind _ = _
    rw [opB_plain E o σ hp]
  rw [hA]
  unfold plainA
  cases hq : plain0 E o σ.ev σ.m with
  | none => rfl
  | some q =>
    simp only [Option.bind_some, Option.map_some]
    unfold bornOk at hb
    simp only [Bool.or_eq_true, List.isEmpty_iff] at hb
    rcases hb with hb | hb
    · have e : bornL E o q.2 = q.2 := by unfold bornL; rw [hb]
      rw [e, hb]
      show (extA σ o.dst (q.1, q.2)).bind (fun σ' => some σ') = extA σ o.dst (q.1, q.2)
      cases extA σ o.dst (q.1, q.2) <;> rfl
    · split at hb
      · rename_i t n ps d hop hd
        split at hb
        · rename_i n' hb'
          have hn := Nat.eq_of_beq_eq_true hb
          subst hn
          have hq' : coreA E o.dst o.op σ.ev σ.m (fun v ob => some (v, ob.toList)) = some q := by
            unfold plain0 at hq
            rw [hop] at hq ⊢
            exact hq
          rw [hd, hop] at hq'
          obtain ⟨ty, xs, rfl⟩ := buildSlice_obj hq'
          have e : bornL E o [MO.sl ty xs .live] = [MO.sl ty xs .still] := by unfold bornL; rw [hb']; rfl
          rw [e, hb', hd]
          simp only [extA, freeL, few1, Bool.true_and, Bool.and_true, mupdL, nm_zero]
          cases hm : σ.m n' with
          | some _ => rfl
          | none =>
            simp only [gd, cond_true, Option.bind_some, stillL, Option.some.injEq, St.mk.injEq, true_and]
            have : stillO (mupd σ.m n' (.sl ty xs .live)) n' = mupd (mupd σ.m n' (.sl ty xs .live)) n' (.sl ty xs .still) := by
              unfold stillO; rw [mupd_same]
            rw [this]
            funext k
            simp only [mupd]
            cases Nat.beq k n' <;> rfl
        · cases hb
      · cases hb

def resG (E : Env) (all : Array Oper) (o : Oper) (σ : St) : Option (AV × List MO) :=
  match o.guard with
  | none => plainA E o σ.ev σ.m
  | some (j, want) =>
    match (all[j]?).bind (·.dst) with
    | none => none
    | some t =>
      match σ.ρ t with
      | .bool b => if b = want then plainA E o σ.ev σ.m else some (.tup [], [])
      | .tup [] => some (.tup [], [])
      | _ => none

theorem stepG_plain (E : Env) (all : Array Oper) (o : Oper) (σ : St) (hp : plainOp E o = true) : stepG E all o σ = (resG E all o σ).bind (extA σ o.dst) := by
  unfold stepG resG
  cases hg : o.guard with
  | none => exact opA_plain E o σ hp
  | some g =>
    obtain ⟨j, want⟩ := g
    simp only
    cases ht : (all[j]?).bind (·.dst) with
    | none => rfl
    | some t =>
      simp only
      cases hv : σ.ρ t with
      | bool b =>
        simp only
        by_cases hb : b = want
        · rw [if_pos hb, if_pos hb]; exact opA_plain E o σ hp
        · rw [if_neg hb, if_neg hb]
          simp only [Option.bind_some, extA, St.put, putO]
          cases o.dst <;> rfl
      | tup l =>
        cases l with
        | nil =>
          simp only [Option.bind_some, extA, St.put, putO]
          cases o.dst <;> rfl
        | cons _ _ => rfl
      | _ => rfl

/-! ## it looks at its operands alone -/
theorem map_congr {f g : Operand → AV} {l : List Operand} (h : ∀ x, x ∈ l → f x = g x) : l.map f = l.map g := List.map_congr_left h

theorem opt_congr {f g : Operand → AV} {x : Option Operand} (h : ∀ y, y ∈ x.toArray → f y = g y) : x.map f = x.map g := by
  cases x with
  | none => rfl
  | some y => simp [h y (by simp)]

theorem parts_congr {f g : Operand → AV} {ps : Array (Nat × Operand)} (h : ∀ y, y ∈ ps.toList.map (·.2) → f y = g y) : (ps.toList.map fun p => (p.1, f p.2)) = ps.toList.map fun p => (p.1, g p.2) := by
  refine List.map_congr_left fun p hp => ?_
  rw [h p.2 (List.mem_map.2 ⟨p, hp, rfl⟩)]

theorem coreA_congr (E : Env) (dst : Option Nat) (op : Op) (ev ev' : Operand → AV) (m : Nat → Option MO) (K : AV → Option MO → Option R) (h : ∀ x, x ∈ op.operands → ev x = ev' x) : coreA E dst op ev m K = coreA E dst op ev' m K := by
  cases op <;> simp only [Op.operands] at h <;> try rfl
  case move x => simp only [coreA, h x (by simp)]
  case nilCheck x => simp only [coreA, h x (by simp)]
  case assign x => simp only [coreA, h x (by simp)]
  case pick c a b => simp only [coreA, h c (by simp), h a (by simp), h b (by simp)]
  case box t x => simp only [coreA, h x (by simp)]
  case build t ps =>
    have := parts_congr (ps := ps) (f := ev) (g := ev') fun y hy => h y (by simpa using hy)
    simp only [coreA, this]
  case buildSlice t n ps =>
    have := parts_congr (ps := ps) (f := ev) (g := ev') fun y hy => h y (by simpa using hy)
    simp only [coreA, this]
  case load t a => simp only [coreA, h a (by simp)]
  case binOp op t x y t' => simp only [coreA, h x (by simp), h y (by simp)]
  case unOp op t x => cases op <;> simp only [coreA, h x (by simp)]
  case convert q t x => simp only [coreA, h x (by simp)]
  case makeInterface t x => simp only [coreA, h x (by simp)]
  case makeFunc f first caps =>
    have : caps.toList.map ev = caps.toList.map ev' := map_congr fun y hy => h y (by simp; exact .inr (by simpa using hy))
    cases f <;> simp only [coreA, this]
  case makeSlice t n c => simp only [coreA, h n (by simp), h c (by simp)]
  case slice t x lo hi mx =>
    have h1 : lo.map ev = lo.map ev' := opt_congr fun y hy => h y (by simp at hy ⊢; simp [hy])
    have h2 : hi.map ev = hi.map ev' := opt_congr fun y hy => h y (by simp at hy ⊢; simp [hy])
    cases mx with
    | none => simp only [coreA, h x (by simp), h1, h2]
    | some z => simp only [coreA, h x (by simp), h1, h2, h z (by simp)]
  case fieldAddr s x f => simp only [coreA, h x (by simp)]
  case field s x f => simp only [coreA, h x (by simp)]
  case indexAddr t x i => simp only [coreA, h x (by simp), h i (by simp)]
  case index t x i => simp only [coreA, h x (by simp), h i (by simp)]
  case extract x i => simp only [coreA, h x (by simp)]
  case call c =>
    obtain ⟨callee, args, ts⟩ := c
    have hargs : args.toList.map ev = args.toList.map ev' := map_congr fun y hy => h y (by cases callee <;> simp [Call.operands] <;> simp at hy <;> simp [hy])
    cases callee with
    | value f => rfl
    | invoke x n => rfl
    | builtin b =>
      cases b <;> try rfl
      case len =>
        have hx : ∀ x, args.toList = [x] → ev x = ev' x := fun x hx => h x (by simp [Call.operands]; rw [← Array.mem_toList_iff, hx]; simp)
        simp only [coreA]
        split
        · rename_i x t ha ht; rw [hx x ha]
        · rfl
      case min => simp only [coreA, hargs]
      case max => simp only [coreA, hargs]

theorem plainA_congr (E : Env) (o : Oper) (ev ev' : Operand → AV) (m : Nat → Option MO) (h : ∀ x, x ∈ o.op.operands → ev x = ev' x) : plainA E o ev m = plainA E o ev' m := by
  unfold plainA
  congr 1
  unfold plain0
  split
  · rename_i f args ts ho
    rw [ho] at h
    have hargs : args.toList.map ev = args.toList.map ev' := map_congr fun y hy => h y (by simp [Op.operands, Call.operands]; simp at hy; simp [hy])
    rw [h f (by simp [Op.operands, Call.operands]), hargs]
  · rename_i x name args ts ho
    rw [ho] at h
    have hargs : args.toList.map ev = args.toList.map ev' := map_congr fun y hy => h y (by simp [Op.operands, Call.operands]; simp at hy; simp [hy])
    rw [h x (by simp [Op.operands, Call.operands]), hargs]
  · exact coreA_congr E _ _ _ _ _ _ h

/-! ## what it reads stays as it is while objects come to the memory -/
def Ext (m m' : Nat → Option MO) : Prop := ∀ n, m n ≠ none → m' n = m n

section mem
variable {w : World} {S : Nat → Prop} {γ : Nat → Loc} {m m' : Nat → Option MO} {base : Nat → Prop} (hm : MemRel w S γ m base) (hx : Ext m m')

include hx in
theorem own_ext {n : Nat} {x : Value} (h : RepA w S γ m (.own n) x) : m' n = m n := by
  obtain ⟨t, xs, s, h1, _⟩ := h
  exact hx n (by rw [h1]; simp)
include hx in
theorem ptr_ext {n off : Nat} {x : Value} (h : RepA w S γ m (.ptr n off) x) : m' n = m n := by
  obtain ⟨cs, s, b, h1, _⟩ := h
  exact hx n (by rw [h1]; simp)
include hx in
theorem oel_ext {n i off : Nat} {x : Value} (h : RepA w S γ m (.oel n i off) x) : m' n = m n := by
  obtain ⟨t, xs, s, b, h1, _⟩ := h
  exact hx n (by rw [h1]; simp)

include hx in
theorem asList_ext {t : Ty} {v : AV} {x : Value} (h : RepA w S γ m v x) : asList m' t v = asList m t v := by
  cases v <;> simp only [asList]
  rw [own_ext hx h]
include hx in
theorem seeList_ext {t : Ty} {v : AV} {x : Value} (h : RepA w S γ m v x) : seeList m' t v = seeList m t v := by
  cases v <;> simp only [seeList]
  rw [own_ext hx h]
include hx in
theorem lenA_ext {v : AV} {x : Value} (h : RepA w S γ m v x) : lenA m' v = lenA m v := by
  cases v <;> simp only [lenA]
  rw [own_ext hx h]

include hx in
theorem decP_ext : ∀ (t : Ty) (cs : List AV) (vs : List Value), RepAs w S γ m cs vs → decP m' t cs = decP m t cs ∧ ∀ x r, decP m t cs = some (x, r) → ∃ us, RepAs w S γ m r us
  | .int k, [], vs, h => ⟨rfl, fun x r e => by simp [decP] at e⟩
  | .int k, v :: r, vs, h => by
    obtain ⟨u, us, rfl, h1, h2⟩ := h
    cases v <;> refine ⟨rfl, fun x r e => ?_⟩ <;> simp only [decP] at e <;> try (cases e; done)
    split at e
    · cases e; exact ⟨us, h2⟩
    · cases e
  | .bool, [], vs, h => ⟨rfl, fun x r e => by simp [decP] at e⟩
  | .bool, v :: r, vs, h => by
    obtain ⟨u, us, rfl, h1, h2⟩ := h
    cases v <;> refine ⟨rfl, fun x r e => ?_⟩ <;> simp only [decP] at e <;> try (cases e; done)
    cases e; exact ⟨us, h2⟩
  | .str, [], vs, h => ⟨rfl, fun x r e => by simp [decP] at e⟩
  | .str, v :: r, vs, h => by
    obtain ⟨u, us, rfl, h1, h2⟩ := h
    cases v <;> refine ⟨rfl, fun x r e => ?_⟩ <;> simp only [decP] at e <;> try (cases e; done)
    cases e; exact ⟨us, h2⟩
  | .unit, cs, vs, h => ⟨rfl, fun x r e => by simp only [decP] at e; cases e; exact ⟨vs, h⟩⟩
  | .pair a b, cs, vs, h => by
    obtain ⟨e1, f1⟩ := decP_ext a cs vs h
    simp only [decP]
    rw [e1]
    cases hq : decP m a cs with
    | none => exact ⟨rfl, fun x r e => by cases e⟩
    | some p =>
      obtain ⟨x1, r1⟩ := p
      obtain ⟨us, hus⟩ := f1 x1 r1 hq
      obtain ⟨e2, f2⟩ := decP_ext b r1 us hus
      simp only
      rw [e2]
      refine ⟨rfl, fun x r e => ?_⟩
      split at e
      · rename_i y r' hy; cases e; exact f2 _ _ hy
      · cases e
  | .list t, [], vs, h => ⟨rfl, fun x r e => by simp [decP] at e⟩
  | .list t, v :: r, vs, h => by
    obtain ⟨u, us, rfl, h1, h2⟩ := h
    simp only [decP]
    rw [asList_ext hx h1]
    refine ⟨rfl, fun x r e => ?_⟩
    split at e
    · cases e; exact ⟨us, h2⟩
    · cases e

include hx in
theorem dec_ext {t : Ty} {cs : List AV} {vs : List Value} (h : RepAs w S γ m cs vs) : dec m' t cs = dec m t cs := by
  unfold dec
  rw [(decP_ext hx t cs vs h).1]

include hx in
theorem fillL_ext {ev : Operand → AV} {el : Operand → Value} (hev : ∀ x, RepA w S γ m (ev x) (el x)) {t : Ty} : ∀ (ps : List (Nat × Operand)) (acc : List t.T), fillL m' t (ps.map fun p => (p.1, ev p.2)) acc = fillL m t (ps.map fun p => (p.1, ev p.2)) acc
  | [], acc => rfl
  | (i, x) :: ps, acc => by
    have hd : dec m' t (ev x).cells = dec m t (ev x).cells := by
      have hr := hev x
      cases hv : ev x with
      | agg cs =>
        rw [hv] at hr
        obtain ⟨vs, _, h2, _⟩ := hr
        exact dec_ext hx h2
      | _ =>
        rw [hv] at hr
        exact dec_ext hx (cs := [_]) (vs := [el x]) ⟨_, [], rfl, hr, rfl⟩
    simp only [List.map_cons, fillL, hd]
    cases dec m t (ev x).cells with
    | none => rfl
    | some y => simp only; cases Nat.blt i acc.length <;> simp [fillL_ext hev ps]

theorem mapO_ext {f g : AV → Option AV} (h : ∀ v x, RepA w S γ m v x → f v = g v) : ∀ (vs : List AV) (xs : List Value), RepAs w S γ m vs xs → mapO f vs = mapO g vs
  | [], _, _ => rfl
  | v :: vs, xs, hr => by
    obtain ⟨u, us, rfl, h1, h2⟩ := hr
    simp only [mapO, h v u h1, mapO_ext h vs us h2]

include hm hx in
theorem seeV_ext {lv : Bool} : ∀ (k : Nat) (v : AV) (x : Value), RepA w S γ m v x → seeV lv m' k v = seeV lv m k v
  | 0, _, _, _ => rfl
  | k + 1, v, x, hr => by
    have ih := mapO_ext (seeV_ext (lv := lv) k)
    cases v <;> simp only [seeV]
    case own n => rw [own_ext hx hr]
    case ptr n off =>
      rw [ptr_ext hx hr]
      obtain ⟨cs0, s0, b, k1, k2, k3⟩ := hr
      rw [k1]
      obtain ⟨b', vs, el', h1, h2, h3, _⟩ := hm.obj n _ k1
      cases s0 <;> simp only [ih cs0 vs h3]
    case bx cs off =>
      obtain ⟨b, vs, h1, h2, h3, _⟩ := hr
      rw [ih cs vs h3]
    case clo f caps =>
      obtain ⟨vs, h1, h2⟩ := hr
      rw [ih caps vs h2]
    case iface t y =>
      obtain ⟨u, h1, h2⟩ := hr
      rw [seeV_ext k y u h2]
    case agg cs =>
      obtain ⟨vs, h1, h2, _⟩ := hr
      rw [ih cs vs h2]
    case tup cs =>
      obtain ⟨vs, h1, h2⟩ := hr
      rw [ih cs vs h2]

include hm hx in
theorem callA_ext (E : Env) {f : FuncId} {as : List AV} {xs : List Value} (h : RepAs w S γ m as xs) (K : AV → Option R) : callA E m' f as K = callA E m f as K := by
  unfold callA
  rw [mapO_ext (seeV_ext hm hx (lv := false) 8) as xs h, mapO_ext (seeV_ext hm hx (lv := true) 8) as xs h]

include hx in
theorem coreA_ext (E : Env) {dst : Option Nat} {op : Op} {ev : Operand → AV} {el : Operand → Value} (hev : ∀ x, RepA w S γ m (ev x) (el x)) (K : AV → Option MO → Option R) : coreA E dst op ev m' K = coreA E dst op ev m K := by
  cases op <;> try rfl
  case load t a =>
    simp only [coreA]
    have h := hev a
    cases hv : ev a <;> rw [hv] at h <;> simp only
    · rw [ptr_ext hx h]
    · rw [oel_ext hx h]
  case unOp op t x => cases op <;> rfl
  case makeFunc f a b => cases f <;> rfl
  case convert q t x =>
    simp only [coreA]
    have h := hev x
    cases E.ty q with
    | none => rfl
    | some qi =>
      cases E.ty t with
      | none => rfl
      | some ti =>
        simp only
        have e := fun t => seeList_ext (t := t) hx h
        cases ti.d <;> cases hv : ev x <;> rw [hv] at e <;> first | rfl | (simp only; rw [e])
  case slice t x lo hi mx =>
    simp only [coreA]
    have h := hev x
    have e := fun t => asList_ext (t := t) hx h
    cases E.ty t with
    | none => rfl
    | some ti =>
      simp only
      cases ti.d <;> cases hv : ev x <;> rw [hv] at e <;> first | rfl | (simp only [e])
  case indexAddr t x i =>
    simp only [coreA]
    have h := hev x
    cases hv : ev x <;> rw [hv] at h <;> simp only
    rw [own_ext hx h]
  case buildSlice t n ps =>
    simp only [coreA]
    simp only [fillL_ext hx hev]
  case call c =>
    obtain ⟨callee, args, ts⟩ := c
    cases callee with
    | value f => rfl
    | invoke x n => rfl
    | builtin b =>
      cases b <;> try rfl
      simp only [coreA]
      split
      · rename_i x t _ _
        have h := hev x
        have e := lenA_ext hx h
        cases E.ty t with
        | none => rfl
        | some ti =>
          simp only
          cases ti.d <;> cases hv : ev x <;> rw [hv] at e <;> first | rfl | (simp only [e])
      · rfl

include hm hx in
theorem plainA_ext (E : Env) {o : Oper} {ev : Operand → AV} {el : Operand → Value} (hev : ∀ x, RepA w S γ m (ev x) (el x)) : plainA E o ev m' = plainA E o ev m := by
  unfold plainA
  congr 1
  unfold plain0
  split
  · rename_i f args ts ho
    have h := hev f
    cases hv : ev f <;> rw [hv] at h <;> simp only
    obtain ⟨vs, _, h2⟩ := h
    exact callA_ext hm hx E ((RepAs.map hev _).append h2) _
  · rename_i x name args ts ho
    have h := hev x
    cases hv : ev x <;> rw [hv] at h <;> simp only
    obtain ⟨u, _, h2⟩ := h
    split
    · exact callA_ext hm hx E (as := _ :: _) ⟨u, _, rfl, h2, RepAs.map hev _⟩ _
    · rfl
  · exact coreA_ext hx E hev _

end mem

end Go.Dv
