/- Looks of states: cut points, contracts with memory (definitions alone). -/
import Derived.Test.YtmffojmbfphidaaDoorDvBase
set_option linter.all false
namespace Go.Dv

variable {R : Type}

def gd (b : Bool) (k : Option R) : Option R := bif b then k else none

/-- looks of lists of abstract values -/
inductive Sh where
  | int (k : IntKind)
  | bool
  | str
  | list (t : Ty)
  | val (t : Ty)
  | ro (t : Ty) (off : Nat)
  | own (n : Nat)
  | ptr (n off : Nat)
  | nils
  | nilp
  | nili
  | nilf
  | nil
  | cons (a b : Sh)
  | agg (l : Sh)
  | tup (l : Sh)
  | clo (f : FuncId) (l : Sh)
  | iface (t : TypeId) (a : Sh)
  | yld (n : Nat)
  | bx (l : Sh) (off : Nat)

def Sh.T : Sh → Type
  | .int _ => Int
  | .bool => Bool
  | .str => List UInt8
  | .list t => List t.T
  | .val t => t.T
  | .ro t _ => t.T
  | .cons a b => a.T × b.T
  | .agg l => l.T
  | .tup l => l.T
  | .clo _ l => l.T
  | .iface _ a => a.T
  | .bx l _ => l.T
  | _ => Unit

def mkL : (s : Sh) → s.T → List AV
  | .int k, n => [.int k n]
  | .bool, b => [.bool b]
  | .str, s => [.str s]
  | .list t, xs => [.list t xs]
  | .val t, x => [.agg (enc t x)]
  | .ro t off, x => [.ro t x off]
  | .own n, _ => [.own n]
  | .ptr n off, _ => [.ptr n off]
  | .yld n, _ => [.yld n]
  | .nils, _ => [.nils]
  | .nilp, _ => [.nilp]
  | .nili, _ => [.nili]
  | .nilf, _ => [.nilf]
  | .nil, _ => []
  | .cons a b, x => mkL a x.1 ++ mkL b x.2
  | .agg l, x => [.agg (mkL l x)]
  | .tup l, x => [.tup (mkL l x)]
  | .clo f l, x => [.clo f (mkL l x)]
  | .iface t a, x => match mkL a x with
    | [v] => [.iface t v]
    | _ => []
  | .bx l off, x => [.bx (mkL l x) off]

def castE (t' t : Ty) (x : t'.T) : Option t.T := match Ty.eq? t' t with | some ⟨h⟩ => some (h ▸ x) | none => none

def rlook (n : Nat) : List (Nat × Option Nat) → Option (Option Nat)
  | [] => none
  | (k, e) :: r => bif Nat.beq n k then some e else rlook n r

def allDone {α : Type} : Option (α × List AV) → Option α
  | some (x, []) => some x
  | _ => none

def getP (m : Nat → Option MO) (rl : List (Nat × Option Nat)) : (s : Sh) → List AV → Option (s.T × List AV)
  | .int k, .int k' n :: r => match ikEq k' k with | some _ => some (n, r) | none => none
  | .bool, .bool b :: r => some (b, r)
  | .str, .str s :: r => some (s, r)
  | .list t, v :: r => match asList m t v with | some xs => some (xs, r) | none => none
  | .val t, .agg cs :: r => match dec m t cs with | some x => some (x, r) | none => none
  | .ro t off, .ro t' x off' :: r => bif Nat.beq off' off then (match castE t' t x with | some x => some (x, r) | none => none) else none
  | .own n, .own d :: r => match rlook n rl with
    | some (some d') => bif Nat.beq d d' then some ((), r) else none
    | _ => none
  | .own n, .nils :: r => match rlook n rl with
    | some none => some ((), r)
    | _ => none
  | .ptr n off, .ptr d off' :: r => match rlook n rl with
    | some (some d') => bif Nat.beq d d' && Nat.beq off' off then some ((), r) else none
    | _ => none
  | .yld n, .yld d :: r => match rlook n rl with
    | some (some d') => bif Nat.beq d d' then some ((), r) else none
    | _ => none
  | .nils, .nils :: r => some ((), r)
  | .nilp, .nilp :: r => some ((), r)
  | .nili, .nili :: r => some ((), r)
  | .nilf, .nilf :: r => some ((), r)
  | .nil, r => some ((), r)
  | .cons a b, r => match getP m rl a r with
    | some (x, r') => match getP m rl b r' with
      | some (y, r'') => some ((x, y), r'')
      | none => none
    | none => none
  | .agg l, .agg cs :: r => match allDone (getP m rl l cs) with | some x => some (x, r) | none => none
  | .tup l, .tup cs :: r => match allDone (getP m rl l cs) with | some x => some (x, r) | none => none
  | .clo f l, .clo f' cs :: r => bif Nat.beq f' f then (match allDone (getP m rl l cs) with | some x => some (x, r) | none => none) else none
  | .iface t a, .iface t' v :: r => bif Nat.beq t' t then (match allDone (getP m rl a [v]) with | some x => some (x, r) | none => none) else none
  | .bx l off, .bx cs off' :: r => bif Nat.beq off' off then (match allDone (getP m rl l cs) with | some x => some (x, r) | none => none) else none
  | _, _ => none

inductive OK where
  | sl (t : Ty)
  | box (l : Sh)
  | boxS (l : Sh)
  | rng (id : Nat) (l : Sh) (e : Nat)

def OK.T : OK → Type
  | .sl t => List t.T
  | .box l => l.T
  | .boxS l => l.T
  | .rng _ l _ => l.T

def OT : List (Nat × List Nat × OK) → Type
  | [] => Unit
  | (_, _, k) :: r => k.T × OT r

def mkO : (k : OK) → k.T → MO
  | .sl t, xs => .sl t xs .live
  | .box l, x => .box (mkL l x) .live
  | .boxS l, x => .box (mkL l x) .still
  | .rng id l e, x => .rng id (mkL l x) (some e)

def mofO : (l : List (Nat × List Nat × OK)) → OT l → Nat → Option MO
  | [], _, _ => none
  | (n, _, k) :: r, v, i => bif Nat.beq i n then some (mkO k v.1) else mofO r v.2 i

/-- what lies at the end of a path -/
def follow (m : Nat → Option MO) : List Nat → AV → AV
  | [], v => v
  | i :: r, v => match v with
    | .clo _ cs => follow m r (cs.getD i .undef)
    | .agg cs => follow m r (cs.getD i .undef)
    | .tup cs => follow m r (cs.getD i .undef)
    | .iface _ x => follow m r x
    | .ptr n off => match m n with
      | some (.box cs _) => follow m r (cs.getD (off + i) .undef)
      | _ => .undef
    | .yld n => match m n with
      | some (.rng _ cs _) => follow m r (cs.getD i .undef)
      | _ => .undef
    | _ => .undef

def nameOf : AV → Option Nat
  | .own d => some d
  | .ptr d _ => some d
  | .oel d _ _ => some d
  | .yld d => some d
  | _ => none

def srcOf (ρ : Nat → AV) (m : Nat → Option MO) : List Nat → Option Nat
  | [] => none
  | t :: r => nameOf (follow m r (bif Nat.ble 5000000 t then .ptr t 0 else ρ t))

/-- the names of the objects at a cut; lent ones keep theirs -/
def renL (ρ : Nat → AV) (m : Nat → Option MO) : List (Nat × List Nat × OK) → List (Nat × Option Nat)
  | [] => []
  | (n, src, _) :: r => (n, bif Nat.ble 5000000 n then some n else srcOf ρ m src) :: renL ρ m r

theorem renL_pin {ρ : Nat → AV} {m : Nat → Option MO} {n : Nat} {e : Option Nat} (hn : 5000000 ≤ n) : ∀ {l : List (Nat × List Nat × OK)}, rlook n (renL ρ m l) = some e → e = some n
  | [], h => by cases h
  | (k, src, _) :: r, h => by
    simp only [renL, rlook] at h
    cases hb : Nat.beq n k with
    | true =>
      rw [hb] at h
      simp only [cond_true, Option.some.injEq] at h
      have e1 := Nat.eq_of_beq_eq_true hb
      subst e1
      rw [show Nat.ble 5000000 n = true by simpa using hn] at h
      simpa using h.symm
    | false => rw [hb] at h; exact renL_pin hn h

def getO1 (m : Nat → Option MO) (rl : List (Nat × Option Nat)) : (k : OK) → Option Nat → Option k.T
  | .sl _, none => some []
  | .sl t, some d => match m d with | some (.sl t' xs .live) => castL t' t xs | _ => none
  | .box l, some d => match m d with | some (.box cs .live) => allDone (getP m rl l cs) | _ => none
  | .boxS l, some d => match m d with | some (.box cs .still) => allDone (getP m rl l cs) | _ => none
  | .rng id l e, some d => match m d with | some (.rng id' cs (some e')) => bif Nat.beq id' id && Nat.beq e' e then allDone (getP m rl l cs) else none | _ => none
  | _, none => none

def getO (m : Nat → Option MO) (rl : List (Nat × Option Nat)) : (l : List (Nat × List Nat × OK)) → Option (OT l)
  | [] => some ()
  | (n, _, k) :: r => match rlook n rl with
    | some e => match getO1 m rl k e with
      | some x => match getO m rl r with
        | some y => some (x, y)
        | none => none
      | none => none
    | none => none

def noneHas (d : Nat) : List (Nat × Option Nat) → Bool
  | [] => true
  | (_, some d') :: r => !(Nat.beq d d') && noneHas d r
  | (_, none) :: r => noneHas d r

def dist : List (Nat × Option Nat) → Bool
  | [] => true
  | (_, some d) :: r => noneHas d r && dist r
  | (_, none) :: r => dist r

structure Cut where
  tms : List Nat
  sh : Sh
  objs : List (Nat × List Nat × OK)
  sts : List Nat := []

abbrev Cut.T (c : Cut) : Type := c.sh.T × OT c.objs

def zlook : List Nat → List AV → Nat → AV
  | t :: ts, v :: vs, i => bif Nat.beq i t then v else zlook ts vs i
  | _, _, _ => .undef

def mkC (c : Cut) (v : c.T) : St := ⟨zlook c.tms (mkL c.sh v.1), mofO c.objs v.2⟩

/-- what is seen of a state at a cut, the objects having the names of a list -/
def getW (rl : List (Nat × Option Nat)) (c : Cut) (ρ : Nat → AV) (m : Nat → Option MO) : Option c.T :=
  bif dist rl then
    match allDone (getP m rl c.sh (c.tms.map ρ)) with
    | some x => match getO m rl c.objs with
      | some y => some (x, y)
      | none => none
    | none => none
  else none

def getM (c : Cut) (ρ : Nat → AV) (m : Nat → Option MO) : Option c.T := getW (renL ρ m c.objs) c ρ m


/-! ## calls with memory -/
def argsA : Nat → List AV → Nat → AV
  | _, [], _ => .undef
  | k, v :: vs, i => bif Nat.beq i k then v else argsA (k + 1) vs i

/-- the names that lent objects have with the caller -/
def renC (ρ : Nat → AV) (m : Nat → Option MO) : List (Nat × List Nat × OK) → List (Nat × Option Nat)
  | [] => []
  | (n, src, _) :: r => (n, srcOf ρ m src) :: renC ρ m r

/-- a contract of a function that is lent objects: their look, the plain function, and the state at its end, with the names of its objects (the result is slot 0) -/
structure CtrM where
  cin : Cut
  T : Type
  F : cin.T → Option T
  out : {R : Type} → T → (St → List Nat → Option R) → Option R
  nat : ∀ {R : Type} (t : T) (K : St → List Nat → Option R), out t K = (out t fun τ ns => some (τ, ns)).bind fun p => K p.1 p.2

inductive Ex where
  | normal
  | exit (id : Nat)
  | ret


def Ex.key : Ex → Nat
  | .normal => 0
  | .ret => 1
  | .exit i => i + 2

def unkey : Nat → Ex
  | 0 => .normal
  | 1 => .ret
  | i + 2 => .exit i

theorem unkey_key (e : Ex) : unkey e.key = e := by cases e <;> rfl

/-- a contract of the rounds of a loop over a function -/
structure CtrR where
  np : Nat
  cin : Cut
  T : Type
  F : cin.T → Option T
  out : {R : Type} → T → (Ex → St → List Nat → Option R) → Option R
  nat : ∀ {R : Type} (t : T) (K : Ex → St → List Nat → Option R), out t K = (out t fun e τ ns => some (e, τ, ns)).bind fun p => K p.1 p.2.1 p.2.2

def asc (n : Nat) : List (Nat × Nat) → Nat
  | [] => n
  | (k, x) :: r => bif Nat.beq n k then x else asc n r

mutual
def renV (l : List (Nat × Nat)) : AV → AV
  | .own n => .own (asc n l)
  | .ptr n off => .ptr (asc n l) off
  | .oel n i off => .oel (asc n l) i off
  | .yld n => .yld (asc n l)
  | .clo f cs => .clo f (renVs l cs)
  | .iface t v => .iface t (renV l v)
  | .bx cs off => .bx (renVs l cs) off
  | .agg cs => .agg (renVs l cs)
  | .tup cs => .tup (renVs l cs)
  | v => v
def renVs (l : List (Nat × Nat)) : List AV → List AV
  | [] => []
  | v :: vs => renV l v :: renVs l vs
end

def renO (l : List (Nat × Nat)) : MO → MO
  | .box cs s => .box (renVs l cs) s
  | .sl t xs s => .sl t xs s
  | .rng id cs e => .rng id (renVs l cs) e

/-- all lent objects with their names -/
def lents : List (Nat × Option Nat) → Option (List (Nat × Nat))
  | [] => some []
  | (n, some d) :: r => match lents r with | some l => some ((n, d) :: l) | none => none
  | (_, none) :: r => lents r

def hasFst (n : Nat) : List (Nat × Nat) → Bool
  | [] => false
  | (k, _) :: r => Nat.beq n k || hasFst n r

/-- names for the objects that have come -/
def newNames (le : List (Nat × Nat)) (d : Nat) : Nat → List Nat → List (Nat × Nat)
  | _, [] => []
  | k, n :: r => bif hasFst n le then newNames le d k r else (n, d + 4096 * k) :: newNames le d (k + 1) r

def notIn (n : Nat) : List Nat → Bool
  | [] => true
  | k :: r => !(Nat.beq n k) && notIn n r
def onceL : List Nat → Bool
  | [] => true
  | n :: r => notIn n r && onceL r

/-- lent objects come back -/
def apL (τ : Nat → Option MO) (rn : List (Nat × Nat)) : List (Nat × Nat) → (Nat → Option MO) → Option (Nat → Option MO)
  | [], m => some m
  | (n, d) :: r, m => match τ n with
    | some q => apL τ rn r (mupd m d (renO rn q))
    | none => match m d with
      | some (.sl t xs .live) => apL τ rn r (mupd m d (.sl t xs .dead))
      | _ => none

/-- new objects come -/
def apN (τ : Nat → Option MO) (rn : List (Nat × Nat)) : List (Nat × Nat) → (Nat → Option MO) → Option (Nat → Option MO)
  | [], m => some m
  | (n, d) :: r, m => match τ n with
    | some q => match m d with
      | none => apN τ rn r (mupd m d (renO rn q))
      | some _ => none
    | none => none

def putO (ρ : Nat → AV) (dst : Option Nat) (v : AV) : Nat → AV := match dst with | some d => upd ρ d v | none => ρ

def backA (rl : List (Nat × Option Nat)) (σ : St) (dst : Option Nat) (d : Nat) (τ : St) (ns : List Nat) (K : St → Option R) : Option R :=
  match lents rl with
  | some le => gd (((Nat.blt ns.length 200 && onceL (rl.map (·.1))) && onceL (le.map (·.1) ++ (newNames le d 0 ns).map (·.1))) && onceL (le.map (·.2) ++ (newNames le d 0 ns).map (·.2)))
    (match apL τ.m (le ++ newNames le d 0 ns) le σ.m with
    | some m1 => match apN τ.m (le ++ newNames le d 0 ns) (newNames le d 0 ns) m1 with
      | some m2 => K ⟨putO σ.ρ dst (renV (le ++ newNames le d 0 ns) (τ.ρ 0)), m2⟩
      | none => none
    | none => none)
  | none => none

def rangeIs : Nat → List Nat → List AV → Bool
  | _, [], [] => true
  | k, t :: ts, _ :: vs => Nat.beq t k && rangeIs (k + 1) ts vs
  | _, _, _ => false

/-- a call of a function that is lent objects: the first contract that fits is taken -/
def memsA : List CtrM → St → Option Nat → Nat → List AV → (St → Option R) → Option R
  | [], _, _, _, _, _ => none
  | c :: r, σ, dst, d, as, K =>
    match getW (renC (argsA 0 as) σ.m c.cin.objs) c.cin (argsA 0 as) σ.m with
    | some v => gd (rangeIs 0 c.cin.tms as) (match c.F v with
      | some t => c.out t fun τ ns => backA (renC (argsA 0 as) σ.m c.cin.objs) σ dst d τ ns K
      | none => none)
    | none => memsA r σ dst d as K

end Go.Dv
