/- The evaluator: abstract values and abstract states (definitions alone). -/
import GoSem.Step
set_option linter.all false
namespace Go.Dv

/-! ## types of pure values -/
inductive Ty where
  | int (k : IntKind)
  | bool
  | str
  | unit
  | pair (a b : Ty)
  | list (t : Ty)

def Ty.T : Ty → Type
  | .int _ => Int
  | .bool => Bool
  | .str => List UInt8
  | .unit => Unit
  | .pair a b => a.T × b.T
  | .list t => List t.T

def Ty.size : Ty → Nat
  | .int _ => 1
  | .bool => 1
  | .str => 1
  | .unit => 0
  | .pair a b => a.size + b.size
  | .list _ => 1

def Ty.dflt : (t : Ty) → t.T
  | .int _ => (0 : Int)
  | .bool => false
  | .str => ([] : List UInt8)
  | .unit => ()
  | .pair a b => (a.dflt, b.dflt)
  | .list _ => []

def ikEq (a b : IntKind) : Option (PLift (a = b)) := if h : a = b then some ⟨h⟩ else none

def Ty.eq? : (a b : Ty) → Option (PLift (a = b))
  | .int k, .int l => match ikEq k l with | some ⟨h⟩ => some ⟨h ▸ rfl⟩ | none => none
  | .bool, .bool => some ⟨rfl⟩
  | .str, .str => some ⟨rfl⟩
  | .unit, .unit => some ⟨rfl⟩
  | .pair a b, .pair c d =>
    match Ty.eq? a c, Ty.eq? b d with
    | some ⟨h⟩, some ⟨g⟩ => some ⟨h ▸ g ▸ rfl⟩
    | _, _ => none
  | .list a, .list b => match Ty.eq? a b with | some ⟨h⟩ => some ⟨h ▸ rfl⟩ | none => none
  | _, _ => none

def castList {a b : Ty} (h : a = b) (xs : List a.T) : List b.T := h ▸ xs

/-! ## abstract values -/
inductive AV where
  | undef
  | int (k : IntKind) (n : Int)
  | bool (b : Bool)
  | str (s : List UInt8)
  | nils
  | nilp
  | nilf
  | nili
  /-- a slice that nobody writes any more -/
  | list (t : Ty) (xs : List t.T)
  /-- likewise, with no room behind its end -/
  | clip (t : Ty) (xs : List t.T)
  /-- a slice of a callee's own, handed over -/
  | fresh (t : Ty) (xs : List t.T)
  | own (n : Nat)
  | ptr (n off : Nat)
  | oel (n i off : Nat)
  /-- a pointer to a variable that nobody writes any more -/
  | bx (cs : List AV) (off : Nat)
  | ro (t : Ty) (x : t.T) (off : Nat)
  | clo (f : FuncId) (caps : List AV)
  | iface (t : TypeId) (v : AV)
  /-- yield: a loop over a function that is under way -/
  | yld (n : Nat)
  | agg (cs : List AV)
  | tup (vs : List AV)

inductive Stat where
  | live | still | dead

inductive MO where
  | box (cs : List AV) (s : Stat)
  | sl (t : Ty) (xs : List t.T) (s : Stat)
  /-- a loop over a function: which one; what its rounds know; how it stands (0: ready; else the way out of its last round) -/
  | rng (id : Nat) (caps : List AV) (e : Option Nat)

structure St where
  ρ : Nat → AV
  m : Nat → Option MO

def upd (ρ : Nat → AV) (d : Nat) (v : AV) : Nat → AV := fun i => bif Nat.beq i d then v else ρ i
def mupd (m : Nat → Option MO) (d : Nat) (o : MO) : Nat → Option MO := fun i => bif Nat.beq i d then some o else m i

def look (d : Nat) : List (Nat × AV) → AV
  | [] => .undef
  | (i, v) :: r => bif Nat.beq d i then v else look d r
def mlook (d : Nat) : List (Nat × MO) → Option MO
  | [] => none
  | (i, v) :: r => bif Nat.beq d i then some v else mlook d r
def ofL (l : List (Nat × AV)) : Nat → AV := fun d => look d l
def mofL (l : List (Nat × MO)) : Nat → Option MO := fun d => mlook d l

def St.set (σ : St) (d : Nat) (v : AV) : St := ⟨upd σ.ρ d v, σ.m⟩

def enc : (t : Ty) → t.T → List AV
  | .int k, n => [.int k n]
  | .bool, b => [.bool b]
  | .str, s => [.str s]
  | .unit, _ => []
  | .pair a b, x => enc a x.1 ++ enc b x.2
  | .list t, xs => [.list t xs]

def castL (t' t : Ty) (xs : List t'.T) : Option (List t.T) := match Ty.eq? t' t with | some ⟨h⟩ => some (castList h xs) | none => none

/-- a slice as a list: one that nobody writes any more -/
def asList (m : Nat → Option MO) (t : Ty) : AV → Option (List t.T)
  | .list t' xs => castL t' t xs
  | .clip t' xs => castL t' t xs
  | .nils => some []
  | .own n => match m n with | some (.sl t' xs .still) => castL t' t xs | _ => none
  | _ => none

/-- a slice as a list: one that is only looked at now -/
def seeList (m : Nat → Option MO) (t : Ty) : AV → Option (List t.T)
  | .list t' xs => castL t' t xs
  | .clip t' xs => castL t' t xs
  | .nils => some []
  | .own n => match m n with | some (.sl t' xs .still) => castL t' t xs | some (.sl t' xs .live) => castL t' t xs | _ => none
  | _ => none

def decP (m : Nat → Option MO) : (t : Ty) → List AV → Option (t.T × List AV)
  | .int k, .int k' n :: r => match ikEq k' k with | some _ => some (n, r) | none => none
  | .bool, .bool b :: r => some (b, r)
  | .str, .str s :: r => some (s, r)
  | .unit, r => some ((), r)
  | .pair a b, r =>
    match decP m a r with
    | some (x, r') => match decP m b r' with | some (y, r'') => some ((x, y), r'') | none => none
    | none => none
  | .list t, v :: r => match asList m t v with | some xs => some (xs, r) | none => none
  | _, _ => none

def dec (m : Nat → Option MO) (t : Ty) (cs : List AV) : Option t.T :=
  match decP m t cs with
  | some (x, []) => some x
  | _ => none

def AV.cells : AV → List AV
  | .agg cs => cs
  | v => [v]

/-- is it, in the model, the value of one cell? -/
def AV.one : AV → Bool
  | .undef => false
  | .agg _ => false
  | .tup _ => false
  | .fresh _ _ => false
  | _ => true

/-! ## what the evaluator is told of types -/
inductive TD where
  | int (k : IntKind) | bool | str | ptr | slice (e : TypeId) | struct (fs : List (Nat × TypeId)) | arr (n : Nat) (e : TypeId) | func | iface | other

inductive Z where
  | int (k : IntKind) | bool | str | slice | ptr | func | iface

def Z.av : Z → AV
  | .int k => .int k 0
  | .bool => .bool false
  | .str => .str []
  | .slice => .nils
  | .ptr => .nilp
  | .func => .nilf
  | .iface => .nili

structure TI where
  d : TD
  size : Nat
  bytes : Nat
  zero : List Z
  ty : Option Ty

def TD.agg : TD → Bool
  | .struct _ => true
  | .arr _ _ => true
  | _ => false


end Go.Dv
