/- The evaluator: calls, regions, code, whole functions (definitions alone). -/
import Derived.Test.YtmffojmbfphidaaDoorDvApp
set_option linter.all false
namespace Go.Dv
open Go.RowKit

variable {R : Type}

/-! ## results that are handed over -/
def nm (d k : Nat) : Nat := d + 4096 * k

mutual
def impV (d k : Nat) : AV → AV × List MO
  | .fresh t xs => (.own (nm d k), [.sl t xs .live])
  | .agg cs => (.agg (impL d k cs).1, (impL d k cs).2)
  | .tup vs => (.tup (impL d k vs).1, (impL d k vs).2)
  | v => (v, [])
def impL (d k : Nat) : List AV → List AV × List MO
  | [] => ([], [])
  | v :: vs => ((impV d k v).1 :: (impL d (k + (impV d k v).2.length) vs).1, (impV d k v).2 ++ (impL d (k + (impV d k v).2.length) vs).2)
end

def mupdL (m : Nat → Option MO) (d : Nat) : Nat → List MO → (Nat → Option MO)
  | _, [] => m
  | k, o :: os => mupdL (mupd m (nm d k) o) d (k + 1) os

/-- there are not too many -/
def few (l : List MO) : Bool := Nat.blt l.length 200

def freeL (m : Nat → Option MO) (d : Nat) : Nat → List MO → Bool
  | _, [] => true
  | k, _ :: os => (match m (nm d k) with | none => true | some _ => false) && freeL m d (k + 1) os

/-! ## what a callee sees of an argument -/
def mapO (f : AV → Option AV) : List AV → Option (List AV)
  | [] => some []
  | v :: vs => match f v with
    | some x => match mapO f vs with | some xs => some (x :: xs) | none => none
    | none => none

def seeV (lv : Bool) (m : Nat → Option MO) : Nat → AV → Option AV
  | 0, _ => none
  | k + 1, v => match v with
    | .undef => none
    | .fresh _ _ => none
    | .oel _ _ _ => none
    | .yld _ => none
    | .own n => match m n with
      | some (.sl t xs .still) => some (.list t xs)
      | some (.sl t xs .live) => bif lv then some (.list t xs) else none
      | _ => none
    | .ptr n off => match m n with
      | some (.box cs .still) => match mapO (seeV lv m k) cs with | some cs => some (.bx cs off) | none => none
      | some (.box cs .live) => bif lv then (match mapO (seeV lv m k) cs with | some cs => some (.bx cs off) | none => none) else none
      | _ => none
    | .bx cs off => match mapO (seeV lv m k) cs with | some cs => some (.bx cs off) | none => none
    | .clo f caps => match mapO (seeV lv m k) caps with | some caps => some (.clo f caps) | none => none
    | .iface t x => match seeV lv m k x with | some x => some (.iface t x) | none => none
    | .agg cs => match mapO (seeV lv m k) cs with | some cs => some (.agg cs) | none => none
    | .tup cs => match mapO (seeV lv m k) cs with | some cs => some (.tup cs) | none => none
    | v => some v

def noList : Ty → Bool
  | .list _ => false
  | .pair a b => noList a && noList b
  | _ => true

mutual
def scal : AV → Bool
  | .int _ _ => true
  | .bool _ => true
  | .str _ => true
  | .nils => true
  | .nilp => true
  | .nilf => true
  | .nili => true
  | .fresh t _ => noList t
  | .agg cs => scalL cs
  | .tup cs => scalL cs
  | _ => false
def scalL : List AV → Bool
  | [] => true
  | v :: vs => scal v && scalL vs
end

variable (E : Env)

def callA (m : Nat → Option MO) (f : FuncId) (as : List AV) (K : AV → Option R) : Option R :=
  match mapO (seeV false m 8) as with
  | some bs => E.callK f bs K
  | none => match mapO (seeV true m 8) as with
    | some bs => E.callK f bs fun r => gd (scal r) (K r)
    | none => none

/-- the result of a call lies in the state -/
def doneA (σ : St) (dst : Option Nat) (K : St → Option R) (r : AV) : Option R :=
  match dst with
  | some d => gd (few (impV d 0 r).2 && freeL σ.m d 0 (impV d 0 r).2) (K ⟨upd σ.ρ d (impV d 0 r).1, mupdL σ.m d 0 (impV d 0 r).2⟩)
  | none => gd (impV 0 0 r).2.isEmpty (K σ)

/-- the front of a slice of the function's own: its old name dies -/
def preA (m : Nat → Option MO) (d : Nat) (T : TypeId) (a h : AV) (K : AV → (Nat → Option MO) → Option R) : Option R :=
  match elemTy E T with
  | none => none
  | some (_, ei, ty) =>
    match m d with
    | some _ => none
    | none => match a with
      | .own n => match m n with
        | some (.sl t' xs .live) => match castL t' ty xs with
          | some xs => match h with
            | .int _ q => gd (Nat.beq ty.size ei.size && (decide (0 ≤ q) && decide (q ≤ xs.length))) (K (.own d) (mupd (mupd m n (.sl ty xs .dead)) d (.sl ty (xs.take q.toNat) .live)))
            | _ => none
          | none => none
        | _ => none
      | _ => none

def exN : Ex → Bool
  | .normal => true
  | _ => false

/-- a call of yield: a round of the loop -/
def yldA (σ : St) (d n : Nat) (as : List AV) (K : St → Option R) : Option R :=
  match σ.m n with
  | some (.rng id caps (some 0)) => match E.rounds id with
    | some c => match getW (renC (zlook c.cin.tms (as ++ caps)) (mupd σ.m n (.rng id caps none)) c.cin.objs) c.cin (zlook c.cin.tms (as ++ caps)) (mupd σ.m n (.rng id caps none)) with
      | some v => gd (Nat.beq as.length c.np) (match c.F v with
        | some t => c.out t fun e τ ns => backA (renC (zlook c.cin.tms (as ++ caps)) (mupd σ.m n (.rng id caps none)) c.cin.objs) ⟨σ.ρ, mupd σ.m n (.rng id caps none)⟩ (some d) d ⟨fun i => bif Nat.beq i 0 then .bool (exN e) else .undef, τ.m⟩ ns fun σ' =>
            K ⟨σ'.ρ, mupd σ'.m n (.rng id caps (some e.key))⟩
        | none => none)
      | none => none
    | none => none
  | _ => none

def preO (o : Oper) : Bool := match o.op, o.dst with
  | .slice .., some d => E.pre d
  | .call .., some d => E.pre d
  | _, _ => false

def preS (o : Oper) (σ : St) (K : St → Option R) : Option R :=
  match o.op, o.dst with
  | .call ⟨.value f, args, _⟩, some d => match σ.ev f with
    | .clo f caps => memsA (E.callM f) σ (some d) d (args.toList.map σ.ev ++ caps) K
    | .yld n => yldA E σ d n (args.toList.map σ.ev) K
    | _ => none
  | .call ⟨.invoke x name, args, _⟩, some d => match σ.ev x with
    | .iface t v => match E.meth t name with
      | some f => memsA (E.callM f) σ (some d) d (v :: args.toList.map σ.ev) K
      | none => none
    | _ => none
  | .slice T x none (some y) none, some d => preA E σ.m d T (σ.ev x) (σ.ev y) fun v m => K ⟨upd σ.ρ d v, m⟩
  | _, _ => none

def stillO (m : Nat → Option MO) (n : Nat) : Nat → Option MO :=
  match m n with
  | some (.box cs .live) => mupd m n (.box cs .still)
  | some (.sl t xs .live) => mupd m n (.sl t xs .still)
  | _ => m

def stillL (m : Nat → Option MO) : List Nat → (Nat → Option MO)
  | [] => m
  | n :: ns => stillL (stillO m n) ns

def opB (o : Oper) (σ : St) (K : St → Option R) : Option R := bif preO E o then preS E o σ K else
  match o.op with
  | .store t p x => storeA E t σ.m (σ.ev p) (σ.ev x) fun m => K ⟨putO σ.ρ o.dst .undef, m⟩
  | .call ⟨.builtin .append, args, ts⟩ => match o.dst, args.toList, ts.toList with
    | some d, [a, b], [t, u] => appA E σ.m d t u (σ.ev a) (σ.ev b) fun v m => K ⟨upd σ.ρ d v, m⟩
    | _, _, _ => none
  | .call ⟨.value f, args, _⟩ => match σ.ev f with
    | .clo f caps => callA E σ.m f (args.toList.map σ.ev ++ caps) (doneA σ o.dst K)
    | _ => none
  | .call ⟨.invoke x name, args, _⟩ => match σ.ev x with
    | .iface t v => match E.meth t name with
      | some f => callA E σ.m f (v :: args.toList.map σ.ev) (doneA σ o.dst K)
      | none => none
    | _ => none
  | op => coreA E o.dst op σ.ev σ.m fun v ob => match ob with
    | none => K (σ.put o.dst v)
    | some ob => match o.dst with
      | some d => match σ.m d with
        | none => K ⟨upd σ.ρ d v, mupd σ.m d ob⟩
        | some _ => none
      | none => none

/-- what is written no more from an operation on -/
def opStill (o : Oper) : List Nat := match o.dst with | some d => E.still (2000000 + d) | none => []

/-- what is written no more as soon as it is there -/
def opBorn (o : Oper) : List Nat := match o.dst with | some d => E.still (3000000 + d) | none => []

def opA (o : Oper) (σ : St) (K : St → Option R) : Option R := opB E o ⟨σ.ρ, stillL σ.m (opStill E o)⟩ fun σ' => K ⟨σ'.ρ, stillL σ'.m (opBorn E o)⟩

def opsA (all : Array Oper) : List Oper → St → (St → Option R) → Option R
  | [], σ, K => K σ
  | o :: rest, σ, K =>
    match o.guard with
    | none => opA E o σ (fun σ' => opsA all rest σ' K)
    | some (j, want) =>
      match (all[j]?).bind (·.dst) with
      | none => none
      | some t =>
        match σ.ρ t with
        | .bool b =>
          bif b then
            (bif want then opA E o (σ.set t (.bool true)) (fun σ' => opsA all rest σ' K) else opsA all rest ((σ.set t (.bool true)).put o.dst (.tup [])) K)
          else
            (bif want then opsA all rest ((σ.set t (.bool false)).put o.dst (.tup [])) K else opA E o (σ.set t (.bool false)) (fun σ' => opsA all rest σ' K))
        | .tup [] => opsA all rest (σ.put o.dst (.tup [])) K
        | _ => none

/-- does an operation write nothing that is there already, whatever its operands are? -/
def bornOk (o : Oper) : Bool := (opBorn E o).isEmpty || (match o.op, o.dst with | .buildSlice .., some d => (match opBorn E o with | [n] => Nat.beq n d | _ => false) | _, _ => false)

def plainOp (o : Oper) : Bool := !(preO E o) && ((opStill E o).isEmpty && (bornOk E o &&
  match o.op with
  | .store .. => false
  | .call ⟨.builtin .append, _, _⟩ => false
  | .call ⟨.builtin .copy, _, _⟩ => false
  | _ => true))

/-- may two operations change places? -/
def noSel (o : Oper) : Bool := match o.op with | .select .. => false | _ => true

/-- an append, whatever its operands are -/
def plainApp (o : Oper) : Bool := match o.op with
  | .call ⟨.builtin .append, _, _⟩ => o.guard.isNone && (o.dst.isSome && (!(preO E o) && ((opStill E o).isEmpty && (opBorn E o).isEmpty)))
  | _ => false

def plainLoad (o : Oper) : Bool := match o.op with
  | .load .. => o.guard.isNone && (o.dst.isSome && plainOp E o)
  | .move _ => o.guard.isNone && (o.dst.isSome && plainOp E o)
  | .slice .. => o.guard.isNone && (o.dst.isSome && plainOp E o)
  | _ => false

/-- an operation that does not look at the memory -/
def pureOp : Op → Bool
  | .move _ => true
  | .assign _ => true
  | .nilCheck _ => true
  | .binOp .. => true
  | .unOp .. => true
  | .pick .. => true
  | .fieldAddr .. => true
  | .field .. => true
  | .extract .. => true
  | _ => false
def pureX (o : Oper) : Bool := pureOp o.op && (o.guard.isNone && (o.dst.isSome && plainOp E o))
/-- a store -/
def plainStore (o : Oper) : Bool := match o.op with
  | .store .. => o.guard.isNone && o.dst.isNone
  | _ => false

def apartOps (all : Array Oper) (x y : Oper) : Bool := x.apart all y && ((plainOp E x && plainOp E y) || ((plainApp E x && plainLoad E y) || (pureX E x && (plainApp E y || plainStore y))))

/-- operations that may look at the memory, and make nothing -/
def lookOp : Op → Bool
  | .load .. => true
  | .indexAddr .. => true
  | .index .. => true
  | .slice .. => true
  | .call ⟨.builtin .len, _, _⟩ => true
  | _ => false

/-- no operation from a number on writes a slot -/
def notLater (all : Array Oper) (b i j t : Nat) : Bool := (List.range all.size).all fun k => (Nat.blt k j || (Nat.blt k i && b.testBit k)) || (match all[k]? with | some o => (match o.dst with | some d => !(Nat.beq d t) | none => true) | none => true)

/-- a look at the memory, and a store into a variable behind it that is another one: seen at the end of the region -/
def dynOk (all : Array Oper) (σf : St) (b i j : Nat) (x y : Oper) : Bool :=
  x.apart all y && ((lookOp x.op && (x.guard.isNone && (x.dst.isSome && plainOp E x))) && (plainStore y && match y.op with
    | .store _ (.tmp q) _ => notLater all b i j q && (match σf.ρ q with
      | .ptr n' _ => (match x.op with
        | .load _ (.tmp a) => notLater all b i j a && (match σf.ρ a with
          | .ptr n _ => !(Nat.beq n n')
          | .bx _ _ => true
          | .ro _ _ _ => true
          | .oel _ _ _ => true
          | _ => false)
        | .load _ _ => false
        | _ => true)
      | _ => false)
    | _ => false))

/-- what stands before an operation, as bits -/
def maskOf (acc : List Nat) (o : Oper) : Nat :=
  o.after.toList.foldl (fun s e => bif Region.binds .any e then s ||| (2 ^ e.on ||| acc.getD e.on 0) else s) 0

def masks : List Oper → List Nat → List Nat
  | [], acc => acc
  | o :: os, acc => masks os (acc ++ [maskOf acc o])

def dstSmall (o : Oper) : Bool := match o.dst with | some d => Nat.blt d 4096 | none => true

def openB (all : Array Oper) : Bool := all.all dstSmall && (List.range all.size).all fun i => (match all[i]? with | some o => o.after.toList.all fun e => !Region.binds .any e || Nat.blt e.on i | none => true)

/-- the pairs that may not change places just so -/
def openPairs (all : Array Oper) : List (Nat × Nat) :=
  let b := masks all.toList []
  (List.range all.size).flatMap fun i => ((List.range i).filter fun j => !((b.getD i 0).testBit j || (match all[j]?, all[i]? with | some x, some y => apartOps E all x y | _, _ => false))).map fun j => (j, i)

/-- each two operations whose order is open may change places -/
def openOk (all : Array Oper) : Bool := openB all && (openPairs E all).isEmpty

/-- likewise, with a look at the region's end -/
def openDyn (all : Array Oper) (σf : St) : Bool := openB all && (let bs := masks all.toList []; (openPairs E all).all fun p => match all[p.1]?, all[p.2]? with | some x, some y => dynOk E all σf (bs.getD p.2 0) p.2 p.1 x y | _, _ => false)

end Go.Dv
