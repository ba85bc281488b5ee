/- The evaluator: what the operations of the model's code do (definitions alone; the proofs that they agree with the model stand in the texts behind). -/
import Derived.Test.YtmffojmbfphidaaDoorDvSh
set_option linter.all false
namespace Go.Dv

/-- what is said of a function: a plain function of the arguments, where they have the looks that it takes, and how its result is to be seen -/
structure Ctr where
  T : Type
  dom : List AV → Option (Option T)
  out : {R : Type} → T → (AV → Option R) → Option R
  nat : ∀ {R : Type} (t : T) (K : AV → Option R), out t K = (out t some).bind K

/-- what a function body is evaluated with: what is known of types, of the functions that it calls, of the methods of dynamic types; for each region the names of what is written no more from there on -/
structure Env where
  ty : TypeId → Option TI
  call : FuncId → List AV → Option Ctr
  /-- functions that are lent objects -/
  callM : FuncId → List CtrM
  /-- rounds of loops over functions -/
  rounds : Nat → Option CtrR := fun _ => none
  meth : TypeId → String → Option FuncId
  eqt : TypeId → List Nat → Bool
  still : Nat → List Nat
  /-- the slots of those operations that cut a slice of the function's own, and of the calls that are lent objects -/
  pre : Nat → Bool

def Env.callK {R : Type} (E : Env) (f : FuncId) (as : List AV) (K : AV → Option R) : Option R :=
  match E.call f as with
  | some c => match c.dom as with
    | some o => match o with
      | some t => c.out t K
      | none => none
    | none => none
  | none => none

theorem Env.callK_nat {R : Type} (E : Env) (f : FuncId) (as : List AV) (K : AV → Option R) : E.callK f as K = (E.callK f as some).bind K := by
  unfold Env.callK
  split
  · rename_i c _
    split
    · split
      · exact c.nat _ K
      · rfl
    · rfl
  · rfl

variable {R : Type} (E : Env)

def ofV : Value → AV
  | .bool b => .bool b
  | .int k n => .int k n
  | .string s => .str s.data.toList
  | .pointer none => .nilp
  | .slice none 0 0 => .nils
  | .nilFunc => .nilf
  | .nilIface => .nili
  | _ => .undef

def St.ev (σ : St) : Operand → AV
  | .tmp t => σ.ρ t
  | .const v => ofV v
  | .func f => .clo f []
  | .global _ => .undef

def St.put (σ : St) (dst : Option Nat) (v : AV) : St := ⟨putO σ.ρ dst v, σ.m⟩

def mkAgg (agg : Bool) (cs : List AV) : Option AV :=
  match agg with
  | true => some (.agg cs)
  | false => match cs with | [c] => some c | _ => none

def readCells (ti : TI) (off : Nat) (cs : List AV) : Option AV :=
  bif Nat.ble (off + ti.size) cs.length then mkAgg ti.d.agg ((cs.drop off).take ti.size) else none

def writeCells (off : Nat) (new : List AV) (cs : List AV) : List AV := cs.take off ++ new ++ cs.drop (off + new.length)


def inB (i : Int) (n : Nat) : Bool := decide (0 ≤ i) && decide (i < n)

def rd (t : Ty) (xs : List t.T) (i : Int) : t.T := xs.getD i.toNat t.dflt
/-- the same two in words of plain lists -/
def rdL {α : Type} (xs : List α) (i : Int) (d : α) : α := xs.getD i.toNat d
def setL {α : Type} (xs : List α) (i : Int) (y : α) : List α := xs.set i.toNat y
def bt (s : List UInt8) (i : Int) : Int := ((s.getD i.toNat 0).toNat : Int)

def bytesI (s : List UInt8) : List Int := s.map fun b => (b.toNat : Int)
def bytesU (s : List Int) : List UInt8 := s.map fun n => UInt8.ofNat n.toNat

def eqi (a b : Int) : Bool := a == b
def eqb (a b : Bool) : Bool := a == b
def eqs (a b : List UInt8) : Bool := a == b
def lts (a b : List UInt8) : Bool := Op.bytesLess a b

def kindOf : AV → Nat
  | .int _ _ => 0
  | .bool _ => 1
  | .str _ => 2
  | _ => 3
def kindsOf : List AV → List Nat
  | [] => []
  | v :: vs => kindOf v :: kindsOf vs

def eqCell : AV → AV → Option Bool
  | .int k a, .int l b => match ikEq k l with | some _ => some (eqi a b) | none => none
  | .bool a, .bool b => some (eqb a b)
  | .str a, .str b => some (eqs a b)
  | _, _ => none

def eqCells : List AV → List AV → Option Bool
  | [], [] => some true
  | a :: as, b :: bs => match eqCell a b with
    | some x => match eqCells as bs with | some y => some (x && y) | none => none
    | none => none
  | _, _ => none

def allOne (cs : List AV) : Bool := cs.all AV.one

/-- the greatest number of bytes that a string or a slice may come to have here -/
def maxB : Nat := 4398046511104
/-- the greatest number of bytes that a sum of strings may have here -/
def maxS : Nat := 4611686018427387904

def binA (op : BinOp) (t : TypeId) : AV → AV → Option AV
  | .int k a, .int l b =>
    match op with
    | .shl => bif decide (0 ≤ b) then some (.int k (k.wrap (a * 2 ^ min b.toNat k.bits))) else none
    | .shr => bif decide (0 ≤ b) then some (.int k (a.fdiv (2 ^ min b.toNat k.bits))) else none
    | op =>
    match ikEq k l with
    | none => none
    | some _ =>
    match op with
    | .add => some (.int k (k.wrap (a + b)))
    | .sub => some (.int k (k.wrap (a - b)))
    | .mul => some (.int k (k.wrap (a * b)))
    | .quo => bif !(eqi b 0) then some (.int k (k.wrap (a.tdiv b))) else none
    | .rem => bif !(eqi b 0) then some (.int k (a.tmod b)) else none
    | .and => some (.int k (k.wrap ((BitVec.ofInt k.bits a &&& BitVec.ofInt k.bits b).toNat : Int)))
    | .or => some (.int k (k.wrap ((BitVec.ofInt k.bits a ||| BitVec.ofInt k.bits b).toNat : Int)))
    | .xor => some (.int k (k.wrap ((BitVec.ofInt k.bits a ^^^ BitVec.ofInt k.bits b).toNat : Int)))
    | .andNot => some (.int k (k.wrap ((BitVec.ofInt k.bits a &&& ~~~ BitVec.ofInt k.bits b).toNat : Int)))
    | .eql => some (.bool (eqi a b))
    | .neq => some (.bool (!(eqi a b)))
    | .lss => some (.bool (decide (a < b)))
    | .leq => some (.bool (decide (a ≤ b)))
    | .gtr => some (.bool (decide (b < a)))
    | .geq => some (.bool (decide (b ≤ a)))
    | _ => none
  | .str a, .str b =>
    match op with
    | .eql => some (.bool (eqs a b))
    | .neq => some (.bool (!(eqs a b)))
    | .add => bif decide (a.length + b.length < maxS) then some (.str (a ++ b)) else none
    | .lss => some (.bool (lts a b))
    | .leq => some (.bool (lts a b || eqs a b))
    | .gtr => some (.bool (!(lts a b || eqs a b)))
    | .geq => some (.bool (!(lts a b)))
    | _ => none
  | .bool a, .bool b =>
    match E.ty t with
    | some ⟨.bool, _, _, _, _⟩ =>
      match op with
      | .eql => some (.bool (eqb a b))
      | .neq => some (.bool (!(eqb a b)))
      | _ => none
    | _ => none
  | .agg xs, .agg ys =>
    bif E.eqt t (kindsOf xs) then
      match op with
      | .eql => match eqCells xs ys with | some b => some (.bool b) | none => none
      | .neq => match eqCells xs ys with | some b => some (.bool (!b)) | none => none
      | _ => none
    else none
  | .iface _ _, .nili =>
    match E.ty t with
    | some ⟨.iface, _, _, _, _⟩ =>
      match op with
      | .eql => some (.bool false)
      | .neq => some (.bool true)
      | _ => none
    | _ => none
  | .nili, .nili =>
    match E.ty t with
    | some ⟨.iface, _, _, _, _⟩ =>
      match op with
      | .eql => some (.bool true)
      | .neq => some (.bool false)
      | _ => none
    | _ => none
  | _, _ => none

/-- the same without the conditions of `binG` -/
def binN (op : BinOp) (t : TypeId) : AV → AV → Option AV
  | .int k a, .int l b =>
    match op with
    | .shl => some (.int k (k.wrap (a * 2 ^ min b.toNat k.bits)))
    | .shr => some (.int k (a.fdiv (2 ^ min b.toNat k.bits)))
    | op =>
    match ikEq k l with
    | none => none
    | some _ =>
    match op with
    | .add => some (.int k (k.wrap (a + b)))
    | .sub => some (.int k (k.wrap (a - b)))
    | .mul => some (.int k (k.wrap (a * b)))
    | .quo => some (.int k (k.wrap (a.tdiv b)))
    | .rem => some (.int k (a.tmod b))
    | .and => some (.int k (k.wrap ((BitVec.ofInt k.bits a &&& BitVec.ofInt k.bits b).toNat : Int)))
    | .or => some (.int k (k.wrap ((BitVec.ofInt k.bits a ||| BitVec.ofInt k.bits b).toNat : Int)))
    | .xor => some (.int k (k.wrap ((BitVec.ofInt k.bits a ^^^ BitVec.ofInt k.bits b).toNat : Int)))
    | .andNot => some (.int k (k.wrap ((BitVec.ofInt k.bits a &&& ~~~ BitVec.ofInt k.bits b).toNat : Int)))
    | .eql => some (.bool (eqi a b))
    | .neq => some (.bool (!(eqi a b)))
    | .lss => some (.bool (decide (a < b)))
    | .leq => some (.bool (decide (a ≤ b)))
    | .gtr => some (.bool (decide (b < a)))
    | .geq => some (.bool (decide (b ≤ a)))
    | _ => none
  | .str a, .str b =>
    match op with
    | .eql => some (.bool (eqs a b))
    | .neq => some (.bool (!(eqs a b)))
    | .add => some (.str (a ++ b))
    | .lss => some (.bool (lts a b))
    | .leq => some (.bool (lts a b || eqs a b))
    | .gtr => some (.bool (!(lts a b || eqs a b)))
    | .geq => some (.bool (!(lts a b)))
    | _ => none
  | .bool a, .bool b =>
    match E.ty t with
    | some ⟨.bool, _, _, _, _⟩ =>
      match op with
      | .eql => some (.bool (eqb a b))
      | .neq => some (.bool (!(eqb a b)))
      | _ => none
    | _ => none
  | .agg xs, .agg ys =>
    bif E.eqt t (kindsOf xs) then
      match op with
      | .eql => match eqCells xs ys with | some b => some (.bool b) | none => none
      | .neq => match eqCells xs ys with | some b => some (.bool (!b)) | none => none
      | _ => none
    else none
  | .iface _ _, .nili =>
    match E.ty t with
    | some ⟨.iface, _, _, _, _⟩ =>
      match op with
      | .eql => some (.bool false)
      | .neq => some (.bool true)
      | _ => none
    | _ => none
  | .nili, .nili =>
    match E.ty t with
    | some ⟨.iface, _, _, _, _⟩ =>
      match op with
      | .eql => some (.bool true)
      | .neq => some (.bool false)
      | _ => none
    | _ => none
  | _, _ => none

/-- where an operation on two values is one that cannot go wrong -/
def binG (op : BinOp) : AV → AV → Bool
  | .int _ _, .int _ b => match op with
    | .shl => decide (0 ≤ b)
    | .shr => decide (0 ≤ b)
    | .quo => !(eqi b 0)
    | .rem => !(eqi b 0)
    | _ => true
  | .str a, .str b => match op with
    | .add => decide (a.length + b.length < maxS)
    | _ => true
  | _, _ => true

def isC : Operand → Bool
  | .const _ => true
  | _ => false

/-- two nil interfaces are compared where one of them is the literal nil -/
def nilG (x y : Operand) : AV → AV → Bool
  | .nili, .nili => isC x || isC y
  | _, _ => true

theorem bin_eq (op : BinOp) (t : TypeId) (a b : AV) (K : AV → Option R) : gd (binG op a b) (match binN E op t a b with | some v => K v | none => none) = match binA E op t a b with | some v => K v | none => none := by
  cases a <;> cases b <;> try rfl
  case int.int k a l b =>
    cases op <;> simp only [binG, binN, binA, gd, cond_true] <;> first
      | rfl
      | (cases decide (0 ≤ b) <;> rfl)
      | (cases ikEq k l <;> cases hq : eqi b 0 <;> rfl)
      | skip
  case str.str a b =>
    cases op <;> simp only [binG, binN, binA, gd, cond_true] <;> first
      | rfl
      | (cases decide (a.length + b.length < maxS) <;> rfl)

def lenA (m : Nat → Option MO) : AV → Option Int
  | .list _ xs => some xs.length
  | .clip _ xs => some xs.length
  | .nils => some 0
  | .str s => some s.length
  | .own n => match m n with | some (.sl _ xs .live) => some xs.length | some (.sl _ xs .still) => some xs.length | _ => none
  | _ => none

/-- no bound: the place of a bound that is not there -/
def boundA : Option AV → Int → Option Int
  | none, d => some d
  | some (.int _ n), _ => some n
  | _, _ => none

def cut2 {α : Type} (xs : List α) (l h : Int) : List α := (xs.drop l.toNat).take (h.toNat - l.toNat)

/-- a look at a place of an array: one arm for each place -/
def armN (i : Int) (k : Nat → Option R) : Nat → Option R
  | 0 => none
  | n + 1 => bif eqi i n then k n else armN i k n

theorem armN_some {i : Int} {k : Nat → Option R} {r : R} : ∀ {n : Nat}, armN i k n = some r → ∃ j : Nat, i = (j : Int) ∧ j < n ∧ k j = some r
  | 0, h => by cases h
  | n + 1, h => by
    simp only [armN] at h
    cases e : eqi i n
    · rw [e] at h
      obtain ⟨j, h1, h2, h3⟩ := armN_some h
      exact ⟨j, h1, by omega, h3⟩
    · rw [e] at h
      exact ⟨n, eq_of_beq e, by omega, h⟩

def fillA : (Nat → Option (Nat × Nat)) → List AV → List (Nat × AV) → Option (List AV)
  | _, cells, [] => some cells
  | place, cells, (i, v) :: rest =>
    match place i with
    | none => none
    | some (off, size) =>
      bif (Nat.beq v.cells.length size && Nat.ble (off + size) cells.length) && allOne v.cells then
      fillA place (writeCells off v.cells cells) rest
      else none

def fillL (m : Nat → Option MO) (t : Ty) : List (Nat × AV) → List t.T → Option (List t.T)
  | [], acc => some acc
  | (i, v) :: r, acc => match dec m t v.cells with | some x => bif Nat.blt i acc.length then fillL m t r (acc.set i x) else none | none => none

def sizes (fs : List (Nat × TypeId)) : Option (List (Nat × Nat)) :=
  match fs with
  | [] => some []
  | (o, t) :: r => match E.ty t with
    | some ti => match sizes r with | some l => some ((o, ti.size) :: l) | none => none
    | none => none

/-- what a callee sees of an argument: nothing that is still written -/
def seeAll (m : Nat → Option MO) : AV → Option AV
  | .own n => match m n with | some (.sl t xs .still) => some (.list t xs) | _ => none
  | .ptr n off => match m n with
    | some (.box cs .still) => some (.bx cs off)
    | _ => none
  | .oel _ _ _ => none
  | .undef => none
  | .fresh _ _ => none
  | v => some v

def elemTy (t : TypeId) : Option (TypeId × TI × Ty) :=
  match E.ty t with
  | some ⟨.slice e, _, _, _, _⟩ =>
    match E.ty e with
    | some ti => match ti.ty with | some ty => some (e, ti, ty) | none => none
    | none => none
  | _ => none

/-- operations that write nothing that is there already: what they yield, and a new object, if they make one -/
def coreA (dst : Option Nat) (op : Op) (ev : Operand → AV) (m : Nat → Option MO) (K : AV → Option MO → Option R) : Option R :=
  match op with
  | .move x => K (ev x) none
  | .nilCheck x => match ev x with
    | .ptr n off => K (.ptr n off) none
    | .oel n i off => K (.oel n i off) none
    | .bx cs off => K (.bx cs off) none
    | .ro t y off => K (.ro t y off) none
    | _ => none
  | .assign x => K (ev x) none
  | .pick c a b => match ev c with
    | .bool x => bif x then K (ev a) none else K (ev b) none
    | _ => none
  | .alloc t => match E.ty t, dst with
    | some ti, some d => K (.ptr d 0) (some (.box (ti.zero.map Z.av) .live))
    | _, _ => none
  | .box _ x => match dst with
    | some d => gd (allOne (ev x).cells) (K (.ptr d 0) (some (.box (ev x).cells .live)))
    | none => none
  | .load t a => match E.ty t with
    | none => none
    | some ti => match ev a with
      | .ptr n off => match m n with
        | some (.box cs .live) => match readCells ti off cs with | some v => K v none | none => none
        | some (.box cs .still) => match readCells ti off cs with | some v => K v none | none => none
        | _ => none
      | .bx cs off => match readCells ti off cs with | some v => K v none | none => none
      | .ro t' x off => match readCells ti off (enc t' x) with | some v => K v none | none => none
      | .oel n i off => match m n with
        | some (.sl t' xs .live) => match readCells ti off (enc t' (xs.getD i t'.dflt)) with | some v => K v none | none => none
        | some (.sl t' xs .still) => match readCells ti off (enc t' (xs.getD i t'.dflt)) with | some v => K v none | none => none
        | _ => none
      | _ => none
  | .binOp op t x y _ => gd (nilG x y (ev x) (ev y)) (gd (binG op (ev x) (ev y)) (match binN E op t (ev x) (ev y) with
    | some v => K v none
    | none => none))
  | .unOp .not _ x => match ev x with
    | .bool b => K (.bool (!b)) none
    | _ => none
  | .unOp .neg _ x => match ev x with
    | .int k n => K (.int k (k.wrap (0 - n))) none
    | _ => none
  | .convert q t x => match E.ty q, E.ty t with
    | some _, some ti => match ti.d, ev x with
      | .int k, .int _ n => K (.int k (k.wrap n)) none
      | .str, .int _ n => K (.str (Utf8.encode n).data.toList) none
      | .str, .str s => K (.str s) none
      | .str, v => match elemTy E q with
        | some (_, _, .int .u8) => match seeList m (.int .u8) v with
          | some xs => K (.str (bytesU xs)) none
          | none => none
        | _ => none
      | .slice _, .str s => match elemTy E t, dst with
        | some (_, _, .int .u8), some d => gd (decide (s.length < maxB)) (K (.own d) (some (.sl (.int .u8) (bytesI s) .live)))
        | _, _ => none
      | _, _ => none
    | _, _ => none
  | .makeInterface t x => match E.ty t with
    | some ti => match ti.d with
      | .iface => none
      | _ => K (.iface t (ev x)) none
    | none => none
  | .makeFunc (.func f) first caps => gd (first.isEmpty && allOne (caps.toList.map ev)) (K (.clo f (caps.toList.map ev)) none)
  | .fieldAddr s x f => match E.ty s with
    | some ti => match ti.d with
      | .struct fs => match fs[f]? with
        | some (fo, ft) => match E.ty ft with
          | some fi => gd (Nat.blt 0 fi.size) (match ev x with
            | .ptr n off => K (.ptr n (off + fo)) none
            | .bx cs off => K (.bx cs (off + fo)) none
            | .ro t y off => K (.ro t y (off + fo)) none
            | .oel n i off => K (.oel n i (off + fo)) none
            | _ => none)
          | none => none
        | none => none
      | _ => none
    | none => none
  | .indexAddr T x i => match ev i with
    | .int _ i => match E.ty T with
      | some ti => match ti.d with
        | .slice e => match E.ty e with
          | some ei => match ev x with
            | .list t xs => gd (Nat.beq t.size ei.size && inB i xs.length) (K (.ro t (rd t xs i) 0) none)
            | .clip t xs => gd (Nat.beq t.size ei.size && inB i xs.length) (K (.ro t (rd t xs i) 0) none)
            | .own n => match m n with
              | some (.sl t xs .live) => gd (Nat.beq t.size ei.size && inB i xs.length) (K (.oel n i.toNat 0) none)
              | some (.sl t xs .still) => gd (Nat.beq t.size ei.size && inB i xs.length) (K (.ro t (rd t xs i) 0) none)
              | _ => none
            | _ => none
          | none => none
        | .arr len e => match E.ty e with
          | some ei => armN i (fun i => match ev x with
            | .ptr n off => K (.ptr n (off + i * ei.size)) none
            | .bx cs off => K (.bx cs (off + i * ei.size)) none
            | .ro t y off => K (.ro t y (off + i * ei.size)) none
            | .oel n j off => K (.oel n j (off + i * ei.size)) none
            | _ => none) len
          | none => none
        | _ => none
      | none => none
    | _ => none
  | .index T x i => match ev i with
    | .int _ i => match E.ty T with
      | some ti => match ti.d, ev x with
        | .str, .str s => gd (inB i s.length) (K (.int .u8 (bt s i)) none)
        | .arr len e, .agg cs => match E.ty e with
          | some ei => gd (inB i len) (match readCells ei (i.toNat * ei.size) cs with | some v => K v none | none => none)
          | none => none
        | _, _ => none
      | none => none
    | _ => none
  | .field T x f => match E.ty T with
    | some ti => match ti.d, ev x with
      | .struct fs, .agg cs => match fs[f]? with
        | some (fo, ft) => match E.ty ft with
          | some fi => match readCells fi fo cs with | some v => K v none | none => none
          | none => none
        | none => none
      | _, _ => none
    | none => none
  | .slice T x lo hi mx => match E.ty T with
    | some ti => match ti.d, ev x with
      | .str, .str s => match mx with
        | none => match boundA (lo.map ev) 0, boundA (hi.map ev) s.length with
          | some l, some h => gd (decide (0 ≤ l) && (decide (l ≤ h) && decide (h ≤ s.length))) (K (.str (cut2 s l h)) none)
          | _, _ => none
        | some _ => none
      | .slice _, v => match elemTy E T with
        | some (_, ei, ty) => match asList m ty v with
          | some xs => match boundA (lo.map ev) 0, boundA (hi.map ev) xs.length with
            | some l, some h => match mx with
              | none => gd (Nat.beq ty.size ei.size && (decide (0 ≤ l) && (decide (l ≤ h) && decide (h ≤ xs.length)))) (K (.list ty (cut2 xs l h)) none)
              | some mx => match ev mx with
                | .int _ q => gd (Nat.beq ty.size ei.size && ((decide (0 ≤ l) && (decide (l ≤ h) && decide (h ≤ xs.length))) && (eqi q h && hi.isSome))) (K (.clip ty (cut2 xs l h)) none)
                | _ => none
            | _, _ => none
          | none => none
        | none => none
      | _, _ => none
    | none => none
  | .build t parts => match E.ty t with
    | some ti => match ti.d with
      | .struct fs => match sizes E fs with
        | some l => match fillA (fun i => l[i]?) (ti.zero.map Z.av) (parts.toList.map fun p => (p.1, ev p.2)) with
          | some cs => K (.agg cs) none
          | none => none
        | none => none
      | .arr _ e => match E.ty e with
        | some ei => match fillA (fun i => some (i * ei.size, ei.size)) (ti.zero.map Z.av) (parts.toList.map fun p => (p.1, ev p.2)) with
          | some cs => K (.agg cs) none
          | none => none
        | none => none
      | _ => none
    | none => none
  | .buildSlice t n parts => match elemTy E t, dst with
    | some (_, ei, ty), some d => gd (Nat.ble (n * ei.size) 16777216) (match fillL m ty (parts.toList.map fun p => (p.1, ev p.2)) (List.replicate n ty.dflt) with
      | some xs => K (.own d) (some (.sl ty xs .live))
      | none => none)
    | _, _ => none
  | .makeSlice t n c => match elemTy E t, dst, ev n, ev c with
    | some (_, ei, ty), some d, .int _ n, .int _ c =>
      gd ((decide (0 ≤ n) && decide (n ≤ c)) && (decide (c < maxB) && decide (c * ei.bytes < maxB))) (K (.own d) (some (.sl ty (List.replicate n.toNat ty.dflt) .live)))
    | _, _, _, _ => none
  | .extract t i => match ev t with
    | .tup vs => match vs[i]? with | some v => K v none | none => none
    | _ => none
  | .call ⟨.builtin .len, args, ts⟩ => match args.toList, ts.toList with
    | [x], [t] => match E.ty t with
      | some ti => match ti.d with
        | .str => match ev x with | .str s => K (.int .i64 s.length) none | _ => none
        | .slice _ => match ev x with
          | .str _ => none
          | v => match lenA m v with | some n => K (.int .i64 n) none | none => none
        | .arr n _ => K (.int .i64 n) none
        | _ => none
      | none => none
    | _, _ => none
  | .call ⟨.builtin .min, args, _⟩ => match args.toList.map ev with
    | [.str a, .str b] => K (.str (bif lts a b || eqs a b then a else b)) none
    | [.int k a, .int l b] => match ikEq k l with | some _ => K (.int k (bif decide (b < a) then b else a)) none | none => none
    | _ => none
  | .call ⟨.builtin .max, args, _⟩ => match args.toList.map ev with
    | [.str a, .str b] => K (.str (bif !(lts a b) then a else b)) none
    | [.int k a, .int l b] => match ikEq k l with | some _ => K (.int k (bif decide (a < b) then b else a)) none | none => none
    | _ => none
  | _ => none

end Go.Dv
