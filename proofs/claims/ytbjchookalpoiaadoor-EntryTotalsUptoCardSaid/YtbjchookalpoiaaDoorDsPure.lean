/- Printed by a program of the session's: what the program's functions compute, and that they do. -/
import Derived.Test.YtbjchookalpoiaaDoorDvD
import Derived.Test.YtbjchookalpoiaaDoorDvE
set_option linter.all false
namespace Ds
open Go Go.Dv

def T_api_Entry : Ty := (.pair (.int .i64) (.pair (.int .i64) (.pair (.int .i64) (.pair (.int .i64) (.pair (.int .i64) .str)))))
abbrev V_api_Entry : Type := (Int × (Int × (Int × (Int × (Int × (List UInt8))))))
abbrev D_api_Entry : V_api_Entry := ((0 : Int), ((0 : Int), ((0 : Int), ((0 : Int), ((0 : Int), ([] : List UInt8))))))
def T_api_Pair : Ty := (.pair .str (.pair .str (.int .i64)))
abbrev V_api_Pair : Type := ((List UInt8) × ((List UInt8) × Int))
abbrev D_api_Pair : V_api_Pair := (([] : List UInt8), (([] : List UInt8), (0 : Int)))
def T_api_Use : Ty := (.pair (.int .i64) (.int .i64))
abbrev V_api_Use : Type := (Int × Int)
abbrev D_api_Use : V_api_Use := ((0 : Int), (0 : Int))
def T_api_Place : Ty := (.pair .str (.pair (.int .i64) (.pair (.int .i64) .str)))
abbrev V_api_Place : Type := ((List UInt8) × (Int × (Int × (List UInt8))))
abbrev D_api_Place : V_api_Place := (([] : List UInt8), ((0 : Int), ((0 : Int), ([] : List UInt8))))
def T_path_place : Ty := (.pair .str T_api_Place)
abbrev V_path_place : Type := ((List UInt8) × V_api_Place)
abbrev D_path_place : V_path_place := (([] : List UInt8), D_api_Place)

/-- downspout/entry.Valid$1 -/
def entry_Valid_c1 (N : Nat) (a0 : Int) (a1 : Int) : Option (Bool) :=
  bif (decide ((0 : Int) ≤ a0)) then
  (some (decide (a0 ≤ a1)))
  else
  (some false)

/-- downspout/entry.Valid$2 -/
def entry_Valid_c2 (N : Nat) (a0 : Int) : Option (Bool) :=
  bif (decide (a0 < (32 : Int))) then
  (some true)
  else
  (some (decide ((126 : Int) < a0)))

/-- strings.indexFunc -/
def strings_indexFunc__entry_Valid_c2 (N : Nat) (a0 : List UInt8) (a1 : Bool) : Option (Int) :=
  some (idxF (entry_Valid_c2 N) a1 a0)

/-- strings.IndexFunc -/
def strings_IndexFunc__entry_Valid_c2 (N : Nat) (a0 : (List UInt8)) : Option (Int) :=
  match strings_indexFunc__entry_Valid_c2 N a0 true with
  | some r1 => (some r1)
  | none => none

/-- strings.ContainsFunc -/
def strings_ContainsFunc__entry_Valid_c2 (N : Nat) (a0 : (List UInt8)) : Option (Bool) :=
  match strings_IndexFunc__entry_Valid_c2 N a0 with
  | some r1 => (some (decide ((0 : Int) ≤ r1)))
  | none => none

/-- downspout/entry.Valid -/
def entry_Valid_p0 (N : Nat) (b0 : Bool) (b1 : Int) (b2 : Int) (b3 : Int) (b4 : Int) (b5 : Int) (b6 : (List UInt8)) (b7 : Int) (b8 : Int) (b9 : Int) (b10 : Int) (b11 : Int) (b12 : (List UInt8)) : Option ((Bool × Unit)) :=
  bif b0 then
  (let x1 := (eqi b7 b1 && (eqi b8 b2 && (eqi b9 b3 && (eqi b10 b4 && (eqi b11 b5 && (eqs b12 b6 && true))))))
  bif x1 then
  (match entry_Valid_c1 N b5 (255 : Int) with
  | some r2 => (some (r2, ()))
  | none => none)
  else
  (some (false, ())))
  else
  (some (false, ()))
def entry_Valid (N : Nat) (a0 : V_api_Entry) : Option (Bool) :=
  bif (eqi a0.1 (1 : Int)) then
  (match entry_Valid_p0 N true a0.1 a0.2.1 a0.2.2.1 a0.2.2.2.1 a0.2.2.2.2.1 a0.2.2.2.2.2 a0.1 (0 : Int) (0 : Int) (0 : Int) a0.2.2.2.2.1 ([] : List UInt8) with
  | some r3 => (some r3.1)
  | none => none)
  else
  (bif (eqi a0.1 (2 : Int)) then
  (match entry_Valid_c1 N a0.2.1 (60000 : Int) with
  | some r4 => (bif r4 then
  (match entry_Valid_c1 N a0.2.2.1 (1000 : Int) with
  | some r5 => (match entry_Valid_p0 N r5 a0.1 a0.2.1 a0.2.2.1 a0.2.2.2.1 a0.2.2.2.2.1 a0.2.2.2.2.2 a0.1 a0.2.1 a0.2.2.1 (0 : Int) a0.2.2.2.2.1 ([] : List UInt8) with
  | some r6 => (some r6.1)
  | none => none)
  | none => none)
  else
  (match entry_Valid_p0 N false a0.1 a0.2.1 a0.2.2.1 a0.2.2.2.1 a0.2.2.2.2.1 a0.2.2.2.2.2 a0.1 a0.2.1 a0.2.2.1 (0 : Int) a0.2.2.2.2.1 ([] : List UInt8) with
  | some r7 => (some r7.1)
  | none => none))
  | none => none)
  else
  (bif (eqi a0.1 (3 : Int)) then
  (bif (!(eqs a0.2.2.2.2.2 ([] : List UInt8))) then
  (let x8 := (decide ((List.length a0.2.2.2.2.2 : Int) ≤ (50 : Int)))
  bif x8 then
  (match strings_ContainsFunc__entry_Valid_c2 N a0.2.2.2.2.2 with
  | some r9 => (match entry_Valid_p0 N (!r9) a0.1 a0.2.1 a0.2.2.1 a0.2.2.2.1 a0.2.2.2.2.1 a0.2.2.2.2.2 a0.1 (0 : Int) (0 : Int) (0 : Int) a0.2.2.2.2.1 a0.2.2.2.2.2 with
  | some r10 => (some r10.1)
  | none => none)
  | none => none)
  else
  (match entry_Valid_p0 N false a0.1 a0.2.1 a0.2.2.1 a0.2.2.2.1 a0.2.2.2.2.1 a0.2.2.2.2.2 a0.1 (0 : Int) (0 : Int) (0 : Int) a0.2.2.2.2.1 a0.2.2.2.2.2 with
  | some r11 => (some r11.1)
  | none => none))
  else
  (match entry_Valid_p0 N false a0.1 a0.2.1 a0.2.2.1 a0.2.2.2.1 a0.2.2.2.2.1 a0.2.2.2.2.2 a0.1 (0 : Int) (0 : Int) (0 : Int) a0.2.2.2.2.1 a0.2.2.2.2.2 with
  | some r12 => (some r12.1)
  | none => none))
  else
  (bif (eqi a0.1 (4 : Int)) then
  (match entry_Valid_c1 N a0.2.2.2.1 (2147483647 : Int) with
  | some r13 => (match entry_Valid_p0 N r13 a0.1 a0.2.1 a0.2.2.1 a0.2.2.2.1 a0.2.2.2.2.1 a0.2.2.2.2.2 a0.1 (0 : Int) (0 : Int) a0.2.2.2.1 a0.2.2.2.2.1 ([] : List UInt8) with
  | some r14 => (some r14.1)
  | none => none)
  | none => none)
  else
  (match entry_Valid_p0 N false a0.1 a0.2.1 a0.2.2.1 a0.2.2.2.1 a0.2.2.2.2.1 a0.2.2.2.2.2 a0.1 (0 : Int) (0 : Int) (0 : Int) a0.2.2.2.2.1 ([] : List UInt8) with
  | some r15 => (some r15.1)
  | none => none))))

/-- downspout/entry.kinds -/
def entry_kinds (N : Nat) : Option ((Unit × ((Unit × Unit) × ((Unit × Unit) × ((Unit × Unit) × (Unit × Unit)))))) :=
  some ((), (((), ()), (((), ()), (((), ()), ((), ())))))

/-- downspout/entry.number -/
def entry_number_l0_step (N : Nat) (rec : Int → Int → Int → Int → (List Int) → Option ((Unit × ((List Int) × Unit)))) (b0 : Int) (b1 : Int) (b2 : Int) (b3 : Int) (b4 : (List Int)) : Option ((Unit × ((List Int) × Unit))) :=
  bif (decide (b3 < b2)) then
  (let x2 := (IntKind.wrap .i64 ((IntKind.wrap .i64 (b1 - (1 : Int))) - b3))
  gd (decide (0 ≤ (IntKind.wrap .i64 ((8 : Int) * b3))))
  (let x3 := (Int.fdiv b0 (2 ^ min (Int.toNat (IntKind.wrap .i64 ((8 : Int) * b3))) (IntKind.bits .i64)))
  gd (inB x2 (List.length b4))
  (rec b0 b1 b2 (IntKind.wrap .i64 (b3 + (1 : Int))) (setL b4 x2 (IntKind.wrap .u8 (x3))))))
  else
  (some ((), (b4, ())))
def entry_number_l0 (N n : Nat) (b0 : Int) (b1 : Int) (b2 : Int) (b3 : Int) (b4 : (List Int)) : Option ((Unit × ((List Int) × Unit))) :=
  iter (fun (rec : ((Int × (Int × (Unit × (Int × Int)))) × ((List Int) × Unit)) → Option ((Unit × ((List Int) × Unit)))) v => entry_number_l0_step N (fun b0 b1 b2 b3 b4 => rec ((b0, (b1, ((), (b2, b3)))), (b4, ()))) v.1.1 v.1.2.1 v.1.2.2.2.1 v.1.2.2.2.2 v.2.1) n ((b0, (b1, ((), (b2, b3)))), (b4, ()))
theorem entry_number_l0_succ (N n : Nat) (b0 : Int) (b1 : Int) (b2 : Int) (b3 : Int) (b4 : (List Int)) : entry_number_l0 N (n + 1) b0 b1 b2 b3 b4 = entry_number_l0_step N (fun b0  b1  b2  b3  b4  => entry_number_l0 N n b0 b1 b2 b3 b4) b0 b1 b2 b3 b4 := rfl
def entry_number (N : Nat) (a0 : Int) (a1 : Int) : Option ((List UInt8)) :=
  gd ((decide (0 ≤ a1) && decide (a1 ≤ a1)) && (decide (a1 < maxB) && decide (a1 * 1 < maxB)))
  (let x1 := (List.length (List.replicate (Int.toNat a1) (0 : Int)) : Int)
  match entry_number_l0 N N a0 a1 x1 (0 : Int) (List.replicate (Int.toNat a1) (0 : Int)) with
  | some r4 => (some (bytesU r4.2.1))
  | none => none)

/-- downspout/entry.kinds$7 -/
def entry_kinds_c7 (N : Nat) (a0 : V_api_Entry) : Option ((List UInt8)) :=
  match entry_number N a0.2.2.2.1 (4 : Int) with
  | some r1 => (some r1)
  | none => none

/-- downspout/entry.kinds$5 -/
def entry_kinds_c5 (N : Nat) (a0 : V_api_Entry) : Option ((List UInt8)) :=
  some a0.2.2.2.2.2

/-- downspout/entry.kinds$3 -/
def entry_kinds_c3 (N : Nat) (a0 : V_api_Entry) : Option ((List UInt8)) :=
  match entry_number N a0.2.1 (2 : Int) with
  | some r1 => (match entry_number N a0.2.2.1 (2 : Int) with
  | some r2 => (gd (decide (List.length r1 + List.length r2 < maxS))
  (let x3 := (@HAppend.hAppend (List UInt8) (List UInt8) (List UInt8) _ r1 r2)
  some x3))
  | none => none)
  | none => none

/-- downspout/entry.kinds$1 -/
def entry_kinds_c1 (N : Nat) (a0 : V_api_Entry) : Option ((List UInt8)) :=
  some ([] : List UInt8)

/-- downspout/entry.Encode -/
def entry_Encode (N : Nat) (a0 : V_api_Entry) : Option (((List UInt8) × Int)) :=
  match entry_Valid N a0 with
  | some r1 => (bif (!r1) then
  (some (([] : List UInt8), (30 : Int)))
  else
  (let x2 := ([(IntKind.wrap .u8 (a0.1)), (IntKind.wrap .u8 (a0.2.2.2.2.1))] : List Int)
  match entry_kinds N with
  | some r3 => (bif (eqi a0.1 (4 : Int)) then
  (match entry_kinds_c7 N a0 with
  | some r4 => (gd (decide (List.length (bytesU x2) + List.length r4 < maxS))
  (let x5 := (@HAppend.hAppend (List UInt8) (List UInt8) (List UInt8) _ (bytesU x2) r4)
  some (x5, (0 : Int))))
  | none => none)
  else
  (bif (eqi a0.1 (3 : Int)) then
  (match entry_kinds_c5 N a0 with
  | some r6 => (gd (decide (List.length (bytesU x2) + List.length r6 < maxS))
  (let x7 := (@HAppend.hAppend (List UInt8) (List UInt8) (List UInt8) _ (bytesU x2) r6)
  some (x7, (0 : Int))))
  | none => none)
  else
  (bif (eqi a0.1 (2 : Int)) then
  (match entry_kinds_c3 N a0 with
  | some r8 => (gd (decide (List.length (bytesU x2) + List.length r8 < maxS))
  (let x9 := (@HAppend.hAppend (List UInt8) (List UInt8) (List UInt8) _ (bytesU x2) r8)
  some (x9, (0 : Int))))
  | none => none)
  else
  (bif (eqi a0.1 (1 : Int)) then
  (match entry_kinds_c1 N a0 with
  | some r10 => (gd (decide (List.length (bytesU x2) + List.length r10 < maxS))
  (let x11 := (@HAppend.hAppend (List UInt8) (List UInt8) (List UInt8) _ (bytesU x2) r10)
  some (x11, (0 : Int))))
  | none => none)
  else
  (bif (eqi a0.1 (0 : Int)) then
  (none)
  else
  (none))))))
  | none => none))
  | none => none

/-- downspout/entry.value -/
def entry_value_l0_step (N : Nat) (rec : (List UInt8) → Int → Int → Int → Option ((Int × Unit))) (b0 : (List UInt8)) (b1 : Int) (b2 : Int) (b3 : Int) : Option ((Int × Unit)) :=
  bif (decide (b3 < b2)) then
  (gd (decide (0 ≤ (8 : Int)))
  (let x1 := (IntKind.wrap .i64 (b1 * 2 ^ min (Int.toNat (8 : Int)) (IntKind.bits .i64)))
  gd (inB b3 (List.length b0))
  (let x2 := (IntKind.wrap .i64 (((BitVec.ofInt (IntKind.bits .i64) x1 ||| BitVec.ofInt (IntKind.bits .i64) (IntKind.wrap .i64 ((bt b0 b3)))).toNat : Int)))
  rec b0 x2 b2 (IntKind.wrap .i64 (b3 + (1 : Int))))))
  else
  (some (b1, ()))
def entry_value_l0 (N n : Nat) (b0 : (List UInt8)) (b1 : Int) (b2 : Int) (b3 : Int) : Option ((Int × Unit)) :=
  iter (fun (rec : (((List UInt8) × (Int × (Int × Int))) × Unit) → Option ((Int × Unit))) v => entry_value_l0_step N (fun b0 b1 b2 b3 => rec ((b0, (b1, (b2, b3))), ())) v.1.1 v.1.2.1 v.1.2.2.1 v.1.2.2.2) n ((b0, (b1, (b2, b3))), ())
theorem entry_value_l0_succ (N n : Nat) (b0 : (List UInt8)) (b1 : Int) (b2 : Int) (b3 : Int) : entry_value_l0 N (n + 1) b0 b1 b2 b3 = entry_value_l0_step N (fun b0  b1  b2  b3  => entry_value_l0 N n b0 b1 b2 b3) b0 b1 b2 b3 := rfl
def entry_value (N : Nat) (a0 : (List UInt8)) : Option (Int) :=
  match entry_value_l0 N N a0 (0 : Int) (List.length a0 : Int) (0 : Int) with
  | some r3 => (some r3.1)
  | none => none

/-- downspout/entry.kinds$8 -/
def entry_kinds_c8_m (N : Nat) (a0 : (List UInt8)) (a1 : Int) (a2 : Int) (a3 : Int) (a4 : Int) (a5 : Int) (a6 : (List UInt8)) : Option ((Bool × ((Int × (Int × (Int × (Int × (Int × (List UInt8)))))) × Unit))) :=
  bif (!(eqi (List.length a0 : Int) (4 : Int))) then
  (some (false, ((a1, (a2, (a3, (a4, (a5, a6))))), ())))
  else
  (match entry_value N a0 with
  | some r1 => (some (true, ((a1, (a2, (a3, (r1, (a5, a6))))), ())))
  | none => none)

/-- downspout/entry.kinds$6 -/
def entry_kinds_c6_m (N : Nat) (a0 : (List UInt8)) (a1 : Int) (a2 : Int) (a3 : Int) (a4 : Int) (a5 : Int) (a6 : (List UInt8)) : Option ((Bool × ((Int × (Int × (Int × (Int × (Int × (List UInt8)))))) × Unit))) :=
  some (true, ((a1, (a2, (a3, (a4, (a5, a0))))), ()))

/-- downspout/entry.kinds$4 -/
def entry_kinds_c4_m (N : Nat) (a0 : (List UInt8)) (a1 : Int) (a2 : Int) (a3 : Int) (a4 : Int) (a5 : Int) (a6 : (List UInt8)) : Option ((Bool × ((Int × (Int × (Int × (Int × (Int × (List UInt8)))))) × Unit))) :=
  bif (!(eqi (List.length a0 : Int) (4 : Int))) then
  (some (false, ((a1, (a2, (a3, (a4, (a5, a6))))), ())))
  else
  (gd (decide (0 ≤ (0 : Int)) && (decide ((0 : Int) ≤ (2 : Int)) && decide ((2 : Int) ≤ (List.length a0 : Int))))
  (match entry_value N (cut2 a0 (0 : Int) (2 : Int)) with
  | some r1 => (gd (decide (0 ≤ (2 : Int)) && (decide ((2 : Int) ≤ (List.length a0 : Int)) && decide ((List.length a0 : Int) ≤ (List.length a0 : Int))))
  (match entry_value N (cut2 a0 (2 : Int) (List.length a0 : Int)) with
  | some r2 => (some (true, ((a1, (r1, (r2, (a4, (a5, a6))))), ())))
  | none => none))
  | none => none))

/-- downspout/entry.kinds$2 -/
def entry_kinds_c2_m (N : Nat) (a0 : (List UInt8)) (a1 : Int) (a2 : Int) (a3 : Int) (a4 : Int) (a5 : Int) (a6 : (List UInt8)) : Option ((Bool × ((Int × (Int × (Int × (Int × (Int × (List UInt8)))))) × Unit))) :=
  some ((eqs a0 ([] : List UInt8)), ((a1, (a2, (a3, (a4, (a5, a6))))), ()))

/-- downspout/entry.Decode -/
def entry_Decode_p0 (N : Nat) (b0 : Bool) (b1 : Int) (b2 : Int) (b3 : Int) (b4 : Int) (b5 : Int) (b6 : (List UInt8)) (b7 : Int) (b8 : Int) (b9 : Int) (b10 : Int) (b11 : Int) (b12 : (List UInt8)) : Option (((Unit × Int) × ((Int × (Int × (Int × (Int × (Int × (List UInt8)))))) × Unit)) ⊕ ((Unit × Unit) × ((Int × (Int × (Int × (Int × (Int × (List UInt8)))))) × ((Int × (Int × (Int × (Int × (Int × (List UInt8)))))) × Unit)))) :=
  bif b0 then
  (some (.inl (((), (30 : Int)), (((0 : Int), ((0 : Int), ((0 : Int), ((0 : Int), ((0 : Int), ([] : List UInt8)))))), ()))))
  else
  (some (.inr (((), ()), ((b1, (b2, (b3, (b4, (b5, b6))))), ((b7, (b8, (b9, (b10, (b11, b12))))), ())))))
def entry_Decode (N : Nat) (a0 : (List UInt8)) : Option ((V_api_Entry × Int)) :=
  let x1 := (decide ((List.length a0 : Int) < (2 : Int)))
  bif x1 then
  (some (((0 : Int), ((0 : Int), ((0 : Int), ((0 : Int), ((0 : Int), ([] : List UInt8)))))), (30 : Int)))
  else
  (gd (inB (0 : Int) (List.length a0))
  (gd (inB (1 : Int) (List.length a0))
  (let x2 := (decide ((IntKind.wrap .i64 ((bt a0 (0 : Int)))) < (1 : Int)))
  bif x2 then
  (match entry_Decode_p0 N true (0 : Int) (0 : Int) (0 : Int) (0 : Int) (0 : Int) ([] : List UInt8) (IntKind.wrap .i64 ((bt a0 (0 : Int)))) (0 : Int) (0 : Int) (0 : Int) (IntKind.wrap .i64 ((bt a0 (1 : Int)))) ([] : List UInt8) with
  | some r3 => (match r3 with
  | .inl r4 => (some (r4.2.1, r4.1.2))
  | .inr r5 => (some (r5.2.2.1, (0 : Int))))
  | none => none)
  else
  (let x6 := (decide ((4 : Int) < (IntKind.wrap .i64 ((bt a0 (0 : Int))))))
  bif x6 then
  (match entry_Decode_p0 N true (0 : Int) (0 : Int) (0 : Int) (0 : Int) (0 : Int) ([] : List UInt8) (IntKind.wrap .i64 ((bt a0 (0 : Int)))) (0 : Int) (0 : Int) (0 : Int) (IntKind.wrap .i64 ((bt a0 (1 : Int)))) ([] : List UInt8) with
  | some r7 => (match r7 with
  | .inl r8 => (some (r8.2.1, r8.1.2))
  | .inr r9 => (some (r9.2.2.1, (0 : Int))))
  | none => none)
  else
  (match entry_kinds N with
  | some r10 => (bif (eqi (IntKind.wrap .i64 ((bt a0 (0 : Int)))) (4 : Int)) then
  (gd (decide (0 ≤ (2 : Int)) && (decide ((2 : Int) ≤ (List.length a0 : Int)) && decide ((List.length a0 : Int) ≤ (List.length a0 : Int))))
  (match entry_kinds_c8_m N (cut2 a0 (2 : Int) (List.length a0 : Int)) (IntKind.wrap .i64 ((bt a0 (0 : Int)))) (0 : Int) (0 : Int) (0 : Int) (IntKind.wrap .i64 ((bt a0 (1 : Int)))) ([] : List UInt8) with
  | some r11 => (bif (!r11.1) then
  (match entry_Decode_p0 N true (0 : Int) (0 : Int) (0 : Int) (0 : Int) (0 : Int) ([] : List UInt8) r11.2.1.1 r11.2.1.2.1 r11.2.1.2.2.1 r11.2.1.2.2.2.1 r11.2.1.2.2.2.2.1 r11.2.1.2.2.2.2.2 with
  | some r12 => (match r12 with
  | .inl r13 => (some (r13.2.1, r13.1.2))
  | .inr r14 => (some (r14.2.2.1, (0 : Int))))
  | none => none)
  else
  (match entry_Valid N r11.2.1 with
  | some r15 => (match entry_Decode_p0 N (!r15) (0 : Int) (0 : Int) (0 : Int) (0 : Int) (0 : Int) ([] : List UInt8) r11.2.1.1 r11.2.1.2.1 r11.2.1.2.2.1 r11.2.1.2.2.2.1 r11.2.1.2.2.2.2.1 r11.2.1.2.2.2.2.2 with
  | some r16 => (match r16 with
  | .inl r17 => (some (r17.2.1, r17.1.2))
  | .inr r18 => (some (r18.2.2.1, (0 : Int))))
  | none => none)
  | none => none))
  | none => none))
  else
  (bif (eqi (IntKind.wrap .i64 ((bt a0 (0 : Int)))) (3 : Int)) then
  (gd (decide (0 ≤ (2 : Int)) && (decide ((2 : Int) ≤ (List.length a0 : Int)) && decide ((List.length a0 : Int) ≤ (List.length a0 : Int))))
  (match entry_kinds_c6_m N (cut2 a0 (2 : Int) (List.length a0 : Int)) (IntKind.wrap .i64 ((bt a0 (0 : Int)))) (0 : Int) (0 : Int) (0 : Int) (IntKind.wrap .i64 ((bt a0 (1 : Int)))) ([] : List UInt8) with
  | some r19 => (bif (!r19.1) then
  (match entry_Decode_p0 N true (0 : Int) (0 : Int) (0 : Int) (0 : Int) (0 : Int) ([] : List UInt8) r19.2.1.1 r19.2.1.2.1 r19.2.1.2.2.1 r19.2.1.2.2.2.1 r19.2.1.2.2.2.2.1 r19.2.1.2.2.2.2.2 with
  | some r20 => (match r20 with
  | .inl r21 => (some (r21.2.1, r21.1.2))
  | .inr r22 => (some (r22.2.2.1, (0 : Int))))
  | none => none)
  else
  (match entry_Valid N r19.2.1 with
  | some r23 => (match entry_Decode_p0 N (!r23) (0 : Int) (0 : Int) (0 : Int) (0 : Int) (0 : Int) ([] : List UInt8) r19.2.1.1 r19.2.1.2.1 r19.2.1.2.2.1 r19.2.1.2.2.2.1 r19.2.1.2.2.2.2.1 r19.2.1.2.2.2.2.2 with
  | some r24 => (match r24 with
  | .inl r25 => (some (r25.2.1, r25.1.2))
  | .inr r26 => (some (r26.2.2.1, (0 : Int))))
  | none => none)
  | none => none))
  | none => none))
  else
  (bif (eqi (IntKind.wrap .i64 ((bt a0 (0 : Int)))) (2 : Int)) then
  (gd (decide (0 ≤ (2 : Int)) && (decide ((2 : Int) ≤ (List.length a0 : Int)) && decide ((List.length a0 : Int) ≤ (List.length a0 : Int))))
  (match entry_kinds_c4_m N (cut2 a0 (2 : Int) (List.length a0 : Int)) (IntKind.wrap .i64 ((bt a0 (0 : Int)))) (0 : Int) (0 : Int) (0 : Int) (IntKind.wrap .i64 ((bt a0 (1 : Int)))) ([] : List UInt8) with
  | some r27 => (bif (!r27.1) then
  (match entry_Decode_p0 N true (0 : Int) (0 : Int) (0 : Int) (0 : Int) (0 : Int) ([] : List UInt8) r27.2.1.1 r27.2.1.2.1 r27.2.1.2.2.1 r27.2.1.2.2.2.1 r27.2.1.2.2.2.2.1 r27.2.1.2.2.2.2.2 with
  | some r28 => (match r28 with
  | .inl r29 => (some (r29.2.1, r29.1.2))
  | .inr r30 => (some (r30.2.2.1, (0 : Int))))
  | none => none)
  else
  (match entry_Valid N r27.2.1 with
  | some r31 => (match entry_Decode_p0 N (!r31) (0 : Int) (0 : Int) (0 : Int) (0 : Int) (0 : Int) ([] : List UInt8) r27.2.1.1 r27.2.1.2.1 r27.2.1.2.2.1 r27.2.1.2.2.2.1 r27.2.1.2.2.2.2.1 r27.2.1.2.2.2.2.2 with
  | some r32 => (match r32 with
  | .inl r33 => (some (r33.2.1, r33.1.2))
  | .inr r34 => (some (r34.2.2.1, (0 : Int))))
  | none => none)
  | none => none))
  | none => none))
  else
  (bif (eqi (IntKind.wrap .i64 ((bt a0 (0 : Int)))) (1 : Int)) then
  (gd (decide (0 ≤ (2 : Int)) && (decide ((2 : Int) ≤ (List.length a0 : Int)) && decide ((List.length a0 : Int) ≤ (List.length a0 : Int))))
  (match entry_kinds_c2_m N (cut2 a0 (2 : Int) (List.length a0 : Int)) (IntKind.wrap .i64 ((bt a0 (0 : Int)))) (0 : Int) (0 : Int) (0 : Int) (IntKind.wrap .i64 ((bt a0 (1 : Int)))) ([] : List UInt8) with
  | some r35 => (bif (!r35.1) then
  (match entry_Decode_p0 N true (0 : Int) (0 : Int) (0 : Int) (0 : Int) (0 : Int) ([] : List UInt8) r35.2.1.1 r35.2.1.2.1 r35.2.1.2.2.1 r35.2.1.2.2.2.1 r35.2.1.2.2.2.2.1 r35.2.1.2.2.2.2.2 with
  | some r36 => (match r36 with
  | .inl r37 => (some (r37.2.1, r37.1.2))
  | .inr r38 => (some (r38.2.2.1, (0 : Int))))
  | none => none)
  else
  (match entry_Valid N r35.2.1 with
  | some r39 => (match entry_Decode_p0 N (!r39) (0 : Int) (0 : Int) (0 : Int) (0 : Int) (0 : Int) ([] : List UInt8) r35.2.1.1 r35.2.1.2.1 r35.2.1.2.2.1 r35.2.1.2.2.2.1 r35.2.1.2.2.2.2.1 r35.2.1.2.2.2.2.2 with
  | some r40 => (match r40 with
  | .inl r41 => (some (r41.2.1, r41.1.2))
  | .inr r42 => (some (r42.2.2.1, (0 : Int))))
  | none => none)
  | none => none))
  | none => none))
  else
  (bif (eqi (IntKind.wrap .i64 ((bt a0 (0 : Int)))) (0 : Int)) then
  (none)
  else
  (none))))))
  | none => none)))))

/-- internal/stringslite.HasPrefix -/
def stringslite_HasPrefix (N : Nat) (a0 : (List UInt8)) (a1 : (List UInt8)) : Option (Bool) :=
  let x1 := (decide ((List.length a1 : Int) ≤ (List.length a0 : Int)))
  bif x1 then
  (gd (decide (0 ≤ (0 : Int)) && (decide ((0 : Int) ≤ (List.length a1 : Int)) && decide ((List.length a1 : Int) ≤ (List.length a0 : Int))))
  (let x2 := (eqs (cut2 a0 (0 : Int) (List.length a1 : Int)) a1)
  some x2))
  else
  (some false)

/-- internal/stringslite.CutPrefix -/
def stringslite_CutPrefix (N : Nat) (a0 : (List UInt8)) (a1 : (List UInt8)) : Option (((List UInt8) × Bool)) :=
  match stringslite_HasPrefix N a0 a1 with
  | some r1 => (bif (!r1) then
  (some (a0, false))
  else
  (gd (decide (0 ≤ (List.length a1 : Int)) && (decide ((List.length a1 : Int) ≤ (List.length a0 : Int)) && decide ((List.length a0 : Int) ≤ (List.length a0 : Int))))
  (let x2 := (cut2 a0 (List.length a1 : Int) (List.length a0 : Int))
  some (x2, true))))
  | none => none

/-- strings.CutPrefix -/
def strings_CutPrefix (N : Nat) (a0 : (List UInt8)) (a1 : (List UInt8)) : Option (((List UInt8) × Bool)) :=
  match stringslite_CutPrefix N a0 a1 with
  | some r1 => (some (r1.1, r1.2))
  | none => none

/-- strings.IndexAny -/
def strings_IndexAny (N : Nat) (a0 : List UInt8) (a1 : List UInt8) : Option (Int) :=
  anyF a0 a1

/-- (*downspout/path.rest).upTo -/
def path_rest_upTo_m (N : Nat) (a0 : (List UInt8)) (a1 : (List UInt8)) (a2 : Int) (a3 : Int) (a4 : (List UInt8)) : Option ((((List UInt8) × Int) × (((List UInt8) × ((List UInt8) × (Int × (Int × (List UInt8))))) × Unit))) :=
  match strings_IndexAny N a0 ([1, 2, 3] : List UInt8) with
  | some r1 => (bif (decide (r1 < (0 : Int))) then
  (some ((([] : List UInt8), (0 : Int)), ((a0, (a1, (a2, (a3, a4)))), ())))
  else
  (gd (decide (0 ≤ (0 : Int)) && (decide ((0 : Int) ≤ r1) && decide (r1 ≤ (List.length a0 : Int))))
  (gd (inB r1 (List.length a0))
  (gd (decide (0 ≤ (IntKind.wrap .i64 (r1 + (1 : Int)))) && (decide ((IntKind.wrap .i64 (r1 + (1 : Int))) ≤ (List.length a0 : Int)) && decide ((List.length a0 : Int) ≤ (List.length a0 : Int))))
  (let x2 := (cut2 a0 (IntKind.wrap .i64 (r1 + (1 : Int))) (List.length a0 : Int))
  some (((cut2 a0 (0 : Int) r1), (bt a0 r1)), ((x2, (a1, (a2, (a3, a4)))), ())))))))
  | none => none

/-- (*downspout/path.place).read -/
def path_place_read_m_p0 (N : Nat) (b0 : Int) (b1 : Bool) (b2 : (List UInt8)) (b3 : (List UInt8)) (b4 : Int) (b5 : Int) (b6 : (List UInt8)) : Option ((Unit × (((List UInt8) × ((List UInt8) × (Int × (Int × (List UInt8))))) × Unit))) :=
  bif b1 then
  (some ((), ((b2, (b3, ((4 : Int), (b5, b6)))), ())))
  else
  (bif (eqi b0 (2 : Int)) then
  (bif (eqi (List.length b2 : Int) (2 : Int)) then
  (gd (inB (0 : Int) (List.length b2))
  (gd (decide (0 ≤ (8 : Int)))
  (let x3 := (IntKind.wrap .i64 ((IntKind.wrap .i64 ((bt b2 (0 : Int)))) * 2 ^ min (Int.toNat (8 : Int)) (IntKind.bits .i64)))
  gd (inB (1 : Int) (List.length b2))
  (let x4 := (IntKind.wrap .i64 (((BitVec.ofInt (IntKind.bits .i64) x3 ||| BitVec.ofInt (IntKind.bits .i64) (IntKind.wrap .i64 ((bt b2 (1 : Int))))).toNat : Int)))
  some ((), ((b2, (b3, (b4, (x4, b6)))), ()))))))
  else
  (bif (eqi b0 (3 : Int)) then
  (some ((), ((b2, (b3, (b4, (b5, b2)))), ())))
  else
  (some ((), ((b2, (b3, (b4, (b5, b6)))), ())))))
  else
  (bif (eqi b0 (3 : Int)) then
  (some ((), ((b2, (b3, (b4, (b5, b2)))), ())))
  else
  (some ((), ((b2, (b3, (b4, (b5, b6)))), ())))))
def path_place_read_m (N : Nat) (a0 : (List UInt8)) (a1 : (List UInt8)) (a2 : Int) (a3 : Int) (a4 : (List UInt8)) : Option ((Unit × (((List UInt8) × ((List UInt8) × (Int × (Int × (List UInt8))))) × Unit))) :=
  match strings_CutPrefix N a0 ([6] : List UInt8) with
  | some r1 => (match path_rest_upTo_m N r1.1 a1 a2 a3 a4 with
  | some r2 => (bif r1.2 then
  (match path_place_read_m_p0 N r2.1.2 (eqi r2.1.2 (1 : Int)) r2.2.1.1 r2.1.1 (IntKind.wrap .i64 (r2.1.2)) r2.2.1.2.2.2.1 r2.2.1.2.2.2.2 with
  | some r5 => (some ((), ((r5.2.1.1, (r5.2.1.2.1, (r5.2.1.2.2.1, (r5.2.1.2.2.2.1, r5.2.1.2.2.2.2)))), ())))
  | none => none)
  else
  (match path_place_read_m_p0 N r2.1.2 false r2.2.1.1 r2.1.1 (IntKind.wrap .i64 (r2.1.2)) r2.2.1.2.2.2.1 r2.2.1.2.2.2.2 with
  | some r6 => (some ((), ((r6.2.1.1, (r6.2.1.2.1, (r6.2.1.2.2.1, (r6.2.1.2.2.2.1, r6.2.1.2.2.2.2)))), ())))
  | none => none))
  | none => none)
  | none => none

/-- internal/stringslite.IndexByte -/
def stringslite_IndexByte (N : Nat) (a0 : List UInt8) (a1 : Int) : Option (Int) :=
  some (idxB a0 a1)

/-- internal/stringslite.Index -/
def stringslite_Index (N : Nat) (a0 : (List UInt8)) (a1 : (List UInt8)) : Option (Int) :=
  bif (eqi (List.length a1 : Int) (0 : Int)) then
  (some (0 : Int))
  else
  (bif (eqs a1 a0) then
  (some (0 : Int))
  else
  (bif (eqi (List.length a1 : Int) (1 : Int)) then
  (gd (inB (0 : Int) (List.length a1))
  (match stringslite_IndexByte N a0 (bt a1 (0 : Int)) with
  | some r1 => (some r1)
  | none => none))
  else
  (let x2 := (decide ((List.length a0 : Int) ≤ (List.length a1 : Int)))
  bif x2 then
  (some (-1 : Int))
  else
  (none))))

/-- internal/stringslite.Cut -/
def stringslite_Cut (N : Nat) (a0 : (List UInt8)) (a1 : (List UInt8)) : Option (((List UInt8) × ((List UInt8) × Bool))) :=
  match stringslite_Index N a0 a1 with
  | some r1 => (bif (decide ((0 : Int) ≤ r1)) then
  (gd (decide (0 ≤ (0 : Int)) && (decide ((0 : Int) ≤ r1) && decide (r1 ≤ (List.length a0 : Int))))
  (let x2 := (IntKind.wrap .i64 (r1 + (List.length a1 : Int)))
  gd (decide (0 ≤ x2) && (decide (x2 ≤ (List.length a0 : Int)) && decide ((List.length a0 : Int) ≤ (List.length a0 : Int))))
  (some ((cut2 a0 (0 : Int) r1), ((cut2 a0 x2 (List.length a0 : Int)), true)))))
  else
  (some (a0, (([] : List UInt8), false))))
  | none => none

/-- strings.Cut -/
def strings_Cut (N : Nat) (a0 : (List UInt8)) (a1 : (List UInt8)) : Option (((List UInt8) × ((List UInt8) × Bool))) :=
  match stringslite_Cut N a0 a1 with
  | some r1 => (some (r1.1, (r1.2.1, r1.2.2)))
  | none => none

/-- downspout/path.isName$1 -/
def path_isName_c1 (N : Nat) (a0 : Int) : Option (Bool) :=
  bif (decide (a0 < (33 : Int))) then
  (some true)
  else
  (bif (decide ((126 : Int) < a0)) then
  (some true)
  else
  (some (eqi a0 (47 : Int))))

/-- strings.indexFunc -/
def strings_indexFunc__path_isName_c1 (N : Nat) (a0 : List UInt8) (a1 : Bool) : Option (Int) :=
  some (idxF (path_isName_c1 N) a1 a0)

/-- strings.IndexFunc -/
def strings_IndexFunc__path_isName_c1 (N : Nat) (a0 : (List UInt8)) : Option (Int) :=
  match strings_indexFunc__path_isName_c1 N a0 true with
  | some r1 => (some r1)
  | none => none

/-- downspout/path.isName -/
def path_isName (N : Nat) (a0 : (List UInt8)) : Option (Bool) :=
  bif (eqs a0 ([] : List UInt8)) then
  (some false)
  else
  (let x1 := (decide ((12 : Int) < (List.length a0 : Int)))
  bif x1 then
  (some false)
  else
  (bif (eqs a0 ([46] : List UInt8)) then
  (some false)
  else
  (bif (eqs a0 ([46, 46] : List UInt8)) then
  (some false)
  else
  (match strings_IndexFunc__path_isName_c1 N a0 with
  | some r2 => (some (decide (r2 < (0 : Int))))
  | none => none))))

/-- downspout/path.Valid -/
def path_Valid_l0_step (N : Nat) (rec : (List UInt8) → Option ((Bool × Unit) ⊕ (Unit × Unit))) (b0 : (List UInt8)) : Option ((Bool × Unit) ⊕ (Unit × Unit)) :=
  bif (!(eqs b0 ([] : List UInt8))) then
  (match strings_Cut N b0 ([47] : List UInt8) with
  | some r1 => (bif (!r1.2.2) then
  (some (.inl (false, ())))
  else
  (match path_isName N r1.1 with
  | some r2 => (bif (!r2) then
  (some (.inl (false, ())))
  else
  (rec r1.2.1))
  | none => none))
  | none => none)
  else
  (some (.inr ((), ())))
def path_Valid_l0 (N n : Nat) (b0 : (List UInt8)) : Option ((Bool × Unit) ⊕ (Unit × Unit)) :=
  iter (fun (rec : ((List UInt8) × Unit) → Option ((Bool × Unit) ⊕ (Unit × Unit))) v => path_Valid_l0_step N (fun b0 => rec (b0, ())) v.1) n (b0, ())
theorem path_Valid_l0_succ (N n : Nat) (b0 : (List UInt8)) : path_Valid_l0 N (n + 1) b0 = path_Valid_l0_step N (fun b0  => path_Valid_l0 N n b0) b0 := rfl
def path_Valid (N : Nat) (a0 : (List UInt8)) : Option (Bool) :=
  match path_Valid_l0 N N a0 with
  | some r3 => (match r3 with
  | .inl r4 => (some r4.1)
  | .inr r5 => (some true))
  | none => none

/-- strings.Trim -/
def strings_Trim (N : Nat) (a0 : List UInt8) (a1 : List UInt8) : Option (List UInt8) :=
  trimF a0 a1

/-- downspout/path.isBody -/
def path_isBody_p0 (N : Nat) (b0 : (List UInt8)) : Option ((Bool × Unit)) :=
  gd (decide (0 ≤ (1 : Int)) && (decide ((1 : Int) ≤ (9 : Int)) && decide ((9 : Int) ≤ (List.length b0 : Int))))
  (match strings_Trim N (cut2 b0 (1 : Int) (9 : Int)) ([48, 49, 50, 51, 52, 53, 54, 55, 56, 57, 97, 98, 99, 100, 101, 102] : List UInt8) with
  | some r1 => (some ((eqs r1 ([] : List UInt8)), ()))
  | none => none)
def path_isBody (N : Nat) (a0 : (List UInt8)) : Option (Bool) :=
  bif (!(eqi (List.length a0 : Int) (10 : Int))) then
  (some false)
  else
  (gd (inB (0 : Int) (List.length a0))
  (bif (!(eqi (bt a0 (0 : Int)) (5 : Int))) then
  (some false)
  else
  (gd (inB (1 : Int) (List.length a0))
  (bif (decide ((55 : Int) < (bt a0 (1 : Int)))) then
  (some false)
  else
  (gd (inB (9 : Int) (List.length a0))
  (bif (!(eqi (bt a0 (9 : Int)) (47 : Int))) then
  (some false)
  else
  (match path_isBody_p0 N a0 with
  | some r2 => (some r2.1)
  | none => none)))))))

/-- downspout/path.Key -/
def path_Key_p3 (N : Nat) (b0 : Bool) (b1 : (List UInt8)) (b2 : Int) (b3 : Int) (b4 : (List UInt8)) (b5 : (List UInt8)) (b6 : Int) (b7 : Int) (b8 : (List UInt8)) : Option ((((List UInt8) × Int) × Unit) ⊕ (Unit × Unit)) :=
  bif b0 then
  (gd (decide (List.length b1 + List.length ([3] : List UInt8) < maxS))
  (let x8 := (@HAppend.hAppend (List UInt8) (List UInt8) (List UInt8) _ b1 ([3] : List UInt8))
  gd (decide (List.length x8 + List.length b4 < maxS))
  (let x9 := (@HAppend.hAppend (List UInt8) (List UInt8) (List UInt8) _ x8 b4)
  some (.inl ((x9, (0 : Int)), ())))))
  else
  (bif (eqi b2 (4 : Int)) then
  (let x10 := (eqs b1 b5 && (eqi b2 b6 && (eqi b3 b7 && (eqs b4 b8 && true))))
  bif x10 then
  (gd (decide (List.length ([6] : List UInt8) + List.length b1 < maxS))
  (let x11 := (@HAppend.hAppend (List UInt8) (List UInt8) (List UInt8) _ ([6] : List UInt8) b1)
  gd (decide (List.length x11 + List.length ([1] : List UInt8) < maxS))
  (let x12 := (@HAppend.hAppend (List UInt8) (List UInt8) (List UInt8) _ x11 ([1] : List UInt8))
  some (.inl ((x12, (0 : Int)), ())))))
  else
  (some (.inr ((), ()))))
  else
  (some (.inr ((), ()))))
def path_Key_p2 (N : Nat) (b0 : Bool) (b1 : (List UInt8)) (b2 : Int) (b3 : Int) (b4 : (List UInt8)) (b5 : (List UInt8)) (b6 : Int) (b7 : Int) (b8 : (List UInt8)) : Option ((((List UInt8) × Int) × Unit) ⊕ (Unit × Unit)) :=
  bif b0 then
  (gd (decide (0 ≤ (8 : Int)))
  (let x4 := (Int.fdiv b3 (2 ^ min (Int.toNat (8 : Int)) (IntKind.bits .i64)))
  let x5 := ([(2 : Int), (IntKind.wrap .u8 (x4)), (IntKind.wrap .u8 (b3))] : List Int)
  gd (decide (List.length b1 + List.length (bytesU x5) < maxS))
  (let x6 := (@HAppend.hAppend (List UInt8) (List UInt8) (List UInt8) _ b1 (bytesU x5))
  some (.inl ((x6, (0 : Int)), ())))))
  else
  (bif (eqi b2 (3 : Int)) then
  (bif (eqi b3 (0 : Int)) then
  (match path_isName N b4 with
  | some r7 => (match path_Key_p3 N r7 b1 b2 b3 b4 b5 b6 b7 b8 with
  | some r13 => (match r13 with
  | .inl r14 => (some (.inl ((r14.1.1, r14.1.2), ())))
  | .inr r15 => (some (.inr ((), ()))))
  | none => none)
  | none => none)
  else
  (match path_Key_p3 N false b1 b2 b3 b4 b5 b6 b7 b8 with
  | some r16 => (match r16 with
  | .inl r17 => (some (.inl ((r17.1.1, r17.1.2), ())))
  | .inr r18 => (some (.inr ((), ()))))
  | none => none))
  else
  (match path_Key_p3 N false b1 b2 b3 b4 b5 b6 b7 b8 with
  | some r19 => (match r19 with
  | .inl r20 => (some (.inl ((r20.1.1, r20.1.2), ())))
  | .inr r21 => (some (.inr ((), ()))))
  | none => none))
def path_Key_p1 (N : Nat) (b0 : Bool) (b1 : (List UInt8)) (b2 : Int) (b3 : Int) (b4 : (List UInt8)) (b5 : (List UInt8)) (b6 : Int) (b7 : Int) (b8 : (List UInt8)) : Option ((((List UInt8) × Int) × Unit) ⊕ (Unit × Unit)) :=
  bif b0 then
  (bif (eqi b2 (1 : Int)) then
  (let x2 := (eqs b1 b5 && (eqi b2 b6 && (eqi b3 b7 && (eqs b4 b8 && true))))
  bif x2 then
  (gd (decide (List.length b1 + List.length ([1] : List UInt8) < maxS))
  (let x3 := (@HAppend.hAppend (List UInt8) (List UInt8) (List UInt8) _ b1 ([1] : List UInt8))
  some (.inl ((x3, (0 : Int)), ()))))
  else
  (bif (eqi b2 (2 : Int)) then
  (bif (eqs b4 ([] : List UInt8)) then
  (bif (decide ((0 : Int) ≤ b3)) then
  (match path_Key_p2 N (decide (b3 ≤ (60000 : Int))) b1 b2 b3 b4 b5 b6 b7 b8 with
  | some r22 => (match r22 with
  | .inl r23 => (some (.inl ((r23.1.1, r23.1.2), ())))
  | .inr r24 => (some (.inr ((), ()))))
  | none => none)
  else
  (match path_Key_p2 N false b1 b2 b3 b4 b5 b6 b7 b8 with
  | some r25 => (match r25 with
  | .inl r26 => (some (.inl ((r26.1.1, r26.1.2), ())))
  | .inr r27 => (some (.inr ((), ()))))
  | none => none))
  else
  (match path_Key_p2 N false b1 b2 b3 b4 b5 b6 b7 b8 with
  | some r28 => (match r28 with
  | .inl r29 => (some (.inl ((r29.1.1, r29.1.2), ())))
  | .inr r30 => (some (.inr ((), ()))))
  | none => none))
  else
  (match path_Key_p2 N false b1 b2 b3 b4 b5 b6 b7 b8 with
  | some r31 => (match r31 with
  | .inl r32 => (some (.inl ((r32.1.1, r32.1.2), ())))
  | .inr r33 => (some (.inr ((), ()))))
  | none => none)))
  else
  (bif (eqi b2 (2 : Int)) then
  (bif (eqs b4 ([] : List UInt8)) then
  (bif (decide ((0 : Int) ≤ b3)) then
  (match path_Key_p2 N (decide (b3 ≤ (60000 : Int))) b1 b2 b3 b4 b5 b6 b7 b8 with
  | some r34 => (match r34 with
  | .inl r35 => (some (.inl ((r35.1.1, r35.1.2), ())))
  | .inr r36 => (some (.inr ((), ()))))
  | none => none)
  else
  (match path_Key_p2 N false b1 b2 b3 b4 b5 b6 b7 b8 with
  | some r37 => (match r37 with
  | .inl r38 => (some (.inl ((r38.1.1, r38.1.2), ())))
  | .inr r39 => (some (.inr ((), ()))))
  | none => none))
  else
  (match path_Key_p2 N false b1 b2 b3 b4 b5 b6 b7 b8 with
  | some r40 => (match r40 with
  | .inl r41 => (some (.inl ((r41.1.1, r41.1.2), ())))
  | .inr r42 => (some (.inr ((), ()))))
  | none => none))
  else
  (match path_Key_p2 N false b1 b2 b3 b4 b5 b6 b7 b8 with
  | some r43 => (match r43 with
  | .inl r44 => (some (.inl ((r44.1.1, r44.1.2), ())))
  | .inr r45 => (some (.inr ((), ()))))
  | none => none)))
  else
  (some (.inr ((), ())))
def path_Key_p0 (N : Nat) : Option ((((List UInt8) × Int) × Unit)) :=
  some ((([] : List UInt8), (12 : Int)), ())
def path_Key (N : Nat) (a0 : V_api_Place) : Option (((List UInt8) × Int)) :=
  match path_Valid N a0.1 with
  | some r1 => (bif r1 then
  (match path_Key_p1 N true a0.1 a0.2.1 a0.2.2.1 a0.2.2.2 a0.1 a0.2.1 (0 : Int) ([] : List UInt8) with
  | some r46 => (match r46 with
  | .inl r47 => (some (r47.1.1, r47.1.2))
  | .inr r48 => (match path_Key_p0 N with
  | some r49 => (some (r49.1.1, r49.1.2))
  | none => none))
  | none => none)
  else
  (match path_isBody N a0.1 with
  | some r50 => (bif r50 then
  (match path_Key_p1 N (!(eqi a0.2.1 (4 : Int))) a0.1 a0.2.1 a0.2.2.1 a0.2.2.2 a0.1 a0.2.1 (0 : Int) ([] : List UInt8) with
  | some r51 => (match r51 with
  | .inl r52 => (some (r52.1.1, r52.1.2))
  | .inr r53 => (match path_Key_p0 N with
  | some r54 => (some (r54.1.1, r54.1.2))
  | none => none))
  | none => none)
  else
  (match path_Key_p1 N false a0.1 a0.2.1 a0.2.2.1 a0.2.2.2 a0.1 a0.2.1 (0 : Int) ([] : List UInt8) with
  | some r55 => (match r55 with
  | .inl r56 => (some (r56.1.1, r56.1.2))
  | .inr r57 => (match path_Key_p0 N with
  | some r58 => (some (r58.1.1, r58.1.2))
  | none => none))
  | none => none))
  | none => none))
  | none => none

/-- downspout/path.Place -/
def path_Place (N : Nat) (a0 : (List UInt8)) : Option ((V_api_Place × Int)) :=
  match path_place_read_m N a0 ([] : List UInt8) (0 : Int) (0 : Int) ([] : List UInt8) with
  | some r1 => (match path_Key N r1.2.1.2 with
  | some r2 => (bif (!(eqi r2.2 (0 : Int))) then
  (some ((([] : List UInt8), ((0 : Int), ((0 : Int), ([] : List UInt8)))), (12 : Int)))
  else
  (bif (!(eqs r2.1 a0)) then
  (some ((([] : List UInt8), ((0 : Int), ((0 : Int), ([] : List UInt8)))), (12 : Int)))
  else
  (some (r1.2.1.2, (0 : Int)))))
  | none => none)
  | none => none

/-- downspout/entry.Charge -/
def entry_Charge (N : Nat) (a0 : V_api_Pair) : Option (V_api_Use) :=
  match path_Place N a0.1 with
  | some r1 => (bif (!(eqi r1.2 (0 : Int))) then
  (some ((0 : Int), (0 : Int)))
  else
  (bif (eqi r1.1.2.1 (1 : Int)) then
  (some ((1 : Int), (0 : Int)))
  else
  (bif (eqi r1.1.2.1 (4 : Int)) then
  (some ((0 : Int), (0 : Int)))
  else
  (some ((0 : Int), (List.length a0.2.1 : Int))))))
  | none => none

/-- downspout/entry.Total -/
def entry_Total_l0_step (N : Nat) (rec : (List V_api_Pair) → Int → Int → Int → Int → Int → Int → Option (((Unit × Unit) × ((Int × Int) × ((Int × Int) × Unit))))) (b0 : (List V_api_Pair)) (b1 : Int) (b2 : Int) (b3 : Int) (b4 : Int) (b5 : Int) (b6 : Int) : Option (((Unit × Unit) × ((Int × Int) × ((Int × Int) × Unit)))) :=
  bif (decide (b2 < b1)) then
  (gd (inB b2 (List.length b0))
  (match entry_Charge N (rdL b0 b2 D_api_Pair) with
  | some r1 => (rec b0 b1 (IntKind.wrap .i64 (b2 + (1 : Int))) b3 b4 (IntKind.wrap .i64 (b5 + r1.1)) (IntKind.wrap .i64 (b6 + r1.2)))
  | none => none))
  else
  (some (((), ()), ((b3, b4), ((b5, b6), ()))))
def entry_Total_l0 (N n : Nat) (b0 : (List V_api_Pair)) (b1 : Int) (b2 : Int) (b3 : Int) (b4 : Int) (b5 : Int) (b6 : Int) : Option (((Unit × Unit) × ((Int × Int) × ((Int × Int) × Unit)))) :=
  iter (fun (rec : ((Unit × (Unit × ((List V_api_Pair) × (Int × Int)))) × ((Int × Int) × ((Int × Int) × Unit))) → Option (((Unit × Unit) × ((Int × Int) × ((Int × Int) × Unit))))) v => entry_Total_l0_step N (fun b0 b1 b2 b3 b4 b5 b6 => rec (((), ((), (b0, (b1, b2)))), ((b3, b4), ((b5, b6), ())))) v.1.2.2.1 v.1.2.2.2.1 v.1.2.2.2.2 v.2.1.1 v.2.1.2 v.2.2.1.1 v.2.2.1.2) n (((), ((), (b0, (b1, b2)))), ((b3, b4), ((b5, b6), ())))
theorem entry_Total_l0_succ (N n : Nat) (b0 : (List V_api_Pair)) (b1 : Int) (b2 : Int) (b3 : Int) (b4 : Int) (b5 : Int) (b6 : Int) : entry_Total_l0 N (n + 1) b0 b1 b2 b3 b4 b5 b6 = entry_Total_l0_step N (fun b0  b1  b2  b3  b4  b5  b6  => entry_Total_l0 N n b0 b1 b2 b3 b4 b5 b6) b0 b1 b2 b3 b4 b5 b6 := rfl
def entry_Total (N : Nat) (a0 : (List V_api_Pair)) : Option (V_api_Use) :=
  match entry_Total_l0 N N a0 (List.length a0 : Int) (0 : Int) (0 : Int) (0 : Int) (0 : Int) (0 : Int) with
  | some r2 => (some r2.2.2.1)
  | none => none

/-- downspout/downspoutlaw03.sanity -/
def law03_sanity_p1 (N : Nat) (b0 : Bool) (b1 : Bool) (b2 : Int) (b3 : Int) (b4 : Int) (b5 : Int) (b6 : Int) (b7 : (List UInt8)) : Option ((Bool × Unit)) :=
  bif b0 then
  (bif b1 then
  (match entry_Total N ([] : List V_api_Pair) with
  | some r13 => (let x14 := (eqi r13.1 (0 : Int) && (eqi r13.2 (0 : Int) && true))
  bif x14 then
  (match entry_Valid N (b2, (b3, (b4, (b5, (b6, b7))))) with
  | some r15 => (bif r15 then
  (match entry_Valid N ((0 : Int), ((0 : Int), ((0 : Int), ((0 : Int), ((0 : Int), ([] : List UInt8)))))) with
  | some r16 => (some ((!r16), ()))
  | none => none)
  else
  (some (false, ())))
  | none => none)
  else
  (some (false, ())))
  | none => none)
  else
  (some (false, ())))
  else
  (some (false, ()))
def law03_sanity_p0 (N : Nat) (b0 : Bool) (b1 : Int) (b2 : Int) (b3 : Int) (b4 : Int) (b5 : Int) (b6 : (List UInt8)) : Option ((Bool × Unit)) :=
  match entry_Charge N (([97, 47, 1] : List UInt8), (([] : List UInt8), (0 : Int))) with
  | some r7 => (let x8 := (eqi r7.1 (1 : Int) && (eqi r7.2 (0 : Int) && true))
  bif x8 then
  (match entry_Charge N (([97, 47, 2, 0, 0] : List UInt8), (([49, 50, 51, 52, 53] : List UInt8), (0 : Int))) with
  | some r9 => (let x10 := (eqi r9.1 (0 : Int) && (eqi r9.2 (5 : Int) && true))
  bif x10 then
  (match entry_Charge N (([6, 97, 47, 1] : List UInt8), (([49, 50, 51, 52, 53] : List UInt8), (0 : Int))) with
  | some r11 => (let x12 := (eqi r11.1 (0 : Int) && (eqi r11.2 (0 : Int) && true))
  match law03_sanity_p1 N b0 x12 b1 b2 b3 b4 b5 b6 with
  | some r17 => (some (r17.1, ()))
  | none => none)
  | none => none)
  else
  (match law03_sanity_p1 N b0 false b1 b2 b3 b4 b5 b6 with
  | some r18 => (some (r18.1, ()))
  | none => none))
  | none => none)
  else
  (match law03_sanity_p1 N b0 false b1 b2 b3 b4 b5 b6 with
  | some r19 => (some (r19.1, ()))
  | none => none))
  | none => none
def law03_sanity (N : Nat) : Option (Bool) :=
  match entry_Encode N ((2 : Int), ((258 : Int), ((1 : Int), ((0 : Int), ((7 : Int), ([] : List UInt8)))))) with
  | some r1 => (match entry_Decode N ([1, 7] : List UInt8) with
  | some r2 => (match entry_Decode N ([1, 7, 0] : List UInt8) with
  | some r3 => (match entry_Encode N ((0 : Int), ((0 : Int), ((0 : Int), ((0 : Int), ((0 : Int), ([] : List UInt8)))))) with
  | some r4 => (match entry_Decode N ([] : List UInt8) with
  | some r5 => (bif (eqs r1.1 ([2, 7, 1, 2, 0, 1] : List UInt8)) then
  (bif (eqi r1.2 (0 : Int)) then
  (bif (eqi r2.2 (0 : Int)) then
  (let x6 := (eqi r2.1.1 (1 : Int) && (eqi r2.1.2.1 (0 : Int) && (eqi r2.1.2.2.1 (0 : Int) && (eqi r2.1.2.2.2.1 (0 : Int) && (eqi r2.1.2.2.2.2.1 (7 : Int) && (eqs r2.1.2.2.2.2.2 ([] : List UInt8) && true))))))
  bif x6 then
  (bif (eqi r3.2 (30 : Int)) then
  (bif (eqi r4.2 (30 : Int)) then
  (match law03_sanity_p0 N (eqi r5.2 (30 : Int)) r2.1.1 r2.1.2.1 r2.1.2.2.1 r2.1.2.2.2.1 r2.1.2.2.2.2.1 r2.1.2.2.2.2.2 with
  | some r20 => (some r20.1)
  | none => none)
  else
  (match law03_sanity_p0 N false r2.1.1 r2.1.2.1 r2.1.2.2.1 r2.1.2.2.2.1 r2.1.2.2.2.2.1 r2.1.2.2.2.2.2 with
  | some r21 => (some r21.1)
  | none => none))
  else
  (match law03_sanity_p0 N false r2.1.1 r2.1.2.1 r2.1.2.2.1 r2.1.2.2.2.1 r2.1.2.2.2.2.1 r2.1.2.2.2.2.2 with
  | some r22 => (some r22.1)
  | none => none))
  else
  (match law03_sanity_p0 N false r2.1.1 r2.1.2.1 r2.1.2.2.1 r2.1.2.2.2.1 r2.1.2.2.2.2.1 r2.1.2.2.2.2.2 with
  | some r23 => (some r23.1)
  | none => none))
  else
  (match law03_sanity_p0 N false r2.1.1 r2.1.2.1 r2.1.2.2.1 r2.1.2.2.2.1 r2.1.2.2.2.2.1 r2.1.2.2.2.2.2 with
  | some r24 => (some r24.1)
  | none => none))
  else
  (match law03_sanity_p0 N false r2.1.1 r2.1.2.1 r2.1.2.2.1 r2.1.2.2.2.1 r2.1.2.2.2.2.1 r2.1.2.2.2.2.2 with
  | some r25 => (some r25.1)
  | none => none))
  else
  (match law03_sanity_p0 N false r2.1.1 r2.1.2.1 r2.1.2.2.1 r2.1.2.2.2.1 r2.1.2.2.2.2.1 r2.1.2.2.2.2.2 with
  | some r26 => (some r26.1)
  | none => none))
  | none => none)
  | none => none)
  | none => none)
  | none => none)
  | none => none

/-- downspout/downspoutlaw03.EntryTotals -/
def law03_EntryTotals_p5 (N : Nat) (b0 : Bool) (b1 : Int) (b2 : Bool) (b3 : (List V_api_Pair)) (b4 : (List V_api_Pair)) (b5 : Int) (b6 : Int) (b7 : Int) (b8 : Int) (b9 : Int) (b10 : Int) : Option ((Bool × Unit) ⊕ ((Bool × (Unit × (Unit × (Unit × (Unit × (Int × Unit)))))) × ((List V_api_Pair) × ((List V_api_Pair) × ((Int × Int) × ((Int × Int) × ((Int × Int) × Unit))))))) :=
  bif b2 then
  (some (.inl (false, ())))
  else
  (some (.inr ((b0, ((), ((), ((), ((), (b1, ())))))), (b3, (b4, ((b5, b6), ((b7, b8), ((b9, b10), ()))))))))
def law03_EntryTotals_p4 (N : Nat) (b0 : Bool) (b1 : Int) (b2 : (List V_api_Pair)) (b3 : (List V_api_Pair)) (b4 : Int) (b5 : Int) (b6 : Int) (b7 : Int) (b8 : Int) (b9 : Int) : Option (((Bool × (Unit × (Unit × (Unit × (Unit × Int))))) × ((List V_api_Pair) × ((List V_api_Pair) × ((Int × Int) × ((Int × Int) × Unit)))))) :=
  some ((b0, ((), ((), ((), ((), b1))))), (b2, (b3, ((b4, b5), (((IntKind.wrap .i64 (b6 + b8)), (IntKind.wrap .i64 (b7 + b9))), ())))))
def law03_EntryTotals_p3 (N : Nat) (b0 : Bool) (b1 : Int) (b2 : (List V_api_Pair)) (b3 : (List V_api_Pair)) (b4 : Int) (b5 : Int) (b6 : Int) (b7 : Int) : Option ((Bool × Unit) ⊕ ((Bool × (Unit × (Unit × (Unit × (Unit × Int))))) × ((List V_api_Pair) × ((List V_api_Pair) × ((Int × Int) × ((Int × Int) × Unit)))))) :=
  gd (inB b1 (List.length b2))
  (match entry_Charge N (rdL b2 b1 D_api_Pair) with
  | some r12 => (bif (decide (r12.1 < (0 : Int))) then
  (match law03_EntryTotals_p5 N b0 b1 true b2 b3 b4 b5 b6 b7 r12.1 r12.2 with
  | some r13 => (match r13 with
  | .inl r14 => (some (.inl (r14.1, ())))
  | .inr r15 => (match law03_EntryTotals_p4 N r15.1.1 r15.1.2.2.2.2.2.1 r15.2.1 r15.2.2.1 r15.2.2.2.1.1 r15.2.2.2.1.2 r15.2.2.2.2.1.1 r15.2.2.2.2.1.2 r15.2.2.2.2.2.1.1 r15.2.2.2.2.2.1.2 with
  | some r16 => (some (.inr ((r16.1.1, ((), ((), ((), ((), r16.1.2.2.2.2.2))))), (r16.2.1, (r16.2.2.1, ((r16.2.2.2.1.1, r16.2.2.2.1.2), ((r16.2.2.2.2.1.1, r16.2.2.2.2.1.2), ())))))))
  | none => none))
  | none => none)
  else
  (bif (decide ((1 : Int) < r12.1)) then
  (match law03_EntryTotals_p5 N b0 b1 true b2 b3 b4 b5 b6 b7 r12.1 r12.2 with
  | some r17 => (match r17 with
  | .inl r18 => (some (.inl (r18.1, ())))
  | .inr r19 => (match law03_EntryTotals_p4 N r19.1.1 r19.1.2.2.2.2.2.1 r19.2.1 r19.2.2.1 r19.2.2.2.1.1 r19.2.2.2.1.2 r19.2.2.2.2.1.1 r19.2.2.2.2.1.2 r19.2.2.2.2.2.1.1 r19.2.2.2.2.2.1.2 with
  | some r20 => (some (.inr ((r20.1.1, ((), ((), ((), ((), r20.1.2.2.2.2.2))))), (r20.2.1, (r20.2.2.1, ((r20.2.2.2.1.1, r20.2.2.2.1.2), ((r20.2.2.2.2.1.1, r20.2.2.2.2.1.2), ())))))))
  | none => none))
  | none => none)
  else
  (bif (!(eqi r12.2 (0 : Int))) then
  (gd (inB b1 (List.length b2))
  (let x21 := (List.length (((rdL b2 b1 D_api_Pair).2).1) : Int)
  bif (!(eqi r12.2 x21)) then
  (match law03_EntryTotals_p5 N b0 b1 true b2 b3 b4 b5 b6 b7 r12.1 r12.2 with
  | some r22 => (match r22 with
  | .inl r23 => (some (.inl (r23.1, ())))
  | .inr r24 => (match law03_EntryTotals_p4 N r24.1.1 r24.1.2.2.2.2.2.1 r24.2.1 r24.2.2.1 r24.2.2.2.1.1 r24.2.2.2.1.2 r24.2.2.2.2.1.1 r24.2.2.2.2.1.2 r24.2.2.2.2.2.1.1 r24.2.2.2.2.2.1.2 with
  | some r25 => (some (.inr ((r25.1.1, ((), ((), ((), ((), r25.1.2.2.2.2.2))))), (r25.2.1, (r25.2.2.1, ((r25.2.2.2.1.1, r25.2.2.2.1.2), ((r25.2.2.2.2.1.1, r25.2.2.2.2.1.2), ())))))))
  | none => none))
  | none => none)
  else
  (bif (decide ((0 : Int) < r12.1)) then
  (match law03_EntryTotals_p5 N b0 b1 (decide ((0 : Int) < r12.2)) b2 b3 b4 b5 b6 b7 r12.1 r12.2 with
  | some r26 => (match r26 with
  | .inl r27 => (some (.inl (r27.1, ())))
  | .inr r28 => (match law03_EntryTotals_p4 N r28.1.1 r28.1.2.2.2.2.2.1 r28.2.1 r28.2.2.1 r28.2.2.2.1.1 r28.2.2.2.1.2 r28.2.2.2.2.1.1 r28.2.2.2.2.1.2 r28.2.2.2.2.2.1.1 r28.2.2.2.2.2.1.2 with
  | some r29 => (some (.inr ((r29.1.1, ((), ((), ((), ((), r29.1.2.2.2.2.2))))), (r29.2.1, (r29.2.2.1, ((r29.2.2.2.1.1, r29.2.2.2.1.2), ((r29.2.2.2.2.1.1, r29.2.2.2.2.1.2), ())))))))
  | none => none))
  | none => none)
  else
  (match law03_EntryTotals_p5 N b0 b1 false b2 b3 b4 b5 b6 b7 r12.1 r12.2 with
  | some r30 => (match r30 with
  | .inl r31 => (some (.inl (r31.1, ())))
  | .inr r32 => (match law03_EntryTotals_p4 N r32.1.1 r32.1.2.2.2.2.2.1 r32.2.1 r32.2.2.1 r32.2.2.2.1.1 r32.2.2.2.1.2 r32.2.2.2.2.1.1 r32.2.2.2.2.1.2 r32.2.2.2.2.2.1.1 r32.2.2.2.2.2.1.2 with
  | some r33 => (some (.inr ((r33.1.1, ((), ((), ((), ((), r33.1.2.2.2.2.2))))), (r33.2.1, (r33.2.2.1, ((r33.2.2.2.1.1, r33.2.2.2.1.2), ((r33.2.2.2.2.1.1, r33.2.2.2.2.1.2), ())))))))
  | none => none))
  | none => none))))
  else
  (bif (decide ((0 : Int) < r12.1)) then
  (match law03_EntryTotals_p5 N b0 b1 (decide ((0 : Int) < r12.2)) b2 b3 b4 b5 b6 b7 r12.1 r12.2 with
  | some r34 => (match r34 with
  | .inl r35 => (some (.inl (r35.1, ())))
  | .inr r36 => (match law03_EntryTotals_p4 N r36.1.1 r36.1.2.2.2.2.2.1 r36.2.1 r36.2.2.1 r36.2.2.2.1.1 r36.2.2.2.1.2 r36.2.2.2.2.1.1 r36.2.2.2.2.1.2 r36.2.2.2.2.2.1.1 r36.2.2.2.2.2.1.2 with
  | some r37 => (some (.inr ((r37.1.1, ((), ((), ((), ((), r37.1.2.2.2.2.2))))), (r37.2.1, (r37.2.2.1, ((r37.2.2.2.1.1, r37.2.2.2.1.2), ((r37.2.2.2.2.1.1, r37.2.2.2.2.1.2), ())))))))
  | none => none))
  | none => none)
  else
  (match law03_EntryTotals_p5 N b0 b1 false b2 b3 b4 b5 b6 b7 r12.1 r12.2 with
  | some r38 => (match r38 with
  | .inl r39 => (some (.inl (r39.1, ())))
  | .inr r40 => (match law03_EntryTotals_p4 N r40.1.1 r40.1.2.2.2.2.2.1 r40.2.1 r40.2.2.1 r40.2.2.2.1.1 r40.2.2.2.1.2 r40.2.2.2.2.1.1 r40.2.2.2.2.1.2 r40.2.2.2.2.2.1.1 r40.2.2.2.2.2.1.2 with
  | some r41 => (some (.inr ((r41.1.1, ((), ((), ((), ((), r41.1.2.2.2.2.2))))), (r41.2.1, (r41.2.2.1, ((r41.2.2.2.1.1, r41.2.2.2.1.2), ((r41.2.2.2.2.1.1, r41.2.2.2.2.1.2), ())))))))
  | none => none))
  | none => none)))))
  | none => none)
def law03_EntryTotals_p2 (N : Nat) (b0 : Bool) (b1 : Int) (b2 : (List V_api_Pair)) (b3 : (List V_api_Pair)) (b4 : Int) (b5 : Int) (b6 : Int) (b7 : Int) : Option (((Bool × (Unit × (Unit × (Unit × (Unit × Int))))) × ((List V_api_Pair) × ((List V_api_Pair) × ((Int × Int) × ((Int × Int) × Unit)))))) :=
  some ((b0, ((), ((), ((), ((), (IntKind.wrap .i64 (b1 + (1 : Int)))))))), (b2, (b3, ((b4, b5), ((b6, b7), ())))))
def law03_EntryTotals_l1_step (N : Nat) (rec : Bool → Int → (List V_api_Pair) → (List V_api_Pair) → Int → Int → Int → Int → Option ((Bool × Unit) ⊕ ((Bool × (Unit × (Unit × (Unit × Unit)))) × ((List V_api_Pair) × ((List V_api_Pair) × ((Int × Int) × ((Int × Int) × Unit))))))) (b0 : Bool) (b1 : Int) (b2 : (List V_api_Pair)) (b3 : (List V_api_Pair)) (b4 : Int) (b5 : Int) (b6 : Int) (b7 : Int) : Option ((Bool × Unit) ⊕ ((Bool × (Unit × (Unit × (Unit × Unit)))) × ((List V_api_Pair) × ((List V_api_Pair) × ((Int × Int) × ((Int × Int) × Unit)))))) :=
  bif (decide (b1 < (List.length b2 : Int))) then
  (gd (inB b1 (List.length b2))
  (let x10 := (List.length ((rdL b2 b1 D_api_Pair).1) : Int)
  bif (decide ((100 : Int) < x10)) then
  (some (.inl (b0, ())))
  else
  (gd (inB b1 (List.length b2))
  (let x11 := (List.length (((rdL b2 b1 D_api_Pair).2).1) : Int)
  bif (decide ((100 : Int) < x11)) then
  (some (.inl (b0, ())))
  else
  (match law03_EntryTotals_p3 N b0 b1 b2 b3 b4 b5 b6 b7 with
  | some r42 => (match r42 with
  | .inl r43 => (some (.inl (r43.1, ())))
  | .inr r44 => (match law03_EntryTotals_p2 N r44.1.1 r44.1.2.2.2.2.2 r44.2.1 r44.2.2.1 r44.2.2.2.1.1 r44.2.2.2.1.2 r44.2.2.2.2.1.1 r44.2.2.2.2.1.2 with
  | some r45 => (rec r45.1.1 r45.1.2.2.2.2.2 r45.2.1 r45.2.2.1 r45.2.2.2.1.1 r45.2.2.2.1.2 r45.2.2.2.2.1.1 r45.2.2.2.2.1.2)
  | none => none))
  | none => none)))))
  else
  (some (.inr ((b0, ((), ((), ((), ())))), (b2, (b3, ((b4, b5), ((b6, b7), ())))))))
def law03_EntryTotals_l1 (N n : Nat) (b0 : Bool) (b1 : Int) (b2 : (List V_api_Pair)) (b3 : (List V_api_Pair)) (b4 : Int) (b5 : Int) (b6 : Int) (b7 : Int) : Option ((Bool × Unit) ⊕ ((Bool × (Unit × (Unit × (Unit × Unit)))) × ((List V_api_Pair) × ((List V_api_Pair) × ((Int × Int) × ((Int × Int) × Unit)))))) :=
  iter (fun (rec : ((Bool × (Unit × (Unit × (Unit × (Unit × Int))))) × ((List V_api_Pair) × ((List V_api_Pair) × ((Int × Int) × ((Int × Int) × Unit))))) → Option ((Bool × Unit) ⊕ ((Bool × (Unit × (Unit × (Unit × Unit)))) × ((List V_api_Pair) × ((List V_api_Pair) × ((Int × Int) × ((Int × Int) × Unit))))))) v => law03_EntryTotals_l1_step N (fun b0 b1 b2 b3 b4 b5 b6 b7 => rec ((b0, ((), ((), ((), ((), b1))))), (b2, (b3, ((b4, b5), ((b6, b7), ())))))) v.1.1 v.1.2.2.2.2.2 v.2.1 v.2.2.1 v.2.2.2.1.1 v.2.2.2.1.2 v.2.2.2.2.1.1 v.2.2.2.2.1.2) n ((b0, ((), ((), ((), ((), b1))))), (b2, (b3, ((b4, b5), ((b6, b7), ())))))
theorem law03_EntryTotals_l1_succ (N n : Nat) (b0 : Bool) (b1 : Int) (b2 : (List V_api_Pair)) (b3 : (List V_api_Pair)) (b4 : Int) (b5 : Int) (b6 : Int) (b7 : Int) : law03_EntryTotals_l1 N (n + 1) b0 b1 b2 b3 b4 b5 b6 b7 = law03_EntryTotals_l1_step N (fun b0  b1  b2  b3  b4  b5  b6  b7  => law03_EntryTotals_l1 N n b0 b1 b2 b3 b4 b5 b6 b7) b0 b1 b2 b3 b4 b5 b6 b7 := rfl
def law03_EntryTotals_p0 (N : Nat) (b0 : (List V_api_Pair)) (b1 : (List V_api_Pair)) (b2 : Bool) : Option ((Bool × Unit)) :=
  gd (fits (0 + List.length b0) 40)
  (let x4 := (@HAppend.hAppend (List V_api_Pair) (List V_api_Pair) (List V_api_Pair) _ ([] : List V_api_Pair) b0)
  gd (fits (List.length x4 + List.length b1) 40)
  (let x5 := (@HAppend.hAppend (List V_api_Pair) (List V_api_Pair) (List V_api_Pair) _ x4 b1)
  gd (fits (0 + List.length b1) 40)
  (let x6 := (@HAppend.hAppend (List V_api_Pair) (List V_api_Pair) (List V_api_Pair) _ ([] : List V_api_Pair) b1)
  gd (fits (List.length x6 + List.length b0) 40)
  (let x7 := (@HAppend.hAppend (List V_api_Pair) (List V_api_Pair) (List V_api_Pair) _ x6 b0)
  match entry_Total N b0 with
  | some r8 => (match entry_Total N b1 with
  | some r9 => (match law03_EntryTotals_l1 N N b2 (0 : Int) x5 x7 (IntKind.wrap .i64 (r8.1 + r9.1)) (IntKind.wrap .i64 (r8.2 + r9.2)) (0 : Int) (0 : Int) with
  | some r46 => (match r46 with
  | .inl r47 => (some (r47.1, ()))
  | .inr r48 => (bif r48.1.1 then
  (match entry_Total N r48.2.1 with
  | some r49 => (let x50 := (eqi r49.1 r48.2.2.2.1.1 && (eqi r49.2 r48.2.2.2.1.2 && true))
  bif x50 then
  (match entry_Total N r48.2.2.1 with
  | some r51 => (let x52 := (eqi r51.1 r48.2.2.2.1.1 && (eqi r51.2 r48.2.2.2.1.2 && true))
  bif x52 then
  (let x53 := (eqi r48.2.2.2.2.1.1 r48.2.2.2.1.1 && (eqi r48.2.2.2.2.1.2 r48.2.2.2.1.2 && true))
  some (x53, ()))
  else
  (some (false, ())))
  | none => none)
  else
  (some (false, ())))
  | none => none)
  else
  (some (false, ()))))
  | none => none)
  | none => none)
  | none => none))))
def law03_EntryTotals (N : Nat) (a0 : (List V_api_Pair)) (a1 : (List V_api_Pair)) : Option (Bool) :=
  match law03_sanity N with
  | some r1 => (let x2 := (decide ((20 : Int) < (List.length a0 : Int)))
  bif x2 then
  (some r1)
  else
  (let x3 := (decide ((20 : Int) < (List.length a1 : Int)))
  bif x3 then
  (some r1)
  else
  (match law03_EntryTotals_p0 N a0 a1 r1 with
  | some r54 => (some r54.1)
  | none => none)))
  | none => none

end Ds
