/- Printed by a program of the session's: what the program's functions compute, and that they do. -/
import Derived.Test.YtpgikdaeicidaaaGreatDoorDvD
import Derived.Test.YtpgikdaeicidaaaGreatDoorDvE
set_option linter.all false
namespace Ds
open Go Go.Dv
def z15 : Ty := (.pair (.int .u8) (.pair (.int .u8) (.int .u8)))
abbrev V2 : Type := (Int × (Int × Int))
abbrev y39 : V2 := ((0 : Int), ((0 : Int), (0 : Int)))
def zwj : Ty := (.pair (.int .u8) (.pair (.int .u8) (.pair (.int .u8) (.int .u8))))
abbrev z0v : Type := (Int × (Int × (Int × Int)))
abbrev zbr : z0v := ((0 : Int), ((0 : Int), ((0 : Int), (0 : Int))))
def z4d : Ty := (.pair (.int .u8) (.pair (.int .u8) (.pair (.int .u8) (.pair (.int .u8) (.pair (.int .u8) (.int .u8))))))
abbrev V4 : Type := (Int × (Int × (Int × (Int × (Int × Int)))))
abbrev ymu : V4 := ((0 : Int), ((0 : Int), ((0 : Int), ((0 : Int), ((0 : Int), (0 : Int))))))
def ze8 : Ty := (.pair (.list z15) (.pair (.list (.int .u8)) (.pair (.list (.int .u8)) (.pair (.list zwj) (.list z4d)))))
abbrev zii : Type := ((List V2) × ((List Int) × ((List Int) × ((List z0v) × (List V4)))))
abbrev xdt : zii := (([] : List V2), (([] : List Int), (([] : List Int), (([] : List z0v), ([] : List V4)))))
def Y1 : Ty := (.pair .str (.pair .str (.int .i64)))
abbrev Z0 : Type := ((List UInt8) × ((List UInt8) × Int))
abbrev X8 : Z0 := (([] : List UInt8), (([] : List UInt8), (0 : Int)))
def ze9 : Ty := (.pair (.int .i64) (.int .i64))
abbrev y9 : Type := (Int × Int)
abbrev zb4 : y9 := ((0 : Int), (0 : Int))
def V6 : Ty := (.pair ze9 ze9)
abbrev Z4 : Type := (y9 × y9)
abbrev J4 : Z4 := (zb4, zb4)
def Y8 : Ty := (.pair .str .str)
abbrev Z7 : Type := ((List UInt8) × (List UInt8))
abbrev z6z : Z7 := (([] : List UInt8), ([] : List UInt8))
def Y5 : Ty := (.pair (.int .i64) (.pair .str (.pair .str (.pair Y8 (.pair .str (.pair .str (.int .i64)))))))
abbrev Z2 : Type := (Int × ((List UInt8) × ((List UInt8) × (Z7 × ((List UInt8) × ((List UInt8) × Int))))))
abbrev Y6 : Z2 := ((0 : Int), (([] : List UInt8), (([] : List UInt8), (z6z, (([] : List UInt8), (([] : List UInt8), (0 : Int)))))))
def z5f : Ty := (.pair (.list Y1) (.pair (.list .str) (.pair (.list (.int .i64)) (.pair (.list V6) (.list Y5)))))
abbrev z4u : Type := ((List Z0) × ((List (List UInt8)) × ((List Int) × ((List Z4) × (List Z2)))))
abbrev xe5 : z4u := (([] : List Z0), (([] : List (List UInt8)), (([] : List Int), (([] : List Z4), ([] : List Z2)))))
def zuz : Ty := (.pair (.int .i64) (.int .i64))
abbrev zuy : Type := (Int × Int)
abbrev xey : zuy := ((0 : Int), (0 : Int))
def ymt : Ty := (.pair (.int .i64) (.pair (.int .i64) (.int .i64)))
abbrev yms : Type := (Int × (Int × Int))
abbrev xdu : yms := ((0 : Int), ((0 : Int), (0 : Int)))
def yyc : Ty := (.pair (.list (.int .u8)) .bool)
abbrev yyb : Type := ((List Int) × Bool)
abbrev xbz : yyb := (([] : List Int), false)
def zqi : Ty := (.pair .str (.pair (.int .i64) (.pair (.int .i64) .str)))
abbrev ze7 : Type := ((List UInt8) × (Int × (Int × (List UInt8))))
abbrev x3j : ze7 := (([] : List UInt8), ((0 : Int), ((0 : Int), ([] : List UInt8))))
def x0u : Ty := (.pair .str zqi)
abbrev x0s : Type := ((List UInt8) × ze7)
abbrev xcb : x0s := (([] : List UInt8), x3j)
def x0v : Ty := (.pair (.list (.int .u8)) .bool)
abbrev x0t : Type := ((List Int) × Bool)
abbrev xcc : x0t := (([] : List Int), false)
def z52 (N : Nat) (a0 : Int) (a1 : List Int) (a2 : Bool) : Option (((List Int) × (((List Int) × Bool) × Unit))) :=
  bif (!a2) then
  (let x1 := (bif decide ((8 : Int) < a0) then (8 : Int) else a0)
  gd ((decide (0 ≤ x1) && decide (x1 ≤ x1)) && (decide (x1 < maxB) && decide (x1 * 1 < maxB)))
  (some ((List.replicate (Int.toNat x1) (0 : Int)), ((a1, false), ()))))
  else
  (bif (decide ((List.length a1 : Int) < a0)) then
  (let x2 := (bif decide ((8 : Int) < a0) then (8 : Int) else a0)
  gd ((decide (0 ≤ x2) && decide (x2 ≤ x2)) && (decide (x2 < maxB) && decide (x2 * 1 < maxB)))
  (some ((List.replicate (Int.toNat x2) (0 : Int)), ((a1, false), ()))))
  else
  (gd (decide (0 ≤ (0 : Int)) && (decide ((0 : Int) ≤ a0) && decide (a0 ≤ (List.length a1 : Int))))
  (gd (decide (0 ≤ a0) && (decide (a0 ≤ (List.length a1 : Int)) && decide ((List.length a1 : Int) ≤ (List.length a1 : Int))))
  (some ((cut2 a1 (0 : Int) a0), (((cut2 a1 a0 (List.length a1 : Int)), a2), ()))))))
abbrev z2k := Option ((Int × (((List Int) × Bool) × Unit)))
def zia (N : Nat) (rec : Int → (List Int) → Int → Int → (List Int) → Bool → z2k) (b0 : Int) (b1 : List Int) (b2 : Int) (b3 : Int) (b4 : List Int) (b5 : Bool) : z2k :=
  bif (decide (b3 < b2)) then
  (gd (inB b3 (List.length b1))
  (gd (decide (0 ≤ (8 : Int)))
  (let x2 := (IntKind.wrap .i64 (b0 * 2 ^ min (Int.toNat (8 : Int)) (IntKind.bits .i64)))
  let x3 := (IntKind.wrap .i64 (((BitVec.ofInt (IntKind.bits .i64) x2 ||| BitVec.ofInt (IntKind.bits .i64) (IntKind.wrap .i64 ((rdL b1 b3 (0 : Int))))).toNat : Int)))
  rec x3 b1 b2 (IntKind.wrap .i64 (b3 + (1 : Int))) b4 b5)))
  else
  (some (b0, ((b4, b5), ())))
def zdq (N n : Nat) (b0 : Int) (b1 : List Int) (b2 : Int) (b3 : Int) (b4 : List Int) (b5 : Bool) : z2k :=
  iter (fun (rec : ((Int × ((List Int) × (Int × Int))) × (((List Int) × Bool) × Unit)) → z2k) v => zia N (fun b0 b1 b2 b3 b4 b5 => rec ((b0, (b1, (b2, b3))), ((b4, b5), ()))) v.1.1 v.1.2.1 v.1.2.2.1 v.1.2.2.2 v.2.1.1 v.2.1.2) n ((b0, (b1, (b2, b3))), ((b4, b5), ()))
def z3p (N : Nat) (a0 : Int) (a1 : List Int) (a2 : Bool) : Option ((Int × (((List Int) × Bool) × Unit))) :=
  match z52 N a0 a1 a2 with
  | some r1 => (match zdq N N (0 : Int) r1.1 (List.length r1.1 : Int) (0 : Int) r1.2.1.1 r1.2.1.2 with
  | some r4 => (some (r4.1, ((r4.2.1.1, r4.2.1.2), ())))
  | none => none)
  | none => none
def z38 (N : Nat) (a0 : List Int) (a1 : Bool) : Option ((Int × (((List Int) × Bool) × Unit))) :=
  match z3p N (4 : Int) a0 a1 with
  | some r1 => (some (r1.1, ((r1.2.1.1, r1.2.1.2), ())))
  | none => none
def z7z (N : Nat) (a0 : List Int) (a1 : Bool) : Option (((List UInt8) × (((List Int) × Bool) × Unit))) :=
  match z3p N (2 : Int) a0 a1 with
  | some r1 => (match z52 N r1.1 r1.2.1.1 r1.2.1.2 with
  | some r2 => (some ((z39 r2.1), ((r2.2.1.1, r2.2.1.2), ())))
  | none => none)
  | none => none
def zlm (N : Nat) (a0 : List Int) (a1 : Bool) : Option ((((List UInt8) × ((List UInt8) × Int)) × (((List Int) × Bool) × Unit))) :=
  match z7z N a0 a1 with
  | some r1 => (match z7z N r1.2.1.1 r1.2.1.2 with
  | some r2 => (match z38 N r2.2.1.1 r2.2.1.2 with
  | some r3 => (some ((r1.1, (r2.1, r3.1)), ((r3.2.1.1, r3.2.1.2), ())))
  | none => none)
  | none => none)
  | none => none
abbrev Q4 := Option ((Unit × ((List Z0) × (((List Int) × Bool) × Unit))))
def z5s (N : Nat) (rec : Int → (List Int) → Bool → (List Z0) → Q4) (b0 : Int) (b1 : List Int) (b2 : Bool) (b3 : List Z0) : Q4 :=
  bif (decide ((List.length b3 : Int) < b0)) then
  (bif b2 then
  (match zlm N b1 b2 with
  | some r1 => (gd (fits (List.length b3 + 1) 40)
  (let x2 := (@HAppend.hAppend (List Z0) (List Z0) (List Z0) _ b3 ([r1.1] : List Z0))
  rec b0 r1.2.1.1 r1.2.1.2 x2))
  | none => none)
  else
  (some ((), (b3, ((b1, b2), ())))))
  else
  (some ((), (b3, ((b1, b2), ()))))
def z1k (N n : Nat) (b0 : Int) (b1 : List Int) (b2 : Bool) (b3 : List Z0) : Q4 :=
  iter (fun (rec : ((Unit × (Int × (Unit × Unit))) × (((List Int) × Bool) × ((List Z0) × Unit))) → Q4) v => z5s N (fun b0 b1 b2 b3 => rec (((), (b0, ((), ()))), ((b1, b2), (b3, ())))) v.1.2.1 v.2.1.1 v.2.1.2 v.2.2.1) n (((), (b0, ((), ()))), ((b1, b2), (b3, ())))
def z3i (N : Nat) (a0 : Int) (a1 : List Int) (a2 : Bool) : Option ((Unit × ((List Z0) × (((List Int) × Bool) × Unit)))) :=
  match z1k N N a0 a1 a2 ([] : List Z0) with
  | some r3 => (some ((), (r3.2.1, ((r3.2.2.1.1, r3.2.2.1.2), ()))))
  | none => none
def z6l (N : Nat) (rec : (List Z0) → Int → Option ((Bool × Unit) ⊕ (Unit × Unit))) (b0 : List Z0) (b1 : Int) : Option ((Bool × Unit) ⊕ (Unit × Unit)) :=
  bif (decide (b1 < (List.length b0 : Int))) then
  (gd (inB (IntKind.wrap .i64 (b1 - (1 : Int))) (List.length b0))
  (let x1 := (rdL b0 (IntKind.wrap .i64 (b1 - (1 : Int))) X8)
  gd (inB b1 (List.length b0))
  (bif (!(lts x1.1 ((rdL b0 b1 X8).1))) then
  (some (.inl (false, ())))
  else
  (rec b0 (IntKind.wrap .i64 (b1 + (1 : Int)))))))
  else
  (some (.inr ((), ())))
def z7i (N n : Nat) (b0 : List Z0) (b1 : Int) : Option ((Bool × Unit) ⊕ (Unit × Unit)) :=
  iter (fun (rec : (((List Z0) × Int) × Unit) → Option ((Bool × Unit) ⊕ (Unit × Unit))) v => z6l N (fun b0 b1 => rec ((b0, b1), ())) v.1.1 v.1.2) n ((b0, b1), ())
theorem zj2 (N n : Nat) (b0 : List Z0) (b1 : Int) : z7i N (n + 1) b0 b1 = z6l N (fun b0  b1  => z7i N n b0 b1) b0 b1 := rfl
def zq0 (N : Nat) (a0 : List Z0) : Option (Bool) :=
  match z7i N N a0 (1 : Int) with
  | some r2 => (match r2 with
  | .inl r3 => (some r3.1)
  | .inr r4 => (some true))
  | none => none
def y7k (N : Nat) (a0 : Z0) : Option (Bool) :=
  let x1 := (decide ((1 : Int) ≤ (List.length a0.1 : Int)))
  bif x1 then
  (let x2 := (decide ((List.length a0.1 : Int) ≤ (65535 : Int)))
  bif x2 then
  (let x3 := (decide ((List.length a0.2.1 : Int) ≤ (64 : Int)))
  bif x3 then
  (bif (decide ((0 : Int) ≤ a0.2.2)) then
  (some (decide (a0.2.2 ≤ (1000000000 : Int))))
  else
  (some false))
  else
  (some false))
  else
  (some false))
  else
  (some false)
def zv1 (N : Nat) (a0 : Z7) (a1 : List UInt8) : Option (Bool) :=
  bif (!(lts a1 a0.1)) then
  (bif (eqs a0.2 ([] : List UInt8)) then
  (some true)
  else
  (some (lts a1 a0.2)))
  else
  (some false)
def y7o (N : Nat) (a0 : Z0) (a1 : List UInt8) (a2 : List UInt8) : Option (Bool) :=
  match y7k N a0 with
  | some r1 => (bif (!r1) then
  (some true)
  else
  (match zv1 N (a1, a2) a0.1 with
  | some r2 => (some (!r2))
  | none => none))
  | none => none
def z1z (N : Nat) (rec : (List Z0) → (List UInt8) → (List UInt8) → Int → Int → Option ((Int × Unit) ⊕ (Unit × Unit))) (b0 : List Z0) (b1 : List UInt8) (b2 : List UInt8) (b3 : Int) (b4 : Int) : Option ((Int × Unit) ⊕ (Unit × Unit)) :=
  bif (decide (b4 < b3)) then
  (gd (inB b4 (List.length b0))
  (match y7o N (rdL b0 b4 X8) b1 b2 with
  | some r1 => (bif r1 then
  (some (.inl (b4, ())))
  else
  (rec b0 b1 b2 b3 (IntKind.wrap .i64 (b4 + (1 : Int)))))
  | none => none))
  else
  (some (.inr ((), ())))
def y0 (N n : Nat) (b0 : List Z0) (b1 : List UInt8) (b2 : List UInt8) (b3 : Int) (b4 : Int) : Option ((Int × Unit) ⊕ (Unit × Unit)) :=
  iter (fun (rec : (((List Z0) × (((List UInt8) × (List UInt8)) × (Int × Int))) × Unit) → Option ((Int × Unit) ⊕ (Unit × Unit))) v => z1z N (fun b0 b1 b2 b3 b4 => rec ((b0, ((b1, b2), (b3, b4))), ())) v.1.1 v.1.2.1.1 v.1.2.1.2 v.1.2.2.1 v.1.2.2.2) n ((b0, ((b1, b2), (b3, b4))), ())
def q8 (N : Nat) (a0 : List Z0) (a1 : List UInt8) (a2 : List UInt8) : Option (Int) :=
  match y0 N N a0 a1 a2 (List.length a0 : Int) (0 : Int) with
  | some r2 => (match r2 with
  | .inl r3 => (some r3.1)
  | .inr r4 => (some (-1 : Int)))
  | none => none
def y5 (N : Nat) (a0 : List Z0) (a1 : List UInt8) (a2 : List UInt8) : Option (Bool) :=
  match q8 N a0 a1 a2 with
  | some r1 => (some (decide ((0 : Int) ≤ r1)))
  | none => none
def z54 (N : Nat) (rec : Int → Int → (List y9) → Option ((Bool × Unit) ⊕ (Unit × Unit))) (b0 : Int) (b1 : Int) (b2 : List y9) : Option ((Bool × Unit) ⊕ (Unit × Unit)) :=
  bif (decide (b1 < b0)) then
  (gd (inB b1 (List.length b2))
  (let x2 := (decide (((rdL b2 b1 zb4).1) < (0 : Int)))
  bif x2 then
  (some (.inl (false, ())))
  else
  (let x3 := (decide ((rdL b2 b1 zb4).2 < (rdL b2 b1 zb4).1))
  bif x3 then
  (some (.inl (false, ())))
  else
  (let x4 := (decide ((1000000000000000 : Int) < (rdL b2 b1 zb4).2))
  bif x4 then
  (some (.inl (false, ())))
  else
  (rec b0 (IntKind.wrap .i64 (b1 + (1 : Int))) b2)))))
  else
  (some (.inr ((), ())))
def z73 (N n : Nat) (b0 : Int) (b1 : Int) (b2 : List y9) : Option ((Bool × Unit) ⊕ (Unit × Unit)) :=
  iter (fun (rec : ((Unit × (Int × Int)) × ((List y9) × Unit)) → Option ((Bool × Unit) ⊕ (Unit × Unit))) v => z54 N (fun b0 b1 b2 => rec (((), (b0, b1)), (b2, ()))) v.1.2.1 v.1.2.2 v.2.1) n (((), (b0, b1)), (b2, ()))
theorem zfs (N n : Nat) (b0 : Int) (b1 : Int) (b2 : List y9) : z73 N (n + 1) b0 b1 b2 = z54 N (fun b0  b1  b2  => z73 N n b0 b1 b2) b0 b1 b2 := rfl
def zhq (N : Nat) (a0 : Z4) : Option (Bool) :=
  let x1 := (List.length ([a0.1, a0.2] : List y9) : Int)
  match z73 N N x1 (0 : Int) ([a0.1, a0.2] : List y9) with
  | some r5 => (match r5 with
  | .inl r6 => (some r6.1)
  | .inr r7 => (some true))
  | none => none
def zk2 (N : Nat) (a0 : Z2) : Option (Z2 ⊕ Z2 ⊕ Z2 ⊕ Z2 ⊕ Z2 ⊕ Z2 ⊕ Unit) :=
  bif (eqi a0.1 (1 : Int)) then
  (some (.inl a0))
  else
  (bif (eqi a0.1 (2 : Int)) then
  (some (.inr (.inl a0)))
  else
  (bif (eqi a0.1 (3 : Int)) then
  (some (.inr (.inr (.inl a0))))
  else
  (bif (eqi a0.1 (4 : Int)) then
  (some (.inr (.inr (.inr (.inl a0)))))
  else
  (bif (eqi a0.1 (5 : Int)) then
  (some (.inr (.inr (.inr (.inr (.inl a0))))))
  else
  (bif (eqi a0.1 (6 : Int)) then
  (some (.inr (.inr (.inr (.inr (.inr (.inl a0)))))))
  else
  (some (.inr (.inr (.inr (.inr (.inr (.inr ()))))))))))))
def yhr (N : Nat) (a0 : Int) (a1 : Int) (a2 : Int) : Option (Bool) :=
  bif (decide (a1 ≤ a0)) then
  (some (decide (a0 ≤ a2)))
  else
  (some false)
def y7x (N : Nat) (a0 : Z2) : Option (Bool) :=
  match yhr N (List.length a0.2.1 : Int) (1 : Int) (65535 : Int) with
  | some r1 => (bif r1 then
  (let x2 := (decide ((List.length a0.2.2.1 : Int) ≤ (64 : Int)))
  bif x2 then
  (match yhr N a0.2.2.2.2.2.2 (0 : Int) (1000000000 : Int) with
  | some r3 => (some r3)
  | none => none)
  else
  (some false))
  else
  (some false))
  | none => none
def yhi (N : Nat) (a0 : Z2) : Option (Z2) :=
  some (a0.1, (a0.2.1, (a0.2.2.1, ((([] : List UInt8), ([] : List UInt8)), (([] : List UInt8), (([] : List UInt8), a0.2.2.2.2.2.2))))))
def y80 (N : Nat) (a0 : Z2) : Option (Bool) :=
  match yhr N (List.length a0.2.1 : Int) (1 : Int) (65535 : Int) with
  | some r1 => (some r1)
  | none => none
def yhj (N : Nat) (a0 : Z2) : Option (Z2) :=
  some (a0.1, (a0.2.1, (([] : List UInt8), ((([] : List UInt8), ([] : List UInt8)), (([] : List UInt8), (([] : List UInt8), (0 : Int)))))))
def zdz (N : Nat) (a0 : Z7) : Option (Bool) :=
  bif (!(eqs a0.2 ([] : List UInt8))) then
  (some (lts a0.2 a0.1 || eqs a0.2 a0.1))
  else
  (some false)
def yvi (N : Nat) (a0 : Z7) : Option (Bool) :=
  match zdz N a0 with
  | some r1 => (bif (!r1) then
  (let x2 := (bif decide ((List.length a0.1 : Int) < (List.length a0.2 : Int)) then (List.length a0.2 : Int) else (List.length a0.1 : Int))
  some (decide (x2 ≤ (65535 : Int))))
  else
  (some false))
  | none => none
def y2c (N : Nat) (a0 : Z2) : Option (Bool) :=
  match yvi N a0.2.2.2.1 with
  | some r1 => (some r1)
  | none => none
def y7z (N : Nat) (a0 : Z2) : Option (Z2) :=
  some (a0.1, (([] : List UInt8), (([] : List UInt8), (a0.2.2.2.1, (([] : List UInt8), (([] : List UInt8), (0 : Int)))))))
def w8 (N : Nat) (a0 : List UInt8) (a1 : List UInt8) : Option (Bool) :=
  let x1 := (decide ((List.length a1 : Int) ≤ (List.length a0 : Int)))
  bif x1 then
  (gd (decide (0 ≤ (0 : Int)) && (decide ((0 : Int) ≤ (List.length a1 : Int)) && decide ((List.length a1 : Int) ≤ (List.length a0 : Int))))
  (let x2 := (eqs (cut2 a0 (0 : Int) (List.length a1 : Int)) a1)
  some x2))
  else
  (some false)
def zep (N : Nat) (a0 : List UInt8) (a1 : List UInt8) : Option (Bool) :=
  match w8 N a0 a1 with
  | some r1 => (some r1)
  | none => none
def ylz (N : Nat) (a0 : List UInt8) (a1 : List UInt8) : Option (Bool) :=
  match yhr N (List.length a0 : Int) (1 : Int) (200 : Int) with
  | some r1 => (bif r1 then
  (match yhr N (List.length a1 : Int) (1 : Int) (200 : Int) with
  | some r2 => (bif r2 then
  (match zep N a0 a1 with
  | some r3 => (bif (!r3) then
  (match zep N a1 a0 with
  | some r4 => (some (!r4))
  | none => none)
  else
  (some false))
  | none => none)
  else
  (some false))
  | none => none)
  else
  (some false))
  | none => none
def y2b (N : Nat) (a0 : Z2) : Option (Bool) :=
  match ylz N a0.2.2.2.2.1 a0.2.2.2.2.2.1 with
  | some r1 => (some r1)
  | none => none
def y7y (N : Nat) (a0 : Z2) : Option (Z2) :=
  some (a0.1, (([] : List UInt8), (([] : List UInt8), ((([] : List UInt8), ([] : List UInt8)), (a0.2.2.2.2.1, (a0.2.2.2.2.2.1, (0 : Int)))))))
def zvu (N : Nat) (a0 : Z2) : Option (Bool) :=
  match ylz N a0.2.2.2.2.1 a0.2.2.2.2.2.1 with
  | some r1 => (some r1)
  | none => none
def y2d (N : Nat) (a0 : Z2) : Option (Z2) :=
  some (a0.1, (([] : List UInt8), (([] : List UInt8), ((([] : List UInt8), ([] : List UInt8)), (a0.2.2.2.2.1, (a0.2.2.2.2.2.1, (0 : Int)))))))
def zvr (N : Nat) (a0 : Z2) : Option (Bool) :=
  match yvi N a0.2.2.2.1 with
  | some r1 => (bif r1 then
  (match yhr N a0.2.2.2.2.2.2 (0 : Int) (1000000000 : Int) with
  | some r2 => (some r2)
  | none => none)
  else
  (some false))
  | none => none
def y2a (N : Nat) (a0 : Z2) : Option (Z2) :=
  some (a0.1, (([] : List UInt8), (([] : List UInt8), (a0.2.2.2.1, (([] : List UInt8), (([] : List UInt8), a0.2.2.2.2.2.2))))))
def y71 (N : Nat) (a0 : Z2) : Option (Bool) :=
  match zk2 N a0 with
  | some r1 => (match r1 with
  | .inl r2 => (match y7x N r2 with
  | some r4 => (bif r4 then
  (match yhi N r2 with
  | some r5 => (let x6 := (eqi r5.1 a0.1 && (eqs r5.2.1 a0.2.1 && (eqs r5.2.2.1 a0.2.2.1 && (eqs r5.2.2.2.1.1 a0.2.2.2.1.1 && (eqs r5.2.2.2.1.2 a0.2.2.2.1.2 && (eqs r5.2.2.2.2.1 a0.2.2.2.2.1 && (eqs r5.2.2.2.2.2.1 a0.2.2.2.2.2.1 && (eqi r5.2.2.2.2.2.2 a0.2.2.2.2.2.2 && true))))))))
  some x6)
  | none => none)
  else
  (some false))
  | none => none)
  | .inr r3 => (match r3 with
  | .inl r7 => (match y80 N r7 with
  | some r9 => (bif r9 then
  (match yhj N r7 with
  | some r10 => (let x11 := (eqi r10.1 a0.1 && (eqs r10.2.1 a0.2.1 && (eqs r10.2.2.1 a0.2.2.1 && (eqs r10.2.2.2.1.1 a0.2.2.2.1.1 && (eqs r10.2.2.2.1.2 a0.2.2.2.1.2 && (eqs r10.2.2.2.2.1 a0.2.2.2.2.1 && (eqs r10.2.2.2.2.2.1 a0.2.2.2.2.2.1 && (eqi r10.2.2.2.2.2.2 a0.2.2.2.2.2.2 && true))))))))
  some x11)
  | none => none)
  else
  (some false))
  | none => none)
  | .inr r8 => (match r8 with
  | .inl r12 => (match y2c N r12 with
  | some r14 => (bif r14 then
  (match y7z N r12 with
  | some r15 => (let x16 := (eqi r15.1 a0.1 && (eqs r15.2.1 a0.2.1 && (eqs r15.2.2.1 a0.2.2.1 && (eqs r15.2.2.2.1.1 a0.2.2.2.1.1 && (eqs r15.2.2.2.1.2 a0.2.2.2.1.2 && (eqs r15.2.2.2.2.1 a0.2.2.2.2.1 && (eqs r15.2.2.2.2.2.1 a0.2.2.2.2.2.1 && (eqi r15.2.2.2.2.2.2 a0.2.2.2.2.2.2 && true))))))))
  some x16)
  | none => none)
  else
  (some false))
  | none => none)
  | .inr r13 => (match r13 with
  | .inl r17 => (match y2b N r17 with
  | some r19 => (bif r19 then
  (match y7y N r17 with
  | some r20 => (let x21 := (eqi r20.1 a0.1 && (eqs r20.2.1 a0.2.1 && (eqs r20.2.2.1 a0.2.2.1 && (eqs r20.2.2.2.1.1 a0.2.2.2.1.1 && (eqs r20.2.2.2.1.2 a0.2.2.2.1.2 && (eqs r20.2.2.2.2.1 a0.2.2.2.2.1 && (eqs r20.2.2.2.2.2.1 a0.2.2.2.2.2.1 && (eqi r20.2.2.2.2.2.2 a0.2.2.2.2.2.2 && true))))))))
  some x21)
  | none => none)
  else
  (some false))
  | none => none)
  | .inr r18 => (match r18 with
  | .inl r22 => (match zvu N r22 with
  | some r24 => (bif r24 then
  (match y2d N r22 with
  | some r25 => (let x26 := (eqi r25.1 a0.1 && (eqs r25.2.1 a0.2.1 && (eqs r25.2.2.1 a0.2.2.1 && (eqs r25.2.2.2.1.1 a0.2.2.2.1.1 && (eqs r25.2.2.2.1.2 a0.2.2.2.1.2 && (eqs r25.2.2.2.2.1 a0.2.2.2.2.1 && (eqs r25.2.2.2.2.2.1 a0.2.2.2.2.2.1 && (eqi r25.2.2.2.2.2.2 a0.2.2.2.2.2.2 && true))))))))
  some x26)
  | none => none)
  else
  (some false))
  | none => none)
  | .inr r23 => (match r23 with
  | .inl r27 => (match zvr N r27 with
  | some r29 => (bif r29 then
  (match y2a N r27 with
  | some r30 => (let x31 := (eqi r30.1 a0.1 && (eqs r30.2.1 a0.2.1 && (eqs r30.2.2.1 a0.2.2.1 && (eqs r30.2.2.2.1.1 a0.2.2.2.1.1 && (eqs r30.2.2.2.1.2 a0.2.2.2.1.2 && (eqs r30.2.2.2.2.1 a0.2.2.2.2.1 && (eqs r30.2.2.2.2.2.1 a0.2.2.2.2.2.1 && (eqi r30.2.2.2.2.2.2 a0.2.2.2.2.2.2 && true))))))))
  some x31)
  | none => none)
  else
  (some false))
  | none => none)
  | .inr r28 => (some false)))))))
  | none => none
def zqo (N : Nat) (a0 : Z2) : Option ((List Z7)) :=
  some ([] : List Z7)
def zqq (N : Nat) (a0 : Z2) : Option ((List Z7)) :=
  some ([] : List Z7)
def zma (N : Nat) (a0 : Z2) : Option ((List Z7)) :=
  some ([] : List Z7)
abbrev zbm := Option ((((List UInt8) × (Unit × Unit)) × (((List UInt8) × (List UInt8)) × ((List Int) × Unit))))
def zbx (N : Nat) (rec : (List UInt8) → (List UInt8) → (List UInt8) → (List Int) → zbm) (b0 : List UInt8) (b1 : List UInt8) (b2 : List UInt8) (b3 : List Int) : zbm :=
  let x1 := (decide ((0 : Int) < (List.length b3 : Int)))
  bif x1 then
  (let x2 := (IntKind.wrap .i64 ((List.length b3 : Int) - (1 : Int)))
  gd (inB x2 (List.length b3))
  (bif (eqi (rdL b3 x2 (0 : Int)) (255 : Int)) then
  (let x3 := (IntKind.wrap .i64 ((List.length b3 : Int) - (1 : Int)))
  gd (decide (0 ≤ x3) && decide (x3 ≤ (List.length b3 : Int)))
  (rec b0 b1 b2 (List.take (Int.toNat x3) b3)))
  else
  (some ((b0, ((), ())), ((b1, b2), (b3, ()))))))
  else
  (some ((b0, ((), ())), ((b1, b2), (b3, ()))))
def zah (N n : Nat) (b0 : List UInt8) (b1 : List UInt8) (b2 : List UInt8) (b3 : List Int) : zbm :=
  iter (fun (rec : (((List UInt8) × (Unit × Unit)) × (((List UInt8) × (List UInt8)) × ((List Int) × Unit))) → zbm) v => zbx N (fun b0 b1 b2 b3 => rec ((b0, ((), ())), ((b1, b2), (b3, ())))) v.1.1 v.2.1.1 v.2.1.2 v.2.2.1) n ((b0, ((), ())), ((b1, b2), (b3, ())))
theorem zj3 (N n : Nat) (b0 : List UInt8) (b1 : List UInt8) (b2 : List UInt8) (b3 : List Int) : zah N (n + 1) b0 b1 b2 b3 = zbx N (fun b0  b1  b2  b3  => zah N n b0 b1 b2 b3) b0 b1 b2 b3 := rfl
def z4a (N : Nat) (a0 : List UInt8) : Option (Z7) :=
  gd (decide (List.length a0 < maxB))
  (match zah N N a0 ([] : List UInt8) ([] : List UInt8) (K7 a0) with
  | some r4 => (let x5 := (decide ((0 : Int) < (List.length r4.2.2.1 : Int)))
  bif x5 then
  (let x6 := (IntKind.wrap .i64 ((List.length r4.2.2.1 : Int) - (1 : Int)))
  gd (inB x6 (List.length r4.2.2.1))
  (let x7 := (IntKind.wrap .u8 ((rdL r4.2.2.1 x6 (0 : Int)) + (1 : Int)))
  gd (inB x6 (List.length r4.2.2.1))
  (some (r4.1.1, (z39 (setL r4.2.2.1 x6 x7))))))
  else
  (some (r4.1.1, (z39 r4.2.2.1))))
  | none => none)
def zm8 (N : Nat) (a0 : Z2) : Option ((List Z7)) :=
  match z4a N a0.2.2.2.2.1 with
  | some r1 => (some ([r1] : List Z7))
  | none => none
def zis (N : Nat) (a0 : Z2) : Option ((List Z7)) :=
  match z4a N a0.2.2.2.2.1 with
  | some r1 => (some ([r1] : List Z7))
  | none => none
def zin (N : Nat) (a0 : Z2) : Option ((List Z7)) :=
  some ([a0.2.2.2.1] : List Z7)
def y72 (N : Nat) (a0 : Z2) : Option ((List Z7)) :=
  match zk2 N a0 with
  | some r1 => (match r1 with
  | .inl r2 => (match zqo N r2 with
  | some r4 => (some r4)
  | none => none)
  | .inr r3 => (match r3 with
  | .inl r5 => (match zqq N r5 with
  | some r7 => (some r7)
  | none => none)
  | .inr r6 => (match r6 with
  | .inl r8 => (match zma N r8 with
  | some r10 => (some r10)
  | none => none)
  | .inr r9 => (match r9 with
  | .inl r11 => (match zm8 N r11 with
  | some r13 => (some r13)
  | none => none)
  | .inr r12 => (match r12 with
  | .inl r14 => (match zis N r14 with
  | some r16 => (some r16)
  | none => none)
  | .inr r15 => (match r15 with
  | .inl r17 => (match zin N r17 with
  | some r19 => (some r19)
  | none => none)
  | .inr r18 => (some ([] : List Z7))))))))
  | none => none
def zdn (N : Nat) (a0 : List UInt8) : Option (Bool) :=
  some (!(eqs a0 a0))
def zi0 (N : Nat) (a0 : List UInt8) (a1 : List UInt8) : Option (Int) :=
  match zdn N a0 with
  | some r1 => (match zdn N a1 with
  | some r2 => (bif r1 then
  (bif r2 then
  (some (0 : Int))
  else
  (some (-1 : Int)))
  else
  (bif r2 then
  (some (1 : Int))
  else
  (bif (lts a0 a1) then
  (some (-1 : Int))
  else
  (bif (!(lts a0 a1 || eqs a0 a1)) then
  (some (1 : Int))
  else
  (some (0 : Int))))))
  | none => none)
  | none => none
def zg9 (N : Nat) (a0 : List UInt8) (a1 : List UInt8) : Option (Int) :=
  bif (eqs a0 a1) then
  (some (0 : Int))
  else
  (bif (eqs a0 ([] : List UInt8)) then
  (some (1 : Int))
  else
  (bif (eqs a1 ([] : List UInt8)) then
  (some (-1 : Int))
  else
  (match zi0 N a0 a1 with
  | some r1 => (some r1)
  | none => none)))
def yme (N : Nat) (a0 : Z7) (a1 : Z7) : Option (Bool) :=
  match zdz N a1 with
  | some r1 => (bif r1 then
  (some true)
  else
  (match zv1 N a0 a1.1 with
  | some r2 => (bif r2 then
  (match zg9 N a0.2 a1.2 with
  | some r3 => (some (decide ((0 : Int) ≤ r3)))
  | none => none)
  else
  (some false))
  | none => none))
  | none => none
def y7n (N : Nat) (a0 : Z7) (a1 : List UInt8) (a2 : List UInt8) : Option (Bool) :=
  match yme N (a1, a2) a0 with
  | some r1 => (some (!r1))
  | none => none
def z1y (N : Nat) (rec : (List Z7) → (List UInt8) → (List UInt8) → Int → Int → Option ((Int × Unit) ⊕ (Unit × Unit))) (b0 : List Z7) (b1 : List UInt8) (b2 : List UInt8) (b3 : Int) (b4 : Int) : Option ((Int × Unit) ⊕ (Unit × Unit)) :=
  bif (decide (b4 < b3)) then
  (gd (inB b4 (List.length b0))
  (match y7n N (rdL b0 b4 z6z) b1 b2 with
  | some r1 => (bif r1 then
  (some (.inl (b4, ())))
  else
  (rec b0 b1 b2 b3 (IntKind.wrap .i64 (b4 + (1 : Int)))))
  | none => none))
  else
  (some (.inr ((), ())))
def z8 (N n : Nat) (b0 : List Z7) (b1 : List UInt8) (b2 : List UInt8) (b3 : Int) (b4 : Int) : Option ((Int × Unit) ⊕ (Unit × Unit)) :=
  iter (fun (rec : (((List Z7) × (((List UInt8) × (List UInt8)) × (Int × Int))) × Unit) → Option ((Int × Unit) ⊕ (Unit × Unit))) v => z1y N (fun b0 b1 b2 b3 b4 => rec ((b0, ((b1, b2), (b3, b4))), ())) v.1.1 v.1.2.1.1 v.1.2.1.2 v.1.2.2.1 v.1.2.2.2) n ((b0, ((b1, b2), (b3, b4))), ())
def q7 (N : Nat) (a0 : List Z7) (a1 : List UInt8) (a2 : List UInt8) : Option (Int) :=
  match z8 N N a0 a1 a2 (List.length a0 : Int) (0 : Int) with
  | some r2 => (match r2 with
  | .inl r3 => (some r3.1)
  | .inr r4 => (some (-1 : Int)))
  | none => none
def U9 (N : Nat) (a0 : List Z7) (a1 : List UInt8) (a2 : List UInt8) : Option (Bool) :=
  match q7 N a0 a1 a2 with
  | some r1 => (some (decide ((0 : Int) ≤ r1)))
  | none => none
def zj4 (N : Nat) (a0 : List UInt8) : Option (Z7) :=
  gd (decide (List.length a0 + List.length ([0] : List UInt8) < maxS))
  (let x1 := (@HAppend.hAppend (List UInt8) (List UInt8) (List UInt8) _ a0 ([0] : List UInt8))
  some (a0, x1))
def zm7 (N : Nat) (a0 : Z2) : Option ((List Z7)) :=
  match zj4 N a0.2.1 with
  | some r1 => (some ([r1] : List Z7))
  | none => none
def zmc (N : Nat) (a0 : Z2) : Option ((List Z7)) :=
  match zj4 N a0.2.1 with
  | some r1 => (some ([r1] : List Z7))
  | none => none
def zir (N : Nat) (a0 : Z2) : Option ((List Z7)) :=
  some ([a0.2.2.2.1] : List Z7)
def ziq (N : Nat) (a0 : Z2) : Option ((List Z7)) :=
  match z4a N a0.2.2.2.2.1 with
  | some r1 => (match z4a N a0.2.2.2.2.2.1 with
  | some r2 => (some ([r1, r2] : List Z7))
  | none => none)
  | none => none
def zgf (N : Nat) (a0 : Z2) : Option ((List Z7)) :=
  match z4a N a0.2.2.2.2.2.1 with
  | some r1 => (some ([r1] : List Z7))
  | none => none
def zgc (N : Nat) (a0 : Z2) : Option ((List Z7)) :=
  some ([a0.2.2.2.1] : List Z7)
def zvv (N : Nat) (a0 : Z2) : Option ((List Z7)) :=
  match zk2 N a0 with
  | some r1 => (match r1 with
  | .inl r2 => (match zm7 N r2 with
  | some r4 => (some r4)
  | none => none)
  | .inr r3 => (match r3 with
  | .inl r5 => (match zmc N r5 with
  | some r7 => (some r7)
  | none => none)
  | .inr r6 => (match r6 with
  | .inl r8 => (match zir N r8 with
  | some r10 => (some r10)
  | none => none)
  | .inr r9 => (match r9 with
  | .inl r11 => (match ziq N r11 with
  | some r13 => (some r13)
  | none => none)
  | .inr r12 => (match r12 with
  | .inl r14 => (match zgf N r14 with
  | some r16 => (some r16)
  | none => none)
  | .inr r15 => (match r15 with
  | .inl r17 => (match zgc N r17 with
  | some r19 => (some r19)
  | none => none)
  | .inr r18 => (some ([] : List Z7))))))))
  | none => none
def z8i (N : Nat) (a0 : Z2) (a1 : List UInt8) (a2 : List UInt8) : Option (Bool) :=
  match y71 N a0 with
  | some r1 => (bif (!r1) then
  (some true)
  else
  (match y72 N a0 with
  | some r2 => (match U9 N r2 a1 a2 with
  | some r3 => (bif r3 then
  (some true)
  else
  (match zvv N a0 with
  | some r4 => (match U9 N r4 a1 a2 with
  | some r5 => (some r5)
  | none => none)
  | none => none))
  | none => none)
  | none => none))
  | none => none
def z05 (N : Nat) (rec : (List Z2) → (List UInt8) → (List UInt8) → Int → Int → Option ((Int × Unit) ⊕ (Unit × Unit))) (b0 : List Z2) (b1 : List UInt8) (b2 : List UInt8) (b3 : Int) (b4 : Int) : Option ((Int × Unit) ⊕ (Unit × Unit)) :=
  bif (decide (b4 < b3)) then
  (gd (inB b4 (List.length b0))
  (match z8i N (rdL b0 b4 Y6) b1 b2 with
  | some r1 => (bif r1 then
  (some (.inl (b4, ())))
  else
  (rec b0 b1 b2 b3 (IntKind.wrap .i64 (b4 + (1 : Int)))))
  | none => none))
  else
  (some (.inr ((), ())))
def Q9 (N n : Nat) (b0 : List Z2) (b1 : List UInt8) (b2 : List UInt8) (b3 : Int) (b4 : Int) : Option ((Int × Unit) ⊕ (Unit × Unit)) :=
  iter (fun (rec : (((List Z2) × (((List UInt8) × (List UInt8)) × (Int × Int))) × Unit) → Option ((Int × Unit) ⊕ (Unit × Unit))) v => z05 N (fun b0 b1 b2 b3 b4 => rec ((b0, ((b1, b2), (b3, b4))), ())) v.1.1 v.1.2.1.1 v.1.2.1.2 v.1.2.2.1 v.1.2.2.2) n ((b0, ((b1, b2), (b3, b4))), ())
def K6 (N : Nat) (a0 : List Z2) (a1 : List UInt8) (a2 : List UInt8) : Option (Int) :=
  match Q9 N N a0 a1 a2 (List.length a0 : Int) (0 : Int) with
  | some r2 => (match r2 with
  | .inl r3 => (some r3.1)
  | .inr r4 => (some (-1 : Int)))
  | none => none
def K0 (N : Nat) (a0 : List Z2) (a1 : List UInt8) (a2 : List UInt8) : Option (Bool) :=
  match K6 N a0 a1 a2 with
  | some r1 => (some (decide ((0 : Int) ≤ r1)))
  | none => none
abbrev zd2 := Option ((Bool × Unit) ⊕ ((Unit × Unit) × (((List Z0) × ((List (List UInt8)) × ((List Int) × ((List Z4) × (List Z2))))) × (((List UInt8) × (List UInt8)) × Unit))))
def z80 (N : Nat) (rec : (List Int) → Int → Int → (List Z0) → (List (List UInt8)) → (List Int) → (List Z4) → (List Z2) → (List UInt8) → (List UInt8) → zd2) (b0 : List Int) (b1 : Int) (b2 : Int) (b3 : List Z0) (b4 : (List (List UInt8))) (b5 : List Int) (b6 : List Z4) (b7 : List Z2) (b8 : List UInt8) (b9 : List UInt8) : zd2 :=
  bif (decide (b2 < b1)) then
  (gd (inB b2 (List.length b0))
  (bif (decide ((rdL b0 b2 (0 : Int)) < (0 : Int))) then
  (some (.inl (false, ())))
  else
  (let x12 := (decide ((4096 : Int) ≤ (rdL b0 b2 (0 : Int))))
  bif x12 then
  (some (.inl (false, ())))
  else
  (gd (inB b2 (List.length b6))
  (match zhq N (rdL b6 b2 J4) with
  | some r13 => (bif (!r13) then
  (some (.inl (false, ())))
  else
  (rec b0 b1 (IntKind.wrap .i64 (b2 + (1 : Int))) b3 b4 b5 b6 b7 b8 b9))
  | none => none)))))
  else
  (some (.inr (((), ()), ((b3, (b4, (b5, (b6, b7)))), ((b8, b9), ())))))
def z9k (N n : Nat) (b0 : List Int) (b1 : Int) (b2 : Int) (b3 : List Z0) (b4 : (List (List UInt8))) (b5 : List Int) (b6 : List Z4) (b7 : List Z2) (b8 : List UInt8) (b9 : List UInt8) : zd2 :=
  iter (fun (rec : ((Unit × (Unit × ((List Int) × (Int × Int)))) × (((List Z0) × ((List (List UInt8)) × ((List Int) × ((List Z4) × (List Z2))))) × (((List UInt8) × (List UInt8)) × Unit))) → zd2) v => z80 N (fun b0 b1 b2 b3 b4 b5 b6 b7 b8 b9 => rec (((), ((), (b0, (b1, b2)))), ((b3, (b4, (b5, (b6, b7)))), ((b8, b9), ())))) v.1.2.2.1 v.1.2.2.2.1 v.1.2.2.2.2 v.2.1.1 v.2.1.2.1 v.2.1.2.2.1 v.2.1.2.2.2.1 v.2.1.2.2.2.2 v.2.2.1.1 v.2.2.1.2) n (((), ((), (b0, (b1, b2)))), ((b3, (b4, (b5, (b6, b7)))), ((b8, b9), ())))
theorem zln (N n : Nat) (b0 : List Int) (b1 : Int) (b2 : Int) (b3 : List Z0) (b4 : (List (List UInt8))) (b5 : List Int) (b6 : List Z4) (b7 : List Z2) (b8 : List UInt8) (b9 : List UInt8) : z9k N (n + 1) b0 b1 b2 b3 b4 b5 b6 b7 b8 b9 = z80 N (fun b0  b1  b2  b3  b4  b5  b6  b7  b8  b9  => z9k N n b0 b1 b2 b3 b4 b5 b6 b7 b8 b9) b0 b1 b2 b3 b4 b5 b6 b7 b8 b9 := rfl
abbrev zd3 := Option ((Bool × Unit) ⊕ ((Unit × Unit) × (((List Z0) × ((List (List UInt8)) × ((List Int) × ((List Z4) × (List Z2))))) × (((List UInt8) × (List UInt8)) × Unit))))
def y9n (N : Nat) (rec : (List UInt8) → (List (List UInt8)) → Int → Int → (List Z0) → (List (List UInt8)) → (List Int) → (List Z4) → (List Z2) → (List UInt8) → (List UInt8) → zd3) (b0 : List UInt8) (b1 : (List (List UInt8))) (b2 : Int) (b3 : Int) (b4 : List Z0) (b5 : (List (List UInt8))) (b6 : List Int) (b7 : List Z4) (b8 : List Z2) (b9 : List UInt8) (b10 : List UInt8) : zd3 :=
  bif (decide (b3 < b2)) then
  (gd (inB b3 (List.length b1))
  (let x8 := (lts (rdL b1 b3 ([] : List UInt8)) b0 || eqs (rdL b1 b3 ([] : List UInt8)) b0)
  bif x8 then
  (some (.inl (false, ())))
  else
  (bif (!(eqs b10 ([] : List UInt8))) then
  (bif (!(lts (rdL b1 b3 ([] : List UInt8)) b10)) then
  (some (.inl (false, ())))
  else
  (rec (rdL b1 b3 ([] : List UInt8)) b1 b2 (IntKind.wrap .i64 (b3 + (1 : Int))) b4 b5 b6 b7 b8 b9 b10))
  else
  (rec (rdL b1 b3 ([] : List UInt8)) b1 b2 (IntKind.wrap .i64 (b3 + (1 : Int))) b4 b5 b6 b7 b8 b9 b10))))
  else
  (some (.inr (((), ()), ((b4, (b5, (b6, (b7, b8)))), ((b9, b10), ())))))
def y7m (N n : Nat) (b0 : List UInt8) (b1 : (List (List UInt8))) (b2 : Int) (b3 : Int) (b4 : List Z0) (b5 : (List (List UInt8))) (b6 : List Int) (b7 : List Z4) (b8 : List Z2) (b9 : List UInt8) (b10 : List UInt8) : zd3 :=
  iter (fun (rec : ((Unit × (Unit × ((List UInt8) × ((List (List UInt8)) × (Int × Int))))) × (((List Z0) × ((List (List UInt8)) × ((List Int) × ((List Z4) × (List Z2))))) × (((List UInt8) × (List UInt8)) × Unit))) → zd3) v => y9n N (fun b0 b1 b2 b3 b4 b5 b6 b7 b8 b9 b10 => rec (((), ((), (b0, (b1, (b2, b3))))), ((b4, (b5, (b6, (b7, b8)))), ((b9, b10), ())))) v.1.2.2.1 v.1.2.2.2.1 v.1.2.2.2.2.1 v.1.2.2.2.2.2 v.2.1.1 v.2.1.2.1 v.2.1.2.2.1 v.2.1.2.2.2.1 v.2.1.2.2.2.2 v.2.2.1.1 v.2.2.1.2) n (((), ((), (b0, (b1, (b2, b3))))), ((b4, (b5, (b6, (b7, b8)))), ((b9, b10), ())))
def y7l (N : Nat) (b0 : List Z0) (b1 : (List (List UInt8))) (b2 : List Int) (b3 : List Z4) (b4 : List Z2) (b5 : List UInt8) (b6 : List UInt8) : Option ((Bool × Unit)) :=
  match y7m N N b5 b1 (List.length b1 : Int) (0 : Int) b0 b1 b2 b3 b4 b5 b6 with
  | some r9 => (match r9 with
  | .inl r10 => (some (r10.1, ()))
  | .inr r11 => (match z9k N N r11.2.1.2.2.1 (List.length r11.2.1.2.2.1 : Int) (0 : Int) r11.2.1.1 r11.2.1.2.1 r11.2.1.2.2.1 r11.2.1.2.2.2.1 r11.2.1.2.2.2.2 r11.2.2.1.1 r11.2.2.1.2 with
  | some r14 => (match r14 with
  | .inl r15 => (some (r15.1, ()))
  | .inr r16 => (match K0 N r16.2.1.2.2.2.2 r16.2.2.1.1 r16.2.2.1.2 with
  | some r17 => (some ((!r17), ()))
  | none => none))
  | none => none))
  | none => none
def zba (N : Nat) (a0 : z4u) (a1 : Z7) : Option (Bool) :=
  bif (eqi (List.length a0.2.2.1 : Int) (0 : Int)) then
  (let x1 := (IntKind.wrap .i64 ((List.length a0.2.1 : Int) + (List.length a0.2.2.2.1 : Int)))
  let x2 := (IntKind.wrap .i64 (x1 + (List.length a0.2.2.2.2 : Int)))
  bif (eqi x2 (0 : Int)) then
  (match zq0 N a0.1 with
  | some r3 => (bif r3 then
  (match y5 N a0.1 a1.1 a1.2 with
  | some r4 => (some (!r4))
  | none => none)
  else
  (some false))
  | none => none)
  else
  (some false))
  else
  (let x5 := (decide ((0 : Int) < (List.length a0.1 : Int)))
  bif x5 then
  (some false)
  else
  (let x6 := (!(eqi (List.length a0.2.2.2.1 : Int) (List.length a0.2.2.1 : Int)))
  bif x6 then
  (some false)
  else
  (let x7 := (IntKind.wrap .i64 ((List.length a0.2.2.1 : Int) - (1 : Int)))
  bif (!(eqi (List.length a0.2.1 : Int) x7)) then
  (some false)
  else
  (match y7l N a0.1 a0.2.1 a0.2.2.1 a0.2.2.2.1 a0.2.2.2.2 a1.1 a1.2 with
  | some r18 => (some r18.1)
  | none => none))))
def zx9 (N : Nat) (rec : Int → Int → (List Int) → Option ((Unit × ((List Int) × Unit)))) (b0 : Int) (b1 : Int) (b2 : List Int) : Option ((Unit × ((List Int) × Unit))) :=
  bif (decide ((0 : Int) ≤ b1)) then
  (gd (decide (0 ≤ (IntKind.wrap .i64 ((8 : Int) * b1))))
  (let x1 := (Int.fdiv b0 (2 ^ min (Int.toNat (IntKind.wrap .i64 ((8 : Int) * b1))) (IntKind.bits .i64)))
  gd (fits (List.length b2 + 1) 1)
  (let x2 := (@HAppend.hAppend (List Int) (List Int) (List Int) _ b2 ([(IntKind.wrap .u8 (x1))] : List Int))
  rec b0 (IntKind.wrap .i64 (b1 - (1 : Int))) x2)))
  else
  (some ((), (b2, ())))
def zsc (N n : Nat) (b0 : Int) (b1 : Int) (b2 : List Int) : Option ((Unit × ((List Int) × Unit))) :=
  iter (fun (rec : ((Unit × (Int × Int)) × ((List Int) × Unit)) → Option ((Unit × ((List Int) × Unit)))) v => zx9 N (fun b0 b1 b2 => rec (((), (b0, b1)), (b2, ()))) v.1.2.1 v.1.2.2 v.2.1) n (((), (b0, b1)), (b2, ()))
def z4y (N : Nat) (a0 : Int) (a1 : Int) (a2 : List Int) : Option ((Unit × ((List Int) × Unit))) :=
  match zsc N N a0 (IntKind.wrap .i64 (a1 - (1 : Int))) a2 with
  | some r3 => (some ((), (r3.2.1, ())))
  | none => none
def zqa (N : Nat) (a0 : List UInt8) (a1 : List Int) : Option ((Unit × ((List Int) × Unit))) :=
  match z4y N (List.length a0 : Int) (2 : Int) a1 with
  | some r1 => (gd (fits (List.length r1.2.1 + List.length (K7 a0)) 1)
  (let x2 := (@HAppend.hAppend (List Int) (List Int) (List Int) _ r1.2.1 (K7 a0))
  some ((), (x2, ()))))
  | none => none
abbrev z3b := Option ((Unit × (Unit × ((List Int) × Unit))))
def zk0 (N : Nat) (rec : Int → Int → (List Int) → z3b) (b0 : Int) (b1 : Int) (b2 : List Int) : z3b :=
  bif (decide ((0 : Int) ≤ b1)) then
  (gd (decide (0 ≤ (IntKind.wrap .i64 ((8 : Int) * b1))))
  (let x1 := (Int.fdiv b0 (2 ^ min (Int.toNat (IntKind.wrap .i64 ((8 : Int) * b1))) (IntKind.bits .i64)))
  gd (fits (List.length b2 + 1) 1)
  (let x2 := (@HAppend.hAppend (List Int) (List Int) (List Int) _ b2 ([(IntKind.wrap .u8 (x1))] : List Int))
  rec b0 (IntKind.wrap .i64 (b1 - (1 : Int))) x2)))
  else
  (some ((), ((), (b2, ()))))
def zei (N n : Nat) (b0 : Int) (b1 : Int) (b2 : List Int) : z3b :=
  iter (fun (rec : ((Unit × (Int × Int)) × (Unit × ((List Int) × Unit))) → z3b) v => zk0 N (fun b0 b1 b2 => rec (((), (b0, b1)), ((), (b2, ())))) v.1.2.1 v.1.2.2 v.2.2.1) n (((), (b0, b1)), ((), (b2, ())))
def z6s (N : Nat) (a0 : Int) (a1 : Int) (a2 : List Int) : Option ((Unit × (Unit × ((List Int) × Unit)))) :=
  match zei N N a0 (IntKind.wrap .i64 (a1 - (1 : Int))) a2 with
  | some r3 => (some ((), ((), (r3.2.2.1, ()))))
  | none => none
def z0q (N : Nat) (a0 : List UInt8) (a1 : List Int) : Option ((Unit × (Unit × ((List Int) × Unit)))) :=
  match z6s N (List.length a0 : Int) (2 : Int) a1 with
  | some r1 => (gd (fits (List.length r1.2.2.1 + List.length (K7 a0)) 1)
  (let x2 := (@HAppend.hAppend (List Int) (List Int) (List Int) _ r1.2.2.1 (K7 a0))
  some ((), ((), (x2, ())))))
  | none => none
def zvs (N : Nat) (a0 : Z2) (a1 : List Int) : Option ((Unit × (Unit × ((List Int) × Unit)))) :=
  match z0q N a0.2.1 a1 with
  | some r1 => (match z0q N a0.2.2.1 r1.2.2.1 with
  | some r2 => (match z6s N a0.2.2.2.2.2.2 (4 : Int) r2.2.2.1 with
  | some r3 => (some ((), ((), (r3.2.2.1, ()))))
  | none => none)
  | none => none)
  | none => none
def zvt (N : Nat) (a0 : Z2) (a1 : List Int) : Option ((Unit × (Unit × ((List Int) × Unit)))) :=
  match z0q N a0.2.1 a1 with
  | some r1 => (some ((), ((), (r1.2.2.1, ()))))
  | none => none
def zge (N : Nat) (a0 : Z2) (a1 : List Int) : Option ((Unit × (Unit × ((List Int) × Unit)))) :=
  match z0q N a0.2.2.2.1.1 a1 with
  | some r1 => (match z0q N a0.2.2.2.1.2 r1.2.2.1 with
  | some r2 => (some ((), ((), (r2.2.2.1, ()))))
  | none => none)
  | none => none
def zgd (N : Nat) (a0 : Z2) (a1 : List Int) : Option ((Unit × (Unit × ((List Int) × Unit)))) :=
  match z0q N a0.2.2.2.2.1 a1 with
  | some r1 => (match z0q N a0.2.2.2.2.2.1 r1.2.2.1 with
  | some r2 => (some ((), ((), (r2.2.2.1, ()))))
  | none => none)
  | none => none
def zoe (N : Nat) (a0 : Z2) (a1 : List Int) : Option ((Unit × (Unit × ((List Int) × Unit)))) :=
  match zgd N a0 a1 with
  | some r1 => (some ((), ((), (r1.2.2.1, ()))))
  | none => none
def zoc (N : Nat) (a0 : Z2) (a1 : List Int) : Option ((Unit × (Unit × ((List Int) × Unit)))) :=
  match zge N a0 a1 with
  | some r1 => (match z6s N a0.2.2.2.2.2.2 (4 : Int) r1.2.2.1 with
  | some r2 => (some ((), ((), (r2.2.2.1, ()))))
  | none => none)
  | none => none
def yyv (N : Nat) (a0 : Z2) : Option ((List Int)) :=
  match y71 N a0 with
  | some r1 => (bif (!r1) then
  (some ([] : List Int))
  else
  (match zk2 N a0 with
  | some r2 => (match r2 with
  | .inl r3 => (match zvs N r3 ([(IntKind.wrap .u8 (a0.1))] : List Int) with
  | some r5 => (some r5.2.2.1)
  | none => none)
  | .inr r4 => (match r4 with
  | .inl r6 => (match zvt N r6 ([(IntKind.wrap .u8 (a0.1))] : List Int) with
  | some r8 => (some r8.2.2.1)
  | none => none)
  | .inr r7 => (match r7 with
  | .inl r9 => (match zge N r9 ([(IntKind.wrap .u8 (a0.1))] : List Int) with
  | some r11 => (some r11.2.2.1)
  | none => none)
  | .inr r10 => (match r10 with
  | .inl r12 => (match zgd N r12 ([(IntKind.wrap .u8 (a0.1))] : List Int) with
  | some r14 => (some r14.2.2.1)
  | none => none)
  | .inr r13 => (match r13 with
  | .inl r15 => (match zoe N r15 ([(IntKind.wrap .u8 (a0.1))] : List Int) with
  | some r17 => (some r17.2.2.1)
  | none => none)
  | .inr r16 => (match r16 with
  | .inl r18 => (match zoc N r18 ([(IntKind.wrap .u8 (a0.1))] : List Int) with
  | some r20 => (some r20.2.2.1)
  | none => none)
  | .inr r19 => (none)))))))
  | none => none))
  | none => none
abbrev zd4 := Option (((Unit × (Unit × ((List Z4) × (Int × Int)))) × (((List Z0) × ((List (List UInt8)) × ((List Int) × ((List Z4) × (List Z2))))) × ((List Int) × Unit))))
def y9p (N : Nat) (rec : (List Z4) → Int → Int → Int → Int → (List Z0) → (List (List UInt8)) → (List Int) → (List Z4) → (List Z2) → (List Int) → (List Int) → zd4) (b0 : List Z4) (b1 : Int) (b2 : Int) (b3 : Int) (b4 : Int) (b5 : List Z0) (b6 : (List (List UInt8))) (b7 : List Int) (b8 : List Z4) (b9 : List Z2) (b10 : List Int) (b11 : List Int) : zd4 :=
  bif (decide (b4 < b3)) then
  (gd (inB b4 (List.length b11))
  (match z4y N (rdL b11 b4 (0 : Int)) (8 : Int) b10 with
  | some r13 => (rec b0 b1 b2 b3 (IntKind.wrap .i64 (b4 + (1 : Int))) b5 b6 b7 b8 b9 r13.2.1 b11)
  | none => none))
  else
  (some (((), ((), (b0, (b1, b2)))), ((b5, (b6, (b7, (b8, b9)))), (b10, ()))))
def y7q (N n : Nat) (b0 : List Z4) (b1 : Int) (b2 : Int) (b3 : Int) (b4 : Int) (b5 : List Z0) (b6 : (List (List UInt8))) (b7 : List Int) (b8 : List Z4) (b9 : List Z2) (b10 : List Int) (b11 : List Int) : zd4 :=
  iter (fun (rec : ((Unit × (Unit × ((List Z4) × (Int × (Int × (Unit × (Int × Int))))))) × (((List Z0) × ((List (List UInt8)) × ((List Int) × ((List Z4) × (List Z2))))) × ((List Int) × ((List Int) × Unit)))) → zd4) v => y9p N (fun b0 b1 b2 b3 b4 b5 b6 b7 b8 b9 b10 b11 => rec (((), ((), (b0, (b1, (b2, ((), (b3, b4))))))), ((b5, (b6, (b7, (b8, b9)))), (b10, (b11, ()))))) v.1.2.2.1 v.1.2.2.2.1 v.1.2.2.2.2.1 v.1.2.2.2.2.2.2.1 v.1.2.2.2.2.2.2.2 v.2.1.1 v.2.1.2.1 v.2.1.2.2.1 v.2.1.2.2.2.1 v.2.1.2.2.2.2 v.2.2.1 v.2.2.2.1) n (((), ((), (b0, (b1, (b2, ((), (b3, b4))))))), ((b5, (b6, (b7, (b8, b9)))), (b10, (b11, ()))))
def y9q (N : Nat) (rec : (List Z2) → Int → Int → (List Int) → Option ((Unit × ((List Int) × Unit)))) (b0 : List Z2) (b1 : Int) (b2 : Int) (b3 : List Int) : Option ((Unit × ((List Int) × Unit))) :=
  bif (decide (b2 < b1)) then
  (gd (inB b2 (List.length b0))
  (match yyv N (rdL b0 b2 Y6) with
  | some r18 => (gd (fits (List.length b3 + List.length r18) 1)
  (let x19 := (@HAppend.hAppend (List Int) (List Int) (List Int) _ b3 r18)
  rec b0 b1 (IntKind.wrap .i64 (b2 + (1 : Int))) x19))
  | none => none))
  else
  (some ((), (b3, ())))
def y7r (N n : Nat) (b0 : List Z2) (b1 : Int) (b2 : Int) (b3 : List Int) : Option ((Unit × ((List Int) × Unit))) :=
  iter (fun (rec : ((Unit × ((List Z2) × (Int × Int))) × ((List Int) × Unit)) → Option ((Unit × ((List Int) × Unit)))) v => y9q N (fun b0 b1 b2 b3 => rec (((), (b0, (b1, b2))), (b3, ()))) v.1.2.1 v.1.2.2.1 v.1.2.2.2 v.2.1) n (((), (b0, (b1, b2))), (b3, ()))
abbrev zd5 := Option (((Unit × Unit) × (((List Z0) × ((List (List UInt8)) × ((List Int) × ((List Z4) × (List Z2))))) × ((List Int) × Unit))))
def y9r (N : Nat) (rec : (List Z4) → Int → Int → (List Z0) → (List (List UInt8)) → (List Int) → (List Z4) → (List Z2) → (List Int) → zd5) (b0 : List Z4) (b1 : Int) (b2 : Int) (b3 : List Z0) (b4 : (List (List UInt8))) (b5 : List Int) (b6 : List Z4) (b7 : List Z2) (b8 : List Int) : zd5 :=
  bif (decide (b2 < b1)) then
  (gd (inB b2 (List.length b0))
  (let x12 := ([((rdL b0 b2 J4).1).1, ((rdL b0 b2 J4).1).2, ((rdL b0 b2 J4).2).1, ((rdL b0 b2 J4).2).2] : List Int)
  match y7q N N b0 b1 b2 (List.length x12 : Int) (0 : Int) b3 b4 b5 b6 b7 b8 x12 with
  | some r14 => (let x15 := (IntKind.wrap .i64 (r14.1.2.2.2.2 + (1 : Int)))
  rec r14.1.2.2.1 r14.1.2.2.2.1 x15 r14.2.1.1 r14.2.1.2.1 r14.2.1.2.2.1 r14.2.1.2.2.2.1 r14.2.1.2.2.2.2 r14.2.2.1)
  | none => none))
  else
  (some (((), ()), ((b3, (b4, (b5, (b6, b7)))), (b8, ()))))
def y7s (N n : Nat) (b0 : List Z4) (b1 : Int) (b2 : Int) (b3 : List Z0) (b4 : (List (List UInt8))) (b5 : List Int) (b6 : List Z4) (b7 : List Z2) (b8 : List Int) : zd5 :=
  iter (fun (rec : ((Unit × (Unit × ((List Z4) × (Int × Int)))) × (((List Z0) × ((List (List UInt8)) × ((List Int) × ((List Z4) × (List Z2))))) × ((List Int) × Unit))) → zd5) v => y9r N (fun b0 b1 b2 b3 b4 b5 b6 b7 b8 => rec (((), ((), (b0, (b1, b2)))), ((b3, (b4, (b5, (b6, b7)))), (b8, ())))) v.1.2.2.1 v.1.2.2.2.1 v.1.2.2.2.2 v.2.1.1 v.2.1.2.1 v.2.1.2.2.1 v.2.1.2.2.2.1 v.2.1.2.2.2.2 v.2.2.1) n (((), ((), (b0, (b1, b2)))), ((b3, (b4, (b5, (b6, b7)))), (b8, ())))
def y9s (N : Nat) (rec : (List Z0) → Int → Int → (List Int) → Option ((Unit × ((List Int) × Unit)))) (b0 : List Z0) (b1 : Int) (b2 : Int) (b3 : List Int) : Option ((Unit × ((List Int) × Unit))) :=
  bif (decide (b2 < b1)) then
  (gd (inB b2 (List.length b0))
  (match zqa N ((rdL b0 b2 X8).1) b3 with
  | some r3 => (match zqa N (((rdL b0 b2 X8).2).1) r3.2.1 with
  | some r4 => (match z4y N (((rdL b0 b2 X8).2).2) (4 : Int) r4.2.1 with
  | some r5 => (rec b0 b1 (IntKind.wrap .i64 (b2 + (1 : Int))) r5.2.1)
  | none => none)
  | none => none)
  | none => none))
  else
  (some ((), (b3, ())))
def y7t (N n : Nat) (b0 : List Z0) (b1 : Int) (b2 : Int) (b3 : List Int) : Option ((Unit × ((List Int) × Unit))) :=
  iter (fun (rec : ((Unit × ((List Z0) × (Int × Int))) × ((List Int) × Unit)) → Option ((Unit × ((List Int) × Unit)))) v => y9s N (fun b0 b1 b2 b3 => rec (((), (b0, (b1, b2))), (b3, ()))) v.1.2.1 v.1.2.2.1 v.1.2.2.2 v.2.1) n (((), (b0, (b1, b2))), (b3, ()))
abbrev zd6 := Option (((Unit × Unit) × (((List Z0) × ((List (List UInt8)) × ((List Int) × ((List Z4) × (List Z2))))) × ((List Int) × Unit))))
def y9t (N : Nat) (rec : (List (List UInt8)) → Int → Int → (List Z0) → (List (List UInt8)) → (List Int) → (List Z4) → (List Z2) → (List Int) → zd6) (b0 : (List (List UInt8))) (b1 : Int) (b2 : Int) (b3 : List Z0) (b4 : (List (List UInt8))) (b5 : List Int) (b6 : List Z4) (b7 : List Z2) (b8 : List Int) : zd6 :=
  bif (decide (b2 < b1)) then
  (gd (inB b2 (List.length b0))
  (match zqa N (rdL b0 b2 ([] : List UInt8)) b8 with
  | some r10 => (rec b0 b1 (IntKind.wrap .i64 (b2 + (1 : Int))) b3 b4 b5 b6 b7 r10.2.1)
  | none => none))
  else
  (some (((), ()), ((b3, (b4, (b5, (b6, b7)))), (b8, ()))))
def y7u (N n : Nat) (b0 : (List (List UInt8))) (b1 : Int) (b2 : Int) (b3 : List Z0) (b4 : (List (List UInt8))) (b5 : List Int) (b6 : List Z4) (b7 : List Z2) (b8 : List Int) : zd6 :=
  iter (fun (rec : ((Unit × (Unit × ((List (List UInt8)) × (Int × Int)))) × (((List Z0) × ((List (List UInt8)) × ((List Int) × ((List Z4) × (List Z2))))) × ((List Int) × Unit))) → zd6) v => y9t N (fun b0 b1 b2 b3 b4 b5 b6 b7 b8 => rec (((), ((), (b0, (b1, b2)))), ((b3, (b4, (b5, (b6, b7)))), (b8, ())))) v.1.2.2.1 v.1.2.2.2.1 v.1.2.2.2.2 v.2.1.1 v.2.1.2.1 v.2.1.2.2.1 v.2.1.2.2.2.1 v.2.1.2.2.2.2 v.2.2.1) n (((), ((), (b0, (b1, b2)))), ((b3, (b4, (b5, (b6, b7)))), (b8, ())))
abbrev zd7 := Option (((Unit × Unit) × (((List Z0) × ((List (List UInt8)) × ((List Int) × ((List Z4) × (List Z2))))) × ((List Int) × Unit))))
def y9u (N : Nat) (rec : (List Int) → Int → Int → (List Z0) → (List (List UInt8)) → (List Int) → (List Z4) → (List Z2) → (List Int) → zd7) (b0 : List Int) (b1 : Int) (b2 : Int) (b3 : List Z0) (b4 : (List (List UInt8))) (b5 : List Int) (b6 : List Z4) (b7 : List Z2) (b8 : List Int) : zd7 :=
  bif (decide (b2 < b1)) then
  (gd (inB b2 (List.length b0))
  (match z4y N (rdL b0 b2 (0 : Int)) (4 : Int) b8 with
  | some r8 => (rec b0 b1 (IntKind.wrap .i64 (b2 + (1 : Int))) b3 b4 b5 b6 b7 r8.2.1)
  | none => none))
  else
  (some (((), ()), ((b3, (b4, (b5, (b6, b7)))), (b8, ()))))
def y7v (N n : Nat) (b0 : List Int) (b1 : Int) (b2 : Int) (b3 : List Z0) (b4 : (List (List UInt8))) (b5 : List Int) (b6 : List Z4) (b7 : List Z2) (b8 : List Int) : zd7 :=
  iter (fun (rec : ((Unit × (Unit × ((List Int) × (Int × Int)))) × (((List Z0) × ((List (List UInt8)) × ((List Int) × ((List Z4) × (List Z2))))) × ((List Int) × Unit))) → zd7) v => y9u N (fun b0 b1 b2 b3 b4 b5 b6 b7 b8 => rec (((), ((), (b0, (b1, b2)))), ((b3, (b4, (b5, (b6, b7)))), (b8, ())))) v.1.2.2.1 v.1.2.2.2.1 v.1.2.2.2.2 v.2.1.1 v.2.1.2.1 v.2.1.2.2.1 v.2.1.2.2.2.1 v.2.1.2.2.2.2 v.2.2.1) n (((), ((), (b0, (b1, b2)))), ((b3, (b4, (b5, (b6, b7)))), (b8, ())))
def znc (N : Nat) (a0 : z4u) : Option ((List Int)) :=
  match zba N a0 (([] : List UInt8), ([] : List UInt8)) with
  | some r1 => (bif (!r1) then
  (some ([] : List Int))
  else
  (bif (eqi (List.length a0.2.2.1 : Int) (0 : Int)) then
  (match z4y N (List.length a0.1 : Int) (4 : Int) ([(76 : Int)] : List Int) with
  | some r2 => (match y7t N N a0.1 (List.length a0.1 : Int) (0 : Int) r2.2.1 with
  | some r6 => (some r6.2.1)
  | none => none)
  | none => none)
  else
  (match z4y N (List.length a0.2.2.1 : Int) (4 : Int) ([(78 : Int)] : List Int) with
  | some r7 => (match y7v N N a0.2.2.1 (List.length a0.2.2.1 : Int) (0 : Int) a0.1 a0.2.1 a0.2.2.1 a0.2.2.2.1 a0.2.2.2.2 r7.2.1 with
  | some r9 => (match y7u N N r9.2.1.2.1 (List.length r9.2.1.2.1 : Int) (0 : Int) r9.2.1.1 r9.2.1.2.1 r9.2.1.2.2.1 r9.2.1.2.2.2.1 r9.2.1.2.2.2.2 r9.2.2.1 with
  | some r11 => (match y7s N N r11.2.1.2.2.2.1 (List.length r11.2.1.2.2.2.1 : Int) (0 : Int) r11.2.1.1 r11.2.1.2.1 r11.2.1.2.2.1 r11.2.1.2.2.2.1 r11.2.1.2.2.2.2 r11.2.2.1 with
  | some r16 => (match z4y N (List.length r16.2.1.2.2.2.2 : Int) (4 : Int) r16.2.2.1 with
  | some r17 => (match y7r N N r16.2.1.2.2.2.2 (List.length r16.2.1.2.2.2.2 : Int) (0 : Int) r17.2.1 with
  | some r20 => (some r20.2.1)
  | none => none)
  | none => none)
  | none => none)
  | none => none)
  | none => none)
  | none => none)))
  | none => none
def zca (N : Nat) (rec : (List Int) → (List Int) → Int → Int → Option ((Bool × Unit) ⊕ (Unit × Unit))) (b0 : List Int) (b1 : List Int) (b2 : Int) (b3 : Int) : Option ((Bool × Unit) ⊕ (Unit × Unit)) :=
  bif (decide (b3 < b2)) then
  (gd (inB b3 (List.length b0))
  (gd (inB b3 (List.length b1))
  (let x2 := (!(eqi (rdL b0 b3 (0 : Int)) (rdL b1 b3 (0 : Int))))
  bif x2 then
  (some (.inl (false, ())))
  else
  (rec b0 b1 b2 (IntKind.wrap .i64 (b3 + (1 : Int)))))))
  else
  (some (.inr ((), ())))
def z7n (N n : Nat) (b0 : List Int) (b1 : List Int) (b2 : Int) (b3 : Int) : Option ((Bool × Unit) ⊕ (Unit × Unit)) :=
  iter (fun (rec : (((List Int) × ((List Int) × (Int × Int))) × Unit) → Option ((Bool × Unit) ⊕ (Unit × Unit))) v => zca N (fun b0 b1 b2 b3 => rec ((b0, (b1, (b2, b3))), ())) v.1.1 v.1.2.1 v.1.2.2.1 v.1.2.2.2) n ((b0, (b1, (b2, b3))), ())
def za1 (N : Nat) (a0 : List Int) (a1 : List Int) : Option (Bool) :=
  let x1 := (!(eqi (List.length a0 : Int) (List.length a1 : Int)))
  bif x1 then
  (some false)
  else
  (match z7n N N a0 a1 (List.length a0 : Int) (0 : Int) with
  | some r3 => (match r3 with
  | .inl r4 => (some r4.1)
  | .inr r5 => (some true))
  | none => none)
abbrev J0 := Option ((Unit × ((List Int) × (((List Int) × Bool) × Unit))))
def z89 (N : Nat) (rec : Int → (List Int) → Bool → (List Int) → J0) (b0 : Int) (b1 : List Int) (b2 : Bool) (b3 : List Int) : J0 :=
  bif (decide ((List.length b3 : Int) < b0)) then
  (bif b2 then
  (match z38 N b1 b2 with
  | some r1 => (gd (fits (List.length b3 + 1) 8)
  (let x2 := (@HAppend.hAppend (List Int) (List Int) (List Int) _ b3 ([r1.1] : List Int))
  rec b0 r1.2.1.1 r1.2.1.2 x2))
  | none => none)
  else
  (some ((), (b3, ((b1, b2), ())))))
  else
  (some ((), (b3, ((b1, b2), ()))))
def z4f (N n : Nat) (b0 : Int) (b1 : List Int) (b2 : Bool) (b3 : List Int) : J0 :=
  iter (fun (rec : ((Unit × (Int × (Unit × Unit))) × (((List Int) × Bool) × ((List Int) × Unit))) → J0) v => z89 N (fun b0 b1 b2 b3 => rec (((), (b0, ((), ()))), ((b1, b2), (b3, ())))) v.1.2.1 v.2.1.1 v.2.1.2 v.2.2.1) n (((), (b0, ((), ()))), ((b1, b2), (b3, ())))
def z56 (N : Nat) (a0 : Int) (a1 : List Int) (a2 : Bool) : Option ((Unit × ((List Int) × (((List Int) × Bool) × Unit)))) :=
  match z4f N N a0 a1 a2 ([] : List Int) with
  | some r3 => (some ((), (r3.2.1, ((r3.2.2.1.1, r3.2.2.1.2), ()))))
  | none => none
abbrev K1 := Option ((Unit × ((List (List UInt8)) × (((List Int) × Bool) × Unit))))
def z6e (N : Nat) (rec : Int → (List Int) → Bool → (List (List UInt8)) → K1) (b0 : Int) (b1 : List Int) (b2 : Bool) (b3 : (List (List UInt8))) : K1 :=
  bif (decide ((List.length b3 : Int) < b0)) then
  (bif b2 then
  (match z7z N b1 b2 with
  | some r1 => (gd (fits (List.length b3 + 1) 16)
  (let x2 := (@HAppend.hAppend (List (List UInt8)) (List (List UInt8)) (List (List UInt8)) _ b3 ([r1.1] : List (List UInt8)))
  rec b0 r1.2.1.1 r1.2.1.2 x2))
  | none => none)
  else
  (some ((), (b3, ((b1, b2), ())))))
  else
  (some ((), (b3, ((b1, b2), ()))))
def z30 (N n : Nat) (b0 : Int) (b1 : List Int) (b2 : Bool) (b3 : (List (List UInt8))) : K1 :=
  iter (fun (rec : ((Unit × (Int × (Unit × Unit))) × (((List Int) × Bool) × ((List (List UInt8)) × Unit))) → K1) v => z6e N (fun b0 b1 b2 b3 => rec (((), (b0, ((), ()))), ((b1, b2), (b3, ())))) v.1.2.1 v.2.1.1 v.2.1.2 v.2.2.1) n (((), (b0, ((), ()))), ((b1, b2), (b3, ())))
def z4e (N : Nat) (a0 : Int) (a1 : List Int) (a2 : Bool) : Option ((Unit × ((List (List UInt8)) × (((List Int) × Bool) × Unit)))) :=
  match z30 N N a0 a1 a2 ([] : List (List UInt8)) with
  | some r3 => (some ((), (r3.2.1, ((r3.2.2.1.1, r3.2.2.1.2), ()))))
  | none => none
def zby (N : Nat) (a0 : List Int) (a1 : Bool) : Option ((Int × (((List Int) × Bool) × Unit))) :=
  match z3p N (8 : Int) a0 a1 with
  | some r1 => (some (r1.1, ((r1.2.1.1, r1.2.1.2), ())))
  | none => none
def za5 (N : Nat) (a0 : List Int) (a1 : Bool) : Option (((Int × Int) × (((List Int) × Bool) × Unit))) :=
  match zby N a0 a1 with
  | some r1 => (match zby N r1.2.1.1 r1.2.1.2 with
  | some r2 => (some ((r1.1, r2.1), ((r2.2.1.1, r2.2.1.2), ())))
  | none => none)
  | none => none
def zoa (N : Nat) (a0 : List Int) (a1 : Bool) : Option (((Int × (Int × (Int × Int))) × (((List Int) × Bool) × Unit))) :=
  match za5 N a0 a1 with
  | some r1 => (match za5 N r1.2.1.1 r1.2.1.2 with
  | some r2 => (some ((r1.1.1, (r1.1.2, (r2.1.1, r2.1.2))), ((r2.2.1.1, r2.2.1.2), ())))
  | none => none)
  | none => none
abbrev K2 := Option ((Unit × ((List Z4) × (((List Int) × Bool) × Unit))))
def z6f (N : Nat) (rec : Int → (List Int) → Bool → (List Z4) → K2) (b0 : Int) (b1 : List Int) (b2 : Bool) (b3 : List Z4) : K2 :=
  bif (decide ((List.length b3 : Int) < b0)) then
  (bif b2 then
  (match zoa N b1 b2 with
  | some r1 => (let x2 := ([((r1.1.1, r1.1.2.1), r1.1.2.2)] : List Z4)
  gd (fits (List.length b3 + List.length x2) 32)
  (let x3 := (@HAppend.hAppend (List Z4) (List Z4) (List Z4) _ b3 x2)
  rec b0 r1.2.1.1 r1.2.1.2 x3))
  | none => none)
  else
  (some ((), (b3, ((b1, b2), ())))))
  else
  (some ((), (b3, ((b1, b2), ()))))
def z31 (N n : Nat) (b0 : Int) (b1 : List Int) (b2 : Bool) (b3 : List Z4) : K2 :=
  iter (fun (rec : ((Unit × (Int × (Unit × Unit))) × (((List Int) × Bool) × ((List Z4) × Unit))) → K2) v => z6f N (fun b0 b1 b2 b3 => rec (((), (b0, ((), ()))), ((b1, b2), (b3, ())))) v.1.2.1 v.2.1.1 v.2.1.2 v.2.2.1) n (((), (b0, ((), ()))), ((b1, b2), (b3, ())))
def z4g (N : Nat) (a0 : Int) (a1 : List Int) (a2 : Bool) : Option ((Unit × ((List Z4) × (((List Int) × Bool) × Unit)))) :=
  match z31 N N a0 a1 a2 ([] : List Z4) with
  | some r4 => (some ((), (r4.2.1, ((r4.2.2.1.1, r4.2.2.1.2), ()))))
  | none => none
def zer (N : Nat) (a0 : Int) (a1 : List Int) (a2 : Bool) : Option (((List Int) × (((List Int) × Bool) × Unit))) :=
  bif (decide ((List.length a1 : Int) < a0)) then
  (some (([] : List Int), ((([] : List Int), true), ())))
  else
  (gd (decide (0 ≤ (0 : Int)) && (decide ((0 : Int) ≤ a0) && decide (a0 ≤ (List.length a1 : Int))))
  (gd (decide (0 ≤ a0) && (decide (a0 ≤ (List.length a1 : Int)) && decide ((List.length a1 : Int) ≤ (List.length a1 : Int))))
  (some ((cut2 a1 (0 : Int) a0), (((cut2 a1 a0 (List.length a1 : Int)), a2), ())))))
abbrev z3c := Option ((Int × (((List Int) × Bool) × Unit)))
def zk1 (N : Nat) (rec : Int → (List Int) → Int → Int → (List Int) → Bool → z3c) (b0 : Int) (b1 : List Int) (b2 : Int) (b3 : Int) (b4 : List Int) (b5 : Bool) : z3c :=
  bif (decide (b3 < b2)) then
  (gd (inB b3 (List.length b1))
  (gd (decide (0 ≤ (8 : Int)))
  (let x2 := (IntKind.wrap .i64 (b0 * 2 ^ min (Int.toNat (8 : Int)) (IntKind.bits .i64)))
  let x3 := (IntKind.wrap .i64 (((BitVec.ofInt (IntKind.bits .i64) x2 ||| BitVec.ofInt (IntKind.bits .i64) (IntKind.wrap .i64 ((rdL b1 b3 (0 : Int))))).toNat : Int)))
  rec x3 b1 b2 (IntKind.wrap .i64 (b3 + (1 : Int))) b4 b5)))
  else
  (some (b0, ((b4, b5), ())))
def zej (N n : Nat) (b0 : Int) (b1 : List Int) (b2 : Int) (b3 : Int) (b4 : List Int) (b5 : Bool) : z3c :=
  iter (fun (rec : ((Int × ((List Int) × (Int × Int))) × (((List Int) × Bool) × Unit)) → z3c) v => zk1 N (fun b0 b1 b2 b3 b4 b5 => rec ((b0, (b1, (b2, b3))), ((b4, b5), ()))) v.1.1 v.1.2.1 v.1.2.2.1 v.1.2.2.2 v.2.1.1 v.2.1.2) n ((b0, (b1, (b2, b3))), ((b4, b5), ()))
def z4k (N : Nat) (a0 : Int) (a1 : List Int) (a2 : Bool) : Option ((Int × (((List Int) × Bool) × Unit))) :=
  match zer N a0 a1 a2 with
  | some r1 => (match zej N N (0 : Int) r1.1 (List.length r1.1 : Int) (0 : Int) r1.2.1.1 r1.2.1.2 with
  | some r4 => (some (r4.1, ((r4.2.1.1, r4.2.1.2), ())))
  | none => none)
  | none => none
def K5 (N : Nat) (a0 : List Int) (a1 : Bool) : Option (((List UInt8) × (((List Int) × Bool) × Unit))) :=
  match z4k N (2 : Int) a0 a1 with
  | some r1 => (match zer N r1.1 r1.2.1.1 r1.2.1.2 with
  | some r2 => (some ((z39 r2.1), ((r2.2.1.1, r2.2.1.2), ())))
  | none => none)
  | none => none
def z62 (N : Nat) (b0 : List Int) (b1 : Int) (b2 : List UInt8) (b3 : List UInt8) (b4 : List UInt8) (b5 : List UInt8) (b6 : List UInt8) (b7 : List UInt8) (b8 : Int) (b9 : List Int) (b10 : Bool) (b11 : Int) (b12 : List UInt8) (b13 : List UInt8) (b14 : List UInt8) (b15 : List UInt8) (b16 : List UInt8) (b17 : List UInt8) (b18 : Int) : Option (((Unit × (Int × Int)) × ((Int × ((List UInt8) × ((List UInt8) × ((List UInt8) × ((List UInt8) × ((List UInt8) × ((List UInt8) × Int))))))) × Unit))) :=
  bif b10 then
  (some (((), ((0 : Int), (3 : Int))), (((0 : Int), (([] : List UInt8), (([] : List UInt8), (([] : List UInt8), (([] : List UInt8), (([] : List UInt8), (([] : List UInt8), (0 : Int)))))))), ())))
  else
  (match y71 N (b11, (b12, (b13, ((b14, b15), (b16, (b17, b18)))))) with
  | some r5 => (bif (!r5) then
  (some (((), ((0 : Int), (3 : Int))), (((0 : Int), (([] : List UInt8), (([] : List UInt8), (([] : List UInt8), (([] : List UInt8), (([] : List UInt8), (([] : List UInt8), (0 : Int)))))))), ())))
  else
  (let x6 := (IntKind.wrap .i64 ((List.length b0 : Int) - (List.length b9 : Int)))
  some (((), (x6, (0 : Int))), ((b11, (b12, (b13, (b14, (b15, (b16, (b17, b18))))))), ()))))
  | none => none)
def yyu (N : Nat) (a0 : List Int) : Option ((Z2 × (Int × Int))) :=
  match z4k N (1 : Int) a0 false with
  | some r1 => (bif (eqi r1.1 (1 : Int)) then
  (match K5 N r1.2.1.1 r1.2.1.2 with
  | some r2 => (match K5 N r2.2.1.1 r2.2.1.2 with
  | some r3 => (match z4k N (4 : Int) r3.2.1.1 r3.2.1.2 with
  | some r4 => (match z62 N a0 (0 : Int) ([] : List UInt8) ([] : List UInt8) ([] : List UInt8) ([] : List UInt8) ([] : List UInt8) ([] : List UInt8) (0 : Int) r4.2.1.1 r4.2.1.2 r1.1 r2.1 r3.1 ([] : List UInt8) ([] : List UInt8) ([] : List UInt8) ([] : List UInt8) r4.1 with
  | some r7 => (some ((r7.2.1.1, (r7.2.1.2.1, (r7.2.1.2.2.1, ((r7.2.1.2.2.2.1, r7.2.1.2.2.2.2.1), r7.2.1.2.2.2.2.2)))), (r7.1.2.1, r7.1.2.2)))
  | none => none)
  | none => none)
  | none => none)
  | none => none)
  else
  (bif (eqi r1.1 (2 : Int)) then
  (match K5 N r1.2.1.1 r1.2.1.2 with
  | some r8 => (match z62 N a0 (0 : Int) ([] : List UInt8) ([] : List UInt8) ([] : List UInt8) ([] : List UInt8) ([] : List UInt8) ([] : List UInt8) (0 : Int) r8.2.1.1 r8.2.1.2 r1.1 r8.1 ([] : List UInt8) ([] : List UInt8) ([] : List UInt8) ([] : List UInt8) ([] : List UInt8) (0 : Int) with
  | some r9 => (some ((r9.2.1.1, (r9.2.1.2.1, (r9.2.1.2.2.1, ((r9.2.1.2.2.2.1, r9.2.1.2.2.2.2.1), r9.2.1.2.2.2.2.2)))), (r9.1.2.1, r9.1.2.2)))
  | none => none)
  | none => none)
  else
  (bif (eqi r1.1 (3 : Int)) then
  (match K5 N r1.2.1.1 r1.2.1.2 with
  | some r10 => (match K5 N r10.2.1.1 r10.2.1.2 with
  | some r11 => (match z62 N a0 (0 : Int) ([] : List UInt8) ([] : List UInt8) ([] : List UInt8) ([] : List UInt8) ([] : List UInt8) ([] : List UInt8) (0 : Int) r11.2.1.1 r11.2.1.2 r1.1 ([] : List UInt8) ([] : List UInt8) r10.1 r11.1 ([] : List UInt8) ([] : List UInt8) (0 : Int) with
  | some r12 => (some ((r12.2.1.1, (r12.2.1.2.1, (r12.2.1.2.2.1, ((r12.2.1.2.2.2.1, r12.2.1.2.2.2.2.1), r12.2.1.2.2.2.2.2)))), (r12.1.2.1, r12.1.2.2)))
  | none => none)
  | none => none)
  | none => none)
  else
  (bif (eqi r1.1 (4 : Int)) then
  (match K5 N r1.2.1.1 r1.2.1.2 with
  | some r13 => (match K5 N r13.2.1.1 r13.2.1.2 with
  | some r14 => (match z62 N a0 (0 : Int) ([] : List UInt8) ([] : List UInt8) ([] : List UInt8) ([] : List UInt8) ([] : List UInt8) ([] : List UInt8) (0 : Int) r14.2.1.1 r14.2.1.2 r1.1 ([] : List UInt8) ([] : List UInt8) ([] : List UInt8) ([] : List UInt8) r13.1 r14.1 (0 : Int) with
  | some r15 => (some ((r15.2.1.1, (r15.2.1.2.1, (r15.2.1.2.2.1, ((r15.2.1.2.2.2.1, r15.2.1.2.2.2.2.1), r15.2.1.2.2.2.2.2)))), (r15.1.2.1, r15.1.2.2)))
  | none => none)
  | none => none)
  | none => none)
  else
  (bif (eqi r1.1 (5 : Int)) then
  (match K5 N r1.2.1.1 r1.2.1.2 with
  | some r16 => (match K5 N r16.2.1.1 r16.2.1.2 with
  | some r17 => (match z62 N a0 (0 : Int) ([] : List UInt8) ([] : List UInt8) ([] : List UInt8) ([] : List UInt8) ([] : List UInt8) ([] : List UInt8) (0 : Int) r17.2.1.1 r17.2.1.2 r1.1 ([] : List UInt8) ([] : List UInt8) ([] : List UInt8) ([] : List UInt8) r16.1 r17.1 (0 : Int) with
  | some r18 => (some ((r18.2.1.1, (r18.2.1.2.1, (r18.2.1.2.2.1, ((r18.2.1.2.2.2.1, r18.2.1.2.2.2.2.1), r18.2.1.2.2.2.2.2)))), (r18.1.2.1, r18.1.2.2)))
  | none => none)
  | none => none)
  | none => none)
  else
  (bif (eqi r1.1 (6 : Int)) then
  (match K5 N r1.2.1.1 r1.2.1.2 with
  | some r19 => (match K5 N r19.2.1.1 r19.2.1.2 with
  | some r20 => (match z4k N (4 : Int) r20.2.1.1 r20.2.1.2 with
  | some r21 => (match z62 N a0 (0 : Int) ([] : List UInt8) ([] : List UInt8) ([] : List UInt8) ([] : List UInt8) ([] : List UInt8) ([] : List UInt8) (0 : Int) r21.2.1.1 r21.2.1.2 r1.1 ([] : List UInt8) ([] : List UInt8) r19.1 r20.1 ([] : List UInt8) ([] : List UInt8) r21.1 with
  | some r22 => (some ((r22.2.1.1, (r22.2.1.2.1, (r22.2.1.2.2.1, ((r22.2.1.2.2.2.1, r22.2.1.2.2.2.2.1), r22.2.1.2.2.2.2.2)))), (r22.1.2.1, r22.1.2.2)))
  | none => none)
  | none => none)
  | none => none)
  | none => none)
  else
  (match z62 N a0 (0 : Int) ([] : List UInt8) ([] : List UInt8) ([] : List UInt8) ([] : List UInt8) ([] : List UInt8) ([] : List UInt8) (0 : Int) r1.2.1.1 r1.2.1.2 r1.1 ([] : List UInt8) ([] : List UInt8) ([] : List UInt8) ([] : List UInt8) ([] : List UInt8) ([] : List UInt8) (0 : Int) with
  | some r23 => (some ((r23.2.1.1, (r23.2.1.2.1, (r23.2.1.2.2.1, ((r23.2.1.2.2.2.1, r23.2.1.2.2.2.2.1), r23.2.1.2.2.2.2.2)))), (r23.1.2.1, r23.1.2.2)))
  | none => none)))))))
  | none => none
def zob (N : Nat) (a0 : List Int) (a1 : Bool) : Option (((Int × ((List UInt8) × ((List UInt8) × ((List UInt8) × ((List UInt8) × ((List UInt8) × ((List UInt8) × Int))))))) × (((List Int) × Bool) × Unit))) :=
  match yyu N a0 with
  | some r1 => (bif (!(eqi r1.2.2 (0 : Int))) then
  (match z52 N r1.2.1 a0 false with
  | some r2 => (some ((r1.1.1, (r1.1.2.1, (r1.1.2.2.1, (r1.1.2.2.2.1.1, (r1.1.2.2.2.1.2, (r1.1.2.2.2.2.1, (r1.1.2.2.2.2.2.1, r1.1.2.2.2.2.2.2))))))), ((r2.2.1.1, r2.2.1.2), ())))
  | none => none)
  else
  (match z52 N r1.2.1 a0 a1 with
  | some r3 => (some ((r1.1.1, (r1.1.2.1, (r1.1.2.2.1, (r1.1.2.2.2.1.1, (r1.1.2.2.2.1.2, (r1.1.2.2.2.2.1, (r1.1.2.2.2.2.2.1, r1.1.2.2.2.2.2.2))))))), ((r3.2.1.1, r3.2.1.2), ())))
  | none => none))
  | none => none
abbrev K3 := Option ((Unit × ((List Z2) × (((List Int) × Bool) × Unit))))
def z6g (N : Nat) (rec : Int → (List Int) → Bool → (List Z2) → K3) (b0 : Int) (b1 : List Int) (b2 : Bool) (b3 : List Z2) : K3 :=
  bif (decide ((List.length b3 : Int) < b0)) then
  (bif b2 then
  (match zob N b1 b2 with
  | some r1 => (let x2 := ([(r1.1.1, (r1.1.2.1, (r1.1.2.2.1, ((r1.1.2.2.2.1, r1.1.2.2.2.2.1), r1.1.2.2.2.2.2))))] : List Z2)
  gd (fits (List.length b3 + List.length x2) 112)
  (let x3 := (@HAppend.hAppend (List Z2) (List Z2) (List Z2) _ b3 x2)
  rec b0 r1.2.1.1 r1.2.1.2 x3))
  | none => none)
  else
  (some ((), (b3, ((b1, b2), ())))))
  else
  (some ((), (b3, ((b1, b2), ()))))
def z32 (N n : Nat) (b0 : Int) (b1 : List Int) (b2 : Bool) (b3 : List Z2) : K3 :=
  iter (fun (rec : ((Unit × (Int × (Unit × Unit))) × (((List Int) × Bool) × ((List Z2) × Unit))) → K3) v => z6g N (fun b0 b1 b2 b3 => rec (((), (b0, ((), ()))), ((b1, b2), (b3, ())))) v.1.2.1 v.2.1.1 v.2.1.2 v.2.2.1) n (((), (b0, ((), ()))), ((b1, b2), (b3, ())))
def z4h (N : Nat) (a0 : Int) (a1 : List Int) (a2 : Bool) : Option ((Unit × ((List Z2) × (((List Int) × Bool) × Unit)))) :=
  match z32 N N a0 a1 a2 ([] : List Z2) with
  | some r4 => (some ((), (r4.2.1, ((r4.2.2.1.1, r4.2.2.1.2), ()))))
  | none => none
def zhr (N : Nat) (b0 : List Int) (b1 : List Z0) (b2 : (List (List UInt8))) (b3 : List Int) (b4 : List Z4) (b5 : List Z2) (b6 : List Z0) (b7 : (List (List UInt8))) (b8 : List Int) (b9 : List Z4) (b10 : List Z2) (b11 : List Int) (b12 : Bool) : Option (((Unit × Int) × ((Unit × (Unit × (Unit × (Unit × Unit)))) × ((List Z0) × ((List (List UInt8)) × ((List Int) × ((List Z4) × ((List Z2) × Unit)))))))) :=
  bif (!b12) then
  (some (((), (100 : Int)), (((), ((), ((), ((), ())))), (([] : List Z0), (([] : List (List UInt8)), (([] : List Int), (([] : List Z4), (([] : List Z2), ()))))))))
  else
  (let x4 := (decide ((0 : Int) < (List.length b11 : Int)))
  bif x4 then
  (some (((), (100 : Int)), (((), ((), ((), ((), ())))), (([] : List Z0), (([] : List (List UInt8)), (([] : List Int), (([] : List Z4), (([] : List Z2), ()))))))))
  else
  (match znc N (b6, (b7, (b8, (b9, b10)))) with
  | some r5 => (match za1 N r5 b0 with
  | some r6 => (bif (!r6) then
  (some (((), (100 : Int)), (((), ((), ((), ((), ())))), (([] : List Z0), (([] : List (List UInt8)), (([] : List Int), (([] : List Z4), (([] : List Z2), ()))))))))
  else
  (some (((), (0 : Int)), (((), ((), ((), ((), ())))), (b6, (b7, (b8, (b9, (b10, ())))))))))
  | none => none)
  | none => none))
def yd3 (N : Nat) (a0 : List Int) : Option ((z4u × Int)) :=
  match z3p N (1 : Int) a0 true with
  | some r1 => (bif (eqi r1.1 (76 : Int)) then
  (match z38 N r1.2.1.1 r1.2.1.2 with
  | some r2 => (match z3i N r2.1 r2.2.1.1 r2.2.1.2 with
  | some r3 => (match zhr N a0 ([] : List Z0) ([] : List (List UInt8)) ([] : List Int) ([] : List Z4) ([] : List Z2) r3.2.1 ([] : List (List UInt8)) ([] : List Int) ([] : List Z4) ([] : List Z2) r3.2.2.1.1 r3.2.2.1.2 with
  | some r7 => (some ((r7.2.2.1, (r7.2.2.2.1, (r7.2.2.2.2.1, (r7.2.2.2.2.2.1, r7.2.2.2.2.2.2.1)))), r7.1.2))
  | none => none)
  | none => none)
  | none => none)
  else
  (bif (eqi r1.1 (78 : Int)) then
  (match z38 N r1.2.1.1 r1.2.1.2 with
  | some r8 => (match z56 N r8.1 r8.2.1.1 r8.2.1.2 with
  | some r9 => (match z4e N (IntKind.wrap .i64 (r8.1 - (1 : Int))) r9.2.2.1.1 r9.2.2.1.2 with
  | some r10 => (match z4g N r8.1 r10.2.2.1.1 r10.2.2.1.2 with
  | some r11 => (match z38 N r11.2.2.1.1 r11.2.2.1.2 with
  | some r12 => (match z4h N r12.1 r12.2.1.1 r12.2.1.2 with
  | some r13 => (match zhr N a0 ([] : List Z0) ([] : List (List UInt8)) ([] : List Int) ([] : List Z4) ([] : List Z2) ([] : List Z0) r10.2.1 r9.2.1 r11.2.1 r13.2.1 r13.2.2.1.1 r13.2.2.1.2 with
  | some r14 => (some ((r14.2.2.1, (r14.2.2.2.1, (r14.2.2.2.2.1, (r14.2.2.2.2.2.1, r14.2.2.2.2.2.2.1)))), r14.1.2))
  | none => none)
  | none => none)
  | none => none)
  | none => none)
  | none => none)
  | none => none)
  | none => none)
  else
  (match zhr N a0 ([] : List Z0) ([] : List (List UInt8)) ([] : List Int) ([] : List Z4) ([] : List Z2) ([] : List Z0) ([] : List (List UInt8)) ([] : List Int) ([] : List Z4) ([] : List Z2) r1.2.1.1 r1.2.1.2 with
  | some r15 => (some ((r15.2.2.1, (r15.2.2.2.1, (r15.2.2.2.2.1, (r15.2.2.2.2.2.1, r15.2.2.2.2.2.2.1)))), r15.1.2))
  | none => none)))
  | none => none
def zim (N : Nat) (a0 : List Int) (a1 : List Int) : Option (Bool) :=
  some (eqs (z39 a0) (z39 a1))
def y9k (N : Nat) (rec : (List Z0) → (List Z0) → Int → Option ((Bool × Unit) ⊕ (Unit × Unit))) (b0 : List Z0) (b1 : List Z0) (b2 : Int) : Option ((Bool × Unit) ⊕ (Unit × Unit)) :=
  bif (decide (b2 < (List.length b0 : Int))) then
  (gd (inB b2 (List.length b0))
  (gd (inB b2 (List.length b1))
  (let x2 := (!(eqs ((rdL b0 b2 X8).1) ((rdL b1 b2 X8).1) && (eqs (((rdL b0 b2 X8).2).1) (((rdL b1 b2 X8).2).1) && (eqi (((rdL b0 b2 X8).2).2) (((rdL b1 b2 X8).2).2) && true))))
  bif x2 then
  (some (.inl (false, ())))
  else
  (rec b0 b1 (IntKind.wrap .i64 (b2 + (1 : Int)))))))
  else
  (some (.inr ((), ())))
def y7h (N n : Nat) (b0 : List Z0) (b1 : List Z0) (b2 : Int) : Option ((Bool × Unit) ⊕ (Unit × Unit)) :=
  iter (fun (rec : (((List Z0) × ((List Z0) × Int)) × Unit) → Option ((Bool × Unit) ⊕ (Unit × Unit))) v => y9k N (fun b0 b1 b2 => rec ((b0, (b1, b2)), ())) v.1.1 v.1.2.1 v.1.2.2) n ((b0, (b1, b2)), ())
def yuf (N : Nat) (a0 : List Z0) (a1 : List Z0) : Option (Bool) :=
  let x1 := (!(eqi (List.length a0 : Int) (List.length a1 : Int)))
  bif x1 then
  (some false)
  else
  (match y7h N N a0 a1 (0 : Int) with
  | some r3 => (match r3 with
  | .inl r4 => (some r4.1)
  | .inr r5 => (some true))
  | none => none)
def zth (N : Nat) (rec : (List Z2) → (List Z2) → Int → Option ((Bool × Unit) ⊕ (Unit × Unit))) (b0 : List Z2) (b1 : List Z2) (b2 : Int) : Option ((Bool × Unit) ⊕ (Unit × Unit)) :=
  bif (decide (b2 < (List.length b0 : Int))) then
  (gd (inB b2 (List.length b0))
  (gd (inB b2 (List.length b1))
  (let x2 := (!(eqi ((rdL b0 b2 Y6).1) ((rdL b1 b2 Y6).1) && (eqs (((rdL b0 b2 Y6).2).1) (((rdL b1 b2 Y6).2).1) && (eqs ((((rdL b0 b2 Y6).2).2).1) ((((rdL b1 b2 Y6).2).2).1) && (eqs ((((((rdL b0 b2 Y6).2).2).2).1).1) ((((((rdL b1 b2 Y6).2).2).2).1).1) && (eqs ((((((rdL b0 b2 Y6).2).2).2).1).2) ((((((rdL b1 b2 Y6).2).2).2).1).2) && (eqs ((((((rdL b0 b2 Y6).2).2).2).2).1) ((((((rdL b1 b2 Y6).2).2).2).2).1) && (eqs (((((((rdL b0 b2 Y6).2).2).2).2).2).1) (((((((rdL b1 b2 Y6).2).2).2).2).2).1) && (eqi (((((((rdL b0 b2 Y6).2).2).2).2).2).2) (((((((rdL b1 b2 Y6).2).2).2).2).2).2) && true)))))))))
  bif x2 then
  (some (.inl (false, ())))
  else
  (rec b0 b1 (IntKind.wrap .i64 (b2 + (1 : Int)))))))
  else
  (some (.inr ((), ())))
def zo9 (N n : Nat) (b0 : List Z2) (b1 : List Z2) (b2 : Int) : Option ((Bool × Unit) ⊕ (Unit × Unit)) :=
  iter (fun (rec : (((List Z2) × ((List Z2) × Int)) × Unit) → Option ((Bool × Unit) ⊕ (Unit × Unit))) v => zth N (fun b0 b1 b2 => rec ((b0, (b1, b2)), ())) v.1.1 v.1.2.1 v.1.2.2) n ((b0, (b1, b2)), ())
def y28 (N : Nat) (a0 : List Z2) (a1 : List Z2) : Option (Bool) :=
  let x1 := (!(eqi (List.length a0 : Int) (List.length a1 : Int)))
  bif x1 then
  (some false)
  else
  (match zo9 N N a0 a1 (0 : Int) with
  | some r3 => (match r3 with
  | .inl r4 => (some r4.1)
  | .inr r5 => (some true))
  | none => none)
def y9h (N : Nat) (rec : Int → (List Z0) → (List (List UInt8)) → (List Int) → (List Z4) → (List Z2) → (List Z0) → (List (List UInt8)) → (List Int) → (List Z4) → (List Z2) → Option ((Bool × Unit) ⊕ (Unit × Unit))) (b0 : Int) (b1 : List Z0) (b2 : (List (List UInt8))) (b3 : List Int) (b4 : List Z4) (b5 : List Z2) (b6 : List Z0) (b7 : (List (List UInt8))) (b8 : List Int) (b9 : List Z4) (b10 : List Z2) : Option ((Bool × Unit) ⊕ (Unit × Unit)) :=
  bif (decide (b0 < (List.length b4 : Int))) then
  (gd (inB b0 (List.length b4))
  (gd (inB b0 (List.length b9))
  (let x13 := (!(eqi (((rdL b4 b0 J4).1).1) (((rdL b9 b0 J4).1).1) && (eqi (((rdL b4 b0 J4).1).2) (((rdL b9 b0 J4).1).2) && (eqi (((rdL b4 b0 J4).2).1) (((rdL b9 b0 J4).2).1) && (eqi (((rdL b4 b0 J4).2).2) (((rdL b9 b0 J4).2).2) && true)))))
  bif x13 then
  (some (.inl (false, ())))
  else
  (rec (IntKind.wrap .i64 (b0 + (1 : Int))) b1 b2 b3 b4 b5 b6 b7 b8 b9 b10))))
  else
  (some (.inr ((), ())))
def y7e (N n : Nat) (b0 : Int) (b1 : List Z0) (b2 : (List (List UInt8))) (b3 : List Int) (b4 : List Z4) (b5 : List Z2) (b6 : List Z0) (b7 : (List (List UInt8))) (b8 : List Int) (b9 : List Z4) (b10 : List Z2) : Option ((Bool × Unit) ⊕ (Unit × Unit)) :=
  iter (fun (rec : ((Unit × (Unit × Int)) × (((List Z0) × ((List (List UInt8)) × ((List Int) × ((List Z4) × (List Z2))))) × (((List Z0) × ((List (List UInt8)) × ((List Int) × ((List Z4) × (List Z2))))) × Unit))) → Option ((Bool × Unit) ⊕ (Unit × Unit))) v => y9h N (fun b0 b1 b2 b3 b4 b5 b6 b7 b8 b9 b10 => rec (((), ((), b0)), ((b1, (b2, (b3, (b4, b5)))), ((b6, (b7, (b8, (b9, b10)))), ())))) v.1.2.2 v.2.1.1 v.2.1.2.1 v.2.1.2.2.1 v.2.1.2.2.2.1 v.2.1.2.2.2.2 v.2.2.1.1 v.2.2.1.2.1 v.2.2.1.2.2.1 v.2.2.1.2.2.2.1 v.2.2.1.2.2.2.2) n (((), ((), b0)), ((b1, (b2, (b3, (b4, b5)))), ((b6, (b7, (b8, (b9, b10)))), ())))
abbrev zcw := Option ((Bool × Unit) ⊕ ((Unit × Unit) × (((List Z0) × ((List (List UInt8)) × ((List Int) × ((List Z4) × (List Z2))))) × (((List Z0) × ((List (List UInt8)) × ((List Int) × ((List Z4) × (List Z2))))) × Unit))))
def y9i (N : Nat) (rec : Int → (List Z0) → (List (List UInt8)) → (List Int) → (List Z4) → (List Z2) → (List Z0) → (List (List UInt8)) → (List Int) → (List Z4) → (List Z2) → zcw) (b0 : Int) (b1 : List Z0) (b2 : (List (List UInt8))) (b3 : List Int) (b4 : List Z4) (b5 : List Z2) (b6 : List Z0) (b7 : (List (List UInt8))) (b8 : List Int) (b9 : List Z4) (b10 : List Z2) : zcw :=
  bif (decide (b0 < (List.length b3 : Int))) then
  (gd (inB b0 (List.length b3))
  (gd (inB b0 (List.length b8))
  (let x9 := (!(eqi (rdL b3 b0 (0 : Int)) (rdL b8 b0 (0 : Int))))
  bif x9 then
  (some (.inl (false, ())))
  else
  (rec (IntKind.wrap .i64 (b0 + (1 : Int))) b1 b2 b3 b4 b5 b6 b7 b8 b9 b10))))
  else
  (some (.inr (((), ()), ((b1, (b2, (b3, (b4, b5)))), ((b6, (b7, (b8, (b9, b10)))), ())))))
def y7f (N n : Nat) (b0 : Int) (b1 : List Z0) (b2 : (List (List UInt8))) (b3 : List Int) (b4 : List Z4) (b5 : List Z2) (b6 : List Z0) (b7 : (List (List UInt8))) (b8 : List Int) (b9 : List Z4) (b10 : List Z2) : zcw :=
  iter (fun (rec : ((Unit × (Unit × Int)) × (((List Z0) × ((List (List UInt8)) × ((List Int) × ((List Z4) × (List Z2))))) × (((List Z0) × ((List (List UInt8)) × ((List Int) × ((List Z4) × (List Z2))))) × Unit))) → zcw) v => y9i N (fun b0 b1 b2 b3 b4 b5 b6 b7 b8 b9 b10 => rec (((), ((), b0)), ((b1, (b2, (b3, (b4, b5)))), ((b6, (b7, (b8, (b9, b10)))), ())))) v.1.2.2 v.2.1.1 v.2.1.2.1 v.2.1.2.2.1 v.2.1.2.2.2.1 v.2.1.2.2.2.2 v.2.2.1.1 v.2.2.1.2.1 v.2.2.1.2.2.1 v.2.2.1.2.2.2.1 v.2.2.1.2.2.2.2) n (((), ((), b0)), ((b1, (b2, (b3, (b4, b5)))), ((b6, (b7, (b8, (b9, b10)))), ())))
abbrev zcx := Option ((Bool × Unit) ⊕ ((Unit × Unit) × (((List Z0) × ((List (List UInt8)) × ((List Int) × ((List Z4) × (List Z2))))) × (((List Z0) × ((List (List UInt8)) × ((List Int) × ((List Z4) × (List Z2))))) × Unit))))
def y9j (N : Nat) (rec : Int → (List Z0) → (List (List UInt8)) → (List Int) → (List Z4) → (List Z2) → (List Z0) → (List (List UInt8)) → (List Int) → (List Z4) → (List Z2) → zcx) (b0 : Int) (b1 : List Z0) (b2 : (List (List UInt8))) (b3 : List Int) (b4 : List Z4) (b5 : List Z2) (b6 : List Z0) (b7 : (List (List UInt8))) (b8 : List Int) (b9 : List Z4) (b10 : List Z2) : zcx :=
  bif (decide (b0 < (List.length b2 : Int))) then
  (gd (inB b0 (List.length b2))
  (gd (inB b0 (List.length b7))
  (let x5 := (!(eqs (rdL b2 b0 ([] : List UInt8)) (rdL b7 b0 ([] : List UInt8))))
  bif x5 then
  (some (.inl (false, ())))
  else
  (rec (IntKind.wrap .i64 (b0 + (1 : Int))) b1 b2 b3 b4 b5 b6 b7 b8 b9 b10))))
  else
  (some (.inr (((), ()), ((b1, (b2, (b3, (b4, b5)))), ((b6, (b7, (b8, (b9, b10)))), ())))))
def y7g (N n : Nat) (b0 : Int) (b1 : List Z0) (b2 : (List (List UInt8))) (b3 : List Int) (b4 : List Z4) (b5 : List Z2) (b6 : List Z0) (b7 : (List (List UInt8))) (b8 : List Int) (b9 : List Z4) (b10 : List Z2) : zcx :=
  iter (fun (rec : ((Unit × (Unit × Int)) × (((List Z0) × ((List (List UInt8)) × ((List Int) × ((List Z4) × (List Z2))))) × (((List Z0) × ((List (List UInt8)) × ((List Int) × ((List Z4) × (List Z2))))) × Unit))) → zcx) v => y9j N (fun b0 b1 b2 b3 b4 b5 b6 b7 b8 b9 b10 => rec (((), ((), b0)), ((b1, (b2, (b3, (b4, b5)))), ((b6, (b7, (b8, (b9, b10)))), ())))) v.1.2.2 v.2.1.1 v.2.1.2.1 v.2.1.2.2.1 v.2.1.2.2.2.1 v.2.1.2.2.2.2 v.2.2.1.1 v.2.2.1.2.1 v.2.2.1.2.2.1 v.2.2.1.2.2.2.1 v.2.2.1.2.2.2.2) n (((), ((), b0)), ((b1, (b2, (b3, (b4, b5)))), ((b6, (b7, (b8, (b9, b10)))), ())))
def z9i (N : Nat) (b0 : Bool) (b1 : List Z0) (b2 : (List (List UInt8))) (b3 : List Int) (b4 : List Z4) (b5 : List Z2) (b6 : List Z0) (b7 : (List (List UInt8))) (b8 : List Int) (b9 : List Z4) (b10 : List Z2) : Option ((Bool × Unit) ⊕ ((Unit × Unit) × (((List Z0) × ((List (List UInt8)) × ((List Int) × ((List Z4) × (List Z2))))) × (((List Z0) × ((List (List UInt8)) × ((List Int) × ((List Z4) × (List Z2))))) × Unit)))) :=
  bif b0 then
  (some (.inl (false, ())))
  else
  (some (.inr (((), ()), ((b1, (b2, (b3, (b4, b5)))), ((b6, (b7, (b8, (b9, b10)))), ())))))
def z9j (N : Nat) (b0 : List Z0) (b1 : (List (List UInt8))) (b2 : List Int) (b3 : List Z4) (b4 : List Z2) (b5 : List Z0) (b6 : (List (List UInt8))) (b7 : List Int) (b8 : List Z4) (b9 : List Z2) : Option ((Bool × Unit)) :=
  match y7g N N (0 : Int) b0 b1 b2 b3 b4 b5 b6 b7 b8 b9 with
  | some r6 => (match r6 with
  | .inl r7 => (some (r7.1, ()))
  | .inr r8 => (match y7f N N (0 : Int) r8.2.1.1 r8.2.1.2.1 r8.2.1.2.2.1 r8.2.1.2.2.2.1 r8.2.1.2.2.2.2 r8.2.2.1.1 r8.2.2.1.2.1 r8.2.2.1.2.2.1 r8.2.2.1.2.2.2.1 r8.2.2.1.2.2.2.2 with
  | some r10 => (match r10 with
  | .inl r11 => (some (r11.1, ()))
  | .inr r12 => (match y7e N N (0 : Int) r12.2.1.1 r12.2.1.2.1 r12.2.1.2.2.1 r12.2.1.2.2.2.1 r12.2.1.2.2.2.2 r12.2.2.1.1 r12.2.2.1.2.1 r12.2.2.1.2.2.1 r12.2.2.1.2.2.2.1 r12.2.2.1.2.2.2.2 with
  | some r14 => (match r14 with
  | .inl r15 => (some (r15.1, ()))
  | .inr r16 => (some (true, ())))
  | none => none))
  | none => none))
  | none => none
def yue (N : Nat) (a0 : z4u) (a1 : z4u) : Option (Bool) :=
  match yuf N a0.1 a1.1 with
  | some r1 => (bif (!r1) then
  (match z9i N true a0.1 a0.2.1 a0.2.2.1 a0.2.2.2.1 a0.2.2.2.2 a1.1 a1.2.1 a1.2.2.1 a1.2.2.2.1 a1.2.2.2.2 with
  | some r2 => (match r2 with
  | .inl r3 => (some r3.1)
  | .inr r4 => (match z9j N r4.2.1.1 r4.2.1.2.1 r4.2.1.2.2.1 r4.2.1.2.2.2.1 r4.2.1.2.2.2.2 r4.2.2.1.1 r4.2.2.1.2.1 r4.2.2.1.2.2.1 r4.2.2.1.2.2.2.1 r4.2.2.1.2.2.2.2 with
  | some r17 => (some r17.1)
  | none => none))
  | none => none)
  else
  (match y28 N a0.2.2.2.2 a1.2.2.2.2 with
  | some r18 => (bif (!r18) then
  (match z9i N true a0.1 a0.2.1 a0.2.2.1 a0.2.2.2.1 a0.2.2.2.2 a1.1 a1.2.1 a1.2.2.1 a1.2.2.2.1 a1.2.2.2.2 with
  | some r19 => (match r19 with
  | .inl r20 => (some r20.1)
  | .inr r21 => (match z9j N r21.2.1.1 r21.2.1.2.1 r21.2.1.2.2.1 r21.2.1.2.2.2.1 r21.2.1.2.2.2.2 r21.2.2.1.1 r21.2.2.1.2.1 r21.2.2.1.2.2.1 r21.2.2.1.2.2.2.1 r21.2.2.1.2.2.2.2 with
  | some r22 => (some r22.1)
  | none => none))
  | none => none)
  else
  (let x23 := (!(eqi (List.length a0.2.1 : Int) (List.length a1.2.1 : Int)))
  bif x23 then
  (match z9i N true a0.1 a0.2.1 a0.2.2.1 a0.2.2.2.1 a0.2.2.2.2 a1.1 a1.2.1 a1.2.2.1 a1.2.2.2.1 a1.2.2.2.2 with
  | some r24 => (match r24 with
  | .inl r25 => (some r25.1)
  | .inr r26 => (match z9j N r26.2.1.1 r26.2.1.2.1 r26.2.1.2.2.1 r26.2.1.2.2.2.1 r26.2.1.2.2.2.2 r26.2.2.1.1 r26.2.2.1.2.1 r26.2.2.1.2.2.1 r26.2.2.1.2.2.2.1 r26.2.2.1.2.2.2.2 with
  | some r27 => (some r27.1)
  | none => none))
  | none => none)
  else
  (let x28 := (!(eqi (List.length a0.2.2.1 : Int) (List.length a1.2.2.1 : Int)))
  bif x28 then
  (match z9i N true a0.1 a0.2.1 a0.2.2.1 a0.2.2.2.1 a0.2.2.2.2 a1.1 a1.2.1 a1.2.2.1 a1.2.2.2.1 a1.2.2.2.2 with
  | some r29 => (match r29 with
  | .inl r30 => (some r30.1)
  | .inr r31 => (match z9j N r31.2.1.1 r31.2.1.2.1 r31.2.1.2.2.1 r31.2.1.2.2.2.1 r31.2.1.2.2.2.2 r31.2.2.1.1 r31.2.2.1.2.1 r31.2.2.1.2.2.1 r31.2.2.1.2.2.2.1 r31.2.2.1.2.2.2.2 with
  | some r32 => (some r32.1)
  | none => none))
  | none => none)
  else
  (let x33 := (!(eqi (List.length a0.2.2.2.1 : Int) (List.length a1.2.2.2.1 : Int)))
  match z9i N x33 a0.1 a0.2.1 a0.2.2.1 a0.2.2.2.1 a0.2.2.2.2 a1.1 a1.2.1 a1.2.2.1 a1.2.2.2.1 a1.2.2.2.2 with
  | some r34 => (match r34 with
  | .inl r35 => (some r35.1)
  | .inr r36 => (match z9j N r36.2.1.1 r36.2.1.2.1 r36.2.1.2.2.1 r36.2.1.2.2.2.1 r36.2.1.2.2.2.2 r36.2.2.1.1 r36.2.2.1.2.1 r36.2.2.1.2.2.1 r36.2.2.1.2.2.2.1 r36.2.2.1.2.2.2.2 with
  | some r37 => (some r37.1)
  | none => none))
  | none => none))))
  | none => none))
  | none => none
def z2n (N : Nat) (a0 : List UInt8) (a1 : List UInt8) : Option (((List UInt8) × Bool)) :=
  match w8 N a0 a1 with
  | some r1 => (bif (!r1) then
  (some (a0, false))
  else
  (gd (decide (0 ≤ (List.length a1 : Int)) && (decide ((List.length a1 : Int) ≤ (List.length a0 : Int)) && decide ((List.length a0 : Int) ≤ (List.length a0 : Int))))
  (let x2 := (cut2 a0 (List.length a1 : Int) (List.length a0 : Int))
  some (x2, true))))
  | none => none
def G4 (N : Nat) (a0 : List UInt8) (a1 : List UInt8) : Option (((List UInt8) × Bool)) :=
  match z2n N a0 a1 with
  | some r1 => (some (r1.1, r1.2))
  | none => none
def z4x (N : Nat) (a0 : List UInt8) (a1 : List UInt8) : Option (Int) :=
  anyF a0 a1
def z0h (N : Nat) (a0 : List UInt8) (a1 : List UInt8) (a2 : Int) (a3 : Int) (a4 : List UInt8) : Option ((((List UInt8) × Int) × (((List UInt8) × ((List UInt8) × (Int × (Int × (List UInt8))))) × Unit))) :=
  match z4x N a0 ([1, 2, 3] : List UInt8) with
  | some r1 => (bif (decide (r1 < (0 : Int))) then
  (some ((([] : List UInt8), (0 : Int)), ((a0, (a1, (a2, (a3, a4)))), ())))
  else
  (gd (decide (0 ≤ (0 : Int)) && (decide ((0 : Int) ≤ r1) && decide (r1 ≤ (List.length a0 : Int))))
  (gd (inB r1 (List.length a0))
  (gd (decide (0 ≤ (IntKind.wrap .i64 (r1 + (1 : Int)))) && (decide ((IntKind.wrap .i64 (r1 + (1 : Int))) ≤ (List.length a0 : Int)) && decide ((List.length a0 : Int) ≤ (List.length a0 : Int))))
  (let x2 := (cut2 a0 (IntKind.wrap .i64 (r1 + (1 : Int))) (List.length a0 : Int))
  some (((cut2 a0 (0 : Int) r1), (bt a0 r1)), ((x2, (a1, (a2, (a3, a4)))), ())))))))
  | none => none
def J2 (N : Nat) (b0 : Int) (b1 : Bool) (b2 : List UInt8) (b3 : List UInt8) (b4 : Int) (b5 : Int) (b6 : List UInt8) : Option ((Unit × (((List UInt8) × ((List UInt8) × (Int × (Int × (List UInt8))))) × Unit))) :=
  bif b1 then
  (some ((), ((b2, (b3, ((4 : Int), (b5, b6)))), ())))
  else
  (bif (eqi b0 (2 : Int)) then
  (bif (eqi (List.length b2 : Int) (2 : Int)) then
  (gd (inB (0 : Int) (List.length b2))
  (gd (decide (0 ≤ (8 : Int)))
  (let x3 := (IntKind.wrap .i64 ((IntKind.wrap .i64 ((bt b2 (0 : Int)))) * 2 ^ min (Int.toNat (8 : Int)) (IntKind.bits .i64)))
  gd (inB (1 : Int) (List.length b2))
  (let x4 := (IntKind.wrap .i64 (((BitVec.ofInt (IntKind.bits .i64) x3 ||| BitVec.ofInt (IntKind.bits .i64) (IntKind.wrap .i64 ((bt b2 (1 : Int))))).toNat : Int)))
  some ((), ((b2, (b3, (b4, (x4, b6)))), ()))))))
  else
  (bif (eqi b0 (3 : Int)) then
  (some ((), ((b2, (b3, (b4, (b5, b2)))), ())))
  else
  (some ((), ((b2, (b3, (b4, (b5, b6)))), ())))))
  else
  (bif (eqi b0 (3 : Int)) then
  (some ((), ((b2, (b3, (b4, (b5, b2)))), ())))
  else
  (some ((), ((b2, (b3, (b4, (b5, b6)))), ())))))
def U3 (N : Nat) (a0 : List UInt8) (a1 : List UInt8) (a2 : Int) (a3 : Int) (a4 : List UInt8) : Option ((Unit × (((List UInt8) × ((List UInt8) × (Int × (Int × (List UInt8))))) × Unit))) :=
  match G4 N a0 ([6] : List UInt8) with
  | some r1 => (match z0h N r1.1 a1 a2 a3 a4 with
  | some r2 => (bif r1.2 then
  (match J2 N r2.1.2 (eqi r2.1.2 (1 : Int)) r2.2.1.1 r2.1.1 (IntKind.wrap .i64 (r2.1.2)) r2.2.1.2.2.2.1 r2.2.1.2.2.2.2 with
  | some r5 => (some ((), ((r5.2.1.1, (r5.2.1.2.1, (r5.2.1.2.2.1, (r5.2.1.2.2.2.1, r5.2.1.2.2.2.2)))), ())))
  | none => none)
  else
  (match J2 N r2.1.2 false r2.2.1.1 r2.1.1 (IntKind.wrap .i64 (r2.1.2)) r2.2.1.2.2.2.1 r2.2.1.2.2.2.2 with
  | some r6 => (some ((), ((r6.2.1.1, (r6.2.1.2.1, (r6.2.1.2.2.1, (r6.2.1.2.2.2.1, r6.2.1.2.2.2.2)))), ())))
  | none => none))
  | none => none)
  | none => none
def stringslite_IndexByte (N : Nat) (a0 : List UInt8) (a1 : Int) : Option (Int) :=
  some (idxB a0 a1)
def z9q (N : Nat) (a0 : List UInt8) (a1 : List UInt8) : Option (Int) :=
  bif (eqi (List.length a1 : Int) (0 : Int)) then
  (some (0 : Int))
  else
  (bif (eqs a1 a0) then
  (some (0 : Int))
  else
  (bif (eqi (List.length a1 : Int) (1 : Int)) then
  (gd (inB (0 : Int) (List.length a1))
  (match stringslite_IndexByte N a0 (bt a1 (0 : Int)) with
  | some r1 => (some r1)
  | none => none))
  else
  (let x2 := (decide ((List.length a0 : Int) ≤ (List.length a1 : Int)))
  bif x2 then
  (some (-1 : Int))
  else
  (none))))
def zcs (N : Nat) (a0 : List UInt8) (a1 : List UInt8) : Option (((List UInt8) × ((List UInt8) × Bool))) :=
  match z9q N a0 a1 with
  | some r1 => (bif (decide ((0 : Int) ≤ r1)) then
  (gd (decide (0 ≤ (0 : Int)) && (decide ((0 : Int) ≤ r1) && decide (r1 ≤ (List.length a0 : Int))))
  (let x2 := (IntKind.wrap .i64 (r1 + (List.length a1 : Int)))
  gd (decide (0 ≤ x2) && (decide (x2 ≤ (List.length a0 : Int)) && decide ((List.length a0 : Int) ≤ (List.length a0 : Int))))
  (some ((cut2 a0 (0 : Int) r1), ((cut2 a0 x2 (List.length a0 : Int)), true)))))
  else
  (some (a0, (([] : List UInt8), false))))
  | none => none
def ze4 (N : Nat) (a0 : List UInt8) (a1 : List UInt8) : Option (((List UInt8) × ((List UInt8) × Bool))) :=
  match zcs N a0 a1 with
  | some r1 => (some (r1.1, (r1.2.1, r1.2.2)))
  | none => none
def G2 (N : Nat) (a0 : Int) : Option (Bool) :=
  bif (decide (a0 < (33 : Int))) then
  (some true)
  else
  (bif (decide ((126 : Int) < a0)) then
  (some true)
  else
  (some (eqi a0 (47 : Int))))
def z0z (N : Nat) (a0 : List UInt8) (a1 : Bool) : Option (Int) :=
  some (idxF (G2 N) a1 a0)
def z11 (N : Nat) (a0 : List UInt8) : Option (Int) :=
  match z0z N a0 true with
  | some r1 => (some r1)
  | none => none
def zi9 (N : Nat) (a0 : List UInt8) : Option (Bool) :=
  bif (eqs a0 ([] : List UInt8)) then
  (some false)
  else
  (let x1 := (decide ((12 : Int) < (List.length a0 : Int)))
  bif x1 then
  (some false)
  else
  (bif (eqs a0 ([46] : List UInt8)) then
  (some false)
  else
  (bif (eqs a0 ([46, 46] : List UInt8)) then
  (some false)
  else
  (match z11 N a0 with
  | some r2 => (some (decide (r2 < (0 : Int))))
  | none => none))))
def zdb (N : Nat) (rec : (List UInt8) → Option ((Bool × Unit) ⊕ (Unit × Unit))) (b0 : List UInt8) : Option ((Bool × Unit) ⊕ (Unit × Unit)) :=
  bif (!(eqs b0 ([] : List UInt8))) then
  (match ze4 N b0 ([47] : List UInt8) with
  | some r1 => (bif (!r1.2.2) then
  (some (.inl (false, ())))
  else
  (match zi9 N r1.1 with
  | some r2 => (bif (!r2) then
  (some (.inl (false, ())))
  else
  (rec r1.2.1))
  | none => none))
  | none => none)
  else
  (some (.inr ((), ())))
def zcd (N n : Nat) (b0 : List UInt8) : Option ((Bool × Unit) ⊕ (Unit × Unit)) :=
  iter (fun (rec : ((List UInt8) × Unit) → Option ((Bool × Unit) ⊕ (Unit × Unit))) v => zdb N (fun b0 => rec (b0, ())) v.1) n (b0, ())
theorem y9m (N n : Nat) (b0 : List UInt8) : zcd N (n + 1) b0 = zdb N (fun b0  => zcd N n b0) b0 := rfl
def zna (N : Nat) (a0 : List UInt8) : Option (Bool) :=
  match zcd N N a0 with
  | some r3 => (match r3 with
  | .inl r4 => (some r4.1)
  | .inr r5 => (some true))
  | none => none
def zkh (N : Nat) (a0 : List UInt8) (a1 : List UInt8) : Option (List UInt8) :=
  x1r a0 a1
def zf7 (N : Nat) (b0 : List UInt8) : Option ((Bool × Unit)) :=
  gd (decide (0 ≤ (1 : Int)) && (decide ((1 : Int) ≤ (9 : Int)) && decide ((9 : Int) ≤ (List.length b0 : Int))))
  (match zkh N (cut2 b0 (1 : Int) (9 : Int)) ([48, 49, 50, 51, 52, 53, 54, 55, 56, 57, 97, 98, 99, 100, 101, 102] : List UInt8) with
  | some r1 => (some ((eqs r1 ([] : List UInt8)), ()))
  | none => none)
def zb2 (N : Nat) (a0 : List UInt8) : Option (Bool) :=
  bif (!(eqi (List.length a0 : Int) (10 : Int))) then
  (some false)
  else
  (gd (inB (0 : Int) (List.length a0))
  (bif (!(eqi (bt a0 (0 : Int)) (5 : Int))) then
  (some false)
  else
  (gd (inB (1 : Int) (List.length a0))
  (bif (decide ((55 : Int) < (bt a0 (1 : Int)))) then
  (some false)
  else
  (gd (inB (9 : Int) (List.length a0))
  (bif (!(eqi (bt a0 (9 : Int)) (47 : Int))) then
  (some false)
  else
  (match zf7 N a0 with
  | some r2 => (some r2.1)
  | none => none)))))))
def z63 (N : Nat) (b0 : Bool) (b1 : List UInt8) (b2 : Int) (b3 : Int) (b4 : List UInt8) (b5 : List UInt8) (b6 : Int) (b7 : Int) (b8 : List UInt8) : Option ((((List UInt8) × Int) × Unit) ⊕ (Unit × Unit)) :=
  bif b0 then
  (gd (decide (List.length b1 + List.length ([3] : List UInt8) < maxS))
  (let x8 := (@HAppend.hAppend (List UInt8) (List UInt8) (List UInt8) _ b1 ([3] : List UInt8))
  gd (decide (List.length x8 + List.length b4 < maxS))
  (let x9 := (@HAppend.hAppend (List UInt8) (List UInt8) (List UInt8) _ x8 b4)
  some (.inl ((x9, (0 : Int)), ())))))
  else
  (bif (eqi b2 (4 : Int)) then
  (let x10 := (eqs b1 b5 && (eqi b2 b6 && (eqi b3 b7 && (eqs b4 b8 && true))))
  bif x10 then
  (gd (decide (List.length ([6] : List UInt8) + List.length b1 < maxS))
  (let x11 := (@HAppend.hAppend (List UInt8) (List UInt8) (List UInt8) _ ([6] : List UInt8) b1)
  gd (decide (List.length x11 + List.length ([1] : List UInt8) < maxS))
  (let x12 := (@HAppend.hAppend (List UInt8) (List UInt8) (List UInt8) _ x11 ([1] : List UInt8))
  some (.inl ((x12, (0 : Int)), ())))))
  else
  (some (.inr ((), ()))))
  else
  (some (.inr ((), ()))))
def z0u (N : Nat) (b0 : Bool) (b1 : List UInt8) (b2 : Int) (b3 : Int) (b4 : List UInt8) (b5 : List UInt8) (b6 : Int) (b7 : Int) (b8 : List UInt8) : Option ((((List UInt8) × Int) × Unit) ⊕ (Unit × Unit)) :=
  bif b0 then
  (gd (decide (0 ≤ (8 : Int)))
  (let x4 := (Int.fdiv b3 (2 ^ min (Int.toNat (8 : Int)) (IntKind.bits .i64)))
  let x5 := ([(2 : Int), (IntKind.wrap .u8 (x4)), (IntKind.wrap .u8 (b3))] : List Int)
  gd (decide (List.length b1 + List.length (z39 x5) < maxS))
  (let x6 := (@HAppend.hAppend (List UInt8) (List UInt8) (List UInt8) _ b1 (z39 x5))
  some (.inl ((x6, (0 : Int)), ())))))
  else
  (bif (eqi b2 (3 : Int)) then
  (bif (eqi b3 (0 : Int)) then
  (match zi9 N b4 with
  | some r7 => (match z63 N r7 b1 b2 b3 b4 b5 b6 b7 b8 with
  | some r13 => (match r13 with
  | .inl r14 => (some (.inl ((r14.1.1, r14.1.2), ())))
  | .inr r15 => (some (.inr ((), ()))))
  | none => none)
  | none => none)
  else
  (match z63 N false b1 b2 b3 b4 b5 b6 b7 b8 with
  | some r16 => (match r16 with
  | .inl r17 => (some (.inl ((r17.1.1, r17.1.2), ())))
  | .inr r18 => (some (.inr ((), ()))))
  | none => none))
  else
  (match z63 N false b1 b2 b3 b4 b5 b6 b7 b8 with
  | some r19 => (match r19 with
  | .inl r20 => (some (.inl ((r20.1.1, r20.1.2), ())))
  | .inr r21 => (some (.inr ((), ()))))
  | none => none))
def z4b (N : Nat) (b0 : Bool) (b1 : List UInt8) (b2 : Int) (b3 : Int) (b4 : List UInt8) (b5 : List UInt8) (b6 : Int) (b7 : Int) (b8 : List UInt8) : Option ((((List UInt8) × Int) × Unit) ⊕ (Unit × Unit)) :=
  bif b0 then
  (bif (eqi b2 (1 : Int)) then
  (let x2 := (eqs b1 b5 && (eqi b2 b6 && (eqi b3 b7 && (eqs b4 b8 && true))))
  bif x2 then
  (gd (decide (List.length b1 + List.length ([1] : List UInt8) < maxS))
  (let x3 := (@HAppend.hAppend (List UInt8) (List UInt8) (List UInt8) _ b1 ([1] : List UInt8))
  some (.inl ((x3, (0 : Int)), ()))))
  else
  (bif (eqi b2 (2 : Int)) then
  (bif (eqs b4 ([] : List UInt8)) then
  (bif (decide ((0 : Int) ≤ b3)) then
  (match z0u N (decide (b3 ≤ (60000 : Int))) b1 b2 b3 b4 b5 b6 b7 b8 with
  | some r22 => (match r22 with
  | .inl r23 => (some (.inl ((r23.1.1, r23.1.2), ())))
  | .inr r24 => (some (.inr ((), ()))))
  | none => none)
  else
  (match z0u N false b1 b2 b3 b4 b5 b6 b7 b8 with
  | some r25 => (match r25 with
  | .inl r26 => (some (.inl ((r26.1.1, r26.1.2), ())))
  | .inr r27 => (some (.inr ((), ()))))
  | none => none))
  else
  (match z0u N false b1 b2 b3 b4 b5 b6 b7 b8 with
  | some r28 => (match r28 with
  | .inl r29 => (some (.inl ((r29.1.1, r29.1.2), ())))
  | .inr r30 => (some (.inr ((), ()))))
  | none => none))
  else
  (match z0u N false b1 b2 b3 b4 b5 b6 b7 b8 with
  | some r31 => (match r31 with
  | .inl r32 => (some (.inl ((r32.1.1, r32.1.2), ())))
  | .inr r33 => (some (.inr ((), ()))))
  | none => none)))
  else
  (bif (eqi b2 (2 : Int)) then
  (bif (eqs b4 ([] : List UInt8)) then
  (bif (decide ((0 : Int) ≤ b3)) then
  (match z0u N (decide (b3 ≤ (60000 : Int))) b1 b2 b3 b4 b5 b6 b7 b8 with
  | some r34 => (match r34 with
  | .inl r35 => (some (.inl ((r35.1.1, r35.1.2), ())))
  | .inr r36 => (some (.inr ((), ()))))
  | none => none)
  else
  (match z0u N false b1 b2 b3 b4 b5 b6 b7 b8 with
  | some r37 => (match r37 with
  | .inl r38 => (some (.inl ((r38.1.1, r38.1.2), ())))
  | .inr r39 => (some (.inr ((), ()))))
  | none => none))
  else
  (match z0u N false b1 b2 b3 b4 b5 b6 b7 b8 with
  | some r40 => (match r40 with
  | .inl r41 => (some (.inl ((r41.1.1, r41.1.2), ())))
  | .inr r42 => (some (.inr ((), ()))))
  | none => none))
  else
  (match z0u N false b1 b2 b3 b4 b5 b6 b7 b8 with
  | some r43 => (match r43 with
  | .inl r44 => (some (.inl ((r44.1.1, r44.1.2), ())))
  | .inr r45 => (some (.inr ((), ()))))
  | none => none)))
  else
  (some (.inr ((), ())))
def zq8 (N : Nat) : Option ((((List UInt8) × Int) × Unit)) :=
  some ((([] : List UInt8), (12 : Int)), ())
def z9z (N : Nat) (a0 : ze7) : Option (((List UInt8) × Int)) :=
  match zna N a0.1 with
  | some r1 => (bif r1 then
  (match z4b N true a0.1 a0.2.1 a0.2.2.1 a0.2.2.2 a0.1 a0.2.1 (0 : Int) ([] : List UInt8) with
  | some r46 => (match r46 with
  | .inl r47 => (some (r47.1.1, r47.1.2))
  | .inr r48 => (match zq8 N with
  | some r49 => (some (r49.1.1, r49.1.2))
  | none => none))
  | none => none)
  else
  (match zb2 N a0.1 with
  | some r50 => (bif r50 then
  (match z4b N (!(eqi a0.2.1 (4 : Int))) a0.1 a0.2.1 a0.2.2.1 a0.2.2.2 a0.1 a0.2.1 (0 : Int) ([] : List UInt8) with
  | some r51 => (match r51 with
  | .inl r52 => (some (r52.1.1, r52.1.2))
  | .inr r53 => (match zq8 N with
  | some r54 => (some (r54.1.1, r54.1.2))
  | none => none))
  | none => none)
  else
  (match z4b N false a0.1 a0.2.1 a0.2.2.1 a0.2.2.2 a0.1 a0.2.1 (0 : Int) ([] : List UInt8) with
  | some r55 => (match r55 with
  | .inl r56 => (some (r56.1.1, r56.1.2))
  | .inr r57 => (match zq8 N with
  | some r58 => (some (r58.1.1, r58.1.2))
  | none => none))
  | none => none))
  | none => none))
  | none => none
def z2c (N : Nat) (a0 : List UInt8) : Option ((ze7 × Int)) :=
  match U3 N a0 ([] : List UInt8) (0 : Int) (0 : Int) ([] : List UInt8) with
  | some r1 => (match z9z N r1.2.1.2 with
  | some r2 => (bif (!(eqi r2.2 (0 : Int))) then
  (some ((([] : List UInt8), ((0 : Int), ((0 : Int), ([] : List UInt8)))), (12 : Int)))
  else
  (bif (!(eqs r2.1 a0)) then
  (some ((([] : List UInt8), ((0 : Int), ((0 : Int), ([] : List UInt8)))), (12 : Int)))
  else
  (some (r1.2.1.2, (0 : Int)))))
  | none => none)
  | none => none
def z3x (N : Nat) (a0 : Z0) : Option (zuy) :=
  match z2c N a0.1 with
  | some r1 => (bif (!(eqi r1.2 (0 : Int))) then
  (some ((0 : Int), (0 : Int)))
  else
  (bif (eqi r1.1.2.1 (1 : Int)) then
  (some ((1 : Int), (0 : Int)))
  else
  (bif (eqi r1.1.2.1 (4 : Int)) then
  (some ((0 : Int), (0 : Int)))
  else
  (some ((0 : Int), (List.length a0.2.1 : Int))))))
  | none => none
abbrev zbq := Option (((Unit × Unit) × ((Int × Int) × ((Int × Int) × Unit))))
def z6u (N : Nat) (rec : (List Z0) → Int → Int → Int → Int → Int → Int → zbq) (b0 : List Z0) (b1 : Int) (b2 : Int) (b3 : Int) (b4 : Int) (b5 : Int) (b6 : Int) : zbq :=
  bif (decide (b2 < b1)) then
  (gd (inB b2 (List.length b0))
  (match z3x N (rdL b0 b2 X8) with
  | some r1 => (rec b0 b1 (IntKind.wrap .i64 (b2 + (1 : Int))) b3 b4 (IntKind.wrap .i64 (b5 + r1.1)) (IntKind.wrap .i64 (b6 + r1.2)))
  | none => none))
  else
  (some (((), ()), ((b3, b4), ((b5, b6), ()))))
def zav (N n : Nat) (b0 : List Z0) (b1 : Int) (b2 : Int) (b3 : Int) (b4 : Int) (b5 : Int) (b6 : Int) : zbq :=
  iter (fun (rec : ((Unit × (Unit × ((List Z0) × (Int × Int)))) × ((Int × Int) × ((Int × Int) × Unit))) → zbq) v => z6u N (fun b0 b1 b2 b3 b4 b5 b6 => rec (((), ((), (b0, (b1, b2)))), ((b3, b4), ((b5, b6), ())))) v.1.2.2.1 v.1.2.2.2.1 v.1.2.2.2.2 v.2.1.1 v.2.1.2 v.2.2.1.1 v.2.2.1.2) n (((), ((), (b0, (b1, b2)))), ((b3, b4), ((b5, b6), ())))
theorem zjh (N n : Nat) (b0 : List Z0) (b1 : Int) (b2 : Int) (b3 : Int) (b4 : Int) (b5 : Int) (b6 : Int) : zav N (n + 1) b0 b1 b2 b3 b4 b5 b6 = z6u N (fun b0  b1  b2  b3  b4  b5  b6  => zav N n b0 b1 b2 b3 b4 b5 b6) b0 b1 b2 b3 b4 b5 b6 := rfl
def z65 (N : Nat) (a0 : List Z0) : Option (zuy) :=
  match zav N N a0 (List.length a0 : Int) (0 : Int) (0 : Int) (0 : Int) (0 : Int) (0 : Int) with
  | some r2 => (some r2.2.2.1)
  | none => none
def z6b (N : Nat) (a0 : Int) (a1 : Int) (a2 : Int) (a3 : Int) (a4 : Int) (a5 : Int) : Option ((Unit × ((Int × (Int × (Int × Int))) × Unit))) :=
  let x1 := (bif decide ((IntKind.wrap .i64 (a2 + a0)) < (0 : Int)) then (0 : Int) else (IntKind.wrap .i64 (a2 + a0)))
  let x2 := (bif decide ((1000000000000000 : Int) < x1) then (1000000000000000 : Int) else x1)
  let x3 := (bif decide ((1000000000000000 : Int) < (IntKind.wrap .i64 (a3 + a1))) then (1000000000000000 : Int) else (IntKind.wrap .i64 (a3 + a1)))
  some ((), ((x2, (x3, (a4, a5))), ()))
def z07 (N : Nat) (a0 : Int) (a1 : Int) (a2 : Int) (a3 : Int) (a4 : Int) (a5 : Int) : Option ((Unit × ((Int × (Int × (Int × Int))) × Unit))) :=
  let x1 := (bif decide ((IntKind.wrap .i64 (a4 + a0)) < (0 : Int)) then (0 : Int) else (IntKind.wrap .i64 (a4 + a0)))
  let x2 := (bif decide ((1000000000000000 : Int) < x1) then (1000000000000000 : Int) else x1)
  let x3 := (bif decide ((1000000000000000 : Int) < (IntKind.wrap .i64 (a5 + a1))) then (1000000000000000 : Int) else (IntKind.wrap .i64 (a5 + a1)))
  some ((), ((a2, (a3, (x2, x3))), ()))
def zce (N : Nat) (a0 : Int) (a1 : Int) (a2 : Int) (a3 : Int) (a4 : Int) (a5 : Int) : Option ((Unit × (Unit × ((Int × (Int × (Int × Int))) × Unit)))) :=
  match z6b N a0 a1 a2 a3 a4 a5 with
  | some r1 => (match z07 N a0 a1 r1.2.1.1 r1.2.1.2.1 r1.2.1.2.2.1 r1.2.1.2.2.2 with
  | some r2 => (some ((), ((), ((r2.2.1.1, (r2.2.1.2.1, (r2.2.1.2.2.1, r2.2.1.2.2.2))), ()))))
  | none => none)
  | none => none
def zmu (N : Nat) (a0 : List UInt8) : Option (Int) :=
  bif (eqs a0 ([] : List UInt8)) then
  (some (0 : Int))
  else
  (gd (inB (0 : Int) (List.length a0))
  (bif (eqi (bt a0 (0 : Int)) (6 : Int)) then
  (some (6 : Int))
  else
  (match zna N a0 with
  | some r1 => (bif r1 then
  (some (1 : Int))
  else
  (gd (decide (List.length a0 + List.length ([1] : List UInt8) < maxS))
  (let x2 := (@HAppend.hAppend (List UInt8) (List UInt8) (List UInt8) _ a0 ([1] : List UInt8))
  match z2c N x2 with
  | some r3 => (bif (eqi r3.2 (0 : Int)) then
  (bif (eqs r3.1.1 a0) then
  (some (5 : Int))
  else
  (some (0 : Int)))
  else
  (some (0 : Int)))
  | none => none)))
  | none => none)))
def zvq (N : Nat) (a0 : List UInt8) (a1 : List UInt8) : Option (Bool) :=
  match zmu N a0 with
  | some r1 => (bif (!(eqi r1 (0 : Int))) then
  (match zmu N a0 with
  | some r2 => (match zmu N a1 with
  | some r3 => (some (eqi r2 r3))
  | none => none)
  | none => none)
  else
  (some false))
  | none => none
def q9 (N : Nat) (b0 : List Z2) (b1 : Int) (b2 : Int) (b3 : Bool) (b4 : Int) (b5 : Int) (b6 : Int) (b7 : Int) (b8 : Int) (b9 : Int) (b10 : Int) (b11 : Int) (b12 : Int) (b13 : List UInt8) (b14 : List UInt8) (b15 : List UInt8) (b16 : List UInt8) (b17 : List UInt8) (b18 : List UInt8) (b19 : Int) : Option (((Unit × (Unit × (Unit × ((Unit × Unit) × ((List Z2) × (Int × Int)))))) × ((Int × (Int × (Int × Int))) × ((Int × (Int × (Int × Int))) × (Unit × Unit))))) :=
  bif b3 then
  (match z6b N (-1 : Int) (0 : Int) b8 b9 b10 b11 with
  | some r11 => (some (((), ((), ((), (((), ()), (b0, (b1, b2)))))), ((b4, (b5, (b6, b7))), ((r11.2.1.1, (r11.2.1.2.1, (r11.2.1.2.2.1, r11.2.1.2.2.2))), ((), ())))))
  | none => none)
  else
  (bif (eqi b12 (2 : Int)) then
  (match z07 N (-64 : Int) (0 : Int) b8 b9 b10 b11 with
  | some r12 => (some (((), ((), ((), (((), ()), (b0, (b1, b2)))))), ((b4, (b5, (b6, b7))), ((r12.2.1.1, (r12.2.1.2.1, (r12.2.1.2.2.1, r12.2.1.2.2.2))), ((), ())))))
  | none => none)
  else
  (bif (eqi b12 (3 : Int)) then
  (match zce N (-1000000000000000 : Int) (0 : Int) b8 b9 b10 b11 with
  | some r13 => (some (((), ((), ((), (((), ()), (b0, (b1, b2)))))), ((b4, (b5, (b6, b7))), ((r13.2.2.1.1, (r13.2.2.1.2.1, (r13.2.2.1.2.2.1, r13.2.2.1.2.2.2))), ((), ())))))
  | none => none)
  else
  (bif (eqi b12 (6 : Int)) then
  (some (((), ((), ((), (((), ()), (b0, (b1, b2)))))), ((b4, (b5, (b6, b7))), ((b8, (b9, (b10, b11))), ((), ())))))
  else
  (match zvq N b17 b18 with
  | some r14 => (bif (!r14) then
  (match zce N (-1000000000000000 : Int) (1000000000000000 : Int) b8 b9 b10 b11 with
  | some r15 => (some (((), ((), ((), (((), ()), (b0, (b1, b2)))))), ((b4, (b5, (b6, b7))), ((r15.2.2.1.1, (r15.2.2.1.2.1, (r15.2.2.1.2.2.1, r15.2.2.1.2.2.2))), ((), ())))))
  | none => none)
  else
  (bif (eqi b12 (5 : Int)) then
  (match z6b N (-1000000000000000 : Int) b9 b8 b9 b10 b11 with
  | some r16 => (match z07 N (-1000000000000000 : Int) r16.2.1.2.2.2 r16.2.1.1 r16.2.1.2.1 r16.2.1.2.2.1 r16.2.1.2.2.2 with
  | some r17 => (some (((), ((), ((), (((), ()), (b0, (b1, b2)))))), ((b4, (b5, (b6, b7))), ((r17.2.1.1, (r17.2.1.2.1, (r17.2.1.2.2.1, r17.2.1.2.2.2))), ((), ())))))
  | none => none)
  | none => none)
  else
  (match zce N (-1000000000000000 : Int) (0 : Int) b8 b9 b10 b11 with
  | some r18 => (some (((), ((), ((), (((), ()), (b0, (b1, b2)))))), ((b4, (b5, (b6, b7))), ((r18.2.2.1.1, (r18.2.2.1.2.1, (r18.2.2.1.2.2.1, r18.2.2.1.2.2.2))), ((), ())))))
  | none => none)))
  | none => none))))
def Q1 (N : Nat) (b0 : List Z2) (b1 : Int) (b2 : Int) (b3 : Int) (b4 : Int) (b5 : Int) (b6 : Int) (b7 : Int) (b8 : Int) (b9 : Int) (b10 : Int) : Option (((Unit × (Unit × (Unit × ((Unit × Unit) × ((List Z2) × (Int × Int)))))) × ((Int × (Int × (Int × Int))) × ((Int × (Int × (Int × Int))) × (Unit × Unit))))) :=
  some (((), ((), ((), (((), ()), (b0, (b1, (IntKind.wrap .i64 (b2 + (1 : Int))))))))), ((b3, (b4, (b5, b6))), ((b7, (b8, (b9, b10))), ((), ()))))
abbrev zi1 := Option (((Unit × Unit) × ((Int × (Int × (Int × Int))) × ((Int × (Int × (Int × Int))) × Unit))))
def K4 (N : Nat) (rec : (List Z2) → Int → Int → Int → Int → Int → Int → Int → Int → Int → Int → zi1) (b0 : List Z2) (b1 : Int) (b2 : Int) (b3 : Int) (b4 : Int) (b5 : Int) (b6 : Int) (b7 : Int) (b8 : Int) (b9 : Int) (b10 : Int) : zi1 :=
  bif (decide (b2 < b1)) then
  (gd (inB b2 (List.length b0))
  (match z2c N (((rdL b0 b2 Y6).2).1) with
  | some r5 => (bif (eqi r5.2 (0 : Int)) then
  (bif (eqi ((rdL b0 b2 Y6).1) (1 : Int)) then
  (bif (eqi r5.1.2.1 (1 : Int)) then
  (match z6b N (0 : Int) (1 : Int) b7 b8 b9 b10 with
  | some r6 => (match Q1 N b0 b1 b2 b3 b4 b5 b6 r6.2.1.1 r6.2.1.2.1 r6.2.1.2.2.1 r6.2.1.2.2.2 with
  | some r7 => (rec r7.1.2.2.2.2.1 r7.1.2.2.2.2.2.1 r7.1.2.2.2.2.2.2 r7.2.1.1 r7.2.1.2.1 r7.2.1.2.2.1 r7.2.1.2.2.2 r7.2.2.1.1 r7.2.2.1.2.1 r7.2.2.1.2.2.1 r7.2.2.1.2.2.2)
  | none => none)
  | none => none)
  else
  (bif (eqi ((rdL b0 b2 Y6).1) (1 : Int)) then
  (let x8 := (List.length ((((rdL b0 b2 Y6).2).2).1) : Int)
  match z07 N (-64 : Int) x8 b7 b8 b9 b10 with
  | some r9 => (match Q1 N b0 b1 b2 b3 b4 b5 b6 r9.2.1.1 r9.2.1.2.1 r9.2.1.2.2.1 r9.2.1.2.2.2 with
  | some r10 => (rec r10.1.2.2.2.2.1 r10.1.2.2.2.2.2.1 r10.1.2.2.2.2.2.2 r10.2.1.1 r10.2.1.2.1 r10.2.1.2.2.1 r10.2.1.2.2.2 r10.2.2.1.1 r10.2.2.1.2.1 r10.2.2.1.2.2.1 r10.2.2.1.2.2.2)
  | none => none)
  | none => none)
  else
  (bif (eqi ((rdL b0 b2 Y6).1) (2 : Int)) then
  (match q9 N b0 b1 b2 (eqi r5.1.2.1 (1 : Int)) b3 b4 b5 b6 b7 b8 b9 b10 ((rdL b0 b2 Y6).1) (((rdL b0 b2 Y6).2).1) ((((rdL b0 b2 Y6).2).2).1) ((((((rdL b0 b2 Y6).2).2).2).1).1) ((((((rdL b0 b2 Y6).2).2).2).1).2) ((((((rdL b0 b2 Y6).2).2).2).2).1) (((((((rdL b0 b2 Y6).2).2).2).2).2).1) (((((((rdL b0 b2 Y6).2).2).2).2).2).2) with
  | some r19 => (match Q1 N r19.1.2.2.2.2.1 r19.1.2.2.2.2.2.1 r19.1.2.2.2.2.2.2 r19.2.1.1 r19.2.1.2.1 r19.2.1.2.2.1 r19.2.1.2.2.2 r19.2.2.1.1 r19.2.2.1.2.1 r19.2.2.1.2.2.1 r19.2.2.1.2.2.2 with
  | some r20 => (rec r20.1.2.2.2.2.1 r20.1.2.2.2.2.2.1 r20.1.2.2.2.2.2.2 r20.2.1.1 r20.2.1.2.1 r20.2.1.2.2.1 r20.2.1.2.2.2 r20.2.2.1.1 r20.2.2.1.2.1 r20.2.2.1.2.2.1 r20.2.2.1.2.2.2)
  | none => none)
  | none => none)
  else
  (match q9 N b0 b1 b2 false b3 b4 b5 b6 b7 b8 b9 b10 ((rdL b0 b2 Y6).1) (((rdL b0 b2 Y6).2).1) ((((rdL b0 b2 Y6).2).2).1) ((((((rdL b0 b2 Y6).2).2).2).1).1) ((((((rdL b0 b2 Y6).2).2).2).1).2) ((((((rdL b0 b2 Y6).2).2).2).2).1) (((((((rdL b0 b2 Y6).2).2).2).2).2).1) (((((((rdL b0 b2 Y6).2).2).2).2).2).2) with
  | some r21 => (match Q1 N r21.1.2.2.2.2.1 r21.1.2.2.2.2.2.1 r21.1.2.2.2.2.2.2 r21.2.1.1 r21.2.1.2.1 r21.2.1.2.2.1 r21.2.1.2.2.2 r21.2.2.1.1 r21.2.2.1.2.1 r21.2.2.1.2.2.1 r21.2.2.1.2.2.2 with
  | some r22 => (rec r22.1.2.2.2.2.1 r22.1.2.2.2.2.2.1 r22.1.2.2.2.2.2.2 r22.2.1.1 r22.2.1.2.1 r22.2.1.2.2.1 r22.2.1.2.2.2 r22.2.2.1.1 r22.2.2.1.2.1 r22.2.2.1.2.2.1 r22.2.2.1.2.2.2)
  | none => none)
  | none => none))))
  else
  (bif (eqi ((rdL b0 b2 Y6).1) (1 : Int)) then
  (let x23 := (List.length ((((rdL b0 b2 Y6).2).2).1) : Int)
  match z07 N (-64 : Int) x23 b7 b8 b9 b10 with
  | some r24 => (match Q1 N b0 b1 b2 b3 b4 b5 b6 r24.2.1.1 r24.2.1.2.1 r24.2.1.2.2.1 r24.2.1.2.2.2 with
  | some r25 => (rec r25.1.2.2.2.2.1 r25.1.2.2.2.2.2.1 r25.1.2.2.2.2.2.2 r25.2.1.1 r25.2.1.2.1 r25.2.1.2.2.1 r25.2.1.2.2.2 r25.2.2.1.1 r25.2.2.1.2.1 r25.2.2.1.2.2.1 r25.2.2.1.2.2.2)
  | none => none)
  | none => none)
  else
  (bif (eqi ((rdL b0 b2 Y6).1) (2 : Int)) then
  (match q9 N b0 b1 b2 (eqi r5.1.2.1 (1 : Int)) b3 b4 b5 b6 b7 b8 b9 b10 ((rdL b0 b2 Y6).1) (((rdL b0 b2 Y6).2).1) ((((rdL b0 b2 Y6).2).2).1) ((((((rdL b0 b2 Y6).2).2).2).1).1) ((((((rdL b0 b2 Y6).2).2).2).1).2) ((((((rdL b0 b2 Y6).2).2).2).2).1) (((((((rdL b0 b2 Y6).2).2).2).2).2).1) (((((((rdL b0 b2 Y6).2).2).2).2).2).2) with
  | some r26 => (match Q1 N r26.1.2.2.2.2.1 r26.1.2.2.2.2.2.1 r26.1.2.2.2.2.2.2 r26.2.1.1 r26.2.1.2.1 r26.2.1.2.2.1 r26.2.1.2.2.2 r26.2.2.1.1 r26.2.2.1.2.1 r26.2.2.1.2.2.1 r26.2.2.1.2.2.2 with
  | some r27 => (rec r27.1.2.2.2.2.1 r27.1.2.2.2.2.2.1 r27.1.2.2.2.2.2.2 r27.2.1.1 r27.2.1.2.1 r27.2.1.2.2.1 r27.2.1.2.2.2 r27.2.2.1.1 r27.2.2.1.2.1 r27.2.2.1.2.2.1 r27.2.2.1.2.2.2)
  | none => none)
  | none => none)
  else
  (match q9 N b0 b1 b2 false b3 b4 b5 b6 b7 b8 b9 b10 ((rdL b0 b2 Y6).1) (((rdL b0 b2 Y6).2).1) ((((rdL b0 b2 Y6).2).2).1) ((((((rdL b0 b2 Y6).2).2).2).1).1) ((((((rdL b0 b2 Y6).2).2).2).1).2) ((((((rdL b0 b2 Y6).2).2).2).2).1) (((((((rdL b0 b2 Y6).2).2).2).2).2).1) (((((((rdL b0 b2 Y6).2).2).2).2).2).2) with
  | some r28 => (match Q1 N r28.1.2.2.2.2.1 r28.1.2.2.2.2.2.1 r28.1.2.2.2.2.2.2 r28.2.1.1 r28.2.1.2.1 r28.2.1.2.2.1 r28.2.1.2.2.2 r28.2.2.1.1 r28.2.2.1.2.1 r28.2.2.1.2.2.1 r28.2.2.1.2.2.2 with
  | some r29 => (rec r29.1.2.2.2.2.1 r29.1.2.2.2.2.2.1 r29.1.2.2.2.2.2.2 r29.2.1.1 r29.2.1.2.1 r29.2.1.2.2.1 r29.2.1.2.2.2 r29.2.2.1.1 r29.2.2.1.2.1 r29.2.2.1.2.2.1 r29.2.2.1.2.2.2)
  | none => none)
  | none => none))))
  else
  (bif (eqi ((rdL b0 b2 Y6).1) (1 : Int)) then
  (bif (eqi ((rdL b0 b2 Y6).1) (1 : Int)) then
  (let x30 := (List.length ((((rdL b0 b2 Y6).2).2).1) : Int)
  match z07 N (-64 : Int) x30 b7 b8 b9 b10 with
  | some r31 => (match Q1 N b0 b1 b2 b3 b4 b5 b6 r31.2.1.1 r31.2.1.2.1 r31.2.1.2.2.1 r31.2.1.2.2.2 with
  | some r32 => (rec r32.1.2.2.2.2.1 r32.1.2.2.2.2.2.1 r32.1.2.2.2.2.2.2 r32.2.1.1 r32.2.1.2.1 r32.2.1.2.2.1 r32.2.1.2.2.2 r32.2.2.1.1 r32.2.2.1.2.1 r32.2.2.1.2.2.1 r32.2.2.1.2.2.2)
  | none => none)
  | none => none)
  else
  (bif (eqi ((rdL b0 b2 Y6).1) (2 : Int)) then
  (match q9 N b0 b1 b2 false b3 b4 b5 b6 b7 b8 b9 b10 ((rdL b0 b2 Y6).1) (((rdL b0 b2 Y6).2).1) ((((rdL b0 b2 Y6).2).2).1) ((((((rdL b0 b2 Y6).2).2).2).1).1) ((((((rdL b0 b2 Y6).2).2).2).1).2) ((((((rdL b0 b2 Y6).2).2).2).2).1) (((((((rdL b0 b2 Y6).2).2).2).2).2).1) (((((((rdL b0 b2 Y6).2).2).2).2).2).2) with
  | some r33 => (match Q1 N r33.1.2.2.2.2.1 r33.1.2.2.2.2.2.1 r33.1.2.2.2.2.2.2 r33.2.1.1 r33.2.1.2.1 r33.2.1.2.2.1 r33.2.1.2.2.2 r33.2.2.1.1 r33.2.2.1.2.1 r33.2.2.1.2.2.1 r33.2.2.1.2.2.2 with
  | some r34 => (rec r34.1.2.2.2.2.1 r34.1.2.2.2.2.2.1 r34.1.2.2.2.2.2.2 r34.2.1.1 r34.2.1.2.1 r34.2.1.2.2.1 r34.2.1.2.2.2 r34.2.2.1.1 r34.2.2.1.2.1 r34.2.2.1.2.2.1 r34.2.2.1.2.2.2)
  | none => none)
  | none => none)
  else
  (match q9 N b0 b1 b2 false b3 b4 b5 b6 b7 b8 b9 b10 ((rdL b0 b2 Y6).1) (((rdL b0 b2 Y6).2).1) ((((rdL b0 b2 Y6).2).2).1) ((((((rdL b0 b2 Y6).2).2).2).1).1) ((((((rdL b0 b2 Y6).2).2).2).1).2) ((((((rdL b0 b2 Y6).2).2).2).2).1) (((((((rdL b0 b2 Y6).2).2).2).2).2).1) (((((((rdL b0 b2 Y6).2).2).2).2).2).2) with
  | some r35 => (match Q1 N r35.1.2.2.2.2.1 r35.1.2.2.2.2.2.1 r35.1.2.2.2.2.2.2 r35.2.1.1 r35.2.1.2.1 r35.2.1.2.2.1 r35.2.1.2.2.2 r35.2.2.1.1 r35.2.2.1.2.1 r35.2.2.1.2.2.1 r35.2.2.1.2.2.2 with
  | some r36 => (rec r36.1.2.2.2.2.1 r36.1.2.2.2.2.2.1 r36.1.2.2.2.2.2.2 r36.2.1.1 r36.2.1.2.1 r36.2.1.2.2.1 r36.2.1.2.2.2 r36.2.2.1.1 r36.2.2.1.2.1 r36.2.2.1.2.2.1 r36.2.2.1.2.2.2)
  | none => none)
  | none => none)))
  else
  (bif (eqi ((rdL b0 b2 Y6).1) (1 : Int)) then
  (let x37 := (List.length ((((rdL b0 b2 Y6).2).2).1) : Int)
  match z07 N (-64 : Int) x37 b7 b8 b9 b10 with
  | some r38 => (match Q1 N b0 b1 b2 b3 b4 b5 b6 r38.2.1.1 r38.2.1.2.1 r38.2.1.2.2.1 r38.2.1.2.2.2 with
  | some r39 => (rec r39.1.2.2.2.2.1 r39.1.2.2.2.2.2.1 r39.1.2.2.2.2.2.2 r39.2.1.1 r39.2.1.2.1 r39.2.1.2.2.1 r39.2.1.2.2.2 r39.2.2.1.1 r39.2.2.1.2.1 r39.2.2.1.2.2.1 r39.2.2.1.2.2.2)
  | none => none)
  | none => none)
  else
  (bif (eqi ((rdL b0 b2 Y6).1) (2 : Int)) then
  (match q9 N b0 b1 b2 false b3 b4 b5 b6 b7 b8 b9 b10 ((rdL b0 b2 Y6).1) (((rdL b0 b2 Y6).2).1) ((((rdL b0 b2 Y6).2).2).1) ((((((rdL b0 b2 Y6).2).2).2).1).1) ((((((rdL b0 b2 Y6).2).2).2).1).2) ((((((rdL b0 b2 Y6).2).2).2).2).1) (((((((rdL b0 b2 Y6).2).2).2).2).2).1) (((((((rdL b0 b2 Y6).2).2).2).2).2).2) with
  | some r40 => (match Q1 N r40.1.2.2.2.2.1 r40.1.2.2.2.2.2.1 r40.1.2.2.2.2.2.2 r40.2.1.1 r40.2.1.2.1 r40.2.1.2.2.1 r40.2.1.2.2.2 r40.2.2.1.1 r40.2.2.1.2.1 r40.2.2.1.2.2.1 r40.2.2.1.2.2.2 with
  | some r41 => (rec r41.1.2.2.2.2.1 r41.1.2.2.2.2.2.1 r41.1.2.2.2.2.2.2 r41.2.1.1 r41.2.1.2.1 r41.2.1.2.2.1 r41.2.1.2.2.2 r41.2.2.1.1 r41.2.2.1.2.1 r41.2.2.1.2.2.1 r41.2.2.1.2.2.2)
  | none => none)
  | none => none)
  else
  (match q9 N b0 b1 b2 false b3 b4 b5 b6 b7 b8 b9 b10 ((rdL b0 b2 Y6).1) (((rdL b0 b2 Y6).2).1) ((((rdL b0 b2 Y6).2).2).1) ((((((rdL b0 b2 Y6).2).2).2).1).1) ((((((rdL b0 b2 Y6).2).2).2).1).2) ((((((rdL b0 b2 Y6).2).2).2).2).1) (((((((rdL b0 b2 Y6).2).2).2).2).2).1) (((((((rdL b0 b2 Y6).2).2).2).2).2).2) with
  | some r42 => (match Q1 N r42.1.2.2.2.2.1 r42.1.2.2.2.2.2.1 r42.1.2.2.2.2.2.2 r42.2.1.1 r42.2.1.2.1 r42.2.1.2.2.1 r42.2.1.2.2.2 r42.2.2.1.1 r42.2.2.1.2.1 r42.2.2.1.2.2.1 r42.2.2.1.2.2.2 with
  | some r43 => (rec r43.1.2.2.2.2.1 r43.1.2.2.2.2.2.1 r43.1.2.2.2.2.2.2 r43.2.1.1 r43.2.1.2.1 r43.2.1.2.2.1 r43.2.1.2.2.2 r43.2.2.1.1 r43.2.2.1.2.1 r43.2.2.1.2.2.1 r43.2.2.1.2.2.2)
  | none => none)
  | none => none)))))
  | none => none))
  else
  (some (((), ()), ((b3, (b4, (b5, b6))), ((b7, (b8, (b9, b10))), ()))))
def zib (N n : Nat) (b0 : List Z2) (b1 : Int) (b2 : Int) (b3 : Int) (b4 : Int) (b5 : Int) (b6 : Int) (b7 : Int) (b8 : Int) (b9 : Int) (b10 : Int) : zi1 :=
  iter (fun (rec : ((Unit × (Unit × (Unit × ((Unit × Unit) × ((List Z2) × (Int × Int)))))) × ((Int × (Int × (Int × Int))) × ((Int × (Int × (Int × Int))) × (Unit × Unit)))) → zi1) v => K4 N (fun b0 b1 b2 b3 b4 b5 b6 b7 b8 b9 b10 => rec (((), ((), ((), (((), ()), (b0, (b1, b2)))))), ((b3, (b4, (b5, b6))), ((b7, (b8, (b9, b10))), ((), ()))))) v.1.2.2.2.2.1 v.1.2.2.2.2.2.1 v.1.2.2.2.2.2.2 v.2.1.1 v.2.1.2.1 v.2.1.2.2.1 v.2.1.2.2.2 v.2.2.1.1 v.2.2.1.2.1 v.2.2.1.2.2.1 v.2.2.1.2.2.2) n (((), ((), ((), (((), ()), (b0, (b1, b2)))))), ((b3, (b4, (b5, b6))), ((b7, (b8, (b9, b10))), ((), ()))))
theorem zsd (N n : Nat) (b0 : List Z2) (b1 : Int) (b2 : Int) (b3 : Int) (b4 : Int) (b5 : Int) (b6 : Int) (b7 : Int) (b8 : Int) (b9 : Int) (b10 : Int) : zib N (n + 1) b0 b1 b2 b3 b4 b5 b6 b7 b8 b9 b10 = K4 N (fun b0  b1  b2  b3  b4  b5  b6  b7  b8  b9  b10  => zib N n b0 b1 b2 b3 b4 b5 b6 b7 b8 b9 b10) b0 b1 b2 b3 b4 b5 b6 b7 b8 b9 b10 := rfl
abbrev zi2 := Option (((Unit × (Unit × (Unit × Unit))) × (((List Z0) × ((List (List UInt8)) × ((List Int) × ((List Z4) × (List Z2))))) × ((Int × (Int × (Int × Int))) × ((Int × (Int × (Int × Int))) × (Unit × Unit))))))
def zbb (N : Nat) (rec : (List Z4) → Int → Int → (List Z0) → (List (List UInt8)) → (List Int) → (List Z4) → (List Z2) → Int → Int → Int → Int → Int → Int → Int → Int → zi2) (b0 : List Z4) (b1 : Int) (b2 : Int) (b3 : List Z0) (b4 : (List (List UInt8))) (b5 : List Int) (b6 : List Z4) (b7 : List Z2) (b8 : Int) (b9 : Int) (b10 : Int) (b11 : Int) (b12 : Int) (b13 : Int) (b14 : Int) (b15 : Int) : zi2 :=
  bif (decide (b2 < b1)) then
  (gd (inB b2 (List.length b0))
  (match z6b N (((rdL b0 b2 J4).1).1) (((rdL b0 b2 J4).1).2) b12 b13 b14 b15 with
  | some r2 => (match z07 N (((rdL b0 b2 J4).2).1) (((rdL b0 b2 J4).2).2) r2.2.1.1 r2.2.1.2.1 r2.2.1.2.2.1 r2.2.1.2.2.2 with
  | some r3 => (rec b0 b1 (IntKind.wrap .i64 (b2 + (1 : Int))) b3 b4 b5 b6 b7 b8 b9 b10 b11 r3.2.1.1 r3.2.1.2.1 r3.2.1.2.2.1 r3.2.1.2.2.2)
  | none => none)
  | none => none))
  else
  (some (((), ((), ((), ()))), ((b3, (b4, (b5, (b6, b7)))), ((b8, (b9, (b10, b11))), ((b12, (b13, (b14, b15))), ((), ()))))))
def zic (N n : Nat) (b0 : List Z4) (b1 : Int) (b2 : Int) (b3 : List Z0) (b4 : (List (List UInt8))) (b5 : List Int) (b6 : List Z4) (b7 : List Z2) (b8 : Int) (b9 : Int) (b10 : Int) (b11 : Int) (b12 : Int) (b13 : Int) (b14 : Int) (b15 : Int) : zi2 :=
  iter (fun (rec : ((Unit × (Unit × (Unit × (Unit × ((List Z4) × (Int × Int)))))) × (((List Z0) × ((List (List UInt8)) × ((List Int) × ((List Z4) × (List Z2))))) × ((Int × (Int × (Int × Int))) × ((Int × (Int × (Int × Int))) × (Unit × Unit))))) → zi2) v => zbb N (fun b0 b1 b2 b3 b4 b5 b6 b7 b8 b9 b10 b11 b12 b13 b14 b15 => rec (((), ((), ((), ((), (b0, (b1, b2)))))), ((b3, (b4, (b5, (b6, b7)))), ((b8, (b9, (b10, b11))), ((b12, (b13, (b14, b15))), ((), ())))))) v.1.2.2.2.2.1 v.1.2.2.2.2.2.1 v.1.2.2.2.2.2.2 v.2.1.1 v.2.1.2.1 v.2.1.2.2.1 v.2.1.2.2.2.1 v.2.1.2.2.2.2 v.2.2.1.1 v.2.2.1.2.1 v.2.2.1.2.2.1 v.2.2.1.2.2.2 v.2.2.2.1.1 v.2.2.2.1.2.1 v.2.2.2.1.2.2.1 v.2.2.2.1.2.2.2) n (((), ((), ((), ((), (b0, (b1, b2)))))), ((b3, (b4, (b5, (b6, b7)))), ((b8, (b9, (b10, b11))), ((b12, (b13, (b14, b15))), ((), ())))))
theorem zse (N n : Nat) (b0 : List Z4) (b1 : Int) (b2 : Int) (b3 : List Z0) (b4 : (List (List UInt8))) (b5 : List Int) (b6 : List Z4) (b7 : List Z2) (b8 : Int) (b9 : Int) (b10 : Int) (b11 : Int) (b12 : Int) (b13 : Int) (b14 : Int) (b15 : Int) : zic N (n + 1) b0 b1 b2 b3 b4 b5 b6 b7 b8 b9 b10 b11 b12 b13 b14 b15 = zbb N (fun b0  b1  b2  b3  b4  b5  b6  b7  b8  b9  b10  b11  b12  b13  b14  b15  => zic N n b0 b1 b2 b3 b4 b5 b6 b7 b8 b9 b10 b11 b12 b13 b14 b15) b0 b1 b2 b3 b4 b5 b6 b7 b8 b9 b10 b11 b12 b13 b14 b15 := rfl
def zjd (N : Nat) (a0 : z4u) : Option (Z4) :=
  bif (eqi (List.length a0.2.2.1 : Int) (0 : Int)) then
  (match z65 N a0.1 with
  | some r1 => (some ((r1.1, r1.1), (r1.2, r1.2)))
  | none => none)
  else
  (match zic N N a0.2.2.2.1 (List.length a0.2.2.2.1 : Int) (0 : Int) a0.1 a0.2.1 a0.2.2.1 a0.2.2.2.1 a0.2.2.2.2 (0 : Int) (0 : Int) (0 : Int) (0 : Int) (0 : Int) (0 : Int) (0 : Int) (0 : Int) with
  | some r4 => (match zib N N r4.2.1.2.2.2.2 (List.length r4.2.1.2.2.2.2 : Int) (0 : Int) r4.2.2.1.1 r4.2.2.1.2.1 r4.2.2.1.2.2.1 r4.2.2.1.2.2.2 r4.2.2.2.1.1 r4.2.2.2.1.2.1 r4.2.2.2.1.2.2.1 r4.2.2.2.1.2.2.2 with
  | some r44 => (some ((r44.2.2.1.1, r44.2.2.1.2.1), r44.2.2.1.2.2))
  | none => none)
  | none => none)
def y9o (N : Nat) (rec : Int → (List Int) → Int → Int → Option ((Int × Unit))) (b0 : Int) (b1 : List Int) (b2 : Int) (b3 : Int) : Option ((Int × Unit)) :=
  bif (decide (b3 < b2)) then
  (gd (inB b3 (List.length b1))
  (let x1 := (IntKind.wrap .u64 (((BitVec.ofInt (IntKind.bits .u64) b0 ^^^ BitVec.ofInt (IntKind.bits .u64) (IntKind.wrap .u64 ((rdL b1 b3 (0 : Int))))).toNat : Int)))
  let x2 := (IntKind.wrap .u64 (x1 * (1099511628211 : Int)))
  rec x2 b1 b2 (IntKind.wrap .i64 (b3 + (1 : Int)))))
  else
  (some (b0, ()))
def y7p (N n : Nat) (b0 : Int) (b1 : List Int) (b2 : Int) (b3 : Int) : Option ((Int × Unit)) :=
  iter (fun (rec : ((Int × ((List Int) × (Int × Int))) × Unit) → Option ((Int × Unit))) v => y9o N (fun b0 b1 b2 b3 => rec ((b0, (b1, (b2, b3))), ())) v.1.1 v.1.2.1 v.1.2.2.1 v.1.2.2.2) n ((b0, (b1, (b2, b3))), ())
def yd4 (N : Nat) (a0 : List Int) : Option (Int) :=
  match y7p N N (14695981039346656037 : Int) a0 (List.length a0 : Int) (0 : Int) with
  | some r3 => (some r3.1)
  | none => none
def yly (N : Nat) (a0 : z4u) (a1 : yms) : Option (Bool) :=
  bif (eqi (List.length a0.2.2.1 : Int) (0 : Int)) then
  (some (decide (a1.1 < (List.length a0.1 : Int))))
  else
  (let x1 := (decide (a1.2.1 < (List.length a0.2.2.1 : Int)))
  bif x1 then
  (some true)
  else
  (let x2 := (decide (a1.2.2 < (List.length a0.2.2.2.2 : Int)))
  some x2))
def z1n (N : Nat) (rec : (List (List UInt8)) → (List UInt8) → Int → Option (((List UInt8) × Unit))) (b0 : (List (List UInt8))) (b1 : List UInt8) (b2 : Int) : Option (((List UInt8) × Unit)) :=
  bif (decide (b2 < (List.length b0 : Int))) then
  (gd (inB b2 (List.length b0))
  (match zg9 N (rdL b0 b2 ([] : List UInt8)) b1 with
  | some r2 => (bif (decide (r2 < (0 : Int))) then
  (gd (inB b2 (List.length b0))
  (rec b0 (rdL b0 b2 ([] : List UInt8)) (IntKind.wrap .i64 (b2 + (1 : Int)))))
  else
  (rec b0 b1 (IntKind.wrap .i64 (b2 + (1 : Int)))))
  | none => none))
  else
  (some (b1, ()))
def G8 (N n : Nat) (b0 : (List (List UInt8))) (b1 : List UInt8) (b2 : Int) : Option (((List UInt8) × Unit)) :=
  iter (fun (rec : (((List (List UInt8)) × (Unit × ((List UInt8) × Int))) × Unit) → Option (((List UInt8) × Unit))) v => z1n N (fun b0 b1 b2 => rec ((b0, ((), (b1, b2))), ())) v.1.1 v.1.2.2.1 v.1.2.2.2) n ((b0, ((), (b1, b2))), ())
def w6 (N : Nat) (a0 : (List (List UInt8))) : Option ((List UInt8)) :=
  let x1 := (decide ((List.length a0 : Int) < (1 : Int)))
  bif x1 then
  (none)
  else
  (gd (inB (0 : Int) (List.length a0))
  (match G8 N N a0 (rdL a0 (0 : Int) ([] : List UInt8)) (1 : Int) with
  | some r3 => (some r3.1)
  | none => none))
def yu8 (N : Nat) (a0 : (List (List UInt8))) : Option ((List UInt8)) :=
  match w6 N a0 with
  | some r1 => (some r1)
  | none => none
def yls (N : Nat) (a0 : Z7) (a1 : Z7) : Option (Z7) :=
  match yu8 N ([a0.2, a1.2] : List (List UInt8)) with
  | some r1 => (match zdz N ((bif !(lts a0.1 a1.1) then a0.1 else a1.1), r1) with
  | some r2 => (bif r2 then
  (some (([97] : List UInt8), ([97] : List UInt8)))
  else
  (some ((bif !(lts a0.1 a1.1) then a0.1 else a1.1), r1)))
  | none => none)
  | none => none
abbrev zcv := Option (((Unit × (Unit × (List UInt8))) × (((List UInt8) × (List UInt8)) × ((List Z7) × Unit))))
def y95 (N : Nat) (rec : (List UInt8) → (List (List UInt8)) → Int → Int → (List UInt8) → (List UInt8) → (List Z7) → zcv) (b0 : List UInt8) (b1 : (List (List UInt8))) (b2 : Int) (b3 : Int) (b4 : List UInt8) (b5 : List UInt8) (b6 : List Z7) : zcv :=
  bif (decide (b3 < b2)) then
  (gd (inB b3 (List.length b1))
  (match yls N (b4, b5) (b0, (rdL b1 b3 ([] : List UInt8))) with
  | some r1 => (gd (fits (List.length b6 + 1) 32)
  (let x2 := (@HAppend.hAppend (List Z7) (List Z7) (List Z7) _ b6 ([r1] : List Z7))
  rec (rdL b1 b3 ([] : List UInt8)) b1 b2 (IntKind.wrap .i64 (b3 + (1 : Int))) b4 b5 x2))
  | none => none))
  else
  (some (((), ((), b0)), ((b4, b5), (b6, ()))))
def y7c (N n : Nat) (b0 : List UInt8) (b1 : (List (List UInt8))) (b2 : Int) (b3 : Int) (b4 : List UInt8) (b5 : List UInt8) (b6 : List Z7) : zcv :=
  iter (fun (rec : ((Unit × (Unit × ((List UInt8) × ((List (List UInt8)) × (Int × Int))))) × (((List UInt8) × (List UInt8)) × ((List Z7) × Unit))) → zcv) v => y95 N (fun b0 b1 b2 b3 b4 b5 b6 => rec (((), ((), (b0, (b1, (b2, b3))))), ((b4, b5), (b6, ())))) v.1.2.2.1 v.1.2.2.2.1 v.1.2.2.2.2.1 v.1.2.2.2.2.2 v.2.1.1 v.2.1.2 v.2.2.1) n (((), ((), (b0, (b1, (b2, b3))))), ((b4, b5), (b6, ())))
def yu9 (N : Nat) (a0 : Z7) (a1 : (List (List UInt8))) : Option ((List Z7)) :=
  match y7c N N ([] : List UInt8) a1 (List.length a1 : Int) (0 : Int) a0.1 a0.2 ([] : List Z7) with
  | some r3 => (match yls N r3.2.1 (r3.1.2.2, ([] : List UInt8)) with
  | some r4 => (gd (fits (List.length r3.2.2.1 + 1) 32)
  (let x5 := (@HAppend.hAppend (List Z7) (List Z7) (List Z7) _ r3.2.2.1 ([r4] : List Z7))
  some x5))
  | none => none)
  | none => none
def yd2 (N : Nat) (a0 : z4u) (a1 : Z7) : Option ((List Z7)) :=
  bif (eqi (List.length a0.2.2.1 : Int) (0 : Int)) then
  (some ([] : List Z7))
  else
  (match yu9 N a1 a0.2.1 with
  | some r1 => (some r1)
  | none => none)
def y9l (N : Nat) (rec : (List Z7) → (List Z7) → Int → Option ((Bool × Unit) ⊕ (Unit × Unit))) (b0 : List Z7) (b1 : List Z7) (b2 : Int) : Option ((Bool × Unit) ⊕ (Unit × Unit)) :=
  bif (decide (b2 < (List.length b0 : Int))) then
  (gd (inB b2 (List.length b0))
  (gd (inB b2 (List.length b1))
  (let x2 := (!(eqs ((rdL b0 b2 z6z).1) ((rdL b1 b2 z6z).1) && (eqs ((rdL b0 b2 z6z).2) ((rdL b1 b2 z6z).2) && true)))
  bif x2 then
  (some (.inl (false, ())))
  else
  (rec b0 b1 (IntKind.wrap .i64 (b2 + (1 : Int)))))))
  else
  (some (.inr ((), ())))
def y7i (N n : Nat) (b0 : List Z7) (b1 : List Z7) (b2 : Int) : Option ((Bool × Unit) ⊕ (Unit × Unit)) :=
  iter (fun (rec : (((List Z7) × ((List Z7) × Int)) × Unit) → Option ((Bool × Unit) ⊕ (Unit × Unit))) v => y9l N (fun b0 b1 b2 => rec ((b0, (b1, b2)), ())) v.1.1 v.1.2.1 v.1.2.2) n ((b0, (b1, b2)), ())
def yug (N : Nat) (a0 : List Z7) (a1 : List Z7) : Option (Bool) :=
  let x1 := (!(eqi (List.length a0 : Int) (List.length a1 : Int)))
  bif x1 then
  (some false)
  else
  (match y7i N N a0 a1 (0 : Int) with
  | some r3 => (match r3 with
  | .inl r4 => (some r4.1)
  | .inr r5 => (some true))
  | none => none)
def z08 (N : Nat) (b0 : Bool) : Option ((Bool × Unit)) :=
  some (b0, ())
def z4i (N : Nat) (b0 : Bool) (b1 : Bool) (b2 : List Z0) (b3 : (List (List UInt8))) (b4 : List Int) (b5 : List Z4) (b6 : List Z2) (b7 : List Z0) (b8 : (List (List UInt8))) (b9 : List Int) (b10 : List Z4) (b11 : List Z2) : Option ((Bool × Unit)) :=
  bif b0 then
  (bif b1 then
  (match zjd N (b2, (b3, (b4, (b5, b6)))) with
  | some r23 => (let x24 := (eqi r23.1.1 (4 : Int) && (eqi r23.1.2 (6 : Int) && (eqi r23.2.1 (0 : Int) && (eqi r23.2.2 (45 : Int) && true))))
  bif x24 then
  (match yd4 N ([] : List Int) with
  | some r25 => (bif (eqi r25 (14695981039346656037 : Int)) then
  (match yd4 N ([(97 : Int)] : List Int) with
  | some r26 => (bif (eqi r26 (12638187200555641996 : Int)) then
  (match yly N (b7, (b8, (b9, (b10, b11)))) ((0 : Int), ((0 : Int), (0 : Int))) with
  | some r27 => (bif r27 then
  (match yly N (b7, (b8, (b9, (b10, b11)))) ((1 : Int), ((0 : Int), (0 : Int))) with
  | some r28 => (bif (!r28) then
  (match yd2 N (b2, (b3, (b4, (b5, b6)))) (([] : List UInt8), ([] : List UInt8)) with
  | some r29 => (let x30 := ([(([] : List UInt8), ([98] : List UInt8)), (([98] : List UInt8), ([] : List UInt8))] : List Z7)
  match yug N r29 x30 with
  | some r31 => (bif r31 then
  (match yd2 N (b7, (b8, (b9, (b10, b11)))) (([] : List UInt8), ([] : List UInt8)) with
  | some r32 => (match z08 N (eqi (List.length r32 : Int) (0 : Int)) with
  | some r33 => (some (r33.1, ()))
  | none => none)
  | none => none)
  else
  (match z08 N false with
  | some r34 => (some (r34.1, ()))
  | none => none))
  | none => none)
  | none => none)
  else
  (match z08 N false with
  | some r35 => (some (r35.1, ()))
  | none => none))
  | none => none)
  else
  (match z08 N false with
  | some r36 => (some (r36.1, ()))
  | none => none))
  | none => none)
  else
  (match z08 N false with
  | some r37 => (some (r37.1, ()))
  | none => none))
  | none => none)
  else
  (match z08 N false with
  | some r38 => (some (r38.1, ()))
  | none => none))
  | none => none)
  else
  (match z08 N false with
  | some r39 => (some (r39.1, ()))
  | none => none))
  | none => none)
  else
  (match z08 N false with
  | some r40 => (some (r40.1, ()))
  | none => none))
  else
  (match z08 N false with
  | some r41 => (some (r41.1, ()))
  | none => none)
def z4j (N : Nat) (b0 : Bool) (b1 : List Z0) (b2 : (List (List UInt8))) (b3 : List Int) (b4 : List Z4) (b5 : List Z2) (b6 : List Z0) (b7 : (List (List UInt8))) (b8 : List Int) (b9 : List Z4) (b10 : List Z2) (b11 : List Z0) (b12 : (List (List UInt8))) (b13 : List Int) (b14 : List Z4) (b15 : List Z2) (b16 : List Z0) (b17 : (List (List UInt8))) (b18 : List Int) (b19 : List Z4) (b20 : List Z2) : Option ((Bool × Unit)) :=
  match zba N (b11, (b12, (b13, (b14, b15)))) (([] : List UInt8), ([] : List UInt8)) with
  | some r17 => (bif r17 then
  (match zba N (b16, (b17, (b18, (b19, b20)))) (([] : List UInt8), ([] : List UInt8)) with
  | some r18 => (bif (!r18) then
  (match zba N (b1, (b2, (b3, (b4, b5)))) (([] : List UInt8), ([] : List UInt8)) with
  | some r19 => (bif r19 then
  (match zba N (b1, (b2, (b3, (b4, b5)))) (([98] : List UInt8), ([] : List UInt8)) with
  | some r20 => (bif (!r20) then
  (match zba N (b6, (b7, (b8, (b9, b10)))) (([107] : List UInt8), ([] : List UInt8)) with
  | some r21 => (bif r21 then
  (match zba N (b6, (b7, (b8, (b9, b10)))) (([] : List UInt8), ([107] : List UInt8)) with
  | some r22 => (match z4i N b0 (!r22) b1 b2 b3 b4 b5 b6 b7 b8 b9 b10 with
  | some r42 => (some (r42.1, ()))
  | none => none)
  | none => none)
  else
  (match z4i N b0 false b1 b2 b3 b4 b5 b6 b7 b8 b9 b10 with
  | some r43 => (some (r43.1, ()))
  | none => none))
  | none => none)
  else
  (match z4i N b0 false b1 b2 b3 b4 b5 b6 b7 b8 b9 b10 with
  | some r44 => (some (r44.1, ()))
  | none => none))
  | none => none)
  else
  (match z4i N b0 false b1 b2 b3 b4 b5 b6 b7 b8 b9 b10 with
  | some r45 => (some (r45.1, ()))
  | none => none))
  | none => none)
  else
  (match z4i N b0 false b1 b2 b3 b4 b5 b6 b7 b8 b9 b10 with
  | some r46 => (some (r46.1, ()))
  | none => none))
  | none => none)
  else
  (match z4i N b0 false b1 b2 b3 b4 b5 b6 b7 b8 b9 b10 with
  | some r47 => (some (r47.1, ()))
  | none => none))
  | none => none
def zvb (N : Nat) : Option (Bool) :=
  let x1 := ([(((2 : Int), (3 : Int)), ((10 : Int), (20 : Int))), (((2 : Int), (3 : Int)), ((10 : Int), (20 : Int)))] : List Z4)
  let x2 := ([((1 : Int), (([97, 47, 2, 0, 0] : List UInt8), (([49, 50, 51, 52, 53] : List UInt8), ((([] : List UInt8), ([] : List UInt8)), (([] : List UInt8), (([] : List UInt8), (0 : Int)))))))] : List Z2)
  let x3 := ([(([107] : List UInt8), (([118] : List UInt8), (258 : Int)))] : List Z0)
  let x4 := ([(((0 : Int), (0 : Int)), ((0 : Int), (0 : Int)))] : List Z4)
  let x5 := ([(((0 : Int), (0 : Int)), ((0 : Int), (0 : Int)))] : List Z4)
  match yd3 N ([] : List Int) with
  | some r6 => (let x7 := ([(76 : Int), (0 : Int), (0 : Int), (0 : Int), (0 : Int)] : List Int)
  match yd3 N x7 with
  | some r8 => (match znc N (([] : List Z0), (([] : List (List UInt8)), (([] : List Int), (([] : List Z4), ([] : List Z2))))) with
  | some r9 => (let x10 := ([(76 : Int), (0 : Int), (0 : Int), (0 : Int), (0 : Int)] : List Int)
  match zim N r9 x10 with
  | some r11 => (bif r11 then
  (match znc N (x3, (([] : List (List UInt8)), (([] : List Int), (([] : List Z4), ([] : List Z2))))) with
  | some r12 => (let x13 := ([(76 : Int), (0 : Int), (0 : Int), (0 : Int), (1 : Int), (0 : Int), (1 : Int), (107 : Int), (0 : Int), (1 : Int), (118 : Int), (0 : Int), (0 : Int), (1 : Int), (2 : Int)] : List Int)
  match zim N r12 x13 with
  | some r14 => (bif r14 then
  (match znc N (([] : List Z0), (([([98] : List UInt8)] : List (List UInt8)), (([(1 : Int)] : List Int), (x5, ([] : List Z2))))) with
  | some r15 => (bif (eqi (List.length r15 : Int) (0 : Int)) then
  (bif (eqi r6.2 (100 : Int)) then
  (bif (eqi r8.2 (0 : Int)) then
  (match yue N r8.1 (([] : List Z0), (([] : List (List UInt8)), (([] : List Int), (([] : List Z4), ([] : List Z2))))) with
  | some r16 => (match z4j N r16 ([] : List Z0) ([([98] : List UInt8)] : List (List UInt8)) ([(1 : Int), (2 : Int)] : List Int) x1 x2 x3 ([] : List (List UInt8)) ([] : List Int) ([] : List Z4) ([] : List Z2) ([] : List Z0) ([] : List (List UInt8)) ([(4095 : Int)] : List Int) x4 ([] : List Z2) ([] : List Z0) ([([98] : List UInt8)] : List (List UInt8)) ([(1 : Int)] : List Int) x5 ([] : List Z2) with
  | some r48 => (some r48.1)
  | none => none)
  | none => none)
  else
  (match z4j N false ([] : List Z0) ([([98] : List UInt8)] : List (List UInt8)) ([(1 : Int), (2 : Int)] : List Int) x1 x2 x3 ([] : List (List UInt8)) ([] : List Int) ([] : List Z4) ([] : List Z2) ([] : List Z0) ([] : List (List UInt8)) ([(4095 : Int)] : List Int) x4 ([] : List Z2) ([] : List Z0) ([([98] : List UInt8)] : List (List UInt8)) ([(1 : Int)] : List Int) x5 ([] : List Z2) with
  | some r49 => (some r49.1)
  | none => none))
  else
  (match z4j N false ([] : List Z0) ([([98] : List UInt8)] : List (List UInt8)) ([(1 : Int), (2 : Int)] : List Int) x1 x2 x3 ([] : List (List UInt8)) ([] : List Int) ([] : List Z4) ([] : List Z2) ([] : List Z0) ([] : List (List UInt8)) ([(4095 : Int)] : List Int) x4 ([] : List Z2) ([] : List Z0) ([([98] : List UInt8)] : List (List UInt8)) ([(1 : Int)] : List Int) x5 ([] : List Z2) with
  | some r50 => (some r50.1)
  | none => none))
  else
  (match z4j N false ([] : List Z0) ([([98] : List UInt8)] : List (List UInt8)) ([(1 : Int), (2 : Int)] : List Int) x1 x2 x3 ([] : List (List UInt8)) ([] : List Int) ([] : List Z4) ([] : List Z2) ([] : List Z0) ([] : List (List UInt8)) ([(4095 : Int)] : List Int) x4 ([] : List Z2) ([] : List Z0) ([([98] : List UInt8)] : List (List UInt8)) ([(1 : Int)] : List Int) x5 ([] : List Z2) with
  | some r51 => (some r51.1)
  | none => none))
  | none => none)
  else
  (match z4j N false ([] : List Z0) ([([98] : List UInt8)] : List (List UInt8)) ([(1 : Int), (2 : Int)] : List Int) x1 x2 x3 ([] : List (List UInt8)) ([] : List Int) ([] : List Z4) ([] : List Z2) ([] : List Z0) ([] : List (List UInt8)) ([(4095 : Int)] : List Int) x4 ([] : List Z2) ([] : List Z0) ([([98] : List UInt8)] : List (List UInt8)) ([(1 : Int)] : List Int) x5 ([] : List Z2) with
  | some r52 => (some r52.1)
  | none => none))
  | none => none)
  | none => none)
  else
  (match z4j N false ([] : List Z0) ([([98] : List UInt8)] : List (List UInt8)) ([(1 : Int), (2 : Int)] : List Int) x1 x2 x3 ([] : List (List UInt8)) ([] : List Int) ([] : List Z4) ([] : List Z2) ([] : List Z0) ([] : List (List UInt8)) ([(4095 : Int)] : List Int) x4 ([] : List Z2) ([] : List Z0) ([([98] : List UInt8)] : List (List UInt8)) ([(1 : Int)] : List Int) x5 ([] : List Z2) with
  | some r53 => (some r53.1)
  | none => none))
  | none => none)
  | none => none)
  | none => none)
  | none => none
def ztj (N : Nat) (a0 : Int) : Option ((List UInt8)) :=
  let x1 := ([([97, 47] : List UInt8), ([98, 47] : List UInt8), ([97, 47, 98, 47] : List UInt8), ([99, 47] : List UInt8)] : List (List UInt8))
  let x2 := ([([1] : List UInt8), ([2, 0, 0] : List UInt8), ([2, 0, 1] : List UInt8), ([2, 0, 2] : List UInt8), ([3, 120] : List UInt8)] : List (List UInt8))
  let x3 := (decide ((Int.tmod a0 (24 : Int)) < (20 : Int)))
  bif x3 then
  (let x4 := (IntKind.wrap .u8 (Int.tdiv (Int.tmod a0 (24 : Int)) (5 : Int)))
  gd (inB x4 (List.length x1))
  (let x5 := (Int.tmod (Int.tmod a0 (24 : Int)) (5 : Int))
  gd (inB x5 (List.length x2))
  (gd (decide (List.length (rdL x1 x4 ([] : List UInt8)) + List.length (rdL x2 x5 ([] : List UInt8)) < maxS))
  (let x6 := (@HAppend.hAppend (List UInt8) (List UInt8) (List UInt8) _ (rdL x1 x4 ([] : List UInt8)) (rdL x2 x5 ([] : List UInt8)))
  some x6))))
  else
  (let x7 := ([([1] : List UInt8), ([5, 48, 48, 48, 48, 48, 48, 48, 49, 47, 1] : List UInt8), ([6, 97, 47, 1] : List UInt8), ([97, 47, 98, 47, 99, 47, 1] : List UInt8)] : List (List UInt8))
  let x8 := (IntKind.wrap .u8 ((Int.tmod a0 (24 : Int)) - (20 : Int)))
  gd (inB x8 (List.length x7))
  (some (rdL x7 x8 ([] : List UInt8))))
def zn5 (N : Nat) (a0 : V2) : Option (Z0) :=
  match ztj N a0.1 with
  | some r1 => (let x2 := ([([] : List UInt8), ([118] : List UInt8), ([119, 120] : List UInt8), ([120, 121, 122] : List UInt8)] : List (List UInt8))
  gd (inB (Int.tmod a0.2.1 (4 : Int)) (List.length x2))
  (let x3 := (rdL x2 (Int.tmod a0.2.1 (4 : Int)) ([] : List UInt8))
  let x4 := (IntKind.wrap .i64 ((Int.tmod a0.2.2 (4 : Int))))
  some (r1, (x3, x4))))
  | none => none
def z8l (N : Nat) (b0 : List Z0) (b1 : Bool) (b2 : Int) (b3 : List UInt8) (b4 : List UInt8) (b5 : Int) (b6 : List Z0) : Option ((((List Z0) × (Unit × (Unit × (Bool × Int)))) × (((List UInt8) × ((List UInt8) × Int)) × ((List Z0) × Unit)))) :=
  gd (inB b2 (List.length b0))
  (bif (!(eqs ((rdL b0 b2 X8).1) b3)) then
  (gd (inB b2 (List.length b0))
  (gd (fits (List.length b6 + 1) 40)
  (let x2 := (@HAppend.hAppend (List Z0) (List Z0) (List Z0) _ b6 ([(rdL b0 b2 X8)] : List Z0))
  some ((b0, ((), ((), (b1, b2)))), ((b3, (b4, b5)), (x2, ()))))))
  else
  (some ((b0, ((), ((), (b1, b2)))), ((b3, (b4, b5)), (b6, ())))))
abbrev zfa := Option (((Unit × (Unit × Bool)) × (((List UInt8) × ((List UInt8) × Int)) × ((List Z0) × Unit))))
def z5r (N : Nat) (rec : (List Z0) → Bool → Int → (List UInt8) → (List UInt8) → Int → (List Z0) → zfa) (b0 : List Z0) (b1 : Bool) (b2 : Int) (b3 : List UInt8) (b4 : List UInt8) (b5 : Int) (b6 : List Z0) : zfa :=
  bif (decide (b2 < (List.length b0 : Int))) then
  (bif (!b1) then
  (gd (inB b2 (List.length b0))
  (bif (!(lts ((rdL b0 b2 X8).1) b3)) then
  (gd (fits (List.length b6 + 1) 40)
  (let x1 := (@HAppend.hAppend (List Z0) (List Z0) (List Z0) _ b6 ([(b3, (b4, b5))] : List Z0))
  match z8l N b0 true b2 b3 b4 b5 x1 with
  | some r3 => (let x4 := (IntKind.wrap .i64 (r3.1.2.2.2.2 + (1 : Int)))
  rec r3.1.1 r3.1.2.2.2.1 x4 r3.2.1.1 r3.2.1.2.1 r3.2.1.2.2 r3.2.2.1)
  | none => none))
  else
  (match z8l N b0 b1 b2 b3 b4 b5 b6 with
  | some r5 => (let x6 := (IntKind.wrap .i64 (r5.1.2.2.2.2 + (1 : Int)))
  rec r5.1.1 r5.1.2.2.2.1 x6 r5.2.1.1 r5.2.1.2.1 r5.2.1.2.2 r5.2.2.1)
  | none => none)))
  else
  (match z8l N b0 b1 b2 b3 b4 b5 b6 with
  | some r7 => (let x8 := (IntKind.wrap .i64 (r7.1.2.2.2.2 + (1 : Int)))
  rec r7.1.1 r7.1.2.2.2.1 x8 r7.2.1.1 r7.2.1.2.1 r7.2.1.2.2 r7.2.2.1)
  | none => none))
  else
  (some (((), ((), b1)), ((b3, (b4, b5)), (b6, ()))))
def z8m (N n : Nat) (b0 : List Z0) (b1 : Bool) (b2 : Int) (b3 : List UInt8) (b4 : List UInt8) (b5 : Int) (b6 : List Z0) : zfa :=
  iter (fun (rec : (((List Z0) × (Unit × (Unit × (Bool × Int)))) × (((List UInt8) × ((List UInt8) × Int)) × ((List Z0) × Unit))) → zfa) v => z5r N (fun b0 b1 b2 b3 b4 b5 b6 => rec ((b0, ((), ((), (b1, b2)))), ((b3, (b4, b5)), (b6, ())))) v.1.1 v.1.2.2.2.1 v.1.2.2.2.2 v.2.1.1 v.2.1.2.1 v.2.1.2.2 v.2.2.1) n ((b0, ((), ((), (b1, b2)))), ((b3, (b4, b5)), (b6, ())))
def y6w (N : Nat) (a0 : List Z0) (a1 : Z0) : Option ((List Z0)) :=
  match z8m N N a0 false (0 : Int) a1.1 a1.2.1 a1.2.2 ([] : List Z0) with
  | some r9 => (bif (!r9.1.2.2) then
  (gd (fits (List.length r9.2.2.1 + 1) 40)
  (let x10 := (@HAppend.hAppend (List Z0) (List Z0) (List Z0) _ r9.2.2.1 ([r9.2.1] : List Z0))
  some x10))
  else
  (some r9.2.2.1))
  | none => none
abbrev zd1 := Option ((Unit × ((List Z0) × Unit)))
def zda (N : Nat) (rec : (List V2) → Int → (List Z0) → zd1) (b0 : List V2) (b1 : Int) (b2 : List Z0) : zd1 :=
  bif (decide (b1 < (List.length b0 : Int))) then
  (bif (decide (b1 < (40 : Int))) then
  (gd (inB b1 (List.length b0))
  (match zn5 N (rdL b0 b1 y39) with
  | some r1 => (match y6w N b2 r1 with
  | some r2 => (rec b0 (IntKind.wrap .i64 (b1 + (1 : Int))) r2)
  | none => none)
  | none => none))
  else
  (some ((), (b2, ()))))
  else
  (some ((), (b2, ())))
def zql (N n : Nat) (b0 : List V2) (b1 : Int) (b2 : List Z0) : zd1 :=
  iter (fun (rec : (((List V2) × (Unit × Int)) × ((List Z0) × Unit)) → zd1) v => zda N (fun b0 b1 b2 => rec ((b0, ((), b1)), (b2, ()))) v.1.1 v.1.2.2 v.2.1) n ((b0, ((), b1)), (b2, ()))
def zn6 (N : Nat) (a0 : List V2) : Option ((List Z0)) :=
  match zql N N a0 (0 : Int) ([] : List Z0) with
  | some r3 => (some r3.2.1)
  | none => none
abbrev z9w := Option ((((List (List UInt8)) × (Int × (Unit × Bool))) × ((List (List UInt8)) × Unit)))
def z5m (N : Nat) (rec : (List (List UInt8)) → Int → Bool → Int → (List (List UInt8)) → (List (List UInt8)) → z9w) (b0 : (List (List UInt8))) (b1 : Int) (b2 : Bool) (b3 : Int) (b4 : (List (List UInt8))) (b5 : (List (List UInt8))) : z9w :=
  bif (decide (b3 < (List.length b4 : Int))) then
  (bif (!b2) then
  (gd (inB b1 (List.length b0))
  (gd (inB b3 (List.length b4))
  (let x2 := (lts (rdL b0 b1 ([] : List UInt8)) (rdL b4 b3 ([] : List UInt8)) || eqs (rdL b0 b1 ([] : List UInt8)) (rdL b4 b3 ([] : List UInt8)))
  bif x2 then
  (gd (inB b1 (List.length b0))
  (gd (inB b3 (List.length b4))
  (let x3 := (lts (rdL b0 b1 ([] : List UInt8)) (rdL b4 b3 ([] : List UInt8)))
  bif x3 then
  (gd (inB b1 (List.length b0))
  (let x4 := ([(rdL b0 b1 ([] : List UInt8))] : List (List UInt8))
  gd (fits (List.length b5 + List.length x4) 16)
  (let x5 := (@HAppend.hAppend (List (List UInt8)) (List (List UInt8)) (List (List UInt8)) _ b5 x4)
  gd (inB b3 (List.length b4))
  (let x6 := ([(rdL b4 b3 ([] : List UInt8))] : List (List UInt8))
  gd (fits (List.length x5 + List.length x6) 16)
  (let x7 := (@HAppend.hAppend (List (List UInt8)) (List (List UInt8)) (List (List UInt8)) _ x5 x6)
  rec b0 b1 true (IntKind.wrap .i64 (b3 + (1 : Int))) b4 x7)))))
  else
  (gd (inB b3 (List.length b4))
  (let x8 := ([(rdL b4 b3 ([] : List UInt8))] : List (List UInt8))
  gd (fits (List.length b5 + List.length x8) 16)
  (let x9 := (@HAppend.hAppend (List (List UInt8)) (List (List UInt8)) (List (List UInt8)) _ b5 x8)
  rec b0 b1 true (IntKind.wrap .i64 (b3 + (1 : Int))) b4 x9))))))
  else
  (gd (inB b3 (List.length b4))
  (let x10 := ([(rdL b4 b3 ([] : List UInt8))] : List (List UInt8))
  gd (fits (List.length b5 + List.length x10) 16)
  (let x11 := (@HAppend.hAppend (List (List UInt8)) (List (List UInt8)) (List (List UInt8)) _ b5 x10)
  rec b0 b1 b2 (IntKind.wrap .i64 (b3 + (1 : Int))) b4 x11))))))
  else
  (gd (inB b3 (List.length b4))
  (let x12 := ([(rdL b4 b3 ([] : List UInt8))] : List (List UInt8))
  gd (fits (List.length b5 + List.length x12) 16)
  (let x13 := (@HAppend.hAppend (List (List UInt8)) (List (List UInt8)) (List (List UInt8)) _ b5 x12)
  rec b0 b1 b2 (IntKind.wrap .i64 (b3 + (1 : Int))) b4 x13))))
  else
  (some ((b0, (b1, ((), b2))), (b5, ())))
def z5n (N n : Nat) (b0 : (List (List UInt8))) (b1 : Int) (b2 : Bool) (b3 : Int) (b4 : (List (List UInt8))) (b5 : (List (List UInt8))) : z9w :=
  iter (fun (rec : (((List (List UInt8)) × (Unit × (Int × (Unit × (Bool × Int))))) × ((List (List UInt8)) × ((List (List UInt8)) × Unit))) → z9w) v => z5m N (fun b0 b1 b2 b3 b4 b5 => rec ((b0, ((), (b1, ((), (b2, b3))))), (b4, (b5, ())))) v.1.1 v.1.2.2.1 v.1.2.2.2.2.1 v.1.2.2.2.2.2 v.2.1 v.2.2.1) n ((b0, ((), (b1, ((), (b2, b3))))), (b4, (b5, ())))
theorem zhn (N n : Nat) (b0 : (List (List UInt8))) (b1 : Int) (b2 : Bool) (b3 : Int) (b4 : (List (List UInt8))) (b5 : (List (List UInt8))) : z5n N (n + 1) b0 b1 b2 b3 b4 b5 = z5m N (fun b0  b1  b2  b3  b4  b5  => z5n N n b0 b1 b2 b3 b4 b5) b0 b1 b2 b3 b4 b5 := rfl
abbrev z9x := Option ((Unit × ((List (List UInt8)) × Unit)))
def z5o (N : Nat) (rec : (List (List UInt8)) → Int → (List (List UInt8)) → z9x) (b0 : (List (List UInt8))) (b1 : Int) (b2 : (List (List UInt8))) : z9x :=
  bif (decide (b1 < (List.length b0 : Int))) then
  (gd (inB b1 (List.length b0))
  (let x1 := (eqs (rdL b0 b1 ([] : List UInt8)) ([] : List UInt8))
  match z5n N N b0 b1 x1 (0 : Int) b2 ([] : List (List UInt8)) with
  | some r14 => (bif (!r14.1.2.2.2) then
  (gd (inB r14.1.2.1 (List.length r14.1.1))
  (let x15 := ([(rdL r14.1.1 r14.1.2.1 ([] : List UInt8))] : List (List UInt8))
  gd (fits (List.length r14.2.1 + List.length x15) 16)
  (let x16 := (@HAppend.hAppend (List (List UInt8)) (List (List UInt8)) (List (List UInt8)) _ r14.2.1 x15)
  rec r14.1.1 (IntKind.wrap .i64 (r14.1.2.1 + (1 : Int))) x16)))
  else
  (rec r14.1.1 (IntKind.wrap .i64 (r14.1.2.1 + (1 : Int))) r14.2.1))
  | none => none))
  else
  (some ((), (b2, ())))
def z8t (N n : Nat) (b0 : (List (List UInt8))) (b1 : Int) (b2 : (List (List UInt8))) : z9x :=
  iter (fun (rec : (((List (List UInt8)) × (Unit × Int)) × ((List (List UInt8)) × Unit)) → z9x) v => z5o N (fun b0 b1 b2 => rec ((b0, ((), b1)), (b2, ()))) v.1.1 v.1.2.2 v.2.1) n ((b0, ((), b1)), (b2, ()))
theorem zho (N n : Nat) (b0 : (List (List UInt8))) (b1 : Int) (b2 : (List (List UInt8))) : z8t N (n + 1) b0 b1 b2 = z5o N (fun b0  b1  b2  => z8t N n b0 b1 b2) b0 b1 b2 := rfl
def zkn (N : Nat) (a0 : (List (List UInt8))) : Option ((List (List UInt8))) :=
  match z8t N N a0 (0 : Int) ([] : List (List UInt8)) with
  | some r17 => (some r17.2.1)
  | none => none
def ze0 (N : Nat) (a0 : Int) : Option ((List UInt8)) :=
  let x1 := ([([97, 47] : List UInt8), ([98, 47] : List UInt8), ([97, 47, 98, 47] : List UInt8), ([99, 47] : List UInt8), ([100, 47] : List UInt8)] : List (List UInt8))
  gd (inB (Int.tmod a0 (5 : Int)) (List.length x1))
  (let x2 := (rdL x1 (Int.tmod a0 (5 : Int)) ([] : List UInt8))
  some x2)
def zti (N : Nat) (a0 : Int) : Option ((List UInt8)) :=
  match ze0 N (Int.tmod a0 (4 : Int)) with
  | some r1 => (let x2 := ([([1] : List UInt8), ([2, 0, 0] : List UInt8), ([2, 0, 1] : List UInt8), ([2, 0, 2] : List UInt8), ([3, 120] : List UInt8)] : List (List UInt8))
  let x3 := (Int.tmod (IntKind.wrap .u8 (Int.tdiv a0 (4 : Int))) (5 : Int))
  gd (inB x3 (List.length x2))
  (gd (decide (List.length r1 + List.length (rdL x2 x3 ([] : List UInt8)) < maxS))
  (let x4 := (@HAppend.hAppend (List UInt8) (List UInt8) (List UInt8) _ r1 (rdL x2 x3 ([] : List UInt8)))
  some x4)))
  | none => none
abbrev z9v := Option ((((List UInt8) × (Unit × Int)) × (((List UInt8) × (List UInt8)) × Unit)))
def za3 (N : Nat) (rec : (List UInt8) → Int → (List UInt8) → (List UInt8) → z9v) (b0 : List UInt8) (b1 : Int) (b2 : List UInt8) (b3 : List UInt8) : z9v :=
  bif (decide ((0 : Int) < b1)) then
  (gd (inB (IntKind.wrap .i64 (b1 - (1 : Int))) (List.length b0))
  (let x1 := (eqi (bt b0 (IntKind.wrap .i64 (b1 - (1 : Int)))) (255 : Int))
  bif x1 then
  (rec b0 (IntKind.wrap .i64 (b1 - (1 : Int))) b2 b3)
  else
  (some ((b0, ((), b1)), ((b2, b3), ())))))
  else
  (some ((b0, ((), b1)), ((b2, b3), ())))
def z8s (N n : Nat) (b0 : List UInt8) (b1 : Int) (b2 : List UInt8) (b3 : List UInt8) : z9v :=
  iter (fun (rec : (((List UInt8) × (Unit × Int)) × (((List UInt8) × (List UInt8)) × Unit)) → z9v) v => za3 N (fun b0 b1 b2 b3 => rec ((b0, ((), b1)), ((b2, b3), ()))) v.1.1 v.1.2.2 v.2.1.1 v.2.1.2) n ((b0, ((), b1)), ((b2, b3), ()))
theorem zhm (N n : Nat) (b0 : List UInt8) (b1 : Int) (b2 : List UInt8) (b3 : List UInt8) : z8s N (n + 1) b0 b1 b2 b3 = za3 N (fun b0  b1  b2  b3  => z8s N n b0 b1 b2 b3) b0 b1 b2 b3 := rfl
def z3w (N : Nat) (a0 : List UInt8) : Option (Z7) :=
  match z8s N N a0 (List.length a0 : Int) ([] : List UInt8) ([] : List UInt8) with
  | some r2 => (bif (eqi r2.1.2.2 (0 : Int)) then
  (some (r2.1.1, ([] : List UInt8)))
  else
  (gd (decide (0 ≤ (0 : Int)) && (decide ((0 : Int) ≤ (IntKind.wrap .i64 (r2.1.2.2 - (1 : Int)))) && decide ((IntKind.wrap .i64 (r2.1.2.2 - (1 : Int))) ≤ (List.length r2.1.1 : Int))))
  (let x3 := (cut2 r2.1.1 (0 : Int) (IntKind.wrap .i64 (r2.1.2.2 - (1 : Int))))
  gd (inB (IntKind.wrap .i64 (r2.1.2.2 - (1 : Int))) (List.length r2.1.1))
  (let x4 := (bt r2.1.1 (IntKind.wrap .i64 (r2.1.2.2 - (1 : Int))))
  let x5 := ([(IntKind.wrap .u8 (x4 + (1 : Int)))] : List Int)
  gd (decide (List.length x3 + List.length (z39 x5) < maxS))
  (let x6 := (@HAppend.hAppend (List UInt8) (List UInt8) (List UInt8) _ x3 (z39 x5))
  some (r2.1.1, x6))))))
  | none => none
def z4v (N : Nat) (a0 : List UInt8) (a1 : List UInt8) : Option (Bool) :=
  let x1 := (decide ((List.length a1 : Int) ≤ (List.length a0 : Int)))
  bif x1 then
  (gd (decide (0 ≤ (0 : Int)) && (decide ((0 : Int) ≤ (List.length a1 : Int)) && decide ((List.length a1 : Int) ≤ (List.length a0 : Int))))
  (let x2 := (eqs (cut2 a0 (0 : Int) (List.length a1 : Int)) a1)
  some x2))
  else
  (some false)
def zq4 (N : Nat) (a0 : Int) : Option ((List UInt8)) :=
  let x1 := ([([] : List UInt8), ([120] : List UInt8), ([121, 121] : List UInt8), ([49, 50, 51, 52, 53, 54, 55, 56, 57, 48] : List UInt8), ([0, 255] : List UInt8)] : List (List UInt8))
  gd (inB (Int.tmod a0 (5 : Int)) (List.length x1))
  (let x2 := (rdL x1 (Int.tmod a0 (5 : Int)) ([] : List UInt8))
  some x2)
def zi4 (N : Nat) (a0 : List UInt8) : Option (Z7) :=
  gd (decide (List.length a0 + List.length ([0] : List UInt8) < maxS))
  (let x1 := (@HAppend.hAppend (List UInt8) (List UInt8) (List UInt8) _ a0 ([0] : List UInt8))
  some (a0, x1))
def z3l (N : Nat) (b0 : List UInt8) (b1 : List UInt8) (b2 : List UInt8) (b3 : Int) (b4 : Int) (b5 : Int) (b6 : Int) (b7 : Int) (b8 : Int) (b9 : Int) (b10 : List UInt8) (b11 : List UInt8) (b12 : List UInt8) (b13 : List UInt8) (b14 : List UInt8) (b15 : List UInt8) (b16 : Int) (b17 : List UInt8) (b18 : List UInt8) : Option ((Unit × ((Int × ((List UInt8) × ((List UInt8) × ((List UInt8) × ((List UInt8) × ((List UInt8) × ((List UInt8) × Int))))))) × Unit))) :=
  let x9 := (IntKind.wrap .i64 ((Int.tmod b8 (8 : Int))))
  bif (eqi (Int.tmod b3 (6 : Int)) (0 : Int)) then
  (match zq4 N b5 with
  | some r10 => (some ((), (((1 : Int), (b0, (r10, (([] : List UInt8), (([] : List UInt8), (([] : List UInt8), (([] : List UInt8), x9))))))), ())))
  | none => none)
  else
  (bif (eqi (Int.tmod b3 (6 : Int)) (1 : Int)) then
  (some ((), (((2 : Int), (b0, (([] : List UInt8), (([] : List UInt8), (([] : List UInt8), (([] : List UInt8), (([] : List UInt8), (0 : Int)))))))), ())))
  else
  (bif (eqi (Int.tmod b3 (6 : Int)) (2 : Int)) then
  (some ((), (((3 : Int), (([] : List UInt8), (([] : List UInt8), (b17, (b18, (([] : List UInt8), (([] : List UInt8), (0 : Int)))))))), ())))
  else
  (bif (eqi (Int.tmod b3 (6 : Int)) (3 : Int)) then
  (some ((), (((4 : Int), (([] : List UInt8), (([] : List UInt8), (([] : List UInt8), (([] : List UInt8), (b1, (b2, (0 : Int)))))))), ())))
  else
  (bif (eqi (Int.tmod b3 (6 : Int)) (4 : Int)) then
  (some ((), (((5 : Int), (([] : List UInt8), (([] : List UInt8), (([] : List UInt8), (([] : List UInt8), (b1, (b2, (0 : Int)))))))), ())))
  else
  (some ((), (((6 : Int), (([] : List UInt8), (([] : List UInt8), (b17, (b18, (([] : List UInt8), (([] : List UInt8), x9))))))), ())))))))
def z3m (N : Nat) (b0 : List UInt8) (b1 : Int) (b2 : Int) (b3 : Int) (b4 : Int) (b5 : Int) (b6 : Int) (b7 : Int) (b8 : List UInt8) (b9 : List UInt8) (b10 : List UInt8) (b11 : List UInt8) (b12 : List UInt8) (b13 : List UInt8) (b14 : Int) (b15 : List UInt8) (b16 : List UInt8) : Option ((Unit × ((Int × ((List UInt8) × ((List UInt8) × ((List UInt8) × ((List UInt8) × ((List UInt8) × ((List UInt8) × Int))))))) × Unit))) :=
  match ze0 N b2 with
  | some r6 => (match ze0 N b4 with
  | some r7 => (match z4v N r6 r7 with
  | some r8 => (bif r8 then
  (bif (eqs r6 ([100, 47] : List UInt8)) then
  (match z3l N b0 r6 ([99, 47] : List UInt8) b1 b2 b3 b4 b5 b6 b7 b8 b9 b10 b11 b12 b13 b14 b15 b16 with
  | some r11 => (some ((), ((r11.2.1.1, (r11.2.1.2.1, (r11.2.1.2.2.1, (r11.2.1.2.2.2.1, (r11.2.1.2.2.2.2.1, (r11.2.1.2.2.2.2.2.1, (r11.2.1.2.2.2.2.2.2.1, r11.2.1.2.2.2.2.2.2.2))))))), ())))
  | none => none)
  else
  (match z3l N b0 r6 ([100, 47] : List UInt8) b1 b2 b3 b4 b5 b6 b7 b8 b9 b10 b11 b12 b13 b14 b15 b16 with
  | some r12 => (some ((), ((r12.2.1.1, (r12.2.1.2.1, (r12.2.1.2.2.1, (r12.2.1.2.2.2.1, (r12.2.1.2.2.2.2.1, (r12.2.1.2.2.2.2.2.1, (r12.2.1.2.2.2.2.2.2.1, r12.2.1.2.2.2.2.2.2.2))))))), ())))
  | none => none))
  else
  (match z4v N r7 r6 with
  | some r13 => (bif r13 then
  (bif (eqs r6 ([100, 47] : List UInt8)) then
  (match z3l N b0 r6 ([99, 47] : List UInt8) b1 b2 b3 b4 b5 b6 b7 b8 b9 b10 b11 b12 b13 b14 b15 b16 with
  | some r14 => (some ((), ((r14.2.1.1, (r14.2.1.2.1, (r14.2.1.2.2.1, (r14.2.1.2.2.2.1, (r14.2.1.2.2.2.2.1, (r14.2.1.2.2.2.2.2.1, (r14.2.1.2.2.2.2.2.2.1, r14.2.1.2.2.2.2.2.2.2))))))), ())))
  | none => none)
  else
  (match z3l N b0 r6 ([100, 47] : List UInt8) b1 b2 b3 b4 b5 b6 b7 b8 b9 b10 b11 b12 b13 b14 b15 b16 with
  | some r15 => (some ((), ((r15.2.1.1, (r15.2.1.2.1, (r15.2.1.2.2.1, (r15.2.1.2.2.2.1, (r15.2.1.2.2.2.2.1, (r15.2.1.2.2.2.2.2.1, (r15.2.1.2.2.2.2.2.2.1, r15.2.1.2.2.2.2.2.2.2))))))), ())))
  | none => none))
  else
  (match z3l N b0 r6 r7 b1 b2 b3 b4 b5 b6 b7 b8 b9 b10 b11 b12 b13 b14 b15 b16 with
  | some r16 => (some ((), ((r16.2.1.1, (r16.2.1.2.1, (r16.2.1.2.2.1, (r16.2.1.2.2.2.1, (r16.2.1.2.2.2.2.1, (r16.2.1.2.2.2.2.2.1, (r16.2.1.2.2.2.2.2.2.1, r16.2.1.2.2.2.2.2.2.2))))))), ())))
  | none => none))
  | none => none))
  | none => none)
  | none => none)
  | none => none
def zhl (N : Nat) (a0 : V4) : Option (Z2) :=
  match zti N a0.2.1 with
  | some r1 => (match zti N a0.2.2.2.1 with
  | some r2 => (let x3 := (eqi (Int.tmod a0.2.2.2.2.1 (4 : Int)) (0 : Int))
  bif x3 then
  (match ze0 N a0.2.1 with
  | some r4 => (match z3w N r4 with
  | some r5 => (match z3m N r1 a0.1 a0.2.1 a0.2.2.1 a0.2.2.2.1 a0.2.2.2.2.1 a0.2.2.2.2.2 (0 : Int) ([] : List UInt8) ([] : List UInt8) ([] : List UInt8) ([] : List UInt8) ([] : List UInt8) ([] : List UInt8) (0 : Int) r5.1 r5.2 with
  | some r17 => (some (r17.2.1.1, (r17.2.1.2.1, (r17.2.1.2.2.1, ((r17.2.1.2.2.2.1, r17.2.1.2.2.2.2.1), r17.2.1.2.2.2.2.2)))))
  | none => none)
  | none => none)
  | none => none)
  else
  (let x18 := (eqi (Int.tmod a0.2.2.2.2.1 (16 : Int)) (1 : Int))
  bif x18 then
  (match z3m N r1 a0.1 a0.2.1 a0.2.2.1 a0.2.2.2.1 a0.2.2.2.2.1 a0.2.2.2.2.2 (0 : Int) ([] : List UInt8) ([] : List UInt8) ([] : List UInt8) ([] : List UInt8) ([] : List UInt8) ([] : List UInt8) (0 : Int) r1 ([] : List UInt8) with
  | some r19 => (some (r19.2.1.1, (r19.2.1.2.1, (r19.2.1.2.2.1, ((r19.2.1.2.2.2.1, r19.2.1.2.2.2.2.1), r19.2.1.2.2.2.2.2)))))
  | none => none)
  else
  (let x20 := (eqi (Int.tmod a0.2.2.2.2.1 (16 : Int)) (5 : Int))
  bif x20 then
  (match z3m N r1 a0.1 a0.2.1 a0.2.2.1 a0.2.2.2.1 a0.2.2.2.2.1 a0.2.2.2.2.2 (0 : Int) ([] : List UInt8) ([] : List UInt8) ([] : List UInt8) ([] : List UInt8) ([] : List UInt8) ([] : List UInt8) (0 : Int) ([] : List UInt8) ([] : List UInt8) with
  | some r21 => (some (r21.2.1.1, (r21.2.1.2.1, (r21.2.1.2.2.1, ((r21.2.1.2.2.2.1, r21.2.1.2.2.2.2.1), r21.2.1.2.2.2.2.2)))))
  | none => none)
  else
  (bif (eqs r1 r2) then
  (match zi4 N r1 with
  | some r22 => (match z3m N r1 a0.1 a0.2.1 a0.2.2.1 a0.2.2.2.1 a0.2.2.2.2.1 a0.2.2.2.2.2 (0 : Int) ([] : List UInt8) ([] : List UInt8) ([] : List UInt8) ([] : List UInt8) ([] : List UInt8) ([] : List UInt8) (0 : Int) r22.1 r22.2 with
  | some r23 => (some (r23.2.1.1, (r23.2.1.2.1, (r23.2.1.2.2.1, ((r23.2.1.2.2.2.1, r23.2.1.2.2.2.2.1), r23.2.1.2.2.2.2.2)))))
  | none => none)
  | none => none)
  else
  (match z3m N r1 a0.1 a0.2.1 a0.2.2.1 a0.2.2.2.1 a0.2.2.2.2.1 a0.2.2.2.2.2 (0 : Int) ([] : List UInt8) ([] : List UInt8) ([] : List UInt8) ([] : List UInt8) ([] : List UInt8) ([] : List UInt8) (0 : Int) (bif lts r1 r2 || eqs r1 r2 then r1 else r2) (bif !(lts r1 r2) then r1 else r2) with
  | some r24 => (some (r24.2.1.1, (r24.2.1.2.1, (r24.2.1.2.2.1, ((r24.2.1.2.2.2.1, r24.2.1.2.2.2.2.1), r24.2.1.2.2.2.2.2)))))
  | none => none)))))
  | none => none)
  | none => none
abbrev zd0 := Option ((Unit × ((List Z2) × Unit)))
def zd9 (N : Nat) (rec : (List V4) → Int → Int → (List Z2) → zd0) (b0 : List V4) (b1 : Int) (b2 : Int) (b3 : List Z2) : zd0 :=
  bif (decide (b2 < (List.length b0 : Int))) then
  (bif (decide (b2 < b1)) then
  (gd (inB b2 (List.length b0))
  (match zhl N (rdL b0 b2 ymu) with
  | some r1 => (gd (fits (List.length b3 + 1) 112)
  (let x2 := (@HAppend.hAppend (List Z2) (List Z2) (List Z2) _ b3 ([r1] : List Z2))
  rec b0 b1 (IntKind.wrap .i64 (b2 + (1 : Int))) x2))
  | none => none))
  else
  (some ((), (b3, ()))))
  else
  (some ((), (b3, ())))
def zqk (N n : Nat) (b0 : List V4) (b1 : Int) (b2 : Int) (b3 : List Z2) : zd0 :=
  iter (fun (rec : (((List V4) × (Int × (Unit × Int))) × ((List Z2) × Unit)) → zd0) v => zd9 N (fun b0 b1 b2 b3 => rec ((b0, (b1, ((), b2))), (b3, ()))) v.1.1 v.1.2.1 v.1.2.2.2 v.2.1) n ((b0, (b1, ((), b2))), (b3, ()))
def zvo (N : Nat) (a0 : List V4) (a1 : Int) : Option ((List Z2)) :=
  match zqk N N a0 a1 (0 : Int) ([] : List Z2) with
  | some r3 => (some r3.2.1)
  | none => none
abbrev zcy := Option (((Unit × Unit) × ((Unit × (Unit × (Unit × (Unit × Unit)))) × ((List Z0) × ((List (List UInt8)) × ((List Int) × ((List Z4) × ((List Z2) × ((Unit × ((List (List UInt8)) × (Unit × (Unit × Unit)))) × ((List Z0) × ((List Int) × ((List Z4) × ((List Z2) × Unit)))))))))))))
def z7x (N : Nat) (rec : Int → (List V2) → (List Int) → (List Int) → (List z0v) → (List V4) → (List Z0) → (List (List UInt8)) → (List Int) → (List Z4) → (List Z2) → (List (List UInt8)) → (List Z0) → (List Int) → (List Z4) → (List Z2) → zcy) (b0 : Int) (b1 : List V2) (b2 : List Int) (b3 : List Int) (b4 : List z0v) (b5 : List V4) (b6 : List Z0) (b7 : (List (List UInt8))) (b8 : List Int) (b9 : List Z4) (b10 : List Z2) (b11 : (List (List UInt8))) (b12 : List Z0) (b13 : List Int) (b14 : List Z4) (b15 : List Z2) : zcy :=
  bif (decide (b0 ≤ (List.length b11 : Int))) then
  (bif (decide (b0 < (List.length b4 : Int))) then
  (gd (inB b0 (List.length b4))
  (let x9 := (IntKind.wrap .i64 ((rdL b4 b0 zbr).1))
  let x10 := (IntKind.wrap .i64 ((rdL b4 b0 zbr).1))
  let x11 := (IntKind.wrap .i64 (((rdL b4 b0 zbr).2).1))
  let x12 := (IntKind.wrap .i64 ((((rdL b4 b0 zbr).2).2).1))
  let x13 := (IntKind.wrap .i64 ((((rdL b4 b0 zbr).2).2).1))
  let x14 := (IntKind.wrap .i64 ((((rdL b4 b0 zbr).2).2).2))
  gd (inB b0 (List.length b2))
  (let x15 := ([(IntKind.wrap .i64 ((rdL b2 b0 (0 : Int))))] : List Int)
  gd (fits (List.length b13 + List.length x15) 8)
  (let x16 := (@HAppend.hAppend (List Int) (List Int) (List Int) _ b13 x15)
  let x17 := ([((x9, (IntKind.wrap .i64 (x10 + x11))), (x12, (IntKind.wrap .i64 (x13 + x14))))] : List Z4)
  gd (fits (List.length b14 + List.length x17) 32)
  (let x18 := (@HAppend.hAppend (List Z4) (List Z4) (List Z4) _ b14 x17)
  rec (IntKind.wrap .i64 (b0 + (1 : Int))) b1 b2 b3 b4 b5 b6 b7 b8 b9 b10 b11 b12 x16 x18 b15)))))
  else
  (gd (inB b0 (List.length b2))
  (let x19 := ([(IntKind.wrap .i64 ((rdL b2 b0 (0 : Int))))] : List Int)
  gd (fits (List.length b13 + List.length x19) 8)
  (let x20 := (@HAppend.hAppend (List Int) (List Int) (List Int) _ b13 x19)
  let x21 := ([(((0 : Int), (0 : Int)), ((0 : Int), (0 : Int)))] : List Z4)
  gd (fits (List.length b14 + List.length x21) 32)
  (let x22 := (@HAppend.hAppend (List Z4) (List Z4) (List Z4) _ b14 x21)
  rec (IntKind.wrap .i64 (b0 + (1 : Int))) b1 b2 b3 b4 b5 b6 b7 b8 b9 b10 b11 b12 x20 x22 b15)))))
  else
  (some (((), ()), (((), ((), ((), ((), ())))), (b6, (b7, (b8, (b9, (b10, (((), (b11, ((), ((), ())))), (b12, (b13, (b14, (b15, ())))))))))))))
def zcb (N n : Nat) (b0 : Int) (b1 : List V2) (b2 : List Int) (b3 : List Int) (b4 : List z0v) (b5 : List V4) (b6 : List Z0) (b7 : (List (List UInt8))) (b8 : List Int) (b9 : List Z4) (b10 : List Z2) (b11 : (List (List UInt8))) (b12 : List Z0) (b13 : List Int) (b14 : List Z4) (b15 : List Z2) : zcy :=
  iter (fun (rec : ((Unit × (Unit × (Unit × Int))) × (((List V2) × ((List Int) × ((List Int) × ((List z0v) × (List V4))))) × ((Unit × (Unit × (Unit × (Unit × Unit)))) × ((List Z0) × ((List (List UInt8)) × ((List Int) × ((List Z4) × ((List Z2) × ((Unit × ((List (List UInt8)) × (Unit × (Unit × Unit)))) × ((List Z0) × ((List Int) × ((List Z4) × ((List Z2) × Unit))))))))))))) → zcy) v => z7x N (fun b0 b1 b2 b3 b4 b5 b6 b7 b8 b9 b10 b11 b12 b13 b14 b15 => rec (((), ((), ((), b0))), ((b1, (b2, (b3, (b4, b5)))), (((), ((), ((), ((), ())))), (b6, (b7, (b8, (b9, (b10, (((), (b11, ((), ((), ())))), (b12, (b13, (b14, (b15, ())))))))))))))) v.1.2.2.2 v.2.1.1 v.2.1.2.1 v.2.1.2.2.1 v.2.1.2.2.2.1 v.2.1.2.2.2.2 v.2.2.2.1 v.2.2.2.2.1 v.2.2.2.2.2.1 v.2.2.2.2.2.2.1 v.2.2.2.2.2.2.2.1 v.2.2.2.2.2.2.2.2.1.2.1 v.2.2.2.2.2.2.2.2.2.1 v.2.2.2.2.2.2.2.2.2.2.1 v.2.2.2.2.2.2.2.2.2.2.2.1 v.2.2.2.2.2.2.2.2.2.2.2.2.1) n (((), ((), ((), b0))), ((b1, (b2, (b3, (b4, b5)))), (((), ((), ((), ((), ())))), (b6, (b7, (b8, (b9, (b10, (((), (b11, ((), ((), ())))), (b12, (b13, (b14, (b15, ())))))))))))))
theorem zlk (N n : Nat) (b0 : Int) (b1 : List V2) (b2 : List Int) (b3 : List Int) (b4 : List z0v) (b5 : List V4) (b6 : List Z0) (b7 : (List (List UInt8))) (b8 : List Int) (b9 : List Z4) (b10 : List Z2) (b11 : (List (List UInt8))) (b12 : List Z0) (b13 : List Int) (b14 : List Z4) (b15 : List Z2) : zcb N (n + 1) b0 b1 b2 b3 b4 b5 b6 b7 b8 b9 b10 b11 b12 b13 b14 b15 = z7x N (fun b0  b1  b2  b3  b4  b5  b6  b7  b8  b9  b10  b11  b12  b13  b14  b15  => zcb N n b0 b1 b2 b3 b4 b5 b6 b7 b8 b9 b10 b11 b12 b13 b14 b15) b0 b1 b2 b3 b4 b5 b6 b7 b8 b9 b10 b11 b12 b13 b14 b15 := rfl
abbrev zcz := Option (((Unit × (Unit × Unit)) × (((List V2) × ((List Int) × ((List Int) × ((List z0v) × (List V4))))) × ((Unit × (Unit × (Unit × (Unit × Unit)))) × ((List Z0) × ((List (List UInt8)) × ((List Int) × ((List Z4) × ((List Z2) × ((List (List UInt8)) × Unit))))))))))
def z7y (N : Nat) (rec : Int → (List V2) → (List Int) → (List Int) → (List z0v) → (List V4) → (List Z0) → (List (List UInt8)) → (List Int) → (List Z4) → (List Z2) → (List (List UInt8)) → zcz) (b0 : Int) (b1 : List V2) (b2 : List Int) (b3 : List Int) (b4 : List z0v) (b5 : List V4) (b6 : List Z0) (b7 : (List (List UInt8))) (b8 : List Int) (b9 : List Z4) (b10 : List Z2) (b11 : (List (List UInt8))) : zcz :=
  bif (decide (b0 < (List.length b3 : Int))) then
  (gd (inB b0 (List.length b3))
  (match ztj N (rdL b3 b0 (0 : Int)) with
  | some r2 => (gd (fits (List.length b11 + 1) 16)
  (let x3 := (@HAppend.hAppend (List (List UInt8)) (List (List UInt8)) (List (List UInt8)) _ b11 ([r2] : List (List UInt8)))
  rec (IntKind.wrap .i64 (b0 + (1 : Int))) b1 b2 b3 b4 b5 b6 b7 b8 b9 b10 x3))
  | none => none))
  else
  (some (((), ((), ())), ((b1, (b2, (b3, (b4, b5)))), (((), ((), ((), ((), ())))), (b6, (b7, (b8, (b9, (b10, (b11, ()))))))))))
def zcc (N n : Nat) (b0 : Int) (b1 : List V2) (b2 : List Int) (b3 : List Int) (b4 : List z0v) (b5 : List V4) (b6 : List Z0) (b7 : (List (List UInt8))) (b8 : List Int) (b9 : List Z4) (b10 : List Z2) (b11 : (List (List UInt8))) : zcz :=
  iter (fun (rec : ((Unit × (Unit × (Unit × Int))) × (((List V2) × ((List Int) × ((List Int) × ((List z0v) × (List V4))))) × ((Unit × (Unit × (Unit × (Unit × Unit)))) × ((List Z0) × ((List (List UInt8)) × ((List Int) × ((List Z4) × ((List Z2) × ((List (List UInt8)) × Unit))))))))) → zcz) v => z7y N (fun b0 b1 b2 b3 b4 b5 b6 b7 b8 b9 b10 b11 => rec (((), ((), ((), b0))), ((b1, (b2, (b3, (b4, b5)))), (((), ((), ((), ((), ())))), (b6, (b7, (b8, (b9, (b10, (b11, ())))))))))) v.1.2.2.2 v.2.1.1 v.2.1.2.1 v.2.1.2.2.1 v.2.1.2.2.2.1 v.2.1.2.2.2.2 v.2.2.2.1 v.2.2.2.2.1 v.2.2.2.2.2.1 v.2.2.2.2.2.2.1 v.2.2.2.2.2.2.2.1 v.2.2.2.2.2.2.2.2.1) n (((), ((), ((), b0))), ((b1, (b2, (b3, (b4, b5)))), (((), ((), ((), ((), ())))), (b6, (b7, (b8, (b9, (b10, (b11, ())))))))))
theorem zll (N n : Nat) (b0 : Int) (b1 : List V2) (b2 : List Int) (b3 : List Int) (b4 : List z0v) (b5 : List V4) (b6 : List Z0) (b7 : (List (List UInt8))) (b8 : List Int) (b9 : List Z4) (b10 : List Z2) (b11 : (List (List UInt8))) : zcc N (n + 1) b0 b1 b2 b3 b4 b5 b6 b7 b8 b9 b10 b11 = z7y N (fun b0  b1  b2  b3  b4  b5  b6  b7  b8  b9  b10  b11  => zcc N n b0 b1 b2 b3 b4 b5 b6 b7 b8 b9 b10 b11) b0 b1 b2 b3 b4 b5 b6 b7 b8 b9 b10 b11 := rfl
def zvn (N : Nat) (a0 : zii) : Option (((List Z0) × ((List (List UInt8)) × ((List Int) × ((List Z4) × (List Z2)))))) :=
  bif (eqi (List.length a0.2.1 : Int) (0 : Int)) then
  (match zn6 N a0.1 with
  | some r1 => (some (r1, (([] : List (List UInt8)), (([] : List Int), (([] : List Z4), ([] : List Z2))))))
  | none => none)
  else
  (match zcc N N (0 : Int) a0.1 a0.2.1 a0.2.2.1 a0.2.2.2.1 a0.2.2.2.2 ([] : List Z0) ([] : List (List UInt8)) ([] : List Int) ([] : List Z4) ([] : List Z2) ([] : List (List UInt8)) with
  | some r4 => (match zkn N r4.2.2.2.2.2.2.2.2.1 with
  | some r5 => (let x6 := (bif decide ((10 : Int) < (List.length r4.2.1.2.1 : Int)) then (10 : Int) else (List.length r4.2.1.2.1 : Int))
  let x7 := (bif decide ((IntKind.wrap .i64 (x6 - (1 : Int))) < (List.length r5 : Int)) then (IntKind.wrap .i64 (x6 - (1 : Int))) else (List.length r5 : Int))
  gd (decide (0 ≤ (0 : Int)) && (decide ((0 : Int) ≤ x7) && decide (x7 ≤ (List.length r5 : Int))))
  (match zvo N r4.2.1.2.2.2.2 (12 : Int) with
  | some r8 => (match zcb N N (0 : Int) r4.2.1.1 r4.2.1.2.1 r4.2.1.2.2.1 r4.2.1.2.2.2.1 r4.2.1.2.2.2.2 r4.2.2.2.1 r4.2.2.2.2.1 r4.2.2.2.2.2.1 r4.2.2.2.2.2.2.1 r4.2.2.2.2.2.2.2.1 (cut2 r5 (0 : Int) x7) ([] : List Z0) ([] : List Int) ([] : List Z4) r8 with
  | some r23 => (some (r23.2.2.2.2.2.2.2.2.1, (r23.2.2.2.2.2.2.2.1.2.1, (r23.2.2.2.2.2.2.2.2.2.1, (r23.2.2.2.2.2.2.2.2.2.2.1, r23.2.2.2.2.2.2.2.2.2.2.2.1)))))
  | none => none)
  | none => none))
  | none => none)
  | none => none)
def y32 (N : Nat) (a0 : zuy) : Option (Z4) :=
  some ((a0.1, a0.1), (a0.2, a0.2))
def zn8 (N : Nat) (a0 : List UInt8) (a1 : List UInt8) : Option (Bool) :=
  bif (!(eqs a0 ([] : List UInt8))) then
  (bif (eqs a1 ([] : List UInt8)) then
  (some true)
  else
  (some (lts a0 a1)))
  else
  (some false)
def z8h (N : Nat) (a0 : Z7) : Option (Bool) :=
  bif (!(eqs a0.2 ([] : List UInt8))) then
  (some (lts a0.2 a0.1 || eqs a0.2 a0.1))
  else
  (some false)
def zvp (N : Nat) : Option (Z7) :=
  some (([97] : List UInt8), ([97] : List UInt8))
def zn7 (N : Nat) (a0 : Z7) (a1 : Z7) : Option (Z7) :=
  match zn8 N a1.2 a0.2 with
  | some r1 => (bif r1 then
  (match z8h N ((bif !(lts a0.1 a1.1) then a0.1 else a1.1), a1.2) with
  | some r2 => (bif r2 then
  (match zvp N with
  | some r3 => (some r3)
  | none => none)
  else
  (some ((bif !(lts a0.1 a1.1) then a0.1 else a1.1), a1.2)))
  | none => none)
  else
  (match z8h N ((bif !(lts a0.1 a1.1) then a0.1 else a1.1), a0.2) with
  | some r4 => (bif r4 then
  (match zvp N with
  | some r5 => (some r5)
  | none => none)
  else
  (some ((bif !(lts a0.1 a1.1) then a0.1 else a1.1), a0.2)))
  | none => none))
  | none => none
abbrev zbp := Option (((Unit × (Unit × (List UInt8))) × (((List UInt8) × (List UInt8)) × ((List Z7) × Unit))))
def z6q (N : Nat) (rec : (List (List UInt8)) → (List UInt8) → Int → (List UInt8) → (List UInt8) → (List Z7) → zbp) (b0 : (List (List UInt8))) (b1 : List UInt8) (b2 : Int) (b3 : List UInt8) (b4 : List UInt8) (b5 : List Z7) : zbp :=
  bif (decide (b2 < (List.length b0 : Int))) then
  (gd (inB b2 (List.length b0))
  (match zn7 N (b3, b4) (b1, (rdL b0 b2 ([] : List UInt8))) with
  | some r1 => (gd (fits (List.length b5 + 1) 32)
  (let x2 := (@HAppend.hAppend (List Z7) (List Z7) (List Z7) _ b5 ([r1] : List Z7))
  gd (inB b2 (List.length b0))
  (rec b0 (rdL b0 b2 ([] : List UInt8)) (IntKind.wrap .i64 (b2 + (1 : Int))) b3 b4 x2)))
  | none => none))
  else
  (some (((), ((), b1)), ((b3, b4), (b5, ()))))
def zal (N n : Nat) (b0 : (List (List UInt8))) (b1 : List UInt8) (b2 : Int) (b3 : List UInt8) (b4 : List UInt8) (b5 : List Z7) : zbp :=
  iter (fun (rec : (((List (List UInt8)) × (Unit × (Unit × ((List UInt8) × Int)))) × (((List UInt8) × (List UInt8)) × ((List Z7) × Unit))) → zbp) v => z6q N (fun b0 b1 b2 b3 b4 b5 => rec ((b0, ((), ((), (b1, b2)))), ((b3, b4), (b5, ())))) v.1.1 v.1.2.2.2.1 v.1.2.2.2.2 v.2.1.1 v.2.1.2 v.2.2.1) n ((b0, ((), ((), (b1, b2)))), ((b3, b4), (b5, ())))
theorem zjb (N n : Nat) (b0 : (List (List UInt8))) (b1 : List UInt8) (b2 : Int) (b3 : List UInt8) (b4 : List UInt8) (b5 : List Z7) : zal N (n + 1) b0 b1 b2 b3 b4 b5 = z6q N (fun b0  b1  b2  b3  b4  b5  => zal N n b0 b1 b2 b3 b4 b5) b0 b1 b2 b3 b4 b5 := rfl
def zq7 (N : Nat) (a0 : Z7) (a1 : (List (List UInt8))) : Option ((List Z7)) :=
  match zal N N a1 ([] : List UInt8) (0 : Int) a0.1 a0.2 ([] : List Z7) with
  | some r3 => (match zn7 N r3.2.1 (r3.1.2.2, ([] : List UInt8)) with
  | some r4 => (gd (fits (List.length r3.2.2.1 + 1) 32)
  (let x5 := (@HAppend.hAppend (List Z7) (List Z7) (List Z7) _ r3.2.2.1 ([r4] : List Z7))
  some x5))
  | none => none)
  | none => none
def y6x (N : Nat) (a0 : Z7) (a1 : List UInt8) : Option (Bool) :=
  bif (!(lts a1 a0.1)) then
  (bif (eqs a0.2 ([] : List UInt8)) then
  (some true)
  else
  (some (lts a1 a0.2)))
  else
  (some false)
abbrev zbo := Option ((Unit × ((List Z0) × Unit)))
def z6p (N : Nat) (rec : (List Z0) → Int → (List UInt8) → (List UInt8) → (List Z0) → zbo) (b0 : List Z0) (b1 : Int) (b2 : List UInt8) (b3 : List UInt8) (b4 : List Z0) : zbo :=
  bif (decide (b1 < (List.length b0 : Int))) then
  (gd (inB b1 (List.length b0))
  (match y6x N (b2, b3) ((rdL b0 b1 X8).1) with
  | some r1 => (bif r1 then
  (gd (inB b1 (List.length b0))
  (gd (fits (List.length b4 + 1) 40)
  (let x2 := (@HAppend.hAppend (List Z0) (List Z0) (List Z0) _ b4 ([(rdL b0 b1 X8)] : List Z0))
  rec b0 (IntKind.wrap .i64 (b1 + (1 : Int))) b2 b3 x2)))
  else
  (rec b0 (IntKind.wrap .i64 (b1 + (1 : Int))) b2 b3 b4))
  | none => none))
  else
  (some ((), (b4, ())))
def zak (N n : Nat) (b0 : List Z0) (b1 : Int) (b2 : List UInt8) (b3 : List UInt8) (b4 : List Z0) : zbo :=
  iter (fun (rec : (((List Z0) × (Unit × (Unit × Int))) × (((List UInt8) × (List UInt8)) × ((List Z0) × Unit))) → zbo) v => z6p N (fun b0 b1 b2 b3 b4 => rec ((b0, ((), ((), b1))), ((b2, b3), (b4, ())))) v.1.1 v.1.2.2.2 v.2.1.1 v.2.1.2 v.2.2.1) n ((b0, ((), ((), b1))), ((b2, b3), (b4, ())))
theorem zja (N n : Nat) (b0 : List Z0) (b1 : Int) (b2 : List UInt8) (b3 : List UInt8) (b4 : List Z0) : zak N (n + 1) b0 b1 b2 b3 b4 = z6p N (fun b0  b1  b2  b3  b4  => zak N n b0 b1 b2 b3 b4) b0 b1 b2 b3 b4 := rfl
def zq6 (N : Nat) (a0 : List Z0) (a1 : Z7) : Option ((List Z0)) :=
  match zak N N a0 (0 : Int) a1.1 a1.2 ([] : List Z0) with
  | some r3 => (some r3.2.1)
  | none => none
def zo1 (N : Nat) (a0 : Int) (a1 : Int) (a2 : Int) : Option (Bool) :=
  bif (decide (a1 ≤ a0)) then
  (some (decide (a0 ≤ a2)))
  else
  (some false)
def zn4 (N : Nat) (a0 : Z7) : Option (Bool) :=
  match z8h N a0 with
  | some r1 => (bif (!r1) then
  (let x2 := (decide ((List.length a0.1 : Int) ≤ (65535 : Int)))
  bif x2 then
  (let x3 := (decide ((List.length a0.2 : Int) ≤ (65535 : Int)))
  some x3)
  else
  (some false))
  else
  (some false))
  | none => none
def zaj (N : Nat) (b0 : Bool) (b1 : Int) (b2 : Bool) (b3 : Int) (b4 : List UInt8) (b5 : List UInt8) (b6 : List UInt8) (b7 : List UInt8) (b8 : List UInt8) (b9 : List UInt8) (b10 : Int) : Option ((Bool × Unit) ⊕ (Unit × Unit)) :=
  bif b2 then
  (match z4v N b8 b9 with
  | some r8 => (bif (!r8) then
  (match z4v N b9 b8 with
  | some r9 => (bif (!r9) then
  (match zo1 N (List.length b8 : Int) (1 : Int) (200 : Int) with
  | some r10 => (bif r10 then
  (match zo1 N (List.length b9 : Int) (1 : Int) (200 : Int) with
  | some r11 => (bif r11 then
  (let x12 := (eqi b3 b3 && (eqs b4 ([] : List UInt8) && (eqs b5 ([] : List UInt8) && (eqs b6 ([] : List UInt8) && (eqs b7 ([] : List UInt8) && (eqs b8 b8 && (eqs b9 b9 && (eqi b10 (0 : Int) && true))))))))
  some (.inl (x12, ())))
  else
  (some (.inl (false, ()))))
  | none => none)
  else
  (some (.inl (false, ()))))
  | none => none)
  else
  (some (.inl (false, ()))))
  | none => none)
  else
  (some (.inl (false, ()))))
  | none => none)
  else
  (bif (eqi b1 (6 : Int)) then
  (match zn4 N (b6, b7) with
  | some r13 => (bif r13 then
  (bif b0 then
  (let x14 := (eqi b3 b3 && (eqs b4 ([] : List UInt8) && (eqs b5 ([] : List UInt8) && (eqs b6 b6 && (eqs b7 b7 && (eqs b8 ([] : List UInt8) && (eqs b9 ([] : List UInt8) && (eqi b10 b10 && true))))))))
  some (.inl (x14, ())))
  else
  (some (.inl (false, ()))))
  else
  (some (.inl (false, ()))))
  | none => none)
  else
  (some (.inr ((), ()))))
def zi8 (N : Nat) (a0 : Z2) : Option (Bool) :=
  match zo1 N (List.length a0.2.1 : Int) (1 : Int) (65535 : Int) with
  | some r1 => (match zo1 N a0.2.2.2.2.2.2 (0 : Int) (1000000000 : Int) with
  | some r2 => (bif (eqi a0.1 (1 : Int)) then
  (bif r1 then
  (let x3 := (decide ((List.length a0.2.2.1 : Int) ≤ (64 : Int)))
  bif x3 then
  (bif r2 then
  (let x4 := (eqi a0.1 a0.1 && (eqs a0.2.1 a0.2.1 && (eqs a0.2.2.1 a0.2.2.1 && (eqs a0.2.2.2.1.1 ([] : List UInt8) && (eqs a0.2.2.2.1.2 ([] : List UInt8) && (eqs a0.2.2.2.2.1 ([] : List UInt8) && (eqs a0.2.2.2.2.2.1 ([] : List UInt8) && (eqi a0.2.2.2.2.2.2 a0.2.2.2.2.2.2 && true))))))))
  some x4)
  else
  (some false))
  else
  (some false))
  else
  (some false))
  else
  (bif (eqi a0.1 (2 : Int)) then
  (bif r1 then
  (let x5 := (eqi a0.1 a0.1 && (eqs a0.2.1 a0.2.1 && (eqs a0.2.2.1 ([] : List UInt8) && (eqs a0.2.2.2.1.1 ([] : List UInt8) && (eqs a0.2.2.2.1.2 ([] : List UInt8) && (eqs a0.2.2.2.2.1 ([] : List UInt8) && (eqs a0.2.2.2.2.2.1 ([] : List UInt8) && (eqi a0.2.2.2.2.2.2 (0 : Int) && true))))))))
  some x5)
  else
  (some false))
  else
  (bif (eqi a0.1 (3 : Int)) then
  (match zn4 N a0.2.2.2.1 with
  | some r6 => (bif r6 then
  (let x7 := (eqi a0.1 a0.1 && (eqs a0.2.1 ([] : List UInt8) && (eqs a0.2.2.1 ([] : List UInt8) && (eqs a0.2.2.2.1.1 a0.2.2.2.1.1 && (eqs a0.2.2.2.1.2 a0.2.2.2.1.2 && (eqs a0.2.2.2.2.1 ([] : List UInt8) && (eqs a0.2.2.2.2.2.1 ([] : List UInt8) && (eqi a0.2.2.2.2.2.2 (0 : Int) && true))))))))
  some x7)
  else
  (some false))
  | none => none)
  else
  (bif (eqi a0.1 (4 : Int)) then
  (match zaj N r2 a0.1 true a0.1 a0.2.1 a0.2.2.1 a0.2.2.2.1.1 a0.2.2.2.1.2 a0.2.2.2.2.1 a0.2.2.2.2.2.1 a0.2.2.2.2.2.2 with
  | some r15 => (match r15 with
  | .inl r16 => (some r16.1)
  | .inr r17 => (some false))
  | none => none)
  else
  (match zaj N r2 a0.1 (eqi a0.1 (5 : Int)) a0.1 a0.2.1 a0.2.2.1 a0.2.2.2.1.1 a0.2.2.2.1.2 a0.2.2.2.2.1 a0.2.2.2.2.2.1 a0.2.2.2.2.2.2 with
  | some r18 => (match r18 with
  | .inl r19 => (some r19.1)
  | .inr r20 => (some false))
  | none => none)))))
  | none => none)
  | none => none
def y45 (N : Nat) (rec : (List Z0) → Int → Option ((Bool × Unit) ⊕ (Unit × Unit))) (b0 : List Z0) (b1 : Int) : Option ((Bool × Unit) ⊕ (Unit × Unit)) :=
  bif (decide (b1 < (List.length b0 : Int))) then
  (gd (inB (IntKind.wrap .i64 (b1 - (1 : Int))) (List.length b0))
  (let x1 := (rdL b0 (IntKind.wrap .i64 (b1 - (1 : Int))) X8)
  gd (inB b1 (List.length b0))
  (bif (!(lts x1.1 ((rdL b0 b1 X8).1))) then
  (some (.inl (false, ())))
  else
  (rec b0 (IntKind.wrap .i64 (b1 + (1 : Int)))))))
  else
  (some (.inr ((), ())))
def y29 (N n : Nat) (b0 : List Z0) (b1 : Int) : Option ((Bool × Unit) ⊕ (Unit × Unit)) :=
  iter (fun (rec : (((List Z0) × Int) × Unit) → Option ((Bool × Unit) ⊕ (Unit × Unit))) v => y45 N (fun b0 b1 => rec ((b0, b1), ())) v.1.1 v.1.2) n ((b0, b1), ())
def y33 (N : Nat) (a0 : List Z0) : Option (Bool) :=
  match y29 N N a0 (1 : Int) with
  | some r2 => (match r2 with
  | .inl r3 => (some r3.1)
  | .inr r4 => (some true))
  | none => none
def y6y (N : Nat) (a0 : Z7) (a1 : List UInt8) : Option (Bool) :=
  bif (!(lts a1 a0.1)) then
  (bif (eqs a0.2 ([] : List UInt8)) then
  (some true)
  else
  (some (lts a1 a0.2)))
  else
  (some false)
def zj7 (N : Nat) (a0 : Int) (a1 : Int) (a2 : Int) : Option (Bool) :=
  bif (decide (a1 ≤ a0)) then
  (some (decide (a0 ≤ a2)))
  else
  (some false)
def z7w (N : Nat) (rec : Int → (List Z0) → (List (List UInt8)) → (List Int) → (List Z4) → (List Z2) → (List UInt8) → (List UInt8) → Option ((Bool × Unit) ⊕ (Unit × Unit))) (b0 : Int) (b1 : List Z0) (b2 : (List (List UInt8))) (b3 : List Int) (b4 : List Z4) (b5 : List Z2) (b6 : List UInt8) (b7 : List UInt8) : Option ((Bool × Unit) ⊕ (Unit × Unit)) :=
  bif (decide (b0 < (List.length b1 : Int))) then
  (gd (inB b0 (List.length b1))
  (match y6y N (b6, b7) ((rdL b1 b0 X8).1) with
  | some r5 => (bif (!r5) then
  (some (.inl (false, ())))
  else
  (let x6 := (List.length ((rdL b1 b0 X8).1) : Int)
  match zj7 N x6 (1 : Int) (65535 : Int) with
  | some r7 => (bif (!r7) then
  (some (.inl (false, ())))
  else
  (let x8 := (List.length (((rdL b1 b0 X8).2).1) : Int)
  bif (decide ((64 : Int) < x8)) then
  (some (.inl (false, ())))
  else
  (match zj7 N (((rdL b1 b0 X8).2).2) (0 : Int) (1000000000 : Int) with
  | some r9 => (bif (!r9) then
  (some (.inl (false, ())))
  else
  (rec (IntKind.wrap .i64 (b0 + (1 : Int))) b1 b2 b3 b4 b5 b6 b7))
  | none => none)))
  | none => none))
  | none => none))
  else
  (some (.inr ((), ())))
def z9h (N n : Nat) (b0 : Int) (b1 : List Z0) (b2 : (List (List UInt8))) (b3 : List Int) (b4 : List Z4) (b5 : List Z2) (b6 : List UInt8) (b7 : List UInt8) : Option ((Bool × Unit) ⊕ (Unit × Unit)) :=
  iter (fun (rec : ((Unit × (Unit × Int)) × (((List Z0) × ((List (List UInt8)) × ((List Int) × ((List Z4) × (List Z2))))) × (((List UInt8) × (List UInt8)) × Unit))) → Option ((Bool × Unit) ⊕ (Unit × Unit))) v => z7w N (fun b0 b1 b2 b3 b4 b5 b6 b7 => rec (((), ((), b0)), ((b1, (b2, (b3, (b4, b5)))), ((b6, b7), ())))) v.1.2.2 v.2.1.1 v.2.1.2.1 v.2.1.2.2.1 v.2.1.2.2.2.1 v.2.1.2.2.2.2 v.2.2.1.1 v.2.2.1.2) n (((), ((), b0)), ((b1, (b2, (b3, (b4, b5)))), ((b6, b7), ())))
theorem zlj (N n : Nat) (b0 : Int) (b1 : List Z0) (b2 : (List (List UInt8))) (b3 : List Int) (b4 : List Z4) (b5 : List Z2) (b6 : List UInt8) (b7 : List UInt8) : z9h N (n + 1) b0 b1 b2 b3 b4 b5 b6 b7 = z7w N (fun b0  b1  b2  b3  b4  b5  b6  b7  => z9h N n b0 b1 b2 b3 b4 b5 b6 b7) b0 b1 b2 b3 b4 b5 b6 b7 := rfl
def ycz (N : Nat) (a0 : z4u) (a1 : Z7) : Option (Bool) :=
  let x1 := (decide ((0 : Int) < (List.length a0.2.1 : Int)))
  bif x1 then
  (some false)
  else
  (let x2 := (decide ((0 : Int) < (List.length a0.2.2.2.1 : Int)))
  bif x2 then
  (some false)
  else
  (let x3 := (decide ((0 : Int) < (List.length a0.2.2.2.2 : Int)))
  bif x3 then
  (some false)
  else
  (match y33 N a0.1 with
  | some r4 => (bif (!r4) then
  (some false)
  else
  (match z9h N N (0 : Int) a0.1 a0.2.1 a0.2.2.1 a0.2.2.2.1 a0.2.2.2.2 a1.1 a1.2 with
  | some r10 => (match r10 with
  | .inl r11 => (some r11.1)
  | .inr r12 => (some true))
  | none => none))
  | none => none)))
def z2a (N : Nat) (b0 : (List (List UInt8))) (b1 : Int) (b2 : Bool) (b3 : List UInt8) (b4 : List UInt8) : Option ((Bool × Unit) ⊕ (((List (List UInt8)) × (Unit × Int)) × (((List UInt8) × (List UInt8)) × Unit))) :=
  bif b2 then
  (some (.inl (false, ())))
  else
  (some (.inr ((b0, ((), b1)), ((b3, b4), ()))))
def z2b (N : Nat) (b0 : (List (List UInt8))) (b1 : Int) (b2 : List UInt8) (b3 : List UInt8) : Option ((((List (List UInt8)) × (Unit × Int)) × (((List UInt8) × (List UInt8)) × Unit))) :=
  some ((b0, ((), (IntKind.wrap .i64 (b1 + (1 : Int))))), ((b2, b3), ()))
def z5j (N : Nat) (rec : (List (List UInt8)) → Int → (List UInt8) → (List UInt8) → Option ((Bool × Unit) ⊕ (Unit × Unit))) (b0 : (List (List UInt8))) (b1 : Int) (b2 : List UInt8) (b3 : List UInt8) : Option ((Bool × Unit) ⊕ (Unit × Unit)) :=
  bif (decide (b1 < (List.length b0 : Int))) then
  (gd (inB b1 (List.length b0))
  (let x1 := (lts (rdL b0 b1 ([] : List UInt8)) b2 || eqs (rdL b0 b1 ([] : List UInt8)) b2)
  bif x1 then
  (match z2a N b0 b1 true b2 b3 with
  | some r2 => (match r2 with
  | .inl r3 => (some (.inl (r3.1, ())))
  | .inr r4 => (match z2b N r4.1.1 r4.1.2.2 r4.2.1.1 r4.2.1.2 with
  | some r5 => (rec r5.1.1 r5.1.2.2 r5.2.1.1 r5.2.1.2)
  | none => none))
  | none => none)
  else
  (bif (!(eqs b3 ([] : List UInt8))) then
  (gd (inB b1 (List.length b0))
  (bif (!(lts (rdL b0 b1 ([] : List UInt8)) b3)) then
  (match z2a N b0 b1 true b2 b3 with
  | some r6 => (match r6 with
  | .inl r7 => (some (.inl (r7.1, ())))
  | .inr r8 => (match z2b N r8.1.1 r8.1.2.2 r8.2.1.1 r8.2.1.2 with
  | some r9 => (rec r9.1.1 r9.1.2.2 r9.2.1.1 r9.2.1.2)
  | none => none))
  | none => none)
  else
  (bif (decide ((0 : Int) < b1)) then
  (gd (inB b1 (List.length b0))
  (gd (inB (IntKind.wrap .i64 (b1 - (1 : Int))) (List.length b0))
  (let x10 := (rdL b0 (IntKind.wrap .i64 (b1 - (1 : Int))) ([] : List UInt8))
  let x11 := (lts (rdL b0 b1 ([] : List UInt8)) x10 || eqs (rdL b0 b1 ([] : List UInt8)) x10)
  match z2a N b0 b1 x11 b2 b3 with
  | some r12 => (match r12 with
  | .inl r13 => (some (.inl (r13.1, ())))
  | .inr r14 => (match z2b N r14.1.1 r14.1.2.2 r14.2.1.1 r14.2.1.2 with
  | some r15 => (rec r15.1.1 r15.1.2.2 r15.2.1.1 r15.2.1.2)
  | none => none))
  | none => none)))
  else
  (match z2a N b0 b1 false b2 b3 with
  | some r16 => (match r16 with
  | .inl r17 => (some (.inl (r17.1, ())))
  | .inr r18 => (match z2b N r18.1.1 r18.1.2.2 r18.2.1.1 r18.2.1.2 with
  | some r19 => (rec r19.1.1 r19.1.2.2 r19.2.1.1 r19.2.1.2)
  | none => none))
  | none => none))))
  else
  (bif (decide ((0 : Int) < b1)) then
  (gd (inB b1 (List.length b0))
  (gd (inB (IntKind.wrap .i64 (b1 - (1 : Int))) (List.length b0))
  (let x20 := (rdL b0 (IntKind.wrap .i64 (b1 - (1 : Int))) ([] : List UInt8))
  let x21 := (lts (rdL b0 b1 ([] : List UInt8)) x20 || eqs (rdL b0 b1 ([] : List UInt8)) x20)
  match z2a N b0 b1 x21 b2 b3 with
  | some r22 => (match r22 with
  | .inl r23 => (some (.inl (r23.1, ())))
  | .inr r24 => (match z2b N r24.1.1 r24.1.2.2 r24.2.1.1 r24.2.1.2 with
  | some r25 => (rec r25.1.1 r25.1.2.2 r25.2.1.1 r25.2.1.2)
  | none => none))
  | none => none)))
  else
  (match z2a N b0 b1 false b2 b3 with
  | some r26 => (match r26 with
  | .inl r27 => (some (.inl (r27.1, ())))
  | .inr r28 => (match z2b N r28.1.1 r28.1.2.2 r28.2.1.1 r28.2.1.2 with
  | some r29 => (rec r29.1.1 r29.1.2.2 r29.2.1.1 r29.2.1.2)
  | none => none))
  | none => none)))))
  else
  (some (.inr ((), ())))
def z5k (N n : Nat) (b0 : (List (List UInt8))) (b1 : Int) (b2 : List UInt8) (b3 : List UInt8) : Option ((Bool × Unit) ⊕ (Unit × Unit)) :=
  iter (fun (rec : (((List (List UInt8)) × (Unit × Int)) × (((List UInt8) × (List UInt8)) × Unit)) → Option ((Bool × Unit) ⊕ (Unit × Unit))) v => z5j N (fun b0 b1 b2 b3 => rec ((b0, ((), b1)), ((b2, b3), ()))) v.1.1 v.1.2.2 v.2.1.1 v.2.1.2) n ((b0, ((), b1)), ((b2, b3), ()))
theorem zhj (N n : Nat) (b0 : (List (List UInt8))) (b1 : Int) (b2 : List UInt8) (b3 : List UInt8) : z5k N (n + 1) b0 b1 b2 b3 = z5j N (fun b0  b1  b2  b3  => z5k N n b0 b1 b2 b3) b0 b1 b2 b3 := rfl
def zkj (N : Nat) (a0 : (List (List UInt8))) (a1 : Z7) : Option (Bool) :=
  match z5k N N a0 (0 : Int) a1.1 a1.2 with
  | some r30 => (match r30 with
  | .inl r31 => (some r31.1)
  | .inr r32 => (some true))
  | none => none
def zi7 (N : Nat) (a0 : y9) : Option (Bool) :=
  bif (decide ((0 : Int) ≤ a0.1)) then
  (bif (decide (a0.1 ≤ a0.2)) then
  (some (decide (a0.2 ≤ (1000000000000000 : Int))))
  else
  (some false))
  else
  (some false)
def zq5 (N : Nat) (a0 : Z2) : Option ((List Z7)) :=
  bif (eqi a0.1 (4 : Int)) then
  (match z3w N a0.2.2.2.2.1 with
  | some r1 => (some ([r1] : List Z7))
  | none => none)
  else
  (bif (eqi a0.1 (5 : Int)) then
  (match z3w N a0.2.2.2.2.1 with
  | some r2 => (some ([r2] : List Z7))
  | none => none)
  else
  (bif (eqi a0.1 (6 : Int)) then
  (some ([a0.2.2.2.1] : List Z7))
  else
  (some ([] : List Z7))))
def zkm (N : Nat) (a0 : Z2) : Option ((List Z7)) :=
  bif (eqi a0.1 (1 : Int)) then
  (match zi4 N a0.2.1 with
  | some r1 => (some ([r1] : List Z7))
  | none => none)
  else
  (bif (eqi a0.1 (2 : Int)) then
  (match zi4 N a0.2.1 with
  | some r2 => (some ([r2] : List Z7))
  | none => none)
  else
  (bif (eqi a0.1 (4 : Int)) then
  (match z3w N a0.2.2.2.2.1 with
  | some r3 => (match z3w N a0.2.2.2.2.2.1 with
  | some r4 => (some ([r3, r4] : List Z7))
  | none => none)
  | none => none)
  else
  (bif (eqi a0.1 (5 : Int)) then
  (match z3w N a0.2.2.2.2.2.1 with
  | some r5 => (some ([r5] : List Z7))
  | none => none)
  else
  (some ([a0.2.2.2.1] : List Z7)))))
def zko (N : Nat) (a0 : Z7) (a1 : Z7) : Option (Bool) :=
  match z8h N a1 with
  | some r1 => (bif r1 then
  (some true)
  else
  (match z8h N a0 with
  | some r2 => (bif (!r2) then
  (bif (lts a0.1 a1.1 || eqs a0.1 a1.1) then
  (match zn8 N a0.2 a1.2 with
  | some r3 => (some (!r3))
  | none => none)
  else
  (some false))
  else
  (some false))
  | none => none))
  | none => none
def z5l (N : Nat) (rec : Int → (List UInt8) → (List UInt8) → (List Z7) → Option ((Bool × Unit) ⊕ (Unit × Unit))) (b0 : Int) (b1 : List UInt8) (b2 : List UInt8) (b3 : List Z7) : Option ((Bool × Unit) ⊕ (Unit × Unit)) :=
  bif (decide (b0 < (List.length b3 : Int))) then
  (gd (inB b0 (List.length b3))
  (match zko N (b1, b2) (rdL b3 b0 z6z) with
  | some r4 => (bif (!r4) then
  (some (.inl (false, ())))
  else
  (rec (IntKind.wrap .i64 (b0 + (1 : Int))) b1 b2 b3))
  | none => none))
  else
  (some (.inr ((), ())))
def z8r (N n : Nat) (b0 : Int) (b1 : List UInt8) (b2 : List UInt8) (b3 : List Z7) : Option ((Bool × Unit) ⊕ (Unit × Unit)) :=
  iter (fun (rec : ((Unit × (Unit × Int)) × (((List UInt8) × (List UInt8)) × ((List Z7) × Unit))) → Option ((Bool × Unit) ⊕ (Unit × Unit))) v => z5l N (fun b0 b1 b2 b3 => rec (((), ((), b0)), ((b1, b2), (b3, ())))) v.1.2.2 v.2.1.1 v.2.1.2 v.2.2.1) n (((), ((), b0)), ((b1, b2), (b3, ())))
theorem zhk (N n : Nat) (b0 : Int) (b1 : List UInt8) (b2 : List UInt8) (b3 : List Z7) : z8r N (n + 1) b0 b1 b2 b3 = z5l N (fun b0  b1  b2  b3  => z8r N n b0 b1 b2 b3) b0 b1 b2 b3 := rfl
def zkl (N : Nat) (a0 : Z2) (a1 : Z7) : Option (Bool) :=
  match zq5 N a0 with
  | some r1 => (match zkm N a0 with
  | some r2 => (gd (fits (List.length r1 + List.length r2) 32)
  (let x3 := (@HAppend.hAppend (List Z7) (List Z7) (List Z7) _ r1 r2)
  match z8r N N (0 : Int) a1.1 a1.2 x3 with
  | some r5 => (match r5 with
  | .inl r6 => (some r6.1)
  | .inr r7 => (some true))
  | none => none))
  | none => none)
  | none => none
def z6n (N : Nat) (rec : Int → (List Z0) → (List (List UInt8)) → (List Int) → (List Z4) → (List Z2) → (List UInt8) → (List UInt8) → Option ((Bool × Unit) ⊕ (Unit × Unit))) (b0 : Int) (b1 : List Z0) (b2 : (List (List UInt8))) (b3 : List Int) (b4 : List Z4) (b5 : List Z2) (b6 : List UInt8) (b7 : List UInt8) : Option ((Bool × Unit) ⊕ (Unit × Unit)) :=
  bif (decide (b0 < (List.length b5 : Int))) then
  (gd (inB b0 (List.length b5))
  (match zi8 N (rdL b5 b0 Y6) with
  | some r12 => (bif (!r12) then
  (some (.inl (false, ())))
  else
  (gd (inB b0 (List.length b5))
  (match zkl N (rdL b5 b0 Y6) (b6, b7) with
  | some r13 => (bif (!r13) then
  (some (.inl (false, ())))
  else
  (rec (IntKind.wrap .i64 (b0 + (1 : Int))) b1 b2 b3 b4 b5 b6 b7))
  | none => none)))
  | none => none))
  else
  (some (.inr ((), ())))
def z7k (N n : Nat) (b0 : Int) (b1 : List Z0) (b2 : (List (List UInt8))) (b3 : List Int) (b4 : List Z4) (b5 : List Z2) (b6 : List UInt8) (b7 : List UInt8) : Option ((Bool × Unit) ⊕ (Unit × Unit)) :=
  iter (fun (rec : ((Unit × (Unit × Int)) × (((List Z0) × ((List (List UInt8)) × ((List Int) × ((List Z4) × (List Z2))))) × (((List UInt8) × (List UInt8)) × Unit))) → Option ((Bool × Unit) ⊕ (Unit × Unit))) v => z6n N (fun b0 b1 b2 b3 b4 b5 b6 b7 => rec (((), ((), b0)), ((b1, (b2, (b3, (b4, b5)))), ((b6, b7), ())))) v.1.2.2 v.2.1.1 v.2.1.2.1 v.2.1.2.2.1 v.2.1.2.2.2.1 v.2.1.2.2.2.2 v.2.2.1.1 v.2.2.1.2) n (((), ((), b0)), ((b1, (b2, (b3, (b4, b5)))), ((b6, b7), ())))
theorem zj8 (N n : Nat) (b0 : Int) (b1 : List Z0) (b2 : (List (List UInt8))) (b3 : List Int) (b4 : List Z4) (b5 : List Z2) (b6 : List UInt8) (b7 : List UInt8) : z7k N (n + 1) b0 b1 b2 b3 b4 b5 b6 b7 = z6n N (fun b0  b1  b2  b3  b4  b5  b6  b7  => z7k N n b0 b1 b2 b3 b4 b5 b6 b7) b0 b1 b2 b3 b4 b5 b6 b7 := rfl
abbrev zbn := Option ((Bool × Unit) ⊕ ((Unit × Unit) × (((List Z0) × ((List (List UInt8)) × ((List Int) × ((List Z4) × (List Z2))))) × (((List UInt8) × (List UInt8)) × Unit))))
def z6o (N : Nat) (rec : Int → (List Z0) → (List (List UInt8)) → (List Int) → (List Z4) → (List Z2) → (List UInt8) → (List UInt8) → zbn) (b0 : Int) (b1 : List Z0) (b2 : (List (List UInt8))) (b3 : List Int) (b4 : List Z4) (b5 : List Z2) (b6 : List UInt8) (b7 : List UInt8) : zbn :=
  bif (decide (b0 < (List.length b3 : Int))) then
  (gd (inB b0 (List.length b3))
  (match zj7 N (rdL b3 b0 (0 : Int)) (0 : Int) (4095 : Int) with
  | some r6 => (bif (!r6) then
  (some (.inl (false, ())))
  else
  (gd (inB b0 (List.length b4))
  (match zi7 N ((rdL b4 b0 J4).1) with
  | some r7 => (bif (!r7) then
  (some (.inl (false, ())))
  else
  (gd (inB b0 (List.length b4))
  (match zi7 N ((rdL b4 b0 J4).2) with
  | some r8 => (bif (!r8) then
  (some (.inl (false, ())))
  else
  (rec (IntKind.wrap .i64 (b0 + (1 : Int))) b1 b2 b3 b4 b5 b6 b7))
  | none => none)))
  | none => none)))
  | none => none))
  else
  (some (.inr (((), ()), ((b1, (b2, (b3, (b4, b5)))), ((b6, b7), ())))))
def z7l (N n : Nat) (b0 : Int) (b1 : List Z0) (b2 : (List (List UInt8))) (b3 : List Int) (b4 : List Z4) (b5 : List Z2) (b6 : List UInt8) (b7 : List UInt8) : zbn :=
  iter (fun (rec : ((Unit × (Unit × Int)) × (((List Z0) × ((List (List UInt8)) × ((List Int) × ((List Z4) × (List Z2))))) × (((List UInt8) × (List UInt8)) × Unit))) → zbn) v => z6o N (fun b0 b1 b2 b3 b4 b5 b6 b7 => rec (((), ((), b0)), ((b1, (b2, (b3, (b4, b5)))), ((b6, b7), ())))) v.1.2.2 v.2.1.1 v.2.1.2.1 v.2.1.2.2.1 v.2.1.2.2.2.1 v.2.1.2.2.2.2 v.2.2.1.1 v.2.2.1.2) n (((), ((), b0)), ((b1, (b2, (b3, (b4, b5)))), ((b6, b7), ())))
theorem zj9 (N n : Nat) (b0 : Int) (b1 : List Z0) (b2 : (List (List UInt8))) (b3 : List Int) (b4 : List Z4) (b5 : List Z2) (b6 : List UInt8) (b7 : List UInt8) : z7l N (n + 1) b0 b1 b2 b3 b4 b5 b6 b7 = z6o N (fun b0  b1  b2  b3  b4  b5  b6  b7  => z7l N n b0 b1 b2 b3 b4 b5 b6 b7) b0 b1 b2 b3 b4 b5 b6 b7 := rfl
def zm5 (N : Nat) (b0 : List Z0) (b1 : (List (List UInt8))) (b2 : List Int) (b3 : List Z4) (b4 : List Z2) (b5 : List UInt8) (b6 : List UInt8) : Option ((Bool × Unit)) :=
  match z7l N N (0 : Int) b0 b1 b2 b3 b4 b5 b6 with
  | some r9 => (match r9 with
  | .inl r10 => (some (r10.1, ()))
  | .inr r11 => (match z7k N N (0 : Int) r11.2.1.1 r11.2.1.2.1 r11.2.1.2.2.1 r11.2.1.2.2.2.1 r11.2.1.2.2.2.2 r11.2.2.1.1 r11.2.2.1.2 with
  | some r14 => (match r14 with
  | .inl r15 => (some (r15.1, ()))
  | .inr r16 => (some (true, ())))
  | none => none))
  | none => none
def zq3 (N : Nat) (a0 : z4u) (a1 : Z7) : Option (Bool) :=
  bif (eqi (List.length a0.2.2.1 : Int) (0 : Int)) then
  (match ycz N a0 a1 with
  | some r1 => (some r1)
  | none => none)
  else
  (let x2 := (decide ((0 : Int) < (List.length a0.1 : Int)))
  bif x2 then
  (some false)
  else
  (let x3 := (!(eqi (List.length a0.2.2.2.1 : Int) (List.length a0.2.2.1 : Int)))
  bif x3 then
  (some false)
  else
  (let x4 := (IntKind.wrap .i64 ((List.length a0.2.2.1 : Int) - (1 : Int)))
  bif (!(eqi (List.length a0.2.1 : Int) x4)) then
  (some false)
  else
  (match zkj N a0.2.1 a1 with
  | some r5 => (bif (!r5) then
  (some false)
  else
  (match zm5 N a0.1 a0.2.1 a0.2.2.1 a0.2.2.2.1 a0.2.2.2.2 a1.1 a1.2 with
  | some r17 => (some r17.1)
  | none => none))
  | none => none))))
def bytealg_CompareString (N : Nat) (a0 : List UInt8) (a1 : List UInt8) : Option Int :=
  some (cmpS a0 a1)
def zvh (N : Nat) (a0 : List UInt8) (a1 : List UInt8) : Option (Int) :=
  match bytealg_CompareString N a0 a1 with
  | some r1 => (some r1)
  | none => none
def zf6 (N : Nat) (a0 : Z0) (a1 : List UInt8) : Option (Int) :=
  match zvh N a0.1 a1 with
  | some r1 => (some r1)
  | none => none
abbrev X6 := Option ((((List Z0) × ((List UInt8) × (Unit × (Int × Int)))) × Unit))
def W5 (N : Nat) (rec : (List Z0) → (List UInt8) → Int → Int → Int → X6) (b0 : List Z0) (b1 : List UInt8) (b2 : Int) (b3 : Int) (b4 : Int) : X6 :=
  bif (decide (b3 < b4)) then
  (let x1 := (IntKind.wrap .u64 ((IntKind.wrap .i64 (b3 + b4))))
  gd (decide (0 ≤ (1 : Int)))
  (let x2 := (Int.fdiv x1 (2 ^ min (Int.toNat (1 : Int)) (IntKind.bits .u64)))
  gd (inB (IntKind.wrap .i64 (x2)) (List.length b0))
  (match zf6 N (rdL b0 (IntKind.wrap .i64 (x2)) X8) b1 with
  | some r3 => (bif (decide (r3 < (0 : Int))) then
  (let x4 := (IntKind.wrap .i64 ((IntKind.wrap .i64 (x2)) + (1 : Int)))
  rec b0 b1 b2 x4 b4)
  else
  (rec b0 b1 b2 b3 (IntKind.wrap .i64 (x2))))
  | none => none)))
  else
  (some ((b0, (b1, ((), (b2, b3)))), ()))
def X1 (N n : Nat) (b0 : List Z0) (b1 : List UInt8) (b2 : Int) (b3 : Int) (b4 : Int) : X6 :=
  iter (fun (rec : (((List Z0) × ((List UInt8) × (Unit × (Int × (Int × Int))))) × Unit) → X6) v => W5 N (fun b0 b1 b2 b3 b4 => rec ((b0, (b1, ((), (b2, (b3, b4))))), ())) v.1.1 v.1.2.1 v.1.2.2.2.1 v.1.2.2.2.2.1 v.1.2.2.2.2.2) n ((b0, (b1, ((), (b2, (b3, b4))))), ())
theorem k8 (N n : Nat) (b0 : List Z0) (b1 : List UInt8) (b2 : Int) (b3 : Int) (b4 : Int) : X1 N (n + 1) b0 b1 b2 b3 b4 = W5 N (fun b0  b1  b2  b3  b4  => X1 N n b0 b1 b2 b3 b4) b0 b1 b2 b3 b4 := rfl
def W9 (N : Nat) (a0 : List Z0) (a1 : List UInt8) : Option ((Int × Bool)) :=
  match X1 N N a0 a1 (List.length a0 : Int) (0 : Int) (List.length a0 : Int) with
  | some r5 => (bif (decide (r5.1.2.2.2.2 < r5.1.2.2.2.1)) then
  (gd (inB r5.1.2.2.2.2 (List.length r5.1.1))
  (match zf6 N (rdL r5.1.1 r5.1.2.2.2.2 X8) r5.1.2.1 with
  | some r6 => (some (r5.1.2.2.2.2, (eqi r6 (0 : Int))))
  | none => none))
  else
  (some (r5.1.2.2.2.2, false)))
  | none => none
def ze3 (N : Nat) (a0 : List Z0) (a1 : List UInt8) : Option ((Int × Bool)) :=
  match W9 N a0 a1 with
  | some r1 => (some (r1.1, r1.2))
  | none => none
def V5 (N : Nat) (a0 : List Z0) : Option (List Z0) :=
  gd (fits (List.length a0) 40) (some a0)
def z0r (N : Nat) (a0 : Int) (a1 : List Z0) (a2 : List Z0) : Option (Unit × ((List Z0) × Unit)) :=
  gd (decide (0 ≤ a0) && (decide (a0 ≤ (List.length a1 : Int)) && (Nat.blt 0 (List.length a2) && fits (List.length a1 + List.length a2) 40))) (some ((), (insL a1 a0 a2, ())))
def y6s (N : Nat) (a0 : List Z0) (a1 : Z0) : Option ((List Z0)) :=
  match ze3 N a0 a1.1 with
  | some r1 => (match V5 N a0 with
  | some r2 => (bif r1.2 then
  (gd (inB r1.1 (List.length r2))
  (some (setL r2 r1.1 a1)))
  else
  (match z0r N r1.1 r2 ([a1] : List Z0) with
  | some r3 => (some r3.2.1)
  | none => none))
  | none => none)
  | none => none
def zqp (N : Nat) (a0 : Z2) (a1 : List Z0) : Option ((List Z0)) :=
  match y6s N a1 (a0.2.1, (a0.2.2.1, a0.2.2.2.2.2.2)) with
  | some r1 => (some r1)
  | none => none
def zfc (N : Nat) (a0 : List Z0) (a1 : Z7) : Option ((Int × Int)) :=
  match zdz N a1 with
  | some r1 => (bif r1 then
  (some ((0 : Int), (0 : Int)))
  else
  (match ze3 N a0 a1.1 with
  | some r2 => (bif (!(eqs a1.2 ([] : List UInt8))) then
  (match ze3 N a0 a1.2 with
  | some r3 => (some (r2.1, r3.1))
  | none => none)
  else
  (some (r2.1, (List.length a0 : Int))))
  | none => none))
  | none => none
def z4n (N : Nat) (a0 : Int) : Option (List Z0) :=
  gd (decide (0 ≤ a0) && fits (Int.toNat a0) 40) (some [])
abbrev K8 := Option ((Unit × ((List Z0) × Unit)))
def V7 (N : Nat) (rec : (List (List Z0)) → Int → Int → (List Z0) → K8) (b0 : (List (List Z0))) (b1 : Int) (b2 : Int) (b3 : List Z0) : K8 :=
  bif (decide (b2 < b1)) then
  (gd (inB b2 (List.length b0))
  (gd (fits (List.length b3 + List.length (rdL b0 b2 ([] : List Z0))) 40)
  (let x5 := (@HAppend.hAppend (List Z0) (List Z0) (List Z0) _ b3 (rdL b0 b2 ([] : List Z0)))
  rec b0 b1 (IntKind.wrap .i64 (b2 + (1 : Int))) x5)))
  else
  (some ((), (b3, ())))
def Q5 (N n : Nat) (b0 : (List (List Z0))) (b1 : Int) (b2 : Int) (b3 : List Z0) : K8 :=
  iter (fun (rec : ((Unit × ((List (List Z0)) × (Int × Int))) × ((List Z0) × Unit)) → K8) v => V7 N (fun b0 b1 b2 b3 => rec (((), (b0, (b1, b2))), (b3, ()))) v.1.2.1 v.1.2.2.1 v.1.2.2.2 v.2.1) n (((), (b0, (b1, b2))), (b3, ()))
theorem y6 (N n : Nat) (b0 : (List (List Z0))) (b1 : Int) (b2 : Int) (b3 : List Z0) : Q5 N (n + 1) b0 b1 b2 b3 = V7 N (fun b0  b1  b2  b3  => Q5 N n b0 b1 b2 b3) b0 b1 b2 b3 := rfl
abbrev K9 := Option ((((List (List Z0)) × Int) × Unit))
def V8 (N : Nat) (rec : (List (List Z0)) → Int → (List (List Z0)) → Int → Int → K9) (b0 : (List (List Z0))) (b1 : Int) (b2 : (List (List Z0))) (b3 : Int) (b4 : Int) : K9 :=
  bif (decide (b4 < b3)) then
  (gd (inB b4 (List.length b2))
  (let x1 := (List.length (rdL b2 b4 ([] : List Z0)) : Int)
  let x2 := (decide ((IntKind.wrap .i64 (b1 + x1)) < (0 : Int)))
  bif x2 then
  (none)
  else
  (rec b0 (IntKind.wrap .i64 (b1 + x1)) b2 b3 (IntKind.wrap .i64 (b4 + (1 : Int))))))
  else
  (some ((b0, b1), ()))
def Q6 (N n : Nat) (b0 : (List (List Z0))) (b1 : Int) (b2 : (List (List Z0))) (b3 : Int) (b4 : Int) : K9 :=
  iter (fun (rec : (((List (List Z0)) × (Int × ((List (List Z0)) × (Int × Int)))) × Unit) → K9) v => V8 N (fun b0 b1 b2 b3 b4 => rec ((b0, (b1, (b2, (b3, b4)))), ())) v.1.1 v.1.2.1 v.1.2.2.1 v.1.2.2.2.1 v.1.2.2.2.2) n ((b0, (b1, (b2, (b3, b4)))), ())
theorem y7 (N n : Nat) (b0 : (List (List Z0))) (b1 : Int) (b2 : (List (List Z0))) (b3 : Int) (b4 : Int) : Q6 N (n + 1) b0 b1 b2 b3 b4 = V8 N (fun b0  b1  b2  b3  b4  => Q6 N n b0 b1 b2 b3 b4) b0 b1 b2 b3 b4 := rfl
def w5 (N : Nat) (a0 : (List (List Z0))) : Option ((List Z0)) :=
  match Q6 N N a0 (0 : Int) a0 (List.length a0 : Int) (0 : Int) with
  | some r3 => (match z4n N r3.1.2 with
  | some r4 => (match Q5 N N r3.1.1 (List.length r3.1.1 : Int) (0 : Int) r4 with
  | some r6 => (some r6.2.1)
  | none => none)
  | none => none)
  | none => none
def zdy (N : Nat) (a0 : List Z0) (a1 : Z7) : Option ((List Z0)) :=
  match zfc N a0 a1 with
  | some r1 => (gd (decide (0 ≤ (0 : Int)) && (decide ((0 : Int) ≤ r1.1) && decide (r1.1 ≤ (List.length a0 : Int))))
  (gd (decide (0 ≤ r1.2) && (decide (r1.2 ≤ (List.length a0 : Int)) && decide ((List.length a0 : Int) ≤ (List.length a0 : Int))))
  (let x2 := ([(cut2 a0 (0 : Int) r1.1), (cut2 a0 r1.2 (List.length a0 : Int))] : List (List Z0))
  match w5 N x2 with
  | some r3 => (some r3)
  | none => none)))
  | none => none
def ylr (N : Nat) (a0 : List Z0) (a1 : List UInt8) : Option ((List Z0)) :=
  match zj4 N a1 with
  | some r1 => (match zdy N a0 r1 with
  | some r2 => (some r2)
  | none => none)
  | none => none
def zqr (N : Nat) (a0 : Z2) (a1 : List Z0) : Option ((List Z0)) :=
  match ylr N a1 a0.2.1 with
  | some r1 => (some r1)
  | none => none
def zmb (N : Nat) (a0 : Z2) (a1 : List Z0) : Option ((List Z0)) :=
  match zdy N a1 a0.2.2.2.1 with
  | some r1 => (some r1)
  | none => none
def zq2 (N : Nat) (a0 : List Z0) (a1 : Z7) : Option ((List Z0)) :=
  match zfc N a0 a1 with
  | some r1 => (gd ((decide (0 ≤ r1.1) && (decide (r1.1 ≤ r1.2) && decide (r1.2 ≤ (List.length a0 : Int)))) && (eqi r1.2 r1.2 && true))
  (some (cut2 a0 r1.1 r1.2)))
  | none => none
def zvi (N : Nat) (a0 : List UInt8) (a1 : List UInt8) (a2 : List UInt8) : Option (((List UInt8) × Bool)) :=
  match G4 N a0 a1 with
  | some r1 => (bif (!r1.2) then
  (some (([] : List UInt8), false))
  else
  (gd (decide (List.length a2 + List.length r1.1 < maxS))
  (let x2 := (@HAppend.hAppend (List UInt8) (List UInt8) (List UInt8) _ a2 r1.1)
  some (x2, true))))
  | none => none
abbrev zfb := Option ((Unit × ((List Z0) × Unit)))
def z9s (N : Nat) (rec : (List UInt8) → (List UInt8) → Int → Int → (List Z0) → zfb) (b0 : List UInt8) (b1 : List UInt8) (b2 : Int) (b3 : Int) (b4 : List Z0) : zfb :=
  bif (decide (b3 < b2)) then
  (gd (inB b3 (List.length b4))
  (match zvi N ((rdL b4 b3 X8).1) b0 b1 with
  | some r4 => (gd (inB b3 (List.length b4))
  (let x5 := (setL b4 b3 (r4.1, ((rdL b4 b3 X8).2)))
  rec b0 b1 b2 (IntKind.wrap .i64 (b3 + (1 : Int))) x5))
  | none => none))
  else
  (some ((), (b4, ())))
def zfe (N n : Nat) (b0 : List UInt8) (b1 : List UInt8) (b2 : Int) (b3 : Int) (b4 : List Z0) : zfb :=
  iter (fun (rec : (((List UInt8) × ((List UInt8) × (Unit × (Int × Int)))) × ((List Z0) × Unit)) → zfb) v => z9s N (fun b0 b1 b2 b3 b4 => rec ((b0, (b1, ((), (b2, b3)))), (b4, ()))) v.1.1 v.1.2.1 v.1.2.2.2.1 v.1.2.2.2.2 v.2.1) n ((b0, (b1, ((), (b2, b3)))), (b4, ()))
theorem zod (N n : Nat) (b0 : List UInt8) (b1 : List UInt8) (b2 : Int) (b3 : Int) (b4 : List Z0) : zfe N (n + 1) b0 b1 b2 b3 b4 = z9s N (fun b0  b1  b2  b3  b4  => zfe N n b0 b1 b2 b3 b4) b0 b1 b2 b3 b4 := rfl
def y70 (N : Nat) (a0 : List Z0) (a1 : List UInt8) (a2 : List UInt8) : Option ((List Z0)) :=
  match z4a N a1 with
  | some r1 => (match zq2 N a0 r1 with
  | some r2 => (match V5 N r2 with
  | some r3 => (match zfe N N a1 a2 (List.length r3 : Int) (0 : Int) r3 with
  | some r6 => (some r6.2.1)
  | none => none)
  | none => none)
  | none => none)
  | none => none
abbrev zbl := Option ((((List Z0) × ((List Z0) × Unit)) × ((List Z0) × Unit)))
def z6m (N : Nat) (rec : (List Z0) → (List Z0) → (List Z0) → zbl) (b0 : List Z0) (b1 : List Z0) (b2 : List Z0) : zbl :=
  bif (eqi (List.length b0 : Int) (0 : Int)) then
  (some ((b0, (b1, ())), (b2, ())))
  else
  (bif (eqi (List.length b1 : Int) (0 : Int)) then
  (some ((b0, (b1, ())), (b2, ())))
  else
  (gd (inB (0 : Int) (List.length b0))
  (gd (inB (0 : Int) (List.length b1))
  (let x3 := (lts ((rdL b0 (0 : Int) X8).1) ((rdL b1 (0 : Int) X8).1))
  bif x3 then
  (gd (inB (0 : Int) (List.length b0))
  (let x4 := ([(rdL b0 (0 : Int) X8)] : List Z0)
  gd (fits (List.length b2 + List.length x4) 40)
  (let x5 := (@HAppend.hAppend (List Z0) (List Z0) (List Z0) _ b2 x4)
  gd (decide (0 ≤ (1 : Int)) && (decide ((1 : Int) ≤ (List.length b0 : Int)) && decide ((List.length b0 : Int) ≤ (List.length b0 : Int))))
  (rec (cut2 b0 (1 : Int) (List.length b0 : Int)) b1 x5))))
  else
  (gd (inB (0 : Int) (List.length b0))
  (gd (inB (0 : Int) (List.length b1))
  (let x6 := (eqs ((rdL b0 (0 : Int) X8).1) ((rdL b1 (0 : Int) X8).1))
  bif x6 then
  (gd (decide (0 ≤ (1 : Int)) && (decide ((1 : Int) ≤ (List.length b0 : Int)) && decide ((List.length b0 : Int) ≤ (List.length b0 : Int))))
  (gd (inB (0 : Int) (List.length b1))
  (let x7 := ([(rdL b1 (0 : Int) X8)] : List Z0)
  gd (fits (List.length b2 + List.length x7) 40)
  (let x8 := (@HAppend.hAppend (List Z0) (List Z0) (List Z0) _ b2 x7)
  gd (decide (0 ≤ (1 : Int)) && (decide ((1 : Int) ≤ (List.length b1 : Int)) && decide ((List.length b1 : Int) ≤ (List.length b1 : Int))))
  (rec (cut2 b0 (1 : Int) (List.length b0 : Int)) (cut2 b1 (1 : Int) (List.length b1 : Int)) x8)))))
  else
  (gd (inB (0 : Int) (List.length b1))
  (let x9 := ([(rdL b1 (0 : Int) X8)] : List Z0)
  gd (fits (List.length b2 + List.length x9) 40)
  (let x10 := (@HAppend.hAppend (List Z0) (List Z0) (List Z0) _ b2 x9)
  gd (decide (0 ≤ (1 : Int)) && (decide ((1 : Int) ≤ (List.length b1 : Int)) && decide ((List.length b1 : Int) ≤ (List.length b1 : Int))))
  (rec b0 (cut2 b1 (1 : Int) (List.length b1 : Int)) x10)))))))))))
def z7j (N n : Nat) (b0 : List Z0) (b1 : List Z0) (b2 : List Z0) : zbl :=
  iter (fun (rec : (((List Z0) × ((List Z0) × Unit)) × ((List Z0) × Unit)) → zbl) v => z6m N (fun b0 b1 b2 => rec ((b0, (b1, ())), (b2, ()))) v.1.1 v.1.2.1 v.2.1) n ((b0, (b1, ())), (b2, ()))
theorem zbw (N n : Nat) (b0 : List Z0) (b1 : List Z0) (b2 : List Z0) : z7j N (n + 1) b0 b1 b2 = z6m N (fun b0  b1  b2  => z7j N n b0 b1 b2) b0 b1 b2 := rfl
def zq1 (N : Nat) (a0 : List Z0) (a1 : List Z0) : Option ((List Z0)) :=
  let x1 := (IntKind.wrap .i64 ((List.length a0 : Int) + (List.length a1 : Int)))
  gd ((decide (0 ≤ (0 : Int)) && decide ((0 : Int) ≤ x1)) && (decide (x1 < maxB) && decide (x1 * 40 < maxB)))
  (let x2 := (List.replicate (Int.toNat (0 : Int)) X8)
  match z7j N N a0 a1 x2 with
  | some r11 => (gd (fits (List.length r11.2.1 + List.length r11.1.1) 40)
  (let x12 := (@HAppend.hAppend (List Z0) (List Z0) (List Z0) _ r11.2.1 r11.1.1)
  gd (fits (List.length x12 + List.length r11.1.2.1) 40)
  (let x13 := (@HAppend.hAppend (List Z0) (List Z0) (List Z0) _ x12 r11.1.2.1)
  some x13)))
  | none => none)
def z8v (N : Nat) (a0 : Z2) (a1 : List Z0) : Option ((List Z0)) :=
  match z4a N a0.2.2.2.2.2.1 with
  | some r1 => (match zdy N a1 r1 with
  | some r2 => (match y70 N a1 a0.2.2.2.2.1 a0.2.2.2.2.2.1 with
  | some r3 => (match zq1 N r2 r3 with
  | some r4 => (some r4)
  | none => none)
  | none => none)
  | none => none)
  | none => none
def zm9 (N : Nat) (a0 : Z2) (a1 : List Z0) : Option ((List Z0)) :=
  match z8v N a0 a1 with
  | some r1 => (match z4a N a0.2.2.2.2.1 with
  | some r2 => (match zdy N r1 r2 with
  | some r3 => (some r3)
  | none => none)
  | none => none)
  | none => none
abbrev z5q := Option ((Unit × ((List Z0) × Unit)))
def z48 (N : Nat) (rec : Int → Int → Int → (List UInt8) → (List UInt8) → (List UInt8) → (List UInt8) → (List UInt8) → (List UInt8) → Int → (List Z0) → z5q) (b0 : Int) (b1 : Int) (b2 : Int) (b3 : List UInt8) (b4 : List UInt8) (b5 : List UInt8) (b6 : List UInt8) (b7 : List UInt8) (b8 : List UInt8) (b9 : Int) (b10 : List Z0) : z5q :=
  bif (decide (b1 < b0)) then
  (gd (inB b1 (List.length b10))
  (match zv1 N (b5, b6) ((rdL b10 b1 X8).1) with
  | some r2 => (bif r2 then
  (gd (inB b1 (List.length b10))
  (let x3 := (setL b10 b1 ((rdL b10 b1 X8).1, (((rdL b10 b1 X8).2).1, b9)))
  rec b0 (IntKind.wrap .i64 (b1 + (1 : Int))) b2 b3 b4 b5 b6 b7 b8 b9 x3))
  else
  (rec b0 (IntKind.wrap .i64 (b1 + (1 : Int))) b2 b3 b4 b5 b6 b7 b8 b9 b10))
  | none => none))
  else
  (some ((), (b10, ())))
def z53 (N n : Nat) (b0 : Int) (b1 : Int) (b2 : Int) (b3 : List UInt8) (b4 : List UInt8) (b5 : List UInt8) (b6 : List UInt8) (b7 : List UInt8) (b8 : List UInt8) (b9 : Int) (b10 : List Z0) : z5q :=
  iter (fun (rec : ((Unit × (Unit × (Int × Int))) × ((Int × ((List UInt8) × ((List UInt8) × ((List UInt8) × ((List UInt8) × ((List UInt8) × ((List UInt8) × Int))))))) × ((List Z0) × Unit))) → z5q) v => z48 N (fun b0 b1 b2 b3 b4 b5 b6 b7 b8 b9 b10 => rec (((), ((), (b0, b1))), ((b2, (b3, (b4, (b5, (b6, (b7, (b8, b9))))))), (b10, ())))) v.1.2.2.1 v.1.2.2.2 v.2.1.1 v.2.1.2.1 v.2.1.2.2.1 v.2.1.2.2.2.1 v.2.1.2.2.2.2.1 v.2.1.2.2.2.2.2.1 v.2.1.2.2.2.2.2.2.1 v.2.1.2.2.2.2.2.2.2 v.2.2.1) n (((), ((), (b0, b1))), ((b2, (b3, (b4, (b5, (b6, (b7, (b8, b9))))))), (b10, ())))
theorem zdr (N n : Nat) (b0 : Int) (b1 : Int) (b2 : Int) (b3 : List UInt8) (b4 : List UInt8) (b5 : List UInt8) (b6 : List UInt8) (b7 : List UInt8) (b8 : List UInt8) (b9 : Int) (b10 : List Z0) : z53 N (n + 1) b0 b1 b2 b3 b4 b5 b6 b7 b8 b9 b10 = z48 N (fun b0  b1  b2  b3  b4  b5  b6  b7  b8  b9  b10  => z53 N n b0 b1 b2 b3 b4 b5 b6 b7 b8 b9 b10) b0 b1 b2 b3 b4 b5 b6 b7 b8 b9 b10 := rfl
def zio (N : Nat) (a0 : Z2) (a1 : List Z0) : Option ((List Z0)) :=
  match V5 N a1 with
  | some r1 => (match z53 N N (List.length r1 : Int) (0 : Int) a0.1 a0.2.1 a0.2.2.1 a0.2.2.2.1.1 a0.2.2.2.1.2 a0.2.2.2.2.1 a0.2.2.2.2.2.1 a0.2.2.2.2.2.2 r1 with
  | some r4 => (some r4.2.1)
  | none => none)
  | none => none
def z3z (N : Nat) (a0 : List Z0) (a1 : Z2) : Option ((List Z0)) :=
  match zk2 N a1 with
  | some r1 => (match r1 with
  | .inl r2 => (match zqp N r2 a0 with
  | some r4 => (some r4)
  | none => none)
  | .inr r3 => (match r3 with
  | .inl r5 => (match zqr N r5 a0 with
  | some r7 => (some r7)
  | none => none)
  | .inr r6 => (match r6 with
  | .inl r8 => (match zmb N r8 a0 with
  | some r10 => (some r10)
  | none => none)
  | .inr r9 => (match r9 with
  | .inl r11 => (match zm9 N r11 a0 with
  | some r13 => (some r13)
  | none => none)
  | .inr r12 => (match r12 with
  | .inl r14 => (match z8v N r14 a0 with
  | some r16 => (some r16)
  | none => none)
  | .inr r15 => (match r15 with
  | .inl r17 => (match zio N r17 a0 with
  | some r19 => (some r19)
  | none => none)
  | .inr r18 => (some a0)))))))
  | none => none
def zct (N : Nat) (rec : (List Z0) → (List Z2) → Int → Int → Option (((List Z0) × Unit))) (b0 : List Z0) (b1 : List Z2) (b2 : Int) (b3 : Int) : Option (((List Z0) × Unit)) :=
  bif (decide (b3 < b2)) then
  (gd (inB b3 (List.length b1))
  (match z3z N b0 (rdL b1 b3 Y6) with
  | some r1 => (rec r1 b1 b2 (IntKind.wrap .i64 (b3 + (1 : Int))))
  | none => none))
  else
  (some (b0, ()))
def znd (N n : Nat) (b0 : List Z0) (b1 : List Z2) (b2 : Int) (b3 : Int) : Option (((List Z0) × Unit)) :=
  iter (fun (rec : (((List Z0) × ((List Z2) × (Int × Int))) × Unit) → Option (((List Z0) × Unit))) v => zct N (fun b0 b1 b2 b3 => rec ((b0, (b1, (b2, b3))), ())) v.1.1 v.1.2.1 v.1.2.2.1 v.1.2.2.2) n ((b0, (b1, (b2, b3))), ())
theorem zvw (N n : Nat) (b0 : List Z0) (b1 : List Z2) (b2 : Int) (b3 : Int) : znd N (n + 1) b0 b1 b2 b3 = zct N (fun b0  b1  b2  b3  => znd N n b0 b1 b2 b3) b0 b1 b2 b3 := rfl
def yut (N : Nat) (a0 : List Z0) (a1 : List Z2) : Option ((List Z0)) :=
  match znd N N a0 a1 (List.length a1 : Int) (0 : Int) with
  | some r2 => (some r2.1)
  | none => none
def zkk (N : Nat) (a0 : zuy) (a1 : Z4) : Option (Bool) :=
  match zj7 N a0.1 a1.1.1 a1.1.2 with
  | some r1 => (bif r1 then
  (match zj7 N a0.2 a1.2.1 a1.2.2 with
  | some r2 => (some r2)
  | none => none)
  else
  (some false))
  | none => none
abbrev z6x := Option (((Bool × (Unit × Unit)) × ((Unit × ((List (List UInt8)) × (Unit × (Unit × Unit)))) × ((List Z0) × ((List Int) × ((List Z4) × ((List Z2) × ((List Z0) × Unit))))))))
def z4q (N : Nat) (rec : (List Z2) → Bool → Int → (List (List UInt8)) → (List Z0) → (List Int) → (List Z4) → (List Z2) → (List Z0) → z6x) (b0 : List Z2) (b1 : Bool) (b2 : Int) (b3 : (List (List UInt8))) (b4 : List Z0) (b5 : List Int) (b6 : List Z4) (b7 : List Z2) (b8 : List Z0) : z6x :=
  bif (decide (b2 < (List.length b0 : Int))) then
  (bif (decide (b2 < (3 : Int))) then
  (gd (inB b2 (List.length b0))
  (match zi8 N (rdL b0 b2 Y6) with
  | some r18 => (bif r18 then
  (gd (inB b2 (List.length b0))
  (gd (fits (List.length b7 + 1) 112)
  (let x19 := (@HAppend.hAppend (List Z2) (List Z2) (List Z2) _ b7 ([(rdL b0 b2 Y6)] : List Z2))
  rec b0 b1 (IntKind.wrap .i64 (b2 + (1 : Int))) b3 b4 b5 b6 x19 b8)))
  else
  (rec b0 b1 (IntKind.wrap .i64 (b2 + (1 : Int))) b3 b4 b5 b6 b7 b8))
  | none => none))
  else
  (some ((b1, ((), ())), (((), (b3, ((), ((), ())))), (b4, (b5, (b6, (b7, (b8, ())))))))))
  else
  (some ((b1, ((), ())), (((), (b3, ((), ((), ())))), (b4, (b5, (b6, (b7, (b8, ()))))))))
def z5u (N n : Nat) (b0 : List Z2) (b1 : Bool) (b2 : Int) (b3 : (List (List UInt8))) (b4 : List Z0) (b5 : List Int) (b6 : List Z4) (b7 : List Z2) (b8 : List Z0) : z6x :=
  iter (fun (rec : (((List Z2) × (Bool × (Unit × (Unit × Int)))) × ((Unit × ((List (List UInt8)) × (Unit × (Unit × Unit)))) × ((List Z0) × ((List Int) × ((List Z4) × ((List Z2) × ((List Z0) × Unit))))))) → z6x) v => z4q N (fun b0 b1 b2 b3 b4 b5 b6 b7 b8 => rec ((b0, (b1, ((), ((), b2)))), (((), (b3, ((), ((), ())))), (b4, (b5, (b6, (b7, (b8, ())))))))) v.1.1 v.1.2.1 v.1.2.2.2.2 v.2.1.2.1 v.2.2.1 v.2.2.2.1 v.2.2.2.2.1 v.2.2.2.2.2.1 v.2.2.2.2.2.2.1) n ((b0, (b1, ((), ((), b2)))), (((), (b3, ((), ((), ())))), (b4, (b5, (b6, (b7, (b8, ())))))))
theorem zek (N n : Nat) (b0 : List Z2) (b1 : Bool) (b2 : Int) (b3 : (List (List UInt8))) (b4 : List Z0) (b5 : List Int) (b6 : List Z4) (b7 : List Z2) (b8 : List Z0) : z5u N (n + 1) b0 b1 b2 b3 b4 b5 b6 b7 b8 = z4q N (fun b0  b1  b2  b3  b4  b5  b6  b7  b8  => z5u N n b0 b1 b2 b3 b4 b5 b6 b7 b8) b0 b1 b2 b3 b4 b5 b6 b7 b8 := rfl
abbrev z6y := Option ((((List Z2) × (Bool × (Unit × Unit))) × ((Unit × ((List (List UInt8)) × (Unit × (Unit × Unit)))) × ((List Z0) × ((List Int) × ((List Z4) × ((List Z2) × ((List Z0) × Unit))))))))
def z4r (N : Nat) (rec : (List Z2) → Bool → Int → (List (List UInt8)) → (List Z0) → (List Int) → (List Z4) → (List Z2) → (List Z0) → (List Z7) → z6y) (b0 : List Z2) (b1 : Bool) (b2 : Int) (b3 : (List (List UInt8))) (b4 : List Z0) (b5 : List Int) (b6 : List Z4) (b7 : List Z2) (b8 : List Z0) (b9 : List Z7) : z6y :=
  bif (decide (b2 < (List.length b5 : Int))) then
  (gd (inB b2 (List.length b9))
  (match zq6 N b8 (rdL b9 b2 z6z) with
  | some r9 => (match z65 N r9 with
  | some r10 => (gd (inB b2 (List.length b6))
  (let x11 := (IntKind.wrap .i64 (r10.1 - ((rdL b6 b2 J4).1).1))
  let x12 := (bif decide ((0 : Int) < x11) then x11 else (0 : Int))
  let x13 := (IntKind.wrap .i64 (r10.1 + ((rdL b6 b2 J4).1).2))
  let x14 := (IntKind.wrap .i64 (r10.2 - ((rdL b6 b2 J4).2).1))
  let x15 := (bif decide ((0 : Int) < x14) then x14 else (0 : Int))
  let x16 := (IntKind.wrap .i64 (r10.2 + ((rdL b6 b2 J4).2).2))
  gd (inB b2 (List.length b6))
  (rec b0 b1 (IntKind.wrap .i64 (b2 + (1 : Int))) b3 b4 b5 (setL b6 b2 ((x12, x13), (x15, x16))) b7 b8 b9)))
  | none => none)
  | none => none))
  else
  (some ((b0, (b1, ((), ()))), (((), (b3, ((), ((), ())))), (b4, (b5, (b6, (b7, (b8, ()))))))))
def z5v (N n : Nat) (b0 : List Z2) (b1 : Bool) (b2 : Int) (b3 : (List (List UInt8))) (b4 : List Z0) (b5 : List Int) (b6 : List Z4) (b7 : List Z2) (b8 : List Z0) (b9 : List Z7) : z6y :=
  iter (fun (rec : (((List Z2) × (Bool × (Unit × (Unit × (Unit × Int))))) × ((Unit × ((List (List UInt8)) × (Unit × (Unit × Unit)))) × ((List Z0) × ((List Int) × ((List Z4) × ((List Z2) × ((List Z0) × ((List Z7) × Unit)))))))) → z6y) v => z4r N (fun b0 b1 b2 b3 b4 b5 b6 b7 b8 b9 => rec ((b0, (b1, ((), ((), ((), b2))))), (((), (b3, ((), ((), ())))), (b4, (b5, (b6, (b7, (b8, (b9, ()))))))))) v.1.1 v.1.2.1 v.1.2.2.2.2.2 v.2.1.2.1 v.2.2.1 v.2.2.2.1 v.2.2.2.2.1 v.2.2.2.2.2.1 v.2.2.2.2.2.2.1 v.2.2.2.2.2.2.2.1) n ((b0, (b1, ((), ((), ((), b2))))), (((), (b3, ((), ((), ())))), (b4, (b5, (b6, (b7, (b8, (b9, ()))))))))
theorem zel (N n : Nat) (b0 : List Z2) (b1 : Bool) (b2 : Int) (b3 : (List (List UInt8))) (b4 : List Z0) (b5 : List Int) (b6 : List Z4) (b7 : List Z2) (b8 : List Z0) (b9 : List Z7) : z5v N (n + 1) b0 b1 b2 b3 b4 b5 b6 b7 b8 b9 = z4r N (fun b0  b1  b2  b3  b4  b5  b6  b7  b8  b9  => z5v N n b0 b1 b2 b3 b4 b5 b6 b7 b8 b9) b0 b1 b2 b3 b4 b5 b6 b7 b8 b9 := rfl
def zml (N : Nat) (a0 : zii) (a1 : List V2) (a2 : List Z2) : Option (Bool) :=
  match zvb N with
  | some r1 => (match zvn N a0 with
  | some r2 => (match zn6 N a1 with
  | some r3 => (bif (eqi (List.length r2.2.2.1 : Int) (0 : Int)) then
  (match zjd N r2 with
  | some r4 => (match z65 N r2.1 with
  | some r5 => (match y32 N r5 with
  | some r6 => (let x7 := (eqi r4.1.1 r6.1.1 && (eqi r4.1.2 r6.1.2 && (eqi r4.2.1 r6.2.1 && (eqi r4.2.2 r6.2.2 && true))))
  bif x7 then
  (some r1)
  else
  (some false))
  | none => none)
  | none => none)
  | none => none)
  else
  (match zq7 N (([] : List UInt8), ([] : List UInt8)) r2.2.1 with
  | some r8 => (match z5v N N a2 r1 (0 : Int) r2.2.1 r2.1 r2.2.2.1 r2.2.2.2.1 r2.2.2.2.2 r3 r8 with
  | some r17 => (match z5u N N r17.1.1 r17.1.2.1 (0 : Int) r17.2.1.2.1 r17.2.2.1 r17.2.2.2.1 r17.2.2.2.2.1 r17.2.2.2.2.2.1 r17.2.2.2.2.2.2.1 with
  | some r20 => (match zq3 N (r20.2.2.1, (r20.2.1.2.1, (r20.2.2.2.1, (r20.2.2.2.2.1, r20.2.2.2.2.2.1)))) (([] : List UInt8), ([] : List UInt8)) with
  | some r21 => (bif r21 then
  (match yut N r20.2.2.2.2.2.2.1 r20.2.2.2.2.2.1 with
  | some r22 => (match z65 N r22 with
  | some r23 => (match zjd N (r20.2.2.1, (r20.2.1.2.1, (r20.2.2.2.1, (r20.2.2.2.2.1, r20.2.2.2.2.2.1)))) with
  | some r24 => (match zkk N r23 r24 with
  | some r25 => (bif r25 then
  (some r20.1.1)
  else
  (some false))
  | none => none)
  | none => none)
  | none => none)
  | none => none)
  else
  (some false))
  | none => none)
  | none => none)
  | none => none)
  | none => none))
  | none => none)
  | none => none)
  | none => none
end Ds
