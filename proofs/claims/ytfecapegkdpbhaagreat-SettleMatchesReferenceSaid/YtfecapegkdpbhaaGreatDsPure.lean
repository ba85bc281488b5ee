/- Printed by a program of the session's: what the program's functions compute, and that they do. -/
import Derived.Test.YtfecapegkdpbhaaGreatDvExt
import Derived.Test.YtfecapegkdpbhaaGreatDvRng
set_option linter.all false
namespace Ds
open Go Go.Dv

def T_ref04_Raw : Ty := (.pair (.int .u8) (.pair (.int .u8) (.int .u8)))
def T_ref05_Raw : Ty := (.pair (.int .u8) (.pair (.int .u8) (.pair (.int .u8) (.pair (.int .u8) (.pair (.int .u8) (.int .u8))))))
def T_api_Pair : Ty := (.pair .str (.pair .str (.int .i64)))
def T_api_Span : Ty := (.pair .str .str)
def T_api_Msg : Ty := (.pair (.int .i64) (.pair .str (.pair .str (.pair T_api_Span (.pair .str (.pair .str (.int .i64)))))))
def T_ref09_Firstly : Ty := (.pair (.int .i64) .bool)

/-- downspout/settle.moves -/
def settle_moves (N : Nat) (a0 : (Ty.T T_api_Msg)) : Option (Bool) :=
  bif (eqi a0.1 (4 : Int)) then
  (some true)
  else
  (some (eqi a0.1 (5 : Int)))

/-- downspout/settle.settled -/
def settle_settled (N : Nat) (a0 : (Ty.T T_api_Msg)) (a1 : (List (Ty.T T_api_Pair))) : Option (((Int × ((List UInt8) × ((List UInt8) × ((List UInt8) × ((List UInt8) × ((List UInt8) × ((List UInt8) × Int))))))) × (List (Ty.T T_api_Pair)))) :=
  some ((a0.1, (a0.2.1, (a0.2.2.1, (a0.2.2.2.1.1, (a0.2.2.2.1.2, (a0.2.2.2.2.1, (a0.2.2.2.2.2.1, a0.2.2.2.2.2.2))))))), a1)

/-- downspout/span.Prefix -/
def span_Prefix_l0_step (N : Nat) (rec : (List UInt8) → (List UInt8) → (List UInt8) → (List Int) → Option ((((List UInt8) × (Unit × Unit)) × (((List UInt8) × (List UInt8)) × ((List Int) × Unit))))) (b0 : (List UInt8)) (b1 : (List UInt8)) (b2 : (List UInt8)) (b3 : (List Int)) : Option ((((List UInt8) × (Unit × Unit)) × (((List UInt8) × (List UInt8)) × ((List Int) × Unit)))) :=
  let x1 := (decide ((0 : Int) < (List.length b3 : Int)))
  bif x1 then
  (let x2 := (IntKind.wrap .i64 ((List.length b3 : Int) - (1 : Int)))
  gd (inB x2 (List.length b3))
  (let x3 := (List.getD b3 (Int.toNat x2) (Ty.dflt (.int .u8)))
  bif (eqi x3 (255 : Int)) then
  (let x4 := (IntKind.wrap .i64 ((List.length b3 : Int) - (1 : Int)))
  gd (decide (0 ≤ x4) && decide (x4 ≤ (List.length b3 : Int)))
  (rec b0 b1 b2 (List.take (Int.toNat x4) b3)))
  else
  (some ((b0, ((), ())), ((b1, b2), (b3, ()))))))
  else
  (some ((b0, ((), ())), ((b1, b2), (b3, ()))))
def span_Prefix_l0 (N n : Nat) (b0 : (List UInt8)) (b1 : (List UInt8)) (b2 : (List UInt8)) (b3 : (List Int)) : Option ((((List UInt8) × (Unit × Unit)) × (((List UInt8) × (List UInt8)) × ((List Int) × Unit)))) :=
  iter (fun (rec : (((List UInt8) × (Unit × Unit)) × (((List UInt8) × (List UInt8)) × ((List Int) × Unit))) → Option ((((List UInt8) × (Unit × Unit)) × (((List UInt8) × (List UInt8)) × ((List Int) × Unit))))) v => span_Prefix_l0_step N (fun b0 b1 b2 b3 => rec ((b0, ((), ())), ((b1, b2), (b3, ())))) v.1.1 v.2.1.1 v.2.1.2 v.2.2.1) n ((b0, ((), ())), ((b1, b2), (b3, ())))
def span_Prefix (N : Nat) (a0 : (List UInt8)) : Option ((Ty.T T_api_Span)) :=
  gd (decide (List.length a0 < maxB))
  (match span_Prefix_l0 N N a0 ([] : List UInt8) ([] : List UInt8) (bytesI a0) with
  | some r5 => (let x6 := (decide ((0 : Int) < (List.length r5.2.2.1 : Int)))
  bif x6 then
  (let x7 := (IntKind.wrap .i64 ((List.length r5.2.2.1 : Int) - (1 : Int)))
  gd (inB x7 (List.length r5.2.2.1))
  (let x8 := (List.getD r5.2.2.1 (Int.toNat x7) (Ty.dflt (.int .u8)))
  gd (inB x7 (List.length r5.2.2.1))
  (let x9 := (List.set r5.2.2.1 (Int.toNat x7) (IntKind.wrap .u8 (x8 + (1 : Int))))
  some (r5.1.1, (bytesU x9)))))
  else
  (some (r5.1.1, (bytesU r5.2.2.1))))
  | none => none)

/-- downspout/settle.List -/
def settle_List_round0 (N : Nat) (a0 : Int) (a1 : (List UInt8)) (a2 : (List UInt8)) (a3 : (List UInt8)) (a4 : (List UInt8)) (a5 : (List UInt8)) (a6 : (List UInt8)) (a7 : Int) (a8 : (List (Ty.T T_api_Msg))) : Option ((Unit × (Unit × ((List (Ty.T T_api_Msg)) × Unit)))) :=
  let x1 := ([(a0, (a1, (a2, ((a3, a4), (a5, (a6, a7))))))] : List (Ty.T T_api_Msg))
  gd (fits (List.length a8 + List.length x1) 112)
  (let x2 := (@HAppend.hAppend (List (Ty.T T_api_Msg)) (List (Ty.T T_api_Msg)) (List (Ty.T T_api_Msg)) _ a8 x1)
  some ((), ((), (x2, ()))))

/-- internal/stringslite.HasPrefix -/
def stringslite_HasPrefix (N : Nat) (a0 : (List UInt8)) (a1 : (List UInt8)) : Option (Bool) :=
  let x1 := (decide ((List.length a1 : Int) ≤ (List.length a0 : Int)))
  bif x1 then
  (gd (decide (0 ≤ (0 : Int)) && (decide ((0 : Int) ≤ (List.length a1 : Int)) && decide ((List.length a1 : Int) ≤ (List.length a0 : Int))))
  (let x2 := (eqs (cut2 a0 (0 : Int) (List.length a1 : Int)) a1)
  some x2))
  else
  (some false)

/-- internal/stringslite.CutPrefix -/
def stringslite_CutPrefix (N : Nat) (a0 : (List UInt8)) (a1 : (List UInt8)) : Option (((List UInt8) × Bool)) :=
  match stringslite_HasPrefix N a0 a1 with
  | some r1 => (bif (!r1) then
  (some (a0, false))
  else
  (gd (decide (0 ≤ (List.length a1 : Int)) && (decide ((List.length a1 : Int) ≤ (List.length a0 : Int)) && decide ((List.length a0 : Int) ≤ (List.length a0 : Int))))
  (let x2 := (cut2 a0 (List.length a1 : Int) (List.length a0 : Int))
  some (x2, true))))
  | none => none

/-- strings.CutPrefix -/
def strings_CutPrefix (N : Nat) (a0 : (List UInt8)) (a1 : (List UInt8)) : Option (((List UInt8) × Bool)) :=
  match stringslite_CutPrefix N a0 a1 with
  | some r1 => (some (r1.1, r1.2))
  | none => none

/-- downspout/span.Moved -/
def span_Moved (N : Nat) (a0 : (List UInt8)) (a1 : (List UInt8)) (a2 : (List UInt8)) : Option (((List UInt8) × Bool)) :=
  match strings_CutPrefix N a0 a1 with
  | some r1 => (bif (!r1.2) then
  (some (([] : List UInt8), false))
  else
  (gd (decide (List.length a2 + List.length r1.1 < maxB))
  (let x2 := (@HAppend.hAppend (List UInt8) (List UInt8) (List UInt8) _ a2 r1.1)
  some (x2, true))))
  | none => none

/-- downspout/settle.settled$1 -/
def settle_settled_c1_m_l0_step (N : Nat) (rec : Int → (List UInt8) → (List UInt8) → (List UInt8) → (List UInt8) → (List UInt8) → (List UInt8) → Int → (List (Ty.T T_api_Pair)) → Int → Int → (List (Ty.T T_api_Msg)) → Option (((Unit × (Int × ((List UInt8) × ((List UInt8) × ((List UInt8) × ((List UInt8) × ((List UInt8) × ((List UInt8) × Int)))))))) × (Unit × (Unit × ((List (Ty.T T_api_Msg)) × Unit)))))) (b0 : Int) (b1 : (List UInt8)) (b2 : (List UInt8)) (b3 : (List UInt8)) (b4 : (List UInt8)) (b5 : (List UInt8)) (b6 : (List UInt8)) (b7 : Int) (b8 : (List (Ty.T T_api_Pair))) (b9 : Int) (b10 : Int) (b11 : (List (Ty.T T_api_Msg))) : Option (((Unit × (Int × ((List UInt8) × ((List UInt8) × ((List UInt8) × ((List UInt8) × ((List UInt8) × ((List UInt8) × Int)))))))) × (Unit × (Unit × ((List (Ty.T T_api_Msg)) × Unit))))) :=
  bif (decide (b10 < b9)) then
  (gd (inB b10 (List.length b8))
  (match span_Moved N ((rd T_api_Pair b8 b10).1) b5 b6 with
  | some r3 => (match settle_List_round0 N (1 : Int) r3.1 (((rd T_api_Pair b8 b10).2).1) ([] : List UInt8) ([] : List UInt8) ([] : List UInt8) ([] : List UInt8) (((rd T_api_Pair b8 b10).2).2) b11 with
  | some r4 => (rec b0 b1 b2 b3 b4 b5 b6 b7 b8 b9 (IntKind.wrap .i64 (b10 + (1 : Int))) r4.2.2.1)
  | none => none)
  | none => none))
  else
  (some (((), (b0, (b1, (b2, (b3, (b4, (b5, (b6, b7)))))))), ((), ((), (b11, ())))))
def settle_settled_c1_m_l0 (N n : Nat) (b0 : Int) (b1 : (List UInt8)) (b2 : (List UInt8)) (b3 : (List UInt8)) (b4 : (List UInt8)) (b5 : (List UInt8)) (b6 : (List UInt8)) (b7 : Int) (b8 : (List (Ty.T T_api_Pair))) (b9 : Int) (b10 : Int) (b11 : (List (Ty.T T_api_Msg))) : Option (((Unit × (Int × ((List UInt8) × ((List UInt8) × ((List UInt8) × ((List UInt8) × ((List UInt8) × ((List UInt8) × Int)))))))) × (Unit × (Unit × ((List (Ty.T T_api_Msg)) × Unit))))) :=
  iter (fun (rec : ((Unit × ((Int × ((List UInt8) × ((List UInt8) × ((List UInt8) × ((List UInt8) × ((List UInt8) × ((List UInt8) × Int))))))) × ((List (Ty.T T_api_Pair)) × (Int × Int)))) × (Unit × (Unit × ((List (Ty.T T_api_Msg)) × Unit)))) → Option (((Unit × (Int × ((List UInt8) × ((List UInt8) × ((List UInt8) × ((List UInt8) × ((List UInt8) × ((List UInt8) × Int)))))))) × (Unit × (Unit × ((List (Ty.T T_api_Msg)) × Unit)))))) v => settle_settled_c1_m_l0_step N (fun b0 b1 b2 b3 b4 b5 b6 b7 b8 b9 b10 b11 => rec (((), ((b0, (b1, (b2, (b3, (b4, (b5, (b6, b7))))))), (b8, (b9, b10)))), ((), ((), (b11, ()))))) v.1.2.1.1 v.1.2.1.2.1 v.1.2.1.2.2.1 v.1.2.1.2.2.2.1 v.1.2.1.2.2.2.2.1 v.1.2.1.2.2.2.2.2.1 v.1.2.1.2.2.2.2.2.2.1 v.1.2.1.2.2.2.2.2.2.2 v.1.2.2.1 v.1.2.2.2.1 v.1.2.2.2.2 v.2.2.2.1) n (((), ((b0, (b1, (b2, (b3, (b4, (b5, (b6, b7))))))), (b8, (b9, b10)))), ((), ((), (b11, ()))))
def settle_settled_c1_m (N : Nat) (a0 : Int) (a1 : (List UInt8)) (a2 : (List UInt8)) (a3 : (List UInt8)) (a4 : (List UInt8)) (a5 : (List UInt8)) (a6 : (List UInt8)) (a7 : Int) (a8 : (List (Ty.T T_api_Pair))) (a9 : (List (Ty.T T_api_Msg))) : Option ((Unit × (Unit × (Unit × ((List (Ty.T T_api_Msg)) × Unit))))) :=
  match span_Prefix N a6 with
  | some r1 => (match settle_List_round0 N (3 : Int) ([] : List UInt8) ([] : List UInt8) r1.1 r1.2 ([] : List UInt8) ([] : List UInt8) (0 : Int) a9 with
  | some r2 => (match settle_settled_c1_m_l0 N N a0 a1 a2 a3 a4 a5 a6 a7 a8 (List.length a8 : Int) (0 : Int) r2.2.2.1 with
  | some r5 => (bif (eqi r5.1.2.1 (4 : Int)) then
  (match span_Prefix N r5.1.2.2.2.2.2.2.1 with
  | some r6 => (match settle_List_round0 N (3 : Int) ([] : List UInt8) ([] : List UInt8) r6.1 r6.2 ([] : List UInt8) ([] : List UInt8) (0 : Int) r5.2.2.2.1 with
  | some r7 => (some ((), ((), ((), (r7.2.2.1, ())))))
  | none => none)
  | none => none)
  else
  (some ((), ((), ((), (r5.2.2.2.1, ()))))))
  | none => none)
  | none => none)
  | none => none

/-- downspout/settle.List -/
def settle_List_g0 (N : Nat) (b0 : Int) (b1 : (List UInt8)) (b2 : (List UInt8)) (b3 : (List UInt8)) (b4 : (List UInt8)) (b5 : (List UInt8)) (b6 : (List UInt8)) (b7 : Int) (b8 : (List (Ty.T T_api_Pair))) (b9 : (List (Ty.T T_api_Msg))) : Option ((Unit × (Unit × ((List (Ty.T T_api_Msg)) × Unit)))) :=
  match settle_settled_c1_m N b0 b1 b2 b3 b4 b5 b6 b7 b8 b9 with
  | some r3 => (some ((), ((), (r3.2.2.2.1, ()))))
  | none => none
def settle_List (N : Nat) (a0 : (Ty.T T_api_Msg)) (a1 : (List (Ty.T T_api_Pair))) : Option ((List (Ty.T T_api_Msg))) :=
  match settle_moves N a0 with
  | some r1 => (bif (!r1) then
  (some ([a0] : List (Ty.T T_api_Msg)))
  else
  (match settle_settled N a0 a1 with
  | some r2 => (match settle_List_g0 N r2.1.1 r2.1.2.1 r2.1.2.2.1 r2.1.2.2.2.1 r2.1.2.2.2.2.1 r2.1.2.2.2.2.2.1 r2.1.2.2.2.2.2.2.1 r2.1.2.2.2.2.2.2.2 r2.2 ([] : List (Ty.T T_api_Msg)) with
  | some r4 => (some r4.2.2.1)
  | none => none)
  | none => none))
  | none => none

/-- slices.Grow[[]downspout/api.Msg,downspout/api.Msg] of the nil slice -/
def slices_Grow_s_api_Msg_api_Msg_nil (N : Nat) (a0 : Int) : Option (List (Ty.T T_api_Msg)) :=
  gd (decide (0 ≤ a0) && fits (Int.toNat a0) 112) (some [])

/-- slices.Concat[[]downspout/api.Msg,downspout/api.Msg] -/
def slices_Concat_s_api_Msg_api_Msg_l1_step (N : Nat) (rec : (List (List (Ty.T T_api_Msg))) → Int → Int → (List (Ty.T T_api_Msg)) → Option ((Unit × ((List (Ty.T T_api_Msg)) × Unit)))) (b0 : (List (List (Ty.T T_api_Msg)))) (b1 : Int) (b2 : Int) (b3 : (List (Ty.T T_api_Msg))) : Option ((Unit × ((List (Ty.T T_api_Msg)) × Unit))) :=
  bif (decide (b2 < b1)) then
  (gd (inB b2 (List.length b0))
  (gd (fits (List.length b3 + List.length (rd (.list T_api_Msg) b0 b2)) 112)
  (let x5 := (@HAppend.hAppend (List (Ty.T T_api_Msg)) (List (Ty.T T_api_Msg)) (List (Ty.T T_api_Msg)) _ b3 (rd (.list T_api_Msg) b0 b2))
  rec b0 b1 (IntKind.wrap .i64 (b2 + (1 : Int))) x5)))
  else
  (some ((), (b3, ())))
def slices_Concat_s_api_Msg_api_Msg_l1 (N n : Nat) (b0 : (List (List (Ty.T T_api_Msg)))) (b1 : Int) (b2 : Int) (b3 : (List (Ty.T T_api_Msg))) : Option ((Unit × ((List (Ty.T T_api_Msg)) × Unit))) :=
  iter (fun (rec : ((Unit × ((List (List (Ty.T T_api_Msg))) × (Int × Int))) × ((List (Ty.T T_api_Msg)) × Unit)) → Option ((Unit × ((List (Ty.T T_api_Msg)) × Unit)))) v => slices_Concat_s_api_Msg_api_Msg_l1_step N (fun b0 b1 b2 b3 => rec (((), (b0, (b1, b2))), (b3, ()))) v.1.2.1 v.1.2.2.1 v.1.2.2.2 v.2.1) n (((), (b0, (b1, b2))), (b3, ()))
def slices_Concat_s_api_Msg_api_Msg_l0_step (N : Nat) (rec : (List (List (Ty.T T_api_Msg))) → Int → (List (List (Ty.T T_api_Msg))) → Int → Int → Option ((((List (List (Ty.T T_api_Msg))) × Int) × Unit))) (b0 : (List (List (Ty.T T_api_Msg)))) (b1 : Int) (b2 : (List (List (Ty.T T_api_Msg)))) (b3 : Int) (b4 : Int) : Option ((((List (List (Ty.T T_api_Msg))) × Int) × Unit)) :=
  bif (decide (b4 < b3)) then
  (gd (inB b4 (List.length b2))
  (let x1 := (List.length (rd (.list T_api_Msg) b2 b4) : Int)
  let x2 := (decide ((IntKind.wrap .i64 (b1 + x1)) < (0 : Int)))
  bif x2 then
  (none)
  else
  (rec b0 (IntKind.wrap .i64 (b1 + x1)) b2 b3 (IntKind.wrap .i64 (b4 + (1 : Int))))))
  else
  (some ((b0, b1), ()))
def slices_Concat_s_api_Msg_api_Msg_l0 (N n : Nat) (b0 : (List (List (Ty.T T_api_Msg)))) (b1 : Int) (b2 : (List (List (Ty.T T_api_Msg)))) (b3 : Int) (b4 : Int) : Option ((((List (List (Ty.T T_api_Msg))) × Int) × Unit)) :=
  iter (fun (rec : (((List (List (Ty.T T_api_Msg))) × (Int × ((List (List (Ty.T T_api_Msg))) × (Int × Int)))) × Unit) → Option ((((List (List (Ty.T T_api_Msg))) × Int) × Unit))) v => slices_Concat_s_api_Msg_api_Msg_l0_step N (fun b0 b1 b2 b3 b4 => rec ((b0, (b1, (b2, (b3, b4)))), ())) v.1.1 v.1.2.1 v.1.2.2.1 v.1.2.2.2.1 v.1.2.2.2.2) n ((b0, (b1, (b2, (b3, b4)))), ())
def slices_Concat_s_api_Msg_api_Msg (N : Nat) (a0 : (List (List (Ty.T T_api_Msg)))) : Option ((List (Ty.T T_api_Msg))) :=
  match slices_Concat_s_api_Msg_api_Msg_l0 N N a0 (0 : Int) a0 (List.length a0 : Int) (0 : Int) with
  | some r3 => (match slices_Grow_s_api_Msg_api_Msg_nil N r3.1.2 with
  | some r4 => (match slices_Concat_s_api_Msg_api_Msg_l1 N N r3.1.1 (List.length r3.1.1 : Int) (0 : Int) r4 with
  | some r6 => (some r6.2.1)
  | none => none)
  | none => none)
  | none => none

/-- downspout/settle.Turn -/
def settle_Turn (N : Nat) (a0 : (List (Ty.T T_api_Msg))) (a1 : (List (Ty.T T_api_Pair))) : Option (((List (Ty.T T_api_Msg)) × Int)) :=
  bif (eqi (List.length a0 : Int) (0 : Int)) then
  (some (([] : List (Ty.T T_api_Msg)), (50 : Int)))
  else
  (gd (inB (0 : Int) (List.length a0))
  (match settle_moves N (rd T_api_Msg a0 (0 : Int)) with
  | some r1 => (bif (!r1) then
  (some (([] : List (Ty.T T_api_Msg)), (50 : Int)))
  else
  (gd (inB (0 : Int) (List.length a0))
  (match settle_List N (rd T_api_Msg a0 (0 : Int)) a1 with
  | some r2 => (gd (decide (0 ≤ (1 : Int)) && (decide ((1 : Int) ≤ (List.length a0 : Int)) && decide ((List.length a0 : Int) ≤ (List.length a0 : Int))))
  (let x3 := ([r2, (cut2 a0 (1 : Int) (List.length a0 : Int))] : List (List (Ty.T T_api_Msg)))
  match slices_Concat_s_api_Msg_api_Msg N x3 with
  | some r4 => (some (r4, (0 : Int)))
  | none => none))
  | none => none)))
  | none => none))

/-- downspout/route.moves -/
def route_moves (N : Nat) (a0 : (Ty.T T_api_Msg)) : Option (Bool) :=
  bif (eqi a0.1 (4 : Int)) then
  (some true)
  else
  (some (eqi a0.1 (5 : Int)))

/-- cmp.isNaN[string] -/
def cmp_isNaN_string (N : Nat) (a0 : (List UInt8)) : Option (Bool) :=
  some (!(eqs a0 a0))

/-- cmp.Less[string] -/
def cmp_Less_string (N : Nat) (a0 : (List UInt8)) (a1 : (List UInt8)) : Option (Bool) :=
  match cmp_isNaN_string N a0 with
  | some r1 => (bif r1 then
  (match cmp_isNaN_string N a1 with
  | some r2 => (bif (!r2) then
  (some true)
  else
  (some (lts a0 a1)))
  | none => none)
  else
  (some (lts a0 a1)))
  | none => none

/-- slices.isNaN[string] -/
def slices_isNaN_string (N : Nat) (a0 : (List UInt8)) : Option (Bool) :=
  some (!(eqs a0 a0))

/-- slices.BinarySearch[[]string,string] -/
def slices_BinarySearch_s_string_string_l0_step (N : Nat) (rec : (List (List UInt8)) → (List UInt8) → Int → Int → Int → Option ((((List (List UInt8)) × ((List UInt8) × (Int × Int))) × Unit))) (b0 : (List (List UInt8))) (b1 : (List UInt8)) (b2 : Int) (b3 : Int) (b4 : Int) : Option ((((List (List UInt8)) × ((List UInt8) × (Int × Int))) × Unit)) :=
  bif (decide (b3 < b4)) then
  (let x1 := (IntKind.wrap .u64 ((IntKind.wrap .i64 (b3 + b4))))
  gd (decide (0 ≤ (1 : Int)))
  (let x2 := (Int.fdiv x1 (2 ^ min (Int.toNat (1 : Int)) (IntKind.bits .u64)))
  gd (inB (IntKind.wrap .i64 (x2)) (List.length b0))
  (match cmp_Less_string N (rd .str b0 (IntKind.wrap .i64 (x2))) b1 with
  | some r3 => (bif r3 then
  (let x4 := (IntKind.wrap .i64 ((IntKind.wrap .i64 (x2)) + (1 : Int)))
  rec b0 b1 b2 x4 b4)
  else
  (rec b0 b1 b2 b3 (IntKind.wrap .i64 (x2))))
  | none => none)))
  else
  (some ((b0, (b1, (b2, b3))), ()))
def slices_BinarySearch_s_string_string_l0 (N n : Nat) (b0 : (List (List UInt8))) (b1 : (List UInt8)) (b2 : Int) (b3 : Int) (b4 : Int) : Option ((((List (List UInt8)) × ((List UInt8) × (Int × Int))) × Unit)) :=
  iter (fun (rec : (((List (List UInt8)) × ((List UInt8) × (Int × (Int × Int)))) × Unit) → Option ((((List (List UInt8)) × ((List UInt8) × (Int × Int))) × Unit))) v => slices_BinarySearch_s_string_string_l0_step N (fun b0 b1 b2 b3 b4 => rec ((b0, (b1, (b2, (b3, b4)))), ())) v.1.1 v.1.2.1 v.1.2.2.1 v.1.2.2.2.1 v.1.2.2.2.2) n ((b0, (b1, (b2, (b3, b4)))), ())
def slices_BinarySearch_s_string_string (N : Nat) (a0 : (List (List UInt8))) (a1 : (List UInt8)) : Option ((Int × Bool)) :=
  match slices_BinarySearch_s_string_string_l0 N N a0 a1 (List.length a0 : Int) (0 : Int) (List.length a0 : Int) with
  | some r5 => (bif (decide (r5.1.2.2.2 < r5.1.2.2.1)) then
  (gd (inB r5.1.2.2.2 (List.length r5.1.1))
  (bif (eqs (rd .str r5.1.1 r5.1.2.2.2) r5.1.2.1) then
  (some (r5.1.2.2.2, true))
  else
  (gd (inB r5.1.2.2.2 (List.length r5.1.1))
  (match slices_isNaN_string N (rd .str r5.1.1 r5.1.2.2.2) with
  | some r6 => (bif r6 then
  (match slices_isNaN_string N r5.1.2.1 with
  | some r7 => (some (r5.1.2.2.2, r7))
  | none => none)
  else
  (some (r5.1.2.2.2, false)))
  | none => none))))
  else
  (some (r5.1.2.2.2, false)))
  | none => none

/-- downspout/route.Kid -/
def route_Kid (N : Nat) (a0 : (List UInt8)) (a1 : (List (List UInt8))) : Option (Int) :=
  match slices_BinarySearch_s_string_string N a1 a0 with
  | some r1 => (bif r1.2 then
  (some (IntKind.wrap .i64 (r1.1 + (1 : Int))))
  else
  (some r1.1))
  | none => none

/-- cmp.isNaN[downspout/span.end] -/
def cmp_isNaN_span_end (N : Nat) (a0 : (List UInt8)) : Option (Bool) :=
  some (!(eqs a0 a0))

/-- cmp.Compare[downspout/span.end] -/
def cmp_Compare_span_end (N : Nat) (a0 : (List UInt8)) (a1 : (List UInt8)) : Option (Int) :=
  match cmp_isNaN_span_end N a0 with
  | some r1 => (match cmp_isNaN_span_end N a1 with
  | some r2 => (bif r1 then
  (bif r2 then
  (some (0 : Int))
  else
  (some (-1 : Int)))
  else
  (bif r2 then
  (some (1 : Int))
  else
  (bif (lts a0 a1) then
  (some (-1 : Int))
  else
  (bif (!(lts a0 a1 || eqs a0 a1)) then
  (some (1 : Int))
  else
  (some (0 : Int))))))
  | none => none)
  | none => none

/-- (downspout/span.end).compare -/
def span_end_compare (N : Nat) (a0 : (List UInt8)) (a1 : (List UInt8)) : Option (Int) :=
  bif (eqs a0 a1) then
  (some (0 : Int))
  else
  (bif (eqs a0 ([] : List UInt8)) then
  (some (1 : Int))
  else
  (bif (eqs a1 ([] : List UInt8)) then
  (some (-1 : Int))
  else
  (match cmp_Compare_span_end N a0 a1 with
  | some r1 => (some r1)
  | none => none)))

/-- slices.MinFunc[[]downspout/span.end,downspout/span.end] -/
def slices_MinFunc_s_span_end_span_end__span_end_compare_l0_step (N : Nat) (rec : (List (List UInt8)) → (List UInt8) → Int → Option (((List UInt8) × Unit))) (b0 : (List (List UInt8))) (b1 : (List UInt8)) (b2 : Int) : Option (((List UInt8) × Unit)) :=
  bif (decide (b2 < (List.length b0 : Int))) then
  (gd (inB b2 (List.length b0))
  (match span_end_compare N (rd .str b0 b2) b1 with
  | some r2 => (bif (decide (r2 < (0 : Int))) then
  (gd (inB b2 (List.length b0))
  (rec b0 (rd .str b0 b2) (IntKind.wrap .i64 (b2 + (1 : Int)))))
  else
  (rec b0 b1 (IntKind.wrap .i64 (b2 + (1 : Int)))))
  | none => none))
  else
  (some (b1, ()))
def slices_MinFunc_s_span_end_span_end__span_end_compare_l0 (N n : Nat) (b0 : (List (List UInt8))) (b1 : (List UInt8)) (b2 : Int) : Option (((List UInt8) × Unit)) :=
  iter (fun (rec : (((List (List UInt8)) × (Unit × ((List UInt8) × Int))) × Unit) → Option (((List UInt8) × Unit))) v => slices_MinFunc_s_span_end_span_end__span_end_compare_l0_step N (fun b0 b1 b2 => rec ((b0, ((), (b1, b2))), ())) v.1.1 v.1.2.2.1 v.1.2.2.2) n ((b0, ((), (b1, b2))), ())
def slices_MinFunc_s_span_end_span_end__span_end_compare (N : Nat) (a0 : (List (List UInt8))) : Option ((List UInt8)) :=
  let x1 := (decide ((List.length a0 : Int) < (1 : Int)))
  bif x1 then
  (none)
  else
  (gd (inB (0 : Int) (List.length a0))
  (match slices_MinFunc_s_span_end_span_end__span_end_compare_l0 N N a0 (rd .str a0 (0 : Int)) (1 : Int) with
  | some r3 => (some r3.1)
  | none => none))

/-- downspout/span.least -/
def span_least (N : Nat) (a0 : (List (List UInt8))) : Option ((List UInt8)) :=
  match slices_MinFunc_s_span_end_span_end__span_end_compare N a0 with
  | some r1 => (some r1)
  | none => none

/-- downspout/span.Empty -/
def span_Empty (N : Nat) (a0 : (Ty.T T_api_Span)) : Option (Bool) :=
  bif (!(eqs a0.2 ([] : List UInt8))) then
  (some (lts a0.2 a0.1 || eqs a0.2 a0.1))
  else
  (some false)

/-- downspout/span.Meet -/
def span_Meet (N : Nat) (a0 : (Ty.T T_api_Span)) (a1 : (Ty.T T_api_Span)) : Option ((Ty.T T_api_Span)) :=
  match span_least N ([a0.2, a1.2] : List (List UInt8)) with
  | some r1 => (match span_Empty N ((bif !(lts a0.1 a1.1) then a0.1 else a1.1), r1) with
  | some r2 => (bif r2 then
  (some (([97] : List UInt8), ([97] : List UInt8)))
  else
  (some ((bif !(lts a0.1 a1.1) then a0.1 else a1.1), r1)))
  | none => none)
  | none => none

/-- downspout/span.Parts -/
def span_Parts_l0_step (N : Nat) (rec : (List UInt8) → (List (List UInt8)) → Int → Int → (List UInt8) → (List UInt8) → (List (Ty.T T_api_Span)) → Option (((Unit × (Unit × (List UInt8))) × (((List UInt8) × (List UInt8)) × ((List (Ty.T T_api_Span)) × Unit))))) (b0 : (List UInt8)) (b1 : (List (List UInt8))) (b2 : Int) (b3 : Int) (b4 : (List UInt8)) (b5 : (List UInt8)) (b6 : (List (Ty.T T_api_Span))) : Option (((Unit × (Unit × (List UInt8))) × (((List UInt8) × (List UInt8)) × ((List (Ty.T T_api_Span)) × Unit)))) :=
  bif (decide (b3 < b2)) then
  (gd (inB b3 (List.length b1))
  (match span_Meet N (b4, b5) (b0, (rd .str b1 b3)) with
  | some r1 => (gd (fits (List.length b6 + 1) 32)
  (let x2 := (@HAppend.hAppend (List (Ty.T T_api_Span)) (List (Ty.T T_api_Span)) (List (Ty.T T_api_Span)) _ b6 ([r1] : List (Ty.T T_api_Span)))
  rec (rd .str b1 b3) b1 b2 (IntKind.wrap .i64 (b3 + (1 : Int))) b4 b5 x2))
  | none => none))
  else
  (some (((), ((), b0)), ((b4, b5), (b6, ()))))
def span_Parts_l0 (N n : Nat) (b0 : (List UInt8)) (b1 : (List (List UInt8))) (b2 : Int) (b3 : Int) (b4 : (List UInt8)) (b5 : (List UInt8)) (b6 : (List (Ty.T T_api_Span))) : Option (((Unit × (Unit × (List UInt8))) × (((List UInt8) × (List UInt8)) × ((List (Ty.T T_api_Span)) × Unit)))) :=
  iter (fun (rec : ((Unit × (Unit × ((List UInt8) × ((List (List UInt8)) × (Int × Int))))) × (((List UInt8) × (List UInt8)) × ((List (Ty.T T_api_Span)) × Unit))) → Option (((Unit × (Unit × (List UInt8))) × (((List UInt8) × (List UInt8)) × ((List (Ty.T T_api_Span)) × Unit))))) v => span_Parts_l0_step N (fun b0 b1 b2 b3 b4 b5 b6 => rec (((), ((), (b0, (b1, (b2, b3))))), ((b4, b5), (b6, ())))) v.1.2.2.1 v.1.2.2.2.1 v.1.2.2.2.2.1 v.1.2.2.2.2.2 v.2.1.1 v.2.1.2 v.2.2.1) n (((), ((), (b0, (b1, (b2, b3))))), ((b4, b5), (b6, ())))
def span_Parts (N : Nat) (a0 : (Ty.T T_api_Span)) (a1 : (List (List UInt8))) : Option ((List (Ty.T T_api_Span))) :=
  match span_Parts_l0 N N ([] : List UInt8) a1 (List.length a1 : Int) (0 : Int) a0.1 a0.2 ([] : List (Ty.T T_api_Span)) with
  | some r3 => (match span_Meet N r3.2.1 (r3.1.2.2, ([] : List UInt8)) with
  | some r4 => (gd (fits (List.length r3.2.2.1 + 1) 32)
  (let x5 := (@HAppend.hAppend (List (Ty.T T_api_Span)) (List (Ty.T T_api_Span)) (List (Ty.T T_api_Span)) _ r3.2.2.1 ([r4] : List (Ty.T T_api_Span)))
  some x5))
  | none => none)
  | none => none

/-- downspout/route.area -/
def route_area (N : Nat) (a0 : (List (List UInt8))) (a1 : Int) : Option ((Ty.T T_api_Span)) :=
  match span_Parts N (([] : List UInt8), ([] : List UInt8)) a0 with
  | some r1 => (gd (inB a1 (List.length r1))
  (some (List.getD r1 (Int.toNat a1) (Ty.dflt T_api_Span))))
  | none => none

/-- downspout/msg.of -/
def msg_of (N : Nat) (a0 : (Ty.T T_api_Msg)) : Option ((Ty.T T_api_Msg) ⊕ (Ty.T T_api_Msg) ⊕ (Ty.T T_api_Msg) ⊕ (Ty.T T_api_Msg) ⊕ (Ty.T T_api_Msg) ⊕ (Ty.T T_api_Msg) ⊕ Unit) :=
  bif (eqi a0.1 (1 : Int)) then
  (some (.inl a0))
  else
  (bif (eqi a0.1 (2 : Int)) then
  (some (.inr (.inl a0)))
  else
  (bif (eqi a0.1 (3 : Int)) then
  (some (.inr (.inr (.inl a0))))
  else
  (bif (eqi a0.1 (4 : Int)) then
  (some (.inr (.inr (.inr (.inl a0)))))
  else
  (bif (eqi a0.1 (5 : Int)) then
  (some (.inr (.inr (.inr (.inr (.inl a0))))))
  else
  (bif (eqi a0.1 (6 : Int)) then
  (some (.inr (.inr (.inr (.inr (.inr (.inl a0)))))))
  else
  (some (.inr (.inr (.inr (.inr (.inr (.inr ()))))))))))))

/-- (downspout/msg.put).reads -/
def msg_put_reads (N : Nat) (a0 : (Ty.T T_api_Msg)) : Option ((List (Ty.T T_api_Span))) :=
  some ([] : List (Ty.T T_api_Span))

/-- (downspout/msg.del).reads -/
def msg_del_reads (N : Nat) (a0 : (Ty.T T_api_Msg)) : Option ((List (Ty.T T_api_Span))) :=
  some ([] : List (Ty.T T_api_Span))

/-- (downspout/msg.drop).reads -/
def msg_drop_reads (N : Nat) (a0 : (Ty.T T_api_Msg)) : Option ((List (Ty.T T_api_Span))) :=
  some ([] : List (Ty.T T_api_Span))

/-- (downspout/msg.move).reads -/
def msg_move_reads (N : Nat) (a0 : (Ty.T T_api_Msg)) : Option ((List (Ty.T T_api_Span))) :=
  match span_Prefix N a0.2.2.2.2.1 with
  | some r1 => (some ([r1] : List (Ty.T T_api_Span)))
  | none => none

/-- (downspout/msg.clone).reads -/
def msg_clone_reads (N : Nat) (a0 : (Ty.T T_api_Msg)) : Option ((List (Ty.T T_api_Span))) :=
  match span_Prefix N a0.2.2.2.2.1 with
  | some r1 => (some ([r1] : List (Ty.T T_api_Span)))
  | none => none

/-- (downspout/msg.stamp).reads -/
def msg_stamp_reads (N : Nat) (a0 : (Ty.T T_api_Msg)) : Option ((List (Ty.T T_api_Span))) :=
  some ([a0.2.2.2.1] : List (Ty.T T_api_Span))

/-- downspout/msg.Reads -/
def msg_Reads (N : Nat) (a0 : (Ty.T T_api_Msg)) : Option ((List (Ty.T T_api_Span))) :=
  match msg_of N a0 with
  | some r1 => (match r1 with
  | .inl r2 => (match msg_put_reads N r2 with
  | some r4 => (some r4)
  | none => none)
  | .inr r3 => (match r3 with
  | .inl r5 => (match msg_del_reads N r5 with
  | some r7 => (some r7)
  | none => none)
  | .inr r6 => (match r6 with
  | .inl r8 => (match msg_drop_reads N r8 with
  | some r10 => (some r10)
  | none => none)
  | .inr r9 => (match r9 with
  | .inl r11 => (match msg_move_reads N r11 with
  | some r13 => (some r13)
  | none => none)
  | .inr r12 => (match r12 with
  | .inl r14 => (match msg_clone_reads N r14 with
  | some r16 => (some r16)
  | none => none)
  | .inr r15 => (match r15 with
  | .inl r17 => (match msg_stamp_reads N r17 with
  | some r19 => (some r19)
  | none => none)
  | .inr r18 => (some ([] : List (Ty.T T_api_Span)))))))))
  | none => none

/-- downspout/span.Has -/
def span_Has (N : Nat) (a0 : (Ty.T T_api_Span)) (a1 : (List UInt8)) : Option (Bool) :=
  bif (!(lts a1 a0.1)) then
  (bif (eqs a0.2 ([] : List UInt8)) then
  (some true)
  else
  (some (lts a1 a0.2)))
  else
  (some false)

/-- downspout/span.Covers -/
def span_Covers (N : Nat) (a0 : (Ty.T T_api_Span)) (a1 : (Ty.T T_api_Span)) : Option (Bool) :=
  match span_Empty N a1 with
  | some r1 => (bif r1 then
  (some true)
  else
  (match span_Has N a0 a1.1 with
  | some r2 => (bif r2 then
  (match span_end_compare N a0.2 a1.2 with
  | some r3 => (some (decide ((0 : Int) ≤ r3)))
  | none => none)
  else
  (some false))
  | none => none))
  | none => none

/-- downspout/route.lies$1 -/
def route_lies_c1 (N : Nat) (a0 : (Ty.T T_api_Span)) (a1 : (List UInt8)) (a2 : (List UInt8)) : Option (Bool) :=
  match span_Covers N (a1, a2) a0 with
  | some r1 => (some (!r1))
  | none => none

/-- slices.IndexFunc[[]downspout/api.Span,downspout/api.Span] -/
def slices_IndexFunc_s_api_Span_api_Span__route_lies_c1_l0_step (N : Nat) (rec : (List (Ty.T T_api_Span)) → (List UInt8) → (List UInt8) → Int → Int → Option ((Int × Unit) ⊕ (Unit × Unit))) (b0 : (List (Ty.T T_api_Span))) (b1 : (List UInt8)) (b2 : (List UInt8)) (b3 : Int) (b4 : Int) : Option ((Int × Unit) ⊕ (Unit × Unit)) :=
  bif (decide (b4 < b3)) then
  (gd (inB b4 (List.length b0))
  (match route_lies_c1 N (rd T_api_Span b0 b4) b1 b2 with
  | some r1 => (bif r1 then
  (some (.inl (b4, ())))
  else
  (rec b0 b1 b2 b3 (IntKind.wrap .i64 (b4 + (1 : Int)))))
  | none => none))
  else
  (some (.inr ((), ())))
def slices_IndexFunc_s_api_Span_api_Span__route_lies_c1_l0 (N n : Nat) (b0 : (List (Ty.T T_api_Span))) (b1 : (List UInt8)) (b2 : (List UInt8)) (b3 : Int) (b4 : Int) : Option ((Int × Unit) ⊕ (Unit × Unit)) :=
  iter (fun (rec : (((List (Ty.T T_api_Span)) × (((List UInt8) × (List UInt8)) × (Int × Int))) × Unit) → Option ((Int × Unit) ⊕ (Unit × Unit))) v => slices_IndexFunc_s_api_Span_api_Span__route_lies_c1_l0_step N (fun b0 b1 b2 b3 b4 => rec ((b0, ((b1, b2), (b3, b4))), ())) v.1.1 v.1.2.1.1 v.1.2.1.2 v.1.2.2.1 v.1.2.2.2) n ((b0, ((b1, b2), (b3, b4))), ())
def slices_IndexFunc_s_api_Span_api_Span__route_lies_c1 (N : Nat) (a0 : (List (Ty.T T_api_Span))) (a1 : (List UInt8)) (a2 : (List UInt8)) : Option (Int) :=
  match slices_IndexFunc_s_api_Span_api_Span__route_lies_c1_l0 N N a0 a1 a2 (List.length a0 : Int) (0 : Int) with
  | some r2 => (match r2 with
  | .inl r3 => (some r3.1)
  | .inr r4 => (some (-1 : Int)))
  | none => none

/-- slices.ContainsFunc[[]downspout/api.Span,downspout/api.Span] -/
def slices_ContainsFunc_s_api_Span_api_Span__route_lies_c1 (N : Nat) (a0 : (List (Ty.T T_api_Span))) (a1 : (List UInt8)) (a2 : (List UInt8)) : Option (Bool) :=
  match slices_IndexFunc_s_api_Span_api_Span__route_lies_c1 N a0 a1 a2 with
  | some r1 => (some (decide ((0 : Int) ≤ r1)))
  | none => none

/-- downspout/span.One -/
def span_One (N : Nat) (a0 : (List UInt8)) : Option ((Ty.T T_api_Span)) :=
  gd (decide (List.length a0 + List.length ([0] : List UInt8) < maxB))
  (let x1 := (@HAppend.hAppend (List UInt8) (List UInt8) (List UInt8) _ a0 ([0] : List UInt8))
  some (a0, x1))

/-- (downspout/msg.put).writes -/
def msg_put_writes (N : Nat) (a0 : (Ty.T T_api_Msg)) : Option ((List (Ty.T T_api_Span))) :=
  match span_One N a0.2.1 with
  | some r1 => (some ([r1] : List (Ty.T T_api_Span)))
  | none => none

/-- (downspout/msg.del).writes -/
def msg_del_writes (N : Nat) (a0 : (Ty.T T_api_Msg)) : Option ((List (Ty.T T_api_Span))) :=
  match span_One N a0.2.1 with
  | some r1 => (some ([r1] : List (Ty.T T_api_Span)))
  | none => none

/-- (downspout/msg.drop).writes -/
def msg_drop_writes (N : Nat) (a0 : (Ty.T T_api_Msg)) : Option ((List (Ty.T T_api_Span))) :=
  some ([a0.2.2.2.1] : List (Ty.T T_api_Span))

/-- (downspout/msg.move).writes -/
def msg_move_writes (N : Nat) (a0 : (Ty.T T_api_Msg)) : Option ((List (Ty.T T_api_Span))) :=
  match span_Prefix N a0.2.2.2.2.1 with
  | some r1 => (match span_Prefix N a0.2.2.2.2.2.1 with
  | some r2 => (some ([r1, r2] : List (Ty.T T_api_Span)))
  | none => none)
  | none => none

/-- (downspout/msg.clone).writes -/
def msg_clone_writes (N : Nat) (a0 : (Ty.T T_api_Msg)) : Option ((List (Ty.T T_api_Span))) :=
  match span_Prefix N a0.2.2.2.2.2.1 with
  | some r1 => (some ([r1] : List (Ty.T T_api_Span)))
  | none => none

/-- (downspout/msg.stamp).writes -/
def msg_stamp_writes (N : Nat) (a0 : (Ty.T T_api_Msg)) : Option ((List (Ty.T T_api_Span))) :=
  some ([a0.2.2.2.1] : List (Ty.T T_api_Span))

/-- downspout/msg.Writes -/
def msg_Writes (N : Nat) (a0 : (Ty.T T_api_Msg)) : Option ((List (Ty.T T_api_Span))) :=
  match msg_of N a0 with
  | some r1 => (match r1 with
  | .inl r2 => (match msg_put_writes N r2 with
  | some r4 => (some r4)
  | none => none)
  | .inr r3 => (match r3 with
  | .inl r5 => (match msg_del_writes N r5 with
  | some r7 => (some r7)
  | none => none)
  | .inr r6 => (match r6 with
  | .inl r8 => (match msg_drop_writes N r8 with
  | some r10 => (some r10)
  | none => none)
  | .inr r9 => (match r9 with
  | .inl r11 => (match msg_move_writes N r11 with
  | some r13 => (some r13)
  | none => none)
  | .inr r12 => (match r12 with
  | .inl r14 => (match msg_clone_writes N r14 with
  | some r16 => (some r16)
  | none => none)
  | .inr r15 => (match r15 with
  | .inl r17 => (match msg_stamp_writes N r17 with
  | some r19 => (some r19)
  | none => none)
  | .inr r18 => (some ([] : List (Ty.T T_api_Span)))))))))
  | none => none

/-- downspout/route.lies -/
def route_lies (N : Nat) (a0 : (Ty.T T_api_Msg)) (a1 : (Ty.T T_api_Span)) : Option (Bool) :=
  match msg_Reads N a0 with
  | some r1 => (match slices_ContainsFunc_s_api_Span_api_Span__route_lies_c1 N r1 a1.1 a1.2 with
  | some r2 => (bif (!r2) then
  (match msg_Writes N a0 with
  | some r3 => (match slices_ContainsFunc_s_api_Span_api_Span__route_lies_c1 N r3 a1.1 a1.2 with
  | some r4 => (some (!r4))
  | none => none)
  | none => none)
  else
  (some false))
  | none => none)
  | none => none

/-- downspout/route.Crosses -/
def route_Crosses (N : Nat) (a0 : (Ty.T T_api_Msg)) (a1 : (List (List UInt8))) : Option (Bool) :=
  match route_moves N a0 with
  | some r1 => (bif (!r1) then
  (some false)
  else
  (match route_Kid N a0.2.2.2.2.1 a1 with
  | some r2 => (match route_area N a1 r2 with
  | some r3 => (match route_lies N a0 r3 with
  | some r4 => (some (!r4))
  | none => none)
  | none => none)
  | none => none))
  | none => none

/-- downspout/settle.First$1 -/
def settle_First_c1 (N : Nat) (a0 : (Ty.T T_api_Msg)) (a1 : (List (List UInt8))) : Option (Bool) :=
  match route_Crosses N a0 a1 with
  | some r1 => (some r1)
  | none => none

/-- slices.IndexFunc[[]downspout/api.Msg,downspout/api.Msg] -/
def slices_IndexFunc_s_api_Msg_api_Msg__settle_First_c1_l0_step (N : Nat) (rec : (List (Ty.T T_api_Msg)) → (List (List UInt8)) → Int → Int → Option ((Int × Unit) ⊕ (Unit × Unit))) (b0 : (List (Ty.T T_api_Msg))) (b1 : (List (List UInt8))) (b2 : Int) (b3 : Int) : Option ((Int × Unit) ⊕ (Unit × Unit)) :=
  bif (decide (b3 < b2)) then
  (gd (inB b3 (List.length b0))
  (match settle_First_c1 N (rd T_api_Msg b0 b3) b1 with
  | some r1 => (bif r1 then
  (some (.inl (b3, ())))
  else
  (rec b0 b1 b2 (IntKind.wrap .i64 (b3 + (1 : Int)))))
  | none => none))
  else
  (some (.inr ((), ())))
def slices_IndexFunc_s_api_Msg_api_Msg__settle_First_c1_l0 (N n : Nat) (b0 : (List (Ty.T T_api_Msg))) (b1 : (List (List UInt8))) (b2 : Int) (b3 : Int) : Option ((Int × Unit) ⊕ (Unit × Unit)) :=
  iter (fun (rec : (((List (Ty.T T_api_Msg)) × ((List (List UInt8)) × (Int × Int))) × Unit) → Option ((Int × Unit) ⊕ (Unit × Unit))) v => slices_IndexFunc_s_api_Msg_api_Msg__settle_First_c1_l0_step N (fun b0 b1 b2 b3 => rec ((b0, (b1, (b2, b3))), ())) v.1.1 v.1.2.1 v.1.2.2.1 v.1.2.2.2) n ((b0, (b1, (b2, b3))), ())
def slices_IndexFunc_s_api_Msg_api_Msg__settle_First_c1 (N : Nat) (a0 : (List (Ty.T T_api_Msg))) (a1 : (List (List UInt8))) : Option (Int) :=
  match slices_IndexFunc_s_api_Msg_api_Msg__settle_First_c1_l0 N N a0 a1 (List.length a0 : Int) (0 : Int) with
  | some r2 => (match r2 with
  | .inl r3 => (some r3.1)
  | .inr r4 => (some (-1 : Int)))
  | none => none

/-- downspout/settle.First -/
def settle_First (N : Nat) (a0 : (List (Ty.T T_api_Msg))) (a1 : (List (List UInt8))) : Option ((Int × Bool)) :=
  match slices_IndexFunc_s_api_Msg_api_Msg__settle_First_c1 N a0 a1 with
  | some r1 => (let x2 := (bif decide (r1 < (0 : Int)) then (0 : Int) else r1)
  some (x2, (decide ((0 : Int) ≤ r1))))
  | none => none

/-- downspout/downspoutref06.Same -/
def ref06_Same_l0_step (N : Nat) (rec : (List (Ty.T T_api_Msg)) → (List (Ty.T T_api_Msg)) → Int → Option ((Bool × Unit) ⊕ (Unit × Unit))) (b0 : (List (Ty.T T_api_Msg))) (b1 : (List (Ty.T T_api_Msg))) (b2 : Int) : Option ((Bool × Unit) ⊕ (Unit × Unit)) :=
  bif (decide (b2 < (List.length b0 : Int))) then
  (gd (inB b2 (List.length b0))
  (gd (inB b2 (List.length b1))
  (let x2 := (!(eqi ((rd T_api_Msg b0 b2).1) ((rd T_api_Msg b1 b2).1) && (eqs (((rd T_api_Msg b0 b2).2).1) (((rd T_api_Msg b1 b2).2).1) && (eqs ((((rd T_api_Msg b0 b2).2).2).1) ((((rd T_api_Msg b1 b2).2).2).1) && (eqs ((((((rd T_api_Msg b0 b2).2).2).2).1).1) ((((((rd T_api_Msg b1 b2).2).2).2).1).1) && (eqs ((((((rd T_api_Msg b0 b2).2).2).2).1).2) ((((((rd T_api_Msg b1 b2).2).2).2).1).2) && (eqs ((((((rd T_api_Msg b0 b2).2).2).2).2).1) ((((((rd T_api_Msg b1 b2).2).2).2).2).1) && (eqs (((((((rd T_api_Msg b0 b2).2).2).2).2).2).1) (((((((rd T_api_Msg b1 b2).2).2).2).2).2).1) && (eqi (((((((rd T_api_Msg b0 b2).2).2).2).2).2).2) (((((((rd T_api_Msg b1 b2).2).2).2).2).2).2) && true)))))))))
  bif x2 then
  (some (.inl (false, ())))
  else
  (rec b0 b1 (IntKind.wrap .i64 (b2 + (1 : Int)))))))
  else
  (some (.inr ((), ())))
def ref06_Same_l0 (N n : Nat) (b0 : (List (Ty.T T_api_Msg))) (b1 : (List (Ty.T T_api_Msg))) (b2 : Int) : Option ((Bool × Unit) ⊕ (Unit × Unit)) :=
  iter (fun (rec : (((List (Ty.T T_api_Msg)) × ((List (Ty.T T_api_Msg)) × Int)) × Unit) → Option ((Bool × Unit) ⊕ (Unit × Unit))) v => ref06_Same_l0_step N (fun b0 b1 b2 => rec ((b0, (b1, b2)), ())) v.1.1 v.1.2.1 v.1.2.2) n ((b0, (b1, b2)), ())
def ref06_Same (N : Nat) (a0 : (List (Ty.T T_api_Msg))) (a1 : (List (Ty.T T_api_Msg))) : Option (Bool) :=
  let x1 := (!(eqi (List.length a0 : Int) (List.length a1 : Int)))
  bif x1 then
  (some false)
  else
  (match ref06_Same_l0 N N a0 a1 (0 : Int) with
  | some r3 => (match r3 with
  | .inl r4 => (some r4.1)
  | .inr r5 => (some true))
  | none => none)

/-- downspout/downspoutlaw09.sanity -/
def law09_sanity_p1 (N : Nat) (b0 : Bool) : Option ((Bool × Unit)) :=
  some (b0, ())
def law09_sanity_p0 (N : Nat) (b0 : Int) (b1 : Int) (b2 : Int) (b3 : Int) (b4 : Bool) (b5 : Bool) (b6 : Bool) : Option ((Bool × Unit)) :=
  bif b6 then
  (bif (eqi b0 (0 : Int)) then
  (bif (eqi b1 (50 : Int)) then
  (bif (eqi b2 (50 : Int)) then
  (bif (eqi b3 (1 : Int)) then
  (bif b4 then
  (match law09_sanity_p1 N (!b5) with
  | some r20 => (some (r20.1, ()))
  | none => none)
  else
  (match law09_sanity_p1 N false with
  | some r21 => (some (r21.1, ()))
  | none => none))
  else
  (match law09_sanity_p1 N false with
  | some r22 => (some (r22.1, ()))
  | none => none))
  else
  (match law09_sanity_p1 N false with
  | some r23 => (some (r23.1, ()))
  | none => none))
  else
  (match law09_sanity_p1 N false with
  | some r24 => (some (r24.1, ()))
  | none => none))
  else
  (match law09_sanity_p1 N false with
  | some r25 => (some (r25.1, ()))
  | none => none))
  else
  (match law09_sanity_p1 N false with
  | some r26 => (some (r26.1, ()))
  | none => none)
def law09_sanity (N : Nat) : Option (Bool) :=
  let x1 := ([(([97, 47, 120] : List UInt8), (([49] : List UInt8), (3 : Int)))] : List (Ty.T T_api_Pair))
  match settle_List N ((4 : Int), (([] : List UInt8), (([] : List UInt8), ((([] : List UInt8), ([] : List UInt8)), (([97, 47] : List UInt8), (([98, 47] : List UInt8), (0 : Int))))))) x1 with
  | some r2 => (match settle_List N ((5 : Int), (([] : List UInt8), (([] : List UInt8), ((([] : List UInt8), ([] : List UInt8)), (([97, 47] : List UInt8), (([98, 47] : List UInt8), (0 : Int))))))) ([] : List (Ty.T T_api_Pair)) with
  | some r3 => (let x4 := ([((5 : Int), (([] : List UInt8), (([] : List UInt8), ((([] : List UInt8), ([] : List UInt8)), (([97, 47] : List UInt8), (([98, 47] : List UInt8), (0 : Int))))))), ((1 : Int), (([98, 47, 120] : List UInt8), (([49] : List UInt8), ((([] : List UInt8), ([] : List UInt8)), (([] : List UInt8), (([] : List UInt8), (3 : Int)))))))] : List (Ty.T T_api_Msg))
  match settle_Turn N x4 ([] : List (Ty.T T_api_Pair)) with
  | some r5 => (match settle_Turn N ([] : List (Ty.T T_api_Msg)) ([] : List (Ty.T T_api_Pair)) with
  | some r6 => (let x7 := ([((1 : Int), (([98, 47, 120] : List UInt8), (([49] : List UInt8), ((([] : List UInt8), ([] : List UInt8)), (([] : List UInt8), (([] : List UInt8), (3 : Int)))))))] : List (Ty.T T_api_Msg))
  match settle_Turn N x7 ([] : List (Ty.T T_api_Pair)) with
  | some r8 => (let x9 := ([((1 : Int), (([98, 47, 120] : List UInt8), (([49] : List UInt8), ((([] : List UInt8), ([] : List UInt8)), (([] : List UInt8), (([] : List UInt8), (3 : Int))))))), ((4 : Int), (([] : List UInt8), (([] : List UInt8), ((([] : List UInt8), ([] : List UInt8)), (([97, 47] : List UInt8), (([98, 47] : List UInt8), (0 : Int)))))))] : List (Ty.T T_api_Msg))
  let x10 := ([([98, 47] : List UInt8)] : List (List UInt8))
  match settle_First N x9 x10 with
  | some r11 => (let x12 := ([((1 : Int), (([98, 47, 120] : List UInt8), (([49] : List UInt8), ((([] : List UInt8), ([] : List UInt8)), (([] : List UInt8), (([] : List UInt8), (3 : Int))))))), ((4 : Int), (([] : List UInt8), (([] : List UInt8), ((([] : List UInt8), ([] : List UInt8)), (([97, 47] : List UInt8), (([98, 47] : List UInt8), (0 : Int)))))))] : List (Ty.T T_api_Msg))
  match settle_First N x12 ([] : List (List UInt8)) with
  | some r13 => (let x14 := ([((3 : Int), (([] : List UInt8), (([] : List UInt8), ((([98, 47] : List UInt8), ([98, 48] : List UInt8)), (([] : List UInt8), (([] : List UInt8), (0 : Int))))))), ((1 : Int), (([98, 47, 120] : List UInt8), (([49] : List UInt8), ((([] : List UInt8), ([] : List UInt8)), (([] : List UInt8), (([] : List UInt8), (3 : Int))))))), ((3 : Int), (([] : List UInt8), (([] : List UInt8), ((([97, 47] : List UInt8), ([97, 48] : List UInt8)), (([] : List UInt8), (([] : List UInt8), (0 : Int)))))))] : List (Ty.T T_api_Msg))
  match ref06_Same N r2 x14 with
  | some r15 => (bif r15 then
  (let x16 := ([((3 : Int), (([] : List UInt8), (([] : List UInt8), ((([98, 47] : List UInt8), ([98, 48] : List UInt8)), (([] : List UInt8), (([] : List UInt8), (0 : Int)))))))] : List (Ty.T T_api_Msg))
  match ref06_Same N r3 x16 with
  | some r17 => (bif r17 then
  (let x18 := ([((3 : Int), (([] : List UInt8), (([] : List UInt8), ((([98, 47] : List UInt8), ([98, 48] : List UInt8)), (([] : List UInt8), (([] : List UInt8), (0 : Int))))))), ((1 : Int), (([98, 47, 120] : List UInt8), (([49] : List UInt8), ((([] : List UInt8), ([] : List UInt8)), (([] : List UInt8), (([] : List UInt8), (3 : Int)))))))] : List (Ty.T T_api_Msg))
  match ref06_Same N r5.1 x18 with
  | some r19 => (match law09_sanity_p0 N r5.2 r6.2 r8.2 r11.1 r11.2 r13.2 r19 with
  | some r27 => (some r27.1)
  | none => none)
  | none => none)
  else
  (match law09_sanity_p0 N r5.2 r6.2 r8.2 r11.1 r11.2 r13.2 false with
  | some r28 => (some r28.1)
  | none => none))
  | none => none)
  else
  (match law09_sanity_p0 N r5.2 r6.2 r8.2 r11.1 r11.2 r13.2 false with
  | some r29 => (some r29.1)
  | none => none))
  | none => none)
  | none => none)
  | none => none)
  | none => none)
  | none => none)
  | none => none)
  | none => none)
  | none => none

/-- downspout/downspoutref04.Key -/
def ref04_Key (N : Nat) (a0 : Int) : Option ((List UInt8)) :=
  let x1 := ([([97, 47] : List UInt8), ([98, 47] : List UInt8), ([97, 47, 98, 47] : List UInt8), ([99, 47] : List UInt8)] : List (List UInt8))
  let x2 := ([([1] : List UInt8), ([2, 0, 0] : List UInt8), ([2, 0, 1] : List UInt8), ([2, 0, 2] : List UInt8), ([3, 120] : List UInt8)] : List (List UInt8))
  let x3 := (decide ((Int.tmod a0 (24 : Int)) < (20 : Int)))
  bif x3 then
  (let x4 := (IntKind.wrap .u8 (Int.tdiv (Int.tmod a0 (24 : Int)) (5 : Int)))
  gd (inB x4 (List.length x1))
  (let x5 := (Int.tmod (Int.tmod a0 (24 : Int)) (5 : Int))
  gd (inB x5 (List.length x2))
  (gd (decide (List.length (List.getD x1 (Int.toNat x4) (Ty.dflt .str)) + List.length (List.getD x2 (Int.toNat x5) (Ty.dflt .str)) < maxB))
  (let x6 := (@HAppend.hAppend (List UInt8) (List UInt8) (List UInt8) _ (List.getD x1 (Int.toNat x4) (Ty.dflt .str)) (List.getD x2 (Int.toNat x5) (Ty.dflt .str)))
  some x6))))
  else
  (let x7 := ([([1] : List UInt8), ([5, 48, 48, 48, 48, 48, 48, 48, 49, 47, 1] : List UInt8), ([6, 97, 47, 1] : List UInt8), ([97, 47, 98, 47, 99, 47, 1] : List UInt8)] : List (List UInt8))
  let x8 := (IntKind.wrap .u8 ((Int.tmod a0 (24 : Int)) - (20 : Int)))
  gd (inB x8 (List.length x7))
  (some (List.getD x7 (Int.toNat x8) (Ty.dflt .str))))

/-- downspout/downspoutref04.Pair -/
def ref04_Pair (N : Nat) (a0 : (Ty.T T_ref04_Raw)) : Option ((Ty.T T_api_Pair)) :=
  match ref04_Key N a0.1 with
  | some r1 => (let x2 := ([([] : List UInt8), ([118] : List UInt8), ([119, 120] : List UInt8), ([120, 121, 122] : List UInt8)] : List (List UInt8))
  gd (inB (Int.tmod a0.2.1 (4 : Int)) (List.length x2))
  (let x3 := (List.getD x2 (Int.toNat (Int.tmod a0.2.1 (4 : Int))) (Ty.dflt .str))
  let x4 := (IntKind.wrap .i64 ((Int.tmod a0.2.2 (4 : Int))))
  some (r1, (x3, x4))))
  | none => none

/-- downspout/downspoutref04.Put -/
def ref04_Put_p1 (N : Nat) (b0 : (List (Ty.T T_api_Pair))) (b1 : Bool) (b2 : Int) (b3 : (List UInt8)) (b4 : (List UInt8)) (b5 : Int) (b6 : (List (Ty.T T_api_Pair))) : Option ((((List (Ty.T T_api_Pair)) × (Unit × (Unit × (Bool × Int)))) × (((List UInt8) × ((List UInt8) × Int)) × ((List (Ty.T T_api_Pair)) × Unit)))) :=
  gd (inB b2 (List.length b0))
  (bif (!(eqs ((rd T_api_Pair b0 b2).1) b3)) then
  (gd (inB b2 (List.length b0))
  (let x2 := ([(rd T_api_Pair b0 b2)] : List (Ty.T T_api_Pair))
  gd (fits (List.length b6 + List.length x2) 40)
  (let x3 := (@HAppend.hAppend (List (Ty.T T_api_Pair)) (List (Ty.T T_api_Pair)) (List (Ty.T T_api_Pair)) _ b6 x2)
  some ((b0, ((), ((), (b1, b2)))), ((b3, (b4, b5)), (x3, ()))))))
  else
  (some ((b0, ((), ((), (b1, b2)))), ((b3, (b4, b5)), (b6, ())))))
def ref04_Put_l0_step (N : Nat) (rec : (List (Ty.T T_api_Pair)) → Bool → Int → (List UInt8) → (List UInt8) → Int → (List (Ty.T T_api_Pair)) → Option (((Unit × (Unit × Bool)) × (((List UInt8) × ((List UInt8) × Int)) × ((List (Ty.T T_api_Pair)) × Unit))))) (b0 : (List (Ty.T T_api_Pair))) (b1 : Bool) (b2 : Int) (b3 : (List UInt8)) (b4 : (List UInt8)) (b5 : Int) (b6 : (List (Ty.T T_api_Pair))) : Option (((Unit × (Unit × Bool)) × (((List UInt8) × ((List UInt8) × Int)) × ((List (Ty.T T_api_Pair)) × Unit)))) :=
  bif (decide (b2 < (List.length b0 : Int))) then
  (bif (!b1) then
  (gd (inB b2 (List.length b0))
  (bif (!(lts ((rd T_api_Pair b0 b2).1) b3)) then
  (gd (fits (List.length b6 + 1) 40)
  (let x1 := (@HAppend.hAppend (List (Ty.T T_api_Pair)) (List (Ty.T T_api_Pair)) (List (Ty.T T_api_Pair)) _ b6 ([(b3, (b4, b5))] : List (Ty.T T_api_Pair)))
  match ref04_Put_p1 N b0 true b2 b3 b4 b5 x1 with
  | some r4 => (let x5 := (IntKind.wrap .i64 (r4.1.2.2.2.2 + (1 : Int)))
  rec r4.1.1 r4.1.2.2.2.1 x5 r4.2.1.1 r4.2.1.2.1 r4.2.1.2.2 r4.2.2.1)
  | none => none))
  else
  (match ref04_Put_p1 N b0 b1 b2 b3 b4 b5 b6 with
  | some r6 => (let x7 := (IntKind.wrap .i64 (r6.1.2.2.2.2 + (1 : Int)))
  rec r6.1.1 r6.1.2.2.2.1 x7 r6.2.1.1 r6.2.1.2.1 r6.2.1.2.2 r6.2.2.1)
  | none => none)))
  else
  (match ref04_Put_p1 N b0 b1 b2 b3 b4 b5 b6 with
  | some r8 => (let x9 := (IntKind.wrap .i64 (r8.1.2.2.2.2 + (1 : Int)))
  rec r8.1.1 r8.1.2.2.2.1 x9 r8.2.1.1 r8.2.1.2.1 r8.2.1.2.2 r8.2.2.1)
  | none => none))
  else
  (some (((), ((), b1)), ((b3, (b4, b5)), (b6, ()))))
def ref04_Put_l0 (N n : Nat) (b0 : (List (Ty.T T_api_Pair))) (b1 : Bool) (b2 : Int) (b3 : (List UInt8)) (b4 : (List UInt8)) (b5 : Int) (b6 : (List (Ty.T T_api_Pair))) : Option (((Unit × (Unit × Bool)) × (((List UInt8) × ((List UInt8) × Int)) × ((List (Ty.T T_api_Pair)) × Unit)))) :=
  iter (fun (rec : (((List (Ty.T T_api_Pair)) × (Unit × (Unit × (Bool × Int)))) × (((List UInt8) × ((List UInt8) × Int)) × ((List (Ty.T T_api_Pair)) × Unit))) → Option (((Unit × (Unit × Bool)) × (((List UInt8) × ((List UInt8) × Int)) × ((List (Ty.T T_api_Pair)) × Unit))))) v => ref04_Put_l0_step N (fun b0 b1 b2 b3 b4 b5 b6 => rec ((b0, ((), ((), (b1, b2)))), ((b3, (b4, b5)), (b6, ())))) v.1.1 v.1.2.2.2.1 v.1.2.2.2.2 v.2.1.1 v.2.1.2.1 v.2.1.2.2 v.2.2.1) n ((b0, ((), ((), (b1, b2)))), ((b3, (b4, b5)), (b6, ())))
def ref04_Put (N : Nat) (a0 : (List (Ty.T T_api_Pair))) (a1 : (Ty.T T_api_Pair)) : Option ((List (Ty.T T_api_Pair))) :=
  match ref04_Put_l0 N N a0 false (0 : Int) a1.1 a1.2.1 a1.2.2 ([] : List (Ty.T T_api_Pair)) with
  | some r10 => (bif (!r10.1.2.2) then
  (gd (fits (List.length r10.2.2.1 + 1) 40)
  (let x11 := (@HAppend.hAppend (List (Ty.T T_api_Pair)) (List (Ty.T T_api_Pair)) (List (Ty.T T_api_Pair)) _ r10.2.2.1 ([r10.2.1] : List (Ty.T T_api_Pair)))
  some x11))
  else
  (some r10.2.2.1))
  | none => none

/-- downspout/downspoutref04.Made -/
def ref04_Made_l0_step (N : Nat) (rec : (List (Ty.T T_ref04_Raw)) → Int → (List (Ty.T T_api_Pair)) → Option ((Unit × ((List (Ty.T T_api_Pair)) × Unit)))) (b0 : (List (Ty.T T_ref04_Raw))) (b1 : Int) (b2 : (List (Ty.T T_api_Pair))) : Option ((Unit × ((List (Ty.T T_api_Pair)) × Unit))) :=
  bif (decide (b1 < (List.length b0 : Int))) then
  (bif (decide (b1 < (40 : Int))) then
  (gd (inB b1 (List.length b0))
  (match ref04_Pair N (rd T_ref04_Raw b0 b1) with
  | some r1 => (match ref04_Put N b2 r1 with
  | some r2 => (rec b0 (IntKind.wrap .i64 (b1 + (1 : Int))) r2)
  | none => none)
  | none => none))
  else
  (some ((), (b2, ()))))
  else
  (some ((), (b2, ())))
def ref04_Made_l0 (N n : Nat) (b0 : (List (Ty.T T_ref04_Raw))) (b1 : Int) (b2 : (List (Ty.T T_api_Pair))) : Option ((Unit × ((List (Ty.T T_api_Pair)) × Unit))) :=
  iter (fun (rec : (((List (Ty.T T_ref04_Raw)) × (Unit × Int)) × ((List (Ty.T T_api_Pair)) × Unit)) → Option ((Unit × ((List (Ty.T T_api_Pair)) × Unit)))) v => ref04_Made_l0_step N (fun b0 b1 b2 => rec ((b0, ((), b1)), (b2, ()))) v.1.1 v.1.2.2 v.2.1) n ((b0, ((), b1)), (b2, ()))
def ref04_Made (N : Nat) (a0 : (List (Ty.T T_ref04_Raw))) : Option ((List (Ty.T T_api_Pair))) :=
  match ref04_Made_l0 N N a0 (0 : Int) ([] : List (Ty.T T_api_Pair)) with
  | some r3 => (some r3.2.1)
  | none => none

/-- downspout/downspoutref05.Path -/
def ref05_Path (N : Nat) (a0 : Int) : Option ((List UInt8)) :=
  let x1 := ([([97, 47] : List UInt8), ([98, 47] : List UInt8), ([97, 47, 98, 47] : List UInt8), ([99, 47] : List UInt8), ([100, 47] : List UInt8)] : List (List UInt8))
  gd (inB (Int.tmod a0 (5 : Int)) (List.length x1))
  (let x2 := (List.getD x1 (Int.toNat (Int.tmod a0 (5 : Int))) (Ty.dflt .str))
  some x2)

/-- downspout/downspoutref05.Key -/
def ref05_Key (N : Nat) (a0 : Int) : Option ((List UInt8)) :=
  match ref05_Path N (Int.tmod a0 (4 : Int)) with
  | some r1 => (let x2 := ([([1] : List UInt8), ([2, 0, 0] : List UInt8), ([2, 0, 1] : List UInt8), ([2, 0, 2] : List UInt8), ([3, 120] : List UInt8)] : List (List UInt8))
  let x3 := (Int.tmod (IntKind.wrap .u8 (Int.tdiv a0 (4 : Int))) (5 : Int))
  gd (inB x3 (List.length x2))
  (gd (decide (List.length r1 + List.length (List.getD x2 (Int.toNat x3) (Ty.dflt .str)) < maxB))
  (let x4 := (@HAppend.hAppend (List UInt8) (List UInt8) (List UInt8) _ r1 (List.getD x2 (Int.toNat x3) (Ty.dflt .str)))
  some x4)))
  | none => none

/-- downspout/downspoutref02.Prefix -/
def ref02_Prefix_l0_step (N : Nat) (rec : (List UInt8) → Int → (List UInt8) → (List UInt8) → Option ((((List UInt8) × (Unit × Int)) × (((List UInt8) × (List UInt8)) × Unit)))) (b0 : (List UInt8)) (b1 : Int) (b2 : (List UInt8)) (b3 : (List UInt8)) : Option ((((List UInt8) × (Unit × Int)) × (((List UInt8) × (List UInt8)) × Unit))) :=
  bif (decide ((0 : Int) < b1)) then
  (gd (inB (IntKind.wrap .i64 (b1 - (1 : Int))) (List.length b0))
  (let x1 := (eqi (bt b0 (IntKind.wrap .i64 (b1 - (1 : Int)))) (255 : Int))
  bif x1 then
  (rec b0 (IntKind.wrap .i64 (b1 - (1 : Int))) b2 b3)
  else
  (some ((b0, ((), b1)), ((b2, b3), ())))))
  else
  (some ((b0, ((), b1)), ((b2, b3), ())))
def ref02_Prefix_l0 (N n : Nat) (b0 : (List UInt8)) (b1 : Int) (b2 : (List UInt8)) (b3 : (List UInt8)) : Option ((((List UInt8) × (Unit × Int)) × (((List UInt8) × (List UInt8)) × Unit))) :=
  iter (fun (rec : (((List UInt8) × (Unit × Int)) × (((List UInt8) × (List UInt8)) × Unit)) → Option ((((List UInt8) × (Unit × Int)) × (((List UInt8) × (List UInt8)) × Unit)))) v => ref02_Prefix_l0_step N (fun b0 b1 b2 b3 => rec ((b0, ((), b1)), ((b2, b3), ()))) v.1.1 v.1.2.2 v.2.1.1 v.2.1.2) n ((b0, ((), b1)), ((b2, b3), ()))
def ref02_Prefix (N : Nat) (a0 : (List UInt8)) : Option ((Ty.T T_api_Span)) :=
  match ref02_Prefix_l0 N N a0 (List.length a0 : Int) ([] : List UInt8) ([] : List UInt8) with
  | some r2 => (bif (eqi r2.1.2.2 (0 : Int)) then
  (some (r2.1.1, ([] : List UInt8)))
  else
  (gd (decide (0 ≤ (0 : Int)) && (decide ((0 : Int) ≤ (IntKind.wrap .i64 (r2.1.2.2 - (1 : Int)))) && decide ((IntKind.wrap .i64 (r2.1.2.2 - (1 : Int))) ≤ (List.length r2.1.1 : Int))))
  (let x3 := (cut2 r2.1.1 (0 : Int) (IntKind.wrap .i64 (r2.1.2.2 - (1 : Int))))
  gd (inB (IntKind.wrap .i64 (r2.1.2.2 - (1 : Int))) (List.length r2.1.1))
  (let x4 := (bt r2.1.1 (IntKind.wrap .i64 (r2.1.2.2 - (1 : Int))))
  let x5 := ([(IntKind.wrap .u8 (x4 + (1 : Int)))] : List Int)
  gd (decide (List.length x3 + List.length (bytesU x5) < maxB))
  (let x6 := (@HAppend.hAppend (List UInt8) (List UInt8) (List UInt8) _ x3 (bytesU x5))
  some (r2.1.1, x6))))))
  | none => none

/-- downspout/downspoutref02.Begins -/
def ref02_Begins (N : Nat) (a0 : (List UInt8)) (a1 : (List UInt8)) : Option (Bool) :=
  let x1 := (decide ((List.length a1 : Int) ≤ (List.length a0 : Int)))
  bif x1 then
  (gd (decide (0 ≤ (0 : Int)) && (decide ((0 : Int) ≤ (List.length a1 : Int)) && decide ((List.length a1 : Int) ≤ (List.length a0 : Int))))
  (let x2 := (eqs (cut2 a0 (0 : Int) (List.length a1 : Int)) a1)
  some x2))
  else
  (some false)

/-- downspout/downspoutref05.Value -/
def ref05_Value (N : Nat) (a0 : Int) : Option ((List UInt8)) :=
  let x1 := ([([] : List UInt8), ([120] : List UInt8), ([121, 121] : List UInt8), ([49, 50, 51, 52, 53, 54, 55, 56, 57, 48] : List UInt8), ([0, 255] : List UInt8)] : List (List UInt8))
  gd (inB (Int.tmod a0 (5 : Int)) (List.length x1))
  (let x2 := (List.getD x1 (Int.toNat (Int.tmod a0 (5 : Int))) (Ty.dflt .str))
  some x2)

/-- downspout/downspoutref02.One -/
def ref02_One (N : Nat) (a0 : (List UInt8)) : Option ((Ty.T T_api_Span)) :=
  gd (decide (List.length a0 + List.length ([0] : List UInt8) < maxB))
  (let x1 := (@HAppend.hAppend (List UInt8) (List UInt8) (List UInt8) _ a0 ([0] : List UInt8))
  some (a0, x1))

/-- downspout/downspoutref05.Made -/
def ref05_Made_p1 (N : Nat) (b0 : (List UInt8)) (b1 : (List UInt8)) (b2 : (List UInt8)) (b3 : Int) (b4 : Int) (b5 : Int) (b6 : Int) (b7 : Int) (b8 : Int) (b9 : Int) (b10 : (List UInt8)) (b11 : (List UInt8)) (b12 : (List UInt8)) (b13 : (List UInt8)) (b14 : (List UInt8)) (b15 : (List UInt8)) (b16 : Int) (b17 : (List UInt8)) (b18 : (List UInt8)) : Option ((Unit × ((Int × ((List UInt8) × ((List UInt8) × ((List UInt8) × ((List UInt8) × ((List UInt8) × ((List UInt8) × Int))))))) × Unit))) :=
  let x9 := (IntKind.wrap .i64 ((Int.tmod b8 (8 : Int))))
  bif (eqi (Int.tmod b3 (6 : Int)) (0 : Int)) then
  (match ref05_Value N b5 with
  | some r10 => (some ((), (((1 : Int), (b0, (r10, (([] : List UInt8), (([] : List UInt8), (([] : List UInt8), (([] : List UInt8), x9))))))), ())))
  | none => none)
  else
  (bif (eqi (Int.tmod b3 (6 : Int)) (1 : Int)) then
  (some ((), (((2 : Int), (b0, (([] : List UInt8), (([] : List UInt8), (([] : List UInt8), (([] : List UInt8), (([] : List UInt8), (0 : Int)))))))), ())))
  else
  (bif (eqi (Int.tmod b3 (6 : Int)) (2 : Int)) then
  (some ((), (((3 : Int), (([] : List UInt8), (([] : List UInt8), (b17, (b18, (([] : List UInt8), (([] : List UInt8), (0 : Int)))))))), ())))
  else
  (bif (eqi (Int.tmod b3 (6 : Int)) (3 : Int)) then
  (some ((), (((4 : Int), (([] : List UInt8), (([] : List UInt8), (([] : List UInt8), (([] : List UInt8), (b1, (b2, (0 : Int)))))))), ())))
  else
  (bif (eqi (Int.tmod b3 (6 : Int)) (4 : Int)) then
  (some ((), (((5 : Int), (([] : List UInt8), (([] : List UInt8), (([] : List UInt8), (([] : List UInt8), (b1, (b2, (0 : Int)))))))), ())))
  else
  (some ((), (((6 : Int), (([] : List UInt8), (([] : List UInt8), (b17, (b18, (([] : List UInt8), (([] : List UInt8), x9))))))), ())))))))
def ref05_Made_p0 (N : Nat) (b0 : (List UInt8)) (b1 : Int) (b2 : Int) (b3 : Int) (b4 : Int) (b5 : Int) (b6 : Int) (b7 : Int) (b8 : (List UInt8)) (b9 : (List UInt8)) (b10 : (List UInt8)) (b11 : (List UInt8)) (b12 : (List UInt8)) (b13 : (List UInt8)) (b14 : Int) (b15 : (List UInt8)) (b16 : (List UInt8)) : Option ((Unit × ((Int × ((List UInt8) × ((List UInt8) × ((List UInt8) × ((List UInt8) × ((List UInt8) × ((List UInt8) × Int))))))) × Unit))) :=
  match ref05_Path N b2 with
  | some r6 => (match ref05_Path N b4 with
  | some r7 => (match ref02_Begins N r6 r7 with
  | some r8 => (bif r8 then
  (bif (eqs r6 ([100, 47] : List UInt8)) then
  (match ref05_Made_p1 N b0 r6 ([99, 47] : List UInt8) b1 b2 b3 b4 b5 b6 b7 b8 b9 b10 b11 b12 b13 b14 b15 b16 with
  | some r11 => (some ((), ((r11.2.1.1, (r11.2.1.2.1, (r11.2.1.2.2.1, (r11.2.1.2.2.2.1, (r11.2.1.2.2.2.2.1, (r11.2.1.2.2.2.2.2.1, (r11.2.1.2.2.2.2.2.2.1, r11.2.1.2.2.2.2.2.2.2))))))), ())))
  | none => none)
  else
  (match ref05_Made_p1 N b0 r6 ([100, 47] : List UInt8) b1 b2 b3 b4 b5 b6 b7 b8 b9 b10 b11 b12 b13 b14 b15 b16 with
  | some r12 => (some ((), ((r12.2.1.1, (r12.2.1.2.1, (r12.2.1.2.2.1, (r12.2.1.2.2.2.1, (r12.2.1.2.2.2.2.1, (r12.2.1.2.2.2.2.2.1, (r12.2.1.2.2.2.2.2.2.1, r12.2.1.2.2.2.2.2.2.2))))))), ())))
  | none => none))
  else
  (match ref02_Begins N r7 r6 with
  | some r13 => (bif r13 then
  (bif (eqs r6 ([100, 47] : List UInt8)) then
  (match ref05_Made_p1 N b0 r6 ([99, 47] : List UInt8) b1 b2 b3 b4 b5 b6 b7 b8 b9 b10 b11 b12 b13 b14 b15 b16 with
  | some r14 => (some ((), ((r14.2.1.1, (r14.2.1.2.1, (r14.2.1.2.2.1, (r14.2.1.2.2.2.1, (r14.2.1.2.2.2.2.1, (r14.2.1.2.2.2.2.2.1, (r14.2.1.2.2.2.2.2.2.1, r14.2.1.2.2.2.2.2.2.2))))))), ())))
  | none => none)
  else
  (match ref05_Made_p1 N b0 r6 ([100, 47] : List UInt8) b1 b2 b3 b4 b5 b6 b7 b8 b9 b10 b11 b12 b13 b14 b15 b16 with
  | some r15 => (some ((), ((r15.2.1.1, (r15.2.1.2.1, (r15.2.1.2.2.1, (r15.2.1.2.2.2.1, (r15.2.1.2.2.2.2.1, (r15.2.1.2.2.2.2.2.1, (r15.2.1.2.2.2.2.2.2.1, r15.2.1.2.2.2.2.2.2.2))))))), ())))
  | none => none))
  else
  (match ref05_Made_p1 N b0 r6 r7 b1 b2 b3 b4 b5 b6 b7 b8 b9 b10 b11 b12 b13 b14 b15 b16 with
  | some r16 => (some ((), ((r16.2.1.1, (r16.2.1.2.1, (r16.2.1.2.2.1, (r16.2.1.2.2.2.1, (r16.2.1.2.2.2.2.1, (r16.2.1.2.2.2.2.2.1, (r16.2.1.2.2.2.2.2.2.1, r16.2.1.2.2.2.2.2.2.2))))))), ())))
  | none => none))
  | none => none))
  | none => none)
  | none => none)
  | none => none
def ref05_Made (N : Nat) (a0 : (Ty.T T_ref05_Raw)) : Option ((Ty.T T_api_Msg)) :=
  match ref05_Key N a0.2.1 with
  | some r1 => (match ref05_Key N a0.2.2.2.1 with
  | some r2 => (let x3 := (eqi (Int.tmod a0.2.2.2.2.1 (4 : Int)) (0 : Int))
  bif x3 then
  (match ref05_Path N a0.2.1 with
  | some r4 => (match ref02_Prefix N r4 with
  | some r5 => (match ref05_Made_p0 N r1 a0.1 a0.2.1 a0.2.2.1 a0.2.2.2.1 a0.2.2.2.2.1 a0.2.2.2.2.2 (0 : Int) ([] : List UInt8) ([] : List UInt8) ([] : List UInt8) ([] : List UInt8) ([] : List UInt8) ([] : List UInt8) (0 : Int) r5.1 r5.2 with
  | some r17 => (some (r17.2.1.1, (r17.2.1.2.1, (r17.2.1.2.2.1, ((r17.2.1.2.2.2.1, r17.2.1.2.2.2.2.1), r17.2.1.2.2.2.2.2)))))
  | none => none)
  | none => none)
  | none => none)
  else
  (let x18 := (eqi (Int.tmod a0.2.2.2.2.1 (16 : Int)) (1 : Int))
  bif x18 then
  (match ref05_Made_p0 N r1 a0.1 a0.2.1 a0.2.2.1 a0.2.2.2.1 a0.2.2.2.2.1 a0.2.2.2.2.2 (0 : Int) ([] : List UInt8) ([] : List UInt8) ([] : List UInt8) ([] : List UInt8) ([] : List UInt8) ([] : List UInt8) (0 : Int) r1 ([] : List UInt8) with
  | some r19 => (some (r19.2.1.1, (r19.2.1.2.1, (r19.2.1.2.2.1, ((r19.2.1.2.2.2.1, r19.2.1.2.2.2.2.1), r19.2.1.2.2.2.2.2)))))
  | none => none)
  else
  (let x20 := (eqi (Int.tmod a0.2.2.2.2.1 (16 : Int)) (5 : Int))
  bif x20 then
  (match ref05_Made_p0 N r1 a0.1 a0.2.1 a0.2.2.1 a0.2.2.2.1 a0.2.2.2.2.1 a0.2.2.2.2.2 (0 : Int) ([] : List UInt8) ([] : List UInt8) ([] : List UInt8) ([] : List UInt8) ([] : List UInt8) ([] : List UInt8) (0 : Int) ([] : List UInt8) ([] : List UInt8) with
  | some r21 => (some (r21.2.1.1, (r21.2.1.2.1, (r21.2.1.2.2.1, ((r21.2.1.2.2.2.1, r21.2.1.2.2.2.2.1), r21.2.1.2.2.2.2.2)))))
  | none => none)
  else
  (bif (eqs r1 r2) then
  (match ref02_One N r1 with
  | some r22 => (match ref05_Made_p0 N r1 a0.1 a0.2.1 a0.2.2.1 a0.2.2.2.1 a0.2.2.2.2.1 a0.2.2.2.2.2 (0 : Int) ([] : List UInt8) ([] : List UInt8) ([] : List UInt8) ([] : List UInt8) ([] : List UInt8) ([] : List UInt8) (0 : Int) r22.1 r22.2 with
  | some r23 => (some (r23.2.1.1, (r23.2.1.2.1, (r23.2.1.2.2.1, ((r23.2.1.2.2.2.1, r23.2.1.2.2.2.2.1), r23.2.1.2.2.2.2.2)))))
  | none => none)
  | none => none)
  else
  (match ref05_Made_p0 N r1 a0.1 a0.2.1 a0.2.2.1 a0.2.2.2.1 a0.2.2.2.2.1 a0.2.2.2.2.2 (0 : Int) ([] : List UInt8) ([] : List UInt8) ([] : List UInt8) ([] : List UInt8) ([] : List UInt8) ([] : List UInt8) (0 : Int) (bif lts r1 r2 || eqs r1 r2 then r1 else r2) (bif !(lts r1 r2) then r1 else r2) with
  | some r24 => (some (r24.2.1.1, (r24.2.1.2.1, (r24.2.1.2.2.1, ((r24.2.1.2.2.2.1, r24.2.1.2.2.2.2.1), r24.2.1.2.2.2.2.2)))))
  | none => none)))))
  | none => none)
  | none => none

/-- downspout/downspoutref05.List -/
def ref05_List_l0_step (N : Nat) (rec : (List (Ty.T T_ref05_Raw)) → Int → Int → (List (Ty.T T_api_Msg)) → Option ((Unit × ((List (Ty.T T_api_Msg)) × Unit)))) (b0 : (List (Ty.T T_ref05_Raw))) (b1 : Int) (b2 : Int) (b3 : (List (Ty.T T_api_Msg))) : Option ((Unit × ((List (Ty.T T_api_Msg)) × Unit))) :=
  bif (decide (b2 < (List.length b0 : Int))) then
  (bif (decide (b2 < b1)) then
  (gd (inB b2 (List.length b0))
  (match ref05_Made N (rd T_ref05_Raw b0 b2) with
  | some r1 => (gd (fits (List.length b3 + 1) 112)
  (let x2 := (@HAppend.hAppend (List (Ty.T T_api_Msg)) (List (Ty.T T_api_Msg)) (List (Ty.T T_api_Msg)) _ b3 ([r1] : List (Ty.T T_api_Msg)))
  rec b0 b1 (IntKind.wrap .i64 (b2 + (1 : Int))) x2))
  | none => none))
  else
  (some ((), (b3, ()))))
  else
  (some ((), (b3, ())))
def ref05_List_l0 (N n : Nat) (b0 : (List (Ty.T T_ref05_Raw))) (b1 : Int) (b2 : Int) (b3 : (List (Ty.T T_api_Msg))) : Option ((Unit × ((List (Ty.T T_api_Msg)) × Unit))) :=
  iter (fun (rec : (((List (Ty.T T_ref05_Raw)) × (Int × (Unit × Int))) × ((List (Ty.T T_api_Msg)) × Unit)) → Option ((Unit × ((List (Ty.T T_api_Msg)) × Unit)))) v => ref05_List_l0_step N (fun b0 b1 b2 b3 => rec ((b0, (b1, ((), b2))), (b3, ()))) v.1.1 v.1.2.1 v.1.2.2.2 v.2.1) n ((b0, (b1, ((), b2))), (b3, ()))
def ref05_List (N : Nat) (a0 : (List (Ty.T T_ref05_Raw))) (a1 : Int) : Option ((List (Ty.T T_api_Msg))) :=
  match ref05_List_l0 N N a0 a1 (0 : Int) ([] : List (Ty.T T_api_Msg)) with
  | some r3 => (some r3.2.1)
  | none => none

/-- downspout/downspoutlaw09.pivots -/
def law09_pivots_l0_step (N : Nat) (rec : Int → Int → (List (List UInt8)) → (List (List UInt8)) → Option ((Unit × ((List (List UInt8)) × Unit)))) (b0 : Int) (b1 : Int) (b2 : (List (List UInt8))) (b3 : (List (List UInt8))) : Option ((Unit × ((List (List UInt8)) × Unit))) :=
  bif (decide (b1 < (8 : Int))) then
  (gd (decide (0 ≤ b1))
  (let x2 := (Int.fdiv b0 (2 ^ min (Int.toNat b1) (IntKind.bits .u8)))
  let x3 := (IntKind.wrap .u8 (((BitVec.ofInt (IntKind.bits .u8) x2 &&& BitVec.ofInt (IntKind.bits .u8) (1 : Int)).toNat : Int)))
  bif (eqi x3 (1 : Int)) then
  (gd (inB b1 (List.length b2))
  (let x4 := ([(List.getD b2 (Int.toNat b1) (Ty.dflt .str))] : List (List UInt8))
  gd (fits (List.length b3 + List.length x4) 16)
  (let x5 := (@HAppend.hAppend (List (List UInt8)) (List (List UInt8)) (List (List UInt8)) _ b3 x4)
  rec b0 (IntKind.wrap .i64 (b1 + (1 : Int))) b2 x5)))
  else
  (rec b0 (IntKind.wrap .i64 (b1 + (1 : Int))) b2 b3)))
  else
  (some ((), (b3, ())))
def law09_pivots_l0 (N n : Nat) (b0 : Int) (b1 : Int) (b2 : (List (List UInt8))) (b3 : (List (List UInt8))) : Option ((Unit × ((List (List UInt8)) × Unit))) :=
  iter (fun (rec : ((Int × (Unit × (Unit × Int))) × ((List (List UInt8)) × ((List (List UInt8)) × Unit))) → Option ((Unit × ((List (List UInt8)) × Unit)))) v => law09_pivots_l0_step N (fun b0 b1 b2 b3 => rec ((b0, ((), ((), b1))), (b2, (b3, ())))) v.1.1 v.1.2.2.2 v.2.1 v.2.2.1) n ((b0, ((), ((), b1))), (b2, (b3, ())))
def law09_pivots (N : Nat) (a0 : Int) : Option ((List (List UInt8))) :=
  let x1 := ([([97, 47] : List UInt8), ([97, 47, 2] : List UInt8), ([97, 47, 98, 47] : List UInt8), ([97, 47, 99] : List UInt8), ([98, 47] : List UInt8), ([98, 47, 1] : List UInt8), ([99, 47] : List UInt8), ([100, 47] : List UInt8)] : List (List UInt8))
  match law09_pivots_l0 N N a0 (0 : Int) x1 ([] : List (List UInt8)) with
  | some r6 => (some r6.2.1)
  | none => none

/-- downspout/downspoutref04.Has -/
def ref04_Has (N : Nat) (a0 : (Ty.T T_api_Span)) (a1 : (List UInt8)) : Option (Bool) :=
  bif (!(lts a1 a0.1)) then
  (bif (eqs a0.2 ([] : List UInt8)) then
  (some true)
  else
  (some (lts a1 a0.2)))
  else
  (some false)

/-- downspout/downspoutref04.Range -/
def ref04_Range_l0_step (N : Nat) (rec : (List (Ty.T T_api_Pair)) → Int → (List UInt8) → (List UInt8) → (List (Ty.T T_api_Pair)) → Option ((Unit × ((List (Ty.T T_api_Pair)) × Unit)))) (b0 : (List (Ty.T T_api_Pair))) (b1 : Int) (b2 : (List UInt8)) (b3 : (List UInt8)) (b4 : (List (Ty.T T_api_Pair))) : Option ((Unit × ((List (Ty.T T_api_Pair)) × Unit))) :=
  bif (decide (b1 < (List.length b0 : Int))) then
  (gd (inB b1 (List.length b0))
  (match ref04_Has N (b2, b3) ((rd T_api_Pair b0 b1).1) with
  | some r1 => (bif r1 then
  (gd (inB b1 (List.length b0))
  (let x2 := ([(rd T_api_Pair b0 b1)] : List (Ty.T T_api_Pair))
  gd (fits (List.length b4 + List.length x2) 40)
  (let x3 := (@HAppend.hAppend (List (Ty.T T_api_Pair)) (List (Ty.T T_api_Pair)) (List (Ty.T T_api_Pair)) _ b4 x2)
  rec b0 (IntKind.wrap .i64 (b1 + (1 : Int))) b2 b3 x3)))
  else
  (rec b0 (IntKind.wrap .i64 (b1 + (1 : Int))) b2 b3 b4))
  | none => none))
  else
  (some ((), (b4, ())))
def ref04_Range_l0 (N n : Nat) (b0 : (List (Ty.T T_api_Pair))) (b1 : Int) (b2 : (List UInt8)) (b3 : (List UInt8)) (b4 : (List (Ty.T T_api_Pair))) : Option ((Unit × ((List (Ty.T T_api_Pair)) × Unit))) :=
  iter (fun (rec : (((List (Ty.T T_api_Pair)) × (Unit × (Unit × Int))) × (((List UInt8) × (List UInt8)) × ((List (Ty.T T_api_Pair)) × Unit))) → Option ((Unit × ((List (Ty.T T_api_Pair)) × Unit)))) v => ref04_Range_l0_step N (fun b0 b1 b2 b3 b4 => rec ((b0, ((), ((), b1))), ((b2, b3), (b4, ())))) v.1.1 v.1.2.2.2 v.2.1.1 v.2.1.2 v.2.2.1) n ((b0, ((), ((), b1))), ((b2, b3), (b4, ())))
def ref04_Range (N : Nat) (a0 : (List (Ty.T T_api_Pair))) (a1 : (Ty.T T_api_Span)) : Option ((List (Ty.T T_api_Pair))) :=
  match ref04_Range_l0 N N a0 (0 : Int) a1.1 a1.2 ([] : List (Ty.T T_api_Pair)) with
  | some r4 => (some r4.2.1)
  | none => none

/-- downspout/downspoutlaw09.source -/
def law09_source (N : Nat) (a0 : (List (Ty.T T_api_Pair))) (a1 : (Ty.T T_api_Msg)) : Option ((List (Ty.T T_api_Pair))) :=
  bif (!(eqi a1.1 (4 : Int))) then
  (bif (!(eqi a1.1 (5 : Int))) then
  (some ([] : List (Ty.T T_api_Pair)))
  else
  (match ref02_Prefix N a1.2.2.2.2.1 with
  | some r1 => (match ref04_Range N a0 r1 with
  | some r2 => (some r2)
  | none => none)
  | none => none))
  else
  (match ref02_Prefix N a1.2.2.2.2.1 with
  | some r3 => (match ref04_Range N a0 r3 with
  | some r4 => (some r4)
  | none => none)
  | none => none)

/-- downspout/downspoutref09.moves -/
def ref09_moves (N : Nat) (a0 : (Ty.T T_api_Msg)) : Option (Bool) :=
  bif (eqi a0.1 (4 : Int)) then
  (some true)
  else
  (some (eqi a0.1 (5 : Int)))

/-- downspout/downspoutref09.List -/
def ref09_List_l0_step (N : Nat) (rec : (List (Ty.T T_api_Pair)) → Int → Int → (List UInt8) → (List UInt8) → (List UInt8) → (List UInt8) → (List UInt8) → (List UInt8) → Int → (List (Ty.T T_api_Msg)) → Option (((Unit × Unit) × ((Int × ((List UInt8) × ((List UInt8) × ((List UInt8) × ((List UInt8) × ((List UInt8) × ((List UInt8) × Int))))))) × ((List (Ty.T T_api_Msg)) × Unit))))) (b0 : (List (Ty.T T_api_Pair))) (b1 : Int) (b2 : Int) (b3 : (List UInt8)) (b4 : (List UInt8)) (b5 : (List UInt8)) (b6 : (List UInt8)) (b7 : (List UInt8)) (b8 : (List UInt8)) (b9 : Int) (b10 : (List (Ty.T T_api_Msg))) : Option (((Unit × Unit) × ((Int × ((List UInt8) × ((List UInt8) × ((List UInt8) × ((List UInt8) × ((List UInt8) × ((List UInt8) × Int))))))) × ((List (Ty.T T_api_Msg)) × Unit)))) :=
  bif (decide (b1 < (List.length b0 : Int))) then
  (gd (inB b1 (List.length b0))
  (gd (decide (0 ≤ (List.length b7 : Int)) && (decide ((List.length b7 : Int) ≤ (List.length ((rd T_api_Pair b0 b1).1) : Int)) && decide ((List.length ((rd T_api_Pair b0 b1).1) : Int) ≤ (List.length ((rd T_api_Pair b0 b1).1) : Int))))
  (let x4 := (cut2 ((rd T_api_Pair b0 b1).1) (List.length b7 : Int) (List.length ((rd T_api_Pair b0 b1).1) : Int))
  gd (decide (List.length b8 + List.length x4 < maxB))
  (let x5 := (@HAppend.hAppend (List UInt8) (List UInt8) (List UInt8) _ b8 x4)
  let x6 := ([((1 : Int), (x5, (((rd T_api_Pair b0 b1).2).1, ((([] : List UInt8), ([] : List UInt8)), (([] : List UInt8), (([] : List UInt8), ((rd T_api_Pair b0 b1).2).2))))))] : List (Ty.T T_api_Msg))
  gd (fits (List.length b10 + List.length x6) 112)
  (let x7 := (@HAppend.hAppend (List (Ty.T T_api_Msg)) (List (Ty.T T_api_Msg)) (List (Ty.T T_api_Msg)) _ b10 x6)
  rec b0 (IntKind.wrap .i64 (b1 + (1 : Int))) b2 b3 b4 b5 b6 b7 b8 b9 x7)))))
  else
  (some (((), ()), ((b2, (b3, (b4, (b5, (b6, (b7, (b8, b9))))))), (b10, ()))))
def ref09_List_l0 (N n : Nat) (b0 : (List (Ty.T T_api_Pair))) (b1 : Int) (b2 : Int) (b3 : (List UInt8)) (b4 : (List UInt8)) (b5 : (List UInt8)) (b6 : (List UInt8)) (b7 : (List UInt8)) (b8 : (List UInt8)) (b9 : Int) (b10 : (List (Ty.T T_api_Msg))) : Option (((Unit × Unit) × ((Int × ((List UInt8) × ((List UInt8) × ((List UInt8) × ((List UInt8) × ((List UInt8) × ((List UInt8) × Int))))))) × ((List (Ty.T T_api_Msg)) × Unit)))) :=
  iter (fun (rec : (((List (Ty.T T_api_Pair)) × (Unit × (Unit × Int))) × ((Int × ((List UInt8) × ((List UInt8) × ((List UInt8) × ((List UInt8) × ((List UInt8) × ((List UInt8) × Int))))))) × ((List (Ty.T T_api_Msg)) × Unit))) → Option (((Unit × Unit) × ((Int × ((List UInt8) × ((List UInt8) × ((List UInt8) × ((List UInt8) × ((List UInt8) × ((List UInt8) × Int))))))) × ((List (Ty.T T_api_Msg)) × Unit))))) v => ref09_List_l0_step N (fun b0 b1 b2 b3 b4 b5 b6 b7 b8 b9 b10 => rec ((b0, ((), ((), b1))), ((b2, (b3, (b4, (b5, (b6, (b7, (b8, b9))))))), (b10, ())))) v.1.1 v.1.2.2.2 v.2.1.1 v.2.1.2.1 v.2.1.2.2.1 v.2.1.2.2.2.1 v.2.1.2.2.2.2.1 v.2.1.2.2.2.2.2.1 v.2.1.2.2.2.2.2.2.1 v.2.1.2.2.2.2.2.2.2 v.2.2.1) n ((b0, ((), ((), b1))), ((b2, (b3, (b4, (b5, (b6, (b7, (b8, b9))))))), (b10, ())))
def ref09_List (N : Nat) (a0 : (Ty.T T_api_Msg)) (a1 : (List (Ty.T T_api_Pair))) : Option ((List (Ty.T T_api_Msg))) :=
  match ref09_moves N a0 with
  | some r1 => (bif (!r1) then
  (some ([a0] : List (Ty.T T_api_Msg)))
  else
  (match ref02_Prefix N a0.2.2.2.2.2.1 with
  | some r2 => (let x3 := ([((3 : Int), (([] : List UInt8), (([] : List UInt8), (r2, (([] : List UInt8), (([] : List UInt8), (0 : Int)))))))] : List (Ty.T T_api_Msg))
  match ref09_List_l0 N N a1 (0 : Int) a0.1 a0.2.1 a0.2.2.1 a0.2.2.2.1.1 a0.2.2.2.1.2 a0.2.2.2.2.1 a0.2.2.2.2.2.1 a0.2.2.2.2.2.2 x3 with
  | some r8 => (bif (eqi r8.2.1.1 (4 : Int)) then
  (match ref02_Prefix N r8.2.1.2.2.2.2.2.1 with
  | some r9 => (let x10 := ([((3 : Int), (([] : List UInt8), (([] : List UInt8), (r9, (([] : List UInt8), (([] : List UInt8), (0 : Int)))))))] : List (Ty.T T_api_Msg))
  gd (fits (List.length r8.2.2.1 + List.length x10) 112)
  (let x11 := (@HAppend.hAppend (List (Ty.T T_api_Msg)) (List (Ty.T T_api_Msg)) (List (Ty.T T_api_Msg)) _ r8.2.2.1 x10)
  some x11))
  | none => none)
  else
  (some r8.2.2.1))
  | none => none)
  | none => none))
  | none => none

/-- downspout/downspoutref09.Turn -/
def ref09_Turn (N : Nat) (a0 : (List (Ty.T T_api_Msg))) (a1 : (List (Ty.T T_api_Pair))) : Option (((List (Ty.T T_api_Msg)) × Int)) :=
  bif (eqi (List.length a0 : Int) (0 : Int)) then
  (some (([] : List (Ty.T T_api_Msg)), (50 : Int)))
  else
  (gd (inB (0 : Int) (List.length a0))
  (match ref09_moves N (rd T_api_Msg a0 (0 : Int)) with
  | some r1 => (bif (!r1) then
  (some (([] : List (Ty.T T_api_Msg)), (50 : Int)))
  else
  (gd (inB (0 : Int) (List.length a0))
  (match ref09_List N (rd T_api_Msg a0 (0 : Int)) a1 with
  | some r2 => (gd (decide (0 ≤ (1 : Int)) && (decide ((1 : Int) ≤ (List.length a0 : Int)) && decide ((List.length a0 : Int) ≤ (List.length a0 : Int))))
  (gd (fits (List.length r2 + List.length (cut2 a0 (1 : Int) (List.length a0 : Int))) 112)
  (let x3 := (@HAppend.hAppend (List (Ty.T T_api_Msg)) (List (Ty.T T_api_Msg)) (List (Ty.T T_api_Msg)) _ r2 (cut2 a0 (1 : Int) (List.length a0 : Int)))
  some (x3, (0 : Int)))))
  | none => none)))
  | none => none))

/-- downspout/downspoutref02.Less -/
def ref02_Less (N : Nat) (a0 : (List UInt8)) (a1 : (List UInt8)) : Option (Bool) :=
  bif (!(eqs a0 ([] : List UInt8))) then
  (bif (eqs a1 ([] : List UInt8)) then
  (some true)
  else
  (some (lts a0 a1)))
  else
  (some false)

/-- downspout/downspoutref02.Empty -/
def ref02_Empty (N : Nat) (a0 : (Ty.T T_api_Span)) : Option (Bool) :=
  bif (!(eqs a0.2 ([] : List UInt8))) then
  (some (lts a0.2 a0.1 || eqs a0.2 a0.1))
  else
  (some false)

/-- downspout/downspoutref02.None -/
def ref02_None (N : Nat) : Option ((Ty.T T_api_Span)) :=
  some (([97] : List UInt8), ([97] : List UInt8))

/-- downspout/downspoutref02.Meet -/
def ref02_Meet (N : Nat) (a0 : (Ty.T T_api_Span)) (a1 : (Ty.T T_api_Span)) : Option ((Ty.T T_api_Span)) :=
  match ref02_Less N a1.2 a0.2 with
  | some r1 => (bif r1 then
  (match ref02_Empty N ((bif !(lts a0.1 a1.1) then a0.1 else a1.1), a1.2) with
  | some r2 => (bif r2 then
  (match ref02_None N with
  | some r3 => (some r3)
  | none => none)
  else
  (some ((bif !(lts a0.1 a1.1) then a0.1 else a1.1), a1.2)))
  | none => none)
  else
  (match ref02_Empty N ((bif !(lts a0.1 a1.1) then a0.1 else a1.1), a0.2) with
  | some r4 => (bif r4 then
  (match ref02_None N with
  | some r5 => (some r5)
  | none => none)
  else
  (some ((bif !(lts a0.1 a1.1) then a0.1 else a1.1), a0.2)))
  | none => none))
  | none => none

/-- downspout/downspoutref02.Parts -/
def ref02_Parts_l0_step (N : Nat) (rec : (List (List UInt8)) → (List UInt8) → Int → (List UInt8) → (List UInt8) → (List (Ty.T T_api_Span)) → Option (((Unit × (Unit × (List UInt8))) × (((List UInt8) × (List UInt8)) × ((List (Ty.T T_api_Span)) × Unit))))) (b0 : (List (List UInt8))) (b1 : (List UInt8)) (b2 : Int) (b3 : (List UInt8)) (b4 : (List UInt8)) (b5 : (List (Ty.T T_api_Span))) : Option (((Unit × (Unit × (List UInt8))) × (((List UInt8) × (List UInt8)) × ((List (Ty.T T_api_Span)) × Unit)))) :=
  bif (decide (b2 < (List.length b0 : Int))) then
  (gd (inB b2 (List.length b0))
  (match ref02_Meet N (b3, b4) (b1, (rd .str b0 b2)) with
  | some r1 => (gd (fits (List.length b5 + 1) 32)
  (let x2 := (@HAppend.hAppend (List (Ty.T T_api_Span)) (List (Ty.T T_api_Span)) (List (Ty.T T_api_Span)) _ b5 ([r1] : List (Ty.T T_api_Span)))
  gd (inB b2 (List.length b0))
  (rec b0 (rd .str b0 b2) (IntKind.wrap .i64 (b2 + (1 : Int))) b3 b4 x2)))
  | none => none))
  else
  (some (((), ((), b1)), ((b3, b4), (b5, ()))))
def ref02_Parts_l0 (N n : Nat) (b0 : (List (List UInt8))) (b1 : (List UInt8)) (b2 : Int) (b3 : (List UInt8)) (b4 : (List UInt8)) (b5 : (List (Ty.T T_api_Span))) : Option (((Unit × (Unit × (List UInt8))) × (((List UInt8) × (List UInt8)) × ((List (Ty.T T_api_Span)) × Unit)))) :=
  iter (fun (rec : (((List (List UInt8)) × (Unit × (Unit × ((List UInt8) × Int)))) × (((List UInt8) × (List UInt8)) × ((List (Ty.T T_api_Span)) × Unit))) → Option (((Unit × (Unit × (List UInt8))) × (((List UInt8) × (List UInt8)) × ((List (Ty.T T_api_Span)) × Unit))))) v => ref02_Parts_l0_step N (fun b0 b1 b2 b3 b4 b5 => rec ((b0, ((), ((), (b1, b2)))), ((b3, b4), (b5, ())))) v.1.1 v.1.2.2.2.1 v.1.2.2.2.2 v.2.1.1 v.2.1.2 v.2.2.1) n ((b0, ((), ((), (b1, b2)))), ((b3, b4), (b5, ())))
def ref02_Parts (N : Nat) (a0 : (Ty.T T_api_Span)) (a1 : (List (List UInt8))) : Option ((List (Ty.T T_api_Span))) :=
  match ref02_Parts_l0 N N a1 ([] : List UInt8) (0 : Int) a0.1 a0.2 ([] : List (Ty.T T_api_Span)) with
  | some r3 => (match ref02_Meet N r3.2.1 (r3.1.2.2, ([] : List UInt8)) with
  | some r4 => (gd (fits (List.length r3.2.2.1 + 1) 32)
  (let x5 := (@HAppend.hAppend (List (Ty.T T_api_Span)) (List (Ty.T T_api_Span)) (List (Ty.T T_api_Span)) _ r3.2.2.1 ([r4] : List (Ty.T T_api_Span)))
  some x5))
  | none => none)
  | none => none

/-- downspout/downspoutref08.Spans -/
def ref08_Spans (N : Nat) (a0 : (List (List UInt8))) : Option ((List (Ty.T T_api_Span))) :=
  match ref02_Parts N (([] : List UInt8), ([] : List UInt8)) a0 with
  | some r1 => (some r1)
  | none => none

/-- downspout/downspoutref08.Moves -/
def ref08_Moves (N : Nat) (a0 : (Ty.T T_api_Msg)) : Option (Bool) :=
  bif (eqi a0.1 (4 : Int)) then
  (some true)
  else
  (some (eqi a0.1 (5 : Int)))

/-- downspout/downspoutref05.Reads -/
def ref05_Reads (N : Nat) (a0 : (Ty.T T_api_Msg)) : Option ((List (Ty.T T_api_Span))) :=
  bif (eqi a0.1 (4 : Int)) then
  (match ref02_Prefix N a0.2.2.2.2.1 with
  | some r1 => (some ([r1] : List (Ty.T T_api_Span)))
  | none => none)
  else
  (bif (eqi a0.1 (5 : Int)) then
  (match ref02_Prefix N a0.2.2.2.2.1 with
  | some r2 => (some ([r2] : List (Ty.T T_api_Span)))
  | none => none)
  else
  (bif (eqi a0.1 (6 : Int)) then
  (some ([a0.2.2.2.1] : List (Ty.T T_api_Span)))
  else
  (some ([] : List (Ty.T T_api_Span)))))

/-- downspout/downspoutref05.Writes -/
def ref05_Writes (N : Nat) (a0 : (Ty.T T_api_Msg)) : Option ((List (Ty.T T_api_Span))) :=
  bif (eqi a0.1 (1 : Int)) then
  (match ref02_One N a0.2.1 with
  | some r1 => (some ([r1] : List (Ty.T T_api_Span)))
  | none => none)
  else
  (bif (eqi a0.1 (2 : Int)) then
  (match ref02_One N a0.2.1 with
  | some r2 => (some ([r2] : List (Ty.T T_api_Span)))
  | none => none)
  else
  (bif (eqi a0.1 (4 : Int)) then
  (match ref02_Prefix N a0.2.2.2.2.1 with
  | some r3 => (match ref02_Prefix N a0.2.2.2.2.2.1 with
  | some r4 => (some ([r3, r4] : List (Ty.T T_api_Span)))
  | none => none)
  | none => none)
  else
  (bif (eqi a0.1 (5 : Int)) then
  (match ref02_Prefix N a0.2.2.2.2.2.1 with
  | some r5 => (some ([r5] : List (Ty.T T_api_Span)))
  | none => none)
  else
  (some ([a0.2.2.2.1] : List (Ty.T T_api_Span))))))

/-- downspout/downspoutref02.Covers -/
def ref02_Covers (N : Nat) (a0 : (Ty.T T_api_Span)) (a1 : (Ty.T T_api_Span)) : Option (Bool) :=
  match ref02_Empty N a1 with
  | some r1 => (bif r1 then
  (some true)
  else
  (match ref02_Empty N a0 with
  | some r2 => (bif (!r2) then
  (bif (lts a0.1 a1.1 || eqs a0.1 a1.1) then
  (match ref02_Less N a0.2 a1.2 with
  | some r3 => (some (!r3))
  | none => none)
  else
  (some false))
  else
  (some false))
  | none => none))
  | none => none

/-- downspout/downspoutref08.Lies -/
def ref08_Lies_l0_step (N : Nat) (rec : Int → (List UInt8) → (List UInt8) → (List (Ty.T T_api_Span)) → Option ((Bool × Unit) ⊕ (Unit × Unit))) (b0 : Int) (b1 : (List UInt8)) (b2 : (List UInt8)) (b3 : (List (Ty.T T_api_Span))) : Option ((Bool × Unit) ⊕ (Unit × Unit)) :=
  bif (decide (b0 < (List.length b3 : Int))) then
  (gd (inB b0 (List.length b3))
  (match ref02_Covers N (b1, b2) (List.getD b3 (Int.toNat b0) (Ty.dflt T_api_Span)) with
  | some r5 => (bif (!r5) then
  (some (.inl (false, ())))
  else
  (rec (IntKind.wrap .i64 (b0 + (1 : Int))) b1 b2 b3))
  | none => none))
  else
  (some (.inr ((), ())))
def ref08_Lies_l0 (N n : Nat) (b0 : Int) (b1 : (List UInt8)) (b2 : (List UInt8)) (b3 : (List (Ty.T T_api_Span))) : Option ((Bool × Unit) ⊕ (Unit × Unit)) :=
  iter (fun (rec : ((Unit × (Unit × Int)) × (((List UInt8) × (List UInt8)) × ((List (Ty.T T_api_Span)) × Unit))) → Option ((Bool × Unit) ⊕ (Unit × Unit))) v => ref08_Lies_l0_step N (fun b0 b1 b2 b3 => rec (((), ((), b0)), ((b1, b2), (b3, ())))) v.1.2.2 v.2.1.1 v.2.1.2 v.2.2.1) n (((), ((), b0)), ((b1, b2), (b3, ())))
def ref08_Lies (N : Nat) (a0 : (Ty.T T_api_Msg)) (a1 : (Ty.T T_api_Span)) : Option (Bool) :=
  match ref05_Reads N a0 with
  | some r1 => (gd (fits (0 + List.length r1) 32)
  (let x2 := (@HAppend.hAppend (List (Ty.T T_api_Span)) (List (Ty.T T_api_Span)) (List (Ty.T T_api_Span)) _ ([] : List (Ty.T T_api_Span)) r1)
  match ref05_Writes N a0 with
  | some r3 => (gd (fits (List.length x2 + List.length r3) 32)
  (let x4 := (@HAppend.hAppend (List (Ty.T T_api_Span)) (List (Ty.T T_api_Span)) (List (Ty.T T_api_Span)) _ x2 r3)
  match ref08_Lies_l0 N N (0 : Int) a1.1 a1.2 x4 with
  | some r6 => (match r6 with
  | .inl r7 => (some r7.1)
  | .inr r8 => (some true))
  | none => none))
  | none => none))
  | none => none

/-- downspout/downspoutref08.Crosses -/
def ref08_Crosses_l0_step (N : Nat) (rec : Bool → Int → Int → (List UInt8) → (List UInt8) → (List UInt8) → (List UInt8) → (List UInt8) → (List UInt8) → Int → (List (Ty.T T_api_Span)) → Option ((Bool × Unit))) (b0 : Bool) (b1 : Int) (b2 : Int) (b3 : (List UInt8)) (b4 : (List UInt8)) (b5 : (List UInt8)) (b6 : (List UInt8)) (b7 : (List UInt8)) (b8 : (List UInt8)) (b9 : Int) (b10 : (List (Ty.T T_api_Span))) : Option ((Bool × Unit)) :=
  bif (decide (b1 < (List.length b10 : Int))) then
  (bif b0 then
  (gd (inB b1 (List.length b10))
  (match ref08_Lies N (b2, (b3, (b4, ((b5, b6), (b7, (b8, b9)))))) (List.getD b10 (Int.toNat b1) (Ty.dflt T_api_Span)) with
  | some r3 => (rec (!r3) (IntKind.wrap .i64 (b1 + (1 : Int))) b2 b3 b4 b5 b6 b7 b8 b9 b10)
  | none => none))
  else
  (rec false (IntKind.wrap .i64 (b1 + (1 : Int))) b2 b3 b4 b5 b6 b7 b8 b9 b10))
  else
  (some (b0, ()))
def ref08_Crosses_l0 (N n : Nat) (b0 : Bool) (b1 : Int) (b2 : Int) (b3 : (List UInt8)) (b4 : (List UInt8)) (b5 : (List UInt8)) (b6 : (List UInt8)) (b7 : (List UInt8)) (b8 : (List UInt8)) (b9 : Int) (b10 : (List (Ty.T T_api_Span))) : Option ((Bool × Unit)) :=
  iter (fun (rec : ((Unit × (Unit × (Bool × Int))) × ((Int × ((List UInt8) × ((List UInt8) × ((List UInt8) × ((List UInt8) × ((List UInt8) × ((List UInt8) × Int))))))) × ((List (Ty.T T_api_Span)) × Unit))) → Option ((Bool × Unit))) v => ref08_Crosses_l0_step N (fun b0 b1 b2 b3 b4 b5 b6 b7 b8 b9 b10 => rec (((), ((), (b0, b1))), ((b2, (b3, (b4, (b5, (b6, (b7, (b8, b9))))))), (b10, ())))) v.1.2.2.1 v.1.2.2.2 v.2.1.1 v.2.1.2.1 v.2.1.2.2.1 v.2.1.2.2.2.1 v.2.1.2.2.2.2.1 v.2.1.2.2.2.2.2.1 v.2.1.2.2.2.2.2.2.1 v.2.1.2.2.2.2.2.2.2 v.2.2.1) n (((), ((), (b0, b1))), ((b2, (b3, (b4, (b5, (b6, (b7, (b8, b9))))))), (b10, ())))
def ref08_Crosses (N : Nat) (a0 : (Ty.T T_api_Msg)) (a1 : (List (List UInt8))) : Option (Bool) :=
  match ref08_Spans N a1 with
  | some r1 => (match ref08_Moves N a0 with
  | some r2 => (match ref08_Crosses_l0 N N r2 (0 : Int) a0.1 a0.2.1 a0.2.2.1 a0.2.2.2.1.1 a0.2.2.2.1.2 a0.2.2.2.2.1 a0.2.2.2.2.2.1 a0.2.2.2.2.2.2 r1 with
  | some r4 => (some r4.1)
  | none => none)
  | none => none)
  | none => none

/-- downspout/downspoutref09.First -/
def ref09_First_l0_step (N : Nat) (rec : (List (Ty.T T_api_Msg)) → (List (List UInt8)) → Int → Int → Bool → Option ((Unit × ((Int × Bool) × Unit)) ⊕ (Unit × ((Int × Bool) × Unit)))) (b0 : (List (Ty.T T_api_Msg))) (b1 : (List (List UInt8))) (b2 : Int) (b3 : Int) (b4 : Bool) : Option ((Unit × ((Int × Bool) × Unit)) ⊕ (Unit × ((Int × Bool) × Unit))) :=
  bif (decide (b2 < (List.length b0 : Int))) then
  (gd (inB b2 (List.length b0))
  (match ref08_Crosses N (rd T_api_Msg b0 b2) b1 with
  | some r1 => (bif r1 then
  (some (.inl ((), ((b2, true), ()))))
  else
  (rec b0 b1 (IntKind.wrap .i64 (b2 + (1 : Int))) b3 b4))
  | none => none))
  else
  (some (.inr ((), ((b3, b4), ()))))
def ref09_First_l0 (N n : Nat) (b0 : (List (Ty.T T_api_Msg))) (b1 : (List (List UInt8))) (b2 : Int) (b3 : Int) (b4 : Bool) : Option ((Unit × ((Int × Bool) × Unit)) ⊕ (Unit × ((Int × Bool) × Unit))) :=
  iter (fun (rec : (((List (Ty.T T_api_Msg)) × ((List (List UInt8)) × (Unit × Int))) × ((Int × Bool) × Unit)) → Option ((Unit × ((Int × Bool) × Unit)) ⊕ (Unit × ((Int × Bool) × Unit)))) v => ref09_First_l0_step N (fun b0 b1 b2 b3 b4 => rec ((b0, (b1, ((), b2))), ((b3, b4), ()))) v.1.1 v.1.2.1 v.1.2.2.2 v.2.1.1 v.2.1.2) n ((b0, (b1, ((), b2))), ((b3, b4), ()))
def ref09_First (N : Nat) (a0 : (List (Ty.T T_api_Msg))) (a1 : (List (List UInt8))) : Option ((Ty.T T_ref09_Firstly)) :=
  match ref09_First_l0 N N a0 a1 (0 : Int) (0 : Int) false with
  | some r2 => (match r2 with
  | .inl r3 => (some r3.2.1)
  | .inr r4 => (some ((0 : Int), false)))
  | none => none

/-- downspout/downspoutlaw09.SettleMatchesReference -/
def law09_SettleMatchesReference_l0_step (N : Nat) (rec : Int → Bool → Int → Bool → Int → (List (Ty.T T_api_Pair)) → (List (Ty.T T_api_Msg)) → Option ((Bool × Unit) ⊕ ((Int × (Bool × (Unit × (Unit × (Int × Bool))))) × ((List (Ty.T T_api_Pair)) × ((List (Ty.T T_api_Msg)) × Unit))))) (b0 : Int) (b1 : Bool) (b2 : Int) (b3 : Bool) (b4 : Int) (b5 : (List (Ty.T T_api_Pair))) (b6 : (List (Ty.T T_api_Msg))) : Option ((Bool × Unit) ⊕ ((Int × (Bool × (Unit × (Unit × (Int × Bool))))) × ((List (Ty.T T_api_Pair)) × ((List (Ty.T T_api_Msg)) × Unit)))) :=
  bif (decide (b4 < (List.length b6 : Int))) then
  (gd (inB b4 (List.length b6))
  (gd (inB b4 (List.length b6))
  (match law09_source N b5 (List.getD b6 (Int.toNat b4) (Ty.dflt T_api_Msg)) with
  | some r6 => (match settle_List N (List.getD b6 (Int.toNat b4) (Ty.dflt T_api_Msg)) r6 with
  | some r7 => (gd (inB b4 (List.length b6))
  (gd (inB b4 (List.length b6))
  (match law09_source N b5 (List.getD b6 (Int.toNat b4) (Ty.dflt T_api_Msg)) with
  | some r8 => (match ref09_List N (List.getD b6 (Int.toNat b4) (Ty.dflt T_api_Msg)) r8 with
  | some r9 => (match ref06_Same N r7 r9 with
  | some r10 => (bif (!r10) then
  (some (.inl (false, ())))
  else
  (rec b0 b1 b2 b3 (IntKind.wrap .i64 (b4 + (1 : Int))) b5 b6))
  | none => none)
  | none => none)
  | none => none)))
  | none => none)
  | none => none)))
  else
  (some (.inr ((b0, (b1, ((), ((), (b2, b3))))), (b5, (b6, ())))))
def law09_SettleMatchesReference_l0 (N n : Nat) (b0 : Int) (b1 : Bool) (b2 : Int) (b3 : Bool) (b4 : Int) (b5 : (List (Ty.T T_api_Pair))) (b6 : (List (Ty.T T_api_Msg))) : Option ((Bool × Unit) ⊕ ((Int × (Bool × (Unit × (Unit × (Int × Bool))))) × ((List (Ty.T T_api_Pair)) × ((List (Ty.T T_api_Msg)) × Unit)))) :=
  iter (fun (rec : ((Int × (Bool × (Unit × (Unit × (Int × (Bool × Int)))))) × ((List (Ty.T T_api_Pair)) × ((List (Ty.T T_api_Msg)) × Unit))) → Option ((Bool × Unit) ⊕ ((Int × (Bool × (Unit × (Unit × (Int × Bool))))) × ((List (Ty.T T_api_Pair)) × ((List (Ty.T T_api_Msg)) × Unit))))) v => law09_SettleMatchesReference_l0_step N (fun b0 b1 b2 b3 b4 b5 b6 => rec ((b0, (b1, ((), ((), (b2, (b3, b4)))))), (b5, (b6, ())))) v.1.1 v.1.2.1 v.1.2.2.2.2.1 v.1.2.2.2.2.2.1 v.1.2.2.2.2.2.2 v.2.1 v.2.2.1) n ((b0, (b1, ((), ((), (b2, (b3, b4)))))), (b5, (b6, ())))
def law09_SettleMatchesReference (N : Nat) (a0 : (List (Ty.T T_ref04_Raw))) (a1 : (List (Ty.T T_ref05_Raw))) (a2 : Int) : Option (Bool) :=
  match law09_sanity N with
  | some r1 => (match ref04_Made N a0 with
  | some r2 => (match ref05_List N a1 (8 : Int) with
  | some r3 => (match law09_pivots N a2 with
  | some r4 => (match settle_First N r3 r4 with
  | some r5 => (match law09_SettleMatchesReference_l0 N N a2 r1 r5.1 r5.2 (0 : Int) r2 r3 with
  | some r11 => (match r11 with
  | .inl r12 => (some r12.1)
  | .inr r13 => (let x14 := (decide ((0 : Int) < (List.length r13.2.2.1 : Int)))
  bif x14 then
  (gd (inB (0 : Int) (List.length r13.2.2.1))
  (match law09_source N r13.2.1 (List.getD r13.2.2.1 (Int.toNat (0 : Int)) (Ty.dflt T_api_Msg)) with
  | some r15 => (match settle_Turn N r13.2.2.1 r15 with
  | some r16 => (match ref09_Turn N r13.2.2.1 r15 with
  | some r17 => (bif r13.1.2.1 then
  (match law09_pivots N r13.1.1 with
  | some r18 => (match ref09_First N r13.2.2.1 r18 with
  | some r19 => (let x20 := (eqi r19.1 r13.1.2.2.2.2.1 && (eqb r19.2 r13.1.2.2.2.2.2 && true))
  bif x20 then
  (match ref06_Same N r16.1 r17.1 with
  | some r21 => (bif r21 then
  (some (eqi r16.2 r17.2))
  else
  (some false))
  | none => none)
  else
  (some false))
  | none => none)
  | none => none)
  else
  (some false))
  | none => none)
  | none => none)
  | none => none))
  else
  (match settle_Turn N r13.2.2.1 ([] : List (Ty.T T_api_Pair)) with
  | some r22 => (match ref09_Turn N r13.2.2.1 ([] : List (Ty.T T_api_Pair)) with
  | some r23 => (bif r13.1.2.1 then
  (match law09_pivots N r13.1.1 with
  | some r24 => (match ref09_First N r13.2.2.1 r24 with
  | some r25 => (let x26 := (eqi r25.1 r13.1.2.2.2.2.1 && (eqb r25.2 r13.1.2.2.2.2.2 && true))
  bif x26 then
  (match ref06_Same N r22.1 r23.1 with
  | some r27 => (bif r27 then
  (some (eqi r22.2 r23.2))
  else
  (some false))
  | none => none)
  else
  (some false))
  | none => none)
  | none => none)
  else
  (some false))
  | none => none)
  | none => none)))
  | none => none)
  | none => none)
  | none => none)
  | none => none)
  | none => none)
  | none => none

end Ds
