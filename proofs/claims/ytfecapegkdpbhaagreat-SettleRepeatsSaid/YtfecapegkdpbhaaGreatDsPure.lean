/- Printed by a program of the session's: what the program's functions compute, and that they do. -/
import Derived.Test.YtfecapegkdpbhaaGreatDvExt
import Derived.Test.YtfecapegkdpbhaaGreatDvClone
import Derived.Test.YtfecapegkdpbhaaGreatDvInsertS
import Derived.Test.YtfecapegkdpbhaaGreatDvRng
set_option linter.all false
namespace Ds
open Go Go.Dv

def T_ref04_Raw : Ty := (.pair (.int .u8) (.pair (.int .u8) (.int .u8)))
abbrev V_ref04_Raw : Type := (Int × (Int × Int))
abbrev D_ref04_Raw : V_ref04_Raw := ((0 : Int), ((0 : Int), (0 : Int)))
def T_ref05_Raw : Ty := (.pair (.int .u8) (.pair (.int .u8) (.pair (.int .u8) (.pair (.int .u8) (.pair (.int .u8) (.int .u8))))))
abbrev V_ref05_Raw : Type := (Int × (Int × (Int × (Int × (Int × Int)))))
abbrev D_ref05_Raw : V_ref05_Raw := ((0 : Int), ((0 : Int), ((0 : Int), ((0 : Int), ((0 : Int), (0 : Int))))))
def T_api_Pair : Ty := (.pair .str (.pair .str (.int .i64)))
abbrev V_api_Pair : Type := ((List UInt8) × ((List UInt8) × Int))
abbrev D_api_Pair : V_api_Pair := (([] : List UInt8), (([] : List UInt8), (0 : Int)))
def T_api_Span : Ty := (.pair .str .str)
abbrev V_api_Span : Type := ((List UInt8) × (List UInt8))
abbrev D_api_Span : V_api_Span := (([] : List UInt8), ([] : List UInt8))
def T_api_Msg : Ty := (.pair (.int .i64) (.pair .str (.pair .str (.pair T_api_Span (.pair .str (.pair .str (.int .i64)))))))
abbrev V_api_Msg : Type := (Int × ((List UInt8) × ((List UInt8) × (V_api_Span × ((List UInt8) × ((List UInt8) × Int))))))
abbrev D_api_Msg : V_api_Msg := ((0 : Int), (([] : List UInt8), (([] : List UInt8), (D_api_Span, (([] : List UInt8), (([] : List UInt8), (0 : Int)))))))

/-- downspout/settle.moves -/
def settle_moves (N : Nat) (a0 : V_api_Msg) : Option (Bool) :=
  bif (eqi a0.1 (4 : Int)) then
  (some true)
  else
  (some (eqi a0.1 (5 : Int)))

/-- downspout/settle.settled -/
def settle_settled (N : Nat) (a0 : V_api_Msg) (a1 : (List V_api_Pair)) : Option (((Int × ((List UInt8) × ((List UInt8) × ((List UInt8) × ((List UInt8) × ((List UInt8) × ((List UInt8) × Int))))))) × (List V_api_Pair))) :=
  some ((a0.1, (a0.2.1, (a0.2.2.1, (a0.2.2.2.1.1, (a0.2.2.2.1.2, (a0.2.2.2.2.1, (a0.2.2.2.2.2.1, a0.2.2.2.2.2.2))))))), a1)

/-- downspout/span.Prefix -/
def span_Prefix_l0_step (N : Nat) (rec : (List UInt8) → (List UInt8) → (List UInt8) → (List Int) → Option ((((List UInt8) × (Unit × Unit)) × (((List UInt8) × (List UInt8)) × ((List Int) × Unit))))) (b0 : (List UInt8)) (b1 : (List UInt8)) (b2 : (List UInt8)) (b3 : (List Int)) : Option ((((List UInt8) × (Unit × Unit)) × (((List UInt8) × (List UInt8)) × ((List Int) × Unit)))) :=
  let x1 := (decide ((0 : Int) < (List.length b3 : Int)))
  bif x1 then
  (let x2 := (IntKind.wrap .i64 ((List.length b3 : Int) - (1 : Int)))
  gd (inB x2 (List.length b3))
  (bif (eqi (rdL b3 x2 (0 : Int)) (255 : Int)) then
  (let x3 := (IntKind.wrap .i64 ((List.length b3 : Int) - (1 : Int)))
  gd (decide (0 ≤ x3) && decide (x3 ≤ (List.length b3 : Int)))
  (rec b0 b1 b2 (List.take (Int.toNat x3) b3)))
  else
  (some ((b0, ((), ())), ((b1, b2), (b3, ()))))))
  else
  (some ((b0, ((), ())), ((b1, b2), (b3, ()))))
def span_Prefix_l0 (N n : Nat) (b0 : (List UInt8)) (b1 : (List UInt8)) (b2 : (List UInt8)) (b3 : (List Int)) : Option ((((List UInt8) × (Unit × Unit)) × (((List UInt8) × (List UInt8)) × ((List Int) × Unit)))) :=
  iter (fun (rec : (((List UInt8) × (Unit × Unit)) × (((List UInt8) × (List UInt8)) × ((List Int) × Unit))) → Option ((((List UInt8) × (Unit × Unit)) × (((List UInt8) × (List UInt8)) × ((List Int) × Unit))))) v => span_Prefix_l0_step N (fun b0 b1 b2 b3 => rec ((b0, ((), ())), ((b1, b2), (b3, ())))) v.1.1 v.2.1.1 v.2.1.2 v.2.2.1) n ((b0, ((), ())), ((b1, b2), (b3, ())))
theorem span_Prefix_l0_succ (N n : Nat) (b0 : (List UInt8)) (b1 : (List UInt8)) (b2 : (List UInt8)) (b3 : (List Int)) : span_Prefix_l0 N (n + 1) b0 b1 b2 b3 = span_Prefix_l0_step N (fun b0  b1  b2  b3  => span_Prefix_l0 N n b0 b1 b2 b3) b0 b1 b2 b3 := rfl
def span_Prefix (N : Nat) (a0 : (List UInt8)) : Option (V_api_Span) :=
  gd (decide (List.length a0 < maxB))
  (match span_Prefix_l0 N N a0 ([] : List UInt8) ([] : List UInt8) (bytesI a0) with
  | some r4 => (let x5 := (decide ((0 : Int) < (List.length r4.2.2.1 : Int)))
  bif x5 then
  (let x6 := (IntKind.wrap .i64 ((List.length r4.2.2.1 : Int) - (1 : Int)))
  gd (inB x6 (List.length r4.2.2.1))
  (let x7 := (IntKind.wrap .u8 ((rdL r4.2.2.1 x6 (0 : Int)) + (1 : Int)))
  gd (inB x6 (List.length r4.2.2.1))
  (some (r4.1.1, (bytesU (setL r4.2.2.1 x6 x7))))))
  else
  (some (r4.1.1, (bytesU r4.2.2.1))))
  | none => none)

/-- downspout/settle.List -/
def settle_List_round0 (N : Nat) (a0 : Int) (a1 : (List UInt8)) (a2 : (List UInt8)) (a3 : (List UInt8)) (a4 : (List UInt8)) (a5 : (List UInt8)) (a6 : (List UInt8)) (a7 : Int) (a8 : (List V_api_Msg)) : Option ((Unit × (Unit × ((List V_api_Msg) × Unit)))) :=
  let x1 := ([(a0, (a1, (a2, ((a3, a4), (a5, (a6, a7))))))] : List V_api_Msg)
  gd (fits (List.length a8 + List.length x1) 112)
  (let x2 := (@HAppend.hAppend (List V_api_Msg) (List V_api_Msg) (List V_api_Msg) _ a8 x1)
  some ((), ((), (x2, ()))))

/-- internal/stringslite.HasPrefix -/
def stringslite_HasPrefix (N : Nat) (a0 : (List UInt8)) (a1 : (List UInt8)) : Option (Bool) :=
  let x1 := (decide ((List.length a1 : Int) ≤ (List.length a0 : Int)))
  bif x1 then
  (gd (decide (0 ≤ (0 : Int)) && (decide ((0 : Int) ≤ (List.length a1 : Int)) && decide ((List.length a1 : Int) ≤ (List.length a0 : Int))))
  (let x2 := (eqs (cut2 a0 (0 : Int) (List.length a1 : Int)) a1)
  some x2))
  else
  (some false)

/-- internal/stringslite.CutPrefix -/
def stringslite_CutPrefix (N : Nat) (a0 : (List UInt8)) (a1 : (List UInt8)) : Option (((List UInt8) × Bool)) :=
  match stringslite_HasPrefix N a0 a1 with
  | some r1 => (bif (!r1) then
  (some (a0, false))
  else
  (gd (decide (0 ≤ (List.length a1 : Int)) && (decide ((List.length a1 : Int) ≤ (List.length a0 : Int)) && decide ((List.length a0 : Int) ≤ (List.length a0 : Int))))
  (let x2 := (cut2 a0 (List.length a1 : Int) (List.length a0 : Int))
  some (x2, true))))
  | none => none

/-- strings.CutPrefix -/
def strings_CutPrefix (N : Nat) (a0 : (List UInt8)) (a1 : (List UInt8)) : Option (((List UInt8) × Bool)) :=
  match stringslite_CutPrefix N a0 a1 with
  | some r1 => (some (r1.1, r1.2))
  | none => none

/-- downspout/span.Moved -/
def span_Moved (N : Nat) (a0 : (List UInt8)) (a1 : (List UInt8)) (a2 : (List UInt8)) : Option (((List UInt8) × Bool)) :=
  match strings_CutPrefix N a0 a1 with
  | some r1 => (bif (!r1.2) then
  (some (([] : List UInt8), false))
  else
  (gd (decide (List.length a2 + List.length r1.1 < maxB))
  (let x2 := (@HAppend.hAppend (List UInt8) (List UInt8) (List UInt8) _ a2 r1.1)
  some (x2, true))))
  | none => none

/-- downspout/settle.settled$1 -/
def settle_settled_c1_m_l0_step (N : Nat) (rec : Int → (List UInt8) → (List UInt8) → (List UInt8) → (List UInt8) → (List UInt8) → (List UInt8) → Int → (List V_api_Pair) → Int → Int → (List V_api_Msg) → Option (((Unit × (Int × ((List UInt8) × ((List UInt8) × ((List UInt8) × ((List UInt8) × ((List UInt8) × ((List UInt8) × Int)))))))) × (Unit × (Unit × ((List V_api_Msg) × Unit)))))) (b0 : Int) (b1 : (List UInt8)) (b2 : (List UInt8)) (b3 : (List UInt8)) (b4 : (List UInt8)) (b5 : (List UInt8)) (b6 : (List UInt8)) (b7 : Int) (b8 : (List V_api_Pair)) (b9 : Int) (b10 : Int) (b11 : (List V_api_Msg)) : Option (((Unit × (Int × ((List UInt8) × ((List UInt8) × ((List UInt8) × ((List UInt8) × ((List UInt8) × ((List UInt8) × Int)))))))) × (Unit × (Unit × ((List V_api_Msg) × Unit))))) :=
  bif (decide (b10 < b9)) then
  (gd (inB b10 (List.length b8))
  (match span_Moved N ((rdL b8 b10 D_api_Pair).1) b5 b6 with
  | some r3 => (match settle_List_round0 N (1 : Int) r3.1 (((rdL b8 b10 D_api_Pair).2).1) ([] : List UInt8) ([] : List UInt8) ([] : List UInt8) ([] : List UInt8) (((rdL b8 b10 D_api_Pair).2).2) b11 with
  | some r4 => (rec b0 b1 b2 b3 b4 b5 b6 b7 b8 b9 (IntKind.wrap .i64 (b10 + (1 : Int))) r4.2.2.1)
  | none => none)
  | none => none))
  else
  (some (((), (b0, (b1, (b2, (b3, (b4, (b5, (b6, b7)))))))), ((), ((), (b11, ())))))
def settle_settled_c1_m_l0 (N n : Nat) (b0 : Int) (b1 : (List UInt8)) (b2 : (List UInt8)) (b3 : (List UInt8)) (b4 : (List UInt8)) (b5 : (List UInt8)) (b6 : (List UInt8)) (b7 : Int) (b8 : (List V_api_Pair)) (b9 : Int) (b10 : Int) (b11 : (List V_api_Msg)) : Option (((Unit × (Int × ((List UInt8) × ((List UInt8) × ((List UInt8) × ((List UInt8) × ((List UInt8) × ((List UInt8) × Int)))))))) × (Unit × (Unit × ((List V_api_Msg) × Unit))))) :=
  iter (fun (rec : ((Unit × ((Int × ((List UInt8) × ((List UInt8) × ((List UInt8) × ((List UInt8) × ((List UInt8) × ((List UInt8) × Int))))))) × ((List V_api_Pair) × (Int × Int)))) × (Unit × (Unit × ((List V_api_Msg) × Unit)))) → Option (((Unit × (Int × ((List UInt8) × ((List UInt8) × ((List UInt8) × ((List UInt8) × ((List UInt8) × ((List UInt8) × Int)))))))) × (Unit × (Unit × ((List V_api_Msg) × Unit)))))) v => settle_settled_c1_m_l0_step N (fun b0 b1 b2 b3 b4 b5 b6 b7 b8 b9 b10 b11 => rec (((), ((b0, (b1, (b2, (b3, (b4, (b5, (b6, b7))))))), (b8, (b9, b10)))), ((), ((), (b11, ()))))) v.1.2.1.1 v.1.2.1.2.1 v.1.2.1.2.2.1 v.1.2.1.2.2.2.1 v.1.2.1.2.2.2.2.1 v.1.2.1.2.2.2.2.2.1 v.1.2.1.2.2.2.2.2.2.1 v.1.2.1.2.2.2.2.2.2.2 v.1.2.2.1 v.1.2.2.2.1 v.1.2.2.2.2 v.2.2.2.1) n (((), ((b0, (b1, (b2, (b3, (b4, (b5, (b6, b7))))))), (b8, (b9, b10)))), ((), ((), (b11, ()))))
theorem settle_settled_c1_m_l0_succ (N n : Nat) (b0 : Int) (b1 : (List UInt8)) (b2 : (List UInt8)) (b3 : (List UInt8)) (b4 : (List UInt8)) (b5 : (List UInt8)) (b6 : (List UInt8)) (b7 : Int) (b8 : (List V_api_Pair)) (b9 : Int) (b10 : Int) (b11 : (List V_api_Msg)) : settle_settled_c1_m_l0 N (n + 1) b0 b1 b2 b3 b4 b5 b6 b7 b8 b9 b10 b11 = settle_settled_c1_m_l0_step N (fun b0  b1  b2  b3  b4  b5  b6  b7  b8  b9  b10  b11  => settle_settled_c1_m_l0 N n b0 b1 b2 b3 b4 b5 b6 b7 b8 b9 b10 b11) b0 b1 b2 b3 b4 b5 b6 b7 b8 b9 b10 b11 := rfl
def settle_settled_c1_m (N : Nat) (a0 : Int) (a1 : (List UInt8)) (a2 : (List UInt8)) (a3 : (List UInt8)) (a4 : (List UInt8)) (a5 : (List UInt8)) (a6 : (List UInt8)) (a7 : Int) (a8 : (List V_api_Pair)) (a9 : (List V_api_Msg)) : Option ((Unit × (Unit × (Unit × ((List V_api_Msg) × Unit))))) :=
  match span_Prefix N a6 with
  | some r1 => (match settle_List_round0 N (3 : Int) ([] : List UInt8) ([] : List UInt8) r1.1 r1.2 ([] : List UInt8) ([] : List UInt8) (0 : Int) a9 with
  | some r2 => (match settle_settled_c1_m_l0 N N a0 a1 a2 a3 a4 a5 a6 a7 a8 (List.length a8 : Int) (0 : Int) r2.2.2.1 with
  | some r5 => (bif (eqi r5.1.2.1 (4 : Int)) then
  (match span_Prefix N r5.1.2.2.2.2.2.2.1 with
  | some r6 => (match settle_List_round0 N (3 : Int) ([] : List UInt8) ([] : List UInt8) r6.1 r6.2 ([] : List UInt8) ([] : List UInt8) (0 : Int) r5.2.2.2.1 with
  | some r7 => (some ((), ((), ((), (r7.2.2.1, ())))))
  | none => none)
  | none => none)
  else
  (some ((), ((), ((), (r5.2.2.2.1, ()))))))
  | none => none)
  | none => none)
  | none => none

/-- downspout/settle.List -/
def settle_List_g0 (N : Nat) (b0 : Int) (b1 : (List UInt8)) (b2 : (List UInt8)) (b3 : (List UInt8)) (b4 : (List UInt8)) (b5 : (List UInt8)) (b6 : (List UInt8)) (b7 : Int) (b8 : (List V_api_Pair)) (b9 : (List V_api_Msg)) : Option ((Unit × (Unit × ((List V_api_Msg) × Unit)))) :=
  match settle_settled_c1_m N b0 b1 b2 b3 b4 b5 b6 b7 b8 b9 with
  | some r3 => (some ((), ((), (r3.2.2.2.1, ()))))
  | none => none
def settle_List (N : Nat) (a0 : V_api_Msg) (a1 : (List V_api_Pair)) : Option ((List V_api_Msg)) :=
  match settle_moves N a0 with
  | some r1 => (bif (!r1) then
  (some ([a0] : List V_api_Msg))
  else
  (match settle_settled N a0 a1 with
  | some r2 => (match settle_List_g0 N r2.1.1 r2.1.2.1 r2.1.2.2.1 r2.1.2.2.2.1 r2.1.2.2.2.2.1 r2.1.2.2.2.2.2.1 r2.1.2.2.2.2.2.2.1 r2.1.2.2.2.2.2.2.2 r2.2 ([] : List V_api_Msg) with
  | some r4 => (some r4.2.2.1)
  | none => none)
  | none => none))
  | none => none

/-- slices.Grow[[]downspout/api.Msg,downspout/api.Msg] of the nil slice -/
def slices_Grow_s_api_Msg_api_Msg_nil (N : Nat) (a0 : Int) : Option (List V_api_Msg) :=
  gd (decide (0 ≤ a0) && fits (Int.toNat a0) 112) (some [])

/-- slices.Concat[[]downspout/api.Msg,downspout/api.Msg] -/
def slices_Concat_s_api_Msg_api_Msg_l1_step (N : Nat) (rec : (List (List V_api_Msg)) → Int → Int → (List V_api_Msg) → Option ((Unit × ((List V_api_Msg) × Unit)))) (b0 : (List (List V_api_Msg))) (b1 : Int) (b2 : Int) (b3 : (List V_api_Msg)) : Option ((Unit × ((List V_api_Msg) × Unit))) :=
  bif (decide (b2 < b1)) then
  (gd (inB b2 (List.length b0))
  (gd (fits (List.length b3 + List.length (rdL b0 b2 ([] : List V_api_Msg))) 112)
  (let x5 := (@HAppend.hAppend (List V_api_Msg) (List V_api_Msg) (List V_api_Msg) _ b3 (rdL b0 b2 ([] : List V_api_Msg)))
  rec b0 b1 (IntKind.wrap .i64 (b2 + (1 : Int))) x5)))
  else
  (some ((), (b3, ())))
def slices_Concat_s_api_Msg_api_Msg_l1 (N n : Nat) (b0 : (List (List V_api_Msg))) (b1 : Int) (b2 : Int) (b3 : (List V_api_Msg)) : Option ((Unit × ((List V_api_Msg) × Unit))) :=
  iter (fun (rec : ((Unit × ((List (List V_api_Msg)) × (Int × Int))) × ((List V_api_Msg) × Unit)) → Option ((Unit × ((List V_api_Msg) × Unit)))) v => slices_Concat_s_api_Msg_api_Msg_l1_step N (fun b0 b1 b2 b3 => rec (((), (b0, (b1, b2))), (b3, ()))) v.1.2.1 v.1.2.2.1 v.1.2.2.2 v.2.1) n (((), (b0, (b1, b2))), (b3, ()))
theorem slices_Concat_s_api_Msg_api_Msg_l1_succ (N n : Nat) (b0 : (List (List V_api_Msg))) (b1 : Int) (b2 : Int) (b3 : (List V_api_Msg)) : slices_Concat_s_api_Msg_api_Msg_l1 N (n + 1) b0 b1 b2 b3 = slices_Concat_s_api_Msg_api_Msg_l1_step N (fun b0  b1  b2  b3  => slices_Concat_s_api_Msg_api_Msg_l1 N n b0 b1 b2 b3) b0 b1 b2 b3 := rfl
def slices_Concat_s_api_Msg_api_Msg_l0_step (N : Nat) (rec : (List (List V_api_Msg)) → Int → (List (List V_api_Msg)) → Int → Int → Option ((((List (List V_api_Msg)) × Int) × Unit))) (b0 : (List (List V_api_Msg))) (b1 : Int) (b2 : (List (List V_api_Msg))) (b3 : Int) (b4 : Int) : Option ((((List (List V_api_Msg)) × Int) × Unit)) :=
  bif (decide (b4 < b3)) then
  (gd (inB b4 (List.length b2))
  (let x1 := (List.length (rdL b2 b4 ([] : List V_api_Msg)) : Int)
  let x2 := (decide ((IntKind.wrap .i64 (b1 + x1)) < (0 : Int)))
  bif x2 then
  (none)
  else
  (rec b0 (IntKind.wrap .i64 (b1 + x1)) b2 b3 (IntKind.wrap .i64 (b4 + (1 : Int))))))
  else
  (some ((b0, b1), ()))
def slices_Concat_s_api_Msg_api_Msg_l0 (N n : Nat) (b0 : (List (List V_api_Msg))) (b1 : Int) (b2 : (List (List V_api_Msg))) (b3 : Int) (b4 : Int) : Option ((((List (List V_api_Msg)) × Int) × Unit)) :=
  iter (fun (rec : (((List (List V_api_Msg)) × (Int × ((List (List V_api_Msg)) × (Int × Int)))) × Unit) → Option ((((List (List V_api_Msg)) × Int) × Unit))) v => slices_Concat_s_api_Msg_api_Msg_l0_step N (fun b0 b1 b2 b3 b4 => rec ((b0, (b1, (b2, (b3, b4)))), ())) v.1.1 v.1.2.1 v.1.2.2.1 v.1.2.2.2.1 v.1.2.2.2.2) n ((b0, (b1, (b2, (b3, b4)))), ())
theorem slices_Concat_s_api_Msg_api_Msg_l0_succ (N n : Nat) (b0 : (List (List V_api_Msg))) (b1 : Int) (b2 : (List (List V_api_Msg))) (b3 : Int) (b4 : Int) : slices_Concat_s_api_Msg_api_Msg_l0 N (n + 1) b0 b1 b2 b3 b4 = slices_Concat_s_api_Msg_api_Msg_l0_step N (fun b0  b1  b2  b3  b4  => slices_Concat_s_api_Msg_api_Msg_l0 N n b0 b1 b2 b3 b4) b0 b1 b2 b3 b4 := rfl
def slices_Concat_s_api_Msg_api_Msg (N : Nat) (a0 : (List (List V_api_Msg))) : Option ((List V_api_Msg)) :=
  match slices_Concat_s_api_Msg_api_Msg_l0 N N a0 (0 : Int) a0 (List.length a0 : Int) (0 : Int) with
  | some r3 => (match slices_Grow_s_api_Msg_api_Msg_nil N r3.1.2 with
  | some r4 => (match slices_Concat_s_api_Msg_api_Msg_l1 N N r3.1.1 (List.length r3.1.1 : Int) (0 : Int) r4 with
  | some r6 => (some r6.2.1)
  | none => none)
  | none => none)
  | none => none

/-- downspout/settle.Turn -/
def settle_Turn (N : Nat) (a0 : (List V_api_Msg)) (a1 : (List V_api_Pair)) : Option (((List V_api_Msg) × Int)) :=
  bif (eqi (List.length a0 : Int) (0 : Int)) then
  (some (([] : List V_api_Msg), (50 : Int)))
  else
  (gd (inB (0 : Int) (List.length a0))
  (match settle_moves N (rdL a0 (0 : Int) D_api_Msg) with
  | some r1 => (bif (!r1) then
  (some (([] : List V_api_Msg), (50 : Int)))
  else
  (gd (inB (0 : Int) (List.length a0))
  (match settle_List N (rdL a0 (0 : Int) D_api_Msg) a1 with
  | some r2 => (gd (decide (0 ≤ (1 : Int)) && (decide ((1 : Int) ≤ (List.length a0 : Int)) && decide ((List.length a0 : Int) ≤ (List.length a0 : Int))))
  (let x3 := ([r2, (cut2 a0 (1 : Int) (List.length a0 : Int))] : List (List V_api_Msg))
  match slices_Concat_s_api_Msg_api_Msg N x3 with
  | some r4 => (some (r4, (0 : Int)))
  | none => none))
  | none => none)))
  | none => none))

/-- downspout/route.moves -/
def route_moves (N : Nat) (a0 : V_api_Msg) : Option (Bool) :=
  bif (eqi a0.1 (4 : Int)) then
  (some true)
  else
  (some (eqi a0.1 (5 : Int)))

/-- cmp.isNaN[string] -/
def cmp_isNaN_string (N : Nat) (a0 : (List UInt8)) : Option (Bool) :=
  some (!(eqs a0 a0))

/-- cmp.Less[string] -/
def cmp_Less_string (N : Nat) (a0 : (List UInt8)) (a1 : (List UInt8)) : Option (Bool) :=
  match cmp_isNaN_string N a0 with
  | some r1 => (bif r1 then
  (match cmp_isNaN_string N a1 with
  | some r2 => (bif (!r2) then
  (some true)
  else
  (some (lts a0 a1)))
  | none => none)
  else
  (some (lts a0 a1)))
  | none => none

/-- slices.isNaN[string] -/
def slices_isNaN_string (N : Nat) (a0 : (List UInt8)) : Option (Bool) :=
  some (!(eqs a0 a0))

/-- slices.BinarySearch[[]string,string] -/
def slices_BinarySearch_s_string_string_l0_step (N : Nat) (rec : (List (List UInt8)) → (List UInt8) → Int → Int → Int → Option ((((List (List UInt8)) × ((List UInt8) × (Int × Int))) × Unit))) (b0 : (List (List UInt8))) (b1 : (List UInt8)) (b2 : Int) (b3 : Int) (b4 : Int) : Option ((((List (List UInt8)) × ((List UInt8) × (Int × Int))) × Unit)) :=
  bif (decide (b3 < b4)) then
  (let x1 := (IntKind.wrap .u64 ((IntKind.wrap .i64 (b3 + b4))))
  gd (decide (0 ≤ (1 : Int)))
  (let x2 := (Int.fdiv x1 (2 ^ min (Int.toNat (1 : Int)) (IntKind.bits .u64)))
  gd (inB (IntKind.wrap .i64 (x2)) (List.length b0))
  (let x3 := (rdL b0 (IntKind.wrap .i64 (x2)) ([] : List UInt8))
  match cmp_Less_string N x3 b1 with
  | some r4 => (bif r4 then
  (let x5 := (IntKind.wrap .i64 ((IntKind.wrap .i64 (x2)) + (1 : Int)))
  rec b0 b1 b2 x5 b4)
  else
  (rec b0 b1 b2 b3 (IntKind.wrap .i64 (x2))))
  | none => none)))
  else
  (some ((b0, (b1, (b2, b3))), ()))
def slices_BinarySearch_s_string_string_l0 (N n : Nat) (b0 : (List (List UInt8))) (b1 : (List UInt8)) (b2 : Int) (b3 : Int) (b4 : Int) : Option ((((List (List UInt8)) × ((List UInt8) × (Int × Int))) × Unit)) :=
  iter (fun (rec : (((List (List UInt8)) × ((List UInt8) × (Int × (Int × Int)))) × Unit) → Option ((((List (List UInt8)) × ((List UInt8) × (Int × Int))) × Unit))) v => slices_BinarySearch_s_string_string_l0_step N (fun b0 b1 b2 b3 b4 => rec ((b0, (b1, (b2, (b3, b4)))), ())) v.1.1 v.1.2.1 v.1.2.2.1 v.1.2.2.2.1 v.1.2.2.2.2) n ((b0, (b1, (b2, (b3, b4)))), ())
theorem slices_BinarySearch_s_string_string_l0_succ (N n : Nat) (b0 : (List (List UInt8))) (b1 : (List UInt8)) (b2 : Int) (b3 : Int) (b4 : Int) : slices_BinarySearch_s_string_string_l0 N (n + 1) b0 b1 b2 b3 b4 = slices_BinarySearch_s_string_string_l0_step N (fun b0  b1  b2  b3  b4  => slices_BinarySearch_s_string_string_l0 N n b0 b1 b2 b3 b4) b0 b1 b2 b3 b4 := rfl
def slices_BinarySearch_s_string_string (N : Nat) (a0 : (List (List UInt8))) (a1 : (List UInt8)) : Option ((Int × Bool)) :=
  match slices_BinarySearch_s_string_string_l0 N N a0 a1 (List.length a0 : Int) (0 : Int) (List.length a0 : Int) with
  | some r6 => (bif (decide (r6.1.2.2.2 < r6.1.2.2.1)) then
  (gd (inB r6.1.2.2.2 (List.length r6.1.1))
  (let x7 := (eqs (rdL r6.1.1 r6.1.2.2.2 ([] : List UInt8)) r6.1.2.1)
  bif x7 then
  (some (r6.1.2.2.2, true))
  else
  (gd (inB r6.1.2.2.2 (List.length r6.1.1))
  (match slices_isNaN_string N (rdL r6.1.1 r6.1.2.2.2 ([] : List UInt8)) with
  | some r8 => (bif r8 then
  (match slices_isNaN_string N r6.1.2.1 with
  | some r9 => (some (r6.1.2.2.2, r9))
  | none => none)
  else
  (some (r6.1.2.2.2, false)))
  | none => none))))
  else
  (some (r6.1.2.2.2, false)))
  | none => none

/-- downspout/route.Kid -/
def route_Kid (N : Nat) (a0 : (List UInt8)) (a1 : (List (List UInt8))) : Option (Int) :=
  match slices_BinarySearch_s_string_string N a1 a0 with
  | some r1 => (bif r1.2 then
  (some (IntKind.wrap .i64 (r1.1 + (1 : Int))))
  else
  (some r1.1))
  | none => none

/-- cmp.isNaN[downspout/span.end] -/
def cmp_isNaN_span_end (N : Nat) (a0 : (List UInt8)) : Option (Bool) :=
  some (!(eqs a0 a0))

/-- cmp.Compare[downspout/span.end] -/
def cmp_Compare_span_end (N : Nat) (a0 : (List UInt8)) (a1 : (List UInt8)) : Option (Int) :=
  match cmp_isNaN_span_end N a0 with
  | some r1 => (match cmp_isNaN_span_end N a1 with
  | some r2 => (bif r1 then
  (bif r2 then
  (some (0 : Int))
  else
  (some (-1 : Int)))
  else
  (bif r2 then
  (some (1 : Int))
  else
  (bif (lts a0 a1) then
  (some (-1 : Int))
  else
  (bif (!(lts a0 a1 || eqs a0 a1)) then
  (some (1 : Int))
  else
  (some (0 : Int))))))
  | none => none)
  | none => none

/-- (downspout/span.end).compare -/
def span_end_compare (N : Nat) (a0 : (List UInt8)) (a1 : (List UInt8)) : Option (Int) :=
  bif (eqs a0 a1) then
  (some (0 : Int))
  else
  (bif (eqs a0 ([] : List UInt8)) then
  (some (1 : Int))
  else
  (bif (eqs a1 ([] : List UInt8)) then
  (some (-1 : Int))
  else
  (match cmp_Compare_span_end N a0 a1 with
  | some r1 => (some r1)
  | none => none)))

/-- slices.MinFunc[[]downspout/span.end,downspout/span.end] -/
def slices_MinFunc_s_span_end_span_end__span_end_compare_l0_step (N : Nat) (rec : (List (List UInt8)) → (List UInt8) → Int → Option (((List UInt8) × Unit))) (b0 : (List (List UInt8))) (b1 : (List UInt8)) (b2 : Int) : Option (((List UInt8) × Unit)) :=
  bif (decide (b2 < (List.length b0 : Int))) then
  (gd (inB b2 (List.length b0))
  (match span_end_compare N (rdL b0 b2 ([] : List UInt8)) b1 with
  | some r2 => (bif (decide (r2 < (0 : Int))) then
  (gd (inB b2 (List.length b0))
  (rec b0 (rdL b0 b2 ([] : List UInt8)) (IntKind.wrap .i64 (b2 + (1 : Int)))))
  else
  (rec b0 b1 (IntKind.wrap .i64 (b2 + (1 : Int)))))
  | none => none))
  else
  (some (b1, ()))
def slices_MinFunc_s_span_end_span_end__span_end_compare_l0 (N n : Nat) (b0 : (List (List UInt8))) (b1 : (List UInt8)) (b2 : Int) : Option (((List UInt8) × Unit)) :=
  iter (fun (rec : (((List (List UInt8)) × (Unit × ((List UInt8) × Int))) × Unit) → Option (((List UInt8) × Unit))) v => slices_MinFunc_s_span_end_span_end__span_end_compare_l0_step N (fun b0 b1 b2 => rec ((b0, ((), (b1, b2))), ())) v.1.1 v.1.2.2.1 v.1.2.2.2) n ((b0, ((), (b1, b2))), ())
theorem slices_MinFunc_s_span_end_span_end__span_end_compare_l0_succ (N n : Nat) (b0 : (List (List UInt8))) (b1 : (List UInt8)) (b2 : Int) : slices_MinFunc_s_span_end_span_end__span_end_compare_l0 N (n + 1) b0 b1 b2 = slices_MinFunc_s_span_end_span_end__span_end_compare_l0_step N (fun b0  b1  b2  => slices_MinFunc_s_span_end_span_end__span_end_compare_l0 N n b0 b1 b2) b0 b1 b2 := rfl
def slices_MinFunc_s_span_end_span_end__span_end_compare (N : Nat) (a0 : (List (List UInt8))) : Option ((List UInt8)) :=
  let x1 := (decide ((List.length a0 : Int) < (1 : Int)))
  bif x1 then
  (none)
  else
  (gd (inB (0 : Int) (List.length a0))
  (match slices_MinFunc_s_span_end_span_end__span_end_compare_l0 N N a0 (rdL a0 (0 : Int) ([] : List UInt8)) (1 : Int) with
  | some r3 => (some r3.1)
  | none => none))

/-- downspout/span.least -/
def span_least (N : Nat) (a0 : (List (List UInt8))) : Option ((List UInt8)) :=
  match slices_MinFunc_s_span_end_span_end__span_end_compare N a0 with
  | some r1 => (some r1)
  | none => none

/-- downspout/span.Empty -/
def span_Empty (N : Nat) (a0 : V_api_Span) : Option (Bool) :=
  bif (!(eqs a0.2 ([] : List UInt8))) then
  (some (lts a0.2 a0.1 || eqs a0.2 a0.1))
  else
  (some false)

/-- downspout/span.Meet -/
def span_Meet (N : Nat) (a0 : V_api_Span) (a1 : V_api_Span) : Option (V_api_Span) :=
  match span_least N ([a0.2, a1.2] : List (List UInt8)) with
  | some r1 => (match span_Empty N ((bif !(lts a0.1 a1.1) then a0.1 else a1.1), r1) with
  | some r2 => (bif r2 then
  (some (([97] : List UInt8), ([97] : List UInt8)))
  else
  (some ((bif !(lts a0.1 a1.1) then a0.1 else a1.1), r1)))
  | none => none)
  | none => none

/-- downspout/span.Parts -/
def span_Parts_l0_step (N : Nat) (rec : (List UInt8) → (List (List UInt8)) → Int → Int → (List UInt8) → (List UInt8) → (List V_api_Span) → Option (((Unit × (Unit × (List UInt8))) × (((List UInt8) × (List UInt8)) × ((List V_api_Span) × Unit))))) (b0 : (List UInt8)) (b1 : (List (List UInt8))) (b2 : Int) (b3 : Int) (b4 : (List UInt8)) (b5 : (List UInt8)) (b6 : (List V_api_Span)) : Option (((Unit × (Unit × (List UInt8))) × (((List UInt8) × (List UInt8)) × ((List V_api_Span) × Unit)))) :=
  bif (decide (b3 < b2)) then
  (gd (inB b3 (List.length b1))
  (match span_Meet N (b4, b5) (b0, (rdL b1 b3 ([] : List UInt8))) with
  | some r1 => (gd (fits (List.length b6 + 1) 32)
  (let x2 := (@HAppend.hAppend (List V_api_Span) (List V_api_Span) (List V_api_Span) _ b6 ([r1] : List V_api_Span))
  rec (rdL b1 b3 ([] : List UInt8)) b1 b2 (IntKind.wrap .i64 (b3 + (1 : Int))) b4 b5 x2))
  | none => none))
  else
  (some (((), ((), b0)), ((b4, b5), (b6, ()))))
def span_Parts_l0 (N n : Nat) (b0 : (List UInt8)) (b1 : (List (List UInt8))) (b2 : Int) (b3 : Int) (b4 : (List UInt8)) (b5 : (List UInt8)) (b6 : (List V_api_Span)) : Option (((Unit × (Unit × (List UInt8))) × (((List UInt8) × (List UInt8)) × ((List V_api_Span) × Unit)))) :=
  iter (fun (rec : ((Unit × (Unit × ((List UInt8) × ((List (List UInt8)) × (Int × Int))))) × (((List UInt8) × (List UInt8)) × ((List V_api_Span) × Unit))) → Option (((Unit × (Unit × (List UInt8))) × (((List UInt8) × (List UInt8)) × ((List V_api_Span) × Unit))))) v => span_Parts_l0_step N (fun b0 b1 b2 b3 b4 b5 b6 => rec (((), ((), (b0, (b1, (b2, b3))))), ((b4, b5), (b6, ())))) v.1.2.2.1 v.1.2.2.2.1 v.1.2.2.2.2.1 v.1.2.2.2.2.2 v.2.1.1 v.2.1.2 v.2.2.1) n (((), ((), (b0, (b1, (b2, b3))))), ((b4, b5), (b6, ())))
theorem span_Parts_l0_succ (N n : Nat) (b0 : (List UInt8)) (b1 : (List (List UInt8))) (b2 : Int) (b3 : Int) (b4 : (List UInt8)) (b5 : (List UInt8)) (b6 : (List V_api_Span)) : span_Parts_l0 N (n + 1) b0 b1 b2 b3 b4 b5 b6 = span_Parts_l0_step N (fun b0  b1  b2  b3  b4  b5  b6  => span_Parts_l0 N n b0 b1 b2 b3 b4 b5 b6) b0 b1 b2 b3 b4 b5 b6 := rfl
def span_Parts (N : Nat) (a0 : V_api_Span) (a1 : (List (List UInt8))) : Option ((List V_api_Span)) :=
  match span_Parts_l0 N N ([] : List UInt8) a1 (List.length a1 : Int) (0 : Int) a0.1 a0.2 ([] : List V_api_Span) with
  | some r3 => (match span_Meet N r3.2.1 (r3.1.2.2, ([] : List UInt8)) with
  | some r4 => (gd (fits (List.length r3.2.2.1 + 1) 32)
  (let x5 := (@HAppend.hAppend (List V_api_Span) (List V_api_Span) (List V_api_Span) _ r3.2.2.1 ([r4] : List V_api_Span))
  some x5))
  | none => none)
  | none => none

/-- downspout/route.area -/
def route_area (N : Nat) (a0 : (List (List UInt8))) (a1 : Int) : Option (V_api_Span) :=
  match span_Parts N (([] : List UInt8), ([] : List UInt8)) a0 with
  | some r1 => (gd (inB a1 (List.length r1))
  (some (rdL r1 a1 D_api_Span)))
  | none => none

/-- downspout/msg.of -/
def msg_of (N : Nat) (a0 : V_api_Msg) : Option (V_api_Msg ⊕ V_api_Msg ⊕ V_api_Msg ⊕ V_api_Msg ⊕ V_api_Msg ⊕ V_api_Msg ⊕ Unit) :=
  bif (eqi a0.1 (1 : Int)) then
  (some (.inl a0))
  else
  (bif (eqi a0.1 (2 : Int)) then
  (some (.inr (.inl a0)))
  else
  (bif (eqi a0.1 (3 : Int)) then
  (some (.inr (.inr (.inl a0))))
  else
  (bif (eqi a0.1 (4 : Int)) then
  (some (.inr (.inr (.inr (.inl a0)))))
  else
  (bif (eqi a0.1 (5 : Int)) then
  (some (.inr (.inr (.inr (.inr (.inl a0))))))
  else
  (bif (eqi a0.1 (6 : Int)) then
  (some (.inr (.inr (.inr (.inr (.inr (.inl a0)))))))
  else
  (some (.inr (.inr (.inr (.inr (.inr (.inr ()))))))))))))

/-- (downspout/msg.put).reads -/
def msg_put_reads (N : Nat) (a0 : V_api_Msg) : Option ((List V_api_Span)) :=
  some ([] : List V_api_Span)

/-- (downspout/msg.del).reads -/
def msg_del_reads (N : Nat) (a0 : V_api_Msg) : Option ((List V_api_Span)) :=
  some ([] : List V_api_Span)

/-- (downspout/msg.drop).reads -/
def msg_drop_reads (N : Nat) (a0 : V_api_Msg) : Option ((List V_api_Span)) :=
  some ([] : List V_api_Span)

/-- (downspout/msg.move).reads -/
def msg_move_reads (N : Nat) (a0 : V_api_Msg) : Option ((List V_api_Span)) :=
  match span_Prefix N a0.2.2.2.2.1 with
  | some r1 => (some ([r1] : List V_api_Span))
  | none => none

/-- (downspout/msg.clone).reads -/
def msg_clone_reads (N : Nat) (a0 : V_api_Msg) : Option ((List V_api_Span)) :=
  match span_Prefix N a0.2.2.2.2.1 with
  | some r1 => (some ([r1] : List V_api_Span))
  | none => none

/-- (downspout/msg.stamp).reads -/
def msg_stamp_reads (N : Nat) (a0 : V_api_Msg) : Option ((List V_api_Span)) :=
  some ([a0.2.2.2.1] : List V_api_Span)

/-- downspout/msg.Reads -/
def msg_Reads (N : Nat) (a0 : V_api_Msg) : Option ((List V_api_Span)) :=
  match msg_of N a0 with
  | some r1 => (match r1 with
  | .inl r2 => (match msg_put_reads N r2 with
  | some r4 => (some r4)
  | none => none)
  | .inr r3 => (match r3 with
  | .inl r5 => (match msg_del_reads N r5 with
  | some r7 => (some r7)
  | none => none)
  | .inr r6 => (match r6 with
  | .inl r8 => (match msg_drop_reads N r8 with
  | some r10 => (some r10)
  | none => none)
  | .inr r9 => (match r9 with
  | .inl r11 => (match msg_move_reads N r11 with
  | some r13 => (some r13)
  | none => none)
  | .inr r12 => (match r12 with
  | .inl r14 => (match msg_clone_reads N r14 with
  | some r16 => (some r16)
  | none => none)
  | .inr r15 => (match r15 with
  | .inl r17 => (match msg_stamp_reads N r17 with
  | some r19 => (some r19)
  | none => none)
  | .inr r18 => (some ([] : List V_api_Span))))))))
  | none => none

/-- downspout/span.Has -/
def span_Has (N : Nat) (a0 : V_api_Span) (a1 : (List UInt8)) : Option (Bool) :=
  bif (!(lts a1 a0.1)) then
  (bif (eqs a0.2 ([] : List UInt8)) then
  (some true)
  else
  (some (lts a1 a0.2)))
  else
  (some false)

/-- downspout/span.Covers -/
def span_Covers (N : Nat) (a0 : V_api_Span) (a1 : V_api_Span) : Option (Bool) :=
  match span_Empty N a1 with
  | some r1 => (bif r1 then
  (some true)
  else
  (match span_Has N a0 a1.1 with
  | some r2 => (bif r2 then
  (match span_end_compare N a0.2 a1.2 with
  | some r3 => (some (decide ((0 : Int) ≤ r3)))
  | none => none)
  else
  (some false))
  | none => none))
  | none => none

/-- downspout/route.lies$1 -/
def route_lies_c1 (N : Nat) (a0 : V_api_Span) (a1 : (List UInt8)) (a2 : (List UInt8)) : Option (Bool) :=
  match span_Covers N (a1, a2) a0 with
  | some r1 => (some (!r1))
  | none => none

/-- slices.IndexFunc[[]downspout/api.Span,downspout/api.Span] -/
def slices_IndexFunc_s_api_Span_api_Span__route_lies_c1_l0_step (N : Nat) (rec : (List V_api_Span) → (List UInt8) → (List UInt8) → Int → Int → Option ((Int × Unit) ⊕ (Unit × Unit))) (b0 : (List V_api_Span)) (b1 : (List UInt8)) (b2 : (List UInt8)) (b3 : Int) (b4 : Int) : Option ((Int × Unit) ⊕ (Unit × Unit)) :=
  bif (decide (b4 < b3)) then
  (gd (inB b4 (List.length b0))
  (match route_lies_c1 N (rdL b0 b4 D_api_Span) b1 b2 with
  | some r1 => (bif r1 then
  (some (.inl (b4, ())))
  else
  (rec b0 b1 b2 b3 (IntKind.wrap .i64 (b4 + (1 : Int)))))
  | none => none))
  else
  (some (.inr ((), ())))
def slices_IndexFunc_s_api_Span_api_Span__route_lies_c1_l0 (N n : Nat) (b0 : (List V_api_Span)) (b1 : (List UInt8)) (b2 : (List UInt8)) (b3 : Int) (b4 : Int) : Option ((Int × Unit) ⊕ (Unit × Unit)) :=
  iter (fun (rec : (((List V_api_Span) × (((List UInt8) × (List UInt8)) × (Int × Int))) × Unit) → Option ((Int × Unit) ⊕ (Unit × Unit))) v => slices_IndexFunc_s_api_Span_api_Span__route_lies_c1_l0_step N (fun b0 b1 b2 b3 b4 => rec ((b0, ((b1, b2), (b3, b4))), ())) v.1.1 v.1.2.1.1 v.1.2.1.2 v.1.2.2.1 v.1.2.2.2) n ((b0, ((b1, b2), (b3, b4))), ())
theorem slices_IndexFunc_s_api_Span_api_Span__route_lies_c1_l0_succ (N n : Nat) (b0 : (List V_api_Span)) (b1 : (List UInt8)) (b2 : (List UInt8)) (b3 : Int) (b4 : Int) : slices_IndexFunc_s_api_Span_api_Span__route_lies_c1_l0 N (n + 1) b0 b1 b2 b3 b4 = slices_IndexFunc_s_api_Span_api_Span__route_lies_c1_l0_step N (fun b0  b1  b2  b3  b4  => slices_IndexFunc_s_api_Span_api_Span__route_lies_c1_l0 N n b0 b1 b2 b3 b4) b0 b1 b2 b3 b4 := rfl
def slices_IndexFunc_s_api_Span_api_Span__route_lies_c1 (N : Nat) (a0 : (List V_api_Span)) (a1 : (List UInt8)) (a2 : (List UInt8)) : Option (Int) :=
  match slices_IndexFunc_s_api_Span_api_Span__route_lies_c1_l0 N N a0 a1 a2 (List.length a0 : Int) (0 : Int) with
  | some r2 => (match r2 with
  | .inl r3 => (some r3.1)
  | .inr r4 => (some (-1 : Int)))
  | none => none

/-- slices.ContainsFunc[[]downspout/api.Span,downspout/api.Span] -/
def slices_ContainsFunc_s_api_Span_api_Span__route_lies_c1 (N : Nat) (a0 : (List V_api_Span)) (a1 : (List UInt8)) (a2 : (List UInt8)) : Option (Bool) :=
  match slices_IndexFunc_s_api_Span_api_Span__route_lies_c1 N a0 a1 a2 with
  | some r1 => (some (decide ((0 : Int) ≤ r1)))
  | none => none

/-- downspout/span.One -/
def span_One (N : Nat) (a0 : (List UInt8)) : Option (V_api_Span) :=
  gd (decide (List.length a0 + List.length ([0] : List UInt8) < maxB))
  (let x1 := (@HAppend.hAppend (List UInt8) (List UInt8) (List UInt8) _ a0 ([0] : List UInt8))
  some (a0, x1))

/-- (downspout/msg.put).writes -/
def msg_put_writes (N : Nat) (a0 : V_api_Msg) : Option ((List V_api_Span)) :=
  match span_One N a0.2.1 with
  | some r1 => (some ([r1] : List V_api_Span))
  | none => none

/-- (downspout/msg.del).writes -/
def msg_del_writes (N : Nat) (a0 : V_api_Msg) : Option ((List V_api_Span)) :=
  match span_One N a0.2.1 with
  | some r1 => (some ([r1] : List V_api_Span))
  | none => none

/-- (downspout/msg.drop).writes -/
def msg_drop_writes (N : Nat) (a0 : V_api_Msg) : Option ((List V_api_Span)) :=
  some ([a0.2.2.2.1] : List V_api_Span)

/-- (downspout/msg.move).writes -/
def msg_move_writes (N : Nat) (a0 : V_api_Msg) : Option ((List V_api_Span)) :=
  match span_Prefix N a0.2.2.2.2.1 with
  | some r1 => (match span_Prefix N a0.2.2.2.2.2.1 with
  | some r2 => (some ([r1, r2] : List V_api_Span))
  | none => none)
  | none => none

/-- (downspout/msg.clone).writes -/
def msg_clone_writes (N : Nat) (a0 : V_api_Msg) : Option ((List V_api_Span)) :=
  match span_Prefix N a0.2.2.2.2.2.1 with
  | some r1 => (some ([r1] : List V_api_Span))
  | none => none

/-- (downspout/msg.stamp).writes -/
def msg_stamp_writes (N : Nat) (a0 : V_api_Msg) : Option ((List V_api_Span)) :=
  some ([a0.2.2.2.1] : List V_api_Span)

/-- downspout/msg.Writes -/
def msg_Writes (N : Nat) (a0 : V_api_Msg) : Option ((List V_api_Span)) :=
  match msg_of N a0 with
  | some r1 => (match r1 with
  | .inl r2 => (match msg_put_writes N r2 with
  | some r4 => (some r4)
  | none => none)
  | .inr r3 => (match r3 with
  | .inl r5 => (match msg_del_writes N r5 with
  | some r7 => (some r7)
  | none => none)
  | .inr r6 => (match r6 with
  | .inl r8 => (match msg_drop_writes N r8 with
  | some r10 => (some r10)
  | none => none)
  | .inr r9 => (match r9 with
  | .inl r11 => (match msg_move_writes N r11 with
  | some r13 => (some r13)
  | none => none)
  | .inr r12 => (match r12 with
  | .inl r14 => (match msg_clone_writes N r14 with
  | some r16 => (some r16)
  | none => none)
  | .inr r15 => (match r15 with
  | .inl r17 => (match msg_stamp_writes N r17 with
  | some r19 => (some r19)
  | none => none)
  | .inr r18 => (some ([] : List V_api_Span))))))))
  | none => none

/-- downspout/route.lies -/
def route_lies (N : Nat) (a0 : V_api_Msg) (a1 : V_api_Span) : Option (Bool) :=
  match msg_Reads N a0 with
  | some r1 => (match slices_ContainsFunc_s_api_Span_api_Span__route_lies_c1 N r1 a1.1 a1.2 with
  | some r2 => (bif (!r2) then
  (match msg_Writes N a0 with
  | some r3 => (match slices_ContainsFunc_s_api_Span_api_Span__route_lies_c1 N r3 a1.1 a1.2 with
  | some r4 => (some (!r4))
  | none => none)
  | none => none)
  else
  (some false))
  | none => none)
  | none => none

/-- downspout/route.Crosses -/
def route_Crosses (N : Nat) (a0 : V_api_Msg) (a1 : (List (List UInt8))) : Option (Bool) :=
  match route_moves N a0 with
  | some r1 => (bif (!r1) then
  (some false)
  else
  (match route_Kid N a0.2.2.2.2.1 a1 with
  | some r2 => (match route_area N a1 r2 with
  | some r3 => (match route_lies N a0 r3 with
  | some r4 => (some (!r4))
  | none => none)
  | none => none)
  | none => none))
  | none => none

/-- downspout/settle.First$1 -/
def settle_First_c1 (N : Nat) (a0 : V_api_Msg) (a1 : (List (List UInt8))) : Option (Bool) :=
  match route_Crosses N a0 a1 with
  | some r1 => (some r1)
  | none => none

/-- slices.IndexFunc[[]downspout/api.Msg,downspout/api.Msg] -/
def slices_IndexFunc_s_api_Msg_api_Msg__settle_First_c1_l0_step (N : Nat) (rec : (List V_api_Msg) → (List (List UInt8)) → Int → Int → Option ((Int × Unit) ⊕ (Unit × Unit))) (b0 : (List V_api_Msg)) (b1 : (List (List UInt8))) (b2 : Int) (b3 : Int) : Option ((Int × Unit) ⊕ (Unit × Unit)) :=
  bif (decide (b3 < b2)) then
  (gd (inB b3 (List.length b0))
  (match settle_First_c1 N (rdL b0 b3 D_api_Msg) b1 with
  | some r1 => (bif r1 then
  (some (.inl (b3, ())))
  else
  (rec b0 b1 b2 (IntKind.wrap .i64 (b3 + (1 : Int)))))
  | none => none))
  else
  (some (.inr ((), ())))
def slices_IndexFunc_s_api_Msg_api_Msg__settle_First_c1_l0 (N n : Nat) (b0 : (List V_api_Msg)) (b1 : (List (List UInt8))) (b2 : Int) (b3 : Int) : Option ((Int × Unit) ⊕ (Unit × Unit)) :=
  iter (fun (rec : (((List V_api_Msg) × ((List (List UInt8)) × (Int × Int))) × Unit) → Option ((Int × Unit) ⊕ (Unit × Unit))) v => slices_IndexFunc_s_api_Msg_api_Msg__settle_First_c1_l0_step N (fun b0 b1 b2 b3 => rec ((b0, (b1, (b2, b3))), ())) v.1.1 v.1.2.1 v.1.2.2.1 v.1.2.2.2) n ((b0, (b1, (b2, b3))), ())
theorem slices_IndexFunc_s_api_Msg_api_Msg__settle_First_c1_l0_succ (N n : Nat) (b0 : (List V_api_Msg)) (b1 : (List (List UInt8))) (b2 : Int) (b3 : Int) : slices_IndexFunc_s_api_Msg_api_Msg__settle_First_c1_l0 N (n + 1) b0 b1 b2 b3 = slices_IndexFunc_s_api_Msg_api_Msg__settle_First_c1_l0_step N (fun b0  b1  b2  b3  => slices_IndexFunc_s_api_Msg_api_Msg__settle_First_c1_l0 N n b0 b1 b2 b3) b0 b1 b2 b3 := rfl
def slices_IndexFunc_s_api_Msg_api_Msg__settle_First_c1 (N : Nat) (a0 : (List V_api_Msg)) (a1 : (List (List UInt8))) : Option (Int) :=
  match slices_IndexFunc_s_api_Msg_api_Msg__settle_First_c1_l0 N N a0 a1 (List.length a0 : Int) (0 : Int) with
  | some r2 => (match r2 with
  | .inl r3 => (some r3.1)
  | .inr r4 => (some (-1 : Int)))
  | none => none

/-- downspout/settle.First -/
def settle_First (N : Nat) (a0 : (List V_api_Msg)) (a1 : (List (List UInt8))) : Option ((Int × Bool)) :=
  match slices_IndexFunc_s_api_Msg_api_Msg__settle_First_c1 N a0 a1 with
  | some r1 => (let x2 := (bif decide (r1 < (0 : Int)) then (0 : Int) else r1)
  some (x2, (decide ((0 : Int) ≤ r1))))
  | none => none

/-- downspout/downspoutref06.Same -/
def ref06_Same_l0_step (N : Nat) (rec : (List V_api_Msg) → (List V_api_Msg) → Int → Option ((Bool × Unit) ⊕ (Unit × Unit))) (b0 : (List V_api_Msg)) (b1 : (List V_api_Msg)) (b2 : Int) : Option ((Bool × Unit) ⊕ (Unit × Unit)) :=
  bif (decide (b2 < (List.length b0 : Int))) then
  (gd (inB b2 (List.length b0))
  (gd (inB b2 (List.length b1))
  (let x2 := (!(eqi ((rdL b0 b2 D_api_Msg).1) ((rdL b1 b2 D_api_Msg).1) && (eqs (((rdL b0 b2 D_api_Msg).2).1) (((rdL b1 b2 D_api_Msg).2).1) && (eqs ((((rdL b0 b2 D_api_Msg).2).2).1) ((((rdL b1 b2 D_api_Msg).2).2).1) && (eqs ((((((rdL b0 b2 D_api_Msg).2).2).2).1).1) ((((((rdL b1 b2 D_api_Msg).2).2).2).1).1) && (eqs ((((((rdL b0 b2 D_api_Msg).2).2).2).1).2) ((((((rdL b1 b2 D_api_Msg).2).2).2).1).2) && (eqs ((((((rdL b0 b2 D_api_Msg).2).2).2).2).1) ((((((rdL b1 b2 D_api_Msg).2).2).2).2).1) && (eqs (((((((rdL b0 b2 D_api_Msg).2).2).2).2).2).1) (((((((rdL b1 b2 D_api_Msg).2).2).2).2).2).1) && (eqi (((((((rdL b0 b2 D_api_Msg).2).2).2).2).2).2) (((((((rdL b1 b2 D_api_Msg).2).2).2).2).2).2) && true)))))))))
  bif x2 then
  (some (.inl (false, ())))
  else
  (rec b0 b1 (IntKind.wrap .i64 (b2 + (1 : Int)))))))
  else
  (some (.inr ((), ())))
def ref06_Same_l0 (N n : Nat) (b0 : (List V_api_Msg)) (b1 : (List V_api_Msg)) (b2 : Int) : Option ((Bool × Unit) ⊕ (Unit × Unit)) :=
  iter (fun (rec : (((List V_api_Msg) × ((List V_api_Msg) × Int)) × Unit) → Option ((Bool × Unit) ⊕ (Unit × Unit))) v => ref06_Same_l0_step N (fun b0 b1 b2 => rec ((b0, (b1, b2)), ())) v.1.1 v.1.2.1 v.1.2.2) n ((b0, (b1, b2)), ())
theorem ref06_Same_l0_succ (N n : Nat) (b0 : (List V_api_Msg)) (b1 : (List V_api_Msg)) (b2 : Int) : ref06_Same_l0 N (n + 1) b0 b1 b2 = ref06_Same_l0_step N (fun b0  b1  b2  => ref06_Same_l0 N n b0 b1 b2) b0 b1 b2 := rfl
def ref06_Same (N : Nat) (a0 : (List V_api_Msg)) (a1 : (List V_api_Msg)) : Option (Bool) :=
  let x1 := (!(eqi (List.length a0 : Int) (List.length a1 : Int)))
  bif x1 then
  (some false)
  else
  (match ref06_Same_l0 N N a0 a1 (0 : Int) with
  | some r3 => (match r3 with
  | .inl r4 => (some r4.1)
  | .inr r5 => (some true))
  | none => none)

/-- downspout/downspoutlaw09.sanity -/
def law09_sanity_p1 (N : Nat) (b0 : Bool) : Option ((Bool × Unit)) :=
  some (b0, ())
def law09_sanity_p0 (N : Nat) (b0 : Int) (b1 : Int) (b2 : Int) (b3 : Int) (b4 : Bool) (b5 : Bool) (b6 : Bool) : Option ((Bool × Unit)) :=
  bif b6 then
  (bif (eqi b0 (0 : Int)) then
  (bif (eqi b1 (50 : Int)) then
  (bif (eqi b2 (50 : Int)) then
  (bif (eqi b3 (1 : Int)) then
  (bif b4 then
  (match law09_sanity_p1 N (!b5) with
  | some r20 => (some (r20.1, ()))
  | none => none)
  else
  (match law09_sanity_p1 N false with
  | some r21 => (some (r21.1, ()))
  | none => none))
  else
  (match law09_sanity_p1 N false with
  | some r22 => (some (r22.1, ()))
  | none => none))
  else
  (match law09_sanity_p1 N false with
  | some r23 => (some (r23.1, ()))
  | none => none))
  else
  (match law09_sanity_p1 N false with
  | some r24 => (some (r24.1, ()))
  | none => none))
  else
  (match law09_sanity_p1 N false with
  | some r25 => (some (r25.1, ()))
  | none => none))
  else
  (match law09_sanity_p1 N false with
  | some r26 => (some (r26.1, ()))
  | none => none)
def law09_sanity (N : Nat) : Option (Bool) :=
  let x1 := ([(([97, 47, 120] : List UInt8), (([49] : List UInt8), (3 : Int)))] : List V_api_Pair)
  match settle_List N ((4 : Int), (([] : List UInt8), (([] : List UInt8), ((([] : List UInt8), ([] : List UInt8)), (([97, 47] : List UInt8), (([98, 47] : List UInt8), (0 : Int))))))) x1 with
  | some r2 => (match settle_List N ((5 : Int), (([] : List UInt8), (([] : List UInt8), ((([] : List UInt8), ([] : List UInt8)), (([97, 47] : List UInt8), (([98, 47] : List UInt8), (0 : Int))))))) ([] : List V_api_Pair) with
  | some r3 => (let x4 := ([((5 : Int), (([] : List UInt8), (([] : List UInt8), ((([] : List UInt8), ([] : List UInt8)), (([97, 47] : List UInt8), (([98, 47] : List UInt8), (0 : Int))))))), ((1 : Int), (([98, 47, 120] : List UInt8), (([49] : List UInt8), ((([] : List UInt8), ([] : List UInt8)), (([] : List UInt8), (([] : List UInt8), (3 : Int)))))))] : List V_api_Msg)
  match settle_Turn N x4 ([] : List V_api_Pair) with
  | some r5 => (match settle_Turn N ([] : List V_api_Msg) ([] : List V_api_Pair) with
  | some r6 => (let x7 := ([((1 : Int), (([98, 47, 120] : List UInt8), (([49] : List UInt8), ((([] : List UInt8), ([] : List UInt8)), (([] : List UInt8), (([] : List UInt8), (3 : Int)))))))] : List V_api_Msg)
  match settle_Turn N x7 ([] : List V_api_Pair) with
  | some r8 => (let x9 := ([((1 : Int), (([98, 47, 120] : List UInt8), (([49] : List UInt8), ((([] : List UInt8), ([] : List UInt8)), (([] : List UInt8), (([] : List UInt8), (3 : Int))))))), ((4 : Int), (([] : List UInt8), (([] : List UInt8), ((([] : List UInt8), ([] : List UInt8)), (([97, 47] : List UInt8), (([98, 47] : List UInt8), (0 : Int)))))))] : List V_api_Msg)
  let x10 := ([([98, 47] : List UInt8)] : List (List UInt8))
  match settle_First N x9 x10 with
  | some r11 => (let x12 := ([((1 : Int), (([98, 47, 120] : List UInt8), (([49] : List UInt8), ((([] : List UInt8), ([] : List UInt8)), (([] : List UInt8), (([] : List UInt8), (3 : Int))))))), ((4 : Int), (([] : List UInt8), (([] : List UInt8), ((([] : List UInt8), ([] : List UInt8)), (([97, 47] : List UInt8), (([98, 47] : List UInt8), (0 : Int)))))))] : List V_api_Msg)
  match settle_First N x12 ([] : List (List UInt8)) with
  | some r13 => (let x14 := ([((3 : Int), (([] : List UInt8), (([] : List UInt8), ((([98, 47] : List UInt8), ([98, 48] : List UInt8)), (([] : List UInt8), (([] : List UInt8), (0 : Int))))))), ((1 : Int), (([98, 47, 120] : List UInt8), (([49] : List UInt8), ((([] : List UInt8), ([] : List UInt8)), (([] : List UInt8), (([] : List UInt8), (3 : Int))))))), ((3 : Int), (([] : List UInt8), (([] : List UInt8), ((([97, 47] : List UInt8), ([97, 48] : List UInt8)), (([] : List UInt8), (([] : List UInt8), (0 : Int)))))))] : List V_api_Msg)
  match ref06_Same N r2 x14 with
  | some r15 => (bif r15 then
  (let x16 := ([((3 : Int), (([] : List UInt8), (([] : List UInt8), ((([98, 47] : List UInt8), ([98, 48] : List UInt8)), (([] : List UInt8), (([] : List UInt8), (0 : Int)))))))] : List V_api_Msg)
  match ref06_Same N r3 x16 with
  | some r17 => (bif r17 then
  (let x18 := ([((3 : Int), (([] : List UInt8), (([] : List UInt8), ((([98, 47] : List UInt8), ([98, 48] : List UInt8)), (([] : List UInt8), (([] : List UInt8), (0 : Int))))))), ((1 : Int), (([98, 47, 120] : List UInt8), (([49] : List UInt8), ((([] : List UInt8), ([] : List UInt8)), (([] : List UInt8), (([] : List UInt8), (3 : Int)))))))] : List V_api_Msg)
  match ref06_Same N r5.1 x18 with
  | some r19 => (match law09_sanity_p0 N r5.2 r6.2 r8.2 r11.1 r11.2 r13.2 r19 with
  | some r27 => (some r27.1)
  | none => none)
  | none => none)
  else
  (match law09_sanity_p0 N r5.2 r6.2 r8.2 r11.1 r11.2 r13.2 false with
  | some r28 => (some r28.1)
  | none => none))
  | none => none)
  else
  (match law09_sanity_p0 N r5.2 r6.2 r8.2 r11.1 r11.2 r13.2 false with
  | some r29 => (some r29.1)
  | none => none))
  | none => none)
  | none => none)
  | none => none)
  | none => none)
  | none => none)
  | none => none)
  | none => none)
  | none => none

/-- downspout/downspoutref04.Key -/
def ref04_Key (N : Nat) (a0 : Int) : Option ((List UInt8)) :=
  let x1 := ([([97, 47] : List UInt8), ([98, 47] : List UInt8), ([97, 47, 98, 47] : List UInt8), ([99, 47] : List UInt8)] : List (List UInt8))
  let x2 := ([([1] : List UInt8), ([2, 0, 0] : List UInt8), ([2, 0, 1] : List UInt8), ([2, 0, 2] : List UInt8), ([3, 120] : List UInt8)] : List (List UInt8))
  let x3 := (decide ((Int.tmod a0 (24 : Int)) < (20 : Int)))
  bif x3 then
  (let x4 := (IntKind.wrap .u8 (Int.tdiv (Int.tmod a0 (24 : Int)) (5 : Int)))
  gd (inB x4 (List.length x1))
  (let x5 := (Int.tmod (Int.tmod a0 (24 : Int)) (5 : Int))
  gd (inB x5 (List.length x2))
  (gd (decide (List.length (rdL x1 x4 ([] : List UInt8)) + List.length (rdL x2 x5 ([] : List UInt8)) < maxB))
  (let x6 := (@HAppend.hAppend (List UInt8) (List UInt8) (List UInt8) _ (rdL x1 x4 ([] : List UInt8)) (rdL x2 x5 ([] : List UInt8)))
  some x6))))
  else
  (let x7 := ([([1] : List UInt8), ([5, 48, 48, 48, 48, 48, 48, 48, 49, 47, 1] : List UInt8), ([6, 97, 47, 1] : List UInt8), ([97, 47, 98, 47, 99, 47, 1] : List UInt8)] : List (List UInt8))
  let x8 := (IntKind.wrap .u8 ((Int.tmod a0 (24 : Int)) - (20 : Int)))
  gd (inB x8 (List.length x7))
  (some (rdL x7 x8 ([] : List UInt8))))

/-- downspout/downspoutref04.Pair -/
def ref04_Pair (N : Nat) (a0 : V_ref04_Raw) : Option (V_api_Pair) :=
  match ref04_Key N a0.1 with
  | some r1 => (let x2 := ([([] : List UInt8), ([118] : List UInt8), ([119, 120] : List UInt8), ([120, 121, 122] : List UInt8)] : List (List UInt8))
  gd (inB (Int.tmod a0.2.1 (4 : Int)) (List.length x2))
  (let x3 := (rdL x2 (Int.tmod a0.2.1 (4 : Int)) ([] : List UInt8))
  let x4 := (IntKind.wrap .i64 ((Int.tmod a0.2.2 (4 : Int))))
  some (r1, (x3, x4))))
  | none => none

/-- downspout/downspoutref04.Put -/
def ref04_Put_p1 (N : Nat) (b0 : (List V_api_Pair)) (b1 : Bool) (b2 : Int) (b3 : (List UInt8)) (b4 : (List UInt8)) (b5 : Int) (b6 : (List V_api_Pair)) : Option ((((List V_api_Pair) × (Unit × (Unit × (Bool × Int)))) × (((List UInt8) × ((List UInt8) × Int)) × ((List V_api_Pair) × Unit)))) :=
  gd (inB b2 (List.length b0))
  (bif (!(eqs ((rdL b0 b2 D_api_Pair).1) b3)) then
  (gd (inB b2 (List.length b0))
  (gd (fits (List.length b6 + 1) 40)
  (let x2 := (@HAppend.hAppend (List V_api_Pair) (List V_api_Pair) (List V_api_Pair) _ b6 ([(rdL b0 b2 D_api_Pair)] : List V_api_Pair))
  some ((b0, ((), ((), (b1, b2)))), ((b3, (b4, b5)), (x2, ()))))))
  else
  (some ((b0, ((), ((), (b1, b2)))), ((b3, (b4, b5)), (b6, ())))))
def ref04_Put_l0_step (N : Nat) (rec : (List V_api_Pair) → Bool → Int → (List UInt8) → (List UInt8) → Int → (List V_api_Pair) → Option (((Unit × (Unit × Bool)) × (((List UInt8) × ((List UInt8) × Int)) × ((List V_api_Pair) × Unit))))) (b0 : (List V_api_Pair)) (b1 : Bool) (b2 : Int) (b3 : (List UInt8)) (b4 : (List UInt8)) (b5 : Int) (b6 : (List V_api_Pair)) : Option (((Unit × (Unit × Bool)) × (((List UInt8) × ((List UInt8) × Int)) × ((List V_api_Pair) × Unit)))) :=
  bif (decide (b2 < (List.length b0 : Int))) then
  (bif (!b1) then
  (gd (inB b2 (List.length b0))
  (bif (!(lts ((rdL b0 b2 D_api_Pair).1) b3)) then
  (gd (fits (List.length b6 + 1) 40)
  (let x1 := (@HAppend.hAppend (List V_api_Pair) (List V_api_Pair) (List V_api_Pair) _ b6 ([(b3, (b4, b5))] : List V_api_Pair))
  match ref04_Put_p1 N b0 true b2 b3 b4 b5 x1 with
  | some r3 => (let x4 := (IntKind.wrap .i64 (r3.1.2.2.2.2 + (1 : Int)))
  rec r3.1.1 r3.1.2.2.2.1 x4 r3.2.1.1 r3.2.1.2.1 r3.2.1.2.2 r3.2.2.1)
  | none => none))
  else
  (match ref04_Put_p1 N b0 b1 b2 b3 b4 b5 b6 with
  | some r5 => (let x6 := (IntKind.wrap .i64 (r5.1.2.2.2.2 + (1 : Int)))
  rec r5.1.1 r5.1.2.2.2.1 x6 r5.2.1.1 r5.2.1.2.1 r5.2.1.2.2 r5.2.2.1)
  | none => none)))
  else
  (match ref04_Put_p1 N b0 b1 b2 b3 b4 b5 b6 with
  | some r7 => (let x8 := (IntKind.wrap .i64 (r7.1.2.2.2.2 + (1 : Int)))
  rec r7.1.1 r7.1.2.2.2.1 x8 r7.2.1.1 r7.2.1.2.1 r7.2.1.2.2 r7.2.2.1)
  | none => none))
  else
  (some (((), ((), b1)), ((b3, (b4, b5)), (b6, ()))))
def ref04_Put_l0 (N n : Nat) (b0 : (List V_api_Pair)) (b1 : Bool) (b2 : Int) (b3 : (List UInt8)) (b4 : (List UInt8)) (b5 : Int) (b6 : (List V_api_Pair)) : Option (((Unit × (Unit × Bool)) × (((List UInt8) × ((List UInt8) × Int)) × ((List V_api_Pair) × Unit)))) :=
  iter (fun (rec : (((List V_api_Pair) × (Unit × (Unit × (Bool × Int)))) × (((List UInt8) × ((List UInt8) × Int)) × ((List V_api_Pair) × Unit))) → Option (((Unit × (Unit × Bool)) × (((List UInt8) × ((List UInt8) × Int)) × ((List V_api_Pair) × Unit))))) v => ref04_Put_l0_step N (fun b0 b1 b2 b3 b4 b5 b6 => rec ((b0, ((), ((), (b1, b2)))), ((b3, (b4, b5)), (b6, ())))) v.1.1 v.1.2.2.2.1 v.1.2.2.2.2 v.2.1.1 v.2.1.2.1 v.2.1.2.2 v.2.2.1) n ((b0, ((), ((), (b1, b2)))), ((b3, (b4, b5)), (b6, ())))
theorem ref04_Put_l0_succ (N n : Nat) (b0 : (List V_api_Pair)) (b1 : Bool) (b2 : Int) (b3 : (List UInt8)) (b4 : (List UInt8)) (b5 : Int) (b6 : (List V_api_Pair)) : ref04_Put_l0 N (n + 1) b0 b1 b2 b3 b4 b5 b6 = ref04_Put_l0_step N (fun b0  b1  b2  b3  b4  b5  b6  => ref04_Put_l0 N n b0 b1 b2 b3 b4 b5 b6) b0 b1 b2 b3 b4 b5 b6 := rfl
def ref04_Put (N : Nat) (a0 : (List V_api_Pair)) (a1 : V_api_Pair) : Option ((List V_api_Pair)) :=
  match ref04_Put_l0 N N a0 false (0 : Int) a1.1 a1.2.1 a1.2.2 ([] : List V_api_Pair) with
  | some r9 => (bif (!r9.1.2.2) then
  (gd (fits (List.length r9.2.2.1 + 1) 40)
  (let x10 := (@HAppend.hAppend (List V_api_Pair) (List V_api_Pair) (List V_api_Pair) _ r9.2.2.1 ([r9.2.1] : List V_api_Pair))
  some x10))
  else
  (some r9.2.2.1))
  | none => none

/-- downspout/downspoutref04.Made -/
def ref04_Made_l0_step (N : Nat) (rec : (List V_ref04_Raw) → Int → (List V_api_Pair) → Option ((Unit × ((List V_api_Pair) × Unit)))) (b0 : (List V_ref04_Raw)) (b1 : Int) (b2 : (List V_api_Pair)) : Option ((Unit × ((List V_api_Pair) × Unit))) :=
  bif (decide (b1 < (List.length b0 : Int))) then
  (bif (decide (b1 < (40 : Int))) then
  (gd (inB b1 (List.length b0))
  (match ref04_Pair N (rdL b0 b1 D_ref04_Raw) with
  | some r1 => (match ref04_Put N b2 r1 with
  | some r2 => (rec b0 (IntKind.wrap .i64 (b1 + (1 : Int))) r2)
  | none => none)
  | none => none))
  else
  (some ((), (b2, ()))))
  else
  (some ((), (b2, ())))
def ref04_Made_l0 (N n : Nat) (b0 : (List V_ref04_Raw)) (b1 : Int) (b2 : (List V_api_Pair)) : Option ((Unit × ((List V_api_Pair) × Unit))) :=
  iter (fun (rec : (((List V_ref04_Raw) × (Unit × Int)) × ((List V_api_Pair) × Unit)) → Option ((Unit × ((List V_api_Pair) × Unit)))) v => ref04_Made_l0_step N (fun b0 b1 b2 => rec ((b0, ((), b1)), (b2, ()))) v.1.1 v.1.2.2 v.2.1) n ((b0, ((), b1)), (b2, ()))
theorem ref04_Made_l0_succ (N n : Nat) (b0 : (List V_ref04_Raw)) (b1 : Int) (b2 : (List V_api_Pair)) : ref04_Made_l0 N (n + 1) b0 b1 b2 = ref04_Made_l0_step N (fun b0  b1  b2  => ref04_Made_l0 N n b0 b1 b2) b0 b1 b2 := rfl
def ref04_Made (N : Nat) (a0 : (List V_ref04_Raw)) : Option ((List V_api_Pair)) :=
  match ref04_Made_l0 N N a0 (0 : Int) ([] : List V_api_Pair) with
  | some r3 => (some r3.2.1)
  | none => none

/-- downspout/downspoutref05.Path -/
def ref05_Path (N : Nat) (a0 : Int) : Option ((List UInt8)) :=
  let x1 := ([([97, 47] : List UInt8), ([98, 47] : List UInt8), ([97, 47, 98, 47] : List UInt8), ([99, 47] : List UInt8), ([100, 47] : List UInt8)] : List (List UInt8))
  gd (inB (Int.tmod a0 (5 : Int)) (List.length x1))
  (let x2 := (rdL x1 (Int.tmod a0 (5 : Int)) ([] : List UInt8))
  some x2)

/-- downspout/downspoutref05.Key -/
def ref05_Key (N : Nat) (a0 : Int) : Option ((List UInt8)) :=
  match ref05_Path N (Int.tmod a0 (4 : Int)) with
  | some r1 => (let x2 := ([([1] : List UInt8), ([2, 0, 0] : List UInt8), ([2, 0, 1] : List UInt8), ([2, 0, 2] : List UInt8), ([3, 120] : List UInt8)] : List (List UInt8))
  let x3 := (Int.tmod (IntKind.wrap .u8 (Int.tdiv a0 (4 : Int))) (5 : Int))
  gd (inB x3 (List.length x2))
  (gd (decide (List.length r1 + List.length (rdL x2 x3 ([] : List UInt8)) < maxB))
  (let x4 := (@HAppend.hAppend (List UInt8) (List UInt8) (List UInt8) _ r1 (rdL x2 x3 ([] : List UInt8)))
  some x4)))
  | none => none

/-- downspout/downspoutref02.Prefix -/
def ref02_Prefix_l0_step (N : Nat) (rec : (List UInt8) → Int → (List UInt8) → (List UInt8) → Option ((((List UInt8) × (Unit × Int)) × (((List UInt8) × (List UInt8)) × Unit)))) (b0 : (List UInt8)) (b1 : Int) (b2 : (List UInt8)) (b3 : (List UInt8)) : Option ((((List UInt8) × (Unit × Int)) × (((List UInt8) × (List UInt8)) × Unit))) :=
  bif (decide ((0 : Int) < b1)) then
  (gd (inB (IntKind.wrap .i64 (b1 - (1 : Int))) (List.length b0))
  (let x1 := (eqi (bt b0 (IntKind.wrap .i64 (b1 - (1 : Int)))) (255 : Int))
  bif x1 then
  (rec b0 (IntKind.wrap .i64 (b1 - (1 : Int))) b2 b3)
  else
  (some ((b0, ((), b1)), ((b2, b3), ())))))
  else
  (some ((b0, ((), b1)), ((b2, b3), ())))
def ref02_Prefix_l0 (N n : Nat) (b0 : (List UInt8)) (b1 : Int) (b2 : (List UInt8)) (b3 : (List UInt8)) : Option ((((List UInt8) × (Unit × Int)) × (((List UInt8) × (List UInt8)) × Unit))) :=
  iter (fun (rec : (((List UInt8) × (Unit × Int)) × (((List UInt8) × (List UInt8)) × Unit)) → Option ((((List UInt8) × (Unit × Int)) × (((List UInt8) × (List UInt8)) × Unit)))) v => ref02_Prefix_l0_step N (fun b0 b1 b2 b3 => rec ((b0, ((), b1)), ((b2, b3), ()))) v.1.1 v.1.2.2 v.2.1.1 v.2.1.2) n ((b0, ((), b1)), ((b2, b3), ()))
theorem ref02_Prefix_l0_succ (N n : Nat) (b0 : (List UInt8)) (b1 : Int) (b2 : (List UInt8)) (b3 : (List UInt8)) : ref02_Prefix_l0 N (n + 1) b0 b1 b2 b3 = ref02_Prefix_l0_step N (fun b0  b1  b2  b3  => ref02_Prefix_l0 N n b0 b1 b2 b3) b0 b1 b2 b3 := rfl
def ref02_Prefix (N : Nat) (a0 : (List UInt8)) : Option (V_api_Span) :=
  match ref02_Prefix_l0 N N a0 (List.length a0 : Int) ([] : List UInt8) ([] : List UInt8) with
  | some r2 => (bif (eqi r2.1.2.2 (0 : Int)) then
  (some (r2.1.1, ([] : List UInt8)))
  else
  (gd (decide (0 ≤ (0 : Int)) && (decide ((0 : Int) ≤ (IntKind.wrap .i64 (r2.1.2.2 - (1 : Int)))) && decide ((IntKind.wrap .i64 (r2.1.2.2 - (1 : Int))) ≤ (List.length r2.1.1 : Int))))
  (let x3 := (cut2 r2.1.1 (0 : Int) (IntKind.wrap .i64 (r2.1.2.2 - (1 : Int))))
  gd (inB (IntKind.wrap .i64 (r2.1.2.2 - (1 : Int))) (List.length r2.1.1))
  (let x4 := (bt r2.1.1 (IntKind.wrap .i64 (r2.1.2.2 - (1 : Int))))
  let x5 := ([(IntKind.wrap .u8 (x4 + (1 : Int)))] : List Int)
  gd (decide (List.length x3 + List.length (bytesU x5) < maxB))
  (let x6 := (@HAppend.hAppend (List UInt8) (List UInt8) (List UInt8) _ x3 (bytesU x5))
  some (r2.1.1, x6))))))
  | none => none

/-- downspout/downspoutref02.Begins -/
def ref02_Begins (N : Nat) (a0 : (List UInt8)) (a1 : (List UInt8)) : Option (Bool) :=
  let x1 := (decide ((List.length a1 : Int) ≤ (List.length a0 : Int)))
  bif x1 then
  (gd (decide (0 ≤ (0 : Int)) && (decide ((0 : Int) ≤ (List.length a1 : Int)) && decide ((List.length a1 : Int) ≤ (List.length a0 : Int))))
  (let x2 := (eqs (cut2 a0 (0 : Int) (List.length a1 : Int)) a1)
  some x2))
  else
  (some false)

/-- downspout/downspoutref05.Value -/
def ref05_Value (N : Nat) (a0 : Int) : Option ((List UInt8)) :=
  let x1 := ([([] : List UInt8), ([120] : List UInt8), ([121, 121] : List UInt8), ([49, 50, 51, 52, 53, 54, 55, 56, 57, 48] : List UInt8), ([0, 255] : List UInt8)] : List (List UInt8))
  gd (inB (Int.tmod a0 (5 : Int)) (List.length x1))
  (let x2 := (rdL x1 (Int.tmod a0 (5 : Int)) ([] : List UInt8))
  some x2)

/-- downspout/downspoutref02.One -/
def ref02_One (N : Nat) (a0 : (List UInt8)) : Option (V_api_Span) :=
  gd (decide (List.length a0 + List.length ([0] : List UInt8) < maxB))
  (let x1 := (@HAppend.hAppend (List UInt8) (List UInt8) (List UInt8) _ a0 ([0] : List UInt8))
  some (a0, x1))

/-- downspout/downspoutref05.Made -/
def ref05_Made_p1 (N : Nat) (b0 : (List UInt8)) (b1 : (List UInt8)) (b2 : (List UInt8)) (b3 : Int) (b4 : Int) (b5 : Int) (b6 : Int) (b7 : Int) (b8 : Int) (b9 : Int) (b10 : (List UInt8)) (b11 : (List UInt8)) (b12 : (List UInt8)) (b13 : (List UInt8)) (b14 : (List UInt8)) (b15 : (List UInt8)) (b16 : Int) (b17 : (List UInt8)) (b18 : (List UInt8)) : Option ((Unit × ((Int × ((List UInt8) × ((List UInt8) × ((List UInt8) × ((List UInt8) × ((List UInt8) × ((List UInt8) × Int))))))) × Unit))) :=
  let x9 := (IntKind.wrap .i64 ((Int.tmod b8 (8 : Int))))
  bif (eqi (Int.tmod b3 (6 : Int)) (0 : Int)) then
  (match ref05_Value N b5 with
  | some r10 => (some ((), (((1 : Int), (b0, (r10, (([] : List UInt8), (([] : List UInt8), (([] : List UInt8), (([] : List UInt8), x9))))))), ())))
  | none => none)
  else
  (bif (eqi (Int.tmod b3 (6 : Int)) (1 : Int)) then
  (some ((), (((2 : Int), (b0, (([] : List UInt8), (([] : List UInt8), (([] : List UInt8), (([] : List UInt8), (([] : List UInt8), (0 : Int)))))))), ())))
  else
  (bif (eqi (Int.tmod b3 (6 : Int)) (2 : Int)) then
  (some ((), (((3 : Int), (([] : List UInt8), (([] : List UInt8), (b17, (b18, (([] : List UInt8), (([] : List UInt8), (0 : Int)))))))), ())))
  else
  (bif (eqi (Int.tmod b3 (6 : Int)) (3 : Int)) then
  (some ((), (((4 : Int), (([] : List UInt8), (([] : List UInt8), (([] : List UInt8), (([] : List UInt8), (b1, (b2, (0 : Int)))))))), ())))
  else
  (bif (eqi (Int.tmod b3 (6 : Int)) (4 : Int)) then
  (some ((), (((5 : Int), (([] : List UInt8), (([] : List UInt8), (([] : List UInt8), (([] : List UInt8), (b1, (b2, (0 : Int)))))))), ())))
  else
  (some ((), (((6 : Int), (([] : List UInt8), (([] : List UInt8), (b17, (b18, (([] : List UInt8), (([] : List UInt8), x9))))))), ())))))))
def ref05_Made_p0 (N : Nat) (b0 : (List UInt8)) (b1 : Int) (b2 : Int) (b3 : Int) (b4 : Int) (b5 : Int) (b6 : Int) (b7 : Int) (b8 : (List UInt8)) (b9 : (List UInt8)) (b10 : (List UInt8)) (b11 : (List UInt8)) (b12 : (List UInt8)) (b13 : (List UInt8)) (b14 : Int) (b15 : (List UInt8)) (b16 : (List UInt8)) : Option ((Unit × ((Int × ((List UInt8) × ((List UInt8) × ((List UInt8) × ((List UInt8) × ((List UInt8) × ((List UInt8) × Int))))))) × Unit))) :=
  match ref05_Path N b2 with
  | some r6 => (match ref05_Path N b4 with
  | some r7 => (match ref02_Begins N r6 r7 with
  | some r8 => (bif r8 then
  (bif (eqs r6 ([100, 47] : List UInt8)) then
  (match ref05_Made_p1 N b0 r6 ([99, 47] : List UInt8) b1 b2 b3 b4 b5 b6 b7 b8 b9 b10 b11 b12 b13 b14 b15 b16 with
  | some r11 => (some ((), ((r11.2.1.1, (r11.2.1.2.1, (r11.2.1.2.2.1, (r11.2.1.2.2.2.1, (r11.2.1.2.2.2.2.1, (r11.2.1.2.2.2.2.2.1, (r11.2.1.2.2.2.2.2.2.1, r11.2.1.2.2.2.2.2.2.2))))))), ())))
  | none => none)
  else
  (match ref05_Made_p1 N b0 r6 ([100, 47] : List UInt8) b1 b2 b3 b4 b5 b6 b7 b8 b9 b10 b11 b12 b13 b14 b15 b16 with
  | some r12 => (some ((), ((r12.2.1.1, (r12.2.1.2.1, (r12.2.1.2.2.1, (r12.2.1.2.2.2.1, (r12.2.1.2.2.2.2.1, (r12.2.1.2.2.2.2.2.1, (r12.2.1.2.2.2.2.2.2.1, r12.2.1.2.2.2.2.2.2.2))))))), ())))
  | none => none))
  else
  (match ref02_Begins N r7 r6 with
  | some r13 => (bif r13 then
  (bif (eqs r6 ([100, 47] : List UInt8)) then
  (match ref05_Made_p1 N b0 r6 ([99, 47] : List UInt8) b1 b2 b3 b4 b5 b6 b7 b8 b9 b10 b11 b12 b13 b14 b15 b16 with
  | some r14 => (some ((), ((r14.2.1.1, (r14.2.1.2.1, (r14.2.1.2.2.1, (r14.2.1.2.2.2.1, (r14.2.1.2.2.2.2.1, (r14.2.1.2.2.2.2.2.1, (r14.2.1.2.2.2.2.2.2.1, r14.2.1.2.2.2.2.2.2.2))))))), ())))
  | none => none)
  else
  (match ref05_Made_p1 N b0 r6 ([100, 47] : List UInt8) b1 b2 b3 b4 b5 b6 b7 b8 b9 b10 b11 b12 b13 b14 b15 b16 with
  | some r15 => (some ((), ((r15.2.1.1, (r15.2.1.2.1, (r15.2.1.2.2.1, (r15.2.1.2.2.2.1, (r15.2.1.2.2.2.2.1, (r15.2.1.2.2.2.2.2.1, (r15.2.1.2.2.2.2.2.2.1, r15.2.1.2.2.2.2.2.2.2))))))), ())))
  | none => none))
  else
  (match ref05_Made_p1 N b0 r6 r7 b1 b2 b3 b4 b5 b6 b7 b8 b9 b10 b11 b12 b13 b14 b15 b16 with
  | some r16 => (some ((), ((r16.2.1.1, (r16.2.1.2.1, (r16.2.1.2.2.1, (r16.2.1.2.2.2.1, (r16.2.1.2.2.2.2.1, (r16.2.1.2.2.2.2.2.1, (r16.2.1.2.2.2.2.2.2.1, r16.2.1.2.2.2.2.2.2.2))))))), ())))
  | none => none))
  | none => none))
  | none => none)
  | none => none)
  | none => none
def ref05_Made (N : Nat) (a0 : V_ref05_Raw) : Option (V_api_Msg) :=
  match ref05_Key N a0.2.1 with
  | some r1 => (match ref05_Key N a0.2.2.2.1 with
  | some r2 => (let x3 := (eqi (Int.tmod a0.2.2.2.2.1 (4 : Int)) (0 : Int))
  bif x3 then
  (match ref05_Path N a0.2.1 with
  | some r4 => (match ref02_Prefix N r4 with
  | some r5 => (match ref05_Made_p0 N r1 a0.1 a0.2.1 a0.2.2.1 a0.2.2.2.1 a0.2.2.2.2.1 a0.2.2.2.2.2 (0 : Int) ([] : List UInt8) ([] : List UInt8) ([] : List UInt8) ([] : List UInt8) ([] : List UInt8) ([] : List UInt8) (0 : Int) r5.1 r5.2 with
  | some r17 => (some (r17.2.1.1, (r17.2.1.2.1, (r17.2.1.2.2.1, ((r17.2.1.2.2.2.1, r17.2.1.2.2.2.2.1), r17.2.1.2.2.2.2.2)))))
  | none => none)
  | none => none)
  | none => none)
  else
  (let x18 := (eqi (Int.tmod a0.2.2.2.2.1 (16 : Int)) (1 : Int))
  bif x18 then
  (match ref05_Made_p0 N r1 a0.1 a0.2.1 a0.2.2.1 a0.2.2.2.1 a0.2.2.2.2.1 a0.2.2.2.2.2 (0 : Int) ([] : List UInt8) ([] : List UInt8) ([] : List UInt8) ([] : List UInt8) ([] : List UInt8) ([] : List UInt8) (0 : Int) r1 ([] : List UInt8) with
  | some r19 => (some (r19.2.1.1, (r19.2.1.2.1, (r19.2.1.2.2.1, ((r19.2.1.2.2.2.1, r19.2.1.2.2.2.2.1), r19.2.1.2.2.2.2.2)))))
  | none => none)
  else
  (let x20 := (eqi (Int.tmod a0.2.2.2.2.1 (16 : Int)) (5 : Int))
  bif x20 then
  (match ref05_Made_p0 N r1 a0.1 a0.2.1 a0.2.2.1 a0.2.2.2.1 a0.2.2.2.2.1 a0.2.2.2.2.2 (0 : Int) ([] : List UInt8) ([] : List UInt8) ([] : List UInt8) ([] : List UInt8) ([] : List UInt8) ([] : List UInt8) (0 : Int) ([] : List UInt8) ([] : List UInt8) with
  | some r21 => (some (r21.2.1.1, (r21.2.1.2.1, (r21.2.1.2.2.1, ((r21.2.1.2.2.2.1, r21.2.1.2.2.2.2.1), r21.2.1.2.2.2.2.2)))))
  | none => none)
  else
  (bif (eqs r1 r2) then
  (match ref02_One N r1 with
  | some r22 => (match ref05_Made_p0 N r1 a0.1 a0.2.1 a0.2.2.1 a0.2.2.2.1 a0.2.2.2.2.1 a0.2.2.2.2.2 (0 : Int) ([] : List UInt8) ([] : List UInt8) ([] : List UInt8) ([] : List UInt8) ([] : List UInt8) ([] : List UInt8) (0 : Int) r22.1 r22.2 with
  | some r23 => (some (r23.2.1.1, (r23.2.1.2.1, (r23.2.1.2.2.1, ((r23.2.1.2.2.2.1, r23.2.1.2.2.2.2.1), r23.2.1.2.2.2.2.2)))))
  | none => none)
  | none => none)
  else
  (match ref05_Made_p0 N r1 a0.1 a0.2.1 a0.2.2.1 a0.2.2.2.1 a0.2.2.2.2.1 a0.2.2.2.2.2 (0 : Int) ([] : List UInt8) ([] : List UInt8) ([] : List UInt8) ([] : List UInt8) ([] : List UInt8) ([] : List UInt8) (0 : Int) (bif lts r1 r2 || eqs r1 r2 then r1 else r2) (bif !(lts r1 r2) then r1 else r2) with
  | some r24 => (some (r24.2.1.1, (r24.2.1.2.1, (r24.2.1.2.2.1, ((r24.2.1.2.2.2.1, r24.2.1.2.2.2.2.1), r24.2.1.2.2.2.2.2)))))
  | none => none)))))
  | none => none)
  | none => none

/-- internal/bytealg.CompareString -/
def bytealg_CompareString (N : Nat) (a0 : List UInt8) (a1 : List UInt8) : Option Int :=
  some (cmpS a0 a1)

/-- strings.Compare -/
def strings_Compare (N : Nat) (a0 : (List UInt8)) (a1 : (List UInt8)) : Option (Int) :=
  match bytealg_CompareString N a0 a1 with
  | some r1 => (some r1)
  | none => none

/-- downspout/table.place$1 -/
def table_place_c1 (N : Nat) (a0 : V_api_Pair) (a1 : (List UInt8)) : Option (Int) :=
  match strings_Compare N a0.1 a1 with
  | some r1 => (some r1)
  | none => none

/-- slices.BinarySearchFunc[[]downspout/api.Pair,downspout/api.Pair,string] -/
def slices_BinarySearchFunc_s_api_Pair_api_Pair_string__table_place_c1_l0_step (N : Nat) (rec : (List V_api_Pair) → (List UInt8) → Int → Int → Int → Option ((((List V_api_Pair) × ((List UInt8) × (Unit × (Int × Int)))) × Unit))) (b0 : (List V_api_Pair)) (b1 : (List UInt8)) (b2 : Int) (b3 : Int) (b4 : Int) : Option ((((List V_api_Pair) × ((List UInt8) × (Unit × (Int × Int)))) × Unit)) :=
  bif (decide (b3 < b4)) then
  (let x1 := (IntKind.wrap .u64 ((IntKind.wrap .i64 (b3 + b4))))
  gd (decide (0 ≤ (1 : Int)))
  (let x2 := (Int.fdiv x1 (2 ^ min (Int.toNat (1 : Int)) (IntKind.bits .u64)))
  gd (inB (IntKind.wrap .i64 (x2)) (List.length b0))
  (match table_place_c1 N (rdL b0 (IntKind.wrap .i64 (x2)) D_api_Pair) b1 with
  | some r3 => (bif (decide (r3 < (0 : Int))) then
  (let x4 := (IntKind.wrap .i64 ((IntKind.wrap .i64 (x2)) + (1 : Int)))
  rec b0 b1 b2 x4 b4)
  else
  (rec b0 b1 b2 b3 (IntKind.wrap .i64 (x2))))
  | none => none)))
  else
  (some ((b0, (b1, ((), (b2, b3)))), ()))
def slices_BinarySearchFunc_s_api_Pair_api_Pair_string__table_place_c1_l0 (N n : Nat) (b0 : (List V_api_Pair)) (b1 : (List UInt8)) (b2 : Int) (b3 : Int) (b4 : Int) : Option ((((List V_api_Pair) × ((List UInt8) × (Unit × (Int × Int)))) × Unit)) :=
  iter (fun (rec : (((List V_api_Pair) × ((List UInt8) × (Unit × (Int × (Int × Int))))) × Unit) → Option ((((List V_api_Pair) × ((List UInt8) × (Unit × (Int × Int)))) × Unit))) v => slices_BinarySearchFunc_s_api_Pair_api_Pair_string__table_place_c1_l0_step N (fun b0 b1 b2 b3 b4 => rec ((b0, (b1, ((), (b2, (b3, b4))))), ())) v.1.1 v.1.2.1 v.1.2.2.2.1 v.1.2.2.2.2.1 v.1.2.2.2.2.2) n ((b0, (b1, ((), (b2, (b3, b4))))), ())
theorem slices_BinarySearchFunc_s_api_Pair_api_Pair_string__table_place_c1_l0_succ (N n : Nat) (b0 : (List V_api_Pair)) (b1 : (List UInt8)) (b2 : Int) (b3 : Int) (b4 : Int) : slices_BinarySearchFunc_s_api_Pair_api_Pair_string__table_place_c1_l0 N (n + 1) b0 b1 b2 b3 b4 = slices_BinarySearchFunc_s_api_Pair_api_Pair_string__table_place_c1_l0_step N (fun b0  b1  b2  b3  b4  => slices_BinarySearchFunc_s_api_Pair_api_Pair_string__table_place_c1_l0 N n b0 b1 b2 b3 b4) b0 b1 b2 b3 b4 := rfl
def slices_BinarySearchFunc_s_api_Pair_api_Pair_string__table_place_c1 (N : Nat) (a0 : (List V_api_Pair)) (a1 : (List UInt8)) : Option ((Int × Bool)) :=
  match slices_BinarySearchFunc_s_api_Pair_api_Pair_string__table_place_c1_l0 N N a0 a1 (List.length a0 : Int) (0 : Int) (List.length a0 : Int) with
  | some r5 => (bif (decide (r5.1.2.2.2.2 < r5.1.2.2.2.1)) then
  (gd (inB r5.1.2.2.2.2 (List.length r5.1.1))
  (match table_place_c1 N (rdL r5.1.1 r5.1.2.2.2.2 D_api_Pair) r5.1.2.1 with
  | some r6 => (some (r5.1.2.2.2.2, (eqi r6 (0 : Int))))
  | none => none))
  else
  (some (r5.1.2.2.2.2, false)))
  | none => none

/-- downspout/table.place -/
def table_place (N : Nat) (a0 : (List V_api_Pair)) (a1 : (List UInt8)) : Option ((Int × Bool)) :=
  match slices_BinarySearchFunc_s_api_Pair_api_Pair_string__table_place_c1 N a0 a1 with
  | some r1 => (some (r1.1, r1.2))
  | none => none

/-- downspout/table.bounds -/
def table_bounds (N : Nat) (a0 : (List V_api_Pair)) (a1 : V_api_Span) : Option ((Int × Int)) :=
  match span_Empty N a1 with
  | some r1 => (bif r1 then
  (some ((0 : Int), (0 : Int)))
  else
  (match table_place N a0 a1.1 with
  | some r2 => (bif (!(eqs a1.2 ([] : List UInt8))) then
  (match table_place N a0 a1.2 with
  | some r3 => (some (r2.1, r3.1))
  | none => none)
  else
  (some (r2.1, (List.length a0 : Int))))
  | none => none))
  | none => none

/-- downspout/table.Range -/
def table_Range (N : Nat) (a0 : (List V_api_Pair)) (a1 : V_api_Span) : Option ((List V_api_Pair)) :=
  match table_bounds N a0 a1 with
  | some r1 => (gd ((decide (0 ≤ r1.1) && (decide (r1.1 ≤ r1.2) && decide (r1.2 ≤ (List.length a0 : Int)))) && (eqi r1.2 r1.2 && true))
  (some (cut2 a0 r1.1 r1.2)))
  | none => none

/-- downspout/downspoutref05.in -/
def ref05_in (N : Nat) (a0 : Int) (a1 : Int) (a2 : Int) : Option (Bool) :=
  bif (decide (a1 ≤ a0)) then
  (some (decide (a0 ≤ a2)))
  else
  (some false)

/-- downspout/downspoutref02.Empty -/
def ref02_Empty (N : Nat) (a0 : V_api_Span) : Option (Bool) :=
  bif (!(eqs a0.2 ([] : List UInt8))) then
  (some (lts a0.2 a0.1 || eqs a0.2 a0.1))
  else
  (some false)

/-- downspout/downspoutref05.span -/
def ref05_span (N : Nat) (a0 : V_api_Span) : Option (Bool) :=
  match ref02_Empty N a0 with
  | some r1 => (bif (!r1) then
  (let x2 := (decide ((List.length a0.1 : Int) ≤ (65535 : Int)))
  bif x2 then
  (let x3 := (decide ((List.length a0.2 : Int) ≤ (65535 : Int)))
  some x3)
  else
  (some false))
  else
  (some false))
  | none => none

/-- downspout/downspoutref05.Valid -/
def ref05_Valid_p0 (N : Nat) (b0 : Bool) (b1 : Int) (b2 : Bool) (b3 : Int) (b4 : (List UInt8)) (b5 : (List UInt8)) (b6 : (List UInt8)) (b7 : (List UInt8)) (b8 : (List UInt8)) (b9 : (List UInt8)) (b10 : Int) : Option ((Bool × Unit) ⊕ (Unit × Unit)) :=
  bif b2 then
  (match ref02_Begins N b8 b9 with
  | some r8 => (bif (!r8) then
  (match ref02_Begins N b9 b8 with
  | some r9 => (bif (!r9) then
  (match ref05_in N (List.length b8 : Int) (1 : Int) (200 : Int) with
  | some r10 => (bif r10 then
  (match ref05_in N (List.length b9 : Int) (1 : Int) (200 : Int) with
  | some r11 => (bif r11 then
  (let x12 := (eqi b3 b3 && (eqs b4 ([] : List UInt8) && (eqs b5 ([] : List UInt8) && (eqs b6 ([] : List UInt8) && (eqs b7 ([] : List UInt8) && (eqs b8 b8 && (eqs b9 b9 && (eqi b10 (0 : Int) && true))))))))
  some (.inl (x12, ())))
  else
  (some (.inl (false, ()))))
  | none => none)
  else
  (some (.inl (false, ()))))
  | none => none)
  else
  (some (.inl (false, ()))))
  | none => none)
  else
  (some (.inl (false, ()))))
  | none => none)
  else
  (bif (eqi b1 (6 : Int)) then
  (match ref05_span N (b6, b7) with
  | some r13 => (bif r13 then
  (bif b0 then
  (let x14 := (eqi b3 b3 && (eqs b4 ([] : List UInt8) && (eqs b5 ([] : List UInt8) && (eqs b6 b6 && (eqs b7 b7 && (eqs b8 ([] : List UInt8) && (eqs b9 ([] : List UInt8) && (eqi b10 b10 && true))))))))
  some (.inl (x14, ())))
  else
  (some (.inl (false, ()))))
  else
  (some (.inl (false, ()))))
  | none => none)
  else
  (some (.inr ((), ()))))
def ref05_Valid (N : Nat) (a0 : V_api_Msg) : Option (Bool) :=
  match ref05_in N (List.length a0.2.1 : Int) (1 : Int) (65535 : Int) with
  | some r1 => (match ref05_in N a0.2.2.2.2.2.2 (0 : Int) (1000000000 : Int) with
  | some r2 => (bif (eqi a0.1 (1 : Int)) then
  (bif r1 then
  (let x3 := (decide ((List.length a0.2.2.1 : Int) ≤ (64 : Int)))
  bif x3 then
  (bif r2 then
  (let x4 := (eqi a0.1 a0.1 && (eqs a0.2.1 a0.2.1 && (eqs a0.2.2.1 a0.2.2.1 && (eqs a0.2.2.2.1.1 ([] : List UInt8) && (eqs a0.2.2.2.1.2 ([] : List UInt8) && (eqs a0.2.2.2.2.1 ([] : List UInt8) && (eqs a0.2.2.2.2.2.1 ([] : List UInt8) && (eqi a0.2.2.2.2.2.2 a0.2.2.2.2.2.2 && true))))))))
  some x4)
  else
  (some false))
  else
  (some false))
  else
  (some false))
  else
  (bif (eqi a0.1 (2 : Int)) then
  (bif r1 then
  (let x5 := (eqi a0.1 a0.1 && (eqs a0.2.1 a0.2.1 && (eqs a0.2.2.1 ([] : List UInt8) && (eqs a0.2.2.2.1.1 ([] : List UInt8) && (eqs a0.2.2.2.1.2 ([] : List UInt8) && (eqs a0.2.2.2.2.1 ([] : List UInt8) && (eqs a0.2.2.2.2.2.1 ([] : List UInt8) && (eqi a0.2.2.2.2.2.2 (0 : Int) && true))))))))
  some x5)
  else
  (some false))
  else
  (bif (eqi a0.1 (3 : Int)) then
  (match ref05_span N a0.2.2.2.1 with
  | some r6 => (bif r6 then
  (let x7 := (eqi a0.1 a0.1 && (eqs a0.2.1 ([] : List UInt8) && (eqs a0.2.2.1 ([] : List UInt8) && (eqs a0.2.2.2.1.1 a0.2.2.2.1.1 && (eqs a0.2.2.2.1.2 a0.2.2.2.1.2 && (eqs a0.2.2.2.2.1 ([] : List UInt8) && (eqs a0.2.2.2.2.2.1 ([] : List UInt8) && (eqi a0.2.2.2.2.2.2 (0 : Int) && true))))))))
  some x7)
  else
  (some false))
  | none => none)
  else
  (bif (eqi a0.1 (4 : Int)) then
  (match ref05_Valid_p0 N r2 a0.1 true a0.1 a0.2.1 a0.2.2.1 a0.2.2.2.1.1 a0.2.2.2.1.2 a0.2.2.2.2.1 a0.2.2.2.2.2.1 a0.2.2.2.2.2.2 with
  | some r15 => (match r15 with
  | .inl r16 => (some r16.1)
  | .inr r17 => (some false))
  | none => none)
  else
  (match ref05_Valid_p0 N r2 a0.1 (eqi a0.1 (5 : Int)) a0.1 a0.2.1 a0.2.2.1 a0.2.2.2.1.1 a0.2.2.2.1.2 a0.2.2.2.2.1 a0.2.2.2.2.2.1 a0.2.2.2.2.2.2 with
  | some r18 => (match r18 with
  | .inl r19 => (some r19.1)
  | .inr r20 => (some false))
  | none => none)))))
  | none => none)
  | none => none

/-- slices.Clone[[]downspout/api.Pair,downspout/api.Pair] -/
def slices_Clone_s_api_Pair_api_Pair (N : Nat) (a0 : List V_api_Pair) : Option (List V_api_Pair) :=
  gd (fits (List.length a0) 40) (some a0)

/-- slices.Insert[[]downspout/api.Pair,downspout/api.Pair] -/
def slices_Insert_s_api_Pair_api_Pair_m (N : Nat) (a0 : Int) (a1 : List V_api_Pair) (a2 : List V_api_Pair) : Option (Unit × ((List V_api_Pair) × Unit)) :=
  gd (decide (0 ≤ a0) && (decide (a0 ≤ (List.length a1 : Int)) && (Nat.blt 0 (List.length a2) && fits (List.length a1 + List.length a2) 40))) (some ((), (insL a1 a0 a2, ())))

/-- downspout/table.Put -/
def table_Put (N : Nat) (a0 : (List V_api_Pair)) (a1 : V_api_Pair) : Option ((List V_api_Pair)) :=
  match table_place N a0 a1.1 with
  | some r1 => (match slices_Clone_s_api_Pair_api_Pair N a0 with
  | some r2 => (bif r1.2 then
  (gd (inB r1.1 (List.length r2))
  (some (setL r2 r1.1 a1)))
  else
  (match slices_Insert_s_api_Pair_api_Pair_m N r1.1 r2 ([a1] : List V_api_Pair) with
  | some r3 => (some r3.2.1)
  | none => none))
  | none => none)
  | none => none

/-- (downspout/msg.put).apply -/
def msg_put_apply (N : Nat) (a0 : V_api_Msg) (a1 : (List V_api_Pair)) : Option ((List V_api_Pair)) :=
  match table_Put N a1 (a0.2.1, (a0.2.2.1, a0.2.2.2.2.2.2)) with
  | some r1 => (some r1)
  | none => none

/-- slices.Grow[[]downspout/api.Pair,downspout/api.Pair] of the nil slice -/
def slices_Grow_s_api_Pair_api_Pair_nil (N : Nat) (a0 : Int) : Option (List V_api_Pair) :=
  gd (decide (0 ≤ a0) && fits (Int.toNat a0) 40) (some [])

/-- slices.Concat[[]downspout/api.Pair,downspout/api.Pair] -/
def slices_Concat_s_api_Pair_api_Pair_l1_step (N : Nat) (rec : (List (List V_api_Pair)) → Int → Int → (List V_api_Pair) → Option ((Unit × ((List V_api_Pair) × Unit)))) (b0 : (List (List V_api_Pair))) (b1 : Int) (b2 : Int) (b3 : (List V_api_Pair)) : Option ((Unit × ((List V_api_Pair) × Unit))) :=
  bif (decide (b2 < b1)) then
  (gd (inB b2 (List.length b0))
  (gd (fits (List.length b3 + List.length (rdL b0 b2 ([] : List V_api_Pair))) 40)
  (let x5 := (@HAppend.hAppend (List V_api_Pair) (List V_api_Pair) (List V_api_Pair) _ b3 (rdL b0 b2 ([] : List V_api_Pair)))
  rec b0 b1 (IntKind.wrap .i64 (b2 + (1 : Int))) x5)))
  else
  (some ((), (b3, ())))
def slices_Concat_s_api_Pair_api_Pair_l1 (N n : Nat) (b0 : (List (List V_api_Pair))) (b1 : Int) (b2 : Int) (b3 : (List V_api_Pair)) : Option ((Unit × ((List V_api_Pair) × Unit))) :=
  iter (fun (rec : ((Unit × ((List (List V_api_Pair)) × (Int × Int))) × ((List V_api_Pair) × Unit)) → Option ((Unit × ((List V_api_Pair) × Unit)))) v => slices_Concat_s_api_Pair_api_Pair_l1_step N (fun b0 b1 b2 b3 => rec (((), (b0, (b1, b2))), (b3, ()))) v.1.2.1 v.1.2.2.1 v.1.2.2.2 v.2.1) n (((), (b0, (b1, b2))), (b3, ()))
theorem slices_Concat_s_api_Pair_api_Pair_l1_succ (N n : Nat) (b0 : (List (List V_api_Pair))) (b1 : Int) (b2 : Int) (b3 : (List V_api_Pair)) : slices_Concat_s_api_Pair_api_Pair_l1 N (n + 1) b0 b1 b2 b3 = slices_Concat_s_api_Pair_api_Pair_l1_step N (fun b0  b1  b2  b3  => slices_Concat_s_api_Pair_api_Pair_l1 N n b0 b1 b2 b3) b0 b1 b2 b3 := rfl
def slices_Concat_s_api_Pair_api_Pair_l0_step (N : Nat) (rec : (List (List V_api_Pair)) → Int → (List (List V_api_Pair)) → Int → Int → Option ((((List (List V_api_Pair)) × Int) × Unit))) (b0 : (List (List V_api_Pair))) (b1 : Int) (b2 : (List (List V_api_Pair))) (b3 : Int) (b4 : Int) : Option ((((List (List V_api_Pair)) × Int) × Unit)) :=
  bif (decide (b4 < b3)) then
  (gd (inB b4 (List.length b2))
  (let x1 := (List.length (rdL b2 b4 ([] : List V_api_Pair)) : Int)
  let x2 := (decide ((IntKind.wrap .i64 (b1 + x1)) < (0 : Int)))
  bif x2 then
  (none)
  else
  (rec b0 (IntKind.wrap .i64 (b1 + x1)) b2 b3 (IntKind.wrap .i64 (b4 + (1 : Int))))))
  else
  (some ((b0, b1), ()))
def slices_Concat_s_api_Pair_api_Pair_l0 (N n : Nat) (b0 : (List (List V_api_Pair))) (b1 : Int) (b2 : (List (List V_api_Pair))) (b3 : Int) (b4 : Int) : Option ((((List (List V_api_Pair)) × Int) × Unit)) :=
  iter (fun (rec : (((List (List V_api_Pair)) × (Int × ((List (List V_api_Pair)) × (Int × Int)))) × Unit) → Option ((((List (List V_api_Pair)) × Int) × Unit))) v => slices_Concat_s_api_Pair_api_Pair_l0_step N (fun b0 b1 b2 b3 b4 => rec ((b0, (b1, (b2, (b3, b4)))), ())) v.1.1 v.1.2.1 v.1.2.2.1 v.1.2.2.2.1 v.1.2.2.2.2) n ((b0, (b1, (b2, (b3, b4)))), ())
theorem slices_Concat_s_api_Pair_api_Pair_l0_succ (N n : Nat) (b0 : (List (List V_api_Pair))) (b1 : Int) (b2 : (List (List V_api_Pair))) (b3 : Int) (b4 : Int) : slices_Concat_s_api_Pair_api_Pair_l0 N (n + 1) b0 b1 b2 b3 b4 = slices_Concat_s_api_Pair_api_Pair_l0_step N (fun b0  b1  b2  b3  b4  => slices_Concat_s_api_Pair_api_Pair_l0 N n b0 b1 b2 b3 b4) b0 b1 b2 b3 b4 := rfl
def slices_Concat_s_api_Pair_api_Pair (N : Nat) (a0 : (List (List V_api_Pair))) : Option ((List V_api_Pair)) :=
  match slices_Concat_s_api_Pair_api_Pair_l0 N N a0 (0 : Int) a0 (List.length a0 : Int) (0 : Int) with
  | some r3 => (match slices_Grow_s_api_Pair_api_Pair_nil N r3.1.2 with
  | some r4 => (match slices_Concat_s_api_Pair_api_Pair_l1 N N r3.1.1 (List.length r3.1.1 : Int) (0 : Int) r4 with
  | some r6 => (some r6.2.1)
  | none => none)
  | none => none)
  | none => none

/-- downspout/table.Drop -/
def table_Drop (N : Nat) (a0 : (List V_api_Pair)) (a1 : V_api_Span) : Option ((List V_api_Pair)) :=
  match table_bounds N a0 a1 with
  | some r1 => (gd (decide (0 ≤ (0 : Int)) && (decide ((0 : Int) ≤ r1.1) && decide (r1.1 ≤ (List.length a0 : Int))))
  (gd (decide (0 ≤ r1.2) && (decide (r1.2 ≤ (List.length a0 : Int)) && decide ((List.length a0 : Int) ≤ (List.length a0 : Int))))
  (let x2 := ([(cut2 a0 (0 : Int) r1.1), (cut2 a0 r1.2 (List.length a0 : Int))] : List (List V_api_Pair))
  match slices_Concat_s_api_Pair_api_Pair N x2 with
  | some r3 => (some r3)
  | none => none)))
  | none => none

/-- downspout/table.Del -/
def table_Del (N : Nat) (a0 : (List V_api_Pair)) (a1 : (List UInt8)) : Option ((List V_api_Pair)) :=
  match span_One N a1 with
  | some r1 => (match table_Drop N a0 r1 with
  | some r2 => (some r2)
  | none => none)
  | none => none

/-- (downspout/msg.del).apply -/
def msg_del_apply (N : Nat) (a0 : V_api_Msg) (a1 : (List V_api_Pair)) : Option ((List V_api_Pair)) :=
  match table_Del N a1 a0.2.1 with
  | some r1 => (some r1)
  | none => none

/-- (downspout/msg.drop).apply -/
def msg_drop_apply (N : Nat) (a0 : V_api_Msg) (a1 : (List V_api_Pair)) : Option ((List V_api_Pair)) :=
  match table_Drop N a1 a0.2.2.2.1 with
  | some r1 => (some r1)
  | none => none

/-- downspout/msg.moved -/
def msg_moved_l0_step (N : Nat) (rec : (List UInt8) → (List UInt8) → Int → Int → (List V_api_Pair) → Option ((Unit × ((List V_api_Pair) × Unit)))) (b0 : (List UInt8)) (b1 : (List UInt8)) (b2 : Int) (b3 : Int) (b4 : (List V_api_Pair)) : Option ((Unit × ((List V_api_Pair) × Unit))) :=
  bif (decide (b3 < b2)) then
  (gd (inB b3 (List.length b4))
  (match span_Moved N ((rdL b4 b3 D_api_Pair).1) b0 b1 with
  | some r4 => (gd (inB b3 (List.length b4))
  (let x5 := (setL b4 b3 (r4.1, ((rdL b4 b3 D_api_Pair).2)))
  rec b0 b1 b2 (IntKind.wrap .i64 (b3 + (1 : Int))) x5))
  | none => none))
  else
  (some ((), (b4, ())))
def msg_moved_l0 (N n : Nat) (b0 : (List UInt8)) (b1 : (List UInt8)) (b2 : Int) (b3 : Int) (b4 : (List V_api_Pair)) : Option ((Unit × ((List V_api_Pair) × Unit))) :=
  iter (fun (rec : (((List UInt8) × ((List UInt8) × (Unit × (Int × Int)))) × ((List V_api_Pair) × Unit)) → Option ((Unit × ((List V_api_Pair) × Unit)))) v => msg_moved_l0_step N (fun b0 b1 b2 b3 b4 => rec ((b0, (b1, ((), (b2, b3)))), (b4, ()))) v.1.1 v.1.2.1 v.1.2.2.2.1 v.1.2.2.2.2 v.2.1) n ((b0, (b1, ((), (b2, b3)))), (b4, ()))
theorem msg_moved_l0_succ (N n : Nat) (b0 : (List UInt8)) (b1 : (List UInt8)) (b2 : Int) (b3 : Int) (b4 : (List V_api_Pair)) : msg_moved_l0 N (n + 1) b0 b1 b2 b3 b4 = msg_moved_l0_step N (fun b0  b1  b2  b3  b4  => msg_moved_l0 N n b0 b1 b2 b3 b4) b0 b1 b2 b3 b4 := rfl
def msg_moved (N : Nat) (a0 : (List V_api_Pair)) (a1 : (List UInt8)) (a2 : (List UInt8)) : Option ((List V_api_Pair)) :=
  match span_Prefix N a1 with
  | some r1 => (match table_Range N a0 r1 with
  | some r2 => (match slices_Clone_s_api_Pair_api_Pair N r2 with
  | some r3 => (match msg_moved_l0 N N a1 a2 (List.length r3 : Int) (0 : Int) r3 with
  | some r6 => (some r6.2.1)
  | none => none)
  | none => none)
  | none => none)
  | none => none

/-- downspout/table.Union -/
def table_Union_l0_step (N : Nat) (rec : (List V_api_Pair) → (List V_api_Pair) → (List V_api_Pair) → Option ((((List V_api_Pair) × ((List V_api_Pair) × Unit)) × ((List V_api_Pair) × Unit)))) (b0 : (List V_api_Pair)) (b1 : (List V_api_Pair)) (b2 : (List V_api_Pair)) : Option ((((List V_api_Pair) × ((List V_api_Pair) × Unit)) × ((List V_api_Pair) × Unit))) :=
  bif (eqi (List.length b0 : Int) (0 : Int)) then
  (some ((b0, (b1, ())), (b2, ())))
  else
  (bif (eqi (List.length b1 : Int) (0 : Int)) then
  (some ((b0, (b1, ())), (b2, ())))
  else
  (gd (inB (0 : Int) (List.length b0))
  (gd (inB (0 : Int) (List.length b1))
  (let x3 := (lts ((rdL b0 (0 : Int) D_api_Pair).1) ((rdL b1 (0 : Int) D_api_Pair).1))
  bif x3 then
  (gd (inB (0 : Int) (List.length b0))
  (let x4 := ([(rdL b0 (0 : Int) D_api_Pair)] : List V_api_Pair)
  gd (fits (List.length b2 + List.length x4) 40)
  (let x5 := (@HAppend.hAppend (List V_api_Pair) (List V_api_Pair) (List V_api_Pair) _ b2 x4)
  gd (decide (0 ≤ (1 : Int)) && (decide ((1 : Int) ≤ (List.length b0 : Int)) && decide ((List.length b0 : Int) ≤ (List.length b0 : Int))))
  (rec (cut2 b0 (1 : Int) (List.length b0 : Int)) b1 x5))))
  else
  (gd (inB (0 : Int) (List.length b0))
  (gd (inB (0 : Int) (List.length b1))
  (let x6 := (eqs ((rdL b0 (0 : Int) D_api_Pair).1) ((rdL b1 (0 : Int) D_api_Pair).1))
  bif x6 then
  (gd (decide (0 ≤ (1 : Int)) && (decide ((1 : Int) ≤ (List.length b0 : Int)) && decide ((List.length b0 : Int) ≤ (List.length b0 : Int))))
  (gd (inB (0 : Int) (List.length b1))
  (let x7 := ([(rdL b1 (0 : Int) D_api_Pair)] : List V_api_Pair)
  gd (fits (List.length b2 + List.length x7) 40)
  (let x8 := (@HAppend.hAppend (List V_api_Pair) (List V_api_Pair) (List V_api_Pair) _ b2 x7)
  gd (decide (0 ≤ (1 : Int)) && (decide ((1 : Int) ≤ (List.length b1 : Int)) && decide ((List.length b1 : Int) ≤ (List.length b1 : Int))))
  (rec (cut2 b0 (1 : Int) (List.length b0 : Int)) (cut2 b1 (1 : Int) (List.length b1 : Int)) x8)))))
  else
  (gd (inB (0 : Int) (List.length b1))
  (let x9 := ([(rdL b1 (0 : Int) D_api_Pair)] : List V_api_Pair)
  gd (fits (List.length b2 + List.length x9) 40)
  (let x10 := (@HAppend.hAppend (List V_api_Pair) (List V_api_Pair) (List V_api_Pair) _ b2 x9)
  gd (decide (0 ≤ (1 : Int)) && (decide ((1 : Int) ≤ (List.length b1 : Int)) && decide ((List.length b1 : Int) ≤ (List.length b1 : Int))))
  (rec b0 (cut2 b1 (1 : Int) (List.length b1 : Int)) x10)))))))))))
def table_Union_l0 (N n : Nat) (b0 : (List V_api_Pair)) (b1 : (List V_api_Pair)) (b2 : (List V_api_Pair)) : Option ((((List V_api_Pair) × ((List V_api_Pair) × Unit)) × ((List V_api_Pair) × Unit))) :=
  iter (fun (rec : (((List V_api_Pair) × ((List V_api_Pair) × Unit)) × ((List V_api_Pair) × Unit)) → Option ((((List V_api_Pair) × ((List V_api_Pair) × Unit)) × ((List V_api_Pair) × Unit)))) v => table_Union_l0_step N (fun b0 b1 b2 => rec ((b0, (b1, ())), (b2, ()))) v.1.1 v.1.2.1 v.2.1) n ((b0, (b1, ())), (b2, ()))
theorem table_Union_l0_succ (N n : Nat) (b0 : (List V_api_Pair)) (b1 : (List V_api_Pair)) (b2 : (List V_api_Pair)) : table_Union_l0 N (n + 1) b0 b1 b2 = table_Union_l0_step N (fun b0  b1  b2  => table_Union_l0 N n b0 b1 b2) b0 b1 b2 := rfl
def table_Union (N : Nat) (a0 : (List V_api_Pair)) (a1 : (List V_api_Pair)) : Option ((List V_api_Pair)) :=
  let x1 := (IntKind.wrap .i64 ((List.length a0 : Int) + (List.length a1 : Int)))
  gd ((decide (0 ≤ (0 : Int)) && decide ((0 : Int) ≤ x1)) && (decide (x1 < maxB) && decide (x1 * 40 < maxB)))
  (let x2 := (List.replicate (Int.toNat (0 : Int)) D_api_Pair)
  match table_Union_l0 N N a0 a1 x2 with
  | some r11 => (gd (fits (List.length r11.2.1 + List.length r11.1.1) 40)
  (let x12 := (@HAppend.hAppend (List V_api_Pair) (List V_api_Pair) (List V_api_Pair) _ r11.2.1 r11.1.1)
  gd (fits (List.length x12 + List.length r11.1.2.1) 40)
  (let x13 := (@HAppend.hAppend (List V_api_Pair) (List V_api_Pair) (List V_api_Pair) _ x12 r11.1.2.1)
  some x13)))
  | none => none)

/-- (downspout/msg.clone).apply -/
def msg_clone_apply (N : Nat) (a0 : V_api_Msg) (a1 : (List V_api_Pair)) : Option ((List V_api_Pair)) :=
  match span_Prefix N a0.2.2.2.2.2.1 with
  | some r1 => (match table_Drop N a1 r1 with
  | some r2 => (match msg_moved N a1 a0.2.2.2.2.1 a0.2.2.2.2.2.1 with
  | some r3 => (match table_Union N r2 r3 with
  | some r4 => (some r4)
  | none => none)
  | none => none)
  | none => none)
  | none => none

/-- (downspout/msg.move).apply -/
def msg_move_apply (N : Nat) (a0 : V_api_Msg) (a1 : (List V_api_Pair)) : Option ((List V_api_Pair)) :=
  match msg_clone_apply N a0 a1 with
  | some r1 => (match span_Prefix N a0.2.2.2.2.1 with
  | some r2 => (match table_Drop N r1 r2 with
  | some r3 => (some r3)
  | none => none)
  | none => none)
  | none => none

/-- (downspout/msg.stamp).apply -/
def msg_stamp_apply_l0_step (N : Nat) (rec : Int → Int → Int → (List UInt8) → (List UInt8) → (List UInt8) → (List UInt8) → (List UInt8) → (List UInt8) → Int → (List V_api_Pair) → Option ((Unit × ((List V_api_Pair) × Unit)))) (b0 : Int) (b1 : Int) (b2 : Int) (b3 : (List UInt8)) (b4 : (List UInt8)) (b5 : (List UInt8)) (b6 : (List UInt8)) (b7 : (List UInt8)) (b8 : (List UInt8)) (b9 : Int) (b10 : (List V_api_Pair)) : Option ((Unit × ((List V_api_Pair) × Unit))) :=
  bif (decide (b1 < b0)) then
  (gd (inB b1 (List.length b10))
  (match span_Has N (b5, b6) ((rdL b10 b1 D_api_Pair).1) with
  | some r2 => (bif r2 then
  (gd (inB b1 (List.length b10))
  (let x3 := (setL b10 b1 ((rdL b10 b1 D_api_Pair).1, (((rdL b10 b1 D_api_Pair).2).1, b9)))
  rec b0 (IntKind.wrap .i64 (b1 + (1 : Int))) b2 b3 b4 b5 b6 b7 b8 b9 x3))
  else
  (rec b0 (IntKind.wrap .i64 (b1 + (1 : Int))) b2 b3 b4 b5 b6 b7 b8 b9 b10))
  | none => none))
  else
  (some ((), (b10, ())))
def msg_stamp_apply_l0 (N n : Nat) (b0 : Int) (b1 : Int) (b2 : Int) (b3 : (List UInt8)) (b4 : (List UInt8)) (b5 : (List UInt8)) (b6 : (List UInt8)) (b7 : (List UInt8)) (b8 : (List UInt8)) (b9 : Int) (b10 : (List V_api_Pair)) : Option ((Unit × ((List V_api_Pair) × Unit))) :=
  iter (fun (rec : ((Unit × (Unit × (Int × Int))) × ((Int × ((List UInt8) × ((List UInt8) × ((List UInt8) × ((List UInt8) × ((List UInt8) × ((List UInt8) × Int))))))) × ((List V_api_Pair) × Unit))) → Option ((Unit × ((List V_api_Pair) × Unit)))) v => msg_stamp_apply_l0_step N (fun b0 b1 b2 b3 b4 b5 b6 b7 b8 b9 b10 => rec (((), ((), (b0, b1))), ((b2, (b3, (b4, (b5, (b6, (b7, (b8, b9))))))), (b10, ())))) v.1.2.2.1 v.1.2.2.2 v.2.1.1 v.2.1.2.1 v.2.1.2.2.1 v.2.1.2.2.2.1 v.2.1.2.2.2.2.1 v.2.1.2.2.2.2.2.1 v.2.1.2.2.2.2.2.2.1 v.2.1.2.2.2.2.2.2.2 v.2.2.1) n (((), ((), (b0, b1))), ((b2, (b3, (b4, (b5, (b6, (b7, (b8, b9))))))), (b10, ())))
theorem msg_stamp_apply_l0_succ (N n : Nat) (b0 : Int) (b1 : Int) (b2 : Int) (b3 : (List UInt8)) (b4 : (List UInt8)) (b5 : (List UInt8)) (b6 : (List UInt8)) (b7 : (List UInt8)) (b8 : (List UInt8)) (b9 : Int) (b10 : (List V_api_Pair)) : msg_stamp_apply_l0 N (n + 1) b0 b1 b2 b3 b4 b5 b6 b7 b8 b9 b10 = msg_stamp_apply_l0_step N (fun b0  b1  b2  b3  b4  b5  b6  b7  b8  b9  b10  => msg_stamp_apply_l0 N n b0 b1 b2 b3 b4 b5 b6 b7 b8 b9 b10) b0 b1 b2 b3 b4 b5 b6 b7 b8 b9 b10 := rfl
def msg_stamp_apply (N : Nat) (a0 : V_api_Msg) (a1 : (List V_api_Pair)) : Option ((List V_api_Pair)) :=
  match slices_Clone_s_api_Pair_api_Pair N a1 with
  | some r1 => (match msg_stamp_apply_l0 N N (List.length r1 : Int) (0 : Int) a0.1 a0.2.1 a0.2.2.1 a0.2.2.2.1.1 a0.2.2.2.1.2 a0.2.2.2.2.1 a0.2.2.2.2.2.1 a0.2.2.2.2.2.2 r1 with
  | some r4 => (some r4.2.1)
  | none => none)
  | none => none

/-- downspout/msg.Apply -/
def msg_Apply (N : Nat) (a0 : (List V_api_Pair)) (a1 : V_api_Msg) : Option ((List V_api_Pair)) :=
  match msg_of N a1 with
  | some r1 => (match r1 with
  | .inl r2 => (match msg_put_apply N r2 a0 with
  | some r4 => (some r4)
  | none => none)
  | .inr r3 => (match r3 with
  | .inl r5 => (match msg_del_apply N r5 a0 with
  | some r7 => (some r7)
  | none => none)
  | .inr r6 => (match r6 with
  | .inl r8 => (match msg_drop_apply N r8 a0 with
  | some r10 => (some r10)
  | none => none)
  | .inr r9 => (match r9 with
  | .inl r11 => (match msg_move_apply N r11 a0 with
  | some r13 => (some r13)
  | none => none)
  | .inr r12 => (match r12 with
  | .inl r14 => (match msg_clone_apply N r14 a0 with
  | some r16 => (some r16)
  | none => none)
  | .inr r15 => (match r15 with
  | .inl r17 => (match msg_stamp_apply N r17 a0 with
  | some r19 => (some r19)
  | none => none)
  | .inr r18 => (some a0)))))))
  | none => none

/-- downspout/msg.All -/
def msg_All_l0_step (N : Nat) (rec : (List V_api_Pair) → (List V_api_Msg) → Int → Int → Option (((List V_api_Pair) × Unit))) (b0 : (List V_api_Pair)) (b1 : (List V_api_Msg)) (b2 : Int) (b3 : Int) : Option (((List V_api_Pair) × Unit)) :=
  bif (decide (b3 < b2)) then
  (gd (inB b3 (List.length b1))
  (match msg_Apply N b0 (rdL b1 b3 D_api_Msg) with
  | some r1 => (rec r1 b1 b2 (IntKind.wrap .i64 (b3 + (1 : Int))))
  | none => none))
  else
  (some (b0, ()))
def msg_All_l0 (N n : Nat) (b0 : (List V_api_Pair)) (b1 : (List V_api_Msg)) (b2 : Int) (b3 : Int) : Option (((List V_api_Pair) × Unit)) :=
  iter (fun (rec : (((List V_api_Pair) × ((List V_api_Msg) × (Int × Int))) × Unit) → Option (((List V_api_Pair) × Unit))) v => msg_All_l0_step N (fun b0 b1 b2 b3 => rec ((b0, (b1, (b2, b3))), ())) v.1.1 v.1.2.1 v.1.2.2.1 v.1.2.2.2) n ((b0, (b1, (b2, b3))), ())
theorem msg_All_l0_succ (N n : Nat) (b0 : (List V_api_Pair)) (b1 : (List V_api_Msg)) (b2 : Int) (b3 : Int) : msg_All_l0 N (n + 1) b0 b1 b2 b3 = msg_All_l0_step N (fun b0  b1  b2  b3  => msg_All_l0 N n b0 b1 b2 b3) b0 b1 b2 b3 := rfl
def msg_All (N : Nat) (a0 : (List V_api_Pair)) (a1 : (List V_api_Msg)) : Option ((List V_api_Pair)) :=
  match msg_All_l0 N N a0 a1 (List.length a1 : Int) (0 : Int) with
  | some r2 => (some r2.1)
  | none => none

/-- downspout/downspoutref04.Same -/
def ref04_Same_l0_step (N : Nat) (rec : (List V_api_Pair) → (List V_api_Pair) → Int → Option ((Bool × Unit) ⊕ (Unit × Unit))) (b0 : (List V_api_Pair)) (b1 : (List V_api_Pair)) (b2 : Int) : Option ((Bool × Unit) ⊕ (Unit × Unit)) :=
  bif (decide (b2 < (List.length b0 : Int))) then
  (gd (inB b2 (List.length b0))
  (gd (inB b2 (List.length b1))
  (let x2 := (!(eqs ((rdL b0 b2 D_api_Pair).1) ((rdL b1 b2 D_api_Pair).1) && (eqs (((rdL b0 b2 D_api_Pair).2).1) (((rdL b1 b2 D_api_Pair).2).1) && (eqi (((rdL b0 b2 D_api_Pair).2).2) (((rdL b1 b2 D_api_Pair).2).2) && true))))
  bif x2 then
  (some (.inl (false, ())))
  else
  (rec b0 b1 (IntKind.wrap .i64 (b2 + (1 : Int)))))))
  else
  (some (.inr ((), ())))
def ref04_Same_l0 (N n : Nat) (b0 : (List V_api_Pair)) (b1 : (List V_api_Pair)) (b2 : Int) : Option ((Bool × Unit) ⊕ (Unit × Unit)) :=
  iter (fun (rec : (((List V_api_Pair) × ((List V_api_Pair) × Int)) × Unit) → Option ((Bool × Unit) ⊕ (Unit × Unit))) v => ref04_Same_l0_step N (fun b0 b1 b2 => rec ((b0, (b1, b2)), ())) v.1.1 v.1.2.1 v.1.2.2) n ((b0, (b1, b2)), ())
theorem ref04_Same_l0_succ (N n : Nat) (b0 : (List V_api_Pair)) (b1 : (List V_api_Pair)) (b2 : Int) : ref04_Same_l0 N (n + 1) b0 b1 b2 = ref04_Same_l0_step N (fun b0  b1  b2  => ref04_Same_l0 N n b0 b1 b2) b0 b1 b2 := rfl
def ref04_Same (N : Nat) (a0 : (List V_api_Pair)) (a1 : (List V_api_Pair)) : Option (Bool) :=
  let x1 := (!(eqi (List.length a0 : Int) (List.length a1 : Int)))
  bif x1 then
  (some false)
  else
  (match ref04_Same_l0 N N a0 a1 (0 : Int) with
  | some r3 => (match r3 with
  | .inl r4 => (some r4.1)
  | .inr r5 => (some true))
  | none => none)

/-- downspout/downspoutlaw09.SettleKeeps -/
def law09_SettleKeeps_l1_step (N : Nat) (rec : Bool → (List V_api_Pair) → Int → Int → (List UInt8) → (List UInt8) → (List UInt8) → (List UInt8) → (List UInt8) → (List UInt8) → Int → (List V_api_Msg) → Option ((Bool × Unit) ⊕ ((Bool × ((List V_api_Pair) × (Unit × Unit))) × ((Int × ((List UInt8) × ((List UInt8) × ((List UInt8) × ((List UInt8) × ((List UInt8) × ((List UInt8) × Int))))))) × ((List V_api_Msg) × Unit))))) (b0 : Bool) (b1 : (List V_api_Pair)) (b2 : Int) (b3 : Int) (b4 : (List UInt8)) (b5 : (List UInt8)) (b6 : (List UInt8)) (b7 : (List UInt8)) (b8 : (List UInt8)) (b9 : (List UInt8)) (b10 : Int) (b11 : (List V_api_Msg)) : Option ((Bool × Unit) ⊕ ((Bool × ((List V_api_Pair) × (Unit × Unit))) × ((Int × ((List UInt8) × ((List UInt8) × ((List UInt8) × ((List UInt8) × ((List UInt8) × ((List UInt8) × Int))))))) × ((List V_api_Msg) × Unit)))) :=
  bif (decide (b2 < (List.length b11 : Int))) then
  (gd (inB b2 (List.length b11))
  (match ref05_Valid N (rdL b11 b2 D_api_Msg) with
  | some r7 => (bif (!r7) then
  (some (.inl (false, ())))
  else
  (rec b0 b1 (IntKind.wrap .i64 (b2 + (1 : Int))) b3 b4 b5 b6 b7 b8 b9 b10 b11))
  | none => none))
  else
  (some (.inr ((b0, (b1, ((), ()))), ((b3, (b4, (b5, (b6, (b7, (b8, (b9, b10))))))), (b11, ())))))
def law09_SettleKeeps_l1 (N n : Nat) (b0 : Bool) (b1 : (List V_api_Pair)) (b2 : Int) (b3 : Int) (b4 : (List UInt8)) (b5 : (List UInt8)) (b6 : (List UInt8)) (b7 : (List UInt8)) (b8 : (List UInt8)) (b9 : (List UInt8)) (b10 : Int) (b11 : (List V_api_Msg)) : Option ((Bool × Unit) ⊕ ((Bool × ((List V_api_Pair) × (Unit × Unit))) × ((Int × ((List UInt8) × ((List UInt8) × ((List UInt8) × ((List UInt8) × ((List UInt8) × ((List UInt8) × Int))))))) × ((List V_api_Msg) × Unit)))) :=
  iter (fun (rec : ((Bool × ((List V_api_Pair) × (Unit × (Unit × Int)))) × ((Int × ((List UInt8) × ((List UInt8) × ((List UInt8) × ((List UInt8) × ((List UInt8) × ((List UInt8) × Int))))))) × ((List V_api_Msg) × Unit))) → Option ((Bool × Unit) ⊕ ((Bool × ((List V_api_Pair) × (Unit × Unit))) × ((Int × ((List UInt8) × ((List UInt8) × ((List UInt8) × ((List UInt8) × ((List UInt8) × ((List UInt8) × Int))))))) × ((List V_api_Msg) × Unit))))) v => law09_SettleKeeps_l1_step N (fun b0 b1 b2 b3 b4 b5 b6 b7 b8 b9 b10 b11 => rec ((b0, (b1, ((), ((), b2)))), ((b3, (b4, (b5, (b6, (b7, (b8, (b9, b10))))))), (b11, ())))) v.1.1 v.1.2.1 v.1.2.2.2.2 v.2.1.1 v.2.1.2.1 v.2.1.2.2.1 v.2.1.2.2.2.1 v.2.1.2.2.2.2.1 v.2.1.2.2.2.2.2.1 v.2.1.2.2.2.2.2.2.1 v.2.1.2.2.2.2.2.2.2 v.2.2.1) n ((b0, (b1, ((), ((), b2)))), ((b3, (b4, (b5, (b6, (b7, (b8, (b9, b10))))))), (b11, ())))
theorem law09_SettleKeeps_l1_succ (N n : Nat) (b0 : Bool) (b1 : (List V_api_Pair)) (b2 : Int) (b3 : Int) (b4 : (List UInt8)) (b5 : (List UInt8)) (b6 : (List UInt8)) (b7 : (List UInt8)) (b8 : (List UInt8)) (b9 : (List UInt8)) (b10 : Int) (b11 : (List V_api_Msg)) : law09_SettleKeeps_l1 N (n + 1) b0 b1 b2 b3 b4 b5 b6 b7 b8 b9 b10 b11 = law09_SettleKeeps_l1_step N (fun b0  b1  b2  b3  b4  b5  b6  b7  b8  b9  b10  b11  => law09_SettleKeeps_l1 N n b0 b1 b2 b3 b4 b5 b6 b7 b8 b9 b10 b11) b0 b1 b2 b3 b4 b5 b6 b7 b8 b9 b10 b11 := rfl
def law09_SettleKeeps_p0 (N : Nat) (b0 : Bool) (b1 : (List V_api_Pair)) (b2 : (List V_api_Pair)) (b3 : Int) (b4 : (List UInt8)) (b5 : (List UInt8)) (b6 : (List UInt8)) (b7 : (List UInt8)) (b8 : (List UInt8)) (b9 : (List UInt8)) (b10 : Int) : Option ((Bool × Unit)) :=
  match settle_List N (b3, (b4, (b5, ((b6, b7), (b8, (b9, b10)))))) b2 with
  | some r6 => (match law09_SettleKeeps_l1 N N b0 b1 (0 : Int) b3 b4 b5 b6 b7 b8 b9 b10 r6 with
  | some r8 => (match r8 with
  | .inl r9 => (some (r9.1, ()))
  | .inr r10 => (bif r10.1.1 then
  (match msg_All N r10.1.2.1 r10.2.2.1 with
  | some r11 => (match msg_Apply N r10.1.2.1 (r10.2.1.1, (r10.2.1.2.1, (r10.2.1.2.2.1, ((r10.2.1.2.2.2.1, r10.2.1.2.2.2.2.1), r10.2.1.2.2.2.2.2)))) with
  | some r12 => (match ref04_Same N r11 r12 with
  | some r13 => (some (r13, ()))
  | none => none)
  | none => none)
  | none => none)
  else
  (some (false, ()))))
  | none => none)
  | none => none
def law09_SettleKeeps (N : Nat) (a0 : (List V_ref04_Raw)) (a1 : V_ref05_Raw) : Option (Bool) :=
  match law09_sanity N with
  | some r1 => (match ref04_Made N a0 with
  | some r2 => (match ref05_Made N a1 with
  | some r3 => (bif (eqi r3.1 (4 : Int)) then
  (match ref02_Prefix N r3.2.2.2.2.1 with
  | some r4 => (match table_Range N r2 r4 with
  | some r5 => (match law09_SettleKeeps_p0 N r1 r2 r5 r3.1 r3.2.1 r3.2.2.1 r3.2.2.2.1.1 r3.2.2.2.1.2 r3.2.2.2.2.1 r3.2.2.2.2.2.1 r3.2.2.2.2.2.2 with
  | some r14 => (some r14.1)
  | none => none)
  | none => none)
  | none => none)
  else
  (bif (eqi r3.1 (5 : Int)) then
  (match ref02_Prefix N r3.2.2.2.2.1 with
  | some r15 => (match table_Range N r2 r15 with
  | some r16 => (match law09_SettleKeeps_p0 N r1 r2 r16 r3.1 r3.2.1 r3.2.2.1 r3.2.2.2.1.1 r3.2.2.2.1.2 r3.2.2.2.2.1 r3.2.2.2.2.2.1 r3.2.2.2.2.2.2 with
  | some r17 => (some r17.1)
  | none => none)
  | none => none)
  | none => none)
  else
  (match law09_SettleKeeps_p0 N r1 r2 ([] : List V_api_Pair) r3.1 r3.2.1 r3.2.2.1 r3.2.2.2.1.1 r3.2.2.2.1.2 r3.2.2.2.2.1 r3.2.2.2.2.2.1 r3.2.2.2.2.2.2 with
  | some r18 => (some r18.1)
  | none => none)))
  | none => none)
  | none => none)
  | none => none

/-- downspout/downspoutref05.List -/
def ref05_List_l0_step (N : Nat) (rec : (List V_ref05_Raw) → Int → Int → (List V_api_Msg) → Option ((Unit × ((List V_api_Msg) × Unit)))) (b0 : (List V_ref05_Raw)) (b1 : Int) (b2 : Int) (b3 : (List V_api_Msg)) : Option ((Unit × ((List V_api_Msg) × Unit))) :=
  bif (decide (b2 < (List.length b0 : Int))) then
  (bif (decide (b2 < b1)) then
  (gd (inB b2 (List.length b0))
  (match ref05_Made N (rdL b0 b2 D_ref05_Raw) with
  | some r1 => (gd (fits (List.length b3 + 1) 112)
  (let x2 := (@HAppend.hAppend (List V_api_Msg) (List V_api_Msg) (List V_api_Msg) _ b3 ([r1] : List V_api_Msg))
  rec b0 b1 (IntKind.wrap .i64 (b2 + (1 : Int))) x2))
  | none => none))
  else
  (some ((), (b3, ()))))
  else
  (some ((), (b3, ())))
def ref05_List_l0 (N n : Nat) (b0 : (List V_ref05_Raw)) (b1 : Int) (b2 : Int) (b3 : (List V_api_Msg)) : Option ((Unit × ((List V_api_Msg) × Unit))) :=
  iter (fun (rec : (((List V_ref05_Raw) × (Int × (Unit × Int))) × ((List V_api_Msg) × Unit)) → Option ((Unit × ((List V_api_Msg) × Unit)))) v => ref05_List_l0_step N (fun b0 b1 b2 b3 => rec ((b0, (b1, ((), b2))), (b3, ()))) v.1.1 v.1.2.1 v.1.2.2.2 v.2.1) n ((b0, (b1, ((), b2))), (b3, ()))
theorem ref05_List_l0_succ (N n : Nat) (b0 : (List V_ref05_Raw)) (b1 : Int) (b2 : Int) (b3 : (List V_api_Msg)) : ref05_List_l0 N (n + 1) b0 b1 b2 b3 = ref05_List_l0_step N (fun b0  b1  b2  b3  => ref05_List_l0 N n b0 b1 b2 b3) b0 b1 b2 b3 := rfl
def ref05_List (N : Nat) (a0 : (List V_ref05_Raw)) (a1 : Int) : Option ((List V_api_Msg)) :=
  match ref05_List_l0 N N a0 a1 (0 : Int) ([] : List V_api_Msg) with
  | some r3 => (some r3.2.1)
  | none => none

/-- downspout/downspoutref04.Has -/
def ref04_Has (N : Nat) (a0 : V_api_Span) (a1 : (List UInt8)) : Option (Bool) :=
  bif (!(lts a1 a0.1)) then
  (bif (eqs a0.2 ([] : List UInt8)) then
  (some true)
  else
  (some (lts a1 a0.2)))
  else
  (some false)

/-- downspout/downspoutref04.Range -/
def ref04_Range_l0_step (N : Nat) (rec : (List V_api_Pair) → Int → (List UInt8) → (List UInt8) → (List V_api_Pair) → Option ((Unit × ((List V_api_Pair) × Unit)))) (b0 : (List V_api_Pair)) (b1 : Int) (b2 : (List UInt8)) (b3 : (List UInt8)) (b4 : (List V_api_Pair)) : Option ((Unit × ((List V_api_Pair) × Unit))) :=
  bif (decide (b1 < (List.length b0 : Int))) then
  (gd (inB b1 (List.length b0))
  (match ref04_Has N (b2, b3) ((rdL b0 b1 D_api_Pair).1) with
  | some r1 => (bif r1 then
  (gd (inB b1 (List.length b0))
  (gd (fits (List.length b4 + 1) 40)
  (let x2 := (@HAppend.hAppend (List V_api_Pair) (List V_api_Pair) (List V_api_Pair) _ b4 ([(rdL b0 b1 D_api_Pair)] : List V_api_Pair))
  rec b0 (IntKind.wrap .i64 (b1 + (1 : Int))) b2 b3 x2)))
  else
  (rec b0 (IntKind.wrap .i64 (b1 + (1 : Int))) b2 b3 b4))
  | none => none))
  else
  (some ((), (b4, ())))
def ref04_Range_l0 (N n : Nat) (b0 : (List V_api_Pair)) (b1 : Int) (b2 : (List UInt8)) (b3 : (List UInt8)) (b4 : (List V_api_Pair)) : Option ((Unit × ((List V_api_Pair) × Unit))) :=
  iter (fun (rec : (((List V_api_Pair) × (Unit × (Unit × Int))) × (((List UInt8) × (List UInt8)) × ((List V_api_Pair) × Unit))) → Option ((Unit × ((List V_api_Pair) × Unit)))) v => ref04_Range_l0_step N (fun b0 b1 b2 b3 b4 => rec ((b0, ((), ((), b1))), ((b2, b3), (b4, ())))) v.1.1 v.1.2.2.2 v.2.1.1 v.2.1.2 v.2.2.1) n ((b0, ((), ((), b1))), ((b2, b3), (b4, ())))
theorem ref04_Range_l0_succ (N n : Nat) (b0 : (List V_api_Pair)) (b1 : Int) (b2 : (List UInt8)) (b3 : (List UInt8)) (b4 : (List V_api_Pair)) : ref04_Range_l0 N (n + 1) b0 b1 b2 b3 b4 = ref04_Range_l0_step N (fun b0  b1  b2  b3  b4  => ref04_Range_l0 N n b0 b1 b2 b3 b4) b0 b1 b2 b3 b4 := rfl
def ref04_Range (N : Nat) (a0 : (List V_api_Pair)) (a1 : V_api_Span) : Option ((List V_api_Pair)) :=
  match ref04_Range_l0 N N a0 (0 : Int) a1.1 a1.2 ([] : List V_api_Pair) with
  | some r3 => (some r3.2.1)
  | none => none

/-- downspout/downspoutlaw09.source -/
def law09_source (N : Nat) (a0 : (List V_api_Pair)) (a1 : V_api_Msg) : Option ((List V_api_Pair)) :=
  bif (!(eqi a1.1 (4 : Int))) then
  (bif (!(eqi a1.1 (5 : Int))) then
  (some ([] : List V_api_Pair))
  else
  (match ref02_Prefix N a1.2.2.2.2.1 with
  | some r1 => (match ref04_Range N a0 r1 with
  | some r2 => (some r2)
  | none => none)
  | none => none))
  else
  (match ref02_Prefix N a1.2.2.2.2.1 with
  | some r3 => (match ref04_Range N a0 r3 with
  | some r4 => (some r4)
  | none => none)
  | none => none)

/-- downspout/downspoutlaw09.SettleTurns -/
def law09_SettleTurns (N : Nat) (a0 : (List V_ref04_Raw)) (a1 : (List V_ref05_Raw)) : Option (Bool) :=
  match law09_sanity N with
  | some r1 => (match ref04_Made N a0 with
  | some r2 => (match ref05_List N a1 (10 : Int) with
  | some r3 => (bif (eqi (List.length r3 : Int) (0 : Int)) then
  (some r1)
  else
  (gd (inB (0 : Int) (List.length r3))
  (match law09_source N r2 (rdL r3 (0 : Int) D_api_Msg) with
  | some r4 => (match settle_Turn N r3 r4 with
  | some r5 => (gd (inB (0 : Int) (List.length r3))
  (let x6 := (!(eqi ((rdL r3 (0 : Int) D_api_Msg).1) (4 : Int)))
  bif x6 then
  (gd (inB (0 : Int) (List.length r3))
  (let x7 := (!(eqi ((rdL r3 (0 : Int) D_api_Msg).1) (5 : Int)))
  bif x7 then
  (bif r1 then
  (bif (eqi r5.2 (50 : Int)) then
  (some (eqi (List.length r5.1 : Int) (0 : Int)))
  else
  (some false))
  else
  (some false))
  else
  (bif r1 then
  (bif (eqi r5.2 (0 : Int)) then
  (match msg_All N r2 r5.1 with
  | some r8 => (match msg_All N r2 r3 with
  | some r9 => (match ref04_Same N r8 r9 with
  | some r10 => (some r10)
  | none => none)
  | none => none)
  | none => none)
  else
  (some false))
  else
  (some false))))
  else
  (bif r1 then
  (bif (eqi r5.2 (0 : Int)) then
  (match msg_All N r2 r5.1 with
  | some r11 => (match msg_All N r2 r3 with
  | some r12 => (match ref04_Same N r11 r12 with
  | some r13 => (some r13)
  | none => none)
  | none => none)
  | none => none)
  else
  (some false))
  else
  (some false))))
  | none => none)
  | none => none)))
  | none => none)
  | none => none)
  | none => none

/-- downspout/downspoutlaw09.SettleRepeats -/
def law09_SettleRepeats_l1_step (N : Nat) (rec : Bool → (List V_api_Pair) → (List V_api_Pair) → Int → (List V_api_Msg) → Option ((Bool × Unit) ⊕ ((Bool × ((List V_api_Pair) × ((List V_api_Pair) × Unit))) × ((List V_api_Msg) × Unit)))) (b0 : Bool) (b1 : (List V_api_Pair)) (b2 : (List V_api_Pair)) (b3 : Int) (b4 : (List V_api_Msg)) : Option ((Bool × Unit) ⊕ ((Bool × ((List V_api_Pair) × ((List V_api_Pair) × Unit))) × ((List V_api_Msg) × Unit))) :=
  bif (decide (b3 < (List.length b4 : Int))) then
  (gd (inB b3 (List.length b4))
  (bif (eqi ((rdL b4 b3 D_api_Msg).1) (4 : Int)) then
  (some (.inl (false, ())))
  else
  (gd (inB b3 (List.length b4))
  (bif (eqi ((rdL b4 b3 D_api_Msg).1) (5 : Int)) then
  (some (.inl (false, ())))
  else
  (rec b0 b1 b2 (IntKind.wrap .i64 (b3 + (1 : Int))) b4)))))
  else
  (some (.inr ((b0, (b1, (b2, ()))), (b4, ()))))
def law09_SettleRepeats_l1 (N n : Nat) (b0 : Bool) (b1 : (List V_api_Pair)) (b2 : (List V_api_Pair)) (b3 : Int) (b4 : (List V_api_Msg)) : Option ((Bool × Unit) ⊕ ((Bool × ((List V_api_Pair) × ((List V_api_Pair) × Unit))) × ((List V_api_Msg) × Unit))) :=
  iter (fun (rec : ((Bool × ((List V_api_Pair) × ((List V_api_Pair) × (Unit × Int)))) × ((List V_api_Msg) × Unit)) → Option ((Bool × Unit) ⊕ ((Bool × ((List V_api_Pair) × ((List V_api_Pair) × Unit))) × ((List V_api_Msg) × Unit)))) v => law09_SettleRepeats_l1_step N (fun b0 b1 b2 b3 b4 => rec ((b0, (b1, (b2, ((), b3)))), (b4, ()))) v.1.1 v.1.2.1 v.1.2.2.1 v.1.2.2.2.2 v.2.1) n ((b0, (b1, (b2, ((), b3)))), (b4, ()))
theorem law09_SettleRepeats_l1_succ (N n : Nat) (b0 : Bool) (b1 : (List V_api_Pair)) (b2 : (List V_api_Pair)) (b3 : Int) (b4 : (List V_api_Msg)) : law09_SettleRepeats_l1 N (n + 1) b0 b1 b2 b3 b4 = law09_SettleRepeats_l1_step N (fun b0  b1  b2  b3  b4  => law09_SettleRepeats_l1 N n b0 b1 b2 b3 b4) b0 b1 b2 b3 b4 := rfl
def law09_SettleRepeats_l0_step (N : Nat) (rec : Bool → (List V_api_Pair) → (List V_api_Pair) → Int → (List V_api_Msg) → (List V_api_Msg) → Option (((Bool × ((List V_api_Pair) × ((List V_api_Pair) × Unit))) × ((List V_api_Msg) × Unit)))) (b0 : Bool) (b1 : (List V_api_Pair)) (b2 : (List V_api_Pair)) (b3 : Int) (b4 : (List V_api_Msg)) (b5 : (List V_api_Msg)) : Option (((Bool × ((List V_api_Pair) × ((List V_api_Pair) × Unit))) × ((List V_api_Msg) × Unit))) :=
  bif (decide (b3 < (List.length b4 : Int))) then
  (gd (inB b3 (List.length b4))
  (gd (inB b3 (List.length b4))
  (match law09_source N b2 (rdL b4 b3 D_api_Msg) with
  | some r4 => (match settle_List N (rdL b4 b3 D_api_Msg) r4 with
  | some r5 => (gd (fits (List.length b5 + List.length r5) 112)
  (let x6 := (@HAppend.hAppend (List V_api_Msg) (List V_api_Msg) (List V_api_Msg) _ b5 r5)
  gd (inB b3 (List.length b4))
  (match msg_Apply N b2 (rdL b4 b3 D_api_Msg) with
  | some r7 => (rec b0 b1 r7 (IntKind.wrap .i64 (b3 + (1 : Int))) b4 x6)
  | none => none)))
  | none => none)
  | none => none)))
  else
  (some ((b0, (b1, (b2, ()))), (b5, ())))
def law09_SettleRepeats_l0 (N n : Nat) (b0 : Bool) (b1 : (List V_api_Pair)) (b2 : (List V_api_Pair)) (b3 : Int) (b4 : (List V_api_Msg)) (b5 : (List V_api_Msg)) : Option (((Bool × ((List V_api_Pair) × ((List V_api_Pair) × Unit))) × ((List V_api_Msg) × Unit))) :=
  iter (fun (rec : ((Bool × ((List V_api_Pair) × (Unit × ((List V_api_Pair) × (Unit × Int))))) × ((List V_api_Msg) × ((List V_api_Msg) × Unit))) → Option (((Bool × ((List V_api_Pair) × ((List V_api_Pair) × Unit))) × ((List V_api_Msg) × Unit)))) v => law09_SettleRepeats_l0_step N (fun b0 b1 b2 b3 b4 b5 => rec ((b0, (b1, ((), (b2, ((), b3))))), (b4, (b5, ())))) v.1.1 v.1.2.1 v.1.2.2.2.1 v.1.2.2.2.2.2 v.2.1 v.2.2.1) n ((b0, (b1, ((), (b2, ((), b3))))), (b4, (b5, ())))
theorem law09_SettleRepeats_l0_succ (N n : Nat) (b0 : Bool) (b1 : (List V_api_Pair)) (b2 : (List V_api_Pair)) (b3 : Int) (b4 : (List V_api_Msg)) (b5 : (List V_api_Msg)) : law09_SettleRepeats_l0 N (n + 1) b0 b1 b2 b3 b4 b5 = law09_SettleRepeats_l0_step N (fun b0  b1  b2  b3  b4  b5  => law09_SettleRepeats_l0 N n b0 b1 b2 b3 b4 b5) b0 b1 b2 b3 b4 b5 := rfl
def law09_SettleRepeats (N : Nat) (a0 : (List V_ref04_Raw)) (a1 : (List V_ref05_Raw)) : Option (Bool) :=
  match law09_sanity N with
  | some r1 => (match ref04_Made N a0 with
  | some r2 => (match ref05_List N a1 (8 : Int) with
  | some r3 => (match law09_SettleRepeats_l0 N N r1 r2 r2 (0 : Int) r3 ([] : List V_api_Msg) with
  | some r8 => (match law09_SettleRepeats_l1 N N r8.1.1 r8.1.2.1 r8.1.2.2.1 (0 : Int) r8.2.1 with
  | some r9 => (match r9 with
  | .inl r10 => (some r10.1)
  | .inr r11 => (bif r11.1.1 then
  (match msg_All N r11.1.2.1 r11.2.1 with
  | some r12 => (match ref04_Same N r12 r11.1.2.2.1 with
  | some r13 => (some r13)
  | none => none)
  | none => none)
  else
  (some false)))
  | none => none)
  | none => none)
  | none => none)
  | none => none)
  | none => none

end Ds
