/- Printed by a program of the session's: what the program's functions compute, and that they do. -/
import Derived.Test.YtobejbgkfmpoeaaDvD
set_option linter.all false
namespace Ds
open Go Go.Dv

def T_ref11_Raw : Ty := (.pair (.int .u8) (.pair (.int .u8) (.pair (.int .u8) (.int .u8))))
abbrev V_ref11_Raw : Type := (Int × (Int × (Int × Int)))
abbrev D_ref11_Raw : V_ref11_Raw := ((0 : Int), ((0 : Int), ((0 : Int), (0 : Int))))
def T_a3_uint8 : Ty := (.pair (.int .u8) (.pair (.int .u8) (.int .u8)))
abbrev V_a3_uint8 : Type := (Int × (Int × Int))
abbrev D_a3_uint8 : V_a3_uint8 := ((0 : Int), ((0 : Int), (0 : Int)))
def T_api_Pair : Ty := (.pair .str (.pair .str (.int .i64)))
abbrev V_api_Pair : Type := ((List UInt8) × ((List UInt8) × Int))
abbrev D_api_Pair : V_api_Pair := (([] : List UInt8), (([] : List UInt8), (0 : Int)))
def T_api_Range : Ty := (.pair (.int .i64) (.int .i64))
abbrev V_api_Range : Type := (Int × Int)
abbrev D_api_Range : V_api_Range := ((0 : Int), (0 : Int))
def T_api_Sum : Ty := (.pair T_api_Range T_api_Range)
abbrev V_api_Sum : Type := (V_api_Range × V_api_Range)
abbrev D_api_Sum : V_api_Sum := (D_api_Range, D_api_Range)
def T_api_Span : Ty := (.pair .str .str)
abbrev V_api_Span : Type := ((List UInt8) × (List UInt8))
abbrev D_api_Span : V_api_Span := (([] : List UInt8), ([] : List UInt8))
def T_api_Msg : Ty := (.pair (.int .i64) (.pair .str (.pair .str (.pair T_api_Span (.pair .str (.pair .str (.int .i64)))))))
abbrev V_api_Msg : Type := (Int × ((List UInt8) × ((List UInt8) × (V_api_Span × ((List UInt8) × ((List UInt8) × Int))))))
abbrev D_api_Msg : V_api_Msg := ((0 : Int), (([] : List UInt8), (([] : List UInt8), (D_api_Span, (([] : List UInt8), (([] : List UInt8), (0 : Int)))))))
def T_api_Node : Ty := (.pair (.list T_api_Pair) (.pair (.list .str) (.pair (.list (.int .i64)) (.pair (.list T_api_Sum) (.list T_api_Msg)))))
abbrev V_api_Node : Type := ((List V_api_Pair) × ((List (List UInt8)) × ((List Int) × ((List V_api_Sum) × (List V_api_Msg)))))
abbrev D_api_Node : V_api_Node := (([] : List V_api_Pair), (([] : List (List UInt8)), (([] : List Int), (([] : List V_api_Sum), ([] : List V_api_Msg)))))
def T_api_Slot : Ty := (.pair .bool (.pair .bool (.pair (.int .i64) T_api_Node)))
abbrev V_api_Slot : Type := (Bool × (Bool × (Int × V_api_Node)))
abbrev D_api_Slot : V_api_Slot := (false, (false, ((0 : Int), D_api_Node)))
def T_ref11_Held : Ty := (.pair (.list T_api_Slot) (.list (.int .i64)))
abbrev V_ref11_Held : Type := ((List V_api_Slot) × (List Int))
abbrev D_ref11_Held : V_ref11_Held := (([] : List V_api_Slot), ([] : List Int))
def T_ref11_Added : Ty := (.pair (.list T_api_Slot) (.pair (.int .i64) (.int .i64)))
abbrev V_ref11_Added : Type := ((List V_api_Slot) × (Int × Int))
abbrev D_ref11_Added : V_ref11_Added := (([] : List V_api_Slot), ((0 : Int), (0 : Int)))

/-- downspout/pool.used -/
def pool_used (N : Nat) (a0 : (List V_api_Slot)) (a1 : Int) : Option (Bool) :=
  bif (decide ((0 : Int) ≤ a1)) then
  (bif (decide (a1 < (List.length a0 : Int))) then
  (gd (inB a1 (List.length a0))
  (some ((rdL a0 a1 D_api_Slot).1)))
  else
  (some false))
  else
  (some false)

/-- downspout/pool.Add$1 -/
def pool_Add_c1 (N : Nat) (a0 : V_api_Slot) : Option (Bool) :=
  some (!a0.1)

/-- slices.IndexFunc[[]downspout/api.Slot,downspout/api.Slot] -/
def slices_IndexFunc_s_api_Slot_api_Slot__pool_Add_c1_l0_step (N : Nat) (rec : (List V_api_Slot) → Int → Int → Option ((Int × Unit) ⊕ (Unit × Unit))) (b0 : (List V_api_Slot)) (b1 : Int) (b2 : Int) : Option ((Int × Unit) ⊕ (Unit × Unit)) :=
  bif (decide (b2 < b1)) then
  (gd (inB b2 (List.length b0))
  (match pool_Add_c1 N (rdL b0 b2 D_api_Slot) with
  | some r1 => (bif r1 then
  (some (.inl (b2, ())))
  else
  (rec b0 b1 (IntKind.wrap .i64 (b2 + (1 : Int)))))
  | none => none))
  else
  (some (.inr ((), ())))
def slices_IndexFunc_s_api_Slot_api_Slot__pool_Add_c1_l0 (N n : Nat) (b0 : (List V_api_Slot)) (b1 : Int) (b2 : Int) : Option ((Int × Unit) ⊕ (Unit × Unit)) :=
  iter (fun (rec : (((List V_api_Slot) × (Unit × (Int × Int))) × Unit) → Option ((Int × Unit) ⊕ (Unit × Unit))) v => slices_IndexFunc_s_api_Slot_api_Slot__pool_Add_c1_l0_step N (fun b0 b1 b2 => rec ((b0, ((), (b1, b2))), ())) v.1.1 v.1.2.2.1 v.1.2.2.2) n ((b0, ((), (b1, b2))), ())
theorem slices_IndexFunc_s_api_Slot_api_Slot__pool_Add_c1_l0_succ (N n : Nat) (b0 : (List V_api_Slot)) (b1 : Int) (b2 : Int) : slices_IndexFunc_s_api_Slot_api_Slot__pool_Add_c1_l0 N (n + 1) b0 b1 b2 = slices_IndexFunc_s_api_Slot_api_Slot__pool_Add_c1_l0_step N (fun b0  b1  b2  => slices_IndexFunc_s_api_Slot_api_Slot__pool_Add_c1_l0 N n b0 b1 b2) b0 b1 b2 := rfl
def slices_IndexFunc_s_api_Slot_api_Slot__pool_Add_c1 (N : Nat) (a0 : (List V_api_Slot)) : Option (Int) :=
  match slices_IndexFunc_s_api_Slot_api_Slot__pool_Add_c1_l0 N N a0 (List.length a0 : Int) (0 : Int) with
  | some r2 => (match r2 with
  | .inl r3 => (some r3.1)
  | .inr r4 => (some (-1 : Int)))
  | none => none

/-- downspout/pool.clone -/
def pool_clone (N : Nat) (a0 : (List V_api_Slot)) : Option ((List V_api_Slot)) :=
  gd ((decide (0 ≤ (List.length a0 : Int)) && decide ((List.length a0 : Int) ≤ (List.length a0 : Int))) && (decide ((List.length a0 : Int) < maxB) && decide ((List.length a0 : Int) * 136 < maxB)))
  (let x1 := (List.replicate (Int.toNat (List.length a0 : Int)) D_api_Slot)
  some (copyL x1 a0))

/-- downspout/pool.Add -/
def pool_Add_l2_step (N : Nat) (rec : Int → (List Int) → Int → Int → (List V_api_Slot) → (List V_api_Slot) → Option (((Unit × (Int × Unit)) × (Unit × ((List V_api_Slot) × (Unit × ((List V_api_Slot) × Unit))))))) (b0 : Int) (b1 : (List Int)) (b2 : Int) (b3 : Int) (b4 : (List V_api_Slot)) (b5 : (List V_api_Slot)) : Option (((Unit × (Int × Unit)) × (Unit × ((List V_api_Slot) × (Unit × ((List V_api_Slot) × Unit)))))) :=
  bif (decide (b3 < b2)) then
  (gd (inB b3 (List.length b1))
  (gd (inB (rdL b1 b3 (0 : Int)) (List.length b5))
  (let x10 := (((rdL b5 (rdL b1 b3 (0 : Int)) D_api_Slot).2).2).1
  gd (inB (rdL b1 b3 (0 : Int)) (List.length b5))
  (let x11 := (setL b5 (rdL b1 b3 (0 : Int)) ((rdL b5 (rdL b1 b3 (0 : Int)) D_api_Slot).1, (((rdL b5 (rdL b1 b3 (0 : Int)) D_api_Slot).2).1, ((IntKind.wrap .i64 (x10 + (1 : Int))), ((((rdL b5 (rdL b1 b3 (0 : Int)) D_api_Slot).2).2).2)))))
  rec b0 b1 b2 (IntKind.wrap .i64 (b3 + (1 : Int))) b4 x11))))
  else
  (some (((), (b0, ())), ((), (b4, ((), (b5, ()))))))
def pool_Add_l2 (N n : Nat) (b0 : Int) (b1 : (List Int)) (b2 : Int) (b3 : Int) (b4 : (List V_api_Slot)) (b5 : (List V_api_Slot)) : Option (((Unit × (Int × Unit)) × (Unit × ((List V_api_Slot) × (Unit × ((List V_api_Slot) × Unit)))))) :=
  iter (fun (rec : ((Unit × (Int × (Unit × ((List Int) × (Int × Int))))) × (Unit × ((List V_api_Slot) × (Unit × ((List V_api_Slot) × Unit))))) → Option (((Unit × (Int × Unit)) × (Unit × ((List V_api_Slot) × (Unit × ((List V_api_Slot) × Unit))))))) v => pool_Add_l2_step N (fun b0 b1 b2 b3 b4 b5 => rec (((), (b0, ((), (b1, (b2, b3))))), ((), (b4, ((), (b5, ())))))) v.1.2.1 v.1.2.2.2.1 v.1.2.2.2.2.1 v.1.2.2.2.2.2 v.2.2.1 v.2.2.2.2.1) n (((), (b0, ((), (b1, (b2, b3))))), ((), (b4, ((), (b5, ())))))
theorem pool_Add_l2_succ (N n : Nat) (b0 : Int) (b1 : (List Int)) (b2 : Int) (b3 : Int) (b4 : (List V_api_Slot)) (b5 : (List V_api_Slot)) : pool_Add_l2 N (n + 1) b0 b1 b2 b3 b4 b5 = pool_Add_l2_step N (fun b0  b1  b2  b3  b4  b5  => pool_Add_l2 N n b0 b1 b2 b3 b4 b5) b0 b1 b2 b3 b4 b5 := rfl
def pool_Add_p1 (N : Nat) (b0 : Int) (b1 : (List V_api_Slot)) (b2 : (List V_api_Pair)) (b3 : (List (List UInt8))) (b4 : (List Int)) (b5 : (List V_api_Sum)) (b6 : (List V_api_Msg)) (b7 : (List V_api_Slot)) : Option (((Unit × (Int × Int)) × ((List V_api_Slot) × Unit))) :=
  bif (decide ((4096 : Int) ≤ b0)) then
  (some (((), ((0 : Int), (111 : Int))), (b1, ())))
  else
  (match pool_clone N b1 with
  | some r6 => (bif (eqi b0 (List.length r6 : Int)) then
  (let x7 := ([(false, (false, ((0 : Int), (([] : List V_api_Pair), (([] : List (List UInt8)), (([] : List Int), (([] : List V_api_Sum), ([] : List V_api_Msg))))))))] : List V_api_Slot)
  gd (fits (List.length r6 + List.length x7) 136)
  (let x8 := (@HAppend.hAppend (List V_api_Slot) (List V_api_Slot) (List V_api_Slot) _ r6 x7)
  gd (inB b0 (List.length x8))
  (let x9 := (setL x8 b0 (true, (false, ((1 : Int), (b2, (b3, (b4, (b5, b6))))))))
  match pool_Add_l2 N N b0 b4 (List.length b4 : Int) (0 : Int) b7 x9 with
  | some r12 => (some (((), (r12.1.2.1, (0 : Int))), (r12.2.2.2.2.1, ())))
  | none => none)))
  else
  (gd (inB b0 (List.length r6))
  (let x13 := (setL r6 b0 (true, (false, ((1 : Int), (b2, (b3, (b4, (b5, b6))))))))
  match pool_Add_l2 N N b0 b4 (List.length b4 : Int) (0 : Int) b7 x13 with
  | some r14 => (some (((), (r14.1.2.1, (0 : Int))), (r14.2.2.2.2.1, ())))
  | none => none)))
  | none => none)
def pool_Add_l0_step (N : Nat) (rec : (List Int) → Int → Int → (List V_api_Slot) → (List V_api_Pair) → (List (List UInt8)) → (List Int) → (List V_api_Sum) → (List V_api_Msg) → (List V_api_Slot) → Option (((Unit × (Int × Int)) × ((List V_api_Slot) × Unit)) ⊕ ((Unit × (Unit × Unit)) × ((List V_api_Slot) × (((List V_api_Pair) × ((List (List UInt8)) × ((List Int) × ((List V_api_Sum) × (List V_api_Msg))))) × (Unit × ((List V_api_Slot) × Unit))))))) (b0 : (List Int)) (b1 : Int) (b2 : Int) (b3 : (List V_api_Slot)) (b4 : (List V_api_Pair)) (b5 : (List (List UInt8))) (b6 : (List Int)) (b7 : (List V_api_Sum)) (b8 : (List V_api_Msg)) (b9 : (List V_api_Slot)) : Option (((Unit × (Int × Int)) × ((List V_api_Slot) × Unit)) ⊕ ((Unit × (Unit × Unit)) × ((List V_api_Slot) × (((List V_api_Pair) × ((List (List UInt8)) × ((List Int) × ((List V_api_Sum) × (List V_api_Msg))))) × (Unit × ((List V_api_Slot) × Unit)))))) :=
  bif (decide (b2 < b1)) then
  (gd (inB b2 (List.length b0))
  (match pool_used N b3 (rdL b0 b2 (0 : Int)) with
  | some r1 => (bif (!r1) then
  (some (.inl (((), ((0 : Int), (110 : Int))), (b3, ()))))
  else
  (rec b0 b1 (IntKind.wrap .i64 (b2 + (1 : Int))) b3 b4 b5 b6 b7 b8 b9))
  | none => none))
  else
  (some (.inr (((), ((), ())), (b3, ((b4, (b5, (b6, (b7, b8)))), ((), (b9, ())))))))
def pool_Add_l0 (N n : Nat) (b0 : (List Int)) (b1 : Int) (b2 : Int) (b3 : (List V_api_Slot)) (b4 : (List V_api_Pair)) (b5 : (List (List UInt8))) (b6 : (List Int)) (b7 : (List V_api_Sum)) (b8 : (List V_api_Msg)) (b9 : (List V_api_Slot)) : Option (((Unit × (Int × Int)) × ((List V_api_Slot) × Unit)) ⊕ ((Unit × (Unit × Unit)) × ((List V_api_Slot) × (((List V_api_Pair) × ((List (List UInt8)) × ((List Int) × ((List V_api_Sum) × (List V_api_Msg))))) × (Unit × ((List V_api_Slot) × Unit)))))) :=
  iter (fun (rec : ((Unit × (Unit × (Unit × ((List Int) × (Int × Int))))) × ((List V_api_Slot) × (((List V_api_Pair) × ((List (List UInt8)) × ((List Int) × ((List V_api_Sum) × (List V_api_Msg))))) × (Unit × ((List V_api_Slot) × Unit))))) → Option (((Unit × (Int × Int)) × ((List V_api_Slot) × Unit)) ⊕ ((Unit × (Unit × Unit)) × ((List V_api_Slot) × (((List V_api_Pair) × ((List (List UInt8)) × ((List Int) × ((List V_api_Sum) × (List V_api_Msg))))) × (Unit × ((List V_api_Slot) × Unit))))))) v => pool_Add_l0_step N (fun b0 b1 b2 b3 b4 b5 b6 b7 b8 b9 => rec (((), ((), ((), (b0, (b1, b2))))), (b3, ((b4, (b5, (b6, (b7, b8)))), ((), (b9, ())))))) v.1.2.2.2.1 v.1.2.2.2.2.1 v.1.2.2.2.2.2 v.2.1 v.2.2.1.1 v.2.2.1.2.1 v.2.2.1.2.2.1 v.2.2.1.2.2.2.1 v.2.2.1.2.2.2.2 v.2.2.2.2.1) n (((), ((), ((), (b0, (b1, b2))))), (b3, ((b4, (b5, (b6, (b7, b8)))), ((), (b9, ())))))
theorem pool_Add_l0_succ (N n : Nat) (b0 : (List Int)) (b1 : Int) (b2 : Int) (b3 : (List V_api_Slot)) (b4 : (List V_api_Pair)) (b5 : (List (List UInt8))) (b6 : (List Int)) (b7 : (List V_api_Sum)) (b8 : (List V_api_Msg)) (b9 : (List V_api_Slot)) : pool_Add_l0 N (n + 1) b0 b1 b2 b3 b4 b5 b6 b7 b8 b9 = pool_Add_l0_step N (fun b0  b1  b2  b3  b4  b5  b6  b7  b8  b9  => pool_Add_l0 N n b0 b1 b2 b3 b4 b5 b6 b7 b8 b9) b0 b1 b2 b3 b4 b5 b6 b7 b8 b9 := rfl
def pool_Add (N : Nat) (a0 : (List V_api_Slot)) (a1 : V_api_Node) : Option (((List V_api_Slot) × (Int × Int))) :=
  match pool_Add_l0 N N a1.2.2.1 (List.length a1.2.2.1 : Int) (0 : Int) a0 a1.1 a1.2.1 a1.2.2.1 a1.2.2.2.1 a1.2.2.2.2 ([] : List V_api_Slot) with
  | some r2 => (match r2 with
  | .inl r3 => (some (r3.2.1, (r3.1.2.1, r3.1.2.2)))
  | .inr r4 => (match slices_IndexFunc_s_api_Slot_api_Slot__pool_Add_c1 N r4.2.1 with
  | some r5 => (bif (decide (r5 < (0 : Int))) then
  (match pool_Add_p1 N (List.length r4.2.1 : Int) r4.2.1 r4.2.2.1.1 r4.2.2.1.2.1 r4.2.2.1.2.2.1 r4.2.2.1.2.2.2.1 r4.2.2.1.2.2.2.2 r4.2.2.2.2.1 with
  | some r15 => (some (r15.2.1, (r15.1.2.1, r15.1.2.2)))
  | none => none)
  else
  (match pool_Add_p1 N r5 r4.2.1 r4.2.2.1.1 r4.2.2.1.2.1 r4.2.2.1.2.2.1 r4.2.2.1.2.2.2.1 r4.2.2.1.2.2.2.2 r4.2.2.2.2.1 with
  | some r16 => (some (r16.2.1, (r16.1.2.1, r16.1.2.2)))
  | none => none))
  | none => none))
  | none => none

/-- downspout/downspoutlaw11.add -/
def law11_add (N : Nat) (a0 : (List V_api_Slot)) (a1 : V_api_Node) : Option (V_ref11_Added) :=
  match pool_Add N a0 a1 with
  | some r1 => (some r1)
  | none => none

/-- downspout/pool.Drop -/
def pool_Drop_l0_step (N : Nat) (rec : (List V_api_Slot) → (List V_api_Slot) → (List Int) → Option (((Unit × Unit) × (Unit × ((List V_api_Slot) × (Unit × ((List V_api_Slot) × Unit))))))) (b0 : (List V_api_Slot)) (b1 : (List V_api_Slot)) (b2 : (List Int)) : Option (((Unit × Unit) × (Unit × ((List V_api_Slot) × (Unit × ((List V_api_Slot) × Unit)))))) :=
  let x3 := (decide ((0 : Int) < (List.length b2 : Int)))
  bif x3 then
  (let x4 := (IntKind.wrap .i64 ((List.length b2 : Int) - (1 : Int)))
  gd (inB x4 (List.length b2))
  (let x5 := (IntKind.wrap .i64 ((List.length b2 : Int) - (1 : Int)))
  gd (decide (0 ≤ x5) && decide (x5 ≤ (List.length b2 : Int)))
  (gd (inB (rdL b2 x4 (0 : Int)) (List.length b1))
  (let x6 := (((rdL b1 (rdL b2 x4 (0 : Int)) D_api_Slot).2).2).1
  let x7 := (setL b1 (rdL b2 x4 (0 : Int)) ((rdL b1 (rdL b2 x4 (0 : Int)) D_api_Slot).1, (((rdL b1 (rdL b2 x4 (0 : Int)) D_api_Slot).2).1, ((IntKind.wrap .i64 (x6 - (1 : Int))), ((((rdL b1 (rdL b2 x4 (0 : Int)) D_api_Slot).2).2).2)))))
  let x8 := (((rdL x7 (rdL b2 x4 (0 : Int)) D_api_Slot).2).2).1
  bif (decide ((0 : Int) < x8)) then
  (rec b0 x7 (List.take (Int.toNat x5) b2))
  else
  (let x9 := ((((((rdL x7 (rdL b2 x4 (0 : Int)) D_api_Slot).2).2).2).2).2).1
  gd (fits (List.length (List.take (Int.toNat x5) b2) + List.length x9) 8)
  (let x10 := (@HAppend.hAppend (List Int) (List Int) (List Int) _ (List.take (Int.toNat x5) b2) x9)
  let x11 := (setL x7 (rdL b2 x4 (0 : Int)) (false, (false, ((0 : Int), (([] : List V_api_Pair), (([] : List (List UInt8)), (([] : List Int), (([] : List V_api_Sum), ([] : List V_api_Msg)))))))))
  rec b0 x11 x10))))))
  else
  (some (((), ()), ((), (b0, ((), (b1, ()))))))
def pool_Drop_l0 (N n : Nat) (b0 : (List V_api_Slot)) (b1 : (List V_api_Slot)) (b2 : (List Int)) : Option (((Unit × Unit) × (Unit × ((List V_api_Slot) × (Unit × ((List V_api_Slot) × Unit)))))) :=
  iter (fun (rec : ((Unit × (Unit × Unit)) × (Unit × ((List V_api_Slot) × (Unit × ((List V_api_Slot) × ((List Int) × Unit)))))) → Option (((Unit × Unit) × (Unit × ((List V_api_Slot) × (Unit × ((List V_api_Slot) × Unit))))))) v => pool_Drop_l0_step N (fun b0 b1 b2 => rec (((), ((), ())), ((), (b0, ((), (b1, (b2, ()))))))) v.2.2.1 v.2.2.2.2.1 v.2.2.2.2.2.1) n (((), ((), ())), ((), (b0, ((), (b1, (b2, ()))))))
theorem pool_Drop_l0_succ (N n : Nat) (b0 : (List V_api_Slot)) (b1 : (List V_api_Slot)) (b2 : (List Int)) : pool_Drop_l0 N (n + 1) b0 b1 b2 = pool_Drop_l0_step N (fun b0  b1  b2  => pool_Drop_l0 N n b0 b1 b2) b0 b1 b2 := rfl
def pool_Drop (N : Nat) (a0 : (List V_api_Slot)) (a1 : Int) : Option (((List V_api_Slot) × Int)) :=
  match pool_used N a0 a1 with
  | some r1 => (bif (!r1) then
  (some (a0, (110 : Int)))
  else
  (match pool_clone N a0 with
  | some r2 => (match pool_Drop_l0 N N ([] : List V_api_Slot) r2 ([a1] : List Int) with
  | some r12 => (some (r12.2.2.2.2.1, (0 : Int)))
  | none => none)
  | none => none))
  | none => none

/-- downspout/pool.Get -/
def pool_Get (N : Nat) (a0 : (List V_api_Slot)) (a1 : Int) : Option ((V_api_Node × Int)) :=
  match pool_used N a0 a1 with
  | some r1 => (bif (!r1) then
  (some ((([] : List V_api_Pair), (([] : List (List UInt8)), (([] : List Int), (([] : List V_api_Sum), ([] : List V_api_Msg))))), (110 : Int)))
  else
  (gd (inB a1 (List.length a0))
  (bif ((rdL a0 a1 D_api_Slot).2).1 then
  (some ((([] : List V_api_Pair), (([] : List (List UInt8)), (([] : List Int), (([] : List V_api_Sum), ([] : List V_api_Msg))))), (112 : Int)))
  else
  (gd (inB a1 (List.length a0))
  (some (((((rdL a0 a1 D_api_Slot).2).2).2), (0 : Int)))))))
  | none => none

/-- downspout/downspoutlaw11.refs -/
def law11_refs_l0_step (N : Nat) (rec : Int → (List V_api_Slot) → (List Int) → Option ((Unit × ((List Int) × Unit)))) (b0 : Int) (b1 : (List V_api_Slot)) (b2 : (List Int)) : Option ((Unit × ((List Int) × Unit))) :=
  bif (decide (b0 < (List.length b1 : Int))) then
  (gd (inB b0 (List.length b1))
  (let x1 := ([(((rdL b1 b0 D_api_Slot).2).2).1] : List Int)
  gd (fits (List.length b2 + List.length x1) 8)
  (let x2 := (@HAppend.hAppend (List Int) (List Int) (List Int) _ b2 x1)
  rec (IntKind.wrap .i64 (b0 + (1 : Int))) b1 x2)))
  else
  (some ((), (b2, ())))
def law11_refs_l0 (N n : Nat) (b0 : Int) (b1 : (List V_api_Slot)) (b2 : (List Int)) : Option ((Unit × ((List Int) × Unit))) :=
  iter (fun (rec : ((Unit × (Unit × Int)) × ((List V_api_Slot) × ((List Int) × Unit))) → Option ((Unit × ((List Int) × Unit)))) v => law11_refs_l0_step N (fun b0 b1 b2 => rec (((), ((), b0)), (b1, (b2, ())))) v.1.2.2 v.2.1 v.2.2.1) n (((), ((), b0)), (b1, (b2, ())))
theorem law11_refs_l0_succ (N n : Nat) (b0 : Int) (b1 : (List V_api_Slot)) (b2 : (List Int)) : law11_refs_l0 N (n + 1) b0 b1 b2 = law11_refs_l0_step N (fun b0  b1  b2  => law11_refs_l0 N n b0 b1 b2) b0 b1 b2 := rfl
def law11_refs (N : Nat) (a0 : (List V_api_Slot)) : Option ((List Int)) :=
  match law11_refs_l0 N N (0 : Int) a0 ([] : List Int) with
  | some r3 => (some r3.2.1)
  | none => none

/-- downspout/downspoutref11.Ints -/
def ref11_Ints_l0_step (N : Nat) (rec : (List Int) → (List Int) → Int → Option ((Bool × Unit) ⊕ (Unit × Unit))) (b0 : (List Int)) (b1 : (List Int)) (b2 : Int) : Option ((Bool × Unit) ⊕ (Unit × Unit)) :=
  bif (decide (b2 < (List.length b0 : Int))) then
  (gd (inB b2 (List.length b0))
  (gd (inB b2 (List.length b1))
  (let x2 := (!(eqi (rdL b0 b2 (0 : Int)) (rdL b1 b2 (0 : Int))))
  bif x2 then
  (some (.inl (false, ())))
  else
  (rec b0 b1 (IntKind.wrap .i64 (b2 + (1 : Int)))))))
  else
  (some (.inr ((), ())))
def ref11_Ints_l0 (N n : Nat) (b0 : (List Int)) (b1 : (List Int)) (b2 : Int) : Option ((Bool × Unit) ⊕ (Unit × Unit)) :=
  iter (fun (rec : (((List Int) × ((List Int) × Int)) × Unit) → Option ((Bool × Unit) ⊕ (Unit × Unit))) v => ref11_Ints_l0_step N (fun b0 b1 b2 => rec ((b0, (b1, b2)), ())) v.1.1 v.1.2.1 v.1.2.2) n ((b0, (b1, b2)), ())
theorem ref11_Ints_l0_succ (N n : Nat) (b0 : (List Int)) (b1 : (List Int)) (b2 : Int) : ref11_Ints_l0 N (n + 1) b0 b1 b2 = ref11_Ints_l0_step N (fun b0  b1  b2  => ref11_Ints_l0 N n b0 b1 b2) b0 b1 b2 := rfl
def ref11_Ints (N : Nat) (a0 : (List Int)) (a1 : (List Int)) : Option (Bool) :=
  let x1 := (!(eqi (List.length a0 : Int) (List.length a1 : Int)))
  bif x1 then
  (some false)
  else
  (match ref11_Ints_l0 N N a0 a1 (0 : Int) with
  | some r3 => (match r3 with
  | .inl r4 => (some r4.1)
  | .inr r5 => (some true))
  | none => none)

/-- downspout/pool.Live -/
def pool_Live_l0_step (N : Nat) (rec : Int → (List V_api_Slot) → Int → Int → Option ((Int × Unit))) (b0 : Int) (b1 : (List V_api_Slot)) (b2 : Int) (b3 : Int) : Option ((Int × Unit)) :=
  bif (decide (b3 < b2)) then
  (gd (inB b3 (List.length b1))
  (bif (rdL b1 b3 D_api_Slot).1 then
  (rec (IntKind.wrap .i64 (b0 + (1 : Int))) b1 b2 (IntKind.wrap .i64 (b3 + (1 : Int))))
  else
  (rec b0 b1 b2 (IntKind.wrap .i64 (b3 + (1 : Int))))))
  else
  (some (b0, ()))
def pool_Live_l0 (N n : Nat) (b0 : Int) (b1 : (List V_api_Slot)) (b2 : Int) (b3 : Int) : Option ((Int × Unit)) :=
  iter (fun (rec : ((Int × ((List V_api_Slot) × (Int × Int))) × Unit) → Option ((Int × Unit))) v => pool_Live_l0_step N (fun b0 b1 b2 b3 => rec ((b0, (b1, (b2, b3))), ())) v.1.1 v.1.2.1 v.1.2.2.1 v.1.2.2.2) n ((b0, (b1, (b2, b3))), ())
theorem pool_Live_l0_succ (N n : Nat) (b0 : Int) (b1 : (List V_api_Slot)) (b2 : Int) (b3 : Int) : pool_Live_l0 N (n + 1) b0 b1 b2 b3 = pool_Live_l0_step N (fun b0  b1  b2  b3  => pool_Live_l0 N n b0 b1 b2 b3) b0 b1 b2 b3 := rfl
def pool_Live (N : Nat) (a0 : (List V_api_Slot)) : Option (Int) :=
  match pool_Live_l0 N N (0 : Int) a0 (List.length a0 : Int) (0 : Int) with
  | some r1 => (some r1.1)
  | none => none

/-- downspout/downspoutref05.Same -/
def ref05_Same_l0_step (N : Nat) (rec : (List V_api_Pair) → (List V_api_Pair) → Int → Option ((Bool × Unit) ⊕ (Unit × Unit))) (b0 : (List V_api_Pair)) (b1 : (List V_api_Pair)) (b2 : Int) : Option ((Bool × Unit) ⊕ (Unit × Unit)) :=
  bif (decide (b2 < (List.length b0 : Int))) then
  (gd (inB b2 (List.length b0))
  (gd (inB b2 (List.length b1))
  (let x2 := (!(eqs ((rdL b0 b2 D_api_Pair).1) ((rdL b1 b2 D_api_Pair).1) && (eqs (((rdL b0 b2 D_api_Pair).2).1) (((rdL b1 b2 D_api_Pair).2).1) && (eqi (((rdL b0 b2 D_api_Pair).2).2) (((rdL b1 b2 D_api_Pair).2).2) && true))))
  bif x2 then
  (some (.inl (false, ())))
  else
  (rec b0 b1 (IntKind.wrap .i64 (b2 + (1 : Int)))))))
  else
  (some (.inr ((), ())))
def ref05_Same_l0 (N n : Nat) (b0 : (List V_api_Pair)) (b1 : (List V_api_Pair)) (b2 : Int) : Option ((Bool × Unit) ⊕ (Unit × Unit)) :=
  iter (fun (rec : (((List V_api_Pair) × ((List V_api_Pair) × Int)) × Unit) → Option ((Bool × Unit) ⊕ (Unit × Unit))) v => ref05_Same_l0_step N (fun b0 b1 b2 => rec ((b0, (b1, b2)), ())) v.1.1 v.1.2.1 v.1.2.2) n ((b0, (b1, b2)), ())
theorem ref05_Same_l0_succ (N n : Nat) (b0 : (List V_api_Pair)) (b1 : (List V_api_Pair)) (b2 : Int) : ref05_Same_l0 N (n + 1) b0 b1 b2 = ref05_Same_l0_step N (fun b0  b1  b2  => ref05_Same_l0 N n b0 b1 b2) b0 b1 b2 := rfl
def ref05_Same (N : Nat) (a0 : (List V_api_Pair)) (a1 : (List V_api_Pair)) : Option (Bool) :=
  let x1 := (!(eqi (List.length a0 : Int) (List.length a1 : Int)))
  bif x1 then
  (some false)
  else
  (match ref05_Same_l0 N N a0 a1 (0 : Int) with
  | some r3 => (match r3 with
  | .inl r4 => (some r4.1)
  | .inr r5 => (some true))
  | none => none)

/-- downspout/downspoutref05.SameMsgs -/
def ref05_SameMsgs_l0_step (N : Nat) (rec : (List V_api_Msg) → (List V_api_Msg) → Int → Option ((Bool × Unit) ⊕ (Unit × Unit))) (b0 : (List V_api_Msg)) (b1 : (List V_api_Msg)) (b2 : Int) : Option ((Bool × Unit) ⊕ (Unit × Unit)) :=
  bif (decide (b2 < (List.length b0 : Int))) then
  (gd (inB b2 (List.length b0))
  (gd (inB b2 (List.length b1))
  (let x2 := (!(eqi ((rdL b0 b2 D_api_Msg).1) ((rdL b1 b2 D_api_Msg).1) && (eqs (((rdL b0 b2 D_api_Msg).2).1) (((rdL b1 b2 D_api_Msg).2).1) && (eqs ((((rdL b0 b2 D_api_Msg).2).2).1) ((((rdL b1 b2 D_api_Msg).2).2).1) && (eqs ((((((rdL b0 b2 D_api_Msg).2).2).2).1).1) ((((((rdL b1 b2 D_api_Msg).2).2).2).1).1) && (eqs ((((((rdL b0 b2 D_api_Msg).2).2).2).1).2) ((((((rdL b1 b2 D_api_Msg).2).2).2).1).2) && (eqs ((((((rdL b0 b2 D_api_Msg).2).2).2).2).1) ((((((rdL b1 b2 D_api_Msg).2).2).2).2).1) && (eqs (((((((rdL b0 b2 D_api_Msg).2).2).2).2).2).1) (((((((rdL b1 b2 D_api_Msg).2).2).2).2).2).1) && (eqi (((((((rdL b0 b2 D_api_Msg).2).2).2).2).2).2) (((((((rdL b1 b2 D_api_Msg).2).2).2).2).2).2) && true)))))))))
  bif x2 then
  (some (.inl (false, ())))
  else
  (rec b0 b1 (IntKind.wrap .i64 (b2 + (1 : Int)))))))
  else
  (some (.inr ((), ())))
def ref05_SameMsgs_l0 (N n : Nat) (b0 : (List V_api_Msg)) (b1 : (List V_api_Msg)) (b2 : Int) : Option ((Bool × Unit) ⊕ (Unit × Unit)) :=
  iter (fun (rec : (((List V_api_Msg) × ((List V_api_Msg) × Int)) × Unit) → Option ((Bool × Unit) ⊕ (Unit × Unit))) v => ref05_SameMsgs_l0_step N (fun b0 b1 b2 => rec ((b0, (b1, b2)), ())) v.1.1 v.1.2.1 v.1.2.2) n ((b0, (b1, b2)), ())
theorem ref05_SameMsgs_l0_succ (N n : Nat) (b0 : (List V_api_Msg)) (b1 : (List V_api_Msg)) (b2 : Int) : ref05_SameMsgs_l0 N (n + 1) b0 b1 b2 = ref05_SameMsgs_l0_step N (fun b0  b1  b2  => ref05_SameMsgs_l0 N n b0 b1 b2) b0 b1 b2 := rfl
def ref05_SameMsgs (N : Nat) (a0 : (List V_api_Msg)) (a1 : (List V_api_Msg)) : Option (Bool) :=
  let x1 := (!(eqi (List.length a0 : Int) (List.length a1 : Int)))
  bif x1 then
  (some false)
  else
  (match ref05_SameMsgs_l0 N N a0 a1 (0 : Int) with
  | some r3 => (match r3 with
  | .inl r4 => (some r4.1)
  | .inr r5 => (some true))
  | none => none)

/-- downspout/downspoutref11.SameNode -/
def ref11_SameNode_l3_step (N : Nat) (rec : Int → (List V_api_Pair) → (List (List UInt8)) → (List Int) → (List V_api_Sum) → (List V_api_Msg) → (List V_api_Pair) → (List (List UInt8)) → (List Int) → (List V_api_Sum) → (List V_api_Msg) → Option ((Bool × Unit) ⊕ (Unit × Unit))) (b0 : Int) (b1 : (List V_api_Pair)) (b2 : (List (List UInt8))) (b3 : (List Int)) (b4 : (List V_api_Sum)) (b5 : (List V_api_Msg)) (b6 : (List V_api_Pair)) (b7 : (List (List UInt8))) (b8 : (List Int)) (b9 : (List V_api_Sum)) (b10 : (List V_api_Msg)) : Option ((Bool × Unit) ⊕ (Unit × Unit)) :=
  bif (decide (b0 < (List.length b4 : Int))) then
  (gd (inB b0 (List.length b4))
  (gd (inB b0 (List.length b9))
  (let x9 := (!(eqi (((rdL b4 b0 D_api_Sum).1).1) (((rdL b9 b0 D_api_Sum).1).1) && (eqi (((rdL b4 b0 D_api_Sum).1).2) (((rdL b9 b0 D_api_Sum).1).2) && (eqi (((rdL b4 b0 D_api_Sum).2).1) (((rdL b9 b0 D_api_Sum).2).1) && (eqi (((rdL b4 b0 D_api_Sum).2).2) (((rdL b9 b0 D_api_Sum).2).2) && true)))))
  bif x9 then
  (some (.inl (false, ())))
  else
  (rec (IntKind.wrap .i64 (b0 + (1 : Int))) b1 b2 b3 b4 b5 b6 b7 b8 b9 b10))))
  else
  (some (.inr ((), ())))
def ref11_SameNode_l3 (N n : Nat) (b0 : Int) (b1 : (List V_api_Pair)) (b2 : (List (List UInt8))) (b3 : (List Int)) (b4 : (List V_api_Sum)) (b5 : (List V_api_Msg)) (b6 : (List V_api_Pair)) (b7 : (List (List UInt8))) (b8 : (List Int)) (b9 : (List V_api_Sum)) (b10 : (List V_api_Msg)) : Option ((Bool × Unit) ⊕ (Unit × Unit)) :=
  iter (fun (rec : ((Unit × (Unit × Int)) × (((List V_api_Pair) × ((List (List UInt8)) × ((List Int) × ((List V_api_Sum) × (List V_api_Msg))))) × (((List V_api_Pair) × ((List (List UInt8)) × ((List Int) × ((List V_api_Sum) × (List V_api_Msg))))) × Unit))) → Option ((Bool × Unit) ⊕ (Unit × Unit))) v => ref11_SameNode_l3_step N (fun b0 b1 b2 b3 b4 b5 b6 b7 b8 b9 b10 => rec (((), ((), b0)), ((b1, (b2, (b3, (b4, b5)))), ((b6, (b7, (b8, (b9, b10)))), ())))) v.1.2.2 v.2.1.1 v.2.1.2.1 v.2.1.2.2.1 v.2.1.2.2.2.1 v.2.1.2.2.2.2 v.2.2.1.1 v.2.2.1.2.1 v.2.2.1.2.2.1 v.2.2.1.2.2.2.1 v.2.2.1.2.2.2.2) n (((), ((), b0)), ((b1, (b2, (b3, (b4, b5)))), ((b6, (b7, (b8, (b9, b10)))), ())))
theorem ref11_SameNode_l3_succ (N n : Nat) (b0 : Int) (b1 : (List V_api_Pair)) (b2 : (List (List UInt8))) (b3 : (List Int)) (b4 : (List V_api_Sum)) (b5 : (List V_api_Msg)) (b6 : (List V_api_Pair)) (b7 : (List (List UInt8))) (b8 : (List Int)) (b9 : (List V_api_Sum)) (b10 : (List V_api_Msg)) : ref11_SameNode_l3 N (n + 1) b0 b1 b2 b3 b4 b5 b6 b7 b8 b9 b10 = ref11_SameNode_l3_step N (fun b0  b1  b2  b3  b4  b5  b6  b7  b8  b9  b10  => ref11_SameNode_l3 N n b0 b1 b2 b3 b4 b5 b6 b7 b8 b9 b10) b0 b1 b2 b3 b4 b5 b6 b7 b8 b9 b10 := rfl
def ref11_SameNode_l2_step (N : Nat) (rec : Int → (List V_api_Pair) → (List (List UInt8)) → (List Int) → (List V_api_Sum) → (List V_api_Msg) → (List V_api_Pair) → (List (List UInt8)) → (List Int) → (List V_api_Sum) → (List V_api_Msg) → Option ((Bool × Unit) ⊕ ((Unit × Unit) × (((List V_api_Pair) × ((List (List UInt8)) × ((List Int) × ((List V_api_Sum) × (List V_api_Msg))))) × (((List V_api_Pair) × ((List (List UInt8)) × ((List Int) × ((List V_api_Sum) × (List V_api_Msg))))) × Unit))))) (b0 : Int) (b1 : (List V_api_Pair)) (b2 : (List (List UInt8))) (b3 : (List Int)) (b4 : (List V_api_Sum)) (b5 : (List V_api_Msg)) (b6 : (List V_api_Pair)) (b7 : (List (List UInt8))) (b8 : (List Int)) (b9 : (List V_api_Sum)) (b10 : (List V_api_Msg)) : Option ((Bool × Unit) ⊕ ((Unit × Unit) × (((List V_api_Pair) × ((List (List UInt8)) × ((List Int) × ((List V_api_Sum) × (List V_api_Msg))))) × (((List V_api_Pair) × ((List (List UInt8)) × ((List Int) × ((List V_api_Sum) × (List V_api_Msg))))) × Unit)))) :=
  bif (decide (b0 < (List.length b2 : Int))) then
  (gd (inB b0 (List.length b2))
  (gd (inB b0 (List.length b7))
  (let x5 := (!(eqs (rdL b2 b0 ([] : List UInt8)) (rdL b7 b0 ([] : List UInt8))))
  bif x5 then
  (some (.inl (false, ())))
  else
  (rec (IntKind.wrap .i64 (b0 + (1 : Int))) b1 b2 b3 b4 b5 b6 b7 b8 b9 b10))))
  else
  (some (.inr (((), ()), ((b1, (b2, (b3, (b4, b5)))), ((b6, (b7, (b8, (b9, b10)))), ())))))
def ref11_SameNode_l2 (N n : Nat) (b0 : Int) (b1 : (List V_api_Pair)) (b2 : (List (List UInt8))) (b3 : (List Int)) (b4 : (List V_api_Sum)) (b5 : (List V_api_Msg)) (b6 : (List V_api_Pair)) (b7 : (List (List UInt8))) (b8 : (List Int)) (b9 : (List V_api_Sum)) (b10 : (List V_api_Msg)) : Option ((Bool × Unit) ⊕ ((Unit × Unit) × (((List V_api_Pair) × ((List (List UInt8)) × ((List Int) × ((List V_api_Sum) × (List V_api_Msg))))) × (((List V_api_Pair) × ((List (List UInt8)) × ((List Int) × ((List V_api_Sum) × (List V_api_Msg))))) × Unit)))) :=
  iter (fun (rec : ((Unit × (Unit × Int)) × (((List V_api_Pair) × ((List (List UInt8)) × ((List Int) × ((List V_api_Sum) × (List V_api_Msg))))) × (((List V_api_Pair) × ((List (List UInt8)) × ((List Int) × ((List V_api_Sum) × (List V_api_Msg))))) × Unit))) → Option ((Bool × Unit) ⊕ ((Unit × Unit) × (((List V_api_Pair) × ((List (List UInt8)) × ((List Int) × ((List V_api_Sum) × (List V_api_Msg))))) × (((List V_api_Pair) × ((List (List UInt8)) × ((List Int) × ((List V_api_Sum) × (List V_api_Msg))))) × Unit))))) v => ref11_SameNode_l2_step N (fun b0 b1 b2 b3 b4 b5 b6 b7 b8 b9 b10 => rec (((), ((), b0)), ((b1, (b2, (b3, (b4, b5)))), ((b6, (b7, (b8, (b9, b10)))), ())))) v.1.2.2 v.2.1.1 v.2.1.2.1 v.2.1.2.2.1 v.2.1.2.2.2.1 v.2.1.2.2.2.2 v.2.2.1.1 v.2.2.1.2.1 v.2.2.1.2.2.1 v.2.2.1.2.2.2.1 v.2.2.1.2.2.2.2) n (((), ((), b0)), ((b1, (b2, (b3, (b4, b5)))), ((b6, (b7, (b8, (b9, b10)))), ())))
theorem ref11_SameNode_l2_succ (N n : Nat) (b0 : Int) (b1 : (List V_api_Pair)) (b2 : (List (List UInt8))) (b3 : (List Int)) (b4 : (List V_api_Sum)) (b5 : (List V_api_Msg)) (b6 : (List V_api_Pair)) (b7 : (List (List UInt8))) (b8 : (List Int)) (b9 : (List V_api_Sum)) (b10 : (List V_api_Msg)) : ref11_SameNode_l2 N (n + 1) b0 b1 b2 b3 b4 b5 b6 b7 b8 b9 b10 = ref11_SameNode_l2_step N (fun b0  b1  b2  b3  b4  b5  b6  b7  b8  b9  b10  => ref11_SameNode_l2 N n b0 b1 b2 b3 b4 b5 b6 b7 b8 b9 b10) b0 b1 b2 b3 b4 b5 b6 b7 b8 b9 b10 := rfl
def ref11_SameNode_p1 (N : Nat) (b0 : Bool) (b1 : (List V_api_Pair)) (b2 : (List (List UInt8))) (b3 : (List Int)) (b4 : (List V_api_Sum)) (b5 : (List V_api_Msg)) (b6 : (List V_api_Pair)) (b7 : (List (List UInt8))) (b8 : (List Int)) (b9 : (List V_api_Sum)) (b10 : (List V_api_Msg)) : Option ((Bool × Unit) ⊕ ((Unit × Unit) × (((List V_api_Pair) × ((List (List UInt8)) × ((List Int) × ((List V_api_Sum) × (List V_api_Msg))))) × (((List V_api_Pair) × ((List (List UInt8)) × ((List Int) × ((List V_api_Sum) × (List V_api_Msg))))) × Unit)))) :=
  bif b0 then
  (some (.inl (false, ())))
  else
  (some (.inr (((), ()), ((b1, (b2, (b3, (b4, b5)))), ((b6, (b7, (b8, (b9, b10)))), ())))))
def ref11_SameNode_p0 (N : Nat) (b0 : (List V_api_Pair)) (b1 : (List (List UInt8))) (b2 : (List Int)) (b3 : (List V_api_Sum)) (b4 : (List V_api_Msg)) (b5 : (List V_api_Pair)) (b6 : (List (List UInt8))) (b7 : (List Int)) (b8 : (List V_api_Sum)) (b9 : (List V_api_Msg)) : Option ((Bool × Unit)) :=
  match ref11_SameNode_l2 N N (0 : Int) b0 b1 b2 b3 b4 b5 b6 b7 b8 b9 with
  | some r6 => (match r6 with
  | .inl r7 => (some (r7.1, ()))
  | .inr r8 => (match ref11_SameNode_l3 N N (0 : Int) r8.2.1.1 r8.2.1.2.1 r8.2.1.2.2.1 r8.2.1.2.2.2.1 r8.2.1.2.2.2.2 r8.2.2.1.1 r8.2.2.1.2.1 r8.2.2.1.2.2.1 r8.2.2.1.2.2.2.1 r8.2.2.1.2.2.2.2 with
  | some r10 => (match r10 with
  | .inl r11 => (some (r11.1, ()))
  | .inr r12 => (some (true, ())))
  | none => none))
  | none => none
def ref11_SameNode (N : Nat) (a0 : V_api_Node) (a1 : V_api_Node) : Option (Bool) :=
  match ref05_Same N a0.1 a1.1 with
  | some r1 => (bif (!r1) then
  (match ref11_SameNode_p1 N true a0.1 a0.2.1 a0.2.2.1 a0.2.2.2.1 a0.2.2.2.2 a1.1 a1.2.1 a1.2.2.1 a1.2.2.2.1 a1.2.2.2.2 with
  | some r2 => (match r2 with
  | .inl r3 => (some r3.1)
  | .inr r4 => (match ref11_SameNode_p0 N r4.2.1.1 r4.2.1.2.1 r4.2.1.2.2.1 r4.2.1.2.2.2.1 r4.2.1.2.2.2.2 r4.2.2.1.1 r4.2.2.1.2.1 r4.2.2.1.2.2.1 r4.2.2.1.2.2.2.1 r4.2.2.1.2.2.2.2 with
  | some r13 => (some r13.1)
  | none => none))
  | none => none)
  else
  (match ref11_Ints N a0.2.2.1 a1.2.2.1 with
  | some r14 => (bif (!r14) then
  (match ref11_SameNode_p1 N true a0.1 a0.2.1 a0.2.2.1 a0.2.2.2.1 a0.2.2.2.2 a1.1 a1.2.1 a1.2.2.1 a1.2.2.2.1 a1.2.2.2.2 with
  | some r15 => (match r15 with
  | .inl r16 => (some r16.1)
  | .inr r17 => (match ref11_SameNode_p0 N r17.2.1.1 r17.2.1.2.1 r17.2.1.2.2.1 r17.2.1.2.2.2.1 r17.2.1.2.2.2.2 r17.2.2.1.1 r17.2.2.1.2.1 r17.2.2.1.2.2.1 r17.2.2.1.2.2.2.1 r17.2.2.1.2.2.2.2 with
  | some r18 => (some r18.1)
  | none => none))
  | none => none)
  else
  (match ref05_SameMsgs N a0.2.2.2.2 a1.2.2.2.2 with
  | some r19 => (bif (!r19) then
  (match ref11_SameNode_p1 N true a0.1 a0.2.1 a0.2.2.1 a0.2.2.2.1 a0.2.2.2.2 a1.1 a1.2.1 a1.2.2.1 a1.2.2.2.1 a1.2.2.2.2 with
  | some r20 => (match r20 with
  | .inl r21 => (some r21.1)
  | .inr r22 => (match ref11_SameNode_p0 N r22.2.1.1 r22.2.1.2.1 r22.2.1.2.2.1 r22.2.1.2.2.2.1 r22.2.1.2.2.2.2 r22.2.2.1.1 r22.2.2.1.2.1 r22.2.2.1.2.2.1 r22.2.2.1.2.2.2.1 r22.2.2.1.2.2.2.2 with
  | some r23 => (some r23.1)
  | none => none))
  | none => none)
  else
  (let x24 := (!(eqi (List.length a0.2.1 : Int) (List.length a1.2.1 : Int)))
  bif x24 then
  (match ref11_SameNode_p1 N true a0.1 a0.2.1 a0.2.2.1 a0.2.2.2.1 a0.2.2.2.2 a1.1 a1.2.1 a1.2.2.1 a1.2.2.2.1 a1.2.2.2.2 with
  | some r25 => (match r25 with
  | .inl r26 => (some r26.1)
  | .inr r27 => (match ref11_SameNode_p0 N r27.2.1.1 r27.2.1.2.1 r27.2.1.2.2.1 r27.2.1.2.2.2.1 r27.2.1.2.2.2.2 r27.2.2.1.1 r27.2.2.1.2.1 r27.2.2.1.2.2.1 r27.2.2.1.2.2.2.1 r27.2.2.1.2.2.2.2 with
  | some r28 => (some r28.1)
  | none => none))
  | none => none)
  else
  (let x29 := (!(eqi (List.length a0.2.2.2.1 : Int) (List.length a1.2.2.2.1 : Int)))
  match ref11_SameNode_p1 N x29 a0.1 a0.2.1 a0.2.2.1 a0.2.2.2.1 a0.2.2.2.2 a1.1 a1.2.1 a1.2.2.1 a1.2.2.2.1 a1.2.2.2.2 with
  | some r30 => (match r30 with
  | .inl r31 => (some r31.1)
  | .inr r32 => (match ref11_SameNode_p0 N r32.2.1.1 r32.2.1.2.1 r32.2.1.2.2.1 r32.2.1.2.2.2.1 r32.2.1.2.2.2.2 r32.2.2.1.1 r32.2.2.1.2.1 r32.2.2.1.2.2.1 r32.2.2.1.2.2.2.1 r32.2.2.1.2.2.2.2 with
  | some r33 => (some r33.1)
  | none => none))
  | none => none)))
  | none => none))
  | none => none))
  | none => none

/-- downspout/downspoutref11.Same -/
def ref11_Same_l0_step (N : Nat) (rec : Int → (List V_api_Slot) → (List V_api_Slot) → Option ((Bool × Unit) ⊕ (Unit × Unit))) (b0 : Int) (b1 : (List V_api_Slot)) (b2 : (List V_api_Slot)) : Option ((Bool × Unit) ⊕ (Unit × Unit)) :=
  bif (decide (b0 < (List.length b1 : Int))) then
  (gd (inB b0 (List.length b1))
  (gd (inB b0 (List.length b2))
  (let x2 := (!(eqb ((rdL b1 b0 D_api_Slot).1) ((rdL b2 b0 D_api_Slot).1)))
  bif x2 then
  (some (.inl (false, ())))
  else
  (let x3 := (!(eqb (((rdL b1 b0 D_api_Slot).2).1) (((rdL b2 b0 D_api_Slot).2).1)))
  bif x3 then
  (some (.inl (false, ())))
  else
  (let x4 := (!(eqi ((((rdL b1 b0 D_api_Slot).2).2).1) ((((rdL b2 b0 D_api_Slot).2).2).1)))
  bif x4 then
  (some (.inl (false, ())))
  else
  (match ref11_SameNode N ((((rdL b1 b0 D_api_Slot).2).2).2) ((((rdL b2 b0 D_api_Slot).2).2).2) with
  | some r5 => (bif (!r5) then
  (some (.inl (false, ())))
  else
  (rec (IntKind.wrap .i64 (b0 + (1 : Int))) b1 b2))
  | none => none))))))
  else
  (some (.inr ((), ())))
def ref11_Same_l0 (N n : Nat) (b0 : Int) (b1 : (List V_api_Slot)) (b2 : (List V_api_Slot)) : Option ((Bool × Unit) ⊕ (Unit × Unit)) :=
  iter (fun (rec : ((Unit × (Unit × Int)) × ((List V_api_Slot) × ((List V_api_Slot) × Unit))) → Option ((Bool × Unit) ⊕ (Unit × Unit))) v => ref11_Same_l0_step N (fun b0 b1 b2 => rec (((), ((), b0)), (b1, (b2, ())))) v.1.2.2 v.2.1 v.2.2.1) n (((), ((), b0)), (b1, (b2, ())))
theorem ref11_Same_l0_succ (N n : Nat) (b0 : Int) (b1 : (List V_api_Slot)) (b2 : (List V_api_Slot)) : ref11_Same_l0 N (n + 1) b0 b1 b2 = ref11_Same_l0_step N (fun b0  b1  b2  => ref11_Same_l0 N n b0 b1 b2) b0 b1 b2 := rfl
def ref11_Same (N : Nat) (a0 : (List V_api_Slot)) (a1 : (List V_api_Slot)) : Option (Bool) :=
  let x1 := (!(eqi (List.length a0 : Int) (List.length a1 : Int)))
  bif x1 then
  (some false)
  else
  (match ref11_Same_l0 N N (0 : Int) a0 a1 with
  | some r6 => (match r6 with
  | .inl r7 => (some r7.1)
  | .inr r8 => (some true))
  | none => none)

/-- downspout/pool.Sound$1 -/
def pool_Sound_c1_m_l0_step (N : Nat) (rec : (List Int) → Int → Int → (List V_api_Slot) → (List Int) → Option ((Bool × ((List V_api_Slot) × (Unit × ((List Int) × Unit)))) ⊕ (Unit × ((List V_api_Slot) × (Unit × ((List Int) × Unit)))))) (b0 : (List Int)) (b1 : Int) (b2 : Int) (b3 : (List V_api_Slot)) (b4 : (List Int)) : Option ((Bool × ((List V_api_Slot) × (Unit × ((List Int) × Unit)))) ⊕ (Unit × ((List V_api_Slot) × (Unit × ((List Int) × Unit))))) :=
  bif (decide (b2 < b1)) then
  (gd (inB b2 (List.length b0))
  (match pool_used N b3 (rdL b0 b2 (0 : Int)) with
  | some r1 => (bif (!r1) then
  (some (.inl (false, (b3, ((), (b4, ()))))))
  else
  (gd (inB (rdL b0 b2 (0 : Int)) (List.length b4))
  (let x2 := (IntKind.wrap .i64 ((rdL b4 (rdL b0 b2 (0 : Int)) (0 : Int)) + (1 : Int)))
  gd (inB (rdL b0 b2 (0 : Int)) (List.length b4))
  (rec b0 b1 (IntKind.wrap .i64 (b2 + (1 : Int))) b3 (setL b4 (rdL b0 b2 (0 : Int)) x2)))))
  | none => none))
  else
  (some (.inr ((), (b3, ((), (b4, ()))))))
def pool_Sound_c1_m_l0 (N n : Nat) (b0 : (List Int)) (b1 : Int) (b2 : Int) (b3 : (List V_api_Slot)) (b4 : (List Int)) : Option ((Bool × ((List V_api_Slot) × (Unit × ((List Int) × Unit)))) ⊕ (Unit × ((List V_api_Slot) × (Unit × ((List Int) × Unit))))) :=
  iter (fun (rec : ((Unit × (Unit × ((List Int) × (Int × Int)))) × ((List V_api_Slot) × (Unit × ((List Int) × Unit)))) → Option ((Bool × ((List V_api_Slot) × (Unit × ((List Int) × Unit)))) ⊕ (Unit × ((List V_api_Slot) × (Unit × ((List Int) × Unit)))))) v => pool_Sound_c1_m_l0_step N (fun b0 b1 b2 b3 b4 => rec (((), ((), (b0, (b1, b2)))), (b3, ((), (b4, ()))))) v.1.2.2.1 v.1.2.2.2.1 v.1.2.2.2.2 v.2.1 v.2.2.2.1) n (((), ((), (b0, (b1, b2)))), (b3, ((), (b4, ()))))
theorem pool_Sound_c1_m_l0_succ (N n : Nat) (b0 : (List Int)) (b1 : Int) (b2 : Int) (b3 : (List V_api_Slot)) (b4 : (List Int)) : pool_Sound_c1_m_l0 N (n + 1) b0 b1 b2 b3 b4 = pool_Sound_c1_m_l0_step N (fun b0  b1  b2  b3  b4  => pool_Sound_c1_m_l0 N n b0 b1 b2 b3 b4) b0 b1 b2 b3 b4 := rfl
def pool_Sound_c1_m (N : Nat) (a0 : (List Int)) (a1 : (List V_api_Slot)) (a2 : (List Int)) : Option ((Bool × ((List V_api_Slot) × (Unit × ((List Int) × Unit))))) :=
  match pool_Sound_c1_m_l0 N N a0 (List.length a0 : Int) (0 : Int) a1 a2 with
  | some r3 => (match r3 with
  | .inl r4 => (some (r4.1, (r4.2.1, ((), (r4.2.2.2.1, ())))))
  | .inr r5 => (some (true, (r5.2.1, ((), (r5.2.2.2.1, ()))))))
  | none => none

/-- downspout/pool.Sound$2 -/
def pool_Sound_c2_m (N : Nat) (a0 : Int) (a1 : Int) : Option ((Unit × (Int × Unit))) :=
  some ((), ((IntKind.wrap .i64 (a1 + (1 : Int))), ()))

/-- downspout/pool.visit$1 -/
def pool_visit_c1_m_a_l0_step (N : Nat) (self : Int → (List V_api_Slot) → (List Int) → Bool → Int → Option ((Unit × ((List V_api_Slot) × (Unit × ((List Int) × (Bool × ((Unit × (Unit × (Unit × (Unit × Unit)))) × (Unit × (Int × Unit)))))))))) (rec : Int → (List Int) → Int → Int → (List Int) → (List V_api_Slot) → Bool → Int → Option (((Int × (Unit × Unit)) × (Unit × ((List Int) × (Unit × (Int × ((List V_api_Slot) × (Bool × ((Unit × (Unit × (Unit × (Unit × Unit)))) × Unit)))))))))) (b0 : Int) (b1 : (List Int)) (b2 : Int) (b3 : Int) (b4 : (List Int)) (b5 : (List V_api_Slot)) (b6 : Bool) (b7 : Int) : Option (((Int × (Unit × Unit)) × (Unit × ((List Int) × (Unit × (Int × ((List V_api_Slot) × (Bool × ((Unit × (Unit × (Unit × (Unit × Unit)))) × Unit))))))))) :=
  bif (decide (b3 < b2)) then
  (gd (inB b3 (List.length b1))
  (match self (rdL b1 b3 (0 : Int)) b5 b4 b6 b7 with
  | some r3 => (rec b0 b1 b2 (IntKind.wrap .i64 (b3 + (1 : Int))) r3.2.2.2.1 r3.2.1 r3.2.2.2.2.1 r3.2.2.2.2.2.2.2.1)
  | none => none))
  else
  (some ((b0, ((), ())), ((), (b4, ((), (b7, (b5, (b6, (((), ((), ((), ((), ())))), ())))))))))
def pool_visit_c1_m_a_l0 (N : Nat) (self : Int → (List V_api_Slot) → (List Int) → Bool → Int → Option ((Unit × ((List V_api_Slot) × (Unit × ((List Int) × (Bool × ((Unit × (Unit × (Unit × (Unit × Unit)))) × (Unit × (Int × Unit)))))))))) (n : Nat) (b0 : Int) (b1 : (List Int)) (b2 : Int) (b3 : Int) (b4 : (List Int)) (b5 : (List V_api_Slot)) (b6 : Bool) (b7 : Int) : Option (((Int × (Unit × Unit)) × (Unit × ((List Int) × (Unit × (Int × ((List V_api_Slot) × (Bool × ((Unit × (Unit × (Unit × (Unit × Unit)))) × Unit))))))))) :=
  iter (fun (rec : ((Int × (Unit × (Unit × (Unit × ((List Int) × (Int × Int)))))) × (Unit × ((List Int) × ((Unit × (Unit × (Unit × (Unit × Unit)))) × ((List V_api_Slot) × (Bool × (Unit × (Int × Unit)))))))) → Option (((Int × (Unit × Unit)) × (Unit × ((List Int) × (Unit × (Int × ((List V_api_Slot) × (Bool × ((Unit × (Unit × (Unit × (Unit × Unit)))) × Unit)))))))))) v => pool_visit_c1_m_a_l0_step N self (fun b0 b1 b2 b3 b4 b5 b6 b7 => rec ((b0, ((), ((), ((), (b1, (b2, b3)))))), ((), (b4, (((), ((), ((), ((), ())))), (b5, (b6, ((), (b7, ()))))))))) v.1.1 v.1.2.2.2.2.1 v.1.2.2.2.2.2.1 v.1.2.2.2.2.2.2 v.2.2.1 v.2.2.2.2.1 v.2.2.2.2.2.1 v.2.2.2.2.2.2.2.1) n ((b0, ((), ((), ((), (b1, (b2, b3)))))), ((), (b4, (((), ((), ((), ((), ())))), (b5, (b6, ((), (b7, ()))))))))
theorem pool_visit_c1_m_a_l0_succ (N : Nat) (self : Int → (List V_api_Slot) → (List Int) → Bool → Int → Option ((Unit × ((List V_api_Slot) × (Unit × ((List Int) × (Bool × ((Unit × (Unit × (Unit × (Unit × Unit)))) × (Unit × (Int × Unit)))))))))) (n : Nat) (b0 : Int) (b1 : (List Int)) (b2 : Int) (b3 : Int) (b4 : (List Int)) (b5 : (List V_api_Slot)) (b6 : Bool) (b7 : Int) : pool_visit_c1_m_a_l0 N self (n + 1) b0 b1 b2 b3 b4 b5 b6 b7 = pool_visit_c1_m_a_l0_step N self (fun b0  b1  b2  b3  b4  b5  b6  b7  => pool_visit_c1_m_a_l0 N self n b0 b1 b2 b3 b4 b5 b6 b7) b0 b1 b2 b3 b4 b5 b6 b7 := rfl
def pool_visit_c1_m_a_step (N : Nat) (self : Int → (List V_api_Slot) → (List Int) → Bool → Int → Option ((Unit × ((List V_api_Slot) × (Unit × ((List Int) × (Bool × ((Unit × (Unit × (Unit × (Unit × Unit)))) × (Unit × (Int × Unit)))))))))) (a0 : Int) (a1 : (List V_api_Slot)) (a2 : (List Int)) (a3 : Bool) (a4 : Int) : Option ((Unit × ((List V_api_Slot) × (Unit × ((List Int) × (Bool × ((Unit × (Unit × (Unit × (Unit × Unit)))) × (Unit × (Int × Unit))))))))) :=
  match pool_used N a1 a0 with
  | some r1 => (bif (!r1) then
  (some ((), (a1, ((), (a2, (a3, (((), ((), ((), ((), ())))), ((), (a4, ())))))))))
  else
  (gd (inB a0 (List.length a2))
  (bif (eqi (rdL a2 a0 (0 : Int)) (2 : Int)) then
  (some ((), (a1, ((), (a2, (a3, (((), ((), ((), ((), ())))), ((), (a4, ())))))))))
  else
  (gd (inB a0 (List.length a2))
  (bif (eqi (rdL a2 a0 (0 : Int)) (1 : Int)) then
  (some ((), (a1, ((), (a2, (false, (((), ((), ((), ((), ())))), ((), (a4, ())))))))))
  else
  (gd (inB a0 (List.length a2))
  (gd (inB a0 (List.length a1))
  (let x2 := (List.length (((((((rdL a1 a0 D_api_Slot).2).2).2).2).2).1) : Int)
  match pool_visit_c1_m_a_l0 N self N a0 (((((((rdL a1 a0 D_api_Slot).2).2).2).2).2).1) x2 (0 : Int) (setL a2 a0 (1 : Int)) a1 a3 a4 with
  | some r4 => (gd (inB r4.1.1 (List.length r4.2.2.1))
  (match pool_Sound_c2_m N r4.1.1 r4.2.2.2.2.1 with
  | some r5 => (some ((), (r4.2.2.2.2.2.1, ((), ((setL r4.2.2.1 r4.1.1 (2 : Int)), (r4.2.2.2.2.2.2.1, (((), ((), ((), ((), ())))), ((), (r5.2.1, ())))))))))
  | none => none))
  | none => none))))))))
  | none => none
def pool_visit_c1_m_a_fuel (N n : Nat) (a0 : Int) (a1 : (List V_api_Slot)) (a2 : (List Int)) (a3 : Bool) (a4 : Int) : Option ((Unit × ((List V_api_Slot) × (Unit × ((List Int) × (Bool × ((Unit × (Unit × (Unit × (Unit × Unit)))) × (Unit × (Int × Unit))))))))) :=
  iter (fun (self : ((Int) × ((List V_api_Slot)) × ((List Int)) × (Bool) × (Int)) → Option ((Unit × ((List V_api_Slot) × (Unit × ((List Int) × (Bool × ((Unit × (Unit × (Unit × (Unit × Unit)))) × (Unit × (Int × Unit)))))))))) v => pool_visit_c1_m_a_step N (fun a0 a1 a2 a3 a4 => self (a0, (a1, (a2, (a3, a4))))) v.1 v.2.1 v.2.2.1 v.2.2.2.1 v.2.2.2.2) n (a0, (a1, (a2, (a3, a4))))
theorem pool_visit_c1_m_a_fuel_succ (N n : Nat) (a0 : Int) (a1 : (List V_api_Slot)) (a2 : (List Int)) (a3 : Bool) (a4 : Int) : pool_visit_c1_m_a_fuel N (n + 1) a0 a1 a2 a3 a4 = pool_visit_c1_m_a_step N (fun a0 a1 a2 a3 a4 => pool_visit_c1_m_a_fuel N n a0 a1 a2 a3 a4) a0 a1 a2 a3 a4 := rfl
def pool_visit_c1_m_a (N : Nat) (a0 : Int) (a1 : (List V_api_Slot)) (a2 : (List Int)) (a3 : Bool) (a4 : Int) : Option ((Unit × ((List V_api_Slot) × (Unit × ((List Int) × (Bool × ((Unit × (Unit × (Unit × (Unit × Unit)))) × (Unit × (Int × Unit))))))))) :=
  pool_visit_c1_m_a_fuel N N a0 a1 a2 a3 a4

/-- downspout/pool.visit -/
def pool_visit_m__pool_Sound_c2_l0_step (N : Nat) (rec : (List Int) → Int → Int → Bool → (List V_api_Slot) → (List Int) → Int → Option ((Unit × (Bool × (Int × Unit))))) (b0 : (List Int)) (b1 : Int) (b2 : Int) (b3 : Bool) (b4 : (List V_api_Slot)) (b5 : (List Int)) (b6 : Int) : Option ((Unit × (Bool × (Int × Unit)))) :=
  bif (decide (b2 < b1)) then
  (gd (inB b2 (List.length b0))
  (match pool_visit_c1_m_a N (rdL b0 b2 (0 : Int)) b4 b5 b3 b6 with
  | some r2 => (rec b0 b1 (IntKind.wrap .i64 (b2 + (1 : Int))) r2.2.2.2.2.1 r2.2.1 r2.2.2.2.1 r2.2.2.2.2.2.2.2.1)
  | none => none))
  else
  (some ((), (b3, (b6, ()))))
def pool_visit_m__pool_Sound_c2_l0 (N n : Nat) (b0 : (List Int)) (b1 : Int) (b2 : Int) (b3 : Bool) (b4 : (List V_api_Slot)) (b5 : (List Int)) (b6 : Int) : Option ((Unit × (Bool × (Int × Unit)))) :=
  iter (fun (rec : ((Unit × (Unit × ((List Int) × (Int × Int)))) × (Bool × ((Unit × (Unit × (Unit × (Unit × Unit)))) × ((List V_api_Slot) × (Unit × ((List Int) × (Unit × (Int × Unit)))))))) → Option ((Unit × (Bool × (Int × Unit))))) v => pool_visit_m__pool_Sound_c2_l0_step N (fun b0 b1 b2 b3 b4 b5 b6 => rec (((), ((), (b0, (b1, b2)))), (b3, (((), ((), ((), ((), ())))), (b4, ((), (b5, ((), (b6, ()))))))))) v.1.2.2.1 v.1.2.2.2.1 v.1.2.2.2.2 v.2.1 v.2.2.2.1 v.2.2.2.2.2.1 v.2.2.2.2.2.2.2.1) n (((), ((), (b0, (b1, b2)))), (b3, (((), ((), ((), ((), ())))), (b4, ((), (b5, ((), (b6, ()))))))))
theorem pool_visit_m__pool_Sound_c2_l0_succ (N n : Nat) (b0 : (List Int)) (b1 : Int) (b2 : Int) (b3 : Bool) (b4 : (List V_api_Slot)) (b5 : (List Int)) (b6 : Int) : pool_visit_m__pool_Sound_c2_l0 N (n + 1) b0 b1 b2 b3 b4 b5 b6 = pool_visit_m__pool_Sound_c2_l0_step N (fun b0  b1  b2  b3  b4  b5  b6  => pool_visit_m__pool_Sound_c2_l0 N n b0 b1 b2 b3 b4 b5 b6) b0 b1 b2 b3 b4 b5 b6 := rfl
def pool_visit_m__pool_Sound_c2 (N : Nat) (a0 : (List V_api_Slot)) (a1 : (List Int)) (a2 : Int) : Option ((Bool × (Int × Unit))) :=
  gd ((decide (0 ≤ (List.length a0 : Int)) && decide ((List.length a0 : Int) ≤ (List.length a0 : Int))) && (decide ((List.length a0 : Int) < maxB) && decide ((List.length a0 : Int) * 8 < maxB)))
  (let x1 := (List.replicate (Int.toNat (List.length a0 : Int)) (0 : Int))
  match pool_visit_m__pool_Sound_c2_l0 N N a1 (List.length a1 : Int) (0 : Int) true a0 x1 a2 with
  | some r3 => (some (r3.2.1, (r3.2.2.1, ())))
  | none => none)

/-- downspout/pool.empty -/
def pool_empty (N : Nat) (a0 : V_api_Slot) : Option (Bool) :=
  bif (!a0.1) then
  (bif (!a0.2.1) then
  (bif (eqi a0.2.2.1 (0 : Int)) then
  (let x1 := (IntKind.wrap .i64 ((List.length a0.2.2.2.1 : Int) + (List.length a0.2.2.2.2.1 : Int)))
  let x2 := (IntKind.wrap .i64 (x1 + (List.length a0.2.2.2.2.2.1 : Int)))
  let x3 := (IntKind.wrap .i64 (x2 + (List.length a0.2.2.2.2.2.2.1 : Int)))
  let x4 := (IntKind.wrap .i64 (x3 + (List.length a0.2.2.2.2.2.2.2 : Int)))
  some (eqi x4 (0 : Int)))
  else
  (some false))
  else
  (some false))
  else
  (some false)

/-- downspout/pool.Sound -/
def pool_Sound_l1_step (N : Nat) (rec : (List V_api_Slot) → Int → Int → (List Int) → Option ((Bool × Unit) ⊕ (Unit × Unit))) (b0 : (List V_api_Slot)) (b1 : Int) (b2 : Int) (b3 : (List Int)) : Option ((Bool × Unit) ⊕ (Unit × Unit)) :=
  bif (decide (b2 < b1)) then
  (gd (inB b2 (List.length b0))
  (gd (inB b2 (List.length b3))
  (let x11 := (!(eqi ((((rdL b0 b2 D_api_Slot).2).2).1) (rdL b3 b2 (0 : Int))))
  bif x11 then
  (some (.inl (false, ())))
  else
  (rec b0 b1 (IntKind.wrap .i64 (b2 + (1 : Int))) b3))))
  else
  (some (.inr ((), ())))
def pool_Sound_l1 (N n : Nat) (b0 : (List V_api_Slot)) (b1 : Int) (b2 : Int) (b3 : (List Int)) : Option ((Bool × Unit) ⊕ (Unit × Unit)) :=
  iter (fun (rec : ((Unit × ((List V_api_Slot) × (Int × Int))) × (Unit × ((List Int) × Unit))) → Option ((Bool × Unit) ⊕ (Unit × Unit))) v => pool_Sound_l1_step N (fun b0 b1 b2 b3 => rec (((), (b0, (b1, b2))), ((), (b3, ())))) v.1.2.1 v.1.2.2.1 v.1.2.2.2 v.2.2.1) n (((), (b0, (b1, b2))), ((), (b3, ())))
theorem pool_Sound_l1_succ (N n : Nat) (b0 : (List V_api_Slot)) (b1 : Int) (b2 : Int) (b3 : (List Int)) : pool_Sound_l1 N (n + 1) b0 b1 b2 b3 = pool_Sound_l1_step N (fun b0  b1  b2  b3  => pool_Sound_l1 N n b0 b1 b2 b3) b0 b1 b2 b3 := rfl
def pool_Sound_l0_step (N : Nat) (rec : (List V_api_Slot) → Int → Int → (List V_api_Slot) → (List Int) → Option ((Bool × Unit) ⊕ ((Unit × Unit) × ((List V_api_Slot) × (Unit × ((List Int) × Unit)))))) (b0 : (List V_api_Slot)) (b1 : Int) (b2 : Int) (b3 : (List V_api_Slot)) (b4 : (List Int)) : Option ((Bool × Unit) ⊕ ((Unit × Unit) × ((List V_api_Slot) × (Unit × ((List Int) × Unit))))) :=
  bif (decide (b2 < b1)) then
  (gd (inB b2 (List.length b0))
  (bif (rdL b0 b2 D_api_Slot).1 then
  (match pool_Sound_c1_m N (((((((rdL b0 b2 D_api_Slot).2).2).2).2).2).1) b3 b4 with
  | some r5 => (bif (!r5.1) then
  (some (.inl (false, ())))
  else
  (bif (!((rdL b0 b2 D_api_Slot).1)) then
  (match pool_empty N (rdL b0 b2 D_api_Slot) with
  | some r6 => (bif (!r6) then
  (some (.inl (false, ())))
  else
  (rec b0 b1 (IntKind.wrap .i64 (b2 + (1 : Int))) r5.2.1 r5.2.2.2.1))
  | none => none)
  else
  (rec b0 b1 (IntKind.wrap .i64 (b2 + (1 : Int))) r5.2.1 r5.2.2.2.1)))
  | none => none)
  else
  (bif (!((rdL b0 b2 D_api_Slot).1)) then
  (match pool_empty N (rdL b0 b2 D_api_Slot) with
  | some r7 => (bif (!r7) then
  (some (.inl (false, ())))
  else
  (rec b0 b1 (IntKind.wrap .i64 (b2 + (1 : Int))) b3 b4))
  | none => none)
  else
  (rec b0 b1 (IntKind.wrap .i64 (b2 + (1 : Int))) b3 b4))))
  else
  (some (.inr (((), ()), (b3, ((), (b4, ()))))))
def pool_Sound_l0 (N n : Nat) (b0 : (List V_api_Slot)) (b1 : Int) (b2 : Int) (b3 : (List V_api_Slot)) (b4 : (List Int)) : Option ((Bool × Unit) ⊕ ((Unit × Unit) × ((List V_api_Slot) × (Unit × ((List Int) × Unit))))) :=
  iter (fun (rec : ((Unit × (Unit × ((Unit × Unit) × ((List V_api_Slot) × (Int × Int))))) × ((List V_api_Slot) × (Unit × ((List Int) × Unit)))) → Option ((Bool × Unit) ⊕ ((Unit × Unit) × ((List V_api_Slot) × (Unit × ((List Int) × Unit)))))) v => pool_Sound_l0_step N (fun b0 b1 b2 b3 b4 => rec (((), ((), (((), ()), (b0, (b1, b2))))), (b3, ((), (b4, ()))))) v.1.2.2.2.1 v.1.2.2.2.2.1 v.1.2.2.2.2.2 v.2.1 v.2.2.2.1) n (((), ((), (((), ()), (b0, (b1, b2))))), (b3, ((), (b4, ()))))
theorem pool_Sound_l0_succ (N n : Nat) (b0 : (List V_api_Slot)) (b1 : Int) (b2 : Int) (b3 : (List V_api_Slot)) (b4 : (List Int)) : pool_Sound_l0 N (n + 1) b0 b1 b2 b3 b4 = pool_Sound_l0_step N (fun b0  b1  b2  b3  b4  => pool_Sound_l0 N n b0 b1 b2 b3 b4) b0 b1 b2 b3 b4 := rfl
def pool_Sound (N : Nat) (a0 : (List V_api_Slot)) (a1 : (List Int)) : Option (Bool) :=
  gd ((decide (0 ≤ (List.length a0 : Int)) && decide ((List.length a0 : Int) ≤ (List.length a0 : Int))) && (decide ((List.length a0 : Int) < maxB) && decide ((List.length a0 : Int) * 8 < maxB)))
  (let x1 := (List.replicate (Int.toNat (List.length a0 : Int)) (0 : Int))
  match pool_Sound_c1_m N a1 a0 x1 with
  | some r2 => (bif (!r2.1) then
  (some false)
  else
  (match pool_visit_m__pool_Sound_c2 N r2.2.1 a1 (0 : Int) with
  | some r3 => (bif (!r3.1) then
  (some false)
  else
  (match pool_Live N r2.2.1 with
  | some r4 => (bif (!(eqi r3.2.1 r4)) then
  (some false)
  else
  (match pool_Sound_l0 N N r2.2.1 (List.length r2.2.1 : Int) (0 : Int) r2.2.1 r2.2.2.2.1 with
  | some r8 => (match r8 with
  | .inl r9 => (some r9.1)
  | .inr r10 => (match pool_Sound_l1 N N r10.2.1 (List.length r10.2.1 : Int) (0 : Int) r10.2.2.2.1 with
  | some r12 => (match r12 with
  | .inl r13 => (some r13.1)
  | .inr r14 => (some true))
  | none => none))
  | none => none))
  | none => none))
  | none => none))
  | none => none)

/-- downspout/pool.Reach$1 -/
def pool_Reach_c1_m (N : Nat) (a0 : Int) (a1 : (List Int)) : Option ((Unit × (Unit × ((List Int) × Unit)))) :=
  gd (fits (List.length a1 + 1) 8)
  (let x1 := (@HAppend.hAppend (List Int) (List Int) (List Int) _ a1 ([a0] : List Int))
  some ((), ((), (x1, ()))))

/-- downspout/pool.visit$1 -/
def pool_visit_c1_m_b_l0_step (N : Nat) (self : Int → (List V_api_Slot) → (List Int) → Bool → (List Int) → Option ((Unit × ((List V_api_Slot) × (Unit × ((List Int) × (Bool × ((Unit × (Unit × (Unit × (Unit × Unit)))) × (Unit × (Unit × ((List Int) × Unit))))))))))) (rec : Int → (List Int) → Int → Int → (List Int) → (List V_api_Slot) → Bool → (List Int) → Option (((Int × (Unit × Unit)) × (Unit × ((List Int) × (Unit × (Unit × ((List Int) × ((List V_api_Slot) × (Bool × ((Unit × (Unit × (Unit × (Unit × Unit)))) × Unit))))))))))) (b0 : Int) (b1 : (List Int)) (b2 : Int) (b3 : Int) (b4 : (List Int)) (b5 : (List V_api_Slot)) (b6 : Bool) (b7 : (List Int)) : Option (((Int × (Unit × Unit)) × (Unit × ((List Int) × (Unit × (Unit × ((List Int) × ((List V_api_Slot) × (Bool × ((Unit × (Unit × (Unit × (Unit × Unit)))) × Unit)))))))))) :=
  bif (decide (b3 < b2)) then
  (gd (inB b3 (List.length b1))
  (match self (rdL b1 b3 (0 : Int)) b5 b4 b6 b7 with
  | some r3 => (rec b0 b1 b2 (IntKind.wrap .i64 (b3 + (1 : Int))) r3.2.2.2.1 r3.2.1 r3.2.2.2.2.1 r3.2.2.2.2.2.2.2.2.1)
  | none => none))
  else
  (some ((b0, ((), ())), ((), (b4, ((), ((), (b7, (b5, (b6, (((), ((), ((), ((), ())))), ()))))))))))
def pool_visit_c1_m_b_l0 (N : Nat) (self : Int → (List V_api_Slot) → (List Int) → Bool → (List Int) → Option ((Unit × ((List V_api_Slot) × (Unit × ((List Int) × (Bool × ((Unit × (Unit × (Unit × (Unit × Unit)))) × (Unit × (Unit × ((List Int) × Unit))))))))))) (n : Nat) (b0 : Int) (b1 : (List Int)) (b2 : Int) (b3 : Int) (b4 : (List Int)) (b5 : (List V_api_Slot)) (b6 : Bool) (b7 : (List Int)) : Option (((Int × (Unit × Unit)) × (Unit × ((List Int) × (Unit × (Unit × ((List Int) × ((List V_api_Slot) × (Bool × ((Unit × (Unit × (Unit × (Unit × Unit)))) × Unit)))))))))) :=
  iter (fun (rec : ((Int × (Unit × (Unit × (Unit × ((List Int) × (Int × Int)))))) × (Unit × ((List Int) × ((Unit × (Unit × (Unit × (Unit × Unit)))) × ((List V_api_Slot) × (Bool × (Unit × (Unit × ((List Int) × Unit))))))))) → Option (((Int × (Unit × Unit)) × (Unit × ((List Int) × (Unit × (Unit × ((List Int) × ((List V_api_Slot) × (Bool × ((Unit × (Unit × (Unit × (Unit × Unit)))) × Unit))))))))))) v => pool_visit_c1_m_b_l0_step N self (fun b0 b1 b2 b3 b4 b5 b6 b7 => rec ((b0, ((), ((), ((), (b1, (b2, b3)))))), ((), (b4, (((), ((), ((), ((), ())))), (b5, (b6, ((), ((), (b7, ())))))))))) v.1.1 v.1.2.2.2.2.1 v.1.2.2.2.2.2.1 v.1.2.2.2.2.2.2 v.2.2.1 v.2.2.2.2.1 v.2.2.2.2.2.1 v.2.2.2.2.2.2.2.2.1) n ((b0, ((), ((), ((), (b1, (b2, b3)))))), ((), (b4, (((), ((), ((), ((), ())))), (b5, (b6, ((), ((), (b7, ())))))))))
theorem pool_visit_c1_m_b_l0_succ (N : Nat) (self : Int → (List V_api_Slot) → (List Int) → Bool → (List Int) → Option ((Unit × ((List V_api_Slot) × (Unit × ((List Int) × (Bool × ((Unit × (Unit × (Unit × (Unit × Unit)))) × (Unit × (Unit × ((List Int) × Unit))))))))))) (n : Nat) (b0 : Int) (b1 : (List Int)) (b2 : Int) (b3 : Int) (b4 : (List Int)) (b5 : (List V_api_Slot)) (b6 : Bool) (b7 : (List Int)) : pool_visit_c1_m_b_l0 N self (n + 1) b0 b1 b2 b3 b4 b5 b6 b7 = pool_visit_c1_m_b_l0_step N self (fun b0  b1  b2  b3  b4  b5  b6  b7  => pool_visit_c1_m_b_l0 N self n b0 b1 b2 b3 b4 b5 b6 b7) b0 b1 b2 b3 b4 b5 b6 b7 := rfl
def pool_visit_c1_m_b_step (N : Nat) (self : Int → (List V_api_Slot) → (List Int) → Bool → (List Int) → Option ((Unit × ((List V_api_Slot) × (Unit × ((List Int) × (Bool × ((Unit × (Unit × (Unit × (Unit × Unit)))) × (Unit × (Unit × ((List Int) × Unit))))))))))) (a0 : Int) (a1 : (List V_api_Slot)) (a2 : (List Int)) (a3 : Bool) (a4 : (List Int)) : Option ((Unit × ((List V_api_Slot) × (Unit × ((List Int) × (Bool × ((Unit × (Unit × (Unit × (Unit × Unit)))) × (Unit × (Unit × ((List Int) × Unit)))))))))) :=
  match pool_used N a1 a0 with
  | some r1 => (bif (!r1) then
  (some ((), (a1, ((), (a2, (a3, (((), ((), ((), ((), ())))), ((), ((), (a4, ()))))))))))
  else
  (gd (inB a0 (List.length a2))
  (bif (eqi (rdL a2 a0 (0 : Int)) (2 : Int)) then
  (some ((), (a1, ((), (a2, (a3, (((), ((), ((), ((), ())))), ((), ((), (a4, ()))))))))))
  else
  (gd (inB a0 (List.length a2))
  (bif (eqi (rdL a2 a0 (0 : Int)) (1 : Int)) then
  (some ((), (a1, ((), (a2, (false, (((), ((), ((), ((), ())))), ((), ((), (a4, ()))))))))))
  else
  (gd (inB a0 (List.length a2))
  (gd (inB a0 (List.length a1))
  (let x2 := (List.length (((((((rdL a1 a0 D_api_Slot).2).2).2).2).2).1) : Int)
  match pool_visit_c1_m_b_l0 N self N a0 (((((((rdL a1 a0 D_api_Slot).2).2).2).2).2).1) x2 (0 : Int) (setL a2 a0 (1 : Int)) a1 a3 a4 with
  | some r4 => (gd (inB r4.1.1 (List.length r4.2.2.1))
  (match pool_Reach_c1_m N r4.1.1 r4.2.2.2.2.2.1 with
  | some r5 => (some ((), (r4.2.2.2.2.2.2.1, ((), ((setL r4.2.2.1 r4.1.1 (2 : Int)), (r4.2.2.2.2.2.2.2.1, (((), ((), ((), ((), ())))), ((), ((), (r5.2.2.1, ()))))))))))
  | none => none))
  | none => none))))))))
  | none => none
def pool_visit_c1_m_b_fuel (N n : Nat) (a0 : Int) (a1 : (List V_api_Slot)) (a2 : (List Int)) (a3 : Bool) (a4 : (List Int)) : Option ((Unit × ((List V_api_Slot) × (Unit × ((List Int) × (Bool × ((Unit × (Unit × (Unit × (Unit × Unit)))) × (Unit × (Unit × ((List Int) × Unit)))))))))) :=
  iter (fun (self : ((Int) × ((List V_api_Slot)) × ((List Int)) × (Bool) × ((List Int))) → Option ((Unit × ((List V_api_Slot) × (Unit × ((List Int) × (Bool × ((Unit × (Unit × (Unit × (Unit × Unit)))) × (Unit × (Unit × ((List Int) × Unit))))))))))) v => pool_visit_c1_m_b_step N (fun a0 a1 a2 a3 a4 => self (a0, (a1, (a2, (a3, a4))))) v.1 v.2.1 v.2.2.1 v.2.2.2.1 v.2.2.2.2) n (a0, (a1, (a2, (a3, a4))))
theorem pool_visit_c1_m_b_fuel_succ (N n : Nat) (a0 : Int) (a1 : (List V_api_Slot)) (a2 : (List Int)) (a3 : Bool) (a4 : (List Int)) : pool_visit_c1_m_b_fuel N (n + 1) a0 a1 a2 a3 a4 = pool_visit_c1_m_b_step N (fun a0 a1 a2 a3 a4 => pool_visit_c1_m_b_fuel N n a0 a1 a2 a3 a4) a0 a1 a2 a3 a4 := rfl
def pool_visit_c1_m_b (N : Nat) (a0 : Int) (a1 : (List V_api_Slot)) (a2 : (List Int)) (a3 : Bool) (a4 : (List Int)) : Option ((Unit × ((List V_api_Slot) × (Unit × ((List Int) × (Bool × ((Unit × (Unit × (Unit × (Unit × Unit)))) × (Unit × (Unit × ((List Int) × Unit)))))))))) :=
  pool_visit_c1_m_b_fuel N N a0 a1 a2 a3 a4

/-- downspout/pool.visit -/
def pool_visit_m__pool_Reach_c1_l0_step (N : Nat) (rec : (List Int) → Int → Int → Bool → (List V_api_Slot) → (List Int) → (List Int) → Option ((Unit × (Bool × (Unit × ((List Int) × Unit)))))) (b0 : (List Int)) (b1 : Int) (b2 : Int) (b3 : Bool) (b4 : (List V_api_Slot)) (b5 : (List Int)) (b6 : (List Int)) : Option ((Unit × (Bool × (Unit × ((List Int) × Unit))))) :=
  bif (decide (b2 < b1)) then
  (gd (inB b2 (List.length b0))
  (match pool_visit_c1_m_b N (rdL b0 b2 (0 : Int)) b4 b5 b3 b6 with
  | some r2 => (rec b0 b1 (IntKind.wrap .i64 (b2 + (1 : Int))) r2.2.2.2.2.1 r2.2.1 r2.2.2.2.1 r2.2.2.2.2.2.2.2.2.1)
  | none => none))
  else
  (some ((), (b3, ((), (b6, ())))))
def pool_visit_m__pool_Reach_c1_l0 (N n : Nat) (b0 : (List Int)) (b1 : Int) (b2 : Int) (b3 : Bool) (b4 : (List V_api_Slot)) (b5 : (List Int)) (b6 : (List Int)) : Option ((Unit × (Bool × (Unit × ((List Int) × Unit))))) :=
  iter (fun (rec : ((Unit × (Unit × ((List Int) × (Int × Int)))) × (Bool × ((Unit × (Unit × (Unit × (Unit × Unit)))) × ((List V_api_Slot) × (Unit × ((List Int) × (Unit × (Unit × ((List Int) × Unit))))))))) → Option ((Unit × (Bool × (Unit × ((List Int) × Unit)))))) v => pool_visit_m__pool_Reach_c1_l0_step N (fun b0 b1 b2 b3 b4 b5 b6 => rec (((), ((), (b0, (b1, b2)))), (b3, (((), ((), ((), ((), ())))), (b4, ((), (b5, ((), ((), (b6, ())))))))))) v.1.2.2.1 v.1.2.2.2.1 v.1.2.2.2.2 v.2.1 v.2.2.2.1 v.2.2.2.2.2.1 v.2.2.2.2.2.2.2.2.1) n (((), ((), (b0, (b1, b2)))), (b3, (((), ((), ((), ((), ())))), (b4, ((), (b5, ((), ((), (b6, ())))))))))
theorem pool_visit_m__pool_Reach_c1_l0_succ (N n : Nat) (b0 : (List Int)) (b1 : Int) (b2 : Int) (b3 : Bool) (b4 : (List V_api_Slot)) (b5 : (List Int)) (b6 : (List Int)) : pool_visit_m__pool_Reach_c1_l0 N (n + 1) b0 b1 b2 b3 b4 b5 b6 = pool_visit_m__pool_Reach_c1_l0_step N (fun b0  b1  b2  b3  b4  b5  b6  => pool_visit_m__pool_Reach_c1_l0 N n b0 b1 b2 b3 b4 b5 b6) b0 b1 b2 b3 b4 b5 b6 := rfl
def pool_visit_m__pool_Reach_c1 (N : Nat) (a0 : (List V_api_Slot)) (a1 : (List Int)) (a2 : (List Int)) : Option ((Bool × (Unit × ((List Int) × Unit)))) :=
  gd ((decide (0 ≤ (List.length a0 : Int)) && decide ((List.length a0 : Int) ≤ (List.length a0 : Int))) && (decide ((List.length a0 : Int) < maxB) && decide ((List.length a0 : Int) * 8 < maxB)))
  (let x1 := (List.replicate (Int.toNat (List.length a0 : Int)) (0 : Int))
  match pool_visit_m__pool_Reach_c1_l0 N N a1 (List.length a1 : Int) (0 : Int) true a0 x1 a2 with
  | some r3 => (some (r3.2.1, ((), (r3.2.2.2.1, ()))))
  | none => none)

/-- slices.Sort[[]int,int] -/
def slices_Sort_s_int_int_m (N : Nat) (a0 : List Int) : Option (Unit × ((List Int) × Unit)) :=
  gd (Nat.blt (List.length a0) 4611686018427387904) (some ((), (sortI a0, ())))

/-- downspout/pool.Reach -/
def pool_Reach (N : Nat) (a0 : (List V_api_Slot)) (a1 : (List Int)) : Option ((List Int)) :=
  match pool_visit_m__pool_Reach_c1 N a0 a1 ([] : List Int) with
  | some r1 => (match slices_Sort_s_int_int_m N r1.2.2.1 with
  | some r2 => (some r2.2.1)
  | none => none)
  | none => none

/-- downspout/downspoutlaw11.sanity -/
def law11_sanity_p2 (N : Nat) (b0 : Bool) : Option ((Bool × Unit)) :=
  some (b0, ())
def law11_sanity_p1 (N : Nat) (b0 : Bool) (b1 : (List V_api_Slot)) (b2 : Int) (b3 : Int) : Option ((Bool × Unit) ⊕ (Unit × (((List V_api_Slot) × (Int × Int)) × Unit))) :=
  bif b0 then
  (some (.inl (false, ())))
  else
  (some (.inr ((), ((b1, (b2, b3)), ()))))
def law11_sanity_p0 (N : Nat) (b0 : (List V_api_Slot)) (b1 : Int) (b2 : Int) : Option ((Bool × Unit)) :=
  match pool_Drop N b0 (0 : Int) with
  | some r8 => (match pool_Drop N r8.1 (1 : Int) with
  | some r9 => (match pool_Drop N r9.1 (2 : Int) with
  | some r10 => (match law11_add N b0 (([] : List V_api_Pair), (([] : List (List UInt8)), (([(3 : Int)] : List Int), (([] : List V_api_Sum), ([] : List V_api_Msg))))) with
  | some r11 => (match pool_Get N ([] : List V_api_Slot) (0 : Int) with
  | some r12 => (let x13 := ([(true, (true, ((1 : Int), (([] : List V_api_Pair), (([] : List (List UInt8)), (([] : List Int), (([] : List V_api_Sum), ([] : List V_api_Msg))))))))] : List V_api_Slot)
  match pool_Get N x13 (0 : Int) with
  | some r14 => (bif (eqi r8.2 (0 : Int)) then
  (bif (eqi r9.2 (0 : Int)) then
  (bif (eqi r10.2 (0 : Int)) then
  (match law11_refs N r9.1 with
  | some r15 => (let x16 := ([(1 : Int), (2 : Int), (1 : Int)] : List Int)
  match ref11_Ints N r15 x16 with
  | some r17 => (bif r17 then
  (match pool_Live N r9.1 with
  | some r18 => (bif (eqi r18 (3 : Int)) then
  (match pool_Live N r10.1 with
  | some r19 => (bif (eqi r19 (0 : Int)) then
  (bif (eqi r11.2.2 (110 : Int)) then
  (match ref11_Same N r11.1 b0 with
  | some r20 => (bif r20 then
  (bif (eqi r12.2 (110 : Int)) then
  (bif (eqi r14.2 (112 : Int)) then
  (match pool_Sound N r9.1 ([(2 : Int)] : List Int) with
  | some r21 => (bif r21 then
  (match pool_Sound N r9.1 ([(1 : Int), (2 : Int)] : List Int) with
  | some r22 => (bif (!r22) then
  (match pool_Reach N r9.1 ([(2 : Int)] : List Int) with
  | some r23 => (let x24 := ([(0 : Int), (1 : Int), (2 : Int)] : List Int)
  match ref11_Ints N r23 x24 with
  | some r25 => (match law11_sanity_p2 N r25 with
  | some r26 => (some (r26.1, ()))
  | none => none)
  | none => none)
  | none => none)
  else
  (match law11_sanity_p2 N false with
  | some r27 => (some (r27.1, ()))
  | none => none))
  | none => none)
  else
  (match law11_sanity_p2 N false with
  | some r28 => (some (r28.1, ()))
  | none => none))
  | none => none)
  else
  (match law11_sanity_p2 N false with
  | some r29 => (some (r29.1, ()))
  | none => none))
  else
  (match law11_sanity_p2 N false with
  | some r30 => (some (r30.1, ()))
  | none => none))
  else
  (match law11_sanity_p2 N false with
  | some r31 => (some (r31.1, ()))
  | none => none))
  | none => none)
  else
  (match law11_sanity_p2 N false with
  | some r32 => (some (r32.1, ()))
  | none => none))
  else
  (match law11_sanity_p2 N false with
  | some r33 => (some (r33.1, ()))
  | none => none))
  | none => none)
  else
  (match law11_sanity_p2 N false with
  | some r34 => (some (r34.1, ()))
  | none => none))
  | none => none)
  else
  (match law11_sanity_p2 N false with
  | some r35 => (some (r35.1, ()))
  | none => none))
  | none => none)
  | none => none)
  else
  (match law11_sanity_p2 N false with
  | some r36 => (some (r36.1, ()))
  | none => none))
  else
  (match law11_sanity_p2 N false with
  | some r37 => (some (r37.1, ()))
  | none => none))
  else
  (match law11_sanity_p2 N false with
  | some r38 => (some (r38.1, ()))
  | none => none))
  | none => none)
  | none => none)
  | none => none)
  | none => none)
  | none => none)
  | none => none
def law11_sanity (N : Nat) : Option (Bool) :=
  match law11_add N ([] : List V_api_Slot) (([] : List V_api_Pair), (([] : List (List UInt8)), (([] : List Int), (([] : List V_api_Sum), ([] : List V_api_Msg))))) with
  | some r1 => (match law11_add N r1.1 (([] : List V_api_Pair), (([] : List (List UInt8)), (([] : List Int), (([] : List V_api_Sum), ([] : List V_api_Msg))))) with
  | some r2 => (let x3 := ([(0 : Int), (1 : Int), (1 : Int)] : List Int)
  match law11_add N r2.1 (([] : List V_api_Pair), (([] : List (List UInt8)), (x3, (([] : List V_api_Sum), ([] : List V_api_Msg))))) with
  | some r4 => (bif (!(eqi r1.2.1 (0 : Int))) then
  (match law11_sanity_p1 N true r4.1 r4.2.1 r4.2.2 with
  | some r5 => (match r5 with
  | .inl r6 => (some r6.1)
  | .inr r7 => (match law11_sanity_p0 N r7.2.1.1 r7.2.1.2.1 r7.2.1.2.2 with
  | some r39 => (some r39.1)
  | none => none))
  | none => none)
  else
  (bif (!(eqi r2.2.1 (1 : Int))) then
  (match law11_sanity_p1 N true r4.1 r4.2.1 r4.2.2 with
  | some r40 => (match r40 with
  | .inl r41 => (some r41.1)
  | .inr r42 => (match law11_sanity_p0 N r42.2.1.1 r42.2.1.2.1 r42.2.1.2.2 with
  | some r43 => (some r43.1)
  | none => none))
  | none => none)
  else
  (bif (!(eqi r4.2.1 (2 : Int))) then
  (match law11_sanity_p1 N true r4.1 r4.2.1 r4.2.2 with
  | some r44 => (match r44 with
  | .inl r45 => (some r45.1)
  | .inr r46 => (match law11_sanity_p0 N r46.2.1.1 r46.2.1.2.1 r46.2.1.2.2 with
  | some r47 => (some r47.1)
  | none => none))
  | none => none)
  else
  (bif (!(eqi r4.2.2 (0 : Int))) then
  (match law11_sanity_p1 N true r4.1 r4.2.1 r4.2.2 with
  | some r48 => (match r48 with
  | .inl r49 => (some r49.1)
  | .inr r50 => (match law11_sanity_p0 N r50.2.1.1 r50.2.1.2.1 r50.2.1.2.2 with
  | some r51 => (some r51.1)
  | none => none))
  | none => none)
  else
  (match law11_refs N r4.1 with
  | some r52 => (let x53 := ([(2 : Int), (3 : Int), (1 : Int)] : List Int)
  match ref11_Ints N r52 x53 with
  | some r54 => (bif (!r54) then
  (match law11_sanity_p1 N true r4.1 r4.2.1 r4.2.2 with
  | some r55 => (match r55 with
  | .inl r56 => (some r56.1)
  | .inr r57 => (match law11_sanity_p0 N r57.2.1.1 r57.2.1.2.1 r57.2.1.2.2 with
  | some r58 => (some r58.1)
  | none => none))
  | none => none)
  else
  (let x59 := ([(0 : Int), (1 : Int), (2 : Int)] : List Int)
  match pool_Sound N r4.1 x59 with
  | some r60 => (match law11_sanity_p1 N (!r60) r4.1 r4.2.1 r4.2.2 with
  | some r61 => (match r61 with
  | .inl r62 => (some r62.1)
  | .inr r63 => (match law11_sanity_p0 N r63.2.1.1 r63.2.1.2.1 r63.2.1.2.2 with
  | some r64 => (some r64.1)
  | none => none))
  | none => none)
  | none => none))
  | none => none)
  | none => none)))))
  | none => none)
  | none => none)
  | none => none

/-- downspout/downspoutref05.Path -/
def ref05_Path (N : Nat) (a0 : Int) : Option ((List UInt8)) :=
  let x1 := ([([97, 47] : List UInt8), ([98, 47] : List UInt8), ([97, 47, 98, 47] : List UInt8), ([99, 47] : List UInt8), ([100, 47] : List UInt8)] : List (List UInt8))
  gd (inB (Int.tmod a0 (5 : Int)) (List.length x1))
  (let x2 := (rdL x1 (Int.tmod a0 (5 : Int)) ([] : List UInt8))
  some x2)

/-- downspout/downspoutref05.Key -/
def ref05_Key (N : Nat) (a0 : Int) : Option ((List UInt8)) :=
  match ref05_Path N (Int.tmod a0 (4 : Int)) with
  | some r1 => (let x2 := ([([1] : List UInt8), ([2, 0, 0] : List UInt8), ([2, 0, 1] : List UInt8), ([2, 0, 2] : List UInt8), ([3, 120] : List UInt8)] : List (List UInt8))
  let x3 := (Int.tmod (IntKind.wrap .u8 (Int.tdiv a0 (4 : Int))) (5 : Int))
  gd (inB x3 (List.length x2))
  (gd (decide (List.length r1 + List.length (rdL x2 x3 ([] : List UInt8)) < maxS))
  (let x4 := (@HAppend.hAppend (List UInt8) (List UInt8) (List UInt8) _ r1 (rdL x2 x3 ([] : List UInt8)))
  some x4)))
  | none => none

/-- downspout/downspoutref11.Node -/
def ref11_Node_p2 (N : Nat) (b0 : (List Int)) (b1 : Int) (b2 : Bool) (b3 : Int) (b4 : Int) (b5 : Int) (b6 : Int) (b7 : (List V_api_Pair)) (b8 : (List (List UInt8))) (b9 : (List Int)) (b10 : (List V_api_Sum)) (b11 : (List V_api_Msg)) (b12 : (List V_api_Pair)) (b13 : (List (List UInt8))) (b14 : (List Int)) (b15 : (List V_api_Sum)) (b16 : (List V_api_Msg)) : Option ((((List Int) × (Unit × (Unit × (Unit × Int)))) × ((Int × (Int × (Int × Int))) × ((Unit × (Unit × (Unit × (Unit × Unit)))) × ((List V_api_Pair) × ((List (List UInt8)) × ((List Int) × ((List V_api_Sum) × ((List V_api_Msg) × ((Unit × (Unit × (Unit × (Unit × Unit)))) × ((List V_api_Pair) × ((List (List UInt8)) × ((List Int) × ((List V_api_Sum) × ((List V_api_Msg) × Unit))))))))))))))) :=
  bif b2 then
  (bif (eqi b1 (3 : Int)) then
  (let x6 := (IntKind.wrap .i64 ((IntKind.wrap .u8 (Int.tdiv b6 (4 : Int)))))
  gd (!(eqi (List.length b0 : Int) 0))
  (gd (inB (Int.tmod x6 (List.length b0 : Int)) (List.length b0))
  (let x7 := (rdL b0 (Int.tmod x6 (List.length b0 : Int)) (0 : Int))
  gd (fits (List.length b14 + 1) 8)
  (let x8 := (@HAppend.hAppend (List Int) (List Int) (List Int) _ b14 ([x7] : List Int))
  some ((b0, ((), ((), ((), b1)))), ((b3, (b4, (b5, b6))), (((), ((), ((), ((), ())))), (b7, (b8, (b9, (b10, (b11, (((), ((), ((), ((), ())))), (b12, (b13, (x8, (b15, (b16, ()))))))))))))))))))
  else
  (bif (eqi b1 (2 : Int)) then
  (let x9 := (IntKind.wrap .i64 ((IntKind.wrap .u8 (Int.tdiv b5 (4 : Int)))))
  gd (!(eqi (List.length b0 : Int) 0))
  (gd (inB (Int.tmod x9 (List.length b0 : Int)) (List.length b0))
  (let x10 := (rdL b0 (Int.tmod x9 (List.length b0 : Int)) (0 : Int))
  gd (fits (List.length b14 + 1) 8)
  (let x11 := (@HAppend.hAppend (List Int) (List Int) (List Int) _ b14 ([x10] : List Int))
  some ((b0, ((), ((), ((), b1)))), ((b3, (b4, (b5, b6))), (((), ((), ((), ((), ())))), (b7, (b8, (b9, (b10, (b11, (((), ((), ((), ((), ())))), (b12, (b13, (x11, (b15, (b16, ()))))))))))))))))))
  else
  (bif (eqi b1 (1 : Int)) then
  (let x12 := (IntKind.wrap .i64 ((IntKind.wrap .u8 (Int.tdiv b4 (4 : Int)))))
  gd (!(eqi (List.length b0 : Int) 0))
  (gd (inB (Int.tmod x12 (List.length b0 : Int)) (List.length b0))
  (let x13 := (rdL b0 (Int.tmod x12 (List.length b0 : Int)) (0 : Int))
  gd (fits (List.length b14 + 1) 8)
  (let x14 := (@HAppend.hAppend (List Int) (List Int) (List Int) _ b14 ([x13] : List Int))
  some ((b0, ((), ((), ((), b1)))), ((b3, (b4, (b5, b6))), (((), ((), ((), ((), ())))), (b7, (b8, (b9, (b10, (b11, (((), ((), ((), ((), ())))), (b12, (b13, (x14, (b15, (b16, ()))))))))))))))))))
  else
  (bif (eqi b1 (0 : Int)) then
  (let x15 := (IntKind.wrap .i64 ((IntKind.wrap .u8 (Int.tdiv b3 (4 : Int)))))
  gd (!(eqi (List.length b0 : Int) 0))
  (gd (inB (Int.tmod x15 (List.length b0 : Int)) (List.length b0))
  (let x16 := (rdL b0 (Int.tmod x15 (List.length b0 : Int)) (0 : Int))
  gd (fits (List.length b14 + 1) 8)
  (let x17 := (@HAppend.hAppend (List Int) (List Int) (List Int) _ b14 ([x16] : List Int))
  some ((b0, ((), ((), ((), b1)))), ((b3, (b4, (b5, b6))), (((), ((), ((), ((), ())))), (b7, (b8, (b9, (b10, (b11, (((), ((), ((), ((), ())))), (b12, (b13, (x17, (b15, (b16, ()))))))))))))))))))
  else
  (none)))))
  else
  (some ((b0, ((), ((), ((), b1)))), ((b3, (b4, (b5, b6))), (((), ((), ((), ((), ())))), (b7, (b8, (b9, (b10, (b11, (((), ((), ((), ((), ())))), (b12, (b13, (b14, (b15, (b16, ())))))))))))))))
def ref11_Node_p1 (N : Nat) (b0 : (List Int)) (b1 : Int) (b2 : Int) (b3 : Int) (b4 : Int) (b5 : Int) (b6 : (List V_api_Pair)) (b7 : (List (List UInt8))) (b8 : (List Int)) (b9 : (List V_api_Sum)) (b10 : (List V_api_Msg)) (b11 : (List V_api_Pair)) (b12 : (List (List UInt8))) (b13 : (List Int)) (b14 : (List V_api_Sum)) (b15 : (List V_api_Msg)) : Option ((((List Int) × (Unit × (Unit × (Unit × Int)))) × ((Int × (Int × (Int × Int))) × ((Unit × (Unit × (Unit × (Unit × Unit)))) × ((List V_api_Pair) × ((List (List UInt8)) × ((List Int) × ((List V_api_Sum) × ((List V_api_Msg) × ((Unit × (Unit × (Unit × (Unit × Unit)))) × ((List V_api_Pair) × ((List (List UInt8)) × ((List Int) × ((List V_api_Sum) × ((List V_api_Msg) × Unit))))))))))))))) :=
  some ((b0, ((), ((), ((), (IntKind.wrap .i64 (b1 + (1 : Int))))))), ((b2, (b3, (b4, b5))), (((), ((), ((), ((), ())))), (b6, (b7, (b8, (b9, (b10, (((), ((), ((), ((), ())))), (b11, (b12, (b13, (b14, (b15, ()))))))))))))))
def ref11_Node_l0_step (N : Nat) (rec : (List Int) → Int → Int → Int → Int → Int → (List V_api_Pair) → (List (List UInt8)) → (List Int) → (List V_api_Sum) → (List V_api_Msg) → (List V_api_Pair) → (List (List UInt8)) → (List Int) → (List V_api_Sum) → (List V_api_Msg) → Option (((Unit × Unit) × ((Unit × (Unit × (Unit × (Unit × Unit)))) × ((List V_api_Pair) × ((List (List UInt8)) × ((List Int) × ((List V_api_Sum) × ((List V_api_Msg) × ((Unit × (Unit × (Unit × (Unit × Unit)))) × ((List V_api_Pair) × ((List (List UInt8)) × ((List Int) × ((List V_api_Sum) × ((List V_api_Msg) × Unit))))))))))))))) (b0 : (List Int)) (b1 : Int) (b2 : Int) (b3 : Int) (b4 : Int) (b5 : Int) (b6 : (List V_api_Pair)) (b7 : (List (List UInt8))) (b8 : (List Int)) (b9 : (List V_api_Sum)) (b10 : (List V_api_Msg)) (b11 : (List V_api_Pair)) (b12 : (List (List UInt8))) (b13 : (List Int)) (b14 : (List V_api_Sum)) (b15 : (List V_api_Msg)) : Option (((Unit × Unit) × ((Unit × (Unit × (Unit × (Unit × Unit)))) × ((List V_api_Pair) × ((List (List UInt8)) × ((List Int) × ((List V_api_Sum) × ((List V_api_Msg) × ((Unit × (Unit × (Unit × (Unit × Unit)))) × ((List V_api_Pair) × ((List (List UInt8)) × ((List Int) × ((List V_api_Sum) × ((List V_api_Msg) × Unit)))))))))))))) :=
  bif (decide (b1 < (4 : Int))) then
  (let x3 := (decide ((0 : Int) < (List.length b0 : Int)))
  bif x3 then
  (let x4 := (decide ((3 : Int) < (Int.tmod b2 (8 : Int))))
  bif x4 then
  (bif (eqi b1 (3 : Int)) then
  (let x5 := (decide ((0 : Int) < (Int.tmod b5 (4 : Int))))
  match ref11_Node_p2 N b0 b1 x5 b2 b3 b4 b5 b6 b7 b8 b9 b10 b11 b12 b13 b14 b15 with
  | some r18 => (match ref11_Node_p1 N r18.1.1 r18.1.2.2.2.2 r18.2.1.1 r18.2.1.2.1 r18.2.1.2.2.1 r18.2.1.2.2.2 r18.2.2.2.1 r18.2.2.2.2.1 r18.2.2.2.2.2.1 r18.2.2.2.2.2.2.1 r18.2.2.2.2.2.2.2.1 r18.2.2.2.2.2.2.2.2.2.1 r18.2.2.2.2.2.2.2.2.2.2.1 r18.2.2.2.2.2.2.2.2.2.2.2.1 r18.2.2.2.2.2.2.2.2.2.2.2.2.1 r18.2.2.2.2.2.2.2.2.2.2.2.2.2.1 with
  | some r19 => (rec r19.1.1 r19.1.2.2.2.2 r19.2.1.1 r19.2.1.2.1 r19.2.1.2.2.1 r19.2.1.2.2.2 r19.2.2.2.1 r19.2.2.2.2.1 r19.2.2.2.2.2.1 r19.2.2.2.2.2.2.1 r19.2.2.2.2.2.2.2.1 r19.2.2.2.2.2.2.2.2.2.1 r19.2.2.2.2.2.2.2.2.2.2.1 r19.2.2.2.2.2.2.2.2.2.2.2.1 r19.2.2.2.2.2.2.2.2.2.2.2.2.1 r19.2.2.2.2.2.2.2.2.2.2.2.2.2.1)
  | none => none)
  | none => none)
  else
  (bif (eqi b1 (2 : Int)) then
  (let x20 := (decide ((0 : Int) < (Int.tmod b4 (4 : Int))))
  match ref11_Node_p2 N b0 b1 x20 b2 b3 b4 b5 b6 b7 b8 b9 b10 b11 b12 b13 b14 b15 with
  | some r21 => (match ref11_Node_p1 N r21.1.1 r21.1.2.2.2.2 r21.2.1.1 r21.2.1.2.1 r21.2.1.2.2.1 r21.2.1.2.2.2 r21.2.2.2.1 r21.2.2.2.2.1 r21.2.2.2.2.2.1 r21.2.2.2.2.2.2.1 r21.2.2.2.2.2.2.2.1 r21.2.2.2.2.2.2.2.2.2.1 r21.2.2.2.2.2.2.2.2.2.2.1 r21.2.2.2.2.2.2.2.2.2.2.2.1 r21.2.2.2.2.2.2.2.2.2.2.2.2.1 r21.2.2.2.2.2.2.2.2.2.2.2.2.2.1 with
  | some r22 => (rec r22.1.1 r22.1.2.2.2.2 r22.2.1.1 r22.2.1.2.1 r22.2.1.2.2.1 r22.2.1.2.2.2 r22.2.2.2.1 r22.2.2.2.2.1 r22.2.2.2.2.2.1 r22.2.2.2.2.2.2.1 r22.2.2.2.2.2.2.2.1 r22.2.2.2.2.2.2.2.2.2.1 r22.2.2.2.2.2.2.2.2.2.2.1 r22.2.2.2.2.2.2.2.2.2.2.2.1 r22.2.2.2.2.2.2.2.2.2.2.2.2.1 r22.2.2.2.2.2.2.2.2.2.2.2.2.2.1)
  | none => none)
  | none => none)
  else
  (bif (eqi b1 (1 : Int)) then
  (let x23 := (decide ((0 : Int) < (Int.tmod b3 (4 : Int))))
  match ref11_Node_p2 N b0 b1 x23 b2 b3 b4 b5 b6 b7 b8 b9 b10 b11 b12 b13 b14 b15 with
  | some r24 => (match ref11_Node_p1 N r24.1.1 r24.1.2.2.2.2 r24.2.1.1 r24.2.1.2.1 r24.2.1.2.2.1 r24.2.1.2.2.2 r24.2.2.2.1 r24.2.2.2.2.1 r24.2.2.2.2.2.1 r24.2.2.2.2.2.2.1 r24.2.2.2.2.2.2.2.1 r24.2.2.2.2.2.2.2.2.2.1 r24.2.2.2.2.2.2.2.2.2.2.1 r24.2.2.2.2.2.2.2.2.2.2.2.1 r24.2.2.2.2.2.2.2.2.2.2.2.2.1 r24.2.2.2.2.2.2.2.2.2.2.2.2.2.1 with
  | some r25 => (rec r25.1.1 r25.1.2.2.2.2 r25.2.1.1 r25.2.1.2.1 r25.2.1.2.2.1 r25.2.1.2.2.2 r25.2.2.2.1 r25.2.2.2.2.1 r25.2.2.2.2.2.1 r25.2.2.2.2.2.2.1 r25.2.2.2.2.2.2.2.1 r25.2.2.2.2.2.2.2.2.2.1 r25.2.2.2.2.2.2.2.2.2.2.1 r25.2.2.2.2.2.2.2.2.2.2.2.1 r25.2.2.2.2.2.2.2.2.2.2.2.2.1 r25.2.2.2.2.2.2.2.2.2.2.2.2.2.1)
  | none => none)
  | none => none)
  else
  (bif (eqi b1 (0 : Int)) then
  (let x26 := (decide ((0 : Int) < (Int.tmod b2 (4 : Int))))
  match ref11_Node_p2 N b0 b1 x26 b2 b3 b4 b5 b6 b7 b8 b9 b10 b11 b12 b13 b14 b15 with
  | some r27 => (match ref11_Node_p1 N r27.1.1 r27.1.2.2.2.2 r27.2.1.1 r27.2.1.2.1 r27.2.1.2.2.1 r27.2.1.2.2.2 r27.2.2.2.1 r27.2.2.2.2.1 r27.2.2.2.2.2.1 r27.2.2.2.2.2.2.1 r27.2.2.2.2.2.2.2.1 r27.2.2.2.2.2.2.2.2.2.1 r27.2.2.2.2.2.2.2.2.2.2.1 r27.2.2.2.2.2.2.2.2.2.2.2.1 r27.2.2.2.2.2.2.2.2.2.2.2.2.1 r27.2.2.2.2.2.2.2.2.2.2.2.2.2.1 with
  | some r28 => (rec r28.1.1 r28.1.2.2.2.2 r28.2.1.1 r28.2.1.2.1 r28.2.1.2.2.1 r28.2.1.2.2.2 r28.2.2.2.1 r28.2.2.2.2.1 r28.2.2.2.2.2.1 r28.2.2.2.2.2.2.1 r28.2.2.2.2.2.2.2.1 r28.2.2.2.2.2.2.2.2.2.1 r28.2.2.2.2.2.2.2.2.2.2.1 r28.2.2.2.2.2.2.2.2.2.2.2.1 r28.2.2.2.2.2.2.2.2.2.2.2.2.1 r28.2.2.2.2.2.2.2.2.2.2.2.2.2.1)
  | none => none)
  | none => none)
  else
  (none)))))
  else
  (some (((), ()), (((), ((), ((), ((), ())))), (b6, (b7, (b8, (b9, (b10, (((), ((), ((), ((), ())))), (b11, (b12, (b13, (b14, (b15, ())))))))))))))))
  else
  (some (((), ()), (((), ((), ((), ((), ())))), (b6, (b7, (b8, (b9, (b10, (((), ((), ((), ((), ())))), (b11, (b12, (b13, (b14, (b15, ())))))))))))))))
  else
  (some (((), ()), (((), ((), ((), ((), ())))), (b6, (b7, (b8, (b9, (b10, (((), ((), ((), ((), ())))), (b11, (b12, (b13, (b14, (b15, ()))))))))))))))
def ref11_Node_l0 (N n : Nat) (b0 : (List Int)) (b1 : Int) (b2 : Int) (b3 : Int) (b4 : Int) (b5 : Int) (b6 : (List V_api_Pair)) (b7 : (List (List UInt8))) (b8 : (List Int)) (b9 : (List V_api_Sum)) (b10 : (List V_api_Msg)) (b11 : (List V_api_Pair)) (b12 : (List (List UInt8))) (b13 : (List Int)) (b14 : (List V_api_Sum)) (b15 : (List V_api_Msg)) : Option (((Unit × Unit) × ((Unit × (Unit × (Unit × (Unit × Unit)))) × ((List V_api_Pair) × ((List (List UInt8)) × ((List Int) × ((List V_api_Sum) × ((List V_api_Msg) × ((Unit × (Unit × (Unit × (Unit × Unit)))) × ((List V_api_Pair) × ((List (List UInt8)) × ((List Int) × ((List V_api_Sum) × ((List V_api_Msg) × Unit)))))))))))))) :=
  iter (fun (rec : (((List Int) × (Unit × (Unit × (Unit × Int)))) × ((Int × (Int × (Int × Int))) × ((Unit × (Unit × (Unit × (Unit × Unit)))) × ((List V_api_Pair) × ((List (List UInt8)) × ((List Int) × ((List V_api_Sum) × ((List V_api_Msg) × ((Unit × (Unit × (Unit × (Unit × Unit)))) × ((List V_api_Pair) × ((List (List UInt8)) × ((List Int) × ((List V_api_Sum) × ((List V_api_Msg) × Unit)))))))))))))) → Option (((Unit × Unit) × ((Unit × (Unit × (Unit × (Unit × Unit)))) × ((List V_api_Pair) × ((List (List UInt8)) × ((List Int) × ((List V_api_Sum) × ((List V_api_Msg) × ((Unit × (Unit × (Unit × (Unit × Unit)))) × ((List V_api_Pair) × ((List (List UInt8)) × ((List Int) × ((List V_api_Sum) × ((List V_api_Msg) × Unit))))))))))))))) v => ref11_Node_l0_step N (fun b0 b1 b2 b3 b4 b5 b6 b7 b8 b9 b10 b11 b12 b13 b14 b15 => rec ((b0, ((), ((), ((), b1)))), ((b2, (b3, (b4, b5))), (((), ((), ((), ((), ())))), (b6, (b7, (b8, (b9, (b10, (((), ((), ((), ((), ())))), (b11, (b12, (b13, (b14, (b15, ()))))))))))))))) v.1.1 v.1.2.2.2.2 v.2.1.1 v.2.1.2.1 v.2.1.2.2.1 v.2.1.2.2.2 v.2.2.2.1 v.2.2.2.2.1 v.2.2.2.2.2.1 v.2.2.2.2.2.2.1 v.2.2.2.2.2.2.2.1 v.2.2.2.2.2.2.2.2.2.1 v.2.2.2.2.2.2.2.2.2.2.1 v.2.2.2.2.2.2.2.2.2.2.2.1 v.2.2.2.2.2.2.2.2.2.2.2.2.1 v.2.2.2.2.2.2.2.2.2.2.2.2.2.1) n ((b0, ((), ((), ((), b1)))), ((b2, (b3, (b4, b5))), (((), ((), ((), ((), ())))), (b6, (b7, (b8, (b9, (b10, (((), ((), ((), ((), ())))), (b11, (b12, (b13, (b14, (b15, ()))))))))))))))
theorem ref11_Node_l0_succ (N n : Nat) (b0 : (List Int)) (b1 : Int) (b2 : Int) (b3 : Int) (b4 : Int) (b5 : Int) (b6 : (List V_api_Pair)) (b7 : (List (List UInt8))) (b8 : (List Int)) (b9 : (List V_api_Sum)) (b10 : (List V_api_Msg)) (b11 : (List V_api_Pair)) (b12 : (List (List UInt8))) (b13 : (List Int)) (b14 : (List V_api_Sum)) (b15 : (List V_api_Msg)) : ref11_Node_l0 N (n + 1) b0 b1 b2 b3 b4 b5 b6 b7 b8 b9 b10 b11 b12 b13 b14 b15 = ref11_Node_l0_step N (fun b0  b1  b2  b3  b4  b5  b6  b7  b8  b9  b10  b11  b12  b13  b14  b15  => ref11_Node_l0 N n b0 b1 b2 b3 b4 b5 b6 b7 b8 b9 b10 b11 b12 b13 b14 b15) b0 b1 b2 b3 b4 b5 b6 b7 b8 b9 b10 b11 b12 b13 b14 b15 := rfl
def ref11_Node (N : Nat) (a0 : V_ref11_Raw) (a1 : (List Int)) : Option (V_api_Node) :=
  match ref05_Key N a0.2.1 with
  | some r1 => (let x2 := ([(r1, (([] : List UInt8), (0 : Int)))] : List V_api_Pair)
  match ref11_Node_l0 N N a1 (1 : Int) a0.1 a0.2.1 a0.2.2.1 a0.2.2.2 ([] : List V_api_Pair) ([] : List (List UInt8)) ([] : List Int) ([] : List V_api_Sum) ([] : List V_api_Msg) x2 ([] : List (List UInt8)) ([] : List Int) ([] : List V_api_Sum) ([] : List V_api_Msg) with
  | some r29 => (let x30 := (List.length r29.2.2.2.2.2.2.2.2.2.2.1 : Int)
  bif (decide ((0 : Int) < x30)) then
  (some (([] : List V_api_Pair), (r29.2.2.2.2.2.2.2.2.2.1, (r29.2.2.2.2.2.2.2.2.2.2.1, (r29.2.2.2.2.2.2.2.2.2.2.2.1, r29.2.2.2.2.2.2.2.2.2.2.2.2.1)))))
  else
  (some (r29.2.2.2.2.2.2.2.2.1, (r29.2.2.2.2.2.2.2.2.2.1, (r29.2.2.2.2.2.2.2.2.2.2.1, (r29.2.2.2.2.2.2.2.2.2.2.2.1, r29.2.2.2.2.2.2.2.2.2.2.2.2.1))))))
  | none => none)
  | none => none

/-- downspout/downspoutref11.Used -/
def ref11_Used (N : Nat) (a0 : (List V_api_Slot)) (a1 : Int) : Option (Bool) :=
  bif (decide ((0 : Int) ≤ a1)) then
  (bif (decide (a1 < (List.length a0 : Int))) then
  (gd (inB a1 (List.length a0))
  (some ((rdL a0 a1 D_api_Slot).1)))
  else
  (some false))
  else
  (some false)

/-- downspout/downspoutref11.Copied -/
def ref11_Copied (N : Nat) (a0 : (List V_api_Slot)) : Option ((List V_api_Slot)) :=
  gd (fits (0 + List.length a0) 136)
  (let x1 := (@HAppend.hAppend (List V_api_Slot) (List V_api_Slot) (List V_api_Slot) _ ([] : List V_api_Slot) a0)
  some x1)

/-- downspout/downspoutref11.Add -/
def ref11_Add_l2_step (N : Nat) (rec : Int → Int → (List V_api_Pair) → (List (List UInt8)) → (List Int) → (List V_api_Sum) → (List V_api_Msg) → Int → Int → (List V_api_Slot) → (List V_api_Slot) → Option (((Unit × (Int × Unit)) × ((Unit × (Int × Int)) × ((List V_api_Slot) × (Unit × ((List V_api_Slot) × Unit))))))) (b0 : Int) (b1 : Int) (b2 : (List V_api_Pair)) (b3 : (List (List UInt8))) (b4 : (List Int)) (b5 : (List V_api_Sum)) (b6 : (List V_api_Msg)) (b7 : Int) (b8 : Int) (b9 : (List V_api_Slot)) (b10 : (List V_api_Slot)) : Option (((Unit × (Int × Unit)) × ((Unit × (Int × Int)) × ((List V_api_Slot) × (Unit × ((List V_api_Slot) × Unit)))))) :=
  bif (decide (b1 < (List.length b4 : Int))) then
  (gd (inB b1 (List.length b4))
  (gd (inB (rdL b4 b1 (0 : Int)) (List.length b10))
  (let x10 := (((rdL b10 (rdL b4 b1 (0 : Int)) D_api_Slot).2).2).1
  gd (inB (rdL b4 b1 (0 : Int)) (List.length b10))
  (let x11 := (setL b10 (rdL b4 b1 (0 : Int)) ((rdL b10 (rdL b4 b1 (0 : Int)) D_api_Slot).1, (((rdL b10 (rdL b4 b1 (0 : Int)) D_api_Slot).2).1, ((IntKind.wrap .i64 (x10 + (1 : Int))), ((((rdL b10 (rdL b4 b1 (0 : Int)) D_api_Slot).2).2).2)))))
  rec b0 (IntKind.wrap .i64 (b1 + (1 : Int))) b2 b3 b4 b5 b6 b7 b8 b9 x11))))
  else
  (some (((), (b0, ())), (((), (b7, b8)), (b9, ((), (b10, ()))))))
def ref11_Add_l2 (N n : Nat) (b0 : Int) (b1 : Int) (b2 : (List V_api_Pair)) (b3 : (List (List UInt8))) (b4 : (List Int)) (b5 : (List V_api_Sum)) (b6 : (List V_api_Msg)) (b7 : Int) (b8 : Int) (b9 : (List V_api_Slot)) (b10 : (List V_api_Slot)) : Option (((Unit × (Int × Unit)) × ((Unit × (Int × Int)) × ((List V_api_Slot) × (Unit × ((List V_api_Slot) × Unit)))))) :=
  iter (fun (rec : ((Unit × (Unit × (Int × (Unit × Int)))) × (((List V_api_Pair) × ((List (List UInt8)) × ((List Int) × ((List V_api_Sum) × (List V_api_Msg))))) × ((Unit × (Int × Int)) × ((List V_api_Slot) × (Unit × ((List V_api_Slot) × Unit)))))) → Option (((Unit × (Int × Unit)) × ((Unit × (Int × Int)) × ((List V_api_Slot) × (Unit × ((List V_api_Slot) × Unit))))))) v => ref11_Add_l2_step N (fun b0 b1 b2 b3 b4 b5 b6 b7 b8 b9 b10 => rec (((), ((), (b0, ((), b1)))), ((b2, (b3, (b4, (b5, b6)))), (((), (b7, b8)), (b9, ((), (b10, ()))))))) v.1.2.2.1 v.1.2.2.2.2 v.2.1.1 v.2.1.2.1 v.2.1.2.2.1 v.2.1.2.2.2.1 v.2.1.2.2.2.2 v.2.2.1.2.1 v.2.2.1.2.2 v.2.2.2.1 v.2.2.2.2.2.1) n (((), ((), (b0, ((), b1)))), ((b2, (b3, (b4, (b5, b6)))), (((), (b7, b8)), (b9, ((), (b10, ()))))))
theorem ref11_Add_l2_succ (N n : Nat) (b0 : Int) (b1 : Int) (b2 : (List V_api_Pair)) (b3 : (List (List UInt8))) (b4 : (List Int)) (b5 : (List V_api_Sum)) (b6 : (List V_api_Msg)) (b7 : Int) (b8 : Int) (b9 : (List V_api_Slot)) (b10 : (List V_api_Slot)) : ref11_Add_l2 N (n + 1) b0 b1 b2 b3 b4 b5 b6 b7 b8 b9 b10 = ref11_Add_l2_step N (fun b0  b1  b2  b3  b4  b5  b6  b7  b8  b9  b10  => ref11_Add_l2 N n b0 b1 b2 b3 b4 b5 b6 b7 b8 b9 b10) b0 b1 b2 b3 b4 b5 b6 b7 b8 b9 b10 := rfl
def ref11_Add_l1_step (N : Nat) (rec : Int → (List V_api_Slot) → (List V_api_Pair) → (List (List UInt8)) → (List Int) → (List V_api_Sum) → (List V_api_Msg) → Int → Int → (List V_api_Slot) → Option (((Unit × (Unit × (Unit × Int))) × ((List V_api_Slot) × (((List V_api_Pair) × ((List (List UInt8)) × ((List Int) × ((List V_api_Sum) × (List V_api_Msg))))) × ((Unit × (Int × Int)) × ((List V_api_Slot) × Unit))))))) (b0 : Int) (b1 : (List V_api_Slot)) (b2 : (List V_api_Pair)) (b3 : (List (List UInt8))) (b4 : (List Int)) (b5 : (List V_api_Sum)) (b6 : (List V_api_Msg)) (b7 : Int) (b8 : Int) (b9 : (List V_api_Slot)) : Option (((Unit × (Unit × (Unit × Int))) × ((List V_api_Slot) × (((List V_api_Pair) × ((List (List UInt8)) × ((List Int) × ((List V_api_Sum) × (List V_api_Msg))))) × ((Unit × (Int × Int)) × ((List V_api_Slot) × Unit)))))) :=
  bif (decide (b0 < (List.length b1 : Int))) then
  (gd (inB b0 (List.length b1))
  (bif (rdL b1 b0 D_api_Slot).1 then
  (rec (IntKind.wrap .i64 (b0 + (1 : Int))) b1 b2 b3 b4 b5 b6 b7 b8 b9)
  else
  (some (((), ((), ((), b0))), (b1, ((b2, (b3, (b4, (b5, b6)))), (((), (b7, b8)), (b9, ()))))))))
  else
  (some (((), ((), ((), b0))), (b1, ((b2, (b3, (b4, (b5, b6)))), (((), (b7, b8)), (b9, ()))))))
def ref11_Add_l1 (N n : Nat) (b0 : Int) (b1 : (List V_api_Slot)) (b2 : (List V_api_Pair)) (b3 : (List (List UInt8))) (b4 : (List Int)) (b5 : (List V_api_Sum)) (b6 : (List V_api_Msg)) (b7 : Int) (b8 : Int) (b9 : (List V_api_Slot)) : Option (((Unit × (Unit × (Unit × Int))) × ((List V_api_Slot) × (((List V_api_Pair) × ((List (List UInt8)) × ((List Int) × ((List V_api_Sum) × (List V_api_Msg))))) × ((Unit × (Int × Int)) × ((List V_api_Slot) × Unit)))))) :=
  iter (fun (rec : ((Unit × (Unit × (Unit × Int))) × ((List V_api_Slot) × (((List V_api_Pair) × ((List (List UInt8)) × ((List Int) × ((List V_api_Sum) × (List V_api_Msg))))) × ((Unit × (Int × Int)) × ((List V_api_Slot) × Unit))))) → Option (((Unit × (Unit × (Unit × Int))) × ((List V_api_Slot) × (((List V_api_Pair) × ((List (List UInt8)) × ((List Int) × ((List V_api_Sum) × (List V_api_Msg))))) × ((Unit × (Int × Int)) × ((List V_api_Slot) × Unit))))))) v => ref11_Add_l1_step N (fun b0 b1 b2 b3 b4 b5 b6 b7 b8 b9 => rec (((), ((), ((), b0))), (b1, ((b2, (b3, (b4, (b5, b6)))), (((), (b7, b8)), (b9, ())))))) v.1.2.2.2 v.2.1 v.2.2.1.1 v.2.2.1.2.1 v.2.2.1.2.2.1 v.2.2.1.2.2.2.1 v.2.2.1.2.2.2.2 v.2.2.2.1.2.1 v.2.2.2.1.2.2 v.2.2.2.2.1) n (((), ((), ((), b0))), (b1, ((b2, (b3, (b4, (b5, b6)))), (((), (b7, b8)), (b9, ())))))
theorem ref11_Add_l1_succ (N n : Nat) (b0 : Int) (b1 : (List V_api_Slot)) (b2 : (List V_api_Pair)) (b3 : (List (List UInt8))) (b4 : (List Int)) (b5 : (List V_api_Sum)) (b6 : (List V_api_Msg)) (b7 : Int) (b8 : Int) (b9 : (List V_api_Slot)) : ref11_Add_l1 N (n + 1) b0 b1 b2 b3 b4 b5 b6 b7 b8 b9 = ref11_Add_l1_step N (fun b0  b1  b2  b3  b4  b5  b6  b7  b8  b9  => ref11_Add_l1 N n b0 b1 b2 b3 b4 b5 b6 b7 b8 b9) b0 b1 b2 b3 b4 b5 b6 b7 b8 b9 := rfl
def ref11_Add_l0_step (N : Nat) (rec : Int → (List V_api_Slot) → (List V_api_Pair) → (List (List UInt8)) → (List Int) → (List V_api_Sum) → (List V_api_Msg) → Int → Int → (List V_api_Slot) → Option ((Unit × (((List V_api_Slot) × (Int × Int)) × Unit)) ⊕ ((Unit × (Unit × Unit)) × ((List V_api_Slot) × (((List V_api_Pair) × ((List (List UInt8)) × ((List Int) × ((List V_api_Sum) × (List V_api_Msg))))) × ((Unit × (Int × Int)) × ((List V_api_Slot) × Unit))))))) (b0 : Int) (b1 : (List V_api_Slot)) (b2 : (List V_api_Pair)) (b3 : (List (List UInt8))) (b4 : (List Int)) (b5 : (List V_api_Sum)) (b6 : (List V_api_Msg)) (b7 : Int) (b8 : Int) (b9 : (List V_api_Slot)) : Option ((Unit × (((List V_api_Slot) × (Int × Int)) × Unit)) ⊕ ((Unit × (Unit × Unit)) × ((List V_api_Slot) × (((List V_api_Pair) × ((List (List UInt8)) × ((List Int) × ((List V_api_Sum) × (List V_api_Msg))))) × ((Unit × (Int × Int)) × ((List V_api_Slot) × Unit)))))) :=
  bif (decide (b0 < (List.length b4 : Int))) then
  (gd (inB b0 (List.length b4))
  (match ref11_Used N b1 (rdL b4 b0 (0 : Int)) with
  | some r1 => (bif (!r1) then
  (some (.inl ((), ((b1, ((0 : Int), (110 : Int))), ()))))
  else
  (rec (IntKind.wrap .i64 (b0 + (1 : Int))) b1 b2 b3 b4 b5 b6 b7 b8 b9))
  | none => none))
  else
  (some (.inr (((), ((), ())), (b1, ((b2, (b3, (b4, (b5, b6)))), (((), (b7, b8)), (b9, ())))))))
def ref11_Add_l0 (N n : Nat) (b0 : Int) (b1 : (List V_api_Slot)) (b2 : (List V_api_Pair)) (b3 : (List (List UInt8))) (b4 : (List Int)) (b5 : (List V_api_Sum)) (b6 : (List V_api_Msg)) (b7 : Int) (b8 : Int) (b9 : (List V_api_Slot)) : Option ((Unit × (((List V_api_Slot) × (Int × Int)) × Unit)) ⊕ ((Unit × (Unit × Unit)) × ((List V_api_Slot) × (((List V_api_Pair) × ((List (List UInt8)) × ((List Int) × ((List V_api_Sum) × (List V_api_Msg))))) × ((Unit × (Int × Int)) × ((List V_api_Slot) × Unit)))))) :=
  iter (fun (rec : ((Unit × (Unit × (Unit × Int))) × ((List V_api_Slot) × (((List V_api_Pair) × ((List (List UInt8)) × ((List Int) × ((List V_api_Sum) × (List V_api_Msg))))) × ((Unit × (Int × Int)) × ((List V_api_Slot) × Unit))))) → Option ((Unit × (((List V_api_Slot) × (Int × Int)) × Unit)) ⊕ ((Unit × (Unit × Unit)) × ((List V_api_Slot) × (((List V_api_Pair) × ((List (List UInt8)) × ((List Int) × ((List V_api_Sum) × (List V_api_Msg))))) × ((Unit × (Int × Int)) × ((List V_api_Slot) × Unit))))))) v => ref11_Add_l0_step N (fun b0 b1 b2 b3 b4 b5 b6 b7 b8 b9 => rec (((), ((), ((), b0))), (b1, ((b2, (b3, (b4, (b5, b6)))), (((), (b7, b8)), (b9, ())))))) v.1.2.2.2 v.2.1 v.2.2.1.1 v.2.2.1.2.1 v.2.2.1.2.2.1 v.2.2.1.2.2.2.1 v.2.2.1.2.2.2.2 v.2.2.2.1.2.1 v.2.2.2.1.2.2 v.2.2.2.2.1) n (((), ((), ((), b0))), (b1, ((b2, (b3, (b4, (b5, b6)))), (((), (b7, b8)), (b9, ())))))
theorem ref11_Add_l0_succ (N n : Nat) (b0 : Int) (b1 : (List V_api_Slot)) (b2 : (List V_api_Pair)) (b3 : (List (List UInt8))) (b4 : (List Int)) (b5 : (List V_api_Sum)) (b6 : (List V_api_Msg)) (b7 : Int) (b8 : Int) (b9 : (List V_api_Slot)) : ref11_Add_l0 N (n + 1) b0 b1 b2 b3 b4 b5 b6 b7 b8 b9 = ref11_Add_l0_step N (fun b0  b1  b2  b3  b4  b5  b6  b7  b8  b9  => ref11_Add_l0 N n b0 b1 b2 b3 b4 b5 b6 b7 b8 b9) b0 b1 b2 b3 b4 b5 b6 b7 b8 b9 := rfl
def ref11_Add (N : Nat) (a0 : (List V_api_Slot)) (a1 : V_api_Node) : Option (V_ref11_Added) :=
  match ref11_Add_l0 N N (0 : Int) a0 a1.1 a1.2.1 a1.2.2.1 a1.2.2.2.1 a1.2.2.2.2 (0 : Int) (0 : Int) ([] : List V_api_Slot) with
  | some r2 => (match r2 with
  | .inl r3 => (some r3.2.1)
  | .inr r4 => (match ref11_Add_l1 N N (0 : Int) r4.2.1 r4.2.2.1.1 r4.2.2.1.2.1 r4.2.2.1.2.2.1 r4.2.2.1.2.2.2.1 r4.2.2.1.2.2.2.2 r4.2.2.2.1.2.1 r4.2.2.2.1.2.2 r4.2.2.2.2.1 with
  | some r5 => (bif (decide ((4096 : Int) ≤ r5.1.2.2.2)) then
  (some (r5.2.1, ((0 : Int), (111 : Int))))
  else
  (match ref11_Copied N r5.2.1 with
  | some r6 => (bif (eqi r5.1.2.2.2 (List.length r6 : Int)) then
  (let x7 := ([(false, (false, ((0 : Int), (([] : List V_api_Pair), (([] : List (List UInt8)), (([] : List Int), (([] : List V_api_Sum), ([] : List V_api_Msg))))))))] : List V_api_Slot)
  gd (fits (List.length r6 + List.length x7) 136)
  (let x8 := (@HAppend.hAppend (List V_api_Slot) (List V_api_Slot) (List V_api_Slot) _ r6 x7)
  gd (inB r5.1.2.2.2 (List.length x8))
  (let x9 := (setL x8 r5.1.2.2.2 (true, (false, ((1 : Int), r5.2.2.1))))
  match ref11_Add_l2 N N r5.1.2.2.2 (0 : Int) r5.2.2.1.1 r5.2.2.1.2.1 r5.2.2.1.2.2.1 r5.2.2.1.2.2.2.1 r5.2.2.1.2.2.2.2 r5.2.2.2.1.2.1 r5.2.2.2.1.2.2 r5.2.2.2.2.1 x9 with
  | some r12 => (some (r12.2.2.2.2.1, (r12.1.2.1, (0 : Int))))
  | none => none)))
  else
  (gd (inB r5.1.2.2.2 (List.length r6))
  (let x13 := (setL r6 r5.1.2.2.2 (true, (false, ((1 : Int), r5.2.2.1))))
  match ref11_Add_l2 N N r5.1.2.2.2 (0 : Int) r5.2.2.1.1 r5.2.2.1.2.1 r5.2.2.1.2.2.1 r5.2.2.1.2.2.2.1 r5.2.2.1.2.2.2.2 r5.2.2.2.1.2.1 r5.2.2.2.1.2.2 r5.2.2.2.2.1 x13 with
  | some r14 => (some (r14.2.2.2.2.1, (r14.1.2.1, (0 : Int))))
  | none => none)))
  | none => none))
  | none => none))
  | none => none

/-- downspout/downspoutref11.Hold -/
def ref11_Hold (N : Nat) (a0 : (List V_api_Slot)) (a1 : Int) : Option (((List V_api_Slot) × Int)) :=
  match ref11_Used N a0 a1 with
  | some r1 => (bif (!r1) then
  (some (a0, (110 : Int)))
  else
  (match ref11_Copied N a0 with
  | some r2 => (gd (inB a1 (List.length r2))
  (let x3 := (IntKind.wrap .i64 ((((rdL r2 a1 D_api_Slot).2).2).1 + (1 : Int)))
  gd (inB a1 (List.length r2))
  (let x4 := (setL r2 a1 ((rdL r2 a1 D_api_Slot).1, (((rdL r2 a1 D_api_Slot).2).1, (x3, ((((rdL r2 a1 D_api_Slot).2).2).2)))))
  some (x4, (0 : Int)))))
  | none => none))
  | none => none

/-- downspout/downspoutref11.Drop -/
def ref11_Drop_l0_step (N : Nat) (rec : (List Int) → (List V_api_Slot) → (List V_api_Slot) → Option (((Unit × Unit) × (Unit × ((List V_api_Slot) × (Unit × ((List V_api_Slot) × Unit))))))) (b0 : (List Int)) (b1 : (List V_api_Slot)) (b2 : (List V_api_Slot)) : Option (((Unit × Unit) × (Unit × ((List V_api_Slot) × (Unit × ((List V_api_Slot) × Unit)))))) :=
  let x3 := (decide ((0 : Int) < (List.length b0 : Int)))
  bif x3 then
  (gd (inB (0 : Int) (List.length b0))
  (gd (decide (0 ≤ (1 : Int)) && (decide ((1 : Int) ≤ (List.length b0 : Int)) && decide ((List.length b0 : Int) ≤ (List.length b0 : Int))))
  (match ref11_Used N b2 (rdL b0 (0 : Int) (0 : Int)) with
  | some r4 => (bif (!r4) then
  (rec (cut2 b0 (1 : Int) (List.length b0 : Int)) b1 b2)
  else
  (gd (inB (rdL b0 (0 : Int) (0 : Int)) (List.length b2))
  (let x5 := (((rdL b2 (rdL b0 (0 : Int) (0 : Int)) D_api_Slot).2).2).1
  gd (inB (rdL b0 (0 : Int) (0 : Int)) (List.length b2))
  (let x6 := (setL b2 (rdL b0 (0 : Int) (0 : Int)) ((rdL b2 (rdL b0 (0 : Int) (0 : Int)) D_api_Slot).1, (((rdL b2 (rdL b0 (0 : Int) (0 : Int)) D_api_Slot).2).1, ((IntKind.wrap .i64 (x5 - (1 : Int))), ((((rdL b2 (rdL b0 (0 : Int) (0 : Int)) D_api_Slot).2).2).2)))))
  gd (inB (rdL b0 (0 : Int) (0 : Int)) (List.length x6))
  (let x7 := (((rdL x6 (rdL b0 (0 : Int) (0 : Int)) D_api_Slot).2).2).1
  bif (eqi x7 (0 : Int)) then
  (gd (fits (0 + List.length (cut2 b0 (1 : Int) (List.length b0 : Int))) 8)
  (let x8 := (@HAppend.hAppend (List Int) (List Int) (List Int) _ ([] : List Int) (cut2 b0 (1 : Int) (List.length b0 : Int)))
  gd (inB (rdL b0 (0 : Int) (0 : Int)) (List.length x6))
  (let x9 := ((((((rdL x6 (rdL b0 (0 : Int) (0 : Int)) D_api_Slot).2).2).2).2).2).1
  gd (fits (List.length x8 + List.length x9) 8)
  (let x10 := (@HAppend.hAppend (List Int) (List Int) (List Int) _ x8 x9)
  gd (inB (rdL b0 (0 : Int) (0 : Int)) (List.length x6))
  (let x11 := (setL x6 (rdL b0 (0 : Int) (0 : Int)) (false, (false, ((0 : Int), (([] : List V_api_Pair), (([] : List (List UInt8)), (([] : List Int), (([] : List V_api_Sum), ([] : List V_api_Msg)))))))))
  rec x10 b1 x11)))))
  else
  (rec (cut2 b0 (1 : Int) (List.length b0 : Int)) b1 x6))))))
  | none => none)))
  else
  (some (((), ()), ((), (b1, ((), (b2, ()))))))
def ref11_Drop_l0 (N n : Nat) (b0 : (List Int)) (b1 : (List V_api_Slot)) (b2 : (List V_api_Slot)) : Option (((Unit × Unit) × (Unit × ((List V_api_Slot) × (Unit × ((List V_api_Slot) × Unit)))))) :=
  iter (fun (rec : ((Unit × (Unit × (List Int))) × (Unit × ((List V_api_Slot) × (Unit × ((List V_api_Slot) × Unit))))) → Option (((Unit × Unit) × (Unit × ((List V_api_Slot) × (Unit × ((List V_api_Slot) × Unit))))))) v => ref11_Drop_l0_step N (fun b0 b1 b2 => rec (((), ((), b0)), ((), (b1, ((), (b2, ())))))) v.1.2.2 v.2.2.1 v.2.2.2.2.1) n (((), ((), b0)), ((), (b1, ((), (b2, ())))))
theorem ref11_Drop_l0_succ (N n : Nat) (b0 : (List Int)) (b1 : (List V_api_Slot)) (b2 : (List V_api_Slot)) : ref11_Drop_l0 N (n + 1) b0 b1 b2 = ref11_Drop_l0_step N (fun b0  b1  b2  => ref11_Drop_l0 N n b0 b1 b2) b0 b1 b2 := rfl
def ref11_Drop (N : Nat) (a0 : (List V_api_Slot)) (a1 : Int) : Option (((List V_api_Slot) × Int)) :=
  match ref11_Used N a0 a1 with
  | some r1 => (bif (!r1) then
  (some (a0, (110 : Int)))
  else
  (match ref11_Copied N a0 with
  | some r2 => (match ref11_Drop_l0 N N ([a1] : List Int) ([] : List V_api_Slot) r2 with
  | some r12 => (some (r12.2.2.2.2.1, (0 : Int)))
  | none => none)
  | none => none))
  | none => none

/-- downspout/downspoutref11.Step -/
def ref11_Step_p0 (N : Nat) (b0 : (List V_api_Slot)) (b1 : (List Int)) (b2 : Int) (b3 : Int) (b4 : Int) (b5 : Int) (b6 : (List V_api_Slot)) (b7 : (List Int)) : Option ((Unit × (((List V_api_Slot) × Unit) × ((List Int) × Unit)))) :=
  gd (!(eqi (List.length b1 : Int) 0))
  (let x10 := (Int.tmod (IntKind.wrap .i64 (b3)) (List.length b1 : Int))
  gd (inB x10 (List.length b1))
  (bif (eqi (Int.tmod b2 (8 : Int)) (5 : Int)) then
  (match ref11_Hold N b0 (rdL b1 x10 (0 : Int)) with
  | some r11 => (gd (fits (0 + List.length b1) 8)
  (let x12 := (@HAppend.hAppend (List Int) (List Int) (List Int) _ ([] : List Int) b1)
  gd (fits (List.length x12 + 1) 8)
  (let x13 := (@HAppend.hAppend (List Int) (List Int) (List Int) _ x12 ([(rdL b1 x10 (0 : Int))] : List Int))
  some ((), ((r11.1, ()), (x13, ()))))))
  | none => none)
  else
  (match ref11_Drop N b0 (rdL b1 x10 (0 : Int)) with
  | some r14 => (gd (decide (0 ≤ (0 : Int)) && (decide ((0 : Int) ≤ x10) && decide (x10 ≤ (List.length b1 : Int))))
  (gd (fits (0 + List.length (cut2 b1 (0 : Int) x10)) 8)
  (let x15 := (@HAppend.hAppend (List Int) (List Int) (List Int) _ ([] : List Int) (cut2 b1 (0 : Int) x10))
  gd (decide (0 ≤ (IntKind.wrap .i64 (x10 + (1 : Int)))) && (decide ((IntKind.wrap .i64 (x10 + (1 : Int))) ≤ (List.length b1 : Int)) && decide ((List.length b1 : Int) ≤ (List.length b1 : Int))))
  (let x16 := (cut2 b1 (IntKind.wrap .i64 (x10 + (1 : Int))) (List.length b1 : Int))
  gd (fits (List.length x15 + List.length x16) 8)
  (let x17 := (@HAppend.hAppend (List Int) (List Int) (List Int) _ x15 x16)
  some ((), ((r14.1, ()), (x17, ()))))))))
  | none => none)))
def ref11_Step (N : Nat) (a0 : V_ref11_Held) (a1 : V_ref11_Raw) : Option (V_ref11_Held) :=
  let x1 := (decide ((Int.tmod a1.1 (8 : Int)) < (5 : Int)))
  bif x1 then
  (match ref11_Node N a1 a0.2 with
  | some r2 => (match ref11_Add N a0.1 r2 with
  | some r3 => (gd (fits (0 + List.length a0.2) 8)
  (let x4 := (@HAppend.hAppend (List Int) (List Int) (List Int) _ ([] : List Int) a0.2)
  gd (fits (List.length x4 + 1) 8)
  (let x5 := (@HAppend.hAppend (List Int) (List Int) (List Int) _ x4 ([r3.2.1] : List Int))
  some (r3.1, x5))))
  | none => none)
  | none => none)
  else
  (bif (eqi (List.length a0.2 : Int) (0 : Int)) then
  (match ref11_Node N a1 a0.2 with
  | some r6 => (match ref11_Add N a0.1 r6 with
  | some r7 => (gd (fits (0 + List.length a0.2) 8)
  (let x8 := (@HAppend.hAppend (List Int) (List Int) (List Int) _ ([] : List Int) a0.2)
  gd (fits (List.length x8 + 1) 8)
  (let x9 := (@HAppend.hAppend (List Int) (List Int) (List Int) _ x8 ([r7.2.1] : List Int))
  some (r7.1, x9))))
  | none => none)
  | none => none)
  else
  (match ref11_Step_p0 N a0.1 a0.2 a1.1 a1.2.1 a1.2.2.1 a1.2.2.2 ([] : List V_api_Slot) ([] : List Int) with
  | some r18 => (some (r18.2.1.1, r18.2.2.1))
  | none => none))

/-- downspout/downspoutref11.Play -/
def ref11_Play_l0_step (N : Nat) (rec : (List V_ref11_Raw) → Int → Int → (List V_api_Slot) → (List Int) → (List V_api_Slot) → (List Int) → Option (((Unit × Unit) × ((Unit × Unit) × ((List V_api_Slot) × ((List Int) × (((List V_api_Slot) × (List Int)) × Unit))))))) (b0 : (List V_ref11_Raw)) (b1 : Int) (b2 : Int) (b3 : (List V_api_Slot)) (b4 : (List Int)) (b5 : (List V_api_Slot)) (b6 : (List Int)) : Option (((Unit × Unit) × ((Unit × Unit) × ((List V_api_Slot) × ((List Int) × (((List V_api_Slot) × (List Int)) × Unit)))))) :=
  bif (decide (b2 < (List.length b0 : Int))) then
  (bif (decide (b2 < b1)) then
  (gd (inB b2 (List.length b0))
  (match ref11_Step N (b5, b6) (rdL b0 b2 D_ref11_Raw) with
  | some r1 => (rec b0 b1 (IntKind.wrap .i64 (b2 + (1 : Int))) b3 b4 r1.1 r1.2)
  | none => none))
  else
  (some (((), ()), (((), ()), (b3, (b4, ((b5, b6), ())))))))
  else
  (some (((), ()), (((), ()), (b3, (b4, ((b5, b6), ()))))))
def ref11_Play_l0 (N n : Nat) (b0 : (List V_ref11_Raw)) (b1 : Int) (b2 : Int) (b3 : (List V_api_Slot)) (b4 : (List Int)) (b5 : (List V_api_Slot)) (b6 : (List Int)) : Option (((Unit × Unit) × ((Unit × Unit) × ((List V_api_Slot) × ((List Int) × (((List V_api_Slot) × (List Int)) × Unit)))))) :=
  iter (fun (rec : (((List V_ref11_Raw) × (Int × (Unit × (Unit × Int)))) × ((Unit × Unit) × ((List V_api_Slot) × ((List Int) × (((List V_api_Slot) × (List Int)) × Unit))))) → Option (((Unit × Unit) × ((Unit × Unit) × ((List V_api_Slot) × ((List Int) × (((List V_api_Slot) × (List Int)) × Unit))))))) v => ref11_Play_l0_step N (fun b0 b1 b2 b3 b4 b5 b6 => rec ((b0, (b1, ((), ((), b2)))), (((), ()), (b3, (b4, ((b5, b6), ())))))) v.1.1 v.1.2.1 v.1.2.2.2.2 v.2.2.1 v.2.2.2.1 v.2.2.2.2.1.1 v.2.2.2.2.1.2) n ((b0, (b1, ((), ((), b2)))), (((), ()), (b3, (b4, ((b5, b6), ())))))
theorem ref11_Play_l0_succ (N n : Nat) (b0 : (List V_ref11_Raw)) (b1 : Int) (b2 : Int) (b3 : (List V_api_Slot)) (b4 : (List Int)) (b5 : (List V_api_Slot)) (b6 : (List Int)) : ref11_Play_l0 N (n + 1) b0 b1 b2 b3 b4 b5 b6 = ref11_Play_l0_step N (fun b0  b1  b2  b3  b4  b5  b6  => ref11_Play_l0 N n b0 b1 b2 b3 b4 b5 b6) b0 b1 b2 b3 b4 b5 b6 := rfl
def ref11_Play (N : Nat) (a0 : (List V_ref11_Raw)) (a1 : Int) : Option (V_ref11_Held) :=
  match ref11_Play_l0 N N a0 a1 (0 : Int) ([] : List V_api_Slot) ([] : List Int) ([] : List V_api_Slot) ([] : List Int) with
  | some r2 => (some r2.2.2.2.2.1)
  | none => none

/-- downspout/downspoutref11.Counts -/
def ref11_Counts_l1_step (N : Nat) (rec : Bool → Int → (List V_api_Slot) → (List Int) → (List Int) → Option (((Unit × Bool) × ((List Int) × Unit)))) (b0 : Bool) (b1 : Int) (b2 : (List V_api_Slot)) (b3 : (List Int)) (b4 : (List Int)) : Option (((Unit × Bool) × ((List Int) × Unit))) :=
  bif (decide (b1 < (List.length b4 : Int))) then
  (gd (inB b1 (List.length b4))
  (match ref11_Used N b2 (rdL b4 b1 (0 : Int)) with
  | some r5 => (bif (!r5) then
  (rec false (IntKind.wrap .i64 (b1 + (1 : Int))) b2 b3 b4)
  else
  (gd (inB b1 (List.length b4))
  (gd (inB (rdL b4 b1 (0 : Int)) (List.length b3))
  (let x6 := (IntKind.wrap .i64 ((rdL b3 (rdL b4 b1 (0 : Int)) (0 : Int)) + (1 : Int)))
  gd (inB (rdL b4 b1 (0 : Int)) (List.length b3))
  (rec b0 (IntKind.wrap .i64 (b1 + (1 : Int))) b2 (setL b3 (rdL b4 b1 (0 : Int)) x6) b4)))))
  | none => none))
  else
  (some (((), b0), (b3, ())))
def ref11_Counts_l1 (N n : Nat) (b0 : Bool) (b1 : Int) (b2 : (List V_api_Slot)) (b3 : (List Int)) (b4 : (List Int)) : Option (((Unit × Bool) × ((List Int) × Unit))) :=
  iter (fun (rec : ((Unit × (Unit × (Unit × (Bool × Int)))) × ((List V_api_Slot) × ((List Int) × ((List Int) × Unit)))) → Option (((Unit × Bool) × ((List Int) × Unit)))) v => ref11_Counts_l1_step N (fun b0 b1 b2 b3 b4 => rec (((), ((), ((), (b0, b1)))), (b2, (b3, (b4, ()))))) v.1.2.2.2.1 v.1.2.2.2.2 v.2.1 v.2.2.1 v.2.2.2.1) n (((), ((), ((), (b0, b1)))), (b2, (b3, (b4, ()))))
theorem ref11_Counts_l1_succ (N n : Nat) (b0 : Bool) (b1 : Int) (b2 : (List V_api_Slot)) (b3 : (List Int)) (b4 : (List Int)) : ref11_Counts_l1 N (n + 1) b0 b1 b2 b3 b4 = ref11_Counts_l1_step N (fun b0  b1  b2  b3  b4  => ref11_Counts_l1 N n b0 b1 b2 b3 b4) b0 b1 b2 b3 b4 := rfl
def ref11_Counts_l0_step (N : Nat) (rec : Bool → Int → (List V_api_Slot) → (List Int) → (List Int) → Option (((Unit × (Unit × (Unit × Bool))) × ((List V_api_Slot) × ((List Int) × ((List Int) × Unit)))))) (b0 : Bool) (b1 : Int) (b2 : (List V_api_Slot)) (b3 : (List Int)) (b4 : (List Int)) : Option (((Unit × (Unit × (Unit × Bool))) × ((List V_api_Slot) × ((List Int) × ((List Int) × Unit))))) :=
  bif (decide (b1 < (List.length b2 : Int))) then
  (gd (inB b1 (List.length b2))
  (bif (rdL b2 b1 D_api_Slot).1 then
  (gd (inB b1 (List.length b2))
  (gd (fits (List.length b4 + List.length (((((((rdL b2 b1 D_api_Slot).2).2).2).2).2).1)) 8)
  (let x3 := (@HAppend.hAppend (List Int) (List Int) (List Int) _ b4 (((((((rdL b2 b1 D_api_Slot).2).2).2).2).2).1))
  rec b0 (IntKind.wrap .i64 (b1 + (1 : Int))) b2 b3 x3)))
  else
  (rec b0 (IntKind.wrap .i64 (b1 + (1 : Int))) b2 b3 b4)))
  else
  (some (((), ((), ((), b0))), (b2, (b3, (b4, ())))))
def ref11_Counts_l0 (N n : Nat) (b0 : Bool) (b1 : Int) (b2 : (List V_api_Slot)) (b3 : (List Int)) (b4 : (List Int)) : Option (((Unit × (Unit × (Unit × Bool))) × ((List V_api_Slot) × ((List Int) × ((List Int) × Unit))))) :=
  iter (fun (rec : ((Unit × (Unit × (Unit × (Bool × Int)))) × ((List V_api_Slot) × ((List Int) × ((List Int) × Unit)))) → Option (((Unit × (Unit × (Unit × Bool))) × ((List V_api_Slot) × ((List Int) × ((List Int) × Unit)))))) v => ref11_Counts_l0_step N (fun b0 b1 b2 b3 b4 => rec (((), ((), ((), (b0, b1)))), (b2, (b3, (b4, ()))))) v.1.2.2.2.1 v.1.2.2.2.2 v.2.1 v.2.2.1 v.2.2.2.1) n (((), ((), ((), (b0, b1)))), (b2, (b3, (b4, ()))))
theorem ref11_Counts_l0_succ (N n : Nat) (b0 : Bool) (b1 : Int) (b2 : (List V_api_Slot)) (b3 : (List Int)) (b4 : (List Int)) : ref11_Counts_l0 N (n + 1) b0 b1 b2 b3 b4 = ref11_Counts_l0_step N (fun b0  b1  b2  b3  b4  => ref11_Counts_l0 N n b0 b1 b2 b3 b4) b0 b1 b2 b3 b4 := rfl
def ref11_Counts (N : Nat) (a0 : (List V_api_Slot)) (a1 : (List Int)) : Option (((List Int) × Bool)) :=
  gd ((decide (0 ≤ (List.length a0 : Int)) && decide ((List.length a0 : Int) ≤ (List.length a0 : Int))) && (decide ((List.length a0 : Int) < maxB) && decide ((List.length a0 : Int) * 8 < maxB)))
  (let x1 := (List.replicate (Int.toNat (List.length a0 : Int)) (0 : Int))
  gd (fits (0 + List.length a1) 8)
  (let x2 := (@HAppend.hAppend (List Int) (List Int) (List Int) _ ([] : List Int) a1)
  match ref11_Counts_l0 N N true (0 : Int) a0 x1 x2 with
  | some r4 => (match ref11_Counts_l1 N N r4.1.2.2.2 (0 : Int) r4.2.1 r4.2.2.1 r4.2.2.2.1 with
  | some r7 => (some (r7.2.1, r7.1.2))
  | none => none)
  | none => none))

/-- downspout/downspoutref11.Reach -/
def ref11_Reach_l1_step (N : Nat) (rec : Int → (List Bool) → (List Int) → Option ((Unit × ((List Int) × Unit)))) (b0 : Int) (b1 : (List Bool)) (b2 : (List Int)) : Option ((Unit × ((List Int) × Unit))) :=
  bif (decide (b0 < (List.length b1 : Int))) then
  (gd (inB b0 (List.length b1))
  (bif (rdL b1 b0 false) then
  (gd (fits (List.length b2 + 1) 8)
  (let x10 := (@HAppend.hAppend (List Int) (List Int) (List Int) _ b2 ([b0] : List Int))
  rec (IntKind.wrap .i64 (b0 + (1 : Int))) b1 x10))
  else
  (rec (IntKind.wrap .i64 (b0 + (1 : Int))) b1 b2)))
  else
  (some ((), (b2, ())))
def ref11_Reach_l1 (N n : Nat) (b0 : Int) (b1 : (List Bool)) (b2 : (List Int)) : Option ((Unit × ((List Int) × Unit))) :=
  iter (fun (rec : ((Unit × (Unit × Int)) × ((List Bool) × ((List Int) × Unit))) → Option ((Unit × ((List Int) × Unit)))) v => ref11_Reach_l1_step N (fun b0 b1 b2 => rec (((), ((), b0)), (b1, (b2, ())))) v.1.2.2 v.2.1 v.2.2.1) n (((), ((), b0)), (b1, (b2, ())))
theorem ref11_Reach_l1_succ (N n : Nat) (b0 : Int) (b1 : (List Bool)) (b2 : (List Int)) : ref11_Reach_l1 N (n + 1) b0 b1 b2 = ref11_Reach_l1_step N (fun b0  b1  b2  => ref11_Reach_l1 N n b0 b1 b2) b0 b1 b2 := rfl
def ref11_Reach_l0_step (N : Nat) (rec : (List Int) → (List V_api_Slot) → (List Bool) → Option ((Unit × ((List Bool) × Unit)))) (b0 : (List Int)) (b1 : (List V_api_Slot)) (b2 : (List Bool)) : Option ((Unit × ((List Bool) × Unit))) :=
  let x3 := (decide ((0 : Int) < (List.length b0 : Int)))
  bif x3 then
  (gd (inB (0 : Int) (List.length b0))
  (gd (decide (0 ≤ (1 : Int)) && (decide ((1 : Int) ≤ (List.length b0 : Int)) && decide ((List.length b0 : Int) ≤ (List.length b0 : Int))))
  (match ref11_Used N b1 (rdL b0 (0 : Int) (0 : Int)) with
  | some r4 => (bif r4 then
  (gd (inB (rdL b0 (0 : Int) (0 : Int)) (List.length b2))
  (let x5 := (!(rdL b2 (rdL b0 (0 : Int) (0 : Int)) false))
  bif x5 then
  (gd (inB (rdL b0 (0 : Int) (0 : Int)) (List.length b2))
  (gd (fits (0 + List.length (cut2 b0 (1 : Int) (List.length b0 : Int))) 8)
  (let x6 := (@HAppend.hAppend (List Int) (List Int) (List Int) _ ([] : List Int) (cut2 b0 (1 : Int) (List.length b0 : Int)))
  gd (inB (rdL b0 (0 : Int) (0 : Int)) (List.length b1))
  (let x7 := (rdL b1 (rdL b0 (0 : Int) (0 : Int)) D_api_Slot)
  gd (fits (List.length x6 + List.length x7.2.2.2.2.2.1) 8)
  (let x8 := (@HAppend.hAppend (List Int) (List Int) (List Int) _ x6 x7.2.2.2.2.2.1)
  rec x8 b1 (setL b2 (rdL b0 (0 : Int) (0 : Int)) true))))))
  else
  (rec (cut2 b0 (1 : Int) (List.length b0 : Int)) b1 b2)))
  else
  (rec (cut2 b0 (1 : Int) (List.length b0 : Int)) b1 b2))
  | none => none)))
  else
  (some ((), (b2, ())))
def ref11_Reach_l0 (N n : Nat) (b0 : (List Int)) (b1 : (List V_api_Slot)) (b2 : (List Bool)) : Option ((Unit × ((List Bool) × Unit))) :=
  iter (fun (rec : ((Unit × (Unit × (List Int))) × ((List V_api_Slot) × ((List Bool) × Unit))) → Option ((Unit × ((List Bool) × Unit)))) v => ref11_Reach_l0_step N (fun b0 b1 b2 => rec (((), ((), b0)), (b1, (b2, ())))) v.1.2.2 v.2.1 v.2.2.1) n (((), ((), b0)), (b1, (b2, ())))
theorem ref11_Reach_l0_succ (N n : Nat) (b0 : (List Int)) (b1 : (List V_api_Slot)) (b2 : (List Bool)) : ref11_Reach_l0 N (n + 1) b0 b1 b2 = ref11_Reach_l0_step N (fun b0  b1  b2  => ref11_Reach_l0 N n b0 b1 b2) b0 b1 b2 := rfl
def ref11_Reach (N : Nat) (a0 : (List V_api_Slot)) (a1 : (List Int)) : Option ((List Int)) :=
  gd ((decide (0 ≤ (List.length a0 : Int)) && decide ((List.length a0 : Int) ≤ (List.length a0 : Int))) && (decide ((List.length a0 : Int) < maxB) && decide ((List.length a0 : Int) * 1 < maxB)))
  (let x1 := (List.replicate (Int.toNat (List.length a0 : Int)) false)
  gd (fits (0 + List.length a1) 8)
  (let x2 := (@HAppend.hAppend (List Int) (List Int) (List Int) _ ([] : List Int) a1)
  match ref11_Reach_l0 N N x2 a0 x1 with
  | some r9 => (match ref11_Reach_l1 N N (0 : Int) r9.2.1 ([] : List Int) with
  | some r11 => (some r11.2.1)
  | none => none)
  | none => none))

/-- downspout/downspoutref11.zero -/
def ref11_zero (N : Nat) (a0 : V_api_Slot) : Option (Bool) :=
  bif (!a0.1) then
  (bif (!a0.2.1) then
  (bif (eqi a0.2.2.1 (0 : Int)) then
  (let x1 := (IntKind.wrap .i64 ((List.length a0.2.2.2.1 : Int) + (List.length a0.2.2.2.2.1 : Int)))
  let x2 := (IntKind.wrap .i64 (x1 + (List.length a0.2.2.2.2.2.1 : Int)))
  let x3 := (IntKind.wrap .i64 (x2 + (List.length a0.2.2.2.2.2.2.1 : Int)))
  let x4 := (IntKind.wrap .i64 (x3 + (List.length a0.2.2.2.2.2.2.2 : Int)))
  some (eqi x4 (0 : Int)))
  else
  (some false))
  else
  (some false))
  else
  (some false)

/-- downspout/downspoutref11.Has -/
def ref11_Has_l0_step (N : Nat) (rec : (List Int) → Int → Int → Option ((Bool × Unit) ⊕ (Unit × Unit))) (b0 : (List Int)) (b1 : Int) (b2 : Int) : Option ((Bool × Unit) ⊕ (Unit × Unit)) :=
  bif (decide (b2 < (List.length b0 : Int))) then
  (gd (inB b2 (List.length b0))
  (bif (eqi (rdL b0 b2 (0 : Int)) b1) then
  (some (.inl (true, ())))
  else
  (rec b0 b1 (IntKind.wrap .i64 (b2 + (1 : Int))))))
  else
  (some (.inr ((), ())))
def ref11_Has_l0 (N n : Nat) (b0 : (List Int)) (b1 : Int) (b2 : Int) : Option ((Bool × Unit) ⊕ (Unit × Unit)) :=
  iter (fun (rec : (((List Int) × (Int × Int)) × Unit) → Option ((Bool × Unit) ⊕ (Unit × Unit))) v => ref11_Has_l0_step N (fun b0 b1 b2 => rec ((b0, (b1, b2)), ())) v.1.1 v.1.2.1 v.1.2.2) n ((b0, (b1, b2)), ())
theorem ref11_Has_l0_succ (N n : Nat) (b0 : (List Int)) (b1 : Int) (b2 : Int) : ref11_Has_l0 N (n + 1) b0 b1 b2 = ref11_Has_l0_step N (fun b0  b1  b2  => ref11_Has_l0 N n b0 b1 b2) b0 b1 b2 := rfl
def ref11_Has (N : Nat) (a0 : (List Int)) (a1 : Int) : Option (Bool) :=
  match ref11_Has_l0 N N a0 a1 (0 : Int) with
  | some r1 => (match r1 with
  | .inl r2 => (some r2.1)
  | .inr r3 => (some false))
  | none => none

/-- downspout/downspoutref11.Sound -/
def ref11_Sound_p1 (N : Nat) (b0 : Int) (b1 : (List V_api_Slot)) (b2 : (List Int)) (b3 : (List Int)) : Option (((Unit × (Unit × (Bool × (Unit × Int)))) × ((List V_api_Slot) × ((List Int) × ((List Int) × Unit))))) :=
  gd (inB b0 (List.length b1))
  (bif (!((rdL b1 b0 D_api_Slot).1)) then
  (match ref11_zero N (rdL b1 b0 D_api_Slot) with
  | some r3 => (some (((), ((), (r3, ((), (IntKind.wrap .i64 (b0 + (1 : Int))))))), (b1, (b2, (b3, ())))))
  | none => none)
  else
  (gd (inB b0 (List.length b2))
  (let x4 := (eqi ((((rdL b1 b0 D_api_Slot).2).2).1) (rdL b2 b0 (0 : Int)))
  bif x4 then
  (match ref11_Has N b3 b0 with
  | some r5 => (bif r5 then
  (match ref11_Reach N b1 (((((((rdL b1 b0 D_api_Slot).2).2).2).2).2).1) with
  | some r6 => (match ref11_Has N r6 b0 with
  | some r7 => (some (((), ((), ((!r7), ((), (IntKind.wrap .i64 (b0 + (1 : Int))))))), (b1, (b2, (b3, ())))))
  | none => none)
  | none => none)
  else
  (some (((), ((), (false, ((), (IntKind.wrap .i64 (b0 + (1 : Int))))))), (b1, (b2, (b3, ()))))))
  | none => none)
  else
  (some (((), ((), (false, ((), (IntKind.wrap .i64 (b0 + (1 : Int))))))), (b1, (b2, (b3, ()))))))))
def ref11_Sound_l0_step (N : Nat) (rec : Bool → Int → (List V_api_Slot) → (List Int) → (List Int) → Option ((Bool × Unit))) (b0 : Bool) (b1 : Int) (b2 : (List V_api_Slot)) (b3 : (List Int)) (b4 : (List Int)) : Option ((Bool × Unit)) :=
  bif (decide (b1 < (List.length b2 : Int))) then
  (bif b0 then
  (match ref11_Sound_p1 N b1 b2 b3 b4 with
  | some r8 => (rec r8.1.2.2.1 r8.1.2.2.2.2 r8.2.1 r8.2.2.1 r8.2.2.2.1)
  | none => none)
  else
  (some (b0, ())))
  else
  (some (b0, ()))
def ref11_Sound_l0 (N n : Nat) (b0 : Bool) (b1 : Int) (b2 : (List V_api_Slot)) (b3 : (List Int)) (b4 : (List Int)) : Option ((Bool × Unit)) :=
  iter (fun (rec : ((Unit × (Unit × (Bool × (Unit × Int)))) × ((List V_api_Slot) × ((List Int) × ((List Int) × Unit)))) → Option ((Bool × Unit))) v => ref11_Sound_l0_step N (fun b0 b1 b2 b3 b4 => rec (((), ((), (b0, ((), b1)))), (b2, (b3, (b4, ()))))) v.1.2.2.1 v.1.2.2.2.2 v.2.1 v.2.2.1 v.2.2.2.1) n (((), ((), (b0, ((), b1)))), (b2, (b3, (b4, ()))))
theorem ref11_Sound_l0_succ (N n : Nat) (b0 : Bool) (b1 : Int) (b2 : (List V_api_Slot)) (b3 : (List Int)) (b4 : (List Int)) : ref11_Sound_l0 N (n + 1) b0 b1 b2 b3 b4 = ref11_Sound_l0_step N (fun b0  b1  b2  b3  b4  => ref11_Sound_l0 N n b0 b1 b2 b3 b4) b0 b1 b2 b3 b4 := rfl
def ref11_Sound (N : Nat) (a0 : (List V_api_Slot)) (a1 : (List Int)) : Option (Bool) :=
  match ref11_Counts N a0 a1 with
  | some r1 => (match ref11_Reach N a0 a1 with
  | some r2 => (match ref11_Sound_l0 N N r1.2 (0 : Int) a0 r1.1 r2 with
  | some r9 => (some r9.1)
  | none => none)
  | none => none)
  | none => none

/-- downspout/downspoutlaw11.PoolSound -/
def law11_PoolSound_p1 (N : Nat) (b0 : Bool) (b1 : (List V_api_Slot)) (b2 : (List Int)) (b3 : (List V_api_Slot)) : Option ((Bool × Unit)) :=
  match pool_Sound N b3 b2 with
  | some r12 => (match ref11_Sound N b3 b2 with
  | some r13 => (bif (eqb r12 r13) then
  (match pool_Reach N b3 b2 with
  | some r14 => (match ref11_Reach N b3 b2 with
  | some r15 => (match ref11_Ints N r14 r15 with
  | some r16 => (bif r16 then
  (some (b0, ()))
  else
  (some (false, ())))
  | none => none)
  | none => none)
  | none => none)
  else
  (some (false, ())))
  | none => none)
  | none => none
def law11_PoolSound_p0 (N : Nat) (b0 : Bool) (b1 : Int) (b2 : Int) (b3 : Int) (b4 : (List V_api_Slot)) (b5 : (List Int)) : Option ((Bool × Unit)) :=
  match ref11_Copied N b4 with
  | some r8 => (bif (eqi (List.length r8 : Int) (0 : Int)) then
  (some (b0, ()))
  else
  (gd (!(eqi (List.length r8 : Int) 0))
  (let x9 := (Int.tmod (IntKind.wrap .i64 (b1)) (List.length r8 : Int))
  gd (inB x9 (List.length r8))
  (bif (eqi (Int.tmod b2 (5 : Int)) (0 : Int)) then
  (let x10 := (IntKind.wrap .i64 ((((rdL r8 x9 D_api_Slot).2).2).1 + (1 : Int)))
  let x11 := (setL r8 x9 ((rdL r8 x9 D_api_Slot).1, (((rdL r8 x9 D_api_Slot).2).1, (x10, ((((rdL r8 x9 D_api_Slot).2).2).2)))))
  match law11_PoolSound_p1 N b0 b4 b5 x11 with
  | some r17 => (some (r17.1, ()))
  | none => none)
  else
  (bif (eqi (Int.tmod b2 (5 : Int)) (1 : Int)) then
  (let x18 := (setL r8 x9 ((!((rdL r8 x9 D_api_Slot).1)), ((rdL r8 x9 D_api_Slot).2)))
  match law11_PoolSound_p1 N b0 b4 b5 x18 with
  | some r19 => (some (r19.1, ()))
  | none => none)
  else
  (bif (eqi (Int.tmod b2 (5 : Int)) (2 : Int)) then
  (gd (fits (0 + List.length (((((((rdL r8 x9 D_api_Slot).2).2).2).2).2).1)) 8)
  (let x20 := (@HAppend.hAppend (List Int) (List Int) (List Int) _ ([] : List Int) (((((((rdL r8 x9 D_api_Slot).2).2).2).2).2).1))
  let x21 := (Int.tmod (IntKind.wrap .i64 (b3)) (20 : Int))
  gd (fits (List.length x20 + 1) 8)
  (let x22 := (@HAppend.hAppend (List Int) (List Int) (List Int) _ x20 ([x21] : List Int))
  let x23 := (setL r8 x9 ((rdL r8 x9 D_api_Slot).1, (((rdL r8 x9 D_api_Slot).2).1, ((((rdL r8 x9 D_api_Slot).2).2).1, (((((rdL r8 x9 D_api_Slot).2).2).2).1, ((((((rdL r8 x9 D_api_Slot).2).2).2).2).1, (x22, (((((((rdL r8 x9 D_api_Slot).2).2).2).2).2).2))))))))
  match law11_PoolSound_p1 N b0 b4 b5 x23 with
  | some r24 => (some (r24.1, ()))
  | none => none)))
  else
  (bif (eqi (Int.tmod b2 (5 : Int)) (3 : Int)) then
  (let x25 := (setL r8 x9 ((rdL r8 x9 D_api_Slot).1, (true, (((rdL r8 x9 D_api_Slot).2).2))))
  match law11_PoolSound_p1 N b0 b4 b5 x25 with
  | some r26 => (some (r26.1, ()))
  | none => none)
  else
  (let x27 := (setL r8 x9 ((rdL r8 x9 D_api_Slot).1, (((rdL r8 x9 D_api_Slot).2).1, ((((rdL r8 x9 D_api_Slot).2).2).1, (((((rdL r8 x9 D_api_Slot).2).2).2).1, ((((((rdL r8 x9 D_api_Slot).2).2).2).2).1, (([] : List Int), (((((((rdL r8 x9 D_api_Slot).2).2).2).2).2).2))))))))
  match law11_PoolSound_p1 N b0 b4 b5 x27 with
  | some r28 => (some (r28.1, ()))
  | none => none))))))))
  | none => none
def law11_PoolSound (N : Nat) (a0 : (List V_ref11_Raw)) (a1 : (List Int)) (a2 : V_a3_uint8) : Option (Bool) :=
  match law11_sanity N with
  | some r1 => (let x2 := (decide ((20 : Int) < (List.length a1 : Int)))
  bif x2 then
  (some r1)
  else
  (match ref11_Play N a0 (16 : Int) with
  | some r3 => (match pool_Sound N r3.1 r3.2 with
  | some r4 => (bif (!r4) then
  (some false)
  else
  (match ref11_Sound N r3.1 r3.2 with
  | some r5 => (bif (!r5) then
  (some false)
  else
  (match pool_Sound N r3.1 a1 with
  | some r6 => (match ref11_Sound N r3.1 a1 with
  | some r7 => (bif (!(eqb r6 r7)) then
  (some false)
  else
  (match law11_PoolSound_p0 N r1 a2.1 a2.2.1 a2.2.2 r3.1 r3.2 with
  | some r29 => (some r29.1)
  | none => none))
  | none => none)
  | none => none))
  | none => none))
  | none => none)
  | none => none))
  | none => none

/-- downspout/downspoutlaw11.PoolShares -/
def law11_PoolShares_l1_step (N : Nat) (rec : Bool → Int → (List V_api_Slot) → (List Int) → (List V_api_Slot) → (List Int) → Option ((Bool × Unit) ⊕ (Bool × Unit))) (b0 : Bool) (b1 : Int) (b2 : (List V_api_Slot)) (b3 : (List Int)) (b4 : (List V_api_Slot)) (b5 : (List Int)) : Option ((Bool × Unit) ⊕ (Bool × Unit)) :=
  bif (decide (b1 < (List.length b5 : Int))) then
  (gd (inB b1 (List.length b5))
  (match pool_Get N b2 (rdL b5 b1 (0 : Int)) with
  | some r13 => (gd (inB b1 (List.length b5))
  (match pool_Get N b4 (rdL b5 b1 (0 : Int)) with
  | some r14 => (bif (!(eqi r13.2 (0 : Int))) then
  (some (.inl (false, ())))
  else
  (bif (!(eqi r14.2 (0 : Int))) then
  (some (.inl (false, ())))
  else
  (match ref11_SameNode N r13.1 r14.1 with
  | some r15 => (bif (!r15) then
  (some (.inl (false, ())))
  else
  (rec b0 (IntKind.wrap .i64 (b1 + (1 : Int))) b2 b3 b4 b5))
  | none => none)))
  | none => none))
  | none => none))
  else
  (some (.inr (b0, ())))
def law11_PoolShares_l1 (N n : Nat) (b0 : Bool) (b1 : Int) (b2 : (List V_api_Slot)) (b3 : (List Int)) (b4 : (List V_api_Slot)) (b5 : (List Int)) : Option ((Bool × Unit) ⊕ (Bool × Unit)) :=
  iter (fun (rec : ((Bool × (Unit × (Unit × (Unit × Int)))) × (((List V_api_Slot) × (List Int)) × ((List V_api_Slot) × ((List Int) × Unit)))) → Option ((Bool × Unit) ⊕ (Bool × Unit))) v => law11_PoolShares_l1_step N (fun b0 b1 b2 b3 b4 b5 => rec ((b0, ((), ((), ((), b1)))), ((b2, b3), (b4, (b5, ()))))) v.1.1 v.1.2.2.2.2 v.2.1.1 v.2.1.2 v.2.2.1 v.2.2.2.1) n ((b0, ((), ((), ((), b1)))), ((b2, b3), (b4, (b5, ()))))
theorem law11_PoolShares_l1_succ (N n : Nat) (b0 : Bool) (b1 : Int) (b2 : (List V_api_Slot)) (b3 : (List Int)) (b4 : (List V_api_Slot)) (b5 : (List Int)) : law11_PoolShares_l1 N (n + 1) b0 b1 b2 b3 b4 b5 = law11_PoolShares_l1_step N (fun b0  b1  b2  b3  b4  b5  => law11_PoolShares_l1 N n b0 b1 b2 b3 b4 b5) b0 b1 b2 b3 b4 b5 := rfl
def law11_PoolShares_l0_step (N : Nat) (rec : Bool → Int → Int → Int → (List V_api_Slot) → (List Int) → (List V_api_Slot) → Option ((Bool × Unit) ⊕ ((Bool × (Unit × (Int × Unit))) × (((List V_api_Slot) × (List Int)) × ((List V_api_Slot) × Unit))))) (b0 : Bool) (b1 : Int) (b2 : Int) (b3 : Int) (b4 : (List V_api_Slot)) (b5 : (List Int)) (b6 : (List V_api_Slot)) : Option ((Bool × Unit) ⊕ ((Bool × (Unit × (Int × Unit))) × (((List V_api_Slot) × (List Int)) × ((List V_api_Slot) × Unit)))) :=
  bif (decide (b3 < (List.length b5 : Int))) then
  (bif (eqi b3 b1) then
  (rec b0 b1 b2 (IntKind.wrap .i64 (b3 + (1 : Int))) b4 b5 b6)
  else
  (gd (inB b3 (List.length b5))
  (match pool_Drop N b6 (rdL b5 b3 (0 : Int)) with
  | some r4 => (bif (!(eqi r4.2 (0 : Int))) then
  (some (.inl (false, ())))
  else
  (rec b0 b1 b2 (IntKind.wrap .i64 (b3 + (1 : Int))) b4 b5 r4.1))
  | none => none)))
  else
  (some (.inr ((b0, ((), (b2, ()))), ((b4, b5), (b6, ())))))
def law11_PoolShares_l0 (N n : Nat) (b0 : Bool) (b1 : Int) (b2 : Int) (b3 : Int) (b4 : (List V_api_Slot)) (b5 : (List Int)) (b6 : (List V_api_Slot)) : Option ((Bool × Unit) ⊕ ((Bool × (Unit × (Int × Unit))) × (((List V_api_Slot) × (List Int)) × ((List V_api_Slot) × Unit)))) :=
  iter (fun (rec : ((Bool × (Unit × (Int × (Int × (Unit × Int))))) × (((List V_api_Slot) × (List Int)) × ((List V_api_Slot) × Unit))) → Option ((Bool × Unit) ⊕ ((Bool × (Unit × (Int × Unit))) × (((List V_api_Slot) × (List Int)) × ((List V_api_Slot) × Unit))))) v => law11_PoolShares_l0_step N (fun b0 b1 b2 b3 b4 b5 b6 => rec ((b0, ((), (b1, (b2, ((), b3))))), ((b4, b5), (b6, ())))) v.1.1 v.1.2.2.1 v.1.2.2.2.1 v.1.2.2.2.2.2 v.2.1.1 v.2.1.2 v.2.2.1) n ((b0, ((), (b1, (b2, ((), b3))))), ((b4, b5), (b6, ())))
theorem law11_PoolShares_l0_succ (N n : Nat) (b0 : Bool) (b1 : Int) (b2 : Int) (b3 : Int) (b4 : (List V_api_Slot)) (b5 : (List Int)) (b6 : (List V_api_Slot)) : law11_PoolShares_l0 N (n + 1) b0 b1 b2 b3 b4 b5 b6 = law11_PoolShares_l0_step N (fun b0  b1  b2  b3  b4  b5  b6  => law11_PoolShares_l0 N n b0 b1 b2 b3 b4 b5 b6) b0 b1 b2 b3 b4 b5 b6 := rfl
def law11_PoolShares (N : Nat) (a0 : (List V_ref11_Raw)) (a1 : Int) : Option (Bool) :=
  match law11_sanity N with
  | some r1 => (match ref11_Play N a0 (16 : Int) with
  | some r2 => (bif (eqi (List.length r2.2 : Int) (0 : Int)) then
  (some r1)
  else
  (gd (!(eqi (List.length r2.2 : Int) 0))
  (let x3 := (Int.tmod (IntKind.wrap .i64 (a1)) (List.length r2.2 : Int))
  gd (inB x3 (List.length r2.2))
  (match law11_PoolShares_l0 N N r1 x3 (rdL r2.2 x3 (0 : Int)) (0 : Int) r2.1 r2.2 r2.1 with
  | some r5 => (match r5 with
  | .inl r6 => (some r6.1)
  | .inr r7 => (match pool_Reach N r7.2.1.1 ([r7.1.2.2.1] : List Int) with
  | some r8 => (match pool_Reach N r7.2.2.1 ([r7.1.2.2.1] : List Int) with
  | some r9 => (match ref11_Ints N r8 r9 with
  | some r10 => (bif (!r10) then
  (some false)
  else
  (match pool_Live N r7.2.2.1 with
  | some r11 => (bif (!(eqi r11 (List.length r9 : Int))) then
  (some false)
  else
  (match ref11_Sound N r7.2.2.1 ([r7.1.2.2.1] : List Int) with
  | some r12 => (bif (!r12) then
  (some false)
  else
  (match law11_PoolShares_l1 N N r7.1.1 (0 : Int) r7.2.1.1 r7.2.1.2 r7.2.2.1 r9 with
  | some r16 => (match r16 with
  | .inl r17 => (some r17.1)
  | .inr r18 => (some r18.1))
  | none => none))
  | none => none))
  | none => none))
  | none => none)
  | none => none)
  | none => none))
  | none => none))))
  | none => none)
  | none => none

/-- downspout/downspoutlaw11.PoolFrees -/
def law11_PoolFrees_l1_step (N : Nat) (rec : Bool → Int → (List V_api_Slot) → Option ((Bool × Unit) ⊕ (Bool × Unit))) (b0 : Bool) (b1 : Int) (b2 : (List V_api_Slot)) : Option ((Bool × Unit) ⊕ (Bool × Unit)) :=
  bif (decide (b1 < (3 : Int))) then
  (match law11_add N b2 (([] : List V_api_Pair), (([] : List (List UInt8)), (([] : List Int), (([] : List V_api_Sum), ([] : List V_api_Msg))))) with
  | some r13 => (bif (!(eqi r13.2.2 (0 : Int))) then
  (some (.inl (false, ())))
  else
  (bif (!(eqi r13.2.1 b1)) then
  (some (.inl (false, ())))
  else
  (rec b0 (IntKind.wrap .i64 (b1 + (1 : Int))) r13.1)))
  | none => none)
  else
  (some (.inr (b0, ())))
def law11_PoolFrees_l1 (N n : Nat) (b0 : Bool) (b1 : Int) (b2 : (List V_api_Slot)) : Option ((Bool × Unit) ⊕ (Bool × Unit)) :=
  iter (fun (rec : ((Bool × (Unit × Int)) × ((List V_api_Slot) × Unit)) → Option ((Bool × Unit) ⊕ (Bool × Unit))) v => law11_PoolFrees_l1_step N (fun b0 b1 b2 => rec ((b0, ((), b1)), (b2, ()))) v.1.1 v.1.2.2 v.2.1) n ((b0, ((), b1)), (b2, ()))
theorem law11_PoolFrees_l1_succ (N n : Nat) (b0 : Bool) (b1 : Int) (b2 : (List V_api_Slot)) : law11_PoolFrees_l1 N (n + 1) b0 b1 b2 = law11_PoolFrees_l1_step N (fun b0  b1  b2  => law11_PoolFrees_l1 N n b0 b1 b2) b0 b1 b2 := rfl
def law11_PoolFrees_l0_step (N : Nat) (rec : Bool → Bool → Int → (List V_api_Slot) → (List Int) → (List V_api_Slot) → Option ((Bool × Unit) ⊕ ((Bool × (Unit × Unit)) × (((List V_api_Slot) × (List Int)) × ((List V_api_Slot) × Unit))))) (b0 : Bool) (b1 : Bool) (b2 : Int) (b3 : (List V_api_Slot)) (b4 : (List Int)) (b5 : (List V_api_Slot)) : Option ((Bool × Unit) ⊕ ((Bool × (Unit × Unit)) × (((List V_api_Slot) × (List Int)) × ((List V_api_Slot) × Unit)))) :=
  bif (decide (b2 < (List.length b4 : Int))) then
  (gd (inB b2 (List.length b4))
  (bif b0 then
  (let x3 := (IntKind.wrap .i64 ((List.length b4 : Int) - (1 : Int)))
  gd (inB (IntKind.wrap .i64 (x3 - b2)) (List.length b4))
  (let x4 := (rdL b4 (IntKind.wrap .i64 (x3 - b2)) (0 : Int))
  match pool_Drop N b5 x4 with
  | some r5 => (bif (!(eqi r5.2 (0 : Int))) then
  (some (.inl (false, ())))
  else
  (rec b0 b1 (IntKind.wrap .i64 (b2 + (1 : Int))) b3 b4 r5.1))
  | none => none))
  else
  (match pool_Drop N b5 (rdL b4 b2 (0 : Int)) with
  | some r6 => (bif (!(eqi r6.2 (0 : Int))) then
  (some (.inl (false, ())))
  else
  (rec b0 b1 (IntKind.wrap .i64 (b2 + (1 : Int))) b3 b4 r6.1))
  | none => none)))
  else
  (some (.inr ((b1, ((), ())), ((b3, b4), (b5, ())))))
def law11_PoolFrees_l0 (N n : Nat) (b0 : Bool) (b1 : Bool) (b2 : Int) (b3 : (List V_api_Slot)) (b4 : (List Int)) (b5 : (List V_api_Slot)) : Option ((Bool × Unit) ⊕ ((Bool × (Unit × Unit)) × (((List V_api_Slot) × (List Int)) × ((List V_api_Slot) × Unit)))) :=
  iter (fun (rec : ((Bool × (Bool × (Unit × (Unit × Int)))) × (((List V_api_Slot) × (List Int)) × ((List V_api_Slot) × Unit))) → Option ((Bool × Unit) ⊕ ((Bool × (Unit × Unit)) × (((List V_api_Slot) × (List Int)) × ((List V_api_Slot) × Unit))))) v => law11_PoolFrees_l0_step N (fun b0 b1 b2 b3 b4 b5 => rec ((b0, (b1, ((), ((), b2)))), ((b3, b4), (b5, ())))) v.1.1 v.1.2.1 v.1.2.2.2.2 v.2.1.1 v.2.1.2 v.2.2.1) n ((b0, (b1, ((), ((), b2)))), ((b3, b4), (b5, ())))
theorem law11_PoolFrees_l0_succ (N n : Nat) (b0 : Bool) (b1 : Bool) (b2 : Int) (b3 : (List V_api_Slot)) (b4 : (List Int)) (b5 : (List V_api_Slot)) : law11_PoolFrees_l0 N (n + 1) b0 b1 b2 b3 b4 b5 = law11_PoolFrees_l0_step N (fun b0  b1  b2  b3  b4  b5  => law11_PoolFrees_l0 N n b0 b1 b2 b3 b4 b5) b0 b1 b2 b3 b4 b5 := rfl
def law11_PoolFrees (N : Nat) (a0 : (List V_ref11_Raw)) (a1 : Bool) : Option (Bool) :=
  match law11_sanity N with
  | some r1 => (match ref11_Play N a0 (16 : Int) with
  | some r2 => (match law11_PoolFrees_l0 N N a1 r1 (0 : Int) r2.1 r2.2 r2.1 with
  | some r7 => (match r7 with
  | .inl r8 => (some r8.1)
  | .inr r9 => (match pool_Live N r9.2.2.1 with
  | some r10 => (bif (!(eqi r10 (0 : Int))) then
  (some false)
  else
  (match ref11_Sound N r9.2.2.1 ([] : List Int) with
  | some r11 => (bif (!r11) then
  (some false)
  else
  (let x12 := (!(eqi (List.length r9.2.2.1 : Int) (List.length r9.2.1.1 : Int)))
  bif x12 then
  (some false)
  else
  (match law11_PoolFrees_l1 N N r9.1.1 (0 : Int) r9.2.2.1 with
  | some r14 => (match r14 with
  | .inl r15 => (some r15.1)
  | .inr r16 => (some r16.1))
  | none => none)))
  | none => none))
  | none => none))
  | none => none)
  | none => none)
  | none => none

/-- downspout/downspoutlaw11.PoolReaches -/
def law11_PoolReaches_l3_step (N : Nat) (rec : Bool → Int → Int → (List V_api_Slot) → (List Int) → (List Bool) → (List Int) → Option ((Bool × Unit) ⊕ ((Bool × (Unit × (Unit × (Unit × Int)))) × (((List V_api_Slot) × (List Int)) × ((List Bool) × ((List Int) × Unit)))))) (b0 : Bool) (b1 : Int) (b2 : Int) (b3 : (List V_api_Slot)) (b4 : (List Int)) (b5 : (List Bool)) (b6 : (List Int)) : Option ((Bool × Unit) ⊕ ((Bool × (Unit × (Unit × (Unit × Int)))) × (((List V_api_Slot) × (List Int)) × ((List Bool) × ((List Int) × Unit))))) :=
  gd (inB b1 (List.length b3))
  (let x19 := (List.length (((((((rdL b3 b1 D_api_Slot).2).2).2).2).2).1) : Int)
  bif (decide (b2 < x19)) then
  (gd (inB b1 (List.length b5))
  (bif (rdL b5 b1 false) then
  (gd (inB b1 (List.length b3))
  (gd (inB b2 (List.length (((((((rdL b3 b1 D_api_Slot).2).2).2).2).2).1)))
  (let x20 := (rdL (((((((rdL b3 b1 D_api_Slot).2).2).2).2).2).1) b2 (0 : Int))
  gd (inB x20 (List.length b5))
  (bif (!(rdL b5 x20 false)) then
  (some (.inl (false, ())))
  else
  (rec b0 b1 (IntKind.wrap .i64 (b2 + (1 : Int))) b3 b4 b5 b6)))))
  else
  (rec b0 b1 (IntKind.wrap .i64 (b2 + (1 : Int))) b3 b4 b5 b6)))
  else
  (some (.inr ((b0, ((), ((), ((), b1)))), ((b3, b4), (b5, (b6, ())))))))
def law11_PoolReaches_l3 (N n : Nat) (b0 : Bool) (b1 : Int) (b2 : Int) (b3 : (List V_api_Slot)) (b4 : (List Int)) (b5 : (List Bool)) (b6 : (List Int)) : Option ((Bool × Unit) ⊕ ((Bool × (Unit × (Unit × (Unit × Int)))) × (((List V_api_Slot) × (List Int)) × ((List Bool) × ((List Int) × Unit))))) :=
  iter (fun (rec : ((Bool × (Unit × (Unit × (Unit × (Int × Int))))) × (((List V_api_Slot) × (List Int)) × ((List Bool) × ((List Int) × Unit)))) → Option ((Bool × Unit) ⊕ ((Bool × (Unit × (Unit × (Unit × Int)))) × (((List V_api_Slot) × (List Int)) × ((List Bool) × ((List Int) × Unit)))))) v => law11_PoolReaches_l3_step N (fun b0 b1 b2 b3 b4 b5 b6 => rec ((b0, ((), ((), ((), (b1, b2))))), ((b3, b4), (b5, (b6, ()))))) v.1.1 v.1.2.2.2.2.1 v.1.2.2.2.2.2 v.2.1.1 v.2.1.2 v.2.2.1 v.2.2.2.1) n ((b0, ((), ((), ((), (b1, b2))))), ((b3, b4), (b5, (b6, ()))))
theorem law11_PoolReaches_l3_succ (N n : Nat) (b0 : Bool) (b1 : Int) (b2 : Int) (b3 : (List V_api_Slot)) (b4 : (List Int)) (b5 : (List Bool)) (b6 : (List Int)) : law11_PoolReaches_l3 N (n + 1) b0 b1 b2 b3 b4 b5 b6 = law11_PoolReaches_l3_step N (fun b0  b1  b2  b3  b4  b5  b6  => law11_PoolReaches_l3 N n b0 b1 b2 b3 b4 b5 b6) b0 b1 b2 b3 b4 b5 b6 := rfl
def law11_PoolReaches_l2_step (N : Nat) (rec : (List Int) → Bool → Int → Int → (List V_api_Slot) → (List Int) → (List Int) → (List Bool) → (List Int) → Option ((Bool × Unit) ⊕ (((List Int) × (Bool × (Unit × (Unit × (Unit × Int))))) × (((List V_api_Slot) × (List Int)) × ((List Int) × ((List Bool) × Unit)))))) (b0 : (List Int)) (b1 : Bool) (b2 : Int) (b3 : Int) (b4 : (List V_api_Slot)) (b5 : (List Int)) (b6 : (List Int)) (b7 : (List Bool)) (b8 : (List Int)) : Option ((Bool × Unit) ⊕ (((List Int) × (Bool × (Unit × (Unit × (Unit × Int))))) × (((List V_api_Slot) × (List Int)) × ((List Int) × ((List Bool) × Unit))))) :=
  bif (decide (b3 < (List.length b8 : Int))) then
  (gd (inB b3 (List.length b8))
  (match ref11_Used N b4 (rdL b8 b3 (0 : Int)) with
  | some r9 => (bif (!r9) then
  (some (.inl (false, ())))
  else
  (gd (inB b3 (List.length b8))
  (gd (inB (rdL b8 b3 (0 : Int)) (List.length b7))
  (rec b0 b1 b2 (IntKind.wrap .i64 (b3 + (1 : Int))) b4 b5 b6 (setL b7 (rdL b8 b3 (0 : Int)) true) b8))))
  | none => none))
  else
  (some (.inr ((b0, (b1, ((), ((), ((), b2))))), ((b4, b5), (b6, (b7, ()))))))
def law11_PoolReaches_l2 (N n : Nat) (b0 : (List Int)) (b1 : Bool) (b2 : Int) (b3 : Int) (b4 : (List V_api_Slot)) (b5 : (List Int)) (b6 : (List Int)) (b7 : (List Bool)) (b8 : (List Int)) : Option ((Bool × Unit) ⊕ (((List Int) × (Bool × (Unit × (Unit × (Unit × Int))))) × (((List V_api_Slot) × (List Int)) × ((List Int) × ((List Bool) × Unit))))) :=
  iter (fun (rec : (((List Int) × (Bool × (Unit × (Unit × (Unit × (Int × (Unit × Int))))))) × (((List V_api_Slot) × (List Int)) × ((List Int) × ((List Bool) × ((List Int) × Unit))))) → Option ((Bool × Unit) ⊕ (((List Int) × (Bool × (Unit × (Unit × (Unit × Int))))) × (((List V_api_Slot) × (List Int)) × ((List Int) × ((List Bool) × Unit)))))) v => law11_PoolReaches_l2_step N (fun b0 b1 b2 b3 b4 b5 b6 b7 b8 => rec ((b0, (b1, ((), ((), ((), (b2, ((), b3))))))), ((b4, b5), (b6, (b7, (b8, ())))))) v.1.1 v.1.2.1 v.1.2.2.2.2.2.1 v.1.2.2.2.2.2.2.2 v.2.1.1 v.2.1.2 v.2.2.1 v.2.2.2.1 v.2.2.2.2.1) n ((b0, (b1, ((), ((), ((), (b2, ((), b3))))))), ((b4, b5), (b6, (b7, (b8, ())))))
theorem law11_PoolReaches_l2_succ (N n : Nat) (b0 : (List Int)) (b1 : Bool) (b2 : Int) (b3 : Int) (b4 : (List V_api_Slot)) (b5 : (List Int)) (b6 : (List Int)) (b7 : (List Bool)) (b8 : (List Int)) : law11_PoolReaches_l2 N (n + 1) b0 b1 b2 b3 b4 b5 b6 b7 b8 = law11_PoolReaches_l2_step N (fun b0  b1  b2  b3  b4  b5  b6  b7  b8  => law11_PoolReaches_l2 N n b0 b1 b2 b3 b4 b5 b6 b7 b8) b0 b1 b2 b3 b4 b5 b6 b7 b8 := rfl
def law11_PoolReaches_l1_step (N : Nat) (rec : Bool → Int → (List V_api_Slot) → (List Int) → (List Bool) → (List Int) → Option ((Bool × Unit) ⊕ ((Bool × (Unit × (Unit × Unit))) × (((List V_api_Slot) × (List Int)) × ((List Bool) × ((List Int) × Unit)))))) (b0 : Bool) (b1 : Int) (b2 : (List V_api_Slot)) (b3 : (List Int)) (b4 : (List Bool)) (b5 : (List Int)) : Option ((Bool × Unit) ⊕ ((Bool × (Unit × (Unit × Unit))) × (((List V_api_Slot) × (List Int)) × ((List Bool) × ((List Int) × Unit))))) :=
  bif (decide (b1 < (List.length b4 : Int))) then
  (gd (inB b1 (List.length b4))
  (match ref11_Has N b5 b1 with
  | some r18 => (bif (!(eqb (rdL b4 b1 false) r18)) then
  (some (.inl (false, ())))
  else
  (match law11_PoolReaches_l3 N N b0 b1 (0 : Int) b2 b3 b4 b5 with
  | some r21 => (match r21 with
  | .inl r22 => (some (.inl (r22.1, ())))
  | .inr r23 => (let x24 := (IntKind.wrap .i64 (r23.1.2.2.2.2 + (1 : Int)))
  rec r23.1.1 x24 r23.2.1.1 r23.2.1.2 r23.2.2.1 r23.2.2.2.1))
  | none => none))
  | none => none))
  else
  (some (.inr ((b0, ((), ((), ()))), ((b2, b3), (b4, (b5, ()))))))
def law11_PoolReaches_l1 (N n : Nat) (b0 : Bool) (b1 : Int) (b2 : (List V_api_Slot)) (b3 : (List Int)) (b4 : (List Bool)) (b5 : (List Int)) : Option ((Bool × Unit) ⊕ ((Bool × (Unit × (Unit × Unit))) × (((List V_api_Slot) × (List Int)) × ((List Bool) × ((List Int) × Unit))))) :=
  iter (fun (rec : ((Bool × (Unit × (Unit × (Unit × Int)))) × (((List V_api_Slot) × (List Int)) × ((List Bool) × ((List Int) × Unit)))) → Option ((Bool × Unit) ⊕ ((Bool × (Unit × (Unit × Unit))) × (((List V_api_Slot) × (List Int)) × ((List Bool) × ((List Int) × Unit)))))) v => law11_PoolReaches_l1_step N (fun b0 b1 b2 b3 b4 b5 => rec ((b0, ((), ((), ((), b1)))), ((b2, b3), (b4, (b5, ()))))) v.1.1 v.1.2.2.2.2 v.2.1.1 v.2.1.2 v.2.2.1 v.2.2.2.1) n ((b0, ((), ((), ((), b1)))), ((b2, b3), (b4, (b5, ()))))
theorem law11_PoolReaches_l1_succ (N n : Nat) (b0 : Bool) (b1 : Int) (b2 : (List V_api_Slot)) (b3 : (List Int)) (b4 : (List Bool)) (b5 : (List Int)) : law11_PoolReaches_l1 N (n + 1) b0 b1 b2 b3 b4 b5 = law11_PoolReaches_l1_step N (fun b0  b1  b2  b3  b4  b5  => law11_PoolReaches_l1 N n b0 b1 b2 b3 b4 b5) b0 b1 b2 b3 b4 b5 := rfl
def law11_PoolReaches_l0_step (N : Nat) (rec : (List Int) → Bool → Int → (List V_api_Slot) → (List Int) → (List Int) → (List Bool) → Option ((Bool × Unit) ⊕ ((Bool × (Unit × (Unit × Unit))) × (((List V_api_Slot) × (List Int)) × ((List Int) × ((List Bool) × Unit)))))) (b0 : (List Int)) (b1 : Bool) (b2 : Int) (b3 : (List V_api_Slot)) (b4 : (List Int)) (b5 : (List Int)) (b6 : (List Bool)) : Option ((Bool × Unit) ⊕ ((Bool × (Unit × (Unit × Unit))) × (((List V_api_Slot) × (List Int)) × ((List Int) × ((List Bool) × Unit))))) :=
  bif (decide (b2 < (List.length b0 : Int))) then
  (gd (inB b2 (List.length b0))
  (let x5 := ([(IntKind.wrap .i64 ((rdL b0 b2 (0 : Int))))] : List Int)
  gd (fits (List.length b5 + List.length x5) 8)
  (let x6 := (@HAppend.hAppend (List Int) (List Int) (List Int) _ b5 x5)
  gd (inB b2 (List.length b0))
  (let x7 := ([(IntKind.wrap .i64 ((rdL b0 b2 (0 : Int))))] : List Int)
  match pool_Reach N b3 x7 with
  | some r8 => (match law11_PoolReaches_l2 N N b0 b1 b2 (0 : Int) b3 b4 x6 b6 r8 with
  | some r10 => (match r10 with
  | .inl r11 => (some (.inl (r11.1, ())))
  | .inr r12 => (let x13 := (IntKind.wrap .i64 (r12.1.2.2.2.2.2 + (1 : Int)))
  rec r12.1.1 r12.1.2.1 x13 r12.2.1.1 r12.2.1.2 r12.2.2.1 r12.2.2.2.1))
  | none => none)
  | none => none))))
  else
  (some (.inr ((b1, ((), ((), ()))), ((b3, b4), (b5, (b6, ()))))))
def law11_PoolReaches_l0 (N n : Nat) (b0 : (List Int)) (b1 : Bool) (b2 : Int) (b3 : (List V_api_Slot)) (b4 : (List Int)) (b5 : (List Int)) (b6 : (List Bool)) : Option ((Bool × Unit) ⊕ ((Bool × (Unit × (Unit × Unit))) × (((List V_api_Slot) × (List Int)) × ((List Int) × ((List Bool) × Unit))))) :=
  iter (fun (rec : (((List Int) × (Bool × (Unit × (Unit × (Unit × Int))))) × (((List V_api_Slot) × (List Int)) × ((List Int) × ((List Bool) × Unit)))) → Option ((Bool × Unit) ⊕ ((Bool × (Unit × (Unit × Unit))) × (((List V_api_Slot) × (List Int)) × ((List Int) × ((List Bool) × Unit)))))) v => law11_PoolReaches_l0_step N (fun b0 b1 b2 b3 b4 b5 b6 => rec ((b0, (b1, ((), ((), ((), b2))))), ((b3, b4), (b5, (b6, ()))))) v.1.1 v.1.2.1 v.1.2.2.2.2.2 v.2.1.1 v.2.1.2 v.2.2.1 v.2.2.2.1) n ((b0, (b1, ((), ((), ((), b2))))), ((b3, b4), (b5, (b6, ()))))
theorem law11_PoolReaches_l0_succ (N n : Nat) (b0 : (List Int)) (b1 : Bool) (b2 : Int) (b3 : (List V_api_Slot)) (b4 : (List Int)) (b5 : (List Int)) (b6 : (List Bool)) : law11_PoolReaches_l0 N (n + 1) b0 b1 b2 b3 b4 b5 b6 = law11_PoolReaches_l0_step N (fun b0  b1  b2  b3  b4  b5  b6  => law11_PoolReaches_l0 N n b0 b1 b2 b3 b4 b5 b6) b0 b1 b2 b3 b4 b5 b6 := rfl
def law11_PoolReaches (N : Nat) (a0 : (List V_ref11_Raw)) (a1 : (List Int)) : Option (Bool) :=
  match law11_sanity N with
  | some r1 => (let x2 := (decide ((8 : Int) < (List.length a1 : Int)))
  bif x2 then
  (some r1)
  else
  (match ref11_Play N a0 (16 : Int) with
  | some r3 => (gd ((decide (0 ≤ (List.length r3.1 : Int)) && decide ((List.length r3.1 : Int) ≤ (List.length r3.1 : Int))) && (decide ((List.length r3.1 : Int) < maxB) && decide ((List.length r3.1 : Int) * 1 < maxB)))
  (let x4 := (List.replicate (Int.toNat (List.length r3.1 : Int)) false)
  match law11_PoolReaches_l0 N N a1 r1 (0 : Int) r3.1 r3.2 ([] : List Int) x4 with
  | some r14 => (match r14 with
  | .inl r15 => (some r15.1)
  | .inr r16 => (match pool_Reach N r16.2.1.1 r16.2.2.1 with
  | some r17 => (match law11_PoolReaches_l1 N N r16.1.1 (0 : Int) r16.2.1.1 r16.2.1.2 r16.2.2.2.1 r17 with
  | some r25 => (match r25 with
  | .inl r26 => (some r26.1)
  | .inr r27 => (let x28 := (decide ((List.length r27.2.2.2.1 : Int) ≤ (List.length r27.2.2.1 : Int)))
  bif x28 then
  (match pool_Reach N r27.2.1.1 ([] : List Int) with
  | some r29 => (bif (eqi (List.length r29 : Int) (0 : Int)) then
  (some r27.1.1)
  else
  (some false))
  | none => none)
  else
  (some false)))
  | none => none)
  | none => none))
  | none => none))
  | none => none))
  | none => none

/-- downspout/downspoutlaw11.same -/
def law11_same (N : Nat) (a0 : V_ref11_Added) (a1 : V_ref11_Added) : Option (Bool) :=
  match ref11_Same N a0.1 a1.1 with
  | some r1 => (bif r1 then
  (bif (eqi a0.2.1 a1.2.1) then
  (some (eqi a0.2.2 a1.2.2))
  else
  (some false))
  else
  (some false))
  | none => none

/-- downspout/downspoutref11.Live -/
def ref11_Live_l0_step (N : Nat) (rec : Int → Int → (List V_api_Slot) → Option ((Int × Unit))) (b0 : Int) (b1 : Int) (b2 : (List V_api_Slot)) : Option ((Int × Unit)) :=
  bif (decide (b1 < (List.length b2 : Int))) then
  (gd (inB b1 (List.length b2))
  (bif (rdL b2 b1 D_api_Slot).1 then
  (rec (IntKind.wrap .i64 (b0 + (1 : Int))) (IntKind.wrap .i64 (b1 + (1 : Int))) b2)
  else
  (rec b0 (IntKind.wrap .i64 (b1 + (1 : Int))) b2)))
  else
  (some (b0, ()))
def ref11_Live_l0 (N n : Nat) (b0 : Int) (b1 : Int) (b2 : (List V_api_Slot)) : Option ((Int × Unit)) :=
  iter (fun (rec : ((Unit × (Int × Int)) × ((List V_api_Slot) × Unit)) → Option ((Int × Unit))) v => ref11_Live_l0_step N (fun b0 b1 b2 => rec (((), (b0, b1)), (b2, ()))) v.1.2.1 v.1.2.2 v.2.1) n (((), (b0, b1)), (b2, ()))
theorem ref11_Live_l0_succ (N n : Nat) (b0 : Int) (b1 : Int) (b2 : (List V_api_Slot)) : ref11_Live_l0 N (n + 1) b0 b1 b2 = ref11_Live_l0_step N (fun b0  b1  b2  => ref11_Live_l0 N n b0 b1 b2) b0 b1 b2 := rfl
def ref11_Live (N : Nat) (a0 : (List V_api_Slot)) : Option (Int) :=
  match ref11_Live_l0 N N (0 : Int) (0 : Int) a0 with
  | some r1 => (some r1.1)
  | none => none

/-- downspout/downspoutref11.Get -/
def ref11_Get (N : Nat) (a0 : (List V_api_Slot)) (a1 : Int) : Option ((V_api_Node × Int)) :=
  match ref11_Used N a0 a1 with
  | some r1 => (bif (!r1) then
  (some ((([] : List V_api_Pair), (([] : List (List UInt8)), (([] : List Int), (([] : List V_api_Sum), ([] : List V_api_Msg))))), (110 : Int)))
  else
  (gd (inB a1 (List.length a0))
  (bif ((rdL a0 a1 D_api_Slot).2).1 then
  (some ((([] : List V_api_Pair), (([] : List (List UInt8)), (([] : List Int), (([] : List V_api_Sum), ([] : List V_api_Msg))))), (112 : Int)))
  else
  (gd (inB a1 (List.length a0))
  (some (((((rdL a0 a1 D_api_Slot).2).2).2), (0 : Int)))))))
  | none => none

/-- downspout/pool.Hold -/
def pool_Hold (N : Nat) (a0 : (List V_api_Slot)) (a1 : Int) : Option (((List V_api_Slot) × Int)) :=
  match pool_used N a0 a1 with
  | some r1 => (bif (!r1) then
  (some (a0, (110 : Int)))
  else
  (match pool_clone N a0 with
  | some r2 => (gd (inB a1 (List.length r2))
  (let x3 := (IntKind.wrap .i64 ((((rdL r2 a1 D_api_Slot).2).2).1 + (1 : Int)))
  gd (inB a1 (List.length r2))
  (let x4 := (setL r2 a1 ((rdL r2 a1 D_api_Slot).1, (((rdL r2 a1 D_api_Slot).2).1, (x3, ((((rdL r2 a1 D_api_Slot).2).2).2)))))
  some (x4, (0 : Int)))))
  | none => none))
  | none => none

/-- downspout/downspoutlaw11.PoolMatchesReference -/
def law11_PoolMatchesReference_p4 (N : Nat) (b0 : Int) (b1 : Bool) (b2 : Int) (b3 : Bool) (b4 : (List V_api_Slot)) (b5 : (List Int)) : Option ((Bool × Unit) ⊕ ((Int × (Bool × (Unit × Int))) × (((List V_api_Slot) × (List Int)) × Unit))) :=
  bif b3 then
  (some (.inl (false, ())))
  else
  (some (.inr ((b0, (b1, ((), b2))), ((b4, b5), ()))))
def law11_PoolMatchesReference_p3 (N : Nat) (b0 : Int) (b1 : Bool) (b2 : Int) (b3 : Int) (b4 : (List V_api_Slot)) (b5 : (List Int)) : Option ((Bool × Unit) ⊕ ((Int × (Bool × (Unit × Int))) × (((List V_api_Slot) × (List Int)) × Unit))) :=
  match pool_Get N b4 b3 with
  | some r9 => (match ref11_Get N b4 b3 with
  | some r10 => (match pool_Hold N b4 b3 with
  | some r11 => (match ref11_Hold N b4 b3 with
  | some r12 => (match ref11_SameNode N r9.1 r10.1 with
  | some r13 => (bif (!r13) then
  (match law11_PoolMatchesReference_p4 N b0 b1 b2 true b4 b5 with
  | some r14 => (match r14 with
  | .inl r15 => (some (.inl (r15.1, ())))
  | .inr r16 => (some (.inr ((r16.1.1, (r16.1.2.1, ((), r16.1.2.2.2))), ((r16.2.1.1, r16.2.1.2), ())))))
  | none => none)
  else
  (bif (!(eqi r9.2 r10.2)) then
  (match law11_PoolMatchesReference_p4 N b0 b1 b2 true b4 b5 with
  | some r17 => (match r17 with
  | .inl r18 => (some (.inl (r18.1, ())))
  | .inr r19 => (some (.inr ((r19.1.1, (r19.1.2.1, ((), r19.1.2.2.2))), ((r19.2.1.1, r19.2.1.2), ())))))
  | none => none)
  else
  (match ref11_Same N r11.1 r12.1 with
  | some r20 => (bif (!r20) then
  (match law11_PoolMatchesReference_p4 N b0 b1 b2 true b4 b5 with
  | some r21 => (match r21 with
  | .inl r22 => (some (.inl (r22.1, ())))
  | .inr r23 => (some (.inr ((r23.1.1, (r23.1.2.1, ((), r23.1.2.2.2))), ((r23.2.1.1, r23.2.1.2), ())))))
  | none => none)
  else
  (bif (!(eqi r11.2 r12.2)) then
  (match law11_PoolMatchesReference_p4 N b0 b1 b2 true b4 b5 with
  | some r24 => (match r24 with
  | .inl r25 => (some (.inl (r25.1, ())))
  | .inr r26 => (some (.inr ((r26.1.1, (r26.1.2.1, ((), r26.1.2.2.2))), ((r26.2.1.1, r26.2.1.2), ())))))
  | none => none)
  else
  (match pool_Reach N b4 ([b3, b2] : List Int) with
  | some r27 => (match ref11_Reach N b4 ([b3, b2] : List Int) with
  | some r28 => (match ref11_Ints N r27 r28 with
  | some r29 => (match law11_PoolMatchesReference_p4 N b0 b1 b2 (!r29) b4 b5 with
  | some r30 => (match r30 with
  | .inl r31 => (some (.inl (r31.1, ())))
  | .inr r32 => (some (.inr ((r32.1.1, (r32.1.2.1, ((), r32.1.2.2.2))), ((r32.2.1.1, r32.2.1.2), ())))))
  | none => none)
  | none => none)
  | none => none)
  | none => none)))
  | none => none)))
  | none => none)
  | none => none)
  | none => none)
  | none => none)
  | none => none
def law11_PoolMatchesReference_p2 (N : Nat) (b0 : Int) (b1 : Bool) (b2 : Int) (b3 : (List V_api_Slot)) (b4 : (List Int)) : Option (((Int × (Bool × (Unit × Int))) × (((List V_api_Slot) × (List Int)) × Unit))) :=
  some ((b0, (b1, ((), (IntKind.wrap .i64 (b2 + (1 : Int)))))), ((b3, b4), ()))
def law11_PoolMatchesReference_l1_step (N : Nat) (rec : Bool → Int → (List V_api_Slot) → (List Int) → Option ((Bool × Unit) ⊕ (Bool × Unit))) (b0 : Bool) (b1 : Int) (b2 : (List V_api_Slot)) (b3 : (List Int)) : Option ((Bool × Unit) ⊕ (Bool × Unit)) :=
  bif (decide (b1 < (List.length b3 : Int))) then
  (gd (inB b1 (List.length b3))
  (match pool_Drop N b2 (rdL b3 b1 (0 : Int)) with
  | some r44 => (gd (inB b1 (List.length b3))
  (match ref11_Drop N b2 (rdL b3 b1 (0 : Int)) with
  | some r45 => (match ref11_Same N r44.1 r45.1 with
  | some r46 => (bif (!r46) then
  (some (.inl (false, ())))
  else
  (bif (!(eqi r44.2 r45.2)) then
  (some (.inl (false, ())))
  else
  (rec b0 (IntKind.wrap .i64 (b1 + (1 : Int))) b2 b3)))
  | none => none)
  | none => none))
  | none => none))
  else
  (some (.inr (b0, ())))
def law11_PoolMatchesReference_l1 (N n : Nat) (b0 : Bool) (b1 : Int) (b2 : (List V_api_Slot)) (b3 : (List Int)) : Option ((Bool × Unit) ⊕ (Bool × Unit)) :=
  iter (fun (rec : ((Bool × (Unit × Int)) × (((List V_api_Slot) × (List Int)) × Unit)) → Option ((Bool × Unit) ⊕ (Bool × Unit))) v => law11_PoolMatchesReference_l1_step N (fun b0 b1 b2 b3 => rec ((b0, ((), b1)), ((b2, b3), ()))) v.1.1 v.1.2.2 v.2.1.1 v.2.1.2) n ((b0, ((), b1)), ((b2, b3), ()))
theorem law11_PoolMatchesReference_l1_succ (N n : Nat) (b0 : Bool) (b1 : Int) (b2 : (List V_api_Slot)) (b3 : (List Int)) : law11_PoolMatchesReference_l1 N (n + 1) b0 b1 b2 b3 = law11_PoolMatchesReference_l1_step N (fun b0  b1  b2  b3  => law11_PoolMatchesReference_l1 N n b0 b1 b2 b3) b0 b1 b2 b3 := rfl
def law11_PoolMatchesReference_l0_step (N : Nat) (rec : Int → Bool → Int → (List V_api_Slot) → (List Int) → Option ((Bool × Unit) ⊕ ((Bool × Unit) × (((List V_api_Slot) × (List Int)) × Unit)))) (b0 : Int) (b1 : Bool) (b2 : Int) (b3 : (List V_api_Slot)) (b4 : (List Int)) : Option ((Bool × Unit) ⊕ ((Bool × Unit) × (((List V_api_Slot) × (List Int)) × Unit))) :=
  bif (decide (b2 ≤ (List.length b3 : Int))) then
  (bif (decide (b2 < (0 : Int))) then
  (match law11_PoolMatchesReference_p3 N b0 b1 b2 (IntKind.wrap .i64 (b0)) b3 b4 with
  | some r33 => (match r33 with
  | .inl r34 => (some (.inl (r34.1, ())))
  | .inr r35 => (match law11_PoolMatchesReference_p2 N r35.1.1 r35.1.2.1 r35.1.2.2.2 r35.2.1.1 r35.2.1.2 with
  | some r36 => (rec r36.1.1 r36.1.2.1 r36.1.2.2.2 r36.2.1.1 r36.2.1.2)
  | none => none))
  | none => none)
  else
  (match law11_PoolMatchesReference_p3 N b0 b1 b2 b2 b3 b4 with
  | some r37 => (match r37 with
  | .inl r38 => (some (.inl (r38.1, ())))
  | .inr r39 => (match law11_PoolMatchesReference_p2 N r39.1.1 r39.1.2.1 r39.1.2.2.2 r39.2.1.1 r39.2.1.2 with
  | some r40 => (rec r40.1.1 r40.1.2.1 r40.1.2.2.2 r40.2.1.1 r40.2.1.2)
  | none => none))
  | none => none))
  else
  (some (.inr ((b1, ()), ((b3, b4), ()))))
def law11_PoolMatchesReference_l0 (N n : Nat) (b0 : Int) (b1 : Bool) (b2 : Int) (b3 : (List V_api_Slot)) (b4 : (List Int)) : Option ((Bool × Unit) ⊕ ((Bool × Unit) × (((List V_api_Slot) × (List Int)) × Unit))) :=
  iter (fun (rec : ((Int × (Bool × (Unit × Int))) × (((List V_api_Slot) × (List Int)) × Unit)) → Option ((Bool × Unit) ⊕ ((Bool × Unit) × (((List V_api_Slot) × (List Int)) × Unit)))) v => law11_PoolMatchesReference_l0_step N (fun b0 b1 b2 b3 b4 => rec ((b0, (b1, ((), b2))), ((b3, b4), ()))) v.1.1 v.1.2.1 v.1.2.2.2 v.2.1.1 v.2.1.2) n ((b0, (b1, ((), b2))), ((b3, b4), ()))
theorem law11_PoolMatchesReference_l0_succ (N n : Nat) (b0 : Int) (b1 : Bool) (b2 : Int) (b3 : (List V_api_Slot)) (b4 : (List Int)) : law11_PoolMatchesReference_l0 N (n + 1) b0 b1 b2 b3 b4 = law11_PoolMatchesReference_l0_step N (fun b0  b1  b2  b3  b4  => law11_PoolMatchesReference_l0 N n b0 b1 b2 b3 b4) b0 b1 b2 b3 b4 := rfl
def law11_PoolMatchesReference (N : Nat) (a0 : (List V_ref11_Raw)) (a1 : V_ref11_Raw) (a2 : Int) : Option (Bool) :=
  match law11_sanity N with
  | some r1 => (match ref11_Play N a0 (16 : Int) with
  | some r2 => (match ref11_Node N a1 r2.2 with
  | some r3 => (match law11_add N r2.1 r3 with
  | some r4 => (match ref11_Add N r2.1 r3 with
  | some r5 => (match law11_same N r4 r5 with
  | some r6 => (bif (!r6) then
  (some false)
  else
  (match pool_Live N r2.1 with
  | some r7 => (match ref11_Live N r2.1 with
  | some r8 => (bif (!(eqi r7 r8)) then
  (some false)
  else
  (match law11_PoolMatchesReference_l0 N N a2 r1 (-1 : Int) r2.1 r2.2 with
  | some r41 => (match r41 with
  | .inl r42 => (some r42.1)
  | .inr r43 => (match law11_PoolMatchesReference_l1 N N r43.1.1 (0 : Int) r43.2.1.1 r43.2.1.2 with
  | some r47 => (match r47 with
  | .inl r48 => (some r48.1)
  | .inr r49 => (some r49.1))
  | none => none))
  | none => none))
  | none => none)
  | none => none))
  | none => none)
  | none => none)
  | none => none)
  | none => none)
  | none => none)
  | none => none

/-- downspout/downspoutlaw11.PoolKeeps -/
def law11_PoolKeeps_p2 (N : Nat) (b0 : (List V_ref11_Raw)) (b1 : Bool) (b2 : Int) (b3 : Bool) (b4 : (List V_api_Slot)) (b5 : (List Int)) (b6 : (List V_api_Slot)) (b7 : (List Int)) (b8 : (List V_api_Slot)) : Option ((Bool × Unit) ⊕ (((List V_ref11_Raw) × (Bool × (Unit × (Int × (Unit × Unit))))) × (((List V_api_Slot) × (List Int)) × (((List V_api_Slot) × (List Int)) × ((List V_api_Slot) × Unit))))) :=
  bif b3 then
  (gd (inB b2 (List.length b0))
  (match ref11_Node N (rdL b0 b2 D_ref11_Raw) b5 with
  | some r4 => (match law11_add N b4 r4 with
  | some r5 => (bif (!(eqi r5.2.2 (0 : Int))) then
  (some (.inl (false, ())))
  else
  (bif (eqi (List.length b7 : Int) (0 : Int)) then
  (some (.inl (false, ())))
  else
  (let x6 := (IntKind.wrap .i64 ((List.length b7 : Int) - (1 : Int)))
  gd (inB x6 (List.length b7))
  (bif (!(eqi r5.2.1 (rdL b7 x6 (0 : Int)))) then
  (some (.inl (false, ())))
  else
  (some (.inr ((b0, (b1, ((), (b2, ((), ()))))), ((b4, b5), ((b6, b7), (r5.1, ()))))))))))
  | none => none)
  | none => none))
  else
  (gd (inB b2 (List.length b0))
  (let x7 := (IntKind.wrap .i64 (((rdL b0 b2 D_ref11_Raw).2).1))
  gd (!(eqi (List.length b5 : Int) 0))
  (gd (inB (Int.tmod x7 (List.length b5 : Int)) (List.length b5))
  (let x8 := (rdL b5 (Int.tmod x7 (List.length b5 : Int)) (0 : Int))
  gd (inB b2 (List.length b0))
  (let x9 := (Int.tmod ((rdL b0 b2 D_ref11_Raw).1) (8 : Int))
  bif (eqi x9 (5 : Int)) then
  (match pool_Hold N b4 x8 with
  | some r10 => (bif (!(eqi r10.2 (0 : Int))) then
  (some (.inl (false, ())))
  else
  (some (.inr ((b0, (b1, ((), (b2, ((), ()))))), ((b4, b5), ((b6, b7), (r10.1, ())))))))
  | none => none)
  else
  (match pool_Drop N b4 x8 with
  | some r11 => (bif (!(eqi r11.2 (0 : Int))) then
  (some (.inl (false, ())))
  else
  (some (.inr ((b0, (b1, ((), (b2, ((), ()))))), ((b4, b5), ((b6, b7), (r11.1, ())))))))
  | none => none))))))
def law11_PoolKeeps_p1 (N : Nat) (b0 : (List V_ref11_Raw)) (b1 : Bool) (b2 : Int) (b3 : (List V_api_Slot)) (b4 : (List Int)) (b5 : (List V_api_Slot)) (b6 : (List Int)) (b7 : (List V_api_Slot)) : Option ((Bool × Unit) ⊕ (((List V_ref11_Raw) × (Bool × (Unit × Int))) × (((List V_api_Slot) × (List Int)) × Unit))) :=
  match ref11_Sound N b7 b6 with
  | some r15 => (bif (!r15) then
  (some (.inl (false, ())))
  else
  (some (.inr ((b0, (b1, ((), b2))), ((b7, b6), ())))))
  | none => none
def law11_PoolKeeps_l0_step (N : Nat) (rec : (List V_ref11_Raw) → Bool → Int → (List V_api_Slot) → (List Int) → Option ((Bool × Unit) ⊕ (Bool × Unit))) (b0 : (List V_ref11_Raw)) (b1 : Bool) (b2 : Int) (b3 : (List V_api_Slot)) (b4 : (List Int)) : Option ((Bool × Unit) ⊕ (Bool × Unit)) :=
  bif (decide (b2 < (List.length b0 : Int))) then
  (bif (decide (b2 < (16 : Int))) then
  (gd (inB b2 (List.length b0))
  (match ref11_Step N (b3, b4) (rdL b0 b2 D_ref11_Raw) with
  | some r2 => (gd (inB b2 (List.length b0))
  (let x3 := (Int.tmod ((rdL b0 b2 D_ref11_Raw).1) (8 : Int))
  bif (decide (x3 < (5 : Int))) then
  (match law11_PoolKeeps_p2 N b0 b1 b2 true b3 b4 r2.1 r2.2 b3 with
  | some r12 => (match r12 with
  | .inl r13 => (some (.inl (r13.1, ())))
  | .inr r14 => (match law11_PoolKeeps_p1 N r14.1.1 r14.1.2.1 r14.1.2.2.2.1 r14.2.1.1 r14.2.1.2 r14.2.2.1.1 r14.2.2.1.2 r14.2.2.2.1 with
  | some r16 => (match r16 with
  | .inl r17 => (some (.inl (r17.1, ())))
  | .inr r18 => (let x19 := (IntKind.wrap .i64 (r18.1.2.2.2 + (1 : Int)))
  rec r18.1.1 r18.1.2.1 x19 r18.2.1.1 r18.2.1.2))
  | none => none))
  | none => none)
  else
  (match law11_PoolKeeps_p2 N b0 b1 b2 (eqi (List.length b4 : Int) (0 : Int)) b3 b4 r2.1 r2.2 b3 with
  | some r20 => (match r20 with
  | .inl r21 => (some (.inl (r21.1, ())))
  | .inr r22 => (match law11_PoolKeeps_p1 N r22.1.1 r22.1.2.1 r22.1.2.2.2.1 r22.2.1.1 r22.2.1.2 r22.2.2.1.1 r22.2.2.1.2 r22.2.2.2.1 with
  | some r23 => (match r23 with
  | .inl r24 => (some (.inl (r24.1, ())))
  | .inr r25 => (let x26 := (IntKind.wrap .i64 (r25.1.2.2.2 + (1 : Int)))
  rec r25.1.1 r25.1.2.1 x26 r25.2.1.1 r25.2.1.2))
  | none => none))
  | none => none)))
  | none => none))
  else
  (some (.inr (b1, ()))))
  else
  (some (.inr (b1, ())))
def law11_PoolKeeps_l0 (N n : Nat) (b0 : (List V_ref11_Raw)) (b1 : Bool) (b2 : Int) (b3 : (List V_api_Slot)) (b4 : (List Int)) : Option ((Bool × Unit) ⊕ (Bool × Unit)) :=
  iter (fun (rec : (((List V_ref11_Raw) × (Bool × (Unit × Int))) × (((List V_api_Slot) × (List Int)) × Unit)) → Option ((Bool × Unit) ⊕ (Bool × Unit))) v => law11_PoolKeeps_l0_step N (fun b0 b1 b2 b3 b4 => rec ((b0, (b1, ((), b2))), ((b3, b4), ()))) v.1.1 v.1.2.1 v.1.2.2.2 v.2.1.1 v.2.1.2) n ((b0, (b1, ((), b2))), ((b3, b4), ()))
theorem law11_PoolKeeps_l0_succ (N n : Nat) (b0 : (List V_ref11_Raw)) (b1 : Bool) (b2 : Int) (b3 : (List V_api_Slot)) (b4 : (List Int)) : law11_PoolKeeps_l0 N (n + 1) b0 b1 b2 b3 b4 = law11_PoolKeeps_l0_step N (fun b0  b1  b2  b3  b4  => law11_PoolKeeps_l0 N n b0 b1 b2 b3 b4) b0 b1 b2 b3 b4 := rfl
def law11_PoolKeeps (N : Nat) (a0 : (List V_ref11_Raw)) : Option (Bool) :=
  match law11_sanity N with
  | some r1 => (match law11_PoolKeeps_l0 N N a0 r1 (0 : Int) ([] : List V_api_Slot) ([] : List Int) with
  | some r27 => (match r27 with
  | .inl r28 => (some r28.1)
  | .inr r29 => (some r29.1))
  | none => none)
  | none => none

/-- downspout/downspoutlaw11.PoolSlots -/
def law11_PoolSlots_l4_step (N : Nat) (rec : Int → Bool → Int → Int → Int → (List V_api_Slot) → (List Int) → (List V_api_Pair) → (List (List UInt8)) → (List Int) → (List V_api_Sum) → (List V_api_Msg) → (List V_api_Slot) → Int → Int → Option (((Int × (Bool × (Unit × (Unit × (Unit × (Int × Int)))))) × (((List V_api_Slot) × (List Int)) × (((List V_api_Pair) × ((List (List UInt8)) × ((List Int) × ((List V_api_Sum) × (List V_api_Msg))))) × (((List V_api_Slot) × (Int × Int)) × Unit)))))) (b0 : Int) (b1 : Bool) (b2 : Int) (b3 : Int) (b4 : Int) (b5 : (List V_api_Slot)) (b6 : (List Int)) (b7 : (List V_api_Pair)) (b8 : (List (List UInt8))) (b9 : (List Int)) (b10 : (List V_api_Sum)) (b11 : (List V_api_Msg)) (b12 : (List V_api_Slot)) (b13 : Int) (b14 : Int) : Option (((Int × (Bool × (Unit × (Unit × (Unit × (Int × Int)))))) × (((List V_api_Slot) × (List Int)) × (((List V_api_Pair) × ((List (List UInt8)) × ((List Int) × ((List V_api_Sum) × (List V_api_Msg))))) × (((List V_api_Slot) × (Int × Int)) × Unit))))) :=
  bif (decide (b4 < (List.length b9 : Int))) then
  (gd (inB b4 (List.length b9))
  (bif (eqi (rdL b9 b4 (0 : Int)) b2) then
  (rec b0 b1 b2 (IntKind.wrap .i64 (b3 + (1 : Int))) (IntKind.wrap .i64 (b4 + (1 : Int))) b5 b6 b7 b8 b9 b10 b11 b12 b13 b14)
  else
  (rec b0 b1 b2 b3 (IntKind.wrap .i64 (b4 + (1 : Int))) b5 b6 b7 b8 b9 b10 b11 b12 b13 b14)))
  else
  (some ((b0, (b1, ((), ((), ((), (b2, b3)))))), ((b5, b6), ((b7, (b8, (b9, (b10, b11)))), ((b12, (b13, b14)), ())))))
def law11_PoolSlots_l4 (N n : Nat) (b0 : Int) (b1 : Bool) (b2 : Int) (b3 : Int) (b4 : Int) (b5 : (List V_api_Slot)) (b6 : (List Int)) (b7 : (List V_api_Pair)) (b8 : (List (List UInt8))) (b9 : (List Int)) (b10 : (List V_api_Sum)) (b11 : (List V_api_Msg)) (b12 : (List V_api_Slot)) (b13 : Int) (b14 : Int) : Option (((Int × (Bool × (Unit × (Unit × (Unit × (Int × Int)))))) × (((List V_api_Slot) × (List Int)) × (((List V_api_Pair) × ((List (List UInt8)) × ((List Int) × ((List V_api_Sum) × (List V_api_Msg))))) × (((List V_api_Slot) × (Int × Int)) × Unit))))) :=
  iter (fun (rec : ((Int × (Bool × (Unit × (Unit × (Unit × (Int × (Int × Int))))))) × (((List V_api_Slot) × (List Int)) × (((List V_api_Pair) × ((List (List UInt8)) × ((List Int) × ((List V_api_Sum) × (List V_api_Msg))))) × (((List V_api_Slot) × (Int × Int)) × Unit)))) → Option (((Int × (Bool × (Unit × (Unit × (Unit × (Int × Int)))))) × (((List V_api_Slot) × (List Int)) × (((List V_api_Pair) × ((List (List UInt8)) × ((List Int) × ((List V_api_Sum) × (List V_api_Msg))))) × (((List V_api_Slot) × (Int × Int)) × Unit)))))) v => law11_PoolSlots_l4_step N (fun b0 b1 b2 b3 b4 b5 b6 b7 b8 b9 b10 b11 b12 b13 b14 => rec ((b0, (b1, ((), ((), ((), (b2, (b3, b4))))))), ((b5, b6), ((b7, (b8, (b9, (b10, b11)))), ((b12, (b13, b14)), ()))))) v.1.1 v.1.2.1 v.1.2.2.2.2.2.1 v.1.2.2.2.2.2.2.1 v.1.2.2.2.2.2.2.2 v.2.1.1 v.2.1.2 v.2.2.1.1 v.2.2.1.2.1 v.2.2.1.2.2.1 v.2.2.1.2.2.2.1 v.2.2.1.2.2.2.2 v.2.2.2.1.1 v.2.2.2.1.2.1 v.2.2.2.1.2.2) n ((b0, (b1, ((), ((), ((), (b2, (b3, b4))))))), ((b5, b6), ((b7, (b8, (b9, (b10, b11)))), ((b12, (b13, b14)), ()))))
theorem law11_PoolSlots_l4_succ (N n : Nat) (b0 : Int) (b1 : Bool) (b2 : Int) (b3 : Int) (b4 : Int) (b5 : (List V_api_Slot)) (b6 : (List Int)) (b7 : (List V_api_Pair)) (b8 : (List (List UInt8))) (b9 : (List Int)) (b10 : (List V_api_Sum)) (b11 : (List V_api_Msg)) (b12 : (List V_api_Slot)) (b13 : Int) (b14 : Int) : law11_PoolSlots_l4 N (n + 1) b0 b1 b2 b3 b4 b5 b6 b7 b8 b9 b10 b11 b12 b13 b14 = law11_PoolSlots_l4_step N (fun b0  b1  b2  b3  b4  b5  b6  b7  b8  b9  b10  b11  b12  b13  b14  => law11_PoolSlots_l4 N n b0 b1 b2 b3 b4 b5 b6 b7 b8 b9 b10 b11 b12 b13 b14) b0 b1 b2 b3 b4 b5 b6 b7 b8 b9 b10 b11 b12 b13 b14 := rfl
def law11_PoolSlots_p3 (N : Nat) (b0 : Int) (b1 : Bool) (b2 : (List V_api_Slot)) (b3 : (List Int)) : Option ((Bool × Unit)) :=
  bif (eqi (List.length b3 : Int) (0 : Int)) then
  (some (b1, ()))
  else
  (gd (!(eqi (List.length b3 : Int) 0))
  (let x26 := (Int.tmod (IntKind.wrap .i64 (b0)) (List.length b3 : Int))
  gd (inB x26 (List.length b3))
  (match pool_Hold N b2 (rdL b3 x26 (0 : Int)) with
  | some r27 => (match pool_Drop N r27.1 (rdL b3 x26 (0 : Int)) with
  | some r28 => (bif (eqi r27.2 (0 : Int)) then
  (bif (eqi r28.2 (0 : Int)) then
  (match ref11_Same N r28.1 b2 with
  | some r29 => (bif r29 then
  (some (b1, ()))
  else
  (some (false, ())))
  | none => none)
  else
  (some (false, ())))
  else
  (some (false, ())))
  | none => none)
  | none => none)))
def law11_PoolSlots_l2_step (N : Nat) (rec : Int → Bool → Int → (List V_api_Slot) → (List Int) → (List V_api_Pair) → (List (List UInt8)) → (List Int) → (List V_api_Sum) → (List V_api_Msg) → (List V_api_Slot) → Int → Int → Option ((Bool × Unit) ⊕ ((Int × (Bool × (Unit × (Unit × Unit)))) × (((List V_api_Slot) × (List Int)) × (((List V_api_Pair) × ((List (List UInt8)) × ((List Int) × ((List V_api_Sum) × (List V_api_Msg))))) × (((List V_api_Slot) × (Int × Int)) × Unit)))))) (b0 : Int) (b1 : Bool) (b2 : Int) (b3 : (List V_api_Slot)) (b4 : (List Int)) (b5 : (List V_api_Pair)) (b6 : (List (List UInt8))) (b7 : (List Int)) (b8 : (List V_api_Sum)) (b9 : (List V_api_Msg)) (b10 : (List V_api_Slot)) (b11 : Int) (b12 : Int) : Option ((Bool × Unit) ⊕ ((Int × (Bool × (Unit × (Unit × Unit)))) × (((List V_api_Slot) × (List Int)) × (((List V_api_Pair) × ((List (List UInt8)) × ((List Int) × ((List V_api_Sum) × (List V_api_Msg))))) × (((List V_api_Slot) × (Int × Int)) × Unit))))) :=
  bif (decide (b2 < (List.length b3 : Int))) then
  (match law11_PoolSlots_l4 N N b0 b1 b2 (0 : Int) (0 : Int) b3 b4 b5 b6 b7 b8 b9 b10 b11 b12 with
  | some r8 => (gd (inB r8.1.2.2.2.2.2.1 (List.length r8.2.1.1))
  (let x9 := (eqb ((rdL r8.2.1.1 r8.1.2.2.2.2.2.1 D_api_Slot).1) (eqi r8.1.2.2.2.2.2.1 r8.2.2.2.1.2.1))
  bif x9 then
  (bif (decide (r8.1.2.2.2.2.2.1 ≤ r8.2.2.2.1.2.1)) then
  (some (.inl (false, ())))
  else
  (bif (!(eqi r8.1.2.2.2.2.2.1 r8.2.2.2.1.2.1)) then
  (gd (inB r8.1.2.2.2.2.2.1 (List.length r8.2.2.2.1.1))
  (let x10 := (rdL r8.2.2.2.1.1 r8.1.2.2.2.2.2.1 D_api_Slot)
  gd (inB r8.1.2.2.2.2.2.1 (List.length r8.2.1.1))
  (let x11 := (((rdL r8.2.1.1 r8.1.2.2.2.2.2.1 D_api_Slot).2).2).1
  let x12 := (!(eqi x10.2.2.1 (IntKind.wrap .i64 (x11 + r8.1.2.2.2.2.2.2))))
  bif x12 then
  (some (.inl (false, ())))
  else
  (let x13 := (IntKind.wrap .i64 (r8.1.2.2.2.2.2.1 + (1 : Int)))
  rec r8.1.1 r8.1.2.1 x13 r8.2.1.1 r8.2.1.2 r8.2.2.1.1 r8.2.2.1.2.1 r8.2.2.1.2.2.1 r8.2.2.1.2.2.2.1 r8.2.2.1.2.2.2.2 r8.2.2.2.1.1 r8.2.2.2.1.2.1 r8.2.2.2.1.2.2))))
  else
  (let x14 := (IntKind.wrap .i64 (r8.1.2.2.2.2.2.1 + (1 : Int)))
  rec r8.1.1 r8.1.2.1 x14 r8.2.1.1 r8.2.1.2 r8.2.2.1.1 r8.2.2.1.2.1 r8.2.2.1.2.2.1 r8.2.2.1.2.2.2.1 r8.2.2.1.2.2.2.2 r8.2.2.2.1.1 r8.2.2.2.1.2.1 r8.2.2.2.1.2.2)))
  else
  (bif (!(eqi r8.1.2.2.2.2.2.1 r8.2.2.2.1.2.1)) then
  (gd (inB r8.1.2.2.2.2.2.1 (List.length r8.2.2.2.1.1))
  (let x15 := (rdL r8.2.2.2.1.1 r8.1.2.2.2.2.2.1 D_api_Slot)
  gd (inB r8.1.2.2.2.2.2.1 (List.length r8.2.1.1))
  (let x16 := (((rdL r8.2.1.1 r8.1.2.2.2.2.2.1 D_api_Slot).2).2).1
  let x17 := (!(eqi x15.2.2.1 (IntKind.wrap .i64 (x16 + r8.1.2.2.2.2.2.2))))
  bif x17 then
  (some (.inl (false, ())))
  else
  (let x18 := (IntKind.wrap .i64 (r8.1.2.2.2.2.2.1 + (1 : Int)))
  rec r8.1.1 r8.1.2.1 x18 r8.2.1.1 r8.2.1.2 r8.2.2.1.1 r8.2.2.1.2.1 r8.2.2.1.2.2.1 r8.2.2.1.2.2.2.1 r8.2.2.1.2.2.2.2 r8.2.2.2.1.1 r8.2.2.2.1.2.1 r8.2.2.2.1.2.2))))
  else
  (let x19 := (IntKind.wrap .i64 (r8.1.2.2.2.2.2.1 + (1 : Int)))
  rec r8.1.1 r8.1.2.1 x19 r8.2.1.1 r8.2.1.2 r8.2.2.1.1 r8.2.2.1.2.1 r8.2.2.1.2.2.1 r8.2.2.1.2.2.2.1 r8.2.2.1.2.2.2.2 r8.2.2.2.1.1 r8.2.2.2.1.2.1 r8.2.2.2.1.2.2))))
  | none => none)
  else
  (some (.inr ((b0, (b1, ((), ((), ())))), ((b3, b4), ((b5, (b6, (b7, (b8, b9)))), ((b10, (b11, b12)), ()))))))
def law11_PoolSlots_l2 (N n : Nat) (b0 : Int) (b1 : Bool) (b2 : Int) (b3 : (List V_api_Slot)) (b4 : (List Int)) (b5 : (List V_api_Pair)) (b6 : (List (List UInt8))) (b7 : (List Int)) (b8 : (List V_api_Sum)) (b9 : (List V_api_Msg)) (b10 : (List V_api_Slot)) (b11 : Int) (b12 : Int) : Option ((Bool × Unit) ⊕ ((Int × (Bool × (Unit × (Unit × Unit)))) × (((List V_api_Slot) × (List Int)) × (((List V_api_Pair) × ((List (List UInt8)) × ((List Int) × ((List V_api_Sum) × (List V_api_Msg))))) × (((List V_api_Slot) × (Int × Int)) × Unit))))) :=
  iter (fun (rec : ((Int × (Bool × (Unit × (Unit × (Unit × Int))))) × (((List V_api_Slot) × (List Int)) × (((List V_api_Pair) × ((List (List UInt8)) × ((List Int) × ((List V_api_Sum) × (List V_api_Msg))))) × (((List V_api_Slot) × (Int × Int)) × Unit)))) → Option ((Bool × Unit) ⊕ ((Int × (Bool × (Unit × (Unit × Unit)))) × (((List V_api_Slot) × (List Int)) × (((List V_api_Pair) × ((List (List UInt8)) × ((List Int) × ((List V_api_Sum) × (List V_api_Msg))))) × (((List V_api_Slot) × (Int × Int)) × Unit)))))) v => law11_PoolSlots_l2_step N (fun b0 b1 b2 b3 b4 b5 b6 b7 b8 b9 b10 b11 b12 => rec ((b0, (b1, ((), ((), ((), b2))))), ((b3, b4), ((b5, (b6, (b7, (b8, b9)))), ((b10, (b11, b12)), ()))))) v.1.1 v.1.2.1 v.1.2.2.2.2.2 v.2.1.1 v.2.1.2 v.2.2.1.1 v.2.2.1.2.1 v.2.2.1.2.2.1 v.2.2.1.2.2.2.1 v.2.2.1.2.2.2.2 v.2.2.2.1.1 v.2.2.2.1.2.1 v.2.2.2.1.2.2) n ((b0, (b1, ((), ((), ((), b2))))), ((b3, b4), ((b5, (b6, (b7, (b8, b9)))), ((b10, (b11, b12)), ()))))
theorem law11_PoolSlots_l2_succ (N n : Nat) (b0 : Int) (b1 : Bool) (b2 : Int) (b3 : (List V_api_Slot)) (b4 : (List Int)) (b5 : (List V_api_Pair)) (b6 : (List (List UInt8))) (b7 : (List Int)) (b8 : (List V_api_Sum)) (b9 : (List V_api_Msg)) (b10 : (List V_api_Slot)) (b11 : Int) (b12 : Int) : law11_PoolSlots_l2 N (n + 1) b0 b1 b2 b3 b4 b5 b6 b7 b8 b9 b10 b11 b12 = law11_PoolSlots_l2_step N (fun b0  b1  b2  b3  b4  b5  b6  b7  b8  b9  b10  b11  b12  => law11_PoolSlots_l2 N n b0 b1 b2 b3 b4 b5 b6 b7 b8 b9 b10 b11 b12) b0 b1 b2 b3 b4 b5 b6 b7 b8 b9 b10 b11 b12 := rfl
def law11_PoolSlots_p1 (N : Nat) (b0 : Int) (b1 : Bool) (b2 : Bool) (b3 : (List V_api_Slot)) (b4 : (List Int)) (b5 : (List V_api_Pair)) (b6 : (List (List UInt8))) (b7 : (List Int)) (b8 : (List V_api_Sum)) (b9 : (List V_api_Msg)) (b10 : (List V_api_Slot)) (b11 : Int) (b12 : Int) : Option ((Bool × Unit) ⊕ ((Int × (Bool × (Unit × (Unit × Unit)))) × (((List V_api_Slot) × (List Int)) × (((List V_api_Pair) × ((List (List UInt8)) × ((List Int) × ((List V_api_Sum) × (List V_api_Msg))))) × (((List V_api_Slot) × (Int × Int)) × Unit))))) :=
  bif b2 then
  (some (.inl (false, ())))
  else
  (some (.inr ((b0, (b1, ((), ((), ())))), ((b3, b4), ((b5, (b6, (b7, (b8, b9)))), ((b10, (b11, b12)), ()))))))
def law11_PoolSlots_p0 (N : Nat) (b0 : Int) (b1 : Bool) (b2 : (List V_api_Slot)) (b3 : (List Int)) (b4 : (List V_api_Pair)) (b5 : (List (List UInt8))) (b6 : (List Int)) (b7 : (List V_api_Sum)) (b8 : (List V_api_Msg)) (b9 : (List V_api_Slot)) (b10 : Int) (b11 : Int) : Option ((Bool × Unit)) :=
  match law11_PoolSlots_l2 N N b0 b1 (0 : Int) b2 b3 b4 b5 b6 b7 b8 b9 b10 b11 with
  | some r20 => (match r20 with
  | .inl r21 => (some (r21.1, ()))
  | .inr r22 => (match pool_Get N r22.2.2.2.1.1 r22.2.2.2.1.2.1 with
  | some r23 => (bif (!(eqi r23.2 (0 : Int))) then
  (some (false, ()))
  else
  (match ref11_SameNode N r23.1 r22.2.2.1 with
  | some r24 => (bif (!r24) then
  (some (false, ()))
  else
  (gd (inB r22.2.2.2.1.2.1 (List.length r22.2.2.2.1.1))
  (let x25 := (rdL r22.2.2.2.1.1 r22.2.2.2.1.2.1 D_api_Slot)
  bif (!(eqi x25.2.2.1 (1 : Int))) then
  (some (false, ()))
  else
  (match law11_PoolSlots_p3 N r22.1.1 r22.1.2.1 r22.2.1.1 r22.2.1.2 with
  | some r30 => (some (r30.1, ()))
  | none => none))))
  | none => none))
  | none => none))
  | none => none
def law11_PoolSlots (N : Nat) (a0 : (List V_ref11_Raw)) (a1 : V_ref11_Raw) (a2 : Int) : Option (Bool) :=
  match law11_sanity N with
  | some r1 => (match ref11_Play N a0 (16 : Int) with
  | some r2 => (match ref11_Node N a1 r2.2 with
  | some r3 => (match law11_add N r2.1 r3 with
  | some r4 => (bif (!(eqi r4.2.2 (0 : Int))) then
  (match law11_PoolSlots_p1 N a2 r1 true r2.1 r2.2 r3.1 r3.2.1 r3.2.2.1 r3.2.2.2.1 r3.2.2.2.2 r4.1 r4.2.1 r4.2.2 with
  | some r5 => (match r5 with
  | .inl r6 => (some r6.1)
  | .inr r7 => (match law11_PoolSlots_p0 N r7.1.1 r7.1.2.1 r7.2.1.1 r7.2.1.2 r7.2.2.1.1 r7.2.2.1.2.1 r7.2.2.1.2.2.1 r7.2.2.1.2.2.2.1 r7.2.2.1.2.2.2.2 r7.2.2.2.1.1 r7.2.2.2.1.2.1 r7.2.2.2.1.2.2 with
  | some r31 => (some r31.1)
  | none => none))
  | none => none)
  else
  (bif (decide (r4.2.1 < (0 : Int))) then
  (match law11_PoolSlots_p1 N a2 r1 true r2.1 r2.2 r3.1 r3.2.1 r3.2.2.1 r3.2.2.2.1 r3.2.2.2.2 r4.1 r4.2.1 r4.2.2 with
  | some r32 => (match r32 with
  | .inl r33 => (some r33.1)
  | .inr r34 => (match law11_PoolSlots_p0 N r34.1.1 r34.1.2.1 r34.2.1.1 r34.2.1.2 r34.2.2.1.1 r34.2.2.1.2.1 r34.2.2.1.2.2.1 r34.2.2.1.2.2.2.1 r34.2.2.1.2.2.2.2 r34.2.2.2.1.1 r34.2.2.2.1.2.1 r34.2.2.2.1.2.2 with
  | some r35 => (some r35.1)
  | none => none))
  | none => none)
  else
  (bif (decide ((List.length r4.1 : Int) ≤ r4.2.1)) then
  (match law11_PoolSlots_p1 N a2 r1 true r2.1 r2.2 r3.1 r3.2.1 r3.2.2.1 r3.2.2.2.1 r3.2.2.2.2 r4.1 r4.2.1 r4.2.2 with
  | some r36 => (match r36 with
  | .inl r37 => (some r37.1)
  | .inr r38 => (match law11_PoolSlots_p0 N r38.1.1 r38.1.2.1 r38.2.1.1 r38.2.1.2 r38.2.2.1.1 r38.2.2.1.2.1 r38.2.2.1.2.2.1 r38.2.2.1.2.2.2.1 r38.2.2.1.2.2.2.2 r38.2.2.2.1.1 r38.2.2.2.1.2.1 r38.2.2.2.1.2.2 with
  | some r39 => (some r39.1)
  | none => none))
  | none => none)
  else
  (let x40 := (IntKind.wrap .i64 ((List.length r2.1 : Int) + (1 : Int)))
  bif (decide (x40 < (List.length r4.1 : Int))) then
  (match law11_PoolSlots_p1 N a2 r1 true r2.1 r2.2 r3.1 r3.2.1 r3.2.2.1 r3.2.2.2.1 r3.2.2.2.2 r4.1 r4.2.1 r4.2.2 with
  | some r41 => (match r41 with
  | .inl r42 => (some r42.1)
  | .inr r43 => (match law11_PoolSlots_p0 N r43.1.1 r43.1.2.1 r43.2.1.1 r43.2.1.2 r43.2.2.1.1 r43.2.2.1.2.1 r43.2.2.1.2.2.1 r43.2.2.1.2.2.2.1 r43.2.2.1.2.2.2.2 r43.2.2.2.1.1 r43.2.2.2.1.2.1 r43.2.2.2.1.2.2 with
  | some r44 => (some r44.1)
  | none => none))
  | none => none)
  else
  (let x45 := (decide ((List.length r4.1 : Int) < (List.length r2.1 : Int)))
  match law11_PoolSlots_p1 N a2 r1 x45 r2.1 r2.2 r3.1 r3.2.1 r3.2.2.1 r3.2.2.2.1 r3.2.2.2.2 r4.1 r4.2.1 r4.2.2 with
  | some r46 => (match r46 with
  | .inl r47 => (some r47.1)
  | .inr r48 => (match law11_PoolSlots_p0 N r48.1.1 r48.1.2.1 r48.2.1.1 r48.2.1.2 r48.2.2.1.1 r48.2.2.1.2.1 r48.2.2.1.2.2.1 r48.2.2.1.2.2.2.1 r48.2.2.1.2.2.2.2 r48.2.2.2.1.1 r48.2.2.2.1.2.1 r48.2.2.2.1.2.2 with
  | some r49 => (some r49.1)
  | none => none))
  | none => none)))))
  | none => none)
  | none => none)
  | none => none)
  | none => none

/-- downspout/downspoutlaw11.PoolRefuses -/
def law11_PoolRefuses_l3_step (N : Nat) (rec : Bool → Int → (List V_api_Slot) → Option (((Bool × Unit) × (Unit × ((List V_api_Slot) × Unit))))) (b0 : Bool) (b1 : Int) (b2 : (List V_api_Slot)) : Option (((Bool × Unit) × (Unit × ((List V_api_Slot) × Unit)))) :=
  bif (decide (b1 < (4096 : Int))) then
  (let x12 := ([(true, (false, ((1 : Int), (([] : List V_api_Pair), (([] : List (List UInt8)), (([] : List Int), (([] : List V_api_Sum), ([] : List V_api_Msg))))))))] : List V_api_Slot)
  gd (fits (List.length b2 + List.length x12) 136)
  (let x13 := (@HAppend.hAppend (List V_api_Slot) (List V_api_Slot) (List V_api_Slot) _ b2 x12)
  rec b0 (IntKind.wrap .i64 (b1 + (1 : Int))) x13))
  else
  (some ((b0, ()), ((), (b2, ()))))
def law11_PoolRefuses_l3 (N n : Nat) (b0 : Bool) (b1 : Int) (b2 : (List V_api_Slot)) : Option (((Bool × Unit) × (Unit × ((List V_api_Slot) × Unit)))) :=
  iter (fun (rec : ((Bool × (Unit × Int)) × (Unit × ((List V_api_Slot) × Unit))) → Option (((Bool × Unit) × (Unit × ((List V_api_Slot) × Unit))))) v => law11_PoolRefuses_l3_step N (fun b0 b1 b2 => rec ((b0, ((), b1)), ((), (b2, ())))) v.1.1 v.1.2.2 v.2.2.1) n ((b0, ((), b1)), ((), (b2, ())))
theorem law11_PoolRefuses_l3_succ (N n : Nat) (b0 : Bool) (b1 : Int) (b2 : (List V_api_Slot)) : law11_PoolRefuses_l3 N (n + 1) b0 b1 b2 = law11_PoolRefuses_l3_step N (fun b0  b1  b2  => law11_PoolRefuses_l3 N n b0 b1 b2) b0 b1 b2 := rfl
def law11_PoolRefuses_p2 (N : Nat) (b0 : Bool) (b1 : Bool) (b2 : Bool) : Option ((Bool × Unit) ⊕ ((Bool × Bool) × Unit)) :=
  bif b2 then
  (some (.inl (false, ())))
  else
  (some (.inr ((b0, b1), ())))
def law11_PoolRefuses_p1 (N : Nat) (b0 : Bool) (b1 : Bool) : Option ((Bool × Unit)) :=
  bif (!b0) then
  (some (b1, ()))
  else
  (match law11_PoolRefuses_l3 N N b1 (0 : Int) ([] : List V_api_Slot) with
  | some r14 => (match pool_Drop N r14.2.2.1 (77 : Int) with
  | some r15 => (match law11_add N r14.2.2.1 (([] : List V_api_Pair), (([] : List (List UInt8)), (([] : List Int), (([] : List V_api_Sum), ([] : List V_api_Msg))))) with
  | some r16 => (bif (eqi r16.2.2 (111 : Int)) then
  (bif (eqi r15.2 (0 : Int)) then
  (match law11_add N r15.1 (([] : List V_api_Pair), (([] : List (List UInt8)), (([] : List Int), (([] : List V_api_Sum), ([] : List V_api_Msg))))) with
  | some r17 => (bif (eqi r17.2.1 (77 : Int)) then
  (match law11_add N r14.2.2.1 (([] : List V_api_Pair), (([] : List (List UInt8)), (([(4096 : Int)] : List Int), (([] : List V_api_Sum), ([] : List V_api_Msg))))) with
  | some r18 => (bif (eqi r18.2.2 (110 : Int)) then
  (some (r14.1.1, ()))
  else
  (some (false, ())))
  | none => none)
  else
  (some (false, ())))
  | none => none)
  else
  (some (false, ())))
  else
  (some (false, ())))
  | none => none)
  | none => none)
  | none => none)
def law11_PoolRefuses_p0 (N : Nat) (b0 : Bool) (b1 : Bool) (b2 : Int) (b3 : (List V_api_Slot)) (b4 : (List Int)) : Option ((Bool × Unit)) :=
  match law11_add N b3 (([] : List V_api_Pair), (([] : List (List UInt8)), (([b2] : List Int), (([] : List V_api_Sum), ([] : List V_api_Msg))))) with
  | some r5 => (match pool_Get N b3 b2 with
  | some r6 => (match pool_Hold N b3 b2 with
  | some r7 => (match pool_Drop N b3 b2 with
  | some r8 => (bif (!(eqi r5.2.2 (110 : Int))) then
  (match law11_PoolRefuses_p2 N b0 b1 true with
  | some r9 => (match r9 with
  | .inl r10 => (some (r10.1, ()))
  | .inr r11 => (match law11_PoolRefuses_p1 N r11.1.1 r11.1.2 with
  | some r19 => (some (r19.1, ()))
  | none => none))
  | none => none)
  else
  (bif (!(eqi r5.2.1 (0 : Int))) then
  (match law11_PoolRefuses_p2 N b0 b1 true with
  | some r20 => (match r20 with
  | .inl r21 => (some (r21.1, ()))
  | .inr r22 => (match law11_PoolRefuses_p1 N r22.1.1 r22.1.2 with
  | some r23 => (some (r23.1, ()))
  | none => none))
  | none => none)
  else
  (match ref11_Same N r5.1 b3 with
  | some r24 => (bif (!r24) then
  (match law11_PoolRefuses_p2 N b0 b1 true with
  | some r25 => (match r25 with
  | .inl r26 => (some (r26.1, ()))
  | .inr r27 => (match law11_PoolRefuses_p1 N r27.1.1 r27.1.2 with
  | some r28 => (some (r28.1, ()))
  | none => none))
  | none => none)
  else
  (bif (!(eqi r6.2 (110 : Int))) then
  (match law11_PoolRefuses_p2 N b0 b1 true with
  | some r29 => (match r29 with
  | .inl r30 => (some (r30.1, ()))
  | .inr r31 => (match law11_PoolRefuses_p1 N r31.1.1 r31.1.2 with
  | some r32 => (some (r32.1, ()))
  | none => none))
  | none => none)
  else
  (bif (!(eqi r7.2 (110 : Int))) then
  (match law11_PoolRefuses_p2 N b0 b1 true with
  | some r33 => (match r33 with
  | .inl r34 => (some (r34.1, ()))
  | .inr r35 => (match law11_PoolRefuses_p1 N r35.1.1 r35.1.2 with
  | some r36 => (some (r36.1, ()))
  | none => none))
  | none => none)
  else
  (bif (!(eqi r8.2 (110 : Int))) then
  (match law11_PoolRefuses_p2 N b0 b1 true with
  | some r37 => (match r37 with
  | .inl r38 => (some (r38.1, ()))
  | .inr r39 => (match law11_PoolRefuses_p1 N r39.1.1 r39.1.2 with
  | some r40 => (some (r40.1, ()))
  | none => none))
  | none => none)
  else
  (match ref11_Same N r7.1 b3 with
  | some r41 => (bif (!r41) then
  (match law11_PoolRefuses_p2 N b0 b1 true with
  | some r42 => (match r42 with
  | .inl r43 => (some (r43.1, ()))
  | .inr r44 => (match law11_PoolRefuses_p1 N r44.1.1 r44.1.2 with
  | some r45 => (some (r45.1, ()))
  | none => none))
  | none => none)
  else
  (match ref11_Same N r8.1 b3 with
  | some r46 => (match law11_PoolRefuses_p2 N b0 b1 (!r46) with
  | some r47 => (match r47 with
  | .inl r48 => (some (r48.1, ()))
  | .inr r49 => (match law11_PoolRefuses_p1 N r49.1.1 r49.1.2 with
  | some r50 => (some (r50.1, ()))
  | none => none))
  | none => none)
  | none => none))
  | none => none)))))
  | none => none)))
  | none => none)
  | none => none)
  | none => none)
  | none => none
def law11_PoolRefuses (N : Nat) (a0 : (List V_ref11_Raw)) (a1 : Int) (a2 : Bool) : Option (Bool) :=
  match law11_sanity N with
  | some r1 => (match ref11_Play N a0 (16 : Int) with
  | some r2 => (match ref11_Used N r2.1 (IntKind.wrap .i64 (a1)) with
  | some r3 => (bif r3 then
  (let x4 := (IntKind.wrap .i64 ((List.length r2.1 : Int) + (IntKind.wrap .i64 (a1))))
  match law11_PoolRefuses_p0 N a2 r1 x4 r2.1 r2.2 with
  | some r51 => (some r51.1)
  | none => none)
  else
  (match law11_PoolRefuses_p0 N a2 r1 (IntKind.wrap .i64 (a1)) r2.1 r2.2 with
  | some r52 => (some r52.1)
  | none => none))
  | none => none)
  | none => none)
  | none => none

end Ds
