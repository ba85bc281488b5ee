/- Printed by a program of the session's: what the program's functions compute, and that they do. -/
import Derived.Test.YtpgikdaeicidaaaGreatDoorDvD
import Derived.Test.YtpgikdaeicidaaaGreatDoorDvE
set_option linter.all false
namespace Ds
open Go Go.Dv
def T_ref04_Raw : Ty := (.pair (.int .u8) (.pair (.int .u8) (.int .u8)))
abbrev V_ref04_Raw : Type := (Int × (Int × Int))
abbrev D_ref04_Raw : V_ref04_Raw := ((0 : Int), ((0 : Int), (0 : Int)))
def T_a4_uint8 : Ty := (.pair (.int .u8) (.pair (.int .u8) (.pair (.int .u8) (.int .u8))))
abbrev V_a4_uint8 : Type := (Int × (Int × (Int × Int)))
abbrev D_a4_uint8 : V_a4_uint8 := ((0 : Int), ((0 : Int), ((0 : Int), (0 : Int))))
def T_ref05_Raw : Ty := (.pair (.int .u8) (.pair (.int .u8) (.pair (.int .u8) (.pair (.int .u8) (.pair (.int .u8) (.int .u8))))))
abbrev V_ref05_Raw : Type := (Int × (Int × (Int × (Int × (Int × Int)))))
abbrev D_ref05_Raw : V_ref05_Raw := ((0 : Int), ((0 : Int), ((0 : Int), ((0 : Int), ((0 : Int), (0 : Int))))))
def T_ref10_Raw : Ty := (.pair (.list T_ref04_Raw) (.pair (.list (.int .u8)) (.pair (.list (.int .u8)) (.pair (.list T_a4_uint8) (.list T_ref05_Raw)))))
abbrev V_ref10_Raw : Type := ((List V_ref04_Raw) × ((List Int) × ((List Int) × ((List V_a4_uint8) × (List V_ref05_Raw)))))
abbrev D_ref10_Raw : V_ref10_Raw := (([] : List V_ref04_Raw), (([] : List Int), (([] : List Int), (([] : List V_a4_uint8), ([] : List V_ref05_Raw)))))
def T_api_Pair : Ty := (.pair .str (.pair .str (.int .i64)))
abbrev V_api_Pair : Type := ((List UInt8) × ((List UInt8) × Int))
abbrev D_api_Pair : V_api_Pair := (([] : List UInt8), (([] : List UInt8), (0 : Int)))
def T_api_Range : Ty := (.pair (.int .i64) (.int .i64))
abbrev V_api_Range : Type := (Int × Int)
abbrev D_api_Range : V_api_Range := ((0 : Int), (0 : Int))
def T_api_Sum : Ty := (.pair T_api_Range T_api_Range)
abbrev V_api_Sum : Type := (V_api_Range × V_api_Range)
abbrev D_api_Sum : V_api_Sum := (D_api_Range, D_api_Range)
def T_api_Span : Ty := (.pair .str .str)
abbrev V_api_Span : Type := ((List UInt8) × (List UInt8))
abbrev D_api_Span : V_api_Span := (([] : List UInt8), ([] : List UInt8))
def T_api_Msg : Ty := (.pair (.int .i64) (.pair .str (.pair .str (.pair T_api_Span (.pair .str (.pair .str (.int .i64)))))))
abbrev V_api_Msg : Type := (Int × ((List UInt8) × ((List UInt8) × (V_api_Span × ((List UInt8) × ((List UInt8) × Int))))))
abbrev D_api_Msg : V_api_Msg := ((0 : Int), (([] : List UInt8), (([] : List UInt8), (D_api_Span, (([] : List UInt8), (([] : List UInt8), (0 : Int)))))))
def T_api_Node : Ty := (.pair (.list T_api_Pair) (.pair (.list .str) (.pair (.list (.int .i64)) (.pair (.list T_api_Sum) (.list T_api_Msg)))))
abbrev V_api_Node : Type := ((List V_api_Pair) × ((List (List UInt8)) × ((List Int) × ((List V_api_Sum) × (List V_api_Msg)))))
abbrev D_api_Node : V_api_Node := (([] : List V_api_Pair), (([] : List (List UInt8)), (([] : List Int), (([] : List V_api_Sum), ([] : List V_api_Msg)))))
def T_a2_ref10_Raw : Ty := (.pair T_ref10_Raw T_ref10_Raw)
abbrev V_a2_ref10_Raw : Type := (V_ref10_Raw × V_ref10_Raw)
abbrev D_a2_ref10_Raw : V_a2_ref10_Raw := (D_ref10_Raw, D_ref10_Raw)
def T_a2_uint16 : Ty := (.pair (.int .u16) (.int .u16))
abbrev V_a2_uint16 : Type := (Int × Int)
abbrev D_a2_uint16 : V_a2_uint16 := ((0 : Int), (0 : Int))
def T_a2_s_uint8 : Ty := (.pair (.list (.int .u8)) (.list (.int .u8)))
abbrev V_a2_s_uint8 : Type := ((List Int) × (List Int))
abbrev D_a2_s_uint8 : V_a2_s_uint8 := (([] : List Int), ([] : List Int))
def T_api_Use : Ty := (.pair (.int .i64) (.int .i64))
abbrev V_api_Use : Type := (Int × Int)
abbrev D_api_Use : V_api_Use := ((0 : Int), (0 : Int))
def T_api_Shape : Ty := (.pair (.int .i64) (.pair (.int .i64) (.int .i64)))
abbrev V_api_Shape : Type := (Int × (Int × Int))
abbrev D_api_Shape : V_api_Shape := ((0 : Int), ((0 : Int), (0 : Int)))
def T_node_reader : Ty := (.pair (.list (.int .u8)) .bool)
abbrev V_node_reader : Type := ((List Int) × Bool)
abbrev D_node_reader : V_node_reader := (([] : List Int), false)
def T_api_Place : Ty := (.pair .str (.pair (.int .i64) (.pair (.int .i64) .str)))
abbrev V_api_Place : Type := ((List UInt8) × (Int × (Int × (List UInt8))))
abbrev D_api_Place : V_api_Place := (([] : List UInt8), ((0 : Int), ((0 : Int), ([] : List UInt8))))
def T_path_place : Ty := (.pair .str T_api_Place)
abbrev V_path_place : Type := ((List UInt8) × V_api_Place)
abbrev D_path_place : V_path_place := (([] : List UInt8), D_api_Place)
def T_msg_reader : Ty := (.pair (.list (.int .u8)) .bool)
abbrev V_msg_reader : Type := ((List Int) × Bool)
abbrev D_msg_reader : V_msg_reader := (([] : List Int), false)
def node_reader_take_m (N : Nat) (a0 : Int) (a1 : (List Int)) (a2 : Bool) : Option (((List Int) × (((List Int) × Bool) × Unit))) :=
  bif (!a2) then
  (let x1 := (bif decide ((8 : Int) < a0) then (8 : Int) else a0)
  gd ((decide (0 ≤ x1) && decide (x1 ≤ x1)) && (decide (x1 < maxB) && decide (x1 * 1 < maxB)))
  (some ((List.replicate (Int.toNat x1) (0 : Int)), ((a1, false), ()))))
  else
  (bif (decide ((List.length a1 : Int) < a0)) then
  (let x2 := (bif decide ((8 : Int) < a0) then (8 : Int) else a0)
  gd ((decide (0 ≤ x2) && decide (x2 ≤ x2)) && (decide (x2 < maxB) && decide (x2 * 1 < maxB)))
  (some ((List.replicate (Int.toNat x2) (0 : Int)), ((a1, false), ()))))
  else
  (gd (decide (0 ≤ (0 : Int)) && (decide ((0 : Int) ≤ a0) && decide (a0 ≤ (List.length a1 : Int))))
  (gd (decide (0 ≤ a0) && (decide (a0 ≤ (List.length a1 : Int)) && decide ((List.length a1 : Int) ≤ (List.length a1 : Int))))
  (some ((cut2 a1 (0 : Int) a0), (((cut2 a1 a0 (List.length a1 : Int)), a2), ()))))))
def node_reader_number_m_l0_step (N : Nat) (rec : Int → (List Int) → Int → Int → (List Int) → Bool → Option ((Int × (((List Int) × Bool) × Unit)))) (b0 : Int) (b1 : (List Int)) (b2 : Int) (b3 : Int) (b4 : (List Int)) (b5 : Bool) : Option ((Int × (((List Int) × Bool) × Unit))) :=
  bif (decide (b3 < b2)) then
  (gd (inB b3 (List.length b1))
  (gd (decide (0 ≤ (8 : Int)))
  (let x2 := (IntKind.wrap .i64 (b0 * 2 ^ min (Int.toNat (8 : Int)) (IntKind.bits .i64)))
  let x3 := (IntKind.wrap .i64 (((BitVec.ofInt (IntKind.bits .i64) x2 ||| BitVec.ofInt (IntKind.bits .i64) (IntKind.wrap .i64 ((rdL b1 b3 (0 : Int))))).toNat : Int)))
  rec x3 b1 b2 (IntKind.wrap .i64 (b3 + (1 : Int))) b4 b5)))
  else
  (some (b0, ((b4, b5), ())))
def node_reader_number_m_l0 (N n : Nat) (b0 : Int) (b1 : (List Int)) (b2 : Int) (b3 : Int) (b4 : (List Int)) (b5 : Bool) : Option ((Int × (((List Int) × Bool) × Unit))) :=
  iter (fun (rec : ((Int × ((List Int) × (Int × Int))) × (((List Int) × Bool) × Unit)) → Option ((Int × (((List Int) × Bool) × Unit)))) v => node_reader_number_m_l0_step N (fun b0 b1 b2 b3 b4 b5 => rec ((b0, (b1, (b2, b3))), ((b4, b5), ()))) v.1.1 v.1.2.1 v.1.2.2.1 v.1.2.2.2 v.2.1.1 v.2.1.2) n ((b0, (b1, (b2, b3))), ((b4, b5), ()))
theorem node_reader_number_m_l0_succ (N n : Nat) (b0 : Int) (b1 : (List Int)) (b2 : Int) (b3 : Int) (b4 : (List Int)) (b5 : Bool) : node_reader_number_m_l0 N (n + 1) b0 b1 b2 b3 b4 b5 = node_reader_number_m_l0_step N (fun b0  b1  b2  b3  b4  b5  => node_reader_number_m_l0 N n b0 b1 b2 b3 b4 b5) b0 b1 b2 b3 b4 b5 := rfl
def node_reader_number_m (N : Nat) (a0 : Int) (a1 : (List Int)) (a2 : Bool) : Option ((Int × (((List Int) × Bool) × Unit))) :=
  match node_reader_take_m N a0 a1 a2 with
  | some r1 => (match node_reader_number_m_l0 N N (0 : Int) r1.1 (List.length r1.1 : Int) (0 : Int) r1.2.1.1 r1.2.1.2 with
  | some r4 => (some (r4.1, ((r4.2.1.1, r4.2.1.2), ())))
  | none => none)
  | none => none
def node_reader_four_m (N : Nat) (a0 : (List Int)) (a1 : Bool) : Option ((Int × (((List Int) × Bool) × Unit))) :=
  match node_reader_number_m N (4 : Int) a0 a1 with
  | some r1 => (some (r1.1, ((r1.2.1.1, r1.2.1.2), ())))
  | none => none
def node_reader_text_m (N : Nat) (a0 : (List Int)) (a1 : Bool) : Option (((List UInt8) × (((List Int) × Bool) × Unit))) :=
  match node_reader_number_m N (2 : Int) a0 a1 with
  | some r1 => (match node_reader_take_m N r1.1 r1.2.1.1 r1.2.1.2 with
  | some r2 => (some ((bytesU r2.1), ((r2.2.1.1, r2.2.1.2), ())))
  | none => none)
  | none => none
def node_reader_pair_m (N : Nat) (a0 : (List Int)) (a1 : Bool) : Option ((((List UInt8) × ((List UInt8) × Int)) × (((List Int) × Bool) × Unit))) :=
  match node_reader_text_m N a0 a1 with
  | some r1 => (match node_reader_text_m N r1.2.1.1 r1.2.1.2 with
  | some r2 => (match node_reader_four_m N r2.2.1.1 r2.2.1.2 with
  | some r3 => (some ((r1.1, (r2.1, r3.1)), ((r3.2.1.1, r3.2.1.2), ())))
  | none => none)
  | none => none)
  | none => none
def node_list_api_Pair_m__node_reader_pair_l0_step (N : Nat) (rec : Int → (List Int) → Bool → (List V_api_Pair) → Option ((Unit × ((List V_api_Pair) × (((List Int) × Bool) × Unit))))) (b0 : Int) (b1 : (List Int)) (b2 : Bool) (b3 : (List V_api_Pair)) : Option ((Unit × ((List V_api_Pair) × (((List Int) × Bool) × Unit)))) :=
  bif (decide ((List.length b3 : Int) < b0)) then
  (bif b2 then
  (match node_reader_pair_m N b1 b2 with
  | some r1 => (gd (fits (List.length b3 + 1) 40)
  (let x2 := (@HAppend.hAppend (List V_api_Pair) (List V_api_Pair) (List V_api_Pair) _ b3 ([r1.1] : List V_api_Pair))
  rec b0 r1.2.1.1 r1.2.1.2 x2))
  | none => none)
  else
  (some ((), (b3, ((b1, b2), ())))))
  else
  (some ((), (b3, ((b1, b2), ()))))
def node_list_api_Pair_m__node_reader_pair_l0 (N n : Nat) (b0 : Int) (b1 : (List Int)) (b2 : Bool) (b3 : (List V_api_Pair)) : Option ((Unit × ((List V_api_Pair) × (((List Int) × Bool) × Unit)))) :=
  iter (fun (rec : ((Unit × (Int × (Unit × Unit))) × (((List Int) × Bool) × ((List V_api_Pair) × Unit))) → Option ((Unit × ((List V_api_Pair) × (((List Int) × Bool) × Unit))))) v => node_list_api_Pair_m__node_reader_pair_l0_step N (fun b0 b1 b2 b3 => rec (((), (b0, ((), ()))), ((b1, b2), (b3, ())))) v.1.2.1 v.2.1.1 v.2.1.2 v.2.2.1) n (((), (b0, ((), ()))), ((b1, b2), (b3, ())))
theorem node_list_api_Pair_m__node_reader_pair_l0_succ (N n : Nat) (b0 : Int) (b1 : (List Int)) (b2 : Bool) (b3 : (List V_api_Pair)) : node_list_api_Pair_m__node_reader_pair_l0 N (n + 1) b0 b1 b2 b3 = node_list_api_Pair_m__node_reader_pair_l0_step N (fun b0  b1  b2  b3  => node_list_api_Pair_m__node_reader_pair_l0 N n b0 b1 b2 b3) b0 b1 b2 b3 := rfl
def node_list_api_Pair_m__node_reader_pair (N : Nat) (a0 : Int) (a1 : (List Int)) (a2 : Bool) : Option ((Unit × ((List V_api_Pair) × (((List Int) × Bool) × Unit)))) :=
  match node_list_api_Pair_m__node_reader_pair_l0 N N a0 a1 a2 ([] : List V_api_Pair) with
  | some r3 => (some ((), (r3.2.1, ((r3.2.2.1.1, r3.2.2.1.2), ()))))
  | none => none
def table_Valid_l0_step (N : Nat) (rec : (List V_api_Pair) → Int → Option ((Bool × Unit) ⊕ (Unit × Unit))) (b0 : (List V_api_Pair)) (b1 : Int) : Option ((Bool × Unit) ⊕ (Unit × Unit)) :=
  bif (decide (b1 < (List.length b0 : Int))) then
  (gd (inB (IntKind.wrap .i64 (b1 - (1 : Int))) (List.length b0))
  (let x1 := (rdL b0 (IntKind.wrap .i64 (b1 - (1 : Int))) D_api_Pair)
  gd (inB b1 (List.length b0))
  (bif (!(lts x1.1 ((rdL b0 b1 D_api_Pair).1))) then
  (some (.inl (false, ())))
  else
  (rec b0 (IntKind.wrap .i64 (b1 + (1 : Int)))))))
  else
  (some (.inr ((), ())))
def table_Valid_l0 (N n : Nat) (b0 : (List V_api_Pair)) (b1 : Int) : Option ((Bool × Unit) ⊕ (Unit × Unit)) :=
  iter (fun (rec : (((List V_api_Pair) × Int) × Unit) → Option ((Bool × Unit) ⊕ (Unit × Unit))) v => table_Valid_l0_step N (fun b0 b1 => rec ((b0, b1), ())) v.1.1 v.1.2) n ((b0, b1), ())
theorem table_Valid_l0_succ (N n : Nat) (b0 : (List V_api_Pair)) (b1 : Int) : table_Valid_l0 N (n + 1) b0 b1 = table_Valid_l0_step N (fun b0  b1  => table_Valid_l0 N n b0 b1) b0 b1 := rfl
def table_Valid (N : Nat) (a0 : (List V_api_Pair)) : Option (Bool) :=
  match table_Valid_l0 N N a0 (1 : Int) with
  | some r2 => (match r2 with
  | .inl r3 => (some r3.1)
  | .inr r4 => (some true))
  | none => none
def node_storable (N : Nat) (a0 : V_api_Pair) : Option (Bool) :=
  let x1 := (decide ((1 : Int) ≤ (List.length a0.1 : Int)))
  bif x1 then
  (let x2 := (decide ((List.length a0.1 : Int) ≤ (65535 : Int)))
  bif x2 then
  (let x3 := (decide ((List.length a0.2.1 : Int) ≤ (64 : Int)))
  bif x3 then
  (bif (decide ((0 : Int) ≤ a0.2.2)) then
  (some (decide (a0.2.2 ≤ (1000000000 : Int))))
  else
  (some false))
  else
  (some false))
  else
  (some false))
  else
  (some false)
def span_Has (N : Nat) (a0 : V_api_Span) (a1 : (List UInt8)) : Option (Bool) :=
  bif (!(lts a1 a0.1)) then
  (bif (eqs a0.2 ([] : List UInt8)) then
  (some true)
  else
  (some (lts a1 a0.2)))
  else
  (some false)
def node_Valid_c1 (N : Nat) (a0 : V_api_Pair) (a1 : (List UInt8)) (a2 : (List UInt8)) : Option (Bool) :=
  match node_storable N a0 with
  | some r1 => (bif (!r1) then
  (some true)
  else
  (match span_Has N (a1, a2) a0.1 with
  | some r2 => (some (!r2))
  | none => none))
  | none => none
def slices_IndexFunc_s_api_Pair_api_Pair__node_Valid_c1_l0_step (N : Nat) (rec : (List V_api_Pair) → (List UInt8) → (List UInt8) → Int → Int → Option ((Int × Unit) ⊕ (Unit × Unit))) (b0 : (List V_api_Pair)) (b1 : (List UInt8)) (b2 : (List UInt8)) (b3 : Int) (b4 : Int) : Option ((Int × Unit) ⊕ (Unit × Unit)) :=
  bif (decide (b4 < b3)) then
  (gd (inB b4 (List.length b0))
  (match node_Valid_c1 N (rdL b0 b4 D_api_Pair) b1 b2 with
  | some r1 => (bif r1 then
  (some (.inl (b4, ())))
  else
  (rec b0 b1 b2 b3 (IntKind.wrap .i64 (b4 + (1 : Int)))))
  | none => none))
  else
  (some (.inr ((), ())))
def slices_IndexFunc_s_api_Pair_api_Pair__node_Valid_c1_l0 (N n : Nat) (b0 : (List V_api_Pair)) (b1 : (List UInt8)) (b2 : (List UInt8)) (b3 : Int) (b4 : Int) : Option ((Int × Unit) ⊕ (Unit × Unit)) :=
  iter (fun (rec : (((List V_api_Pair) × (((List UInt8) × (List UInt8)) × (Int × Int))) × Unit) → Option ((Int × Unit) ⊕ (Unit × Unit))) v => slices_IndexFunc_s_api_Pair_api_Pair__node_Valid_c1_l0_step N (fun b0 b1 b2 b3 b4 => rec ((b0, ((b1, b2), (b3, b4))), ())) v.1.1 v.1.2.1.1 v.1.2.1.2 v.1.2.2.1 v.1.2.2.2) n ((b0, ((b1, b2), (b3, b4))), ())
theorem slices_IndexFunc_s_api_Pair_api_Pair__node_Valid_c1_l0_succ (N n : Nat) (b0 : (List V_api_Pair)) (b1 : (List UInt8)) (b2 : (List UInt8)) (b3 : Int) (b4 : Int) : slices_IndexFunc_s_api_Pair_api_Pair__node_Valid_c1_l0 N (n + 1) b0 b1 b2 b3 b4 = slices_IndexFunc_s_api_Pair_api_Pair__node_Valid_c1_l0_step N (fun b0  b1  b2  b3  b4  => slices_IndexFunc_s_api_Pair_api_Pair__node_Valid_c1_l0 N n b0 b1 b2 b3 b4) b0 b1 b2 b3 b4 := rfl
def slices_IndexFunc_s_api_Pair_api_Pair__node_Valid_c1 (N : Nat) (a0 : (List V_api_Pair)) (a1 : (List UInt8)) (a2 : (List UInt8)) : Option (Int) :=
  match slices_IndexFunc_s_api_Pair_api_Pair__node_Valid_c1_l0 N N a0 a1 a2 (List.length a0 : Int) (0 : Int) with
  | some r2 => (match r2 with
  | .inl r3 => (some r3.1)
  | .inr r4 => (some (-1 : Int)))
  | none => none
def slices_ContainsFunc_s_api_Pair_api_Pair__node_Valid_c1 (N : Nat) (a0 : (List V_api_Pair)) (a1 : (List UInt8)) (a2 : (List UInt8)) : Option (Bool) :=
  match slices_IndexFunc_s_api_Pair_api_Pair__node_Valid_c1 N a0 a1 a2 with
  | some r1 => (some (decide ((0 : Int) ≤ r1)))
  | none => none
def node_validSum_l0_step (N : Nat) (rec : Int → Int → (List V_api_Range) → Option ((Bool × Unit) ⊕ (Unit × Unit))) (b0 : Int) (b1 : Int) (b2 : (List V_api_Range)) : Option ((Bool × Unit) ⊕ (Unit × Unit)) :=
  bif (decide (b1 < b0)) then
  (gd (inB b1 (List.length b2))
  (let x2 := (decide (((rdL b2 b1 D_api_Range).1) < (0 : Int)))
  bif x2 then
  (some (.inl (false, ())))
  else
  (let x3 := (decide ((rdL b2 b1 D_api_Range).2 < (rdL b2 b1 D_api_Range).1))
  bif x3 then
  (some (.inl (false, ())))
  else
  (let x4 := (decide ((1000000000000000 : Int) < (rdL b2 b1 D_api_Range).2))
  bif x4 then
  (some (.inl (false, ())))
  else
  (rec b0 (IntKind.wrap .i64 (b1 + (1 : Int))) b2)))))
  else
  (some (.inr ((), ())))
def node_validSum_l0 (N n : Nat) (b0 : Int) (b1 : Int) (b2 : (List V_api_Range)) : Option ((Bool × Unit) ⊕ (Unit × Unit)) :=
  iter (fun (rec : ((Unit × (Int × Int)) × ((List V_api_Range) × Unit)) → Option ((Bool × Unit) ⊕ (Unit × Unit))) v => node_validSum_l0_step N (fun b0 b1 b2 => rec (((), (b0, b1)), (b2, ()))) v.1.2.1 v.1.2.2 v.2.1) n (((), (b0, b1)), (b2, ()))
theorem node_validSum_l0_succ (N n : Nat) (b0 : Int) (b1 : Int) (b2 : (List V_api_Range)) : node_validSum_l0 N (n + 1) b0 b1 b2 = node_validSum_l0_step N (fun b0  b1  b2  => node_validSum_l0 N n b0 b1 b2) b0 b1 b2 := rfl
def node_validSum (N : Nat) (a0 : V_api_Sum) : Option (Bool) :=
  let x1 := (List.length ([a0.1, a0.2] : List V_api_Range) : Int)
  match node_validSum_l0 N N x1 (0 : Int) ([a0.1, a0.2] : List V_api_Range) with
  | some r5 => (match r5 with
  | .inl r6 => (some r6.1)
  | .inr r7 => (some true))
  | none => none
def msg_of (N : Nat) (a0 : V_api_Msg) : Option (V_api_Msg ⊕ V_api_Msg ⊕ V_api_Msg ⊕ V_api_Msg ⊕ V_api_Msg ⊕ V_api_Msg ⊕ Unit) :=
  bif (eqi a0.1 (1 : Int)) then
  (some (.inl a0))
  else
  (bif (eqi a0.1 (2 : Int)) then
  (some (.inr (.inl a0)))
  else
  (bif (eqi a0.1 (3 : Int)) then
  (some (.inr (.inr (.inl a0))))
  else
  (bif (eqi a0.1 (4 : Int)) then
  (some (.inr (.inr (.inr (.inl a0)))))
  else
  (bif (eqi a0.1 (5 : Int)) then
  (some (.inr (.inr (.inr (.inr (.inl a0))))))
  else
  (bif (eqi a0.1 (6 : Int)) then
  (some (.inr (.inr (.inr (.inr (.inr (.inl a0)))))))
  else
  (some (.inr (.inr (.inr (.inr (.inr (.inr ()))))))))))))
def msg_in (N : Nat) (a0 : Int) (a1 : Int) (a2 : Int) : Option (Bool) :=
  bif (decide (a1 ≤ a0)) then
  (some (decide (a0 ≤ a2)))
  else
  (some false)
def msg_put_valid (N : Nat) (a0 : V_api_Msg) : Option (Bool) :=
  match msg_in N (List.length a0.2.1 : Int) (1 : Int) (65535 : Int) with
  | some r1 => (bif r1 then
  (let x2 := (decide ((List.length a0.2.2.1 : Int) ≤ (64 : Int)))
  bif x2 then
  (match msg_in N a0.2.2.2.2.2.2 (0 : Int) (1000000000 : Int) with
  | some r3 => (some r3)
  | none => none)
  else
  (some false))
  else
  (some false))
  | none => none
def msg_put_bare (N : Nat) (a0 : V_api_Msg) : Option (V_api_Msg) :=
  some (a0.1, (a0.2.1, (a0.2.2.1, ((([] : List UInt8), ([] : List UInt8)), (([] : List UInt8), (([] : List UInt8), a0.2.2.2.2.2.2))))))
def msg_del_valid (N : Nat) (a0 : V_api_Msg) : Option (Bool) :=
  match msg_in N (List.length a0.2.1 : Int) (1 : Int) (65535 : Int) with
  | some r1 => (some r1)
  | none => none
def msg_del_bare (N : Nat) (a0 : V_api_Msg) : Option (V_api_Msg) :=
  some (a0.1, (a0.2.1, (([] : List UInt8), ((([] : List UInt8), ([] : List UInt8)), (([] : List UInt8), (([] : List UInt8), (0 : Int)))))))
def span_Empty (N : Nat) (a0 : V_api_Span) : Option (Bool) :=
  bif (!(eqs a0.2 ([] : List UInt8))) then
  (some (lts a0.2 a0.1 || eqs a0.2 a0.1))
  else
  (some false)
def msg_ends (N : Nat) (a0 : V_api_Span) : Option (Bool) :=
  match span_Empty N a0 with
  | some r1 => (bif (!r1) then
  (let x2 := (bif decide ((List.length a0.1 : Int) < (List.length a0.2 : Int)) then (List.length a0.2 : Int) else (List.length a0.1 : Int))
  some (decide (x2 ≤ (65535 : Int))))
  else
  (some false))
  | none => none
def msg_drop_valid (N : Nat) (a0 : V_api_Msg) : Option (Bool) :=
  match msg_ends N a0.2.2.2.1 with
  | some r1 => (some r1)
  | none => none
def msg_drop_bare (N : Nat) (a0 : V_api_Msg) : Option (V_api_Msg) :=
  some (a0.1, (([] : List UInt8), (([] : List UInt8), (a0.2.2.2.1, (([] : List UInt8), (([] : List UInt8), (0 : Int)))))))
def stringslite_HasPrefix (N : Nat) (a0 : (List UInt8)) (a1 : (List UInt8)) : Option (Bool) :=
  let x1 := (decide ((List.length a1 : Int) ≤ (List.length a0 : Int)))
  bif x1 then
  (gd (decide (0 ≤ (0 : Int)) && (decide ((0 : Int) ≤ (List.length a1 : Int)) && decide ((List.length a1 : Int) ≤ (List.length a0 : Int))))
  (let x2 := (eqs (cut2 a0 (0 : Int) (List.length a1 : Int)) a1)
  some x2))
  else
  (some false)
def strings_HasPrefix (N : Nat) (a0 : (List UInt8)) (a1 : (List UInt8)) : Option (Bool) :=
  match stringslite_HasPrefix N a0 a1 with
  | some r1 => (some r1)
  | none => none
def msg_apart (N : Nat) (a0 : (List UInt8)) (a1 : (List UInt8)) : Option (Bool) :=
  match msg_in N (List.length a0 : Int) (1 : Int) (200 : Int) with
  | some r1 => (bif r1 then
  (match msg_in N (List.length a1 : Int) (1 : Int) (200 : Int) with
  | some r2 => (bif r2 then
  (match strings_HasPrefix N a0 a1 with
  | some r3 => (bif (!r3) then
  (match strings_HasPrefix N a1 a0 with
  | some r4 => (some (!r4))
  | none => none)
  else
  (some false))
  | none => none)
  else
  (some false))
  | none => none)
  else
  (some false))
  | none => none
def msg_move_valid (N : Nat) (a0 : V_api_Msg) : Option (Bool) :=
  match msg_apart N a0.2.2.2.2.1 a0.2.2.2.2.2.1 with
  | some r1 => (some r1)
  | none => none
def msg_move_bare (N : Nat) (a0 : V_api_Msg) : Option (V_api_Msg) :=
  some (a0.1, (([] : List UInt8), (([] : List UInt8), ((([] : List UInt8), ([] : List UInt8)), (a0.2.2.2.2.1, (a0.2.2.2.2.2.1, (0 : Int)))))))
def msg_clone_valid (N : Nat) (a0 : V_api_Msg) : Option (Bool) :=
  match msg_apart N a0.2.2.2.2.1 a0.2.2.2.2.2.1 with
  | some r1 => (some r1)
  | none => none
def msg_clone_bare (N : Nat) (a0 : V_api_Msg) : Option (V_api_Msg) :=
  some (a0.1, (([] : List UInt8), (([] : List UInt8), ((([] : List UInt8), ([] : List UInt8)), (a0.2.2.2.2.1, (a0.2.2.2.2.2.1, (0 : Int)))))))
def msg_stamp_valid (N : Nat) (a0 : V_api_Msg) : Option (Bool) :=
  match msg_ends N a0.2.2.2.1 with
  | some r1 => (bif r1 then
  (match msg_in N a0.2.2.2.2.2.2 (0 : Int) (1000000000 : Int) with
  | some r2 => (some r2)
  | none => none)
  else
  (some false))
  | none => none
def msg_stamp_bare (N : Nat) (a0 : V_api_Msg) : Option (V_api_Msg) :=
  some (a0.1, (([] : List UInt8), (([] : List UInt8), (a0.2.2.2.1, (([] : List UInt8), (([] : List UInt8), a0.2.2.2.2.2.2))))))
def msg_Valid (N : Nat) (a0 : V_api_Msg) : Option (Bool) :=
  match msg_of N a0 with
  | some r1 => (match r1 with
  | .inl r2 => (match msg_put_valid N r2 with
  | some r4 => (bif r4 then
  (match msg_put_bare N r2 with
  | some r5 => (let x6 := (eqi r5.1 a0.1 && (eqs r5.2.1 a0.2.1 && (eqs r5.2.2.1 a0.2.2.1 && (eqs r5.2.2.2.1.1 a0.2.2.2.1.1 && (eqs r5.2.2.2.1.2 a0.2.2.2.1.2 && (eqs r5.2.2.2.2.1 a0.2.2.2.2.1 && (eqs r5.2.2.2.2.2.1 a0.2.2.2.2.2.1 && (eqi r5.2.2.2.2.2.2 a0.2.2.2.2.2.2 && true))))))))
  some x6)
  | none => none)
  else
  (some false))
  | none => none)
  | .inr r3 => (match r3 with
  | .inl r7 => (match msg_del_valid N r7 with
  | some r9 => (bif r9 then
  (match msg_del_bare N r7 with
  | some r10 => (let x11 := (eqi r10.1 a0.1 && (eqs r10.2.1 a0.2.1 && (eqs r10.2.2.1 a0.2.2.1 && (eqs r10.2.2.2.1.1 a0.2.2.2.1.1 && (eqs r10.2.2.2.1.2 a0.2.2.2.1.2 && (eqs r10.2.2.2.2.1 a0.2.2.2.2.1 && (eqs r10.2.2.2.2.2.1 a0.2.2.2.2.2.1 && (eqi r10.2.2.2.2.2.2 a0.2.2.2.2.2.2 && true))))))))
  some x11)
  | none => none)
  else
  (some false))
  | none => none)
  | .inr r8 => (match r8 with
  | .inl r12 => (match msg_drop_valid N r12 with
  | some r14 => (bif r14 then
  (match msg_drop_bare N r12 with
  | some r15 => (let x16 := (eqi r15.1 a0.1 && (eqs r15.2.1 a0.2.1 && (eqs r15.2.2.1 a0.2.2.1 && (eqs r15.2.2.2.1.1 a0.2.2.2.1.1 && (eqs r15.2.2.2.1.2 a0.2.2.2.1.2 && (eqs r15.2.2.2.2.1 a0.2.2.2.2.1 && (eqs r15.2.2.2.2.2.1 a0.2.2.2.2.2.1 && (eqi r15.2.2.2.2.2.2 a0.2.2.2.2.2.2 && true))))))))
  some x16)
  | none => none)
  else
  (some false))
  | none => none)
  | .inr r13 => (match r13 with
  | .inl r17 => (match msg_move_valid N r17 with
  | some r19 => (bif r19 then
  (match msg_move_bare N r17 with
  | some r20 => (let x21 := (eqi r20.1 a0.1 && (eqs r20.2.1 a0.2.1 && (eqs r20.2.2.1 a0.2.2.1 && (eqs r20.2.2.2.1.1 a0.2.2.2.1.1 && (eqs r20.2.2.2.1.2 a0.2.2.2.1.2 && (eqs r20.2.2.2.2.1 a0.2.2.2.2.1 && (eqs r20.2.2.2.2.2.1 a0.2.2.2.2.2.1 && (eqi r20.2.2.2.2.2.2 a0.2.2.2.2.2.2 && true))))))))
  some x21)
  | none => none)
  else
  (some false))
  | none => none)
  | .inr r18 => (match r18 with
  | .inl r22 => (match msg_clone_valid N r22 with
  | some r24 => (bif r24 then
  (match msg_clone_bare N r22 with
  | some r25 => (let x26 := (eqi r25.1 a0.1 && (eqs r25.2.1 a0.2.1 && (eqs r25.2.2.1 a0.2.2.1 && (eqs r25.2.2.2.1.1 a0.2.2.2.1.1 && (eqs r25.2.2.2.1.2 a0.2.2.2.1.2 && (eqs r25.2.2.2.2.1 a0.2.2.2.2.1 && (eqs r25.2.2.2.2.2.1 a0.2.2.2.2.2.1 && (eqi r25.2.2.2.2.2.2 a0.2.2.2.2.2.2 && true))))))))
  some x26)
  | none => none)
  else
  (some false))
  | none => none)
  | .inr r23 => (match r23 with
  | .inl r27 => (match msg_stamp_valid N r27 with
  | some r29 => (bif r29 then
  (match msg_stamp_bare N r27 with
  | some r30 => (let x31 := (eqi r30.1 a0.1 && (eqs r30.2.1 a0.2.1 && (eqs r30.2.2.1 a0.2.2.1 && (eqs r30.2.2.2.1.1 a0.2.2.2.1.1 && (eqs r30.2.2.2.1.2 a0.2.2.2.1.2 && (eqs r30.2.2.2.2.1 a0.2.2.2.2.1 && (eqs r30.2.2.2.2.2.1 a0.2.2.2.2.2.1 && (eqi r30.2.2.2.2.2.2 a0.2.2.2.2.2.2 && true))))))))
  some x31)
  | none => none)
  else
  (some false))
  | none => none)
  | .inr r28 => (some false)))))))
  | none => none
def msg_put_reads (N : Nat) (a0 : V_api_Msg) : Option ((List V_api_Span)) :=
  some ([] : List V_api_Span)
def msg_del_reads (N : Nat) (a0 : V_api_Msg) : Option ((List V_api_Span)) :=
  some ([] : List V_api_Span)
def msg_drop_reads (N : Nat) (a0 : V_api_Msg) : Option ((List V_api_Span)) :=
  some ([] : List V_api_Span)
def span_Prefix_l0_step (N : Nat) (rec : (List UInt8) → (List UInt8) → (List UInt8) → (List Int) → Option ((((List UInt8) × (Unit × Unit)) × (((List UInt8) × (List UInt8)) × ((List Int) × Unit))))) (b0 : (List UInt8)) (b1 : (List UInt8)) (b2 : (List UInt8)) (b3 : (List Int)) : Option ((((List UInt8) × (Unit × Unit)) × (((List UInt8) × (List UInt8)) × ((List Int) × Unit)))) :=
  let x1 := (decide ((0 : Int) < (List.length b3 : Int)))
  bif x1 then
  (let x2 := (IntKind.wrap .i64 ((List.length b3 : Int) - (1 : Int)))
  gd (inB x2 (List.length b3))
  (bif (eqi (rdL b3 x2 (0 : Int)) (255 : Int)) then
  (let x3 := (IntKind.wrap .i64 ((List.length b3 : Int) - (1 : Int)))
  gd (decide (0 ≤ x3) && decide (x3 ≤ (List.length b3 : Int)))
  (rec b0 b1 b2 (List.take (Int.toNat x3) b3)))
  else
  (some ((b0, ((), ())), ((b1, b2), (b3, ()))))))
  else
  (some ((b0, ((), ())), ((b1, b2), (b3, ()))))
def span_Prefix_l0 (N n : Nat) (b0 : (List UInt8)) (b1 : (List UInt8)) (b2 : (List UInt8)) (b3 : (List Int)) : Option ((((List UInt8) × (Unit × Unit)) × (((List UInt8) × (List UInt8)) × ((List Int) × Unit)))) :=
  iter (fun (rec : (((List UInt8) × (Unit × Unit)) × (((List UInt8) × (List UInt8)) × ((List Int) × Unit))) → Option ((((List UInt8) × (Unit × Unit)) × (((List UInt8) × (List UInt8)) × ((List Int) × Unit))))) v => span_Prefix_l0_step N (fun b0 b1 b2 b3 => rec ((b0, ((), ())), ((b1, b2), (b3, ())))) v.1.1 v.2.1.1 v.2.1.2 v.2.2.1) n ((b0, ((), ())), ((b1, b2), (b3, ())))
theorem span_Prefix_l0_succ (N n : Nat) (b0 : (List UInt8)) (b1 : (List UInt8)) (b2 : (List UInt8)) (b3 : (List Int)) : span_Prefix_l0 N (n + 1) b0 b1 b2 b3 = span_Prefix_l0_step N (fun b0  b1  b2  b3  => span_Prefix_l0 N n b0 b1 b2 b3) b0 b1 b2 b3 := rfl
def span_Prefix (N : Nat) (a0 : (List UInt8)) : Option (V_api_Span) :=
  gd (decide (List.length a0 < maxB))
  (match span_Prefix_l0 N N a0 ([] : List UInt8) ([] : List UInt8) (bytesI a0) with
  | some r4 => (let x5 := (decide ((0 : Int) < (List.length r4.2.2.1 : Int)))
  bif x5 then
  (let x6 := (IntKind.wrap .i64 ((List.length r4.2.2.1 : Int) - (1 : Int)))
  gd (inB x6 (List.length r4.2.2.1))
  (let x7 := (IntKind.wrap .u8 ((rdL r4.2.2.1 x6 (0 : Int)) + (1 : Int)))
  gd (inB x6 (List.length r4.2.2.1))
  (some (r4.1.1, (bytesU (setL r4.2.2.1 x6 x7))))))
  else
  (some (r4.1.1, (bytesU r4.2.2.1))))
  | none => none)
def msg_move_reads (N : Nat) (a0 : V_api_Msg) : Option ((List V_api_Span)) :=
  match span_Prefix N a0.2.2.2.2.1 with
  | some r1 => (some ([r1] : List V_api_Span))
  | none => none
def msg_clone_reads (N : Nat) (a0 : V_api_Msg) : Option ((List V_api_Span)) :=
  match span_Prefix N a0.2.2.2.2.1 with
  | some r1 => (some ([r1] : List V_api_Span))
  | none => none
def msg_stamp_reads (N : Nat) (a0 : V_api_Msg) : Option ((List V_api_Span)) :=
  some ([a0.2.2.2.1] : List V_api_Span)
def msg_Reads (N : Nat) (a0 : V_api_Msg) : Option ((List V_api_Span)) :=
  match msg_of N a0 with
  | some r1 => (match r1 with
  | .inl r2 => (match msg_put_reads N r2 with
  | some r4 => (some r4)
  | none => none)
  | .inr r3 => (match r3 with
  | .inl r5 => (match msg_del_reads N r5 with
  | some r7 => (some r7)
  | none => none)
  | .inr r6 => (match r6 with
  | .inl r8 => (match msg_drop_reads N r8 with
  | some r10 => (some r10)
  | none => none)
  | .inr r9 => (match r9 with
  | .inl r11 => (match msg_move_reads N r11 with
  | some r13 => (some r13)
  | none => none)
  | .inr r12 => (match r12 with
  | .inl r14 => (match msg_clone_reads N r14 with
  | some r16 => (some r16)
  | none => none)
  | .inr r15 => (match r15 with
  | .inl r17 => (match msg_stamp_reads N r17 with
  | some r19 => (some r19)
  | none => none)
  | .inr r18 => (some ([] : List V_api_Span))))))))
  | none => none
def cmp_isNaN_span_end (N : Nat) (a0 : (List UInt8)) : Option (Bool) :=
  some (!(eqs a0 a0))
def cmp_Compare_span_end (N : Nat) (a0 : (List UInt8)) (a1 : (List UInt8)) : Option (Int) :=
  match cmp_isNaN_span_end N a0 with
  | some r1 => (match cmp_isNaN_span_end N a1 with
  | some r2 => (bif r1 then
  (bif r2 then
  (some (0 : Int))
  else
  (some (-1 : Int)))
  else
  (bif r2 then
  (some (1 : Int))
  else
  (bif (lts a0 a1) then
  (some (-1 : Int))
  else
  (bif (!(lts a0 a1 || eqs a0 a1)) then
  (some (1 : Int))
  else
  (some (0 : Int))))))
  | none => none)
  | none => none
def span_end_compare (N : Nat) (a0 : (List UInt8)) (a1 : (List UInt8)) : Option (Int) :=
  bif (eqs a0 a1) then
  (some (0 : Int))
  else
  (bif (eqs a0 ([] : List UInt8)) then
  (some (1 : Int))
  else
  (bif (eqs a1 ([] : List UInt8)) then
  (some (-1 : Int))
  else
  (match cmp_Compare_span_end N a0 a1 with
  | some r1 => (some r1)
  | none => none)))
def span_Covers (N : Nat) (a0 : V_api_Span) (a1 : V_api_Span) : Option (Bool) :=
  match span_Empty N a1 with
  | some r1 => (bif r1 then
  (some true)
  else
  (match span_Has N a0 a1.1 with
  | some r2 => (bif r2 then
  (match span_end_compare N a0.2 a1.2 with
  | some r3 => (some (decide ((0 : Int) ≤ r3)))
  | none => none)
  else
  (some false))
  | none => none))
  | none => none
def node_Valid_c2 (N : Nat) (a0 : V_api_Span) (a1 : (List UInt8)) (a2 : (List UInt8)) : Option (Bool) :=
  match span_Covers N (a1, a2) a0 with
  | some r1 => (some (!r1))
  | none => none
def slices_IndexFunc_s_api_Span_api_Span__node_Valid_c2_l0_step (N : Nat) (rec : (List V_api_Span) → (List UInt8) → (List UInt8) → Int → Int → Option ((Int × Unit) ⊕ (Unit × Unit))) (b0 : (List V_api_Span)) (b1 : (List UInt8)) (b2 : (List UInt8)) (b3 : Int) (b4 : Int) : Option ((Int × Unit) ⊕ (Unit × Unit)) :=
  bif (decide (b4 < b3)) then
  (gd (inB b4 (List.length b0))
  (match node_Valid_c2 N (rdL b0 b4 D_api_Span) b1 b2 with
  | some r1 => (bif r1 then
  (some (.inl (b4, ())))
  else
  (rec b0 b1 b2 b3 (IntKind.wrap .i64 (b4 + (1 : Int)))))
  | none => none))
  else
  (some (.inr ((), ())))
def slices_IndexFunc_s_api_Span_api_Span__node_Valid_c2_l0 (N n : Nat) (b0 : (List V_api_Span)) (b1 : (List UInt8)) (b2 : (List UInt8)) (b3 : Int) (b4 : Int) : Option ((Int × Unit) ⊕ (Unit × Unit)) :=
  iter (fun (rec : (((List V_api_Span) × (((List UInt8) × (List UInt8)) × (Int × Int))) × Unit) → Option ((Int × Unit) ⊕ (Unit × Unit))) v => slices_IndexFunc_s_api_Span_api_Span__node_Valid_c2_l0_step N (fun b0 b1 b2 b3 b4 => rec ((b0, ((b1, b2), (b3, b4))), ())) v.1.1 v.1.2.1.1 v.1.2.1.2 v.1.2.2.1 v.1.2.2.2) n ((b0, ((b1, b2), (b3, b4))), ())
theorem slices_IndexFunc_s_api_Span_api_Span__node_Valid_c2_l0_succ (N n : Nat) (b0 : (List V_api_Span)) (b1 : (List UInt8)) (b2 : (List UInt8)) (b3 : Int) (b4 : Int) : slices_IndexFunc_s_api_Span_api_Span__node_Valid_c2_l0 N (n + 1) b0 b1 b2 b3 b4 = slices_IndexFunc_s_api_Span_api_Span__node_Valid_c2_l0_step N (fun b0  b1  b2  b3  b4  => slices_IndexFunc_s_api_Span_api_Span__node_Valid_c2_l0 N n b0 b1 b2 b3 b4) b0 b1 b2 b3 b4 := rfl
def slices_IndexFunc_s_api_Span_api_Span__node_Valid_c2 (N : Nat) (a0 : (List V_api_Span)) (a1 : (List UInt8)) (a2 : (List UInt8)) : Option (Int) :=
  match slices_IndexFunc_s_api_Span_api_Span__node_Valid_c2_l0 N N a0 a1 a2 (List.length a0 : Int) (0 : Int) with
  | some r2 => (match r2 with
  | .inl r3 => (some r3.1)
  | .inr r4 => (some (-1 : Int)))
  | none => none
def slices_ContainsFunc_s_api_Span_api_Span__node_Valid_c2 (N : Nat) (a0 : (List V_api_Span)) (a1 : (List UInt8)) (a2 : (List UInt8)) : Option (Bool) :=
  match slices_IndexFunc_s_api_Span_api_Span__node_Valid_c2 N a0 a1 a2 with
  | some r1 => (some (decide ((0 : Int) ≤ r1)))
  | none => none
def span_One (N : Nat) (a0 : (List UInt8)) : Option (V_api_Span) :=
  gd (decide (List.length a0 + List.length ([0] : List UInt8) < maxS))
  (let x1 := (@HAppend.hAppend (List UInt8) (List UInt8) (List UInt8) _ a0 ([0] : List UInt8))
  some (a0, x1))
def msg_put_writes (N : Nat) (a0 : V_api_Msg) : Option ((List V_api_Span)) :=
  match span_One N a0.2.1 with
  | some r1 => (some ([r1] : List V_api_Span))
  | none => none
def msg_del_writes (N : Nat) (a0 : V_api_Msg) : Option ((List V_api_Span)) :=
  match span_One N a0.2.1 with
  | some r1 => (some ([r1] : List V_api_Span))
  | none => none
def msg_drop_writes (N : Nat) (a0 : V_api_Msg) : Option ((List V_api_Span)) :=
  some ([a0.2.2.2.1] : List V_api_Span)
def msg_move_writes (N : Nat) (a0 : V_api_Msg) : Option ((List V_api_Span)) :=
  match span_Prefix N a0.2.2.2.2.1 with
  | some r1 => (match span_Prefix N a0.2.2.2.2.2.1 with
  | some r2 => (some ([r1, r2] : List V_api_Span))
  | none => none)
  | none => none
def msg_clone_writes (N : Nat) (a0 : V_api_Msg) : Option ((List V_api_Span)) :=
  match span_Prefix N a0.2.2.2.2.2.1 with
  | some r1 => (some ([r1] : List V_api_Span))
  | none => none
def msg_stamp_writes (N : Nat) (a0 : V_api_Msg) : Option ((List V_api_Span)) :=
  some ([a0.2.2.2.1] : List V_api_Span)
def msg_Writes (N : Nat) (a0 : V_api_Msg) : Option ((List V_api_Span)) :=
  match msg_of N a0 with
  | some r1 => (match r1 with
  | .inl r2 => (match msg_put_writes N r2 with
  | some r4 => (some r4)
  | none => none)
  | .inr r3 => (match r3 with
  | .inl r5 => (match msg_del_writes N r5 with
  | some r7 => (some r7)
  | none => none)
  | .inr r6 => (match r6 with
  | .inl r8 => (match msg_drop_writes N r8 with
  | some r10 => (some r10)
  | none => none)
  | .inr r9 => (match r9 with
  | .inl r11 => (match msg_move_writes N r11 with
  | some r13 => (some r13)
  | none => none)
  | .inr r12 => (match r12 with
  | .inl r14 => (match msg_clone_writes N r14 with
  | some r16 => (some r16)
  | none => none)
  | .inr r15 => (match r15 with
  | .inl r17 => (match msg_stamp_writes N r17 with
  | some r19 => (some r19)
  | none => none)
  | .inr r18 => (some ([] : List V_api_Span))))))))
  | none => none
def node_Valid_c3__node_Valid_c2 (N : Nat) (a0 : V_api_Msg) (a1 : (List UInt8)) (a2 : (List UInt8)) : Option (Bool) :=
  match msg_Valid N a0 with
  | some r1 => (bif (!r1) then
  (some true)
  else
  (match msg_Reads N a0 with
  | some r2 => (match slices_ContainsFunc_s_api_Span_api_Span__node_Valid_c2 N r2 a1 a2 with
  | some r3 => (bif r3 then
  (some true)
  else
  (match msg_Writes N a0 with
  | some r4 => (match slices_ContainsFunc_s_api_Span_api_Span__node_Valid_c2 N r4 a1 a2 with
  | some r5 => (some r5)
  | none => none)
  | none => none))
  | none => none)
  | none => none))
  | none => none
def slices_IndexFunc_s_api_Msg_api_Msg__node_Valid_c3__node_Valid_c2_l0_step (N : Nat) (rec : (List V_api_Msg) → (List UInt8) → (List UInt8) → Int → Int → Option ((Int × Unit) ⊕ (Unit × Unit))) (b0 : (List V_api_Msg)) (b1 : (List UInt8)) (b2 : (List UInt8)) (b3 : Int) (b4 : Int) : Option ((Int × Unit) ⊕ (Unit × Unit)) :=
  bif (decide (b4 < b3)) then
  (gd (inB b4 (List.length b0))
  (match node_Valid_c3__node_Valid_c2 N (rdL b0 b4 D_api_Msg) b1 b2 with
  | some r1 => (bif r1 then
  (some (.inl (b4, ())))
  else
  (rec b0 b1 b2 b3 (IntKind.wrap .i64 (b4 + (1 : Int)))))
  | none => none))
  else
  (some (.inr ((), ())))
def slices_IndexFunc_s_api_Msg_api_Msg__node_Valid_c3__node_Valid_c2_l0 (N n : Nat) (b0 : (List V_api_Msg)) (b1 : (List UInt8)) (b2 : (List UInt8)) (b3 : Int) (b4 : Int) : Option ((Int × Unit) ⊕ (Unit × Unit)) :=
  iter (fun (rec : (((List V_api_Msg) × (((List UInt8) × (List UInt8)) × (Int × Int))) × Unit) → Option ((Int × Unit) ⊕ (Unit × Unit))) v => slices_IndexFunc_s_api_Msg_api_Msg__node_Valid_c3__node_Valid_c2_l0_step N (fun b0 b1 b2 b3 b4 => rec ((b0, ((b1, b2), (b3, b4))), ())) v.1.1 v.1.2.1.1 v.1.2.1.2 v.1.2.2.1 v.1.2.2.2) n ((b0, ((b1, b2), (b3, b4))), ())
theorem slices_IndexFunc_s_api_Msg_api_Msg__node_Valid_c3__node_Valid_c2_l0_succ (N n : Nat) (b0 : (List V_api_Msg)) (b1 : (List UInt8)) (b2 : (List UInt8)) (b3 : Int) (b4 : Int) : slices_IndexFunc_s_api_Msg_api_Msg__node_Valid_c3__node_Valid_c2_l0 N (n + 1) b0 b1 b2 b3 b4 = slices_IndexFunc_s_api_Msg_api_Msg__node_Valid_c3__node_Valid_c2_l0_step N (fun b0  b1  b2  b3  b4  => slices_IndexFunc_s_api_Msg_api_Msg__node_Valid_c3__node_Valid_c2_l0 N n b0 b1 b2 b3 b4) b0 b1 b2 b3 b4 := rfl
def slices_IndexFunc_s_api_Msg_api_Msg__node_Valid_c3__node_Valid_c2 (N : Nat) (a0 : (List V_api_Msg)) (a1 : (List UInt8)) (a2 : (List UInt8)) : Option (Int) :=
  match slices_IndexFunc_s_api_Msg_api_Msg__node_Valid_c3__node_Valid_c2_l0 N N a0 a1 a2 (List.length a0 : Int) (0 : Int) with
  | some r2 => (match r2 with
  | .inl r3 => (some r3.1)
  | .inr r4 => (some (-1 : Int)))
  | none => none
def slices_ContainsFunc_s_api_Msg_api_Msg__node_Valid_c3__node_Valid_c2 (N : Nat) (a0 : (List V_api_Msg)) (a1 : (List UInt8)) (a2 : (List UInt8)) : Option (Bool) :=
  match slices_IndexFunc_s_api_Msg_api_Msg__node_Valid_c3__node_Valid_c2 N a0 a1 a2 with
  | some r1 => (some (decide ((0 : Int) ≤ r1)))
  | none => none
def node_Valid_l2_step (N : Nat) (rec : (List Int) → Int → Int → (List V_api_Pair) → (List (List UInt8)) → (List Int) → (List V_api_Sum) → (List V_api_Msg) → (List UInt8) → (List UInt8) → Option ((Bool × Unit) ⊕ ((Unit × Unit) × (((List V_api_Pair) × ((List (List UInt8)) × ((List Int) × ((List V_api_Sum) × (List V_api_Msg))))) × (((List UInt8) × (List UInt8)) × Unit))))) (b0 : (List Int)) (b1 : Int) (b2 : Int) (b3 : (List V_api_Pair)) (b4 : (List (List UInt8))) (b5 : (List Int)) (b6 : (List V_api_Sum)) (b7 : (List V_api_Msg)) (b8 : (List UInt8)) (b9 : (List UInt8)) : Option ((Bool × Unit) ⊕ ((Unit × Unit) × (((List V_api_Pair) × ((List (List UInt8)) × ((List Int) × ((List V_api_Sum) × (List V_api_Msg))))) × (((List UInt8) × (List UInt8)) × Unit)))) :=
  bif (decide (b2 < b1)) then
  (gd (inB b2 (List.length b0))
  (bif (decide ((rdL b0 b2 (0 : Int)) < (0 : Int))) then
  (some (.inl (false, ())))
  else
  (let x12 := (decide ((4096 : Int) ≤ (rdL b0 b2 (0 : Int))))
  bif x12 then
  (some (.inl (false, ())))
  else
  (gd (inB b2 (List.length b6))
  (match node_validSum N (rdL b6 b2 D_api_Sum) with
  | some r13 => (bif (!r13) then
  (some (.inl (false, ())))
  else
  (rec b0 b1 (IntKind.wrap .i64 (b2 + (1 : Int))) b3 b4 b5 b6 b7 b8 b9))
  | none => none)))))
  else
  (some (.inr (((), ()), ((b3, (b4, (b5, (b6, b7)))), ((b8, b9), ())))))
def node_Valid_l2 (N n : Nat) (b0 : (List Int)) (b1 : Int) (b2 : Int) (b3 : (List V_api_Pair)) (b4 : (List (List UInt8))) (b5 : (List Int)) (b6 : (List V_api_Sum)) (b7 : (List V_api_Msg)) (b8 : (List UInt8)) (b9 : (List UInt8)) : Option ((Bool × Unit) ⊕ ((Unit × Unit) × (((List V_api_Pair) × ((List (List UInt8)) × ((List Int) × ((List V_api_Sum) × (List V_api_Msg))))) × (((List UInt8) × (List UInt8)) × Unit)))) :=
  iter (fun (rec : ((Unit × (Unit × ((List Int) × (Int × Int)))) × (((List V_api_Pair) × ((List (List UInt8)) × ((List Int) × ((List V_api_Sum) × (List V_api_Msg))))) × (((List UInt8) × (List UInt8)) × Unit))) → Option ((Bool × Unit) ⊕ ((Unit × Unit) × (((List V_api_Pair) × ((List (List UInt8)) × ((List Int) × ((List V_api_Sum) × (List V_api_Msg))))) × (((List UInt8) × (List UInt8)) × Unit))))) v => node_Valid_l2_step N (fun b0 b1 b2 b3 b4 b5 b6 b7 b8 b9 => rec (((), ((), (b0, (b1, b2)))), ((b3, (b4, (b5, (b6, b7)))), ((b8, b9), ())))) v.1.2.2.1 v.1.2.2.2.1 v.1.2.2.2.2 v.2.1.1 v.2.1.2.1 v.2.1.2.2.1 v.2.1.2.2.2.1 v.2.1.2.2.2.2 v.2.2.1.1 v.2.2.1.2) n (((), ((), (b0, (b1, b2)))), ((b3, (b4, (b5, (b6, b7)))), ((b8, b9), ())))
theorem node_Valid_l2_succ (N n : Nat) (b0 : (List Int)) (b1 : Int) (b2 : Int) (b3 : (List V_api_Pair)) (b4 : (List (List UInt8))) (b5 : (List Int)) (b6 : (List V_api_Sum)) (b7 : (List V_api_Msg)) (b8 : (List UInt8)) (b9 : (List UInt8)) : node_Valid_l2 N (n + 1) b0 b1 b2 b3 b4 b5 b6 b7 b8 b9 = node_Valid_l2_step N (fun b0  b1  b2  b3  b4  b5  b6  b7  b8  b9  => node_Valid_l2 N n b0 b1 b2 b3 b4 b5 b6 b7 b8 b9) b0 b1 b2 b3 b4 b5 b6 b7 b8 b9 := rfl
def node_Valid_l1_step (N : Nat) (rec : (List UInt8) → (List (List UInt8)) → Int → Int → (List V_api_Pair) → (List (List UInt8)) → (List Int) → (List V_api_Sum) → (List V_api_Msg) → (List UInt8) → (List UInt8) → Option ((Bool × Unit) ⊕ ((Unit × Unit) × (((List V_api_Pair) × ((List (List UInt8)) × ((List Int) × ((List V_api_Sum) × (List V_api_Msg))))) × (((List UInt8) × (List UInt8)) × Unit))))) (b0 : (List UInt8)) (b1 : (List (List UInt8))) (b2 : Int) (b3 : Int) (b4 : (List V_api_Pair)) (b5 : (List (List UInt8))) (b6 : (List Int)) (b7 : (List V_api_Sum)) (b8 : (List V_api_Msg)) (b9 : (List UInt8)) (b10 : (List UInt8)) : Option ((Bool × Unit) ⊕ ((Unit × Unit) × (((List V_api_Pair) × ((List (List UInt8)) × ((List Int) × ((List V_api_Sum) × (List V_api_Msg))))) × (((List UInt8) × (List UInt8)) × Unit)))) :=
  bif (decide (b3 < b2)) then
  (gd (inB b3 (List.length b1))
  (let x8 := (lts (rdL b1 b3 ([] : List UInt8)) b0 || eqs (rdL b1 b3 ([] : List UInt8)) b0)
  bif x8 then
  (some (.inl (false, ())))
  else
  (bif (!(eqs b10 ([] : List UInt8))) then
  (bif (!(lts (rdL b1 b3 ([] : List UInt8)) b10)) then
  (some (.inl (false, ())))
  else
  (rec (rdL b1 b3 ([] : List UInt8)) b1 b2 (IntKind.wrap .i64 (b3 + (1 : Int))) b4 b5 b6 b7 b8 b9 b10))
  else
  (rec (rdL b1 b3 ([] : List UInt8)) b1 b2 (IntKind.wrap .i64 (b3 + (1 : Int))) b4 b5 b6 b7 b8 b9 b10))))
  else
  (some (.inr (((), ()), ((b4, (b5, (b6, (b7, b8)))), ((b9, b10), ())))))
def node_Valid_l1 (N n : Nat) (b0 : (List UInt8)) (b1 : (List (List UInt8))) (b2 : Int) (b3 : Int) (b4 : (List V_api_Pair)) (b5 : (List (List UInt8))) (b6 : (List Int)) (b7 : (List V_api_Sum)) (b8 : (List V_api_Msg)) (b9 : (List UInt8)) (b10 : (List UInt8)) : Option ((Bool × Unit) ⊕ ((Unit × Unit) × (((List V_api_Pair) × ((List (List UInt8)) × ((List Int) × ((List V_api_Sum) × (List V_api_Msg))))) × (((List UInt8) × (List UInt8)) × Unit)))) :=
  iter (fun (rec : ((Unit × (Unit × ((List UInt8) × ((List (List UInt8)) × (Int × Int))))) × (((List V_api_Pair) × ((List (List UInt8)) × ((List Int) × ((List V_api_Sum) × (List V_api_Msg))))) × (((List UInt8) × (List UInt8)) × Unit))) → Option ((Bool × Unit) ⊕ ((Unit × Unit) × (((List V_api_Pair) × ((List (List UInt8)) × ((List Int) × ((List V_api_Sum) × (List V_api_Msg))))) × (((List UInt8) × (List UInt8)) × Unit))))) v => node_Valid_l1_step N (fun b0 b1 b2 b3 b4 b5 b6 b7 b8 b9 b10 => rec (((), ((), (b0, (b1, (b2, b3))))), ((b4, (b5, (b6, (b7, b8)))), ((b9, b10), ())))) v.1.2.2.1 v.1.2.2.2.1 v.1.2.2.2.2.1 v.1.2.2.2.2.2 v.2.1.1 v.2.1.2.1 v.2.1.2.2.1 v.2.1.2.2.2.1 v.2.1.2.2.2.2 v.2.2.1.1 v.2.2.1.2) n (((), ((), (b0, (b1, (b2, b3))))), ((b4, (b5, (b6, (b7, b8)))), ((b9, b10), ())))
theorem node_Valid_l1_succ (N n : Nat) (b0 : (List UInt8)) (b1 : (List (List UInt8))) (b2 : Int) (b3 : Int) (b4 : (List V_api_Pair)) (b5 : (List (List UInt8))) (b6 : (List Int)) (b7 : (List V_api_Sum)) (b8 : (List V_api_Msg)) (b9 : (List UInt8)) (b10 : (List UInt8)) : node_Valid_l1 N (n + 1) b0 b1 b2 b3 b4 b5 b6 b7 b8 b9 b10 = node_Valid_l1_step N (fun b0  b1  b2  b3  b4  b5  b6  b7  b8  b9  b10  => node_Valid_l1 N n b0 b1 b2 b3 b4 b5 b6 b7 b8 b9 b10) b0 b1 b2 b3 b4 b5 b6 b7 b8 b9 b10 := rfl
def node_Valid_p0 (N : Nat) (b0 : (List V_api_Pair)) (b1 : (List (List UInt8))) (b2 : (List Int)) (b3 : (List V_api_Sum)) (b4 : (List V_api_Msg)) (b5 : (List UInt8)) (b6 : (List UInt8)) : Option ((Bool × Unit)) :=
  match node_Valid_l1 N N b5 b1 (List.length b1 : Int) (0 : Int) b0 b1 b2 b3 b4 b5 b6 with
  | some r9 => (match r9 with
  | .inl r10 => (some (r10.1, ()))
  | .inr r11 => (match node_Valid_l2 N N r11.2.1.2.2.1 (List.length r11.2.1.2.2.1 : Int) (0 : Int) r11.2.1.1 r11.2.1.2.1 r11.2.1.2.2.1 r11.2.1.2.2.2.1 r11.2.1.2.2.2.2 r11.2.2.1.1 r11.2.2.1.2 with
  | some r14 => (match r14 with
  | .inl r15 => (some (r15.1, ()))
  | .inr r16 => (match slices_ContainsFunc_s_api_Msg_api_Msg__node_Valid_c3__node_Valid_c2 N r16.2.1.2.2.2.2 r16.2.2.1.1 r16.2.2.1.2 with
  | some r17 => (some ((!r17), ()))
  | none => none))
  | none => none))
  | none => none
def node_Valid (N : Nat) (a0 : V_api_Node) (a1 : V_api_Span) : Option (Bool) :=
  bif (eqi (List.length a0.2.2.1 : Int) (0 : Int)) then
  (let x1 := (IntKind.wrap .i64 ((List.length a0.2.1 : Int) + (List.length a0.2.2.2.1 : Int)))
  let x2 := (IntKind.wrap .i64 (x1 + (List.length a0.2.2.2.2 : Int)))
  bif (eqi x2 (0 : Int)) then
  (match table_Valid N a0.1 with
  | some r3 => (bif r3 then
  (match slices_ContainsFunc_s_api_Pair_api_Pair__node_Valid_c1 N a0.1 a1.1 a1.2 with
  | some r4 => (some (!r4))
  | none => none)
  else
  (some false))
  | none => none)
  else
  (some false))
  else
  (let x5 := (decide ((0 : Int) < (List.length a0.1 : Int)))
  bif x5 then
  (some false)
  else
  (let x6 := (!(eqi (List.length a0.2.2.2.1 : Int) (List.length a0.2.2.1 : Int)))
  bif x6 then
  (some false)
  else
  (let x7 := (IntKind.wrap .i64 ((List.length a0.2.2.1 : Int) - (1 : Int)))
  bif (!(eqi (List.length a0.2.1 : Int) x7)) then
  (some false)
  else
  (match node_Valid_p0 N a0.1 a0.2.1 a0.2.2.1 a0.2.2.2.1 a0.2.2.2.2 a1.1 a1.2 with
  | some r18 => (some r18.1)
  | none => none))))
def node_number_m_l0_step (N : Nat) (rec : Int → Int → (List Int) → Option ((Unit × ((List Int) × Unit)))) (b0 : Int) (b1 : Int) (b2 : (List Int)) : Option ((Unit × ((List Int) × Unit))) :=
  bif (decide ((0 : Int) ≤ b1)) then
  (gd (decide (0 ≤ (IntKind.wrap .i64 ((8 : Int) * b1))))
  (let x1 := (Int.fdiv b0 (2 ^ min (Int.toNat (IntKind.wrap .i64 ((8 : Int) * b1))) (IntKind.bits .i64)))
  gd (fits (List.length b2 + 1) 1)
  (let x2 := (@HAppend.hAppend (List Int) (List Int) (List Int) _ b2 ([(IntKind.wrap .u8 (x1))] : List Int))
  rec b0 (IntKind.wrap .i64 (b1 - (1 : Int))) x2)))
  else
  (some ((), (b2, ())))
def node_number_m_l0 (N n : Nat) (b0 : Int) (b1 : Int) (b2 : (List Int)) : Option ((Unit × ((List Int) × Unit))) :=
  iter (fun (rec : ((Unit × (Int × Int)) × ((List Int) × Unit)) → Option ((Unit × ((List Int) × Unit)))) v => node_number_m_l0_step N (fun b0 b1 b2 => rec (((), (b0, b1)), (b2, ()))) v.1.2.1 v.1.2.2 v.2.1) n (((), (b0, b1)), (b2, ()))
theorem node_number_m_l0_succ (N n : Nat) (b0 : Int) (b1 : Int) (b2 : (List Int)) : node_number_m_l0 N (n + 1) b0 b1 b2 = node_number_m_l0_step N (fun b0  b1  b2  => node_number_m_l0 N n b0 b1 b2) b0 b1 b2 := rfl
def node_number_m (N : Nat) (a0 : Int) (a1 : Int) (a2 : (List Int)) : Option ((Unit × ((List Int) × Unit))) :=
  match node_number_m_l0 N N a0 (IntKind.wrap .i64 (a1 - (1 : Int))) a2 with
  | some r3 => (some ((), (r3.2.1, ())))
  | none => none
def node_text_m (N : Nat) (a0 : (List UInt8)) (a1 : (List Int)) : Option ((Unit × ((List Int) × Unit))) :=
  match node_number_m N (List.length a0 : Int) (2 : Int) a1 with
  | some r1 => (gd (fits (List.length r1.2.1 + List.length (bytesI a0)) 1)
  (let x2 := (@HAppend.hAppend (List Int) (List Int) (List Int) _ r1.2.1 (bytesI a0))
  some ((), (x2, ()))))
  | none => none
def msg_writer_number_m_l0_step (N : Nat) (rec : Int → Int → (List Int) → Option ((Unit × (Unit × ((List Int) × Unit))))) (b0 : Int) (b1 : Int) (b2 : (List Int)) : Option ((Unit × (Unit × ((List Int) × Unit)))) :=
  bif (decide ((0 : Int) ≤ b1)) then
  (gd (decide (0 ≤ (IntKind.wrap .i64 ((8 : Int) * b1))))
  (let x1 := (Int.fdiv b0 (2 ^ min (Int.toNat (IntKind.wrap .i64 ((8 : Int) * b1))) (IntKind.bits .i64)))
  gd (fits (List.length b2 + 1) 1)
  (let x2 := (@HAppend.hAppend (List Int) (List Int) (List Int) _ b2 ([(IntKind.wrap .u8 (x1))] : List Int))
  rec b0 (IntKind.wrap .i64 (b1 - (1 : Int))) x2)))
  else
  (some ((), ((), (b2, ()))))
def msg_writer_number_m_l0 (N n : Nat) (b0 : Int) (b1 : Int) (b2 : (List Int)) : Option ((Unit × (Unit × ((List Int) × Unit)))) :=
  iter (fun (rec : ((Unit × (Int × Int)) × (Unit × ((List Int) × Unit))) → Option ((Unit × (Unit × ((List Int) × Unit))))) v => msg_writer_number_m_l0_step N (fun b0 b1 b2 => rec (((), (b0, b1)), ((), (b2, ())))) v.1.2.1 v.1.2.2 v.2.2.1) n (((), (b0, b1)), ((), (b2, ())))
theorem msg_writer_number_m_l0_succ (N n : Nat) (b0 : Int) (b1 : Int) (b2 : (List Int)) : msg_writer_number_m_l0 N (n + 1) b0 b1 b2 = msg_writer_number_m_l0_step N (fun b0  b1  b2  => msg_writer_number_m_l0 N n b0 b1 b2) b0 b1 b2 := rfl
def msg_writer_number_m (N : Nat) (a0 : Int) (a1 : Int) (a2 : (List Int)) : Option ((Unit × (Unit × ((List Int) × Unit)))) :=
  match msg_writer_number_m_l0 N N a0 (IntKind.wrap .i64 (a1 - (1 : Int))) a2 with
  | some r3 => (some ((), ((), (r3.2.2.1, ()))))
  | none => none
def msg_writer_text_m (N : Nat) (a0 : (List UInt8)) (a1 : (List Int)) : Option ((Unit × (Unit × ((List Int) × Unit)))) :=
  match msg_writer_number_m N (List.length a0 : Int) (2 : Int) a1 with
  | some r1 => (gd (fits (List.length r1.2.2.1 + List.length (bytesI a0)) 1)
  (let x2 := (@HAppend.hAppend (List Int) (List Int) (List Int) _ r1.2.2.1 (bytesI a0))
  some ((), ((), (x2, ())))))
  | none => none
def msg_put_write_m (N : Nat) (a0 : V_api_Msg) (a1 : (List Int)) : Option ((Unit × (Unit × ((List Int) × Unit)))) :=
  match msg_writer_text_m N a0.2.1 a1 with
  | some r1 => (match msg_writer_text_m N a0.2.2.1 r1.2.2.1 with
  | some r2 => (match msg_writer_number_m N a0.2.2.2.2.2.2 (4 : Int) r2.2.2.1 with
  | some r3 => (some ((), ((), (r3.2.2.1, ()))))
  | none => none)
  | none => none)
  | none => none
def msg_del_write_m (N : Nat) (a0 : V_api_Msg) (a1 : (List Int)) : Option ((Unit × (Unit × ((List Int) × Unit)))) :=
  match msg_writer_text_m N a0.2.1 a1 with
  | some r1 => (some ((), ((), (r1.2.2.1, ()))))
  | none => none
def msg_drop_write_m (N : Nat) (a0 : V_api_Msg) (a1 : (List Int)) : Option ((Unit × (Unit × ((List Int) × Unit)))) :=
  match msg_writer_text_m N a0.2.2.2.1.1 a1 with
  | some r1 => (match msg_writer_text_m N a0.2.2.2.1.2 r1.2.2.1 with
  | some r2 => (some ((), ((), (r2.2.2.1, ()))))
  | none => none)
  | none => none
def msg_move_write_m (N : Nat) (a0 : V_api_Msg) (a1 : (List Int)) : Option ((Unit × (Unit × ((List Int) × Unit)))) :=
  match msg_writer_text_m N a0.2.2.2.2.1 a1 with
  | some r1 => (match msg_writer_text_m N a0.2.2.2.2.2.1 r1.2.2.1 with
  | some r2 => (some ((), ((), (r2.2.2.1, ()))))
  | none => none)
  | none => none
def msg_clone_write_m (N : Nat) (a0 : V_api_Msg) (a1 : (List Int)) : Option ((Unit × (Unit × ((List Int) × Unit)))) :=
  match msg_move_write_m N a0 a1 with
  | some r1 => (some ((), ((), (r1.2.2.1, ()))))
  | none => none
def msg_stamp_write_m (N : Nat) (a0 : V_api_Msg) (a1 : (List Int)) : Option ((Unit × (Unit × ((List Int) × Unit)))) :=
  match msg_drop_write_m N a0 a1 with
  | some r1 => (match msg_writer_number_m N a0.2.2.2.2.2.2 (4 : Int) r1.2.2.1 with
  | some r2 => (some ((), ((), (r2.2.2.1, ()))))
  | none => none)
  | none => none
def msg_Bytes (N : Nat) (a0 : V_api_Msg) : Option ((List Int)) :=
  match msg_Valid N a0 with
  | some r1 => (bif (!r1) then
  (some ([] : List Int))
  else
  (match msg_of N a0 with
  | some r2 => (match r2 with
  | .inl r3 => (match msg_put_write_m N r3 ([(IntKind.wrap .u8 (a0.1))] : List Int) with
  | some r5 => (some r5.2.2.1)
  | none => none)
  | .inr r4 => (match r4 with
  | .inl r6 => (match msg_del_write_m N r6 ([(IntKind.wrap .u8 (a0.1))] : List Int) with
  | some r8 => (some r8.2.2.1)
  | none => none)
  | .inr r7 => (match r7 with
  | .inl r9 => (match msg_drop_write_m N r9 ([(IntKind.wrap .u8 (a0.1))] : List Int) with
  | some r11 => (some r11.2.2.1)
  | none => none)
  | .inr r10 => (match r10 with
  | .inl r12 => (match msg_move_write_m N r12 ([(IntKind.wrap .u8 (a0.1))] : List Int) with
  | some r14 => (some r14.2.2.1)
  | none => none)
  | .inr r13 => (match r13 with
  | .inl r15 => (match msg_clone_write_m N r15 ([(IntKind.wrap .u8 (a0.1))] : List Int) with
  | some r17 => (some r17.2.2.1)
  | none => none)
  | .inr r16 => (match r16 with
  | .inl r18 => (match msg_stamp_write_m N r18 ([(IntKind.wrap .u8 (a0.1))] : List Int) with
  | some r20 => (some r20.2.2.1)
  | none => none)
  | .inr r19 => (none)))))))
  | none => none))
  | none => none
def node_Bytes_l5_step (N : Nat) (rec : (List V_api_Sum) → Int → Int → Int → Int → (List V_api_Pair) → (List (List UInt8)) → (List Int) → (List V_api_Sum) → (List V_api_Msg) → (List Int) → (List Int) → Option (((Unit × (Unit × ((List V_api_Sum) × (Int × Int)))) × (((List V_api_Pair) × ((List (List UInt8)) × ((List Int) × ((List V_api_Sum) × (List V_api_Msg))))) × ((List Int) × Unit))))) (b0 : (List V_api_Sum)) (b1 : Int) (b2 : Int) (b3 : Int) (b4 : Int) (b5 : (List V_api_Pair)) (b6 : (List (List UInt8))) (b7 : (List Int)) (b8 : (List V_api_Sum)) (b9 : (List V_api_Msg)) (b10 : (List Int)) (b11 : (List Int)) : Option (((Unit × (Unit × ((List V_api_Sum) × (Int × Int)))) × (((List V_api_Pair) × ((List (List UInt8)) × ((List Int) × ((List V_api_Sum) × (List V_api_Msg))))) × ((List Int) × Unit)))) :=
  bif (decide (b4 < b3)) then
  (gd (inB b4 (List.length b11))
  (match node_number_m N (rdL b11 b4 (0 : Int)) (8 : Int) b10 with
  | some r13 => (rec b0 b1 b2 b3 (IntKind.wrap .i64 (b4 + (1 : Int))) b5 b6 b7 b8 b9 r13.2.1 b11)
  | none => none))
  else
  (some (((), ((), (b0, (b1, b2)))), ((b5, (b6, (b7, (b8, b9)))), (b10, ()))))
def node_Bytes_l5 (N n : Nat) (b0 : (List V_api_Sum)) (b1 : Int) (b2 : Int) (b3 : Int) (b4 : Int) (b5 : (List V_api_Pair)) (b6 : (List (List UInt8))) (b7 : (List Int)) (b8 : (List V_api_Sum)) (b9 : (List V_api_Msg)) (b10 : (List Int)) (b11 : (List Int)) : Option (((Unit × (Unit × ((List V_api_Sum) × (Int × Int)))) × (((List V_api_Pair) × ((List (List UInt8)) × ((List Int) × ((List V_api_Sum) × (List V_api_Msg))))) × ((List Int) × Unit)))) :=
  iter (fun (rec : ((Unit × (Unit × ((List V_api_Sum) × (Int × (Int × (Unit × (Int × Int))))))) × (((List V_api_Pair) × ((List (List UInt8)) × ((List Int) × ((List V_api_Sum) × (List V_api_Msg))))) × ((List Int) × ((List Int) × Unit)))) → Option (((Unit × (Unit × ((List V_api_Sum) × (Int × Int)))) × (((List V_api_Pair) × ((List (List UInt8)) × ((List Int) × ((List V_api_Sum) × (List V_api_Msg))))) × ((List Int) × Unit))))) v => node_Bytes_l5_step N (fun b0 b1 b2 b3 b4 b5 b6 b7 b8 b9 b10 b11 => rec (((), ((), (b0, (b1, (b2, ((), (b3, b4))))))), ((b5, (b6, (b7, (b8, b9)))), (b10, (b11, ()))))) v.1.2.2.1 v.1.2.2.2.1 v.1.2.2.2.2.1 v.1.2.2.2.2.2.2.1 v.1.2.2.2.2.2.2.2 v.2.1.1 v.2.1.2.1 v.2.1.2.2.1 v.2.1.2.2.2.1 v.2.1.2.2.2.2 v.2.2.1 v.2.2.2.1) n (((), ((), (b0, (b1, (b2, ((), (b3, b4))))))), ((b5, (b6, (b7, (b8, b9)))), (b10, (b11, ()))))
theorem node_Bytes_l5_succ (N n : Nat) (b0 : (List V_api_Sum)) (b1 : Int) (b2 : Int) (b3 : Int) (b4 : Int) (b5 : (List V_api_Pair)) (b6 : (List (List UInt8))) (b7 : (List Int)) (b8 : (List V_api_Sum)) (b9 : (List V_api_Msg)) (b10 : (List Int)) (b11 : (List Int)) : node_Bytes_l5 N (n + 1) b0 b1 b2 b3 b4 b5 b6 b7 b8 b9 b10 b11 = node_Bytes_l5_step N (fun b0  b1  b2  b3  b4  b5  b6  b7  b8  b9  b10  b11  => node_Bytes_l5 N n b0 b1 b2 b3 b4 b5 b6 b7 b8 b9 b10 b11) b0 b1 b2 b3 b4 b5 b6 b7 b8 b9 b10 b11 := rfl
def node_Bytes_l4_step (N : Nat) (rec : (List V_api_Msg) → Int → Int → (List Int) → Option ((Unit × ((List Int) × Unit)))) (b0 : (List V_api_Msg)) (b1 : Int) (b2 : Int) (b3 : (List Int)) : Option ((Unit × ((List Int) × Unit))) :=
  bif (decide (b2 < b1)) then
  (gd (inB b2 (List.length b0))
  (match msg_Bytes N (rdL b0 b2 D_api_Msg) with
  | some r18 => (gd (fits (List.length b3 + List.length r18) 1)
  (let x19 := (@HAppend.hAppend (List Int) (List Int) (List Int) _ b3 r18)
  rec b0 b1 (IntKind.wrap .i64 (b2 + (1 : Int))) x19))
  | none => none))
  else
  (some ((), (b3, ())))
def node_Bytes_l4 (N n : Nat) (b0 : (List V_api_Msg)) (b1 : Int) (b2 : Int) (b3 : (List Int)) : Option ((Unit × ((List Int) × Unit))) :=
  iter (fun (rec : ((Unit × ((List V_api_Msg) × (Int × Int))) × ((List Int) × Unit)) → Option ((Unit × ((List Int) × Unit)))) v => node_Bytes_l4_step N (fun b0 b1 b2 b3 => rec (((), (b0, (b1, b2))), (b3, ()))) v.1.2.1 v.1.2.2.1 v.1.2.2.2 v.2.1) n (((), (b0, (b1, b2))), (b3, ()))
theorem node_Bytes_l4_succ (N n : Nat) (b0 : (List V_api_Msg)) (b1 : Int) (b2 : Int) (b3 : (List Int)) : node_Bytes_l4 N (n + 1) b0 b1 b2 b3 = node_Bytes_l4_step N (fun b0  b1  b2  b3  => node_Bytes_l4 N n b0 b1 b2 b3) b0 b1 b2 b3 := rfl
def node_Bytes_l3_step (N : Nat) (rec : (List V_api_Sum) → Int → Int → (List V_api_Pair) → (List (List UInt8)) → (List Int) → (List V_api_Sum) → (List V_api_Msg) → (List Int) → Option (((Unit × Unit) × (((List V_api_Pair) × ((List (List UInt8)) × ((List Int) × ((List V_api_Sum) × (List V_api_Msg))))) × ((List Int) × Unit))))) (b0 : (List V_api_Sum)) (b1 : Int) (b2 : Int) (b3 : (List V_api_Pair)) (b4 : (List (List UInt8))) (b5 : (List Int)) (b6 : (List V_api_Sum)) (b7 : (List V_api_Msg)) (b8 : (List Int)) : Option (((Unit × Unit) × (((List V_api_Pair) × ((List (List UInt8)) × ((List Int) × ((List V_api_Sum) × (List V_api_Msg))))) × ((List Int) × Unit)))) :=
  bif (decide (b2 < b1)) then
  (gd (inB b2 (List.length b0))
  (let x12 := ([((rdL b0 b2 D_api_Sum).1).1, ((rdL b0 b2 D_api_Sum).1).2, ((rdL b0 b2 D_api_Sum).2).1, ((rdL b0 b2 D_api_Sum).2).2] : List Int)
  match node_Bytes_l5 N N b0 b1 b2 (List.length x12 : Int) (0 : Int) b3 b4 b5 b6 b7 b8 x12 with
  | some r14 => (let x15 := (IntKind.wrap .i64 (r14.1.2.2.2.2 + (1 : Int)))
  rec r14.1.2.2.1 r14.1.2.2.2.1 x15 r14.2.1.1 r14.2.1.2.1 r14.2.1.2.2.1 r14.2.1.2.2.2.1 r14.2.1.2.2.2.2 r14.2.2.1)
  | none => none))
  else
  (some (((), ()), ((b3, (b4, (b5, (b6, b7)))), (b8, ()))))
def node_Bytes_l3 (N n : Nat) (b0 : (List V_api_Sum)) (b1 : Int) (b2 : Int) (b3 : (List V_api_Pair)) (b4 : (List (List UInt8))) (b5 : (List Int)) (b6 : (List V_api_Sum)) (b7 : (List V_api_Msg)) (b8 : (List Int)) : Option (((Unit × Unit) × (((List V_api_Pair) × ((List (List UInt8)) × ((List Int) × ((List V_api_Sum) × (List V_api_Msg))))) × ((List Int) × Unit)))) :=
  iter (fun (rec : ((Unit × (Unit × ((List V_api_Sum) × (Int × Int)))) × (((List V_api_Pair) × ((List (List UInt8)) × ((List Int) × ((List V_api_Sum) × (List V_api_Msg))))) × ((List Int) × Unit))) → Option (((Unit × Unit) × (((List V_api_Pair) × ((List (List UInt8)) × ((List Int) × ((List V_api_Sum) × (List V_api_Msg))))) × ((List Int) × Unit))))) v => node_Bytes_l3_step N (fun b0 b1 b2 b3 b4 b5 b6 b7 b8 => rec (((), ((), (b0, (b1, b2)))), ((b3, (b4, (b5, (b6, b7)))), (b8, ())))) v.1.2.2.1 v.1.2.2.2.1 v.1.2.2.2.2 v.2.1.1 v.2.1.2.1 v.2.1.2.2.1 v.2.1.2.2.2.1 v.2.1.2.2.2.2 v.2.2.1) n (((), ((), (b0, (b1, b2)))), ((b3, (b4, (b5, (b6, b7)))), (b8, ())))
theorem node_Bytes_l3_succ (N n : Nat) (b0 : (List V_api_Sum)) (b1 : Int) (b2 : Int) (b3 : (List V_api_Pair)) (b4 : (List (List UInt8))) (b5 : (List Int)) (b6 : (List V_api_Sum)) (b7 : (List V_api_Msg)) (b8 : (List Int)) : node_Bytes_l3 N (n + 1) b0 b1 b2 b3 b4 b5 b6 b7 b8 = node_Bytes_l3_step N (fun b0  b1  b2  b3  b4  b5  b6  b7  b8  => node_Bytes_l3 N n b0 b1 b2 b3 b4 b5 b6 b7 b8) b0 b1 b2 b3 b4 b5 b6 b7 b8 := rfl
def node_Bytes_l2_step (N : Nat) (rec : (List V_api_Pair) → Int → Int → (List Int) → Option ((Unit × ((List Int) × Unit)))) (b0 : (List V_api_Pair)) (b1 : Int) (b2 : Int) (b3 : (List Int)) : Option ((Unit × ((List Int) × Unit))) :=
  bif (decide (b2 < b1)) then
  (gd (inB b2 (List.length b0))
  (match node_text_m N ((rdL b0 b2 D_api_Pair).1) b3 with
  | some r3 => (match node_text_m N (((rdL b0 b2 D_api_Pair).2).1) r3.2.1 with
  | some r4 => (match node_number_m N (((rdL b0 b2 D_api_Pair).2).2) (4 : Int) r4.2.1 with
  | some r5 => (rec b0 b1 (IntKind.wrap .i64 (b2 + (1 : Int))) r5.2.1)
  | none => none)
  | none => none)
  | none => none))
  else
  (some ((), (b3, ())))
def node_Bytes_l2 (N n : Nat) (b0 : (List V_api_Pair)) (b1 : Int) (b2 : Int) (b3 : (List Int)) : Option ((Unit × ((List Int) × Unit))) :=
  iter (fun (rec : ((Unit × ((List V_api_Pair) × (Int × Int))) × ((List Int) × Unit)) → Option ((Unit × ((List Int) × Unit)))) v => node_Bytes_l2_step N (fun b0 b1 b2 b3 => rec (((), (b0, (b1, b2))), (b3, ()))) v.1.2.1 v.1.2.2.1 v.1.2.2.2 v.2.1) n (((), (b0, (b1, b2))), (b3, ()))
theorem node_Bytes_l2_succ (N n : Nat) (b0 : (List V_api_Pair)) (b1 : Int) (b2 : Int) (b3 : (List Int)) : node_Bytes_l2 N (n + 1) b0 b1 b2 b3 = node_Bytes_l2_step N (fun b0  b1  b2  b3  => node_Bytes_l2 N n b0 b1 b2 b3) b0 b1 b2 b3 := rfl
def node_Bytes_l1_step (N : Nat) (rec : (List (List UInt8)) → Int → Int → (List V_api_Pair) → (List (List UInt8)) → (List Int) → (List V_api_Sum) → (List V_api_Msg) → (List Int) → Option (((Unit × Unit) × (((List V_api_Pair) × ((List (List UInt8)) × ((List Int) × ((List V_api_Sum) × (List V_api_Msg))))) × ((List Int) × Unit))))) (b0 : (List (List UInt8))) (b1 : Int) (b2 : Int) (b3 : (List V_api_Pair)) (b4 : (List (List UInt8))) (b5 : (List Int)) (b6 : (List V_api_Sum)) (b7 : (List V_api_Msg)) (b8 : (List Int)) : Option (((Unit × Unit) × (((List V_api_Pair) × ((List (List UInt8)) × ((List Int) × ((List V_api_Sum) × (List V_api_Msg))))) × ((List Int) × Unit)))) :=
  bif (decide (b2 < b1)) then
  (gd (inB b2 (List.length b0))
  (match node_text_m N (rdL b0 b2 ([] : List UInt8)) b8 with
  | some r10 => (rec b0 b1 (IntKind.wrap .i64 (b2 + (1 : Int))) b3 b4 b5 b6 b7 r10.2.1)
  | none => none))
  else
  (some (((), ()), ((b3, (b4, (b5, (b6, b7)))), (b8, ()))))
def node_Bytes_l1 (N n : Nat) (b0 : (List (List UInt8))) (b1 : Int) (b2 : Int) (b3 : (List V_api_Pair)) (b4 : (List (List UInt8))) (b5 : (List Int)) (b6 : (List V_api_Sum)) (b7 : (List V_api_Msg)) (b8 : (List Int)) : Option (((Unit × Unit) × (((List V_api_Pair) × ((List (List UInt8)) × ((List Int) × ((List V_api_Sum) × (List V_api_Msg))))) × ((List Int) × Unit)))) :=
  iter (fun (rec : ((Unit × (Unit × ((List (List UInt8)) × (Int × Int)))) × (((List V_api_Pair) × ((List (List UInt8)) × ((List Int) × ((List V_api_Sum) × (List V_api_Msg))))) × ((List Int) × Unit))) → Option (((Unit × Unit) × (((List V_api_Pair) × ((List (List UInt8)) × ((List Int) × ((List V_api_Sum) × (List V_api_Msg))))) × ((List Int) × Unit))))) v => node_Bytes_l1_step N (fun b0 b1 b2 b3 b4 b5 b6 b7 b8 => rec (((), ((), (b0, (b1, b2)))), ((b3, (b4, (b5, (b6, b7)))), (b8, ())))) v.1.2.2.1 v.1.2.2.2.1 v.1.2.2.2.2 v.2.1.1 v.2.1.2.1 v.2.1.2.2.1 v.2.1.2.2.2.1 v.2.1.2.2.2.2 v.2.2.1) n (((), ((), (b0, (b1, b2)))), ((b3, (b4, (b5, (b6, b7)))), (b8, ())))
theorem node_Bytes_l1_succ (N n : Nat) (b0 : (List (List UInt8))) (b1 : Int) (b2 : Int) (b3 : (List V_api_Pair)) (b4 : (List (List UInt8))) (b5 : (List Int)) (b6 : (List V_api_Sum)) (b7 : (List V_api_Msg)) (b8 : (List Int)) : node_Bytes_l1 N (n + 1) b0 b1 b2 b3 b4 b5 b6 b7 b8 = node_Bytes_l1_step N (fun b0  b1  b2  b3  b4  b5  b6  b7  b8  => node_Bytes_l1 N n b0 b1 b2 b3 b4 b5 b6 b7 b8) b0 b1 b2 b3 b4 b5 b6 b7 b8 := rfl
def node_Bytes_l0_step (N : Nat) (rec : (List Int) → Int → Int → (List V_api_Pair) → (List (List UInt8)) → (List Int) → (List V_api_Sum) → (List V_api_Msg) → (List Int) → Option (((Unit × Unit) × (((List V_api_Pair) × ((List (List UInt8)) × ((List Int) × ((List V_api_Sum) × (List V_api_Msg))))) × ((List Int) × Unit))))) (b0 : (List Int)) (b1 : Int) (b2 : Int) (b3 : (List V_api_Pair)) (b4 : (List (List UInt8))) (b5 : (List Int)) (b6 : (List V_api_Sum)) (b7 : (List V_api_Msg)) (b8 : (List Int)) : Option (((Unit × Unit) × (((List V_api_Pair) × ((List (List UInt8)) × ((List Int) × ((List V_api_Sum) × (List V_api_Msg))))) × ((List Int) × Unit)))) :=
  bif (decide (b2 < b1)) then
  (gd (inB b2 (List.length b0))
  (match node_number_m N (rdL b0 b2 (0 : Int)) (4 : Int) b8 with
  | some r8 => (rec b0 b1 (IntKind.wrap .i64 (b2 + (1 : Int))) b3 b4 b5 b6 b7 r8.2.1)
  | none => none))
  else
  (some (((), ()), ((b3, (b4, (b5, (b6, b7)))), (b8, ()))))
def node_Bytes_l0 (N n : Nat) (b0 : (List Int)) (b1 : Int) (b2 : Int) (b3 : (List V_api_Pair)) (b4 : (List (List UInt8))) (b5 : (List Int)) (b6 : (List V_api_Sum)) (b7 : (List V_api_Msg)) (b8 : (List Int)) : Option (((Unit × Unit) × (((List V_api_Pair) × ((List (List UInt8)) × ((List Int) × ((List V_api_Sum) × (List V_api_Msg))))) × ((List Int) × Unit)))) :=
  iter (fun (rec : ((Unit × (Unit × ((List Int) × (Int × Int)))) × (((List V_api_Pair) × ((List (List UInt8)) × ((List Int) × ((List V_api_Sum) × (List V_api_Msg))))) × ((List Int) × Unit))) → Option (((Unit × Unit) × (((List V_api_Pair) × ((List (List UInt8)) × ((List Int) × ((List V_api_Sum) × (List V_api_Msg))))) × ((List Int) × Unit))))) v => node_Bytes_l0_step N (fun b0 b1 b2 b3 b4 b5 b6 b7 b8 => rec (((), ((), (b0, (b1, b2)))), ((b3, (b4, (b5, (b6, b7)))), (b8, ())))) v.1.2.2.1 v.1.2.2.2.1 v.1.2.2.2.2 v.2.1.1 v.2.1.2.1 v.2.1.2.2.1 v.2.1.2.2.2.1 v.2.1.2.2.2.2 v.2.2.1) n (((), ((), (b0, (b1, b2)))), ((b3, (b4, (b5, (b6, b7)))), (b8, ())))
theorem node_Bytes_l0_succ (N n : Nat) (b0 : (List Int)) (b1 : Int) (b2 : Int) (b3 : (List V_api_Pair)) (b4 : (List (List UInt8))) (b5 : (List Int)) (b6 : (List V_api_Sum)) (b7 : (List V_api_Msg)) (b8 : (List Int)) : node_Bytes_l0 N (n + 1) b0 b1 b2 b3 b4 b5 b6 b7 b8 = node_Bytes_l0_step N (fun b0  b1  b2  b3  b4  b5  b6  b7  b8  => node_Bytes_l0 N n b0 b1 b2 b3 b4 b5 b6 b7 b8) b0 b1 b2 b3 b4 b5 b6 b7 b8 := rfl
def node_Bytes (N : Nat) (a0 : V_api_Node) : Option ((List Int)) :=
  match node_Valid N a0 (([] : List UInt8), ([] : List UInt8)) with
  | some r1 => (bif (!r1) then
  (some ([] : List Int))
  else
  (bif (eqi (List.length a0.2.2.1 : Int) (0 : Int)) then
  (match node_number_m N (List.length a0.1 : Int) (4 : Int) ([(76 : Int)] : List Int) with
  | some r2 => (match node_Bytes_l2 N N a0.1 (List.length a0.1 : Int) (0 : Int) r2.2.1 with
  | some r6 => (some r6.2.1)
  | none => none)
  | none => none)
  else
  (match node_number_m N (List.length a0.2.2.1 : Int) (4 : Int) ([(78 : Int)] : List Int) with
  | some r7 => (match node_Bytes_l0 N N a0.2.2.1 (List.length a0.2.2.1 : Int) (0 : Int) a0.1 a0.2.1 a0.2.2.1 a0.2.2.2.1 a0.2.2.2.2 r7.2.1 with
  | some r9 => (match node_Bytes_l1 N N r9.2.1.2.1 (List.length r9.2.1.2.1 : Int) (0 : Int) r9.2.1.1 r9.2.1.2.1 r9.2.1.2.2.1 r9.2.1.2.2.2.1 r9.2.1.2.2.2.2 r9.2.2.1 with
  | some r11 => (match node_Bytes_l3 N N r11.2.1.2.2.2.1 (List.length r11.2.1.2.2.2.1 : Int) (0 : Int) r11.2.1.1 r11.2.1.2.1 r11.2.1.2.2.1 r11.2.1.2.2.2.1 r11.2.1.2.2.2.2 r11.2.2.1 with
  | some r16 => (match node_number_m N (List.length r16.2.1.2.2.2.2 : Int) (4 : Int) r16.2.2.1 with
  | some r17 => (match node_Bytes_l4 N N r16.2.1.2.2.2.2 (List.length r16.2.1.2.2.2.2 : Int) (0 : Int) r17.2.1 with
  | some r20 => (some r20.2.1)
  | none => none)
  | none => none)
  | none => none)
  | none => none)
  | none => none)
  | none => none)))
  | none => none
def slices_Equal_s_uint8_uint8_l0_step (N : Nat) (rec : (List Int) → (List Int) → Int → Int → Option ((Bool × Unit) ⊕ (Unit × Unit))) (b0 : (List Int)) (b1 : (List Int)) (b2 : Int) (b3 : Int) : Option ((Bool × Unit) ⊕ (Unit × Unit)) :=
  bif (decide (b3 < b2)) then
  (gd (inB b3 (List.length b0))
  (gd (inB b3 (List.length b1))
  (let x2 := (!(eqi (rdL b0 b3 (0 : Int)) (rdL b1 b3 (0 : Int))))
  bif x2 then
  (some (.inl (false, ())))
  else
  (rec b0 b1 b2 (IntKind.wrap .i64 (b3 + (1 : Int)))))))
  else
  (some (.inr ((), ())))
def slices_Equal_s_uint8_uint8_l0 (N n : Nat) (b0 : (List Int)) (b1 : (List Int)) (b2 : Int) (b3 : Int) : Option ((Bool × Unit) ⊕ (Unit × Unit)) :=
  iter (fun (rec : (((List Int) × ((List Int) × (Int × Int))) × Unit) → Option ((Bool × Unit) ⊕ (Unit × Unit))) v => slices_Equal_s_uint8_uint8_l0_step N (fun b0 b1 b2 b3 => rec ((b0, (b1, (b2, b3))), ())) v.1.1 v.1.2.1 v.1.2.2.1 v.1.2.2.2) n ((b0, (b1, (b2, b3))), ())
theorem slices_Equal_s_uint8_uint8_l0_succ (N n : Nat) (b0 : (List Int)) (b1 : (List Int)) (b2 : Int) (b3 : Int) : slices_Equal_s_uint8_uint8_l0 N (n + 1) b0 b1 b2 b3 = slices_Equal_s_uint8_uint8_l0_step N (fun b0  b1  b2  b3  => slices_Equal_s_uint8_uint8_l0 N n b0 b1 b2 b3) b0 b1 b2 b3 := rfl
def slices_Equal_s_uint8_uint8 (N : Nat) (a0 : (List Int)) (a1 : (List Int)) : Option (Bool) :=
  let x1 := (!(eqi (List.length a0 : Int) (List.length a1 : Int)))
  bif x1 then
  (some false)
  else
  (match slices_Equal_s_uint8_uint8_l0 N N a0 a1 (List.length a0 : Int) (0 : Int) with
  | some r3 => (match r3 with
  | .inl r4 => (some r4.1)
  | .inr r5 => (some true))
  | none => none)
def node_list_int_m__node_reader_four_l0_step (N : Nat) (rec : Int → (List Int) → Bool → (List Int) → Option ((Unit × ((List Int) × (((List Int) × Bool) × Unit))))) (b0 : Int) (b1 : (List Int)) (b2 : Bool) (b3 : (List Int)) : Option ((Unit × ((List Int) × (((List Int) × Bool) × Unit)))) :=
  bif (decide ((List.length b3 : Int) < b0)) then
  (bif b2 then
  (match node_reader_four_m N b1 b2 with
  | some r1 => (gd (fits (List.length b3 + 1) 8)
  (let x2 := (@HAppend.hAppend (List Int) (List Int) (List Int) _ b3 ([r1.1] : List Int))
  rec b0 r1.2.1.1 r1.2.1.2 x2))
  | none => none)
  else
  (some ((), (b3, ((b1, b2), ())))))
  else
  (some ((), (b3, ((b1, b2), ()))))
def node_list_int_m__node_reader_four_l0 (N n : Nat) (b0 : Int) (b1 : (List Int)) (b2 : Bool) (b3 : (List Int)) : Option ((Unit × ((List Int) × (((List Int) × Bool) × Unit)))) :=
  iter (fun (rec : ((Unit × (Int × (Unit × Unit))) × (((List Int) × Bool) × ((List Int) × Unit))) → Option ((Unit × ((List Int) × (((List Int) × Bool) × Unit))))) v => node_list_int_m__node_reader_four_l0_step N (fun b0 b1 b2 b3 => rec (((), (b0, ((), ()))), ((b1, b2), (b3, ())))) v.1.2.1 v.2.1.1 v.2.1.2 v.2.2.1) n (((), (b0, ((), ()))), ((b1, b2), (b3, ())))
theorem node_list_int_m__node_reader_four_l0_succ (N n : Nat) (b0 : Int) (b1 : (List Int)) (b2 : Bool) (b3 : (List Int)) : node_list_int_m__node_reader_four_l0 N (n + 1) b0 b1 b2 b3 = node_list_int_m__node_reader_four_l0_step N (fun b0  b1  b2  b3  => node_list_int_m__node_reader_four_l0 N n b0 b1 b2 b3) b0 b1 b2 b3 := rfl
def node_list_int_m__node_reader_four (N : Nat) (a0 : Int) (a1 : (List Int)) (a2 : Bool) : Option ((Unit × ((List Int) × (((List Int) × Bool) × Unit)))) :=
  match node_list_int_m__node_reader_four_l0 N N a0 a1 a2 ([] : List Int) with
  | some r3 => (some ((), (r3.2.1, ((r3.2.2.1.1, r3.2.2.1.2), ()))))
  | none => none
def node_list_string_m__node_reader_text_l0_step (N : Nat) (rec : Int → (List Int) → Bool → (List (List UInt8)) → Option ((Unit × ((List (List UInt8)) × (((List Int) × Bool) × Unit))))) (b0 : Int) (b1 : (List Int)) (b2 : Bool) (b3 : (List (List UInt8))) : Option ((Unit × ((List (List UInt8)) × (((List Int) × Bool) × Unit)))) :=
  bif (decide ((List.length b3 : Int) < b0)) then
  (bif b2 then
  (match node_reader_text_m N b1 b2 with
  | some r1 => (gd (fits (List.length b3 + 1) 16)
  (let x2 := (@HAppend.hAppend (List (List UInt8)) (List (List UInt8)) (List (List UInt8)) _ b3 ([r1.1] : List (List UInt8)))
  rec b0 r1.2.1.1 r1.2.1.2 x2))
  | none => none)
  else
  (some ((), (b3, ((b1, b2), ())))))
  else
  (some ((), (b3, ((b1, b2), ()))))
def node_list_string_m__node_reader_text_l0 (N n : Nat) (b0 : Int) (b1 : (List Int)) (b2 : Bool) (b3 : (List (List UInt8))) : Option ((Unit × ((List (List UInt8)) × (((List Int) × Bool) × Unit)))) :=
  iter (fun (rec : ((Unit × (Int × (Unit × Unit))) × (((List Int) × Bool) × ((List (List UInt8)) × Unit))) → Option ((Unit × ((List (List UInt8)) × (((List Int) × Bool) × Unit))))) v => node_list_string_m__node_reader_text_l0_step N (fun b0 b1 b2 b3 => rec (((), (b0, ((), ()))), ((b1, b2), (b3, ())))) v.1.2.1 v.2.1.1 v.2.1.2 v.2.2.1) n (((), (b0, ((), ()))), ((b1, b2), (b3, ())))
theorem node_list_string_m__node_reader_text_l0_succ (N n : Nat) (b0 : Int) (b1 : (List Int)) (b2 : Bool) (b3 : (List (List UInt8))) : node_list_string_m__node_reader_text_l0 N (n + 1) b0 b1 b2 b3 = node_list_string_m__node_reader_text_l0_step N (fun b0  b1  b2  b3  => node_list_string_m__node_reader_text_l0 N n b0 b1 b2 b3) b0 b1 b2 b3 := rfl
def node_list_string_m__node_reader_text (N : Nat) (a0 : Int) (a1 : (List Int)) (a2 : Bool) : Option ((Unit × ((List (List UInt8)) × (((List Int) × Bool) × Unit)))) :=
  match node_list_string_m__node_reader_text_l0 N N a0 a1 a2 ([] : List (List UInt8)) with
  | some r3 => (some ((), (r3.2.1, ((r3.2.2.1.1, r3.2.2.1.2), ()))))
  | none => none
def node_reader_eight_m (N : Nat) (a0 : (List Int)) (a1 : Bool) : Option ((Int × (((List Int) × Bool) × Unit))) :=
  match node_reader_number_m N (8 : Int) a0 a1 with
  | some r1 => (some (r1.1, ((r1.2.1.1, r1.2.1.2), ())))
  | none => none
def node_reader_bounds_m (N : Nat) (a0 : (List Int)) (a1 : Bool) : Option (((Int × Int) × (((List Int) × Bool) × Unit))) :=
  match node_reader_eight_m N a0 a1 with
  | some r1 => (match node_reader_eight_m N r1.2.1.1 r1.2.1.2 with
  | some r2 => (some ((r1.1, r2.1), ((r2.2.1.1, r2.2.1.2), ())))
  | none => none)
  | none => none
def node_reader_sum_m (N : Nat) (a0 : (List Int)) (a1 : Bool) : Option (((Int × (Int × (Int × Int))) × (((List Int) × Bool) × Unit))) :=
  match node_reader_bounds_m N a0 a1 with
  | some r1 => (match node_reader_bounds_m N r1.2.1.1 r1.2.1.2 with
  | some r2 => (some ((r1.1.1, (r1.1.2, (r2.1.1, r2.1.2))), ((r2.2.1.1, r2.2.1.2), ())))
  | none => none)
  | none => none
def node_list_api_Sum_m__node_reader_sum_l0_step (N : Nat) (rec : Int → (List Int) → Bool → (List V_api_Sum) → Option ((Unit × ((List V_api_Sum) × (((List Int) × Bool) × Unit))))) (b0 : Int) (b1 : (List Int)) (b2 : Bool) (b3 : (List V_api_Sum)) : Option ((Unit × ((List V_api_Sum) × (((List Int) × Bool) × Unit)))) :=
  bif (decide ((List.length b3 : Int) < b0)) then
  (bif b2 then
  (match node_reader_sum_m N b1 b2 with
  | some r1 => (let x2 := ([((r1.1.1, r1.1.2.1), r1.1.2.2)] : List V_api_Sum)
  gd (fits (List.length b3 + List.length x2) 32)
  (let x3 := (@HAppend.hAppend (List V_api_Sum) (List V_api_Sum) (List V_api_Sum) _ b3 x2)
  rec b0 r1.2.1.1 r1.2.1.2 x3))
  | none => none)
  else
  (some ((), (b3, ((b1, b2), ())))))
  else
  (some ((), (b3, ((b1, b2), ()))))
def node_list_api_Sum_m__node_reader_sum_l0 (N n : Nat) (b0 : Int) (b1 : (List Int)) (b2 : Bool) (b3 : (List V_api_Sum)) : Option ((Unit × ((List V_api_Sum) × (((List Int) × Bool) × Unit)))) :=
  iter (fun (rec : ((Unit × (Int × (Unit × Unit))) × (((List Int) × Bool) × ((List V_api_Sum) × Unit))) → Option ((Unit × ((List V_api_Sum) × (((List Int) × Bool) × Unit))))) v => node_list_api_Sum_m__node_reader_sum_l0_step N (fun b0 b1 b2 b3 => rec (((), (b0, ((), ()))), ((b1, b2), (b3, ())))) v.1.2.1 v.2.1.1 v.2.1.2 v.2.2.1) n (((), (b0, ((), ()))), ((b1, b2), (b3, ())))
theorem node_list_api_Sum_m__node_reader_sum_l0_succ (N n : Nat) (b0 : Int) (b1 : (List Int)) (b2 : Bool) (b3 : (List V_api_Sum)) : node_list_api_Sum_m__node_reader_sum_l0 N (n + 1) b0 b1 b2 b3 = node_list_api_Sum_m__node_reader_sum_l0_step N (fun b0  b1  b2  b3  => node_list_api_Sum_m__node_reader_sum_l0 N n b0 b1 b2 b3) b0 b1 b2 b3 := rfl
def node_list_api_Sum_m__node_reader_sum (N : Nat) (a0 : Int) (a1 : (List Int)) (a2 : Bool) : Option ((Unit × ((List V_api_Sum) × (((List Int) × Bool) × Unit)))) :=
  match node_list_api_Sum_m__node_reader_sum_l0 N N a0 a1 a2 ([] : List V_api_Sum) with
  | some r4 => (some ((), (r4.2.1, ((r4.2.2.1.1, r4.2.2.1.2), ()))))
  | none => none
def msg_reader_take_m (N : Nat) (a0 : Int) (a1 : (List Int)) (a2 : Bool) : Option (((List Int) × (((List Int) × Bool) × Unit))) :=
  bif (decide ((List.length a1 : Int) < a0)) then
  (some (([] : List Int), ((([] : List Int), true), ())))
  else
  (gd (decide (0 ≤ (0 : Int)) && (decide ((0 : Int) ≤ a0) && decide (a0 ≤ (List.length a1 : Int))))
  (gd (decide (0 ≤ a0) && (decide (a0 ≤ (List.length a1 : Int)) && decide ((List.length a1 : Int) ≤ (List.length a1 : Int))))
  (some ((cut2 a1 (0 : Int) a0), (((cut2 a1 a0 (List.length a1 : Int)), a2), ())))))
def msg_reader_number_m_l0_step (N : Nat) (rec : Int → (List Int) → Int → Int → (List Int) → Bool → Option ((Int × (((List Int) × Bool) × Unit)))) (b0 : Int) (b1 : (List Int)) (b2 : Int) (b3 : Int) (b4 : (List Int)) (b5 : Bool) : Option ((Int × (((List Int) × Bool) × Unit))) :=
  bif (decide (b3 < b2)) then
  (gd (inB b3 (List.length b1))
  (gd (decide (0 ≤ (8 : Int)))
  (let x2 := (IntKind.wrap .i64 (b0 * 2 ^ min (Int.toNat (8 : Int)) (IntKind.bits .i64)))
  let x3 := (IntKind.wrap .i64 (((BitVec.ofInt (IntKind.bits .i64) x2 ||| BitVec.ofInt (IntKind.bits .i64) (IntKind.wrap .i64 ((rdL b1 b3 (0 : Int))))).toNat : Int)))
  rec x3 b1 b2 (IntKind.wrap .i64 (b3 + (1 : Int))) b4 b5)))
  else
  (some (b0, ((b4, b5), ())))
def msg_reader_number_m_l0 (N n : Nat) (b0 : Int) (b1 : (List Int)) (b2 : Int) (b3 : Int) (b4 : (List Int)) (b5 : Bool) : Option ((Int × (((List Int) × Bool) × Unit))) :=
  iter (fun (rec : ((Int × ((List Int) × (Int × Int))) × (((List Int) × Bool) × Unit)) → Option ((Int × (((List Int) × Bool) × Unit)))) v => msg_reader_number_m_l0_step N (fun b0 b1 b2 b3 b4 b5 => rec ((b0, (b1, (b2, b3))), ((b4, b5), ()))) v.1.1 v.1.2.1 v.1.2.2.1 v.1.2.2.2 v.2.1.1 v.2.1.2) n ((b0, (b1, (b2, b3))), ((b4, b5), ()))
theorem msg_reader_number_m_l0_succ (N n : Nat) (b0 : Int) (b1 : (List Int)) (b2 : Int) (b3 : Int) (b4 : (List Int)) (b5 : Bool) : msg_reader_number_m_l0 N (n + 1) b0 b1 b2 b3 b4 b5 = msg_reader_number_m_l0_step N (fun b0  b1  b2  b3  b4  b5  => msg_reader_number_m_l0 N n b0 b1 b2 b3 b4 b5) b0 b1 b2 b3 b4 b5 := rfl
def msg_reader_number_m (N : Nat) (a0 : Int) (a1 : (List Int)) (a2 : Bool) : Option ((Int × (((List Int) × Bool) × Unit))) :=
  match msg_reader_take_m N a0 a1 a2 with
  | some r1 => (match msg_reader_number_m_l0 N N (0 : Int) r1.1 (List.length r1.1 : Int) (0 : Int) r1.2.1.1 r1.2.1.2 with
  | some r4 => (some (r4.1, ((r4.2.1.1, r4.2.1.2), ())))
  | none => none)
  | none => none
def msg_reader_text_m (N : Nat) (a0 : (List Int)) (a1 : Bool) : Option (((List UInt8) × (((List Int) × Bool) × Unit))) :=
  match msg_reader_number_m N (2 : Int) a0 a1 with
  | some r1 => (match msg_reader_take_m N r1.1 r1.2.1.1 r1.2.1.2 with
  | some r2 => (some ((bytesU r2.1), ((r2.2.1.1, r2.2.1.2), ())))
  | none => none)
  | none => none
def msg_Parse_p0 (N : Nat) (b0 : (List Int)) (b1 : Int) (b2 : (List UInt8)) (b3 : (List UInt8)) (b4 : (List UInt8)) (b5 : (List UInt8)) (b6 : (List UInt8)) (b7 : (List UInt8)) (b8 : Int) (b9 : (List Int)) (b10 : Bool) (b11 : Int) (b12 : (List UInt8)) (b13 : (List UInt8)) (b14 : (List UInt8)) (b15 : (List UInt8)) (b16 : (List UInt8)) (b17 : (List UInt8)) (b18 : Int) : Option (((Unit × (Int × Int)) × ((Int × ((List UInt8) × ((List UInt8) × ((List UInt8) × ((List UInt8) × ((List UInt8) × ((List UInt8) × Int))))))) × Unit))) :=
  bif b10 then
  (some (((), ((0 : Int), (3 : Int))), (((0 : Int), (([] : List UInt8), (([] : List UInt8), (([] : List UInt8), (([] : List UInt8), (([] : List UInt8), (([] : List UInt8), (0 : Int)))))))), ())))
  else
  (match msg_Valid N (b11, (b12, (b13, ((b14, b15), (b16, (b17, b18)))))) with
  | some r5 => (bif (!r5) then
  (some (((), ((0 : Int), (3 : Int))), (((0 : Int), (([] : List UInt8), (([] : List UInt8), (([] : List UInt8), (([] : List UInt8), (([] : List UInt8), (([] : List UInt8), (0 : Int)))))))), ())))
  else
  (let x6 := (IntKind.wrap .i64 ((List.length b0 : Int) - (List.length b9 : Int)))
  some (((), (x6, (0 : Int))), ((b11, (b12, (b13, (b14, (b15, (b16, (b17, b18))))))), ()))))
  | none => none)
def msg_Parse (N : Nat) (a0 : (List Int)) : Option ((V_api_Msg × (Int × Int))) :=
  match msg_reader_number_m N (1 : Int) a0 false with
  | some r1 => (bif (eqi r1.1 (1 : Int)) then
  (match msg_reader_text_m N r1.2.1.1 r1.2.1.2 with
  | some r2 => (match msg_reader_text_m N r2.2.1.1 r2.2.1.2 with
  | some r3 => (match msg_reader_number_m N (4 : Int) r3.2.1.1 r3.2.1.2 with
  | some r4 => (match msg_Parse_p0 N a0 (0 : Int) ([] : List UInt8) ([] : List UInt8) ([] : List UInt8) ([] : List UInt8) ([] : List UInt8) ([] : List UInt8) (0 : Int) r4.2.1.1 r4.2.1.2 r1.1 r2.1 r3.1 ([] : List UInt8) ([] : List UInt8) ([] : List UInt8) ([] : List UInt8) r4.1 with
  | some r7 => (some ((r7.2.1.1, (r7.2.1.2.1, (r7.2.1.2.2.1, ((r7.2.1.2.2.2.1, r7.2.1.2.2.2.2.1), r7.2.1.2.2.2.2.2)))), (r7.1.2.1, r7.1.2.2)))
  | none => none)
  | none => none)
  | none => none)
  | none => none)
  else
  (bif (eqi r1.1 (2 : Int)) then
  (match msg_reader_text_m N r1.2.1.1 r1.2.1.2 with
  | some r8 => (match msg_Parse_p0 N a0 (0 : Int) ([] : List UInt8) ([] : List UInt8) ([] : List UInt8) ([] : List UInt8) ([] : List UInt8) ([] : List UInt8) (0 : Int) r8.2.1.1 r8.2.1.2 r1.1 r8.1 ([] : List UInt8) ([] : List UInt8) ([] : List UInt8) ([] : List UInt8) ([] : List UInt8) (0 : Int) with
  | some r9 => (some ((r9.2.1.1, (r9.2.1.2.1, (r9.2.1.2.2.1, ((r9.2.1.2.2.2.1, r9.2.1.2.2.2.2.1), r9.2.1.2.2.2.2.2)))), (r9.1.2.1, r9.1.2.2)))
  | none => none)
  | none => none)
  else
  (bif (eqi r1.1 (3 : Int)) then
  (match msg_reader_text_m N r1.2.1.1 r1.2.1.2 with
  | some r10 => (match msg_reader_text_m N r10.2.1.1 r10.2.1.2 with
  | some r11 => (match msg_Parse_p0 N a0 (0 : Int) ([] : List UInt8) ([] : List UInt8) ([] : List UInt8) ([] : List UInt8) ([] : List UInt8) ([] : List UInt8) (0 : Int) r11.2.1.1 r11.2.1.2 r1.1 ([] : List UInt8) ([] : List UInt8) r10.1 r11.1 ([] : List UInt8) ([] : List UInt8) (0 : Int) with
  | some r12 => (some ((r12.2.1.1, (r12.2.1.2.1, (r12.2.1.2.2.1, ((r12.2.1.2.2.2.1, r12.2.1.2.2.2.2.1), r12.2.1.2.2.2.2.2)))), (r12.1.2.1, r12.1.2.2)))
  | none => none)
  | none => none)
  | none => none)
  else
  (bif (eqi r1.1 (4 : Int)) then
  (match msg_reader_text_m N r1.2.1.1 r1.2.1.2 with
  | some r13 => (match msg_reader_text_m N r13.2.1.1 r13.2.1.2 with
  | some r14 => (match msg_Parse_p0 N a0 (0 : Int) ([] : List UInt8) ([] : List UInt8) ([] : List UInt8) ([] : List UInt8) ([] : List UInt8) ([] : List UInt8) (0 : Int) r14.2.1.1 r14.2.1.2 r1.1 ([] : List UInt8) ([] : List UInt8) ([] : List UInt8) ([] : List UInt8) r13.1 r14.1 (0 : Int) with
  | some r15 => (some ((r15.2.1.1, (r15.2.1.2.1, (r15.2.1.2.2.1, ((r15.2.1.2.2.2.1, r15.2.1.2.2.2.2.1), r15.2.1.2.2.2.2.2)))), (r15.1.2.1, r15.1.2.2)))
  | none => none)
  | none => none)
  | none => none)
  else
  (bif (eqi r1.1 (5 : Int)) then
  (match msg_reader_text_m N r1.2.1.1 r1.2.1.2 with
  | some r16 => (match msg_reader_text_m N r16.2.1.1 r16.2.1.2 with
  | some r17 => (match msg_Parse_p0 N a0 (0 : Int) ([] : List UInt8) ([] : List UInt8) ([] : List UInt8) ([] : List UInt8) ([] : List UInt8) ([] : List UInt8) (0 : Int) r17.2.1.1 r17.2.1.2 r1.1 ([] : List UInt8) ([] : List UInt8) ([] : List UInt8) ([] : List UInt8) r16.1 r17.1 (0 : Int) with
  | some r18 => (some ((r18.2.1.1, (r18.2.1.2.1, (r18.2.1.2.2.1, ((r18.2.1.2.2.2.1, r18.2.1.2.2.2.2.1), r18.2.1.2.2.2.2.2)))), (r18.1.2.1, r18.1.2.2)))
  | none => none)
  | none => none)
  | none => none)
  else
  (bif (eqi r1.1 (6 : Int)) then
  (match msg_reader_text_m N r1.2.1.1 r1.2.1.2 with
  | some r19 => (match msg_reader_text_m N r19.2.1.1 r19.2.1.2 with
  | some r20 => (match msg_reader_number_m N (4 : Int) r20.2.1.1 r20.2.1.2 with
  | some r21 => (match msg_Parse_p0 N a0 (0 : Int) ([] : List UInt8) ([] : List UInt8) ([] : List UInt8) ([] : List UInt8) ([] : List UInt8) ([] : List UInt8) (0 : Int) r21.2.1.1 r21.2.1.2 r1.1 ([] : List UInt8) ([] : List UInt8) r19.1 r20.1 ([] : List UInt8) ([] : List UInt8) r21.1 with
  | some r22 => (some ((r22.2.1.1, (r22.2.1.2.1, (r22.2.1.2.2.1, ((r22.2.1.2.2.2.1, r22.2.1.2.2.2.2.1), r22.2.1.2.2.2.2.2)))), (r22.1.2.1, r22.1.2.2)))
  | none => none)
  | none => none)
  | none => none)
  | none => none)
  else
  (match msg_Parse_p0 N a0 (0 : Int) ([] : List UInt8) ([] : List UInt8) ([] : List UInt8) ([] : List UInt8) ([] : List UInt8) ([] : List UInt8) (0 : Int) r1.2.1.1 r1.2.1.2 r1.1 ([] : List UInt8) ([] : List UInt8) ([] : List UInt8) ([] : List UInt8) ([] : List UInt8) ([] : List UInt8) (0 : Int) with
  | some r23 => (some ((r23.2.1.1, (r23.2.1.2.1, (r23.2.1.2.2.1, ((r23.2.1.2.2.2.1, r23.2.1.2.2.2.2.1), r23.2.1.2.2.2.2.2)))), (r23.1.2.1, r23.1.2.2)))
  | none => none)))))))
  | none => none
def node_reader_msg_m (N : Nat) (a0 : (List Int)) (a1 : Bool) : Option (((Int × ((List UInt8) × ((List UInt8) × ((List UInt8) × ((List UInt8) × ((List UInt8) × ((List UInt8) × Int))))))) × (((List Int) × Bool) × Unit))) :=
  match msg_Parse N a0 with
  | some r1 => (bif (!(eqi r1.2.2 (0 : Int))) then
  (match node_reader_take_m N r1.2.1 a0 false with
  | some r2 => (some ((r1.1.1, (r1.1.2.1, (r1.1.2.2.1, (r1.1.2.2.2.1.1, (r1.1.2.2.2.1.2, (r1.1.2.2.2.2.1, (r1.1.2.2.2.2.2.1, r1.1.2.2.2.2.2.2))))))), ((r2.2.1.1, r2.2.1.2), ())))
  | none => none)
  else
  (match node_reader_take_m N r1.2.1 a0 a1 with
  | some r3 => (some ((r1.1.1, (r1.1.2.1, (r1.1.2.2.1, (r1.1.2.2.2.1.1, (r1.1.2.2.2.1.2, (r1.1.2.2.2.2.1, (r1.1.2.2.2.2.2.1, r1.1.2.2.2.2.2.2))))))), ((r3.2.1.1, r3.2.1.2), ())))
  | none => none))
  | none => none
def node_list_api_Msg_m__node_reader_msg_l0_step (N : Nat) (rec : Int → (List Int) → Bool → (List V_api_Msg) → Option ((Unit × ((List V_api_Msg) × (((List Int) × Bool) × Unit))))) (b0 : Int) (b1 : (List Int)) (b2 : Bool) (b3 : (List V_api_Msg)) : Option ((Unit × ((List V_api_Msg) × (((List Int) × Bool) × Unit)))) :=
  bif (decide ((List.length b3 : Int) < b0)) then
  (bif b2 then
  (match node_reader_msg_m N b1 b2 with
  | some r1 => (let x2 := ([(r1.1.1, (r1.1.2.1, (r1.1.2.2.1, ((r1.1.2.2.2.1, r1.1.2.2.2.2.1), r1.1.2.2.2.2.2))))] : List V_api_Msg)
  gd (fits (List.length b3 + List.length x2) 112)
  (let x3 := (@HAppend.hAppend (List V_api_Msg) (List V_api_Msg) (List V_api_Msg) _ b3 x2)
  rec b0 r1.2.1.1 r1.2.1.2 x3))
  | none => none)
  else
  (some ((), (b3, ((b1, b2), ())))))
  else
  (some ((), (b3, ((b1, b2), ()))))
def node_list_api_Msg_m__node_reader_msg_l0 (N n : Nat) (b0 : Int) (b1 : (List Int)) (b2 : Bool) (b3 : (List V_api_Msg)) : Option ((Unit × ((List V_api_Msg) × (((List Int) × Bool) × Unit)))) :=
  iter (fun (rec : ((Unit × (Int × (Unit × Unit))) × (((List Int) × Bool) × ((List V_api_Msg) × Unit))) → Option ((Unit × ((List V_api_Msg) × (((List Int) × Bool) × Unit))))) v => node_list_api_Msg_m__node_reader_msg_l0_step N (fun b0 b1 b2 b3 => rec (((), (b0, ((), ()))), ((b1, b2), (b3, ())))) v.1.2.1 v.2.1.1 v.2.1.2 v.2.2.1) n (((), (b0, ((), ()))), ((b1, b2), (b3, ())))
theorem node_list_api_Msg_m__node_reader_msg_l0_succ (N n : Nat) (b0 : Int) (b1 : (List Int)) (b2 : Bool) (b3 : (List V_api_Msg)) : node_list_api_Msg_m__node_reader_msg_l0 N (n + 1) b0 b1 b2 b3 = node_list_api_Msg_m__node_reader_msg_l0_step N (fun b0  b1  b2  b3  => node_list_api_Msg_m__node_reader_msg_l0 N n b0 b1 b2 b3) b0 b1 b2 b3 := rfl
def node_list_api_Msg_m__node_reader_msg (N : Nat) (a0 : Int) (a1 : (List Int)) (a2 : Bool) : Option ((Unit × ((List V_api_Msg) × (((List Int) × Bool) × Unit)))) :=
  match node_list_api_Msg_m__node_reader_msg_l0 N N a0 a1 a2 ([] : List V_api_Msg) with
  | some r4 => (some ((), (r4.2.1, ((r4.2.2.1.1, r4.2.2.1.2), ()))))
  | none => none
def node_Parse_p0 (N : Nat) (b0 : (List Int)) (b1 : (List V_api_Pair)) (b2 : (List (List UInt8))) (b3 : (List Int)) (b4 : (List V_api_Sum)) (b5 : (List V_api_Msg)) (b6 : (List V_api_Pair)) (b7 : (List (List UInt8))) (b8 : (List Int)) (b9 : (List V_api_Sum)) (b10 : (List V_api_Msg)) (b11 : (List Int)) (b12 : Bool) : Option (((Unit × Int) × ((Unit × (Unit × (Unit × (Unit × Unit)))) × ((List V_api_Pair) × ((List (List UInt8)) × ((List Int) × ((List V_api_Sum) × ((List V_api_Msg) × Unit)))))))) :=
  bif (!b12) then
  (some (((), (100 : Int)), (((), ((), ((), ((), ())))), (([] : List V_api_Pair), (([] : List (List UInt8)), (([] : List Int), (([] : List V_api_Sum), (([] : List V_api_Msg), ()))))))))
  else
  (let x4 := (decide ((0 : Int) < (List.length b11 : Int)))
  bif x4 then
  (some (((), (100 : Int)), (((), ((), ((), ((), ())))), (([] : List V_api_Pair), (([] : List (List UInt8)), (([] : List Int), (([] : List V_api_Sum), (([] : List V_api_Msg), ()))))))))
  else
  (match node_Bytes N (b6, (b7, (b8, (b9, b10)))) with
  | some r5 => (match slices_Equal_s_uint8_uint8 N r5 b0 with
  | some r6 => (bif (!r6) then
  (some (((), (100 : Int)), (((), ((), ((), ((), ())))), (([] : List V_api_Pair), (([] : List (List UInt8)), (([] : List Int), (([] : List V_api_Sum), (([] : List V_api_Msg), ()))))))))
  else
  (some (((), (0 : Int)), (((), ((), ((), ((), ())))), (b6, (b7, (b8, (b9, (b10, ())))))))))
  | none => none)
  | none => none))
def node_Parse (N : Nat) (a0 : (List Int)) : Option ((V_api_Node × Int)) :=
  match node_reader_number_m N (1 : Int) a0 true with
  | some r1 => (bif (eqi r1.1 (76 : Int)) then
  (match node_reader_four_m N r1.2.1.1 r1.2.1.2 with
  | some r2 => (match node_list_api_Pair_m__node_reader_pair N r2.1 r2.2.1.1 r2.2.1.2 with
  | some r3 => (match node_Parse_p0 N a0 ([] : List V_api_Pair) ([] : List (List UInt8)) ([] : List Int) ([] : List V_api_Sum) ([] : List V_api_Msg) r3.2.1 ([] : List (List UInt8)) ([] : List Int) ([] : List V_api_Sum) ([] : List V_api_Msg) r3.2.2.1.1 r3.2.2.1.2 with
  | some r7 => (some ((r7.2.2.1, (r7.2.2.2.1, (r7.2.2.2.2.1, (r7.2.2.2.2.2.1, r7.2.2.2.2.2.2.1)))), r7.1.2))
  | none => none)
  | none => none)
  | none => none)
  else
  (bif (eqi r1.1 (78 : Int)) then
  (match node_reader_four_m N r1.2.1.1 r1.2.1.2 with
  | some r8 => (match node_list_int_m__node_reader_four N r8.1 r8.2.1.1 r8.2.1.2 with
  | some r9 => (match node_list_string_m__node_reader_text N (IntKind.wrap .i64 (r8.1 - (1 : Int))) r9.2.2.1.1 r9.2.2.1.2 with
  | some r10 => (match node_list_api_Sum_m__node_reader_sum N r8.1 r10.2.2.1.1 r10.2.2.1.2 with
  | some r11 => (match node_reader_four_m N r11.2.2.1.1 r11.2.2.1.2 with
  | some r12 => (match node_list_api_Msg_m__node_reader_msg N r12.1 r12.2.1.1 r12.2.1.2 with
  | some r13 => (match node_Parse_p0 N a0 ([] : List V_api_Pair) ([] : List (List UInt8)) ([] : List Int) ([] : List V_api_Sum) ([] : List V_api_Msg) ([] : List V_api_Pair) r10.2.1 r9.2.1 r11.2.1 r13.2.1 r13.2.2.1.1 r13.2.2.1.2 with
  | some r14 => (some ((r14.2.2.1, (r14.2.2.2.1, (r14.2.2.2.2.1, (r14.2.2.2.2.2.1, r14.2.2.2.2.2.2.1)))), r14.1.2))
  | none => none)
  | none => none)
  | none => none)
  | none => none)
  | none => none)
  | none => none)
  | none => none)
  else
  (match node_Parse_p0 N a0 ([] : List V_api_Pair) ([] : List (List UInt8)) ([] : List Int) ([] : List V_api_Sum) ([] : List V_api_Msg) ([] : List V_api_Pair) ([] : List (List UInt8)) ([] : List Int) ([] : List V_api_Sum) ([] : List V_api_Msg) r1.2.1.1 r1.2.1.2 with
  | some r15 => (some ((r15.2.2.1, (r15.2.2.2.1, (r15.2.2.2.2.1, (r15.2.2.2.2.2.1, r15.2.2.2.2.2.2.1)))), r15.1.2))
  | none => none)))
  | none => none
def ref05_SameBytes (N : Nat) (a0 : (List Int)) (a1 : (List Int)) : Option (Bool) :=
  some (eqs (bytesU a0) (bytesU a1))
def ref04_Same_l0_step (N : Nat) (rec : (List V_api_Pair) → (List V_api_Pair) → Int → Option ((Bool × Unit) ⊕ (Unit × Unit))) (b0 : (List V_api_Pair)) (b1 : (List V_api_Pair)) (b2 : Int) : Option ((Bool × Unit) ⊕ (Unit × Unit)) :=
  bif (decide (b2 < (List.length b0 : Int))) then
  (gd (inB b2 (List.length b0))
  (gd (inB b2 (List.length b1))
  (let x2 := (!(eqs ((rdL b0 b2 D_api_Pair).1) ((rdL b1 b2 D_api_Pair).1) && (eqs (((rdL b0 b2 D_api_Pair).2).1) (((rdL b1 b2 D_api_Pair).2).1) && (eqi (((rdL b0 b2 D_api_Pair).2).2) (((rdL b1 b2 D_api_Pair).2).2) && true))))
  bif x2 then
  (some (.inl (false, ())))
  else
  (rec b0 b1 (IntKind.wrap .i64 (b2 + (1 : Int)))))))
  else
  (some (.inr ((), ())))
def ref04_Same_l0 (N n : Nat) (b0 : (List V_api_Pair)) (b1 : (List V_api_Pair)) (b2 : Int) : Option ((Bool × Unit) ⊕ (Unit × Unit)) :=
  iter (fun (rec : (((List V_api_Pair) × ((List V_api_Pair) × Int)) × Unit) → Option ((Bool × Unit) ⊕ (Unit × Unit))) v => ref04_Same_l0_step N (fun b0 b1 b2 => rec ((b0, (b1, b2)), ())) v.1.1 v.1.2.1 v.1.2.2) n ((b0, (b1, b2)), ())
theorem ref04_Same_l0_succ (N n : Nat) (b0 : (List V_api_Pair)) (b1 : (List V_api_Pair)) (b2 : Int) : ref04_Same_l0 N (n + 1) b0 b1 b2 = ref04_Same_l0_step N (fun b0  b1  b2  => ref04_Same_l0 N n b0 b1 b2) b0 b1 b2 := rfl
def ref04_Same (N : Nat) (a0 : (List V_api_Pair)) (a1 : (List V_api_Pair)) : Option (Bool) :=
  let x1 := (!(eqi (List.length a0 : Int) (List.length a1 : Int)))
  bif x1 then
  (some false)
  else
  (match ref04_Same_l0 N N a0 a1 (0 : Int) with
  | some r3 => (match r3 with
  | .inl r4 => (some r4.1)
  | .inr r5 => (some true))
  | none => none)
def ref05_SameMsgs_l0_step (N : Nat) (rec : (List V_api_Msg) → (List V_api_Msg) → Int → Option ((Bool × Unit) ⊕ (Unit × Unit))) (b0 : (List V_api_Msg)) (b1 : (List V_api_Msg)) (b2 : Int) : Option ((Bool × Unit) ⊕ (Unit × Unit)) :=
  bif (decide (b2 < (List.length b0 : Int))) then
  (gd (inB b2 (List.length b0))
  (gd (inB b2 (List.length b1))
  (let x2 := (!(eqi ((rdL b0 b2 D_api_Msg).1) ((rdL b1 b2 D_api_Msg).1) && (eqs (((rdL b0 b2 D_api_Msg).2).1) (((rdL b1 b2 D_api_Msg).2).1) && (eqs ((((rdL b0 b2 D_api_Msg).2).2).1) ((((rdL b1 b2 D_api_Msg).2).2).1) && (eqs ((((((rdL b0 b2 D_api_Msg).2).2).2).1).1) ((((((rdL b1 b2 D_api_Msg).2).2).2).1).1) && (eqs ((((((rdL b0 b2 D_api_Msg).2).2).2).1).2) ((((((rdL b1 b2 D_api_Msg).2).2).2).1).2) && (eqs ((((((rdL b0 b2 D_api_Msg).2).2).2).2).1) ((((((rdL b1 b2 D_api_Msg).2).2).2).2).1) && (eqs (((((((rdL b0 b2 D_api_Msg).2).2).2).2).2).1) (((((((rdL b1 b2 D_api_Msg).2).2).2).2).2).1) && (eqi (((((((rdL b0 b2 D_api_Msg).2).2).2).2).2).2) (((((((rdL b1 b2 D_api_Msg).2).2).2).2).2).2) && true)))))))))
  bif x2 then
  (some (.inl (false, ())))
  else
  (rec b0 b1 (IntKind.wrap .i64 (b2 + (1 : Int)))))))
  else
  (some (.inr ((), ())))
def ref05_SameMsgs_l0 (N n : Nat) (b0 : (List V_api_Msg)) (b1 : (List V_api_Msg)) (b2 : Int) : Option ((Bool × Unit) ⊕ (Unit × Unit)) :=
  iter (fun (rec : (((List V_api_Msg) × ((List V_api_Msg) × Int)) × Unit) → Option ((Bool × Unit) ⊕ (Unit × Unit))) v => ref05_SameMsgs_l0_step N (fun b0 b1 b2 => rec ((b0, (b1, b2)), ())) v.1.1 v.1.2.1 v.1.2.2) n ((b0, (b1, b2)), ())
theorem ref05_SameMsgs_l0_succ (N n : Nat) (b0 : (List V_api_Msg)) (b1 : (List V_api_Msg)) (b2 : Int) : ref05_SameMsgs_l0 N (n + 1) b0 b1 b2 = ref05_SameMsgs_l0_step N (fun b0  b1  b2  => ref05_SameMsgs_l0 N n b0 b1 b2) b0 b1 b2 := rfl
def ref05_SameMsgs (N : Nat) (a0 : (List V_api_Msg)) (a1 : (List V_api_Msg)) : Option (Bool) :=
  let x1 := (!(eqi (List.length a0 : Int) (List.length a1 : Int)))
  bif x1 then
  (some false)
  else
  (match ref05_SameMsgs_l0 N N a0 a1 (0 : Int) with
  | some r3 => (match r3 with
  | .inl r4 => (some r4.1)
  | .inr r5 => (some true))
  | none => none)
def ref10_Same_l4_step (N : Nat) (rec : Int → (List V_api_Pair) → (List (List UInt8)) → (List Int) → (List V_api_Sum) → (List V_api_Msg) → (List V_api_Pair) → (List (List UInt8)) → (List Int) → (List V_api_Sum) → (List V_api_Msg) → Option ((Bool × Unit) ⊕ (Unit × Unit))) (b0 : Int) (b1 : (List V_api_Pair)) (b2 : (List (List UInt8))) (b3 : (List Int)) (b4 : (List V_api_Sum)) (b5 : (List V_api_Msg)) (b6 : (List V_api_Pair)) (b7 : (List (List UInt8))) (b8 : (List Int)) (b9 : (List V_api_Sum)) (b10 : (List V_api_Msg)) : Option ((Bool × Unit) ⊕ (Unit × Unit)) :=
  bif (decide (b0 < (List.length b4 : Int))) then
  (gd (inB b0 (List.length b4))
  (gd (inB b0 (List.length b9))
  (let x13 := (!(eqi (((rdL b4 b0 D_api_Sum).1).1) (((rdL b9 b0 D_api_Sum).1).1) && (eqi (((rdL b4 b0 D_api_Sum).1).2) (((rdL b9 b0 D_api_Sum).1).2) && (eqi (((rdL b4 b0 D_api_Sum).2).1) (((rdL b9 b0 D_api_Sum).2).1) && (eqi (((rdL b4 b0 D_api_Sum).2).2) (((rdL b9 b0 D_api_Sum).2).2) && true)))))
  bif x13 then
  (some (.inl (false, ())))
  else
  (rec (IntKind.wrap .i64 (b0 + (1 : Int))) b1 b2 b3 b4 b5 b6 b7 b8 b9 b10))))
  else
  (some (.inr ((), ())))
def ref10_Same_l4 (N n : Nat) (b0 : Int) (b1 : (List V_api_Pair)) (b2 : (List (List UInt8))) (b3 : (List Int)) (b4 : (List V_api_Sum)) (b5 : (List V_api_Msg)) (b6 : (List V_api_Pair)) (b7 : (List (List UInt8))) (b8 : (List Int)) (b9 : (List V_api_Sum)) (b10 : (List V_api_Msg)) : Option ((Bool × Unit) ⊕ (Unit × Unit)) :=
  iter (fun (rec : ((Unit × (Unit × Int)) × (((List V_api_Pair) × ((List (List UInt8)) × ((List Int) × ((List V_api_Sum) × (List V_api_Msg))))) × (((List V_api_Pair) × ((List (List UInt8)) × ((List Int) × ((List V_api_Sum) × (List V_api_Msg))))) × Unit))) → Option ((Bool × Unit) ⊕ (Unit × Unit))) v => ref10_Same_l4_step N (fun b0 b1 b2 b3 b4 b5 b6 b7 b8 b9 b10 => rec (((), ((), b0)), ((b1, (b2, (b3, (b4, b5)))), ((b6, (b7, (b8, (b9, b10)))), ())))) v.1.2.2 v.2.1.1 v.2.1.2.1 v.2.1.2.2.1 v.2.1.2.2.2.1 v.2.1.2.2.2.2 v.2.2.1.1 v.2.2.1.2.1 v.2.2.1.2.2.1 v.2.2.1.2.2.2.1 v.2.2.1.2.2.2.2) n (((), ((), b0)), ((b1, (b2, (b3, (b4, b5)))), ((b6, (b7, (b8, (b9, b10)))), ())))
theorem ref10_Same_l4_succ (N n : Nat) (b0 : Int) (b1 : (List V_api_Pair)) (b2 : (List (List UInt8))) (b3 : (List Int)) (b4 : (List V_api_Sum)) (b5 : (List V_api_Msg)) (b6 : (List V_api_Pair)) (b7 : (List (List UInt8))) (b8 : (List Int)) (b9 : (List V_api_Sum)) (b10 : (List V_api_Msg)) : ref10_Same_l4 N (n + 1) b0 b1 b2 b3 b4 b5 b6 b7 b8 b9 b10 = ref10_Same_l4_step N (fun b0  b1  b2  b3  b4  b5  b6  b7  b8  b9  b10  => ref10_Same_l4 N n b0 b1 b2 b3 b4 b5 b6 b7 b8 b9 b10) b0 b1 b2 b3 b4 b5 b6 b7 b8 b9 b10 := rfl
def ref10_Same_l3_step (N : Nat) (rec : Int → (List V_api_Pair) → (List (List UInt8)) → (List Int) → (List V_api_Sum) → (List V_api_Msg) → (List V_api_Pair) → (List (List UInt8)) → (List Int) → (List V_api_Sum) → (List V_api_Msg) → Option ((Bool × Unit) ⊕ ((Unit × Unit) × (((List V_api_Pair) × ((List (List UInt8)) × ((List Int) × ((List V_api_Sum) × (List V_api_Msg))))) × (((List V_api_Pair) × ((List (List UInt8)) × ((List Int) × ((List V_api_Sum) × (List V_api_Msg))))) × Unit))))) (b0 : Int) (b1 : (List V_api_Pair)) (b2 : (List (List UInt8))) (b3 : (List Int)) (b4 : (List V_api_Sum)) (b5 : (List V_api_Msg)) (b6 : (List V_api_Pair)) (b7 : (List (List UInt8))) (b8 : (List Int)) (b9 : (List V_api_Sum)) (b10 : (List V_api_Msg)) : Option ((Bool × Unit) ⊕ ((Unit × Unit) × (((List V_api_Pair) × ((List (List UInt8)) × ((List Int) × ((List V_api_Sum) × (List V_api_Msg))))) × (((List V_api_Pair) × ((List (List UInt8)) × ((List Int) × ((List V_api_Sum) × (List V_api_Msg))))) × Unit)))) :=
  bif (decide (b0 < (List.length b3 : Int))) then
  (gd (inB b0 (List.length b3))
  (gd (inB b0 (List.length b8))
  (let x9 := (!(eqi (rdL b3 b0 (0 : Int)) (rdL b8 b0 (0 : Int))))
  bif x9 then
  (some (.inl (false, ())))
  else
  (rec (IntKind.wrap .i64 (b0 + (1 : Int))) b1 b2 b3 b4 b5 b6 b7 b8 b9 b10))))
  else
  (some (.inr (((), ()), ((b1, (b2, (b3, (b4, b5)))), ((b6, (b7, (b8, (b9, b10)))), ())))))
def ref10_Same_l3 (N n : Nat) (b0 : Int) (b1 : (List V_api_Pair)) (b2 : (List (List UInt8))) (b3 : (List Int)) (b4 : (List V_api_Sum)) (b5 : (List V_api_Msg)) (b6 : (List V_api_Pair)) (b7 : (List (List UInt8))) (b8 : (List Int)) (b9 : (List V_api_Sum)) (b10 : (List V_api_Msg)) : Option ((Bool × Unit) ⊕ ((Unit × Unit) × (((List V_api_Pair) × ((List (List UInt8)) × ((List Int) × ((List V_api_Sum) × (List V_api_Msg))))) × (((List V_api_Pair) × ((List (List UInt8)) × ((List Int) × ((List V_api_Sum) × (List V_api_Msg))))) × Unit)))) :=
  iter (fun (rec : ((Unit × (Unit × Int)) × (((List V_api_Pair) × ((List (List UInt8)) × ((List Int) × ((List V_api_Sum) × (List V_api_Msg))))) × (((List V_api_Pair) × ((List (List UInt8)) × ((List Int) × ((List V_api_Sum) × (List V_api_Msg))))) × Unit))) → Option ((Bool × Unit) ⊕ ((Unit × Unit) × (((List V_api_Pair) × ((List (List UInt8)) × ((List Int) × ((List V_api_Sum) × (List V_api_Msg))))) × (((List V_api_Pair) × ((List (List UInt8)) × ((List Int) × ((List V_api_Sum) × (List V_api_Msg))))) × Unit))))) v => ref10_Same_l3_step N (fun b0 b1 b2 b3 b4 b5 b6 b7 b8 b9 b10 => rec (((), ((), b0)), ((b1, (b2, (b3, (b4, b5)))), ((b6, (b7, (b8, (b9, b10)))), ())))) v.1.2.2 v.2.1.1 v.2.1.2.1 v.2.1.2.2.1 v.2.1.2.2.2.1 v.2.1.2.2.2.2 v.2.2.1.1 v.2.2.1.2.1 v.2.2.1.2.2.1 v.2.2.1.2.2.2.1 v.2.2.1.2.2.2.2) n (((), ((), b0)), ((b1, (b2, (b3, (b4, b5)))), ((b6, (b7, (b8, (b9, b10)))), ())))
theorem ref10_Same_l3_succ (N n : Nat) (b0 : Int) (b1 : (List V_api_Pair)) (b2 : (List (List UInt8))) (b3 : (List Int)) (b4 : (List V_api_Sum)) (b5 : (List V_api_Msg)) (b6 : (List V_api_Pair)) (b7 : (List (List UInt8))) (b8 : (List Int)) (b9 : (List V_api_Sum)) (b10 : (List V_api_Msg)) : ref10_Same_l3 N (n + 1) b0 b1 b2 b3 b4 b5 b6 b7 b8 b9 b10 = ref10_Same_l3_step N (fun b0  b1  b2  b3  b4  b5  b6  b7  b8  b9  b10  => ref10_Same_l3 N n b0 b1 b2 b3 b4 b5 b6 b7 b8 b9 b10) b0 b1 b2 b3 b4 b5 b6 b7 b8 b9 b10 := rfl
def ref10_Same_l2_step (N : Nat) (rec : Int → (List V_api_Pair) → (List (List UInt8)) → (List Int) → (List V_api_Sum) → (List V_api_Msg) → (List V_api_Pair) → (List (List UInt8)) → (List Int) → (List V_api_Sum) → (List V_api_Msg) → Option ((Bool × Unit) ⊕ ((Unit × Unit) × (((List V_api_Pair) × ((List (List UInt8)) × ((List Int) × ((List V_api_Sum) × (List V_api_Msg))))) × (((List V_api_Pair) × ((List (List UInt8)) × ((List Int) × ((List V_api_Sum) × (List V_api_Msg))))) × Unit))))) (b0 : Int) (b1 : (List V_api_Pair)) (b2 : (List (List UInt8))) (b3 : (List Int)) (b4 : (List V_api_Sum)) (b5 : (List V_api_Msg)) (b6 : (List V_api_Pair)) (b7 : (List (List UInt8))) (b8 : (List Int)) (b9 : (List V_api_Sum)) (b10 : (List V_api_Msg)) : Option ((Bool × Unit) ⊕ ((Unit × Unit) × (((List V_api_Pair) × ((List (List UInt8)) × ((List Int) × ((List V_api_Sum) × (List V_api_Msg))))) × (((List V_api_Pair) × ((List (List UInt8)) × ((List Int) × ((List V_api_Sum) × (List V_api_Msg))))) × Unit)))) :=
  bif (decide (b0 < (List.length b2 : Int))) then
  (gd (inB b0 (List.length b2))
  (gd (inB b0 (List.length b7))
  (let x5 := (!(eqs (rdL b2 b0 ([] : List UInt8)) (rdL b7 b0 ([] : List UInt8))))
  bif x5 then
  (some (.inl (false, ())))
  else
  (rec (IntKind.wrap .i64 (b0 + (1 : Int))) b1 b2 b3 b4 b5 b6 b7 b8 b9 b10))))
  else
  (some (.inr (((), ()), ((b1, (b2, (b3, (b4, b5)))), ((b6, (b7, (b8, (b9, b10)))), ())))))
def ref10_Same_l2 (N n : Nat) (b0 : Int) (b1 : (List V_api_Pair)) (b2 : (List (List UInt8))) (b3 : (List Int)) (b4 : (List V_api_Sum)) (b5 : (List V_api_Msg)) (b6 : (List V_api_Pair)) (b7 : (List (List UInt8))) (b8 : (List Int)) (b9 : (List V_api_Sum)) (b10 : (List V_api_Msg)) : Option ((Bool × Unit) ⊕ ((Unit × Unit) × (((List V_api_Pair) × ((List (List UInt8)) × ((List Int) × ((List V_api_Sum) × (List V_api_Msg))))) × (((List V_api_Pair) × ((List (List UInt8)) × ((List Int) × ((List V_api_Sum) × (List V_api_Msg))))) × Unit)))) :=
  iter (fun (rec : ((Unit × (Unit × Int)) × (((List V_api_Pair) × ((List (List UInt8)) × ((List Int) × ((List V_api_Sum) × (List V_api_Msg))))) × (((List V_api_Pair) × ((List (List UInt8)) × ((List Int) × ((List V_api_Sum) × (List V_api_Msg))))) × Unit))) → Option ((Bool × Unit) ⊕ ((Unit × Unit) × (((List V_api_Pair) × ((List (List UInt8)) × ((List Int) × ((List V_api_Sum) × (List V_api_Msg))))) × (((List V_api_Pair) × ((List (List UInt8)) × ((List Int) × ((List V_api_Sum) × (List V_api_Msg))))) × Unit))))) v => ref10_Same_l2_step N (fun b0 b1 b2 b3 b4 b5 b6 b7 b8 b9 b10 => rec (((), ((), b0)), ((b1, (b2, (b3, (b4, b5)))), ((b6, (b7, (b8, (b9, b10)))), ())))) v.1.2.2 v.2.1.1 v.2.1.2.1 v.2.1.2.2.1 v.2.1.2.2.2.1 v.2.1.2.2.2.2 v.2.2.1.1 v.2.2.1.2.1 v.2.2.1.2.2.1 v.2.2.1.2.2.2.1 v.2.2.1.2.2.2.2) n (((), ((), b0)), ((b1, (b2, (b3, (b4, b5)))), ((b6, (b7, (b8, (b9, b10)))), ())))
theorem ref10_Same_l2_succ (N n : Nat) (b0 : Int) (b1 : (List V_api_Pair)) (b2 : (List (List UInt8))) (b3 : (List Int)) (b4 : (List V_api_Sum)) (b5 : (List V_api_Msg)) (b6 : (List V_api_Pair)) (b7 : (List (List UInt8))) (b8 : (List Int)) (b9 : (List V_api_Sum)) (b10 : (List V_api_Msg)) : ref10_Same_l2 N (n + 1) b0 b1 b2 b3 b4 b5 b6 b7 b8 b9 b10 = ref10_Same_l2_step N (fun b0  b1  b2  b3  b4  b5  b6  b7  b8  b9  b10  => ref10_Same_l2 N n b0 b1 b2 b3 b4 b5 b6 b7 b8 b9 b10) b0 b1 b2 b3 b4 b5 b6 b7 b8 b9 b10 := rfl
def ref10_Same_p1 (N : Nat) (b0 : Bool) (b1 : (List V_api_Pair)) (b2 : (List (List UInt8))) (b3 : (List Int)) (b4 : (List V_api_Sum)) (b5 : (List V_api_Msg)) (b6 : (List V_api_Pair)) (b7 : (List (List UInt8))) (b8 : (List Int)) (b9 : (List V_api_Sum)) (b10 : (List V_api_Msg)) : Option ((Bool × Unit) ⊕ ((Unit × Unit) × (((List V_api_Pair) × ((List (List UInt8)) × ((List Int) × ((List V_api_Sum) × (List V_api_Msg))))) × (((List V_api_Pair) × ((List (List UInt8)) × ((List Int) × ((List V_api_Sum) × (List V_api_Msg))))) × Unit)))) :=
  bif b0 then
  (some (.inl (false, ())))
  else
  (some (.inr (((), ()), ((b1, (b2, (b3, (b4, b5)))), ((b6, (b7, (b8, (b9, b10)))), ())))))
def ref10_Same_p0 (N : Nat) (b0 : (List V_api_Pair)) (b1 : (List (List UInt8))) (b2 : (List Int)) (b3 : (List V_api_Sum)) (b4 : (List V_api_Msg)) (b5 : (List V_api_Pair)) (b6 : (List (List UInt8))) (b7 : (List Int)) (b8 : (List V_api_Sum)) (b9 : (List V_api_Msg)) : Option ((Bool × Unit)) :=
  match ref10_Same_l2 N N (0 : Int) b0 b1 b2 b3 b4 b5 b6 b7 b8 b9 with
  | some r6 => (match r6 with
  | .inl r7 => (some (r7.1, ()))
  | .inr r8 => (match ref10_Same_l3 N N (0 : Int) r8.2.1.1 r8.2.1.2.1 r8.2.1.2.2.1 r8.2.1.2.2.2.1 r8.2.1.2.2.2.2 r8.2.2.1.1 r8.2.2.1.2.1 r8.2.2.1.2.2.1 r8.2.2.1.2.2.2.1 r8.2.2.1.2.2.2.2 with
  | some r10 => (match r10 with
  | .inl r11 => (some (r11.1, ()))
  | .inr r12 => (match ref10_Same_l4 N N (0 : Int) r12.2.1.1 r12.2.1.2.1 r12.2.1.2.2.1 r12.2.1.2.2.2.1 r12.2.1.2.2.2.2 r12.2.2.1.1 r12.2.2.1.2.1 r12.2.2.1.2.2.1 r12.2.2.1.2.2.2.1 r12.2.2.1.2.2.2.2 with
  | some r14 => (match r14 with
  | .inl r15 => (some (r15.1, ()))
  | .inr r16 => (some (true, ())))
  | none => none))
  | none => none))
  | none => none
def ref10_Same (N : Nat) (a0 : V_api_Node) (a1 : V_api_Node) : Option (Bool) :=
  match ref04_Same N a0.1 a1.1 with
  | some r1 => (bif (!r1) then
  (match ref10_Same_p1 N true a0.1 a0.2.1 a0.2.2.1 a0.2.2.2.1 a0.2.2.2.2 a1.1 a1.2.1 a1.2.2.1 a1.2.2.2.1 a1.2.2.2.2 with
  | some r2 => (match r2 with
  | .inl r3 => (some r3.1)
  | .inr r4 => (match ref10_Same_p0 N r4.2.1.1 r4.2.1.2.1 r4.2.1.2.2.1 r4.2.1.2.2.2.1 r4.2.1.2.2.2.2 r4.2.2.1.1 r4.2.2.1.2.1 r4.2.2.1.2.2.1 r4.2.2.1.2.2.2.1 r4.2.2.1.2.2.2.2 with
  | some r17 => (some r17.1)
  | none => none))
  | none => none)
  else
  (match ref05_SameMsgs N a0.2.2.2.2 a1.2.2.2.2 with
  | some r18 => (bif (!r18) then
  (match ref10_Same_p1 N true a0.1 a0.2.1 a0.2.2.1 a0.2.2.2.1 a0.2.2.2.2 a1.1 a1.2.1 a1.2.2.1 a1.2.2.2.1 a1.2.2.2.2 with
  | some r19 => (match r19 with
  | .inl r20 => (some r20.1)
  | .inr r21 => (match ref10_Same_p0 N r21.2.1.1 r21.2.1.2.1 r21.2.1.2.2.1 r21.2.1.2.2.2.1 r21.2.1.2.2.2.2 r21.2.2.1.1 r21.2.2.1.2.1 r21.2.2.1.2.2.1 r21.2.2.1.2.2.2.1 r21.2.2.1.2.2.2.2 with
  | some r22 => (some r22.1)
  | none => none))
  | none => none)
  else
  (let x23 := (!(eqi (List.length a0.2.1 : Int) (List.length a1.2.1 : Int)))
  bif x23 then
  (match ref10_Same_p1 N true a0.1 a0.2.1 a0.2.2.1 a0.2.2.2.1 a0.2.2.2.2 a1.1 a1.2.1 a1.2.2.1 a1.2.2.2.1 a1.2.2.2.2 with
  | some r24 => (match r24 with
  | .inl r25 => (some r25.1)
  | .inr r26 => (match ref10_Same_p0 N r26.2.1.1 r26.2.1.2.1 r26.2.1.2.2.1 r26.2.1.2.2.2.1 r26.2.1.2.2.2.2 r26.2.2.1.1 r26.2.2.1.2.1 r26.2.2.1.2.2.1 r26.2.2.1.2.2.2.1 r26.2.2.1.2.2.2.2 with
  | some r27 => (some r27.1)
  | none => none))
  | none => none)
  else
  (let x28 := (!(eqi (List.length a0.2.2.1 : Int) (List.length a1.2.2.1 : Int)))
  bif x28 then
  (match ref10_Same_p1 N true a0.1 a0.2.1 a0.2.2.1 a0.2.2.2.1 a0.2.2.2.2 a1.1 a1.2.1 a1.2.2.1 a1.2.2.2.1 a1.2.2.2.2 with
  | some r29 => (match r29 with
  | .inl r30 => (some r30.1)
  | .inr r31 => (match ref10_Same_p0 N r31.2.1.1 r31.2.1.2.1 r31.2.1.2.2.1 r31.2.1.2.2.2.1 r31.2.1.2.2.2.2 r31.2.2.1.1 r31.2.2.1.2.1 r31.2.2.1.2.2.1 r31.2.2.1.2.2.2.1 r31.2.2.1.2.2.2.2 with
  | some r32 => (some r32.1)
  | none => none))
  | none => none)
  else
  (let x33 := (!(eqi (List.length a0.2.2.2.1 : Int) (List.length a1.2.2.2.1 : Int)))
  match ref10_Same_p1 N x33 a0.1 a0.2.1 a0.2.2.1 a0.2.2.2.1 a0.2.2.2.2 a1.1 a1.2.1 a1.2.2.1 a1.2.2.2.1 a1.2.2.2.2 with
  | some r34 => (match r34 with
  | .inl r35 => (some r35.1)
  | .inr r36 => (match ref10_Same_p0 N r36.2.1.1 r36.2.1.2.1 r36.2.1.2.2.1 r36.2.1.2.2.2.1 r36.2.1.2.2.2.2 r36.2.2.1.1 r36.2.2.1.2.1 r36.2.2.1.2.2.1 r36.2.2.1.2.2.2.1 r36.2.2.1.2.2.2.2 with
  | some r37 => (some r37.1)
  | none => none))
  | none => none))))
  | none => none))
  | none => none
def stringslite_CutPrefix (N : Nat) (a0 : (List UInt8)) (a1 : (List UInt8)) : Option (((List UInt8) × Bool)) :=
  match stringslite_HasPrefix N a0 a1 with
  | some r1 => (bif (!r1) then
  (some (a0, false))
  else
  (gd (decide (0 ≤ (List.length a1 : Int)) && (decide ((List.length a1 : Int) ≤ (List.length a0 : Int)) && decide ((List.length a0 : Int) ≤ (List.length a0 : Int))))
  (let x2 := (cut2 a0 (List.length a1 : Int) (List.length a0 : Int))
  some (x2, true))))
  | none => none
def strings_CutPrefix (N : Nat) (a0 : (List UInt8)) (a1 : (List UInt8)) : Option (((List UInt8) × Bool)) :=
  match stringslite_CutPrefix N a0 a1 with
  | some r1 => (some (r1.1, r1.2))
  | none => none
def strings_IndexAny (N : Nat) (a0 : List UInt8) (a1 : List UInt8) : Option (Int) :=
  anyF a0 a1
def path_rest_upTo_m (N : Nat) (a0 : (List UInt8)) (a1 : (List UInt8)) (a2 : Int) (a3 : Int) (a4 : (List UInt8)) : Option ((((List UInt8) × Int) × (((List UInt8) × ((List UInt8) × (Int × (Int × (List UInt8))))) × Unit))) :=
  match strings_IndexAny N a0 ([1, 2, 3] : List UInt8) with
  | some r1 => (bif (decide (r1 < (0 : Int))) then
  (some ((([] : List UInt8), (0 : Int)), ((a0, (a1, (a2, (a3, a4)))), ())))
  else
  (gd (decide (0 ≤ (0 : Int)) && (decide ((0 : Int) ≤ r1) && decide (r1 ≤ (List.length a0 : Int))))
  (gd (inB r1 (List.length a0))
  (gd (decide (0 ≤ (IntKind.wrap .i64 (r1 + (1 : Int)))) && (decide ((IntKind.wrap .i64 (r1 + (1 : Int))) ≤ (List.length a0 : Int)) && decide ((List.length a0 : Int) ≤ (List.length a0 : Int))))
  (let x2 := (cut2 a0 (IntKind.wrap .i64 (r1 + (1 : Int))) (List.length a0 : Int))
  some (((cut2 a0 (0 : Int) r1), (bt a0 r1)), ((x2, (a1, (a2, (a3, a4)))), ())))))))
  | none => none
def path_place_read_m_p0 (N : Nat) (b0 : Int) (b1 : Bool) (b2 : (List UInt8)) (b3 : (List UInt8)) (b4 : Int) (b5 : Int) (b6 : (List UInt8)) : Option ((Unit × (((List UInt8) × ((List UInt8) × (Int × (Int × (List UInt8))))) × Unit))) :=
  bif b1 then
  (some ((), ((b2, (b3, ((4 : Int), (b5, b6)))), ())))
  else
  (bif (eqi b0 (2 : Int)) then
  (bif (eqi (List.length b2 : Int) (2 : Int)) then
  (gd (inB (0 : Int) (List.length b2))
  (gd (decide (0 ≤ (8 : Int)))
  (let x3 := (IntKind.wrap .i64 ((IntKind.wrap .i64 ((bt b2 (0 : Int)))) * 2 ^ min (Int.toNat (8 : Int)) (IntKind.bits .i64)))
  gd (inB (1 : Int) (List.length b2))
  (let x4 := (IntKind.wrap .i64 (((BitVec.ofInt (IntKind.bits .i64) x3 ||| BitVec.ofInt (IntKind.bits .i64) (IntKind.wrap .i64 ((bt b2 (1 : Int))))).toNat : Int)))
  some ((), ((b2, (b3, (b4, (x4, b6)))), ()))))))
  else
  (bif (eqi b0 (3 : Int)) then
  (some ((), ((b2, (b3, (b4, (b5, b2)))), ())))
  else
  (some ((), ((b2, (b3, (b4, (b5, b6)))), ())))))
  else
  (bif (eqi b0 (3 : Int)) then
  (some ((), ((b2, (b3, (b4, (b5, b2)))), ())))
  else
  (some ((), ((b2, (b3, (b4, (b5, b6)))), ())))))
def path_place_read_m (N : Nat) (a0 : (List UInt8)) (a1 : (List UInt8)) (a2 : Int) (a3 : Int) (a4 : (List UInt8)) : Option ((Unit × (((List UInt8) × ((List UInt8) × (Int × (Int × (List UInt8))))) × Unit))) :=
  match strings_CutPrefix N a0 ([6] : List UInt8) with
  | some r1 => (match path_rest_upTo_m N r1.1 a1 a2 a3 a4 with
  | some r2 => (bif r1.2 then
  (match path_place_read_m_p0 N r2.1.2 (eqi r2.1.2 (1 : Int)) r2.2.1.1 r2.1.1 (IntKind.wrap .i64 (r2.1.2)) r2.2.1.2.2.2.1 r2.2.1.2.2.2.2 with
  | some r5 => (some ((), ((r5.2.1.1, (r5.2.1.2.1, (r5.2.1.2.2.1, (r5.2.1.2.2.2.1, r5.2.1.2.2.2.2)))), ())))
  | none => none)
  else
  (match path_place_read_m_p0 N r2.1.2 false r2.2.1.1 r2.1.1 (IntKind.wrap .i64 (r2.1.2)) r2.2.1.2.2.2.1 r2.2.1.2.2.2.2 with
  | some r6 => (some ((), ((r6.2.1.1, (r6.2.1.2.1, (r6.2.1.2.2.1, (r6.2.1.2.2.2.1, r6.2.1.2.2.2.2)))), ())))
  | none => none))
  | none => none)
  | none => none
def stringslite_IndexByte (N : Nat) (a0 : List UInt8) (a1 : Int) : Option (Int) :=
  some (idxB a0 a1)
def stringslite_Index (N : Nat) (a0 : (List UInt8)) (a1 : (List UInt8)) : Option (Int) :=
  bif (eqi (List.length a1 : Int) (0 : Int)) then
  (some (0 : Int))
  else
  (bif (eqs a1 a0) then
  (some (0 : Int))
  else
  (bif (eqi (List.length a1 : Int) (1 : Int)) then
  (gd (inB (0 : Int) (List.length a1))
  (match stringslite_IndexByte N a0 (bt a1 (0 : Int)) with
  | some r1 => (some r1)
  | none => none))
  else
  (let x2 := (decide ((List.length a0 : Int) ≤ (List.length a1 : Int)))
  bif x2 then
  (some (-1 : Int))
  else
  (none))))
def stringslite_Cut (N : Nat) (a0 : (List UInt8)) (a1 : (List UInt8)) : Option (((List UInt8) × ((List UInt8) × Bool))) :=
  match stringslite_Index N a0 a1 with
  | some r1 => (bif (decide ((0 : Int) ≤ r1)) then
  (gd (decide (0 ≤ (0 : Int)) && (decide ((0 : Int) ≤ r1) && decide (r1 ≤ (List.length a0 : Int))))
  (let x2 := (IntKind.wrap .i64 (r1 + (List.length a1 : Int)))
  gd (decide (0 ≤ x2) && (decide (x2 ≤ (List.length a0 : Int)) && decide ((List.length a0 : Int) ≤ (List.length a0 : Int))))
  (some ((cut2 a0 (0 : Int) r1), ((cut2 a0 x2 (List.length a0 : Int)), true)))))
  else
  (some (a0, (([] : List UInt8), false))))
  | none => none
def strings_Cut (N : Nat) (a0 : (List UInt8)) (a1 : (List UInt8)) : Option (((List UInt8) × ((List UInt8) × Bool))) :=
  match stringslite_Cut N a0 a1 with
  | some r1 => (some (r1.1, (r1.2.1, r1.2.2)))
  | none => none
def path_isName_c1 (N : Nat) (a0 : Int) : Option (Bool) :=
  bif (decide (a0 < (33 : Int))) then
  (some true)
  else
  (bif (decide ((126 : Int) < a0)) then
  (some true)
  else
  (some (eqi a0 (47 : Int))))
def strings_indexFunc__path_isName_c1 (N : Nat) (a0 : List UInt8) (a1 : Bool) : Option (Int) :=
  some (idxF (path_isName_c1 N) a1 a0)
def strings_IndexFunc__path_isName_c1 (N : Nat) (a0 : (List UInt8)) : Option (Int) :=
  match strings_indexFunc__path_isName_c1 N a0 true with
  | some r1 => (some r1)
  | none => none
def path_isName (N : Nat) (a0 : (List UInt8)) : Option (Bool) :=
  bif (eqs a0 ([] : List UInt8)) then
  (some false)
  else
  (let x1 := (decide ((12 : Int) < (List.length a0 : Int)))
  bif x1 then
  (some false)
  else
  (bif (eqs a0 ([46] : List UInt8)) then
  (some false)
  else
  (bif (eqs a0 ([46, 46] : List UInt8)) then
  (some false)
  else
  (match strings_IndexFunc__path_isName_c1 N a0 with
  | some r2 => (some (decide (r2 < (0 : Int))))
  | none => none))))
def path_Valid_l0_step (N : Nat) (rec : (List UInt8) → Option ((Bool × Unit) ⊕ (Unit × Unit))) (b0 : (List UInt8)) : Option ((Bool × Unit) ⊕ (Unit × Unit)) :=
  bif (!(eqs b0 ([] : List UInt8))) then
  (match strings_Cut N b0 ([47] : List UInt8) with
  | some r1 => (bif (!r1.2.2) then
  (some (.inl (false, ())))
  else
  (match path_isName N r1.1 with
  | some r2 => (bif (!r2) then
  (some (.inl (false, ())))
  else
  (rec r1.2.1))
  | none => none))
  | none => none)
  else
  (some (.inr ((), ())))
def path_Valid_l0 (N n : Nat) (b0 : (List UInt8)) : Option ((Bool × Unit) ⊕ (Unit × Unit)) :=
  iter (fun (rec : ((List UInt8) × Unit) → Option ((Bool × Unit) ⊕ (Unit × Unit))) v => path_Valid_l0_step N (fun b0 => rec (b0, ())) v.1) n (b0, ())
def path_Valid (N : Nat) (a0 : (List UInt8)) : Option (Bool) :=
  match path_Valid_l0 N N a0 with
  | some r3 => (match r3 with
  | .inl r4 => (some r4.1)
  | .inr r5 => (some true))
  | none => none
def strings_Trim (N : Nat) (a0 : List UInt8) (a1 : List UInt8) : Option (List UInt8) :=
  trimF a0 a1
def path_isBody_p0 (N : Nat) (b0 : (List UInt8)) : Option ((Bool × Unit)) :=
  gd (decide (0 ≤ (1 : Int)) && (decide ((1 : Int) ≤ (9 : Int)) && decide ((9 : Int) ≤ (List.length b0 : Int))))
  (match strings_Trim N (cut2 b0 (1 : Int) (9 : Int)) ([48, 49, 50, 51, 52, 53, 54, 55, 56, 57, 97, 98, 99, 100, 101, 102] : List UInt8) with
  | some r1 => (some ((eqs r1 ([] : List UInt8)), ()))
  | none => none)
def path_isBody (N : Nat) (a0 : (List UInt8)) : Option (Bool) :=
  bif (!(eqi (List.length a0 : Int) (10 : Int))) then
  (some false)
  else
  (gd (inB (0 : Int) (List.length a0))
  (bif (!(eqi (bt a0 (0 : Int)) (5 : Int))) then
  (some false)
  else
  (gd (inB (1 : Int) (List.length a0))
  (bif (decide ((55 : Int) < (bt a0 (1 : Int)))) then
  (some false)
  else
  (gd (inB (9 : Int) (List.length a0))
  (bif (!(eqi (bt a0 (9 : Int)) (47 : Int))) then
  (some false)
  else
  (match path_isBody_p0 N a0 with
  | some r2 => (some r2.1)
  | none => none)))))))
def path_Key_p3 (N : Nat) (b0 : Bool) (b1 : (List UInt8)) (b2 : Int) (b3 : Int) (b4 : (List UInt8)) (b5 : (List UInt8)) (b6 : Int) (b7 : Int) (b8 : (List UInt8)) : Option ((((List UInt8) × Int) × Unit) ⊕ (Unit × Unit)) :=
  bif b0 then
  (gd (decide (List.length b1 + List.length ([3] : List UInt8) < maxS))
  (let x8 := (@HAppend.hAppend (List UInt8) (List UInt8) (List UInt8) _ b1 ([3] : List UInt8))
  gd (decide (List.length x8 + List.length b4 < maxS))
  (let x9 := (@HAppend.hAppend (List UInt8) (List UInt8) (List UInt8) _ x8 b4)
  some (.inl ((x9, (0 : Int)), ())))))
  else
  (bif (eqi b2 (4 : Int)) then
  (let x10 := (eqs b1 b5 && (eqi b2 b6 && (eqi b3 b7 && (eqs b4 b8 && true))))
  bif x10 then
  (gd (decide (List.length ([6] : List UInt8) + List.length b1 < maxS))
  (let x11 := (@HAppend.hAppend (List UInt8) (List UInt8) (List UInt8) _ ([6] : List UInt8) b1)
  gd (decide (List.length x11 + List.length ([1] : List UInt8) < maxS))
  (let x12 := (@HAppend.hAppend (List UInt8) (List UInt8) (List UInt8) _ x11 ([1] : List UInt8))
  some (.inl ((x12, (0 : Int)), ())))))
  else
  (some (.inr ((), ()))))
  else
  (some (.inr ((), ()))))
def path_Key_p2 (N : Nat) (b0 : Bool) (b1 : (List UInt8)) (b2 : Int) (b3 : Int) (b4 : (List UInt8)) (b5 : (List UInt8)) (b6 : Int) (b7 : Int) (b8 : (List UInt8)) : Option ((((List UInt8) × Int) × Unit) ⊕ (Unit × Unit)) :=
  bif b0 then
  (gd (decide (0 ≤ (8 : Int)))
  (let x4 := (Int.fdiv b3 (2 ^ min (Int.toNat (8 : Int)) (IntKind.bits .i64)))
  let x5 := ([(2 : Int), (IntKind.wrap .u8 (x4)), (IntKind.wrap .u8 (b3))] : List Int)
  gd (decide (List.length b1 + List.length (bytesU x5) < maxS))
  (let x6 := (@HAppend.hAppend (List UInt8) (List UInt8) (List UInt8) _ b1 (bytesU x5))
  some (.inl ((x6, (0 : Int)), ())))))
  else
  (bif (eqi b2 (3 : Int)) then
  (bif (eqi b3 (0 : Int)) then
  (match path_isName N b4 with
  | some r7 => (match path_Key_p3 N r7 b1 b2 b3 b4 b5 b6 b7 b8 with
  | some r13 => (match r13 with
  | .inl r14 => (some (.inl ((r14.1.1, r14.1.2), ())))
  | .inr r15 => (some (.inr ((), ()))))
  | none => none)
  | none => none)
  else
  (match path_Key_p3 N false b1 b2 b3 b4 b5 b6 b7 b8 with
  | some r16 => (match r16 with
  | .inl r17 => (some (.inl ((r17.1.1, r17.1.2), ())))
  | .inr r18 => (some (.inr ((), ()))))
  | none => none))
  else
  (match path_Key_p3 N false b1 b2 b3 b4 b5 b6 b7 b8 with
  | some r19 => (match r19 with
  | .inl r20 => (some (.inl ((r20.1.1, r20.1.2), ())))
  | .inr r21 => (some (.inr ((), ()))))
  | none => none))
def path_Key_p1 (N : Nat) (b0 : Bool) (b1 : (List UInt8)) (b2 : Int) (b3 : Int) (b4 : (List UInt8)) (b5 : (List UInt8)) (b6 : Int) (b7 : Int) (b8 : (List UInt8)) : Option ((((List UInt8) × Int) × Unit) ⊕ (Unit × Unit)) :=
  bif b0 then
  (bif (eqi b2 (1 : Int)) then
  (let x2 := (eqs b1 b5 && (eqi b2 b6 && (eqi b3 b7 && (eqs b4 b8 && true))))
  bif x2 then
  (gd (decide (List.length b1 + List.length ([1] : List UInt8) < maxS))
  (let x3 := (@HAppend.hAppend (List UInt8) (List UInt8) (List UInt8) _ b1 ([1] : List UInt8))
  some (.inl ((x3, (0 : Int)), ()))))
  else
  (bif (eqi b2 (2 : Int)) then
  (bif (eqs b4 ([] : List UInt8)) then
  (bif (decide ((0 : Int) ≤ b3)) then
  (match path_Key_p2 N (decide (b3 ≤ (60000 : Int))) b1 b2 b3 b4 b5 b6 b7 b8 with
  | some r22 => (match r22 with
  | .inl r23 => (some (.inl ((r23.1.1, r23.1.2), ())))
  | .inr r24 => (some (.inr ((), ()))))
  | none => none)
  else
  (match path_Key_p2 N false b1 b2 b3 b4 b5 b6 b7 b8 with
  | some r25 => (match r25 with
  | .inl r26 => (some (.inl ((r26.1.1, r26.1.2), ())))
  | .inr r27 => (some (.inr ((), ()))))
  | none => none))
  else
  (match path_Key_p2 N false b1 b2 b3 b4 b5 b6 b7 b8 with
  | some r28 => (match r28 with
  | .inl r29 => (some (.inl ((r29.1.1, r29.1.2), ())))
  | .inr r30 => (some (.inr ((), ()))))
  | none => none))
  else
  (match path_Key_p2 N false b1 b2 b3 b4 b5 b6 b7 b8 with
  | some r31 => (match r31 with
  | .inl r32 => (some (.inl ((r32.1.1, r32.1.2), ())))
  | .inr r33 => (some (.inr ((), ()))))
  | none => none)))
  else
  (bif (eqi b2 (2 : Int)) then
  (bif (eqs b4 ([] : List UInt8)) then
  (bif (decide ((0 : Int) ≤ b3)) then
  (match path_Key_p2 N (decide (b3 ≤ (60000 : Int))) b1 b2 b3 b4 b5 b6 b7 b8 with
  | some r34 => (match r34 with
  | .inl r35 => (some (.inl ((r35.1.1, r35.1.2), ())))
  | .inr r36 => (some (.inr ((), ()))))
  | none => none)
  else
  (match path_Key_p2 N false b1 b2 b3 b4 b5 b6 b7 b8 with
  | some r37 => (match r37 with
  | .inl r38 => (some (.inl ((r38.1.1, r38.1.2), ())))
  | .inr r39 => (some (.inr ((), ()))))
  | none => none))
  else
  (match path_Key_p2 N false b1 b2 b3 b4 b5 b6 b7 b8 with
  | some r40 => (match r40 with
  | .inl r41 => (some (.inl ((r41.1.1, r41.1.2), ())))
  | .inr r42 => (some (.inr ((), ()))))
  | none => none))
  else
  (match path_Key_p2 N false b1 b2 b3 b4 b5 b6 b7 b8 with
  | some r43 => (match r43 with
  | .inl r44 => (some (.inl ((r44.1.1, r44.1.2), ())))
  | .inr r45 => (some (.inr ((), ()))))
  | none => none)))
  else
  (some (.inr ((), ())))
def path_Key_p0 (N : Nat) : Option ((((List UInt8) × Int) × Unit)) :=
  some ((([] : List UInt8), (12 : Int)), ())
def path_Key (N : Nat) (a0 : V_api_Place) : Option (((List UInt8) × Int)) :=
  match path_Valid N a0.1 with
  | some r1 => (bif r1 then
  (match path_Key_p1 N true a0.1 a0.2.1 a0.2.2.1 a0.2.2.2 a0.1 a0.2.1 (0 : Int) ([] : List UInt8) with
  | some r46 => (match r46 with
  | .inl r47 => (some (r47.1.1, r47.1.2))
  | .inr r48 => (match path_Key_p0 N with
  | some r49 => (some (r49.1.1, r49.1.2))
  | none => none))
  | none => none)
  else
  (match path_isBody N a0.1 with
  | some r50 => (bif r50 then
  (match path_Key_p1 N (!(eqi a0.2.1 (4 : Int))) a0.1 a0.2.1 a0.2.2.1 a0.2.2.2 a0.1 a0.2.1 (0 : Int) ([] : List UInt8) with
  | some r51 => (match r51 with
  | .inl r52 => (some (r52.1.1, r52.1.2))
  | .inr r53 => (match path_Key_p0 N with
  | some r54 => (some (r54.1.1, r54.1.2))
  | none => none))
  | none => none)
  else
  (match path_Key_p1 N false a0.1 a0.2.1 a0.2.2.1 a0.2.2.2 a0.1 a0.2.1 (0 : Int) ([] : List UInt8) with
  | some r55 => (match r55 with
  | .inl r56 => (some (r56.1.1, r56.1.2))
  | .inr r57 => (match path_Key_p0 N with
  | some r58 => (some (r58.1.1, r58.1.2))
  | none => none))
  | none => none))
  | none => none))
  | none => none
def path_Place (N : Nat) (a0 : (List UInt8)) : Option ((V_api_Place × Int)) :=
  match path_place_read_m N a0 ([] : List UInt8) (0 : Int) (0 : Int) ([] : List UInt8) with
  | some r1 => (match path_Key N r1.2.1.2 with
  | some r2 => (bif (!(eqi r2.2 (0 : Int))) then
  (some ((([] : List UInt8), ((0 : Int), ((0 : Int), ([] : List UInt8)))), (12 : Int)))
  else
  (bif (!(eqs r2.1 a0)) then
  (some ((([] : List UInt8), ((0 : Int), ((0 : Int), ([] : List UInt8)))), (12 : Int)))
  else
  (some (r1.2.1.2, (0 : Int)))))
  | none => none)
  | none => none
def entry_Charge (N : Nat) (a0 : V_api_Pair) : Option (V_api_Use) :=
  match path_Place N a0.1 with
  | some r1 => (bif (!(eqi r1.2 (0 : Int))) then
  (some ((0 : Int), (0 : Int)))
  else
  (bif (eqi r1.1.2.1 (1 : Int)) then
  (some ((1 : Int), (0 : Int)))
  else
  (bif (eqi r1.1.2.1 (4 : Int)) then
  (some ((0 : Int), (0 : Int)))
  else
  (some ((0 : Int), (List.length a0.2.1 : Int))))))
  | none => none
def entry_Total_l0_step (N : Nat) (rec : (List V_api_Pair) → Int → Int → Int → Int → Int → Int → Option (((Unit × Unit) × ((Int × Int) × ((Int × Int) × Unit))))) (b0 : (List V_api_Pair)) (b1 : Int) (b2 : Int) (b3 : Int) (b4 : Int) (b5 : Int) (b6 : Int) : Option (((Unit × Unit) × ((Int × Int) × ((Int × Int) × Unit)))) :=
  bif (decide (b2 < b1)) then
  (gd (inB b2 (List.length b0))
  (match entry_Charge N (rdL b0 b2 D_api_Pair) with
  | some r1 => (rec b0 b1 (IntKind.wrap .i64 (b2 + (1 : Int))) b3 b4 (IntKind.wrap .i64 (b5 + r1.1)) (IntKind.wrap .i64 (b6 + r1.2)))
  | none => none))
  else
  (some (((), ()), ((b3, b4), ((b5, b6), ()))))
def entry_Total_l0 (N n : Nat) (b0 : (List V_api_Pair)) (b1 : Int) (b2 : Int) (b3 : Int) (b4 : Int) (b5 : Int) (b6 : Int) : Option (((Unit × Unit) × ((Int × Int) × ((Int × Int) × Unit)))) :=
  iter (fun (rec : ((Unit × (Unit × ((List V_api_Pair) × (Int × Int)))) × ((Int × Int) × ((Int × Int) × Unit))) → Option (((Unit × Unit) × ((Int × Int) × ((Int × Int) × Unit))))) v => entry_Total_l0_step N (fun b0 b1 b2 b3 b4 b5 b6 => rec (((), ((), (b0, (b1, b2)))), ((b3, b4), ((b5, b6), ())))) v.1.2.2.1 v.1.2.2.2.1 v.1.2.2.2.2 v.2.1.1 v.2.1.2 v.2.2.1.1 v.2.2.1.2) n (((), ((), (b0, (b1, b2)))), ((b3, b4), ((b5, b6), ())))
def entry_Total (N : Nat) (a0 : (List V_api_Pair)) : Option (V_api_Use) :=
  match entry_Total_l0 N N a0 (List.length a0 : Int) (0 : Int) (0 : Int) (0 : Int) (0 : Int) (0 : Int) with
  | some r2 => (some r2.2.2.1)
  | none => none
def node_Sum_c1_m (N : Nat) (a0 : Int) (a1 : Int) (a2 : Int) (a3 : Int) (a4 : Int) (a5 : Int) : Option ((Unit × ((Int × (Int × (Int × Int))) × Unit))) :=
  let x1 := (bif decide ((IntKind.wrap .i64 (a2 + a0)) < (0 : Int)) then (0 : Int) else (IntKind.wrap .i64 (a2 + a0)))
  let x2 := (bif decide ((1000000000000000 : Int) < x1) then (1000000000000000 : Int) else x1)
  let x3 := (bif decide ((1000000000000000 : Int) < (IntKind.wrap .i64 (a3 + a1))) then (1000000000000000 : Int) else (IntKind.wrap .i64 (a3 + a1)))
  some ((), ((x2, (x3, (a4, a5))), ()))
def node_Sum_c1_m_a (N : Nat) (a0 : Int) (a1 : Int) (a2 : Int) (a3 : Int) (a4 : Int) (a5 : Int) : Option ((Unit × ((Int × (Int × (Int × Int))) × Unit))) :=
  let x1 := (bif decide ((IntKind.wrap .i64 (a4 + a0)) < (0 : Int)) then (0 : Int) else (IntKind.wrap .i64 (a4 + a0)))
  let x2 := (bif decide ((1000000000000000 : Int) < x1) then (1000000000000000 : Int) else x1)
  let x3 := (bif decide ((1000000000000000 : Int) < (IntKind.wrap .i64 (a5 + a1))) then (1000000000000000 : Int) else (IntKind.wrap .i64 (a5 + a1)))
  some ((), ((a2, (a3, (x2, x3))), ()))
def node_Sum_c2_m (N : Nat) (a0 : Int) (a1 : Int) (a2 : Int) (a3 : Int) (a4 : Int) (a5 : Int) : Option ((Unit × (Unit × ((Int × (Int × (Int × Int))) × Unit)))) :=
  match node_Sum_c1_m N a0 a1 a2 a3 a4 a5 with
  | some r1 => (match node_Sum_c1_m_a N a0 a1 r1.2.1.1 r1.2.1.2.1 r1.2.1.2.2.1 r1.2.1.2.2.2 with
  | some r2 => (some ((), ((), ((r2.2.1.1, (r2.2.1.2.1, (r2.2.1.2.2.1, r2.2.1.2.2.2))), ()))))
  | none => none)
  | none => none
def node_kind (N : Nat) (a0 : (List UInt8)) : Option (Int) :=
  bif (eqs a0 ([] : List UInt8)) then
  (some (0 : Int))
  else
  (gd (inB (0 : Int) (List.length a0))
  (bif (eqi (bt a0 (0 : Int)) (6 : Int)) then
  (some (6 : Int))
  else
  (match path_Valid N a0 with
  | some r1 => (bif r1 then
  (some (1 : Int))
  else
  (gd (decide (List.length a0 + List.length ([1] : List UInt8) < maxS))
  (let x2 := (@HAppend.hAppend (List UInt8) (List UInt8) (List UInt8) _ a0 ([1] : List UInt8))
  match path_Place N x2 with
  | some r3 => (bif (eqi r3.2 (0 : Int)) then
  (bif (eqs r3.1.1 a0) then
  (some (5 : Int))
  else
  (some (0 : Int)))
  else
  (some (0 : Int)))
  | none => none)))
  | none => none)))
def node_alike (N : Nat) (a0 : (List UInt8)) (a1 : (List UInt8)) : Option (Bool) :=
  match node_kind N a0 with
  | some r1 => (bif (!(eqi r1 (0 : Int))) then
  (match node_kind N a0 with
  | some r2 => (match node_kind N a1 with
  | some r3 => (some (eqi r2 r3))
  | none => none)
  | none => none)
  else
  (some false))
  | none => none
def node_Sum_p3 (N : Nat) (b0 : (List V_api_Msg)) (b1 : Int) (b2 : Int) (b3 : Bool) (b4 : Int) (b5 : Int) (b6 : Int) (b7 : Int) (b8 : Int) (b9 : Int) (b10 : Int) (b11 : Int) (b12 : Int) (b13 : (List UInt8)) (b14 : (List UInt8)) (b15 : (List UInt8)) (b16 : (List UInt8)) (b17 : (List UInt8)) (b18 : (List UInt8)) (b19 : Int) : Option (((Unit × (Unit × (Unit × ((Unit × Unit) × ((List V_api_Msg) × (Int × Int)))))) × ((Int × (Int × (Int × Int))) × ((Int × (Int × (Int × Int))) × (Unit × Unit))))) :=
  bif b3 then
  (match node_Sum_c1_m N (-1 : Int) (0 : Int) b8 b9 b10 b11 with
  | some r11 => (some (((), ((), ((), (((), ()), (b0, (b1, b2)))))), ((b4, (b5, (b6, b7))), ((r11.2.1.1, (r11.2.1.2.1, (r11.2.1.2.2.1, r11.2.1.2.2.2))), ((), ())))))
  | none => none)
  else
  (bif (eqi b12 (2 : Int)) then
  (match node_Sum_c1_m_a N (-64 : Int) (0 : Int) b8 b9 b10 b11 with
  | some r12 => (some (((), ((), ((), (((), ()), (b0, (b1, b2)))))), ((b4, (b5, (b6, b7))), ((r12.2.1.1, (r12.2.1.2.1, (r12.2.1.2.2.1, r12.2.1.2.2.2))), ((), ())))))
  | none => none)
  else
  (bif (eqi b12 (3 : Int)) then
  (match node_Sum_c2_m N (-1000000000000000 : Int) (0 : Int) b8 b9 b10 b11 with
  | some r13 => (some (((), ((), ((), (((), ()), (b0, (b1, b2)))))), ((b4, (b5, (b6, b7))), ((r13.2.2.1.1, (r13.2.2.1.2.1, (r13.2.2.1.2.2.1, r13.2.2.1.2.2.2))), ((), ())))))
  | none => none)
  else
  (bif (eqi b12 (6 : Int)) then
  (some (((), ((), ((), (((), ()), (b0, (b1, b2)))))), ((b4, (b5, (b6, b7))), ((b8, (b9, (b10, b11))), ((), ())))))
  else
  (match node_alike N b17 b18 with
  | some r14 => (bif (!r14) then
  (match node_Sum_c2_m N (-1000000000000000 : Int) (1000000000000000 : Int) b8 b9 b10 b11 with
  | some r15 => (some (((), ((), ((), (((), ()), (b0, (b1, b2)))))), ((b4, (b5, (b6, b7))), ((r15.2.2.1.1, (r15.2.2.1.2.1, (r15.2.2.1.2.2.1, r15.2.2.1.2.2.2))), ((), ())))))
  | none => none)
  else
  (bif (eqi b12 (5 : Int)) then
  (match node_Sum_c1_m N (-1000000000000000 : Int) b9 b8 b9 b10 b11 with
  | some r16 => (match node_Sum_c1_m_a N (-1000000000000000 : Int) r16.2.1.2.2.2 r16.2.1.1 r16.2.1.2.1 r16.2.1.2.2.1 r16.2.1.2.2.2 with
  | some r17 => (some (((), ((), ((), (((), ()), (b0, (b1, b2)))))), ((b4, (b5, (b6, b7))), ((r17.2.1.1, (r17.2.1.2.1, (r17.2.1.2.2.1, r17.2.1.2.2.2))), ((), ())))))
  | none => none)
  | none => none)
  else
  (match node_Sum_c2_m N (-1000000000000000 : Int) (0 : Int) b8 b9 b10 b11 with
  | some r18 => (some (((), ((), ((), (((), ()), (b0, (b1, b2)))))), ((b4, (b5, (b6, b7))), ((r18.2.2.1.1, (r18.2.2.1.2.1, (r18.2.2.1.2.2.1, r18.2.2.1.2.2.2))), ((), ())))))
  | none => none)))
  | none => none))))
def node_Sum_p2 (N : Nat) (b0 : (List V_api_Msg)) (b1 : Int) (b2 : Int) (b3 : Int) (b4 : Int) (b5 : Int) (b6 : Int) (b7 : Int) (b8 : Int) (b9 : Int) (b10 : Int) : Option (((Unit × (Unit × (Unit × ((Unit × Unit) × ((List V_api_Msg) × (Int × Int)))))) × ((Int × (Int × (Int × Int))) × ((Int × (Int × (Int × Int))) × (Unit × Unit))))) :=
  some (((), ((), ((), (((), ()), (b0, (b1, (IntKind.wrap .i64 (b2 + (1 : Int))))))))), ((b3, (b4, (b5, b6))), ((b7, (b8, (b9, b10))), ((), ()))))
def node_Sum_l1_step (N : Nat) (rec : (List V_api_Msg) → Int → Int → Int → Int → Int → Int → Int → Int → Int → Int → Option (((Unit × Unit) × ((Int × (Int × (Int × Int))) × ((Int × (Int × (Int × Int))) × Unit))))) (b0 : (List V_api_Msg)) (b1 : Int) (b2 : Int) (b3 : Int) (b4 : Int) (b5 : Int) (b6 : Int) (b7 : Int) (b8 : Int) (b9 : Int) (b10 : Int) : Option (((Unit × Unit) × ((Int × (Int × (Int × Int))) × ((Int × (Int × (Int × Int))) × Unit)))) :=
  bif (decide (b2 < b1)) then
  (gd (inB b2 (List.length b0))
  (match path_Place N (((rdL b0 b2 D_api_Msg).2).1) with
  | some r5 => (bif (eqi r5.2 (0 : Int)) then
  (bif (eqi ((rdL b0 b2 D_api_Msg).1) (1 : Int)) then
  (bif (eqi r5.1.2.1 (1 : Int)) then
  (match node_Sum_c1_m N (0 : Int) (1 : Int) b7 b8 b9 b10 with
  | some r6 => (match node_Sum_p2 N b0 b1 b2 b3 b4 b5 b6 r6.2.1.1 r6.2.1.2.1 r6.2.1.2.2.1 r6.2.1.2.2.2 with
  | some r7 => (rec r7.1.2.2.2.2.1 r7.1.2.2.2.2.2.1 r7.1.2.2.2.2.2.2 r7.2.1.1 r7.2.1.2.1 r7.2.1.2.2.1 r7.2.1.2.2.2 r7.2.2.1.1 r7.2.2.1.2.1 r7.2.2.1.2.2.1 r7.2.2.1.2.2.2)
  | none => none)
  | none => none)
  else
  (bif (eqi ((rdL b0 b2 D_api_Msg).1) (1 : Int)) then
  (let x8 := (List.length ((((rdL b0 b2 D_api_Msg).2).2).1) : Int)
  match node_Sum_c1_m_a N (-64 : Int) x8 b7 b8 b9 b10 with
  | some r9 => (match node_Sum_p2 N b0 b1 b2 b3 b4 b5 b6 r9.2.1.1 r9.2.1.2.1 r9.2.1.2.2.1 r9.2.1.2.2.2 with
  | some r10 => (rec r10.1.2.2.2.2.1 r10.1.2.2.2.2.2.1 r10.1.2.2.2.2.2.2 r10.2.1.1 r10.2.1.2.1 r10.2.1.2.2.1 r10.2.1.2.2.2 r10.2.2.1.1 r10.2.2.1.2.1 r10.2.2.1.2.2.1 r10.2.2.1.2.2.2)
  | none => none)
  | none => none)
  else
  (bif (eqi ((rdL b0 b2 D_api_Msg).1) (2 : Int)) then
  (match node_Sum_p3 N b0 b1 b2 (eqi r5.1.2.1 (1 : Int)) b3 b4 b5 b6 b7 b8 b9 b10 ((rdL b0 b2 D_api_Msg).1) (((rdL b0 b2 D_api_Msg).2).1) ((((rdL b0 b2 D_api_Msg).2).2).1) ((((((rdL b0 b2 D_api_Msg).2).2).2).1).1) ((((((rdL b0 b2 D_api_Msg).2).2).2).1).2) ((((((rdL b0 b2 D_api_Msg).2).2).2).2).1) (((((((rdL b0 b2 D_api_Msg).2).2).2).2).2).1) (((((((rdL b0 b2 D_api_Msg).2).2).2).2).2).2) with
  | some r19 => (match node_Sum_p2 N r19.1.2.2.2.2.1 r19.1.2.2.2.2.2.1 r19.1.2.2.2.2.2.2 r19.2.1.1 r19.2.1.2.1 r19.2.1.2.2.1 r19.2.1.2.2.2 r19.2.2.1.1 r19.2.2.1.2.1 r19.2.2.1.2.2.1 r19.2.2.1.2.2.2 with
  | some r20 => (rec r20.1.2.2.2.2.1 r20.1.2.2.2.2.2.1 r20.1.2.2.2.2.2.2 r20.2.1.1 r20.2.1.2.1 r20.2.1.2.2.1 r20.2.1.2.2.2 r20.2.2.1.1 r20.2.2.1.2.1 r20.2.2.1.2.2.1 r20.2.2.1.2.2.2)
  | none => none)
  | none => none)
  else
  (match node_Sum_p3 N b0 b1 b2 false b3 b4 b5 b6 b7 b8 b9 b10 ((rdL b0 b2 D_api_Msg).1) (((rdL b0 b2 D_api_Msg).2).1) ((((rdL b0 b2 D_api_Msg).2).2).1) ((((((rdL b0 b2 D_api_Msg).2).2).2).1).1) ((((((rdL b0 b2 D_api_Msg).2).2).2).1).2) ((((((rdL b0 b2 D_api_Msg).2).2).2).2).1) (((((((rdL b0 b2 D_api_Msg).2).2).2).2).2).1) (((((((rdL b0 b2 D_api_Msg).2).2).2).2).2).2) with
  | some r21 => (match node_Sum_p2 N r21.1.2.2.2.2.1 r21.1.2.2.2.2.2.1 r21.1.2.2.2.2.2.2 r21.2.1.1 r21.2.1.2.1 r21.2.1.2.2.1 r21.2.1.2.2.2 r21.2.2.1.1 r21.2.2.1.2.1 r21.2.2.1.2.2.1 r21.2.2.1.2.2.2 with
  | some r22 => (rec r22.1.2.2.2.2.1 r22.1.2.2.2.2.2.1 r22.1.2.2.2.2.2.2 r22.2.1.1 r22.2.1.2.1 r22.2.1.2.2.1 r22.2.1.2.2.2 r22.2.2.1.1 r22.2.2.1.2.1 r22.2.2.1.2.2.1 r22.2.2.1.2.2.2)
  | none => none)
  | none => none))))
  else
  (bif (eqi ((rdL b0 b2 D_api_Msg).1) (1 : Int)) then
  (let x23 := (List.length ((((rdL b0 b2 D_api_Msg).2).2).1) : Int)
  match node_Sum_c1_m_a N (-64 : Int) x23 b7 b8 b9 b10 with
  | some r24 => (match node_Sum_p2 N b0 b1 b2 b3 b4 b5 b6 r24.2.1.1 r24.2.1.2.1 r24.2.1.2.2.1 r24.2.1.2.2.2 with
  | some r25 => (rec r25.1.2.2.2.2.1 r25.1.2.2.2.2.2.1 r25.1.2.2.2.2.2.2 r25.2.1.1 r25.2.1.2.1 r25.2.1.2.2.1 r25.2.1.2.2.2 r25.2.2.1.1 r25.2.2.1.2.1 r25.2.2.1.2.2.1 r25.2.2.1.2.2.2)
  | none => none)
  | none => none)
  else
  (bif (eqi ((rdL b0 b2 D_api_Msg).1) (2 : Int)) then
  (match node_Sum_p3 N b0 b1 b2 (eqi r5.1.2.1 (1 : Int)) b3 b4 b5 b6 b7 b8 b9 b10 ((rdL b0 b2 D_api_Msg).1) (((rdL b0 b2 D_api_Msg).2).1) ((((rdL b0 b2 D_api_Msg).2).2).1) ((((((rdL b0 b2 D_api_Msg).2).2).2).1).1) ((((((rdL b0 b2 D_api_Msg).2).2).2).1).2) ((((((rdL b0 b2 D_api_Msg).2).2).2).2).1) (((((((rdL b0 b2 D_api_Msg).2).2).2).2).2).1) (((((((rdL b0 b2 D_api_Msg).2).2).2).2).2).2) with
  | some r26 => (match node_Sum_p2 N r26.1.2.2.2.2.1 r26.1.2.2.2.2.2.1 r26.1.2.2.2.2.2.2 r26.2.1.1 r26.2.1.2.1 r26.2.1.2.2.1 r26.2.1.2.2.2 r26.2.2.1.1 r26.2.2.1.2.1 r26.2.2.1.2.2.1 r26.2.2.1.2.2.2 with
  | some r27 => (rec r27.1.2.2.2.2.1 r27.1.2.2.2.2.2.1 r27.1.2.2.2.2.2.2 r27.2.1.1 r27.2.1.2.1 r27.2.1.2.2.1 r27.2.1.2.2.2 r27.2.2.1.1 r27.2.2.1.2.1 r27.2.2.1.2.2.1 r27.2.2.1.2.2.2)
  | none => none)
  | none => none)
  else
  (match node_Sum_p3 N b0 b1 b2 false b3 b4 b5 b6 b7 b8 b9 b10 ((rdL b0 b2 D_api_Msg).1) (((rdL b0 b2 D_api_Msg).2).1) ((((rdL b0 b2 D_api_Msg).2).2).1) ((((((rdL b0 b2 D_api_Msg).2).2).2).1).1) ((((((rdL b0 b2 D_api_Msg).2).2).2).1).2) ((((((rdL b0 b2 D_api_Msg).2).2).2).2).1) (((((((rdL b0 b2 D_api_Msg).2).2).2).2).2).1) (((((((rdL b0 b2 D_api_Msg).2).2).2).2).2).2) with
  | some r28 => (match node_Sum_p2 N r28.1.2.2.2.2.1 r28.1.2.2.2.2.2.1 r28.1.2.2.2.2.2.2 r28.2.1.1 r28.2.1.2.1 r28.2.1.2.2.1 r28.2.1.2.2.2 r28.2.2.1.1 r28.2.2.1.2.1 r28.2.2.1.2.2.1 r28.2.2.1.2.2.2 with
  | some r29 => (rec r29.1.2.2.2.2.1 r29.1.2.2.2.2.2.1 r29.1.2.2.2.2.2.2 r29.2.1.1 r29.2.1.2.1 r29.2.1.2.2.1 r29.2.1.2.2.2 r29.2.2.1.1 r29.2.2.1.2.1 r29.2.2.1.2.2.1 r29.2.2.1.2.2.2)
  | none => none)
  | none => none))))
  else
  (bif (eqi ((rdL b0 b2 D_api_Msg).1) (1 : Int)) then
  (bif (eqi ((rdL b0 b2 D_api_Msg).1) (1 : Int)) then
  (let x30 := (List.length ((((rdL b0 b2 D_api_Msg).2).2).1) : Int)
  match node_Sum_c1_m_a N (-64 : Int) x30 b7 b8 b9 b10 with
  | some r31 => (match node_Sum_p2 N b0 b1 b2 b3 b4 b5 b6 r31.2.1.1 r31.2.1.2.1 r31.2.1.2.2.1 r31.2.1.2.2.2 with
  | some r32 => (rec r32.1.2.2.2.2.1 r32.1.2.2.2.2.2.1 r32.1.2.2.2.2.2.2 r32.2.1.1 r32.2.1.2.1 r32.2.1.2.2.1 r32.2.1.2.2.2 r32.2.2.1.1 r32.2.2.1.2.1 r32.2.2.1.2.2.1 r32.2.2.1.2.2.2)
  | none => none)
  | none => none)
  else
  (bif (eqi ((rdL b0 b2 D_api_Msg).1) (2 : Int)) then
  (match node_Sum_p3 N b0 b1 b2 false b3 b4 b5 b6 b7 b8 b9 b10 ((rdL b0 b2 D_api_Msg).1) (((rdL b0 b2 D_api_Msg).2).1) ((((rdL b0 b2 D_api_Msg).2).2).1) ((((((rdL b0 b2 D_api_Msg).2).2).2).1).1) ((((((rdL b0 b2 D_api_Msg).2).2).2).1).2) ((((((rdL b0 b2 D_api_Msg).2).2).2).2).1) (((((((rdL b0 b2 D_api_Msg).2).2).2).2).2).1) (((((((rdL b0 b2 D_api_Msg).2).2).2).2).2).2) with
  | some r33 => (match node_Sum_p2 N r33.1.2.2.2.2.1 r33.1.2.2.2.2.2.1 r33.1.2.2.2.2.2.2 r33.2.1.1 r33.2.1.2.1 r33.2.1.2.2.1 r33.2.1.2.2.2 r33.2.2.1.1 r33.2.2.1.2.1 r33.2.2.1.2.2.1 r33.2.2.1.2.2.2 with
  | some r34 => (rec r34.1.2.2.2.2.1 r34.1.2.2.2.2.2.1 r34.1.2.2.2.2.2.2 r34.2.1.1 r34.2.1.2.1 r34.2.1.2.2.1 r34.2.1.2.2.2 r34.2.2.1.1 r34.2.2.1.2.1 r34.2.2.1.2.2.1 r34.2.2.1.2.2.2)
  | none => none)
  | none => none)
  else
  (match node_Sum_p3 N b0 b1 b2 false b3 b4 b5 b6 b7 b8 b9 b10 ((rdL b0 b2 D_api_Msg).1) (((rdL b0 b2 D_api_Msg).2).1) ((((rdL b0 b2 D_api_Msg).2).2).1) ((((((rdL b0 b2 D_api_Msg).2).2).2).1).1) ((((((rdL b0 b2 D_api_Msg).2).2).2).1).2) ((((((rdL b0 b2 D_api_Msg).2).2).2).2).1) (((((((rdL b0 b2 D_api_Msg).2).2).2).2).2).1) (((((((rdL b0 b2 D_api_Msg).2).2).2).2).2).2) with
  | some r35 => (match node_Sum_p2 N r35.1.2.2.2.2.1 r35.1.2.2.2.2.2.1 r35.1.2.2.2.2.2.2 r35.2.1.1 r35.2.1.2.1 r35.2.1.2.2.1 r35.2.1.2.2.2 r35.2.2.1.1 r35.2.2.1.2.1 r35.2.2.1.2.2.1 r35.2.2.1.2.2.2 with
  | some r36 => (rec r36.1.2.2.2.2.1 r36.1.2.2.2.2.2.1 r36.1.2.2.2.2.2.2 r36.2.1.1 r36.2.1.2.1 r36.2.1.2.2.1 r36.2.1.2.2.2 r36.2.2.1.1 r36.2.2.1.2.1 r36.2.2.1.2.2.1 r36.2.2.1.2.2.2)
  | none => none)
  | none => none)))
  else
  (bif (eqi ((rdL b0 b2 D_api_Msg).1) (1 : Int)) then
  (let x37 := (List.length ((((rdL b0 b2 D_api_Msg).2).2).1) : Int)
  match node_Sum_c1_m_a N (-64 : Int) x37 b7 b8 b9 b10 with
  | some r38 => (match node_Sum_p2 N b0 b1 b2 b3 b4 b5 b6 r38.2.1.1 r38.2.1.2.1 r38.2.1.2.2.1 r38.2.1.2.2.2 with
  | some r39 => (rec r39.1.2.2.2.2.1 r39.1.2.2.2.2.2.1 r39.1.2.2.2.2.2.2 r39.2.1.1 r39.2.1.2.1 r39.2.1.2.2.1 r39.2.1.2.2.2 r39.2.2.1.1 r39.2.2.1.2.1 r39.2.2.1.2.2.1 r39.2.2.1.2.2.2)
  | none => none)
  | none => none)
  else
  (bif (eqi ((rdL b0 b2 D_api_Msg).1) (2 : Int)) then
  (match node_Sum_p3 N b0 b1 b2 false b3 b4 b5 b6 b7 b8 b9 b10 ((rdL b0 b2 D_api_Msg).1) (((rdL b0 b2 D_api_Msg).2).1) ((((rdL b0 b2 D_api_Msg).2).2).1) ((((((rdL b0 b2 D_api_Msg).2).2).2).1).1) ((((((rdL b0 b2 D_api_Msg).2).2).2).1).2) ((((((rdL b0 b2 D_api_Msg).2).2).2).2).1) (((((((rdL b0 b2 D_api_Msg).2).2).2).2).2).1) (((((((rdL b0 b2 D_api_Msg).2).2).2).2).2).2) with
  | some r40 => (match node_Sum_p2 N r40.1.2.2.2.2.1 r40.1.2.2.2.2.2.1 r40.1.2.2.2.2.2.2 r40.2.1.1 r40.2.1.2.1 r40.2.1.2.2.1 r40.2.1.2.2.2 r40.2.2.1.1 r40.2.2.1.2.1 r40.2.2.1.2.2.1 r40.2.2.1.2.2.2 with
  | some r41 => (rec r41.1.2.2.2.2.1 r41.1.2.2.2.2.2.1 r41.1.2.2.2.2.2.2 r41.2.1.1 r41.2.1.2.1 r41.2.1.2.2.1 r41.2.1.2.2.2 r41.2.2.1.1 r41.2.2.1.2.1 r41.2.2.1.2.2.1 r41.2.2.1.2.2.2)
  | none => none)
  | none => none)
  else
  (match node_Sum_p3 N b0 b1 b2 false b3 b4 b5 b6 b7 b8 b9 b10 ((rdL b0 b2 D_api_Msg).1) (((rdL b0 b2 D_api_Msg).2).1) ((((rdL b0 b2 D_api_Msg).2).2).1) ((((((rdL b0 b2 D_api_Msg).2).2).2).1).1) ((((((rdL b0 b2 D_api_Msg).2).2).2).1).2) ((((((rdL b0 b2 D_api_Msg).2).2).2).2).1) (((((((rdL b0 b2 D_api_Msg).2).2).2).2).2).1) (((((((rdL b0 b2 D_api_Msg).2).2).2).2).2).2) with
  | some r42 => (match node_Sum_p2 N r42.1.2.2.2.2.1 r42.1.2.2.2.2.2.1 r42.1.2.2.2.2.2.2 r42.2.1.1 r42.2.1.2.1 r42.2.1.2.2.1 r42.2.1.2.2.2 r42.2.2.1.1 r42.2.2.1.2.1 r42.2.2.1.2.2.1 r42.2.2.1.2.2.2 with
  | some r43 => (rec r43.1.2.2.2.2.1 r43.1.2.2.2.2.2.1 r43.1.2.2.2.2.2.2 r43.2.1.1 r43.2.1.2.1 r43.2.1.2.2.1 r43.2.1.2.2.2 r43.2.2.1.1 r43.2.2.1.2.1 r43.2.2.1.2.2.1 r43.2.2.1.2.2.2)
  | none => none)
  | none => none)))))
  | none => none))
  else
  (some (((), ()), ((b3, (b4, (b5, b6))), ((b7, (b8, (b9, b10))), ()))))
def node_Sum_l1 (N n : Nat) (b0 : (List V_api_Msg)) (b1 : Int) (b2 : Int) (b3 : Int) (b4 : Int) (b5 : Int) (b6 : Int) (b7 : Int) (b8 : Int) (b9 : Int) (b10 : Int) : Option (((Unit × Unit) × ((Int × (Int × (Int × Int))) × ((Int × (Int × (Int × Int))) × Unit)))) :=
  iter (fun (rec : ((Unit × (Unit × (Unit × ((Unit × Unit) × ((List V_api_Msg) × (Int × Int)))))) × ((Int × (Int × (Int × Int))) × ((Int × (Int × (Int × Int))) × (Unit × Unit)))) → Option (((Unit × Unit) × ((Int × (Int × (Int × Int))) × ((Int × (Int × (Int × Int))) × Unit))))) v => node_Sum_l1_step N (fun b0 b1 b2 b3 b4 b5 b6 b7 b8 b9 b10 => rec (((), ((), ((), (((), ()), (b0, (b1, b2)))))), ((b3, (b4, (b5, b6))), ((b7, (b8, (b9, b10))), ((), ()))))) v.1.2.2.2.2.1 v.1.2.2.2.2.2.1 v.1.2.2.2.2.2.2 v.2.1.1 v.2.1.2.1 v.2.1.2.2.1 v.2.1.2.2.2 v.2.2.1.1 v.2.2.1.2.1 v.2.2.1.2.2.1 v.2.2.1.2.2.2) n (((), ((), ((), (((), ()), (b0, (b1, b2)))))), ((b3, (b4, (b5, b6))), ((b7, (b8, (b9, b10))), ((), ()))))
def node_Sum_l0_step (N : Nat) (rec : (List V_api_Sum) → Int → Int → (List V_api_Pair) → (List (List UInt8)) → (List Int) → (List V_api_Sum) → (List V_api_Msg) → Int → Int → Int → Int → Int → Int → Int → Int → Option (((Unit × (Unit × (Unit × Unit))) × (((List V_api_Pair) × ((List (List UInt8)) × ((List Int) × ((List V_api_Sum) × (List V_api_Msg))))) × ((Int × (Int × (Int × Int))) × ((Int × (Int × (Int × Int))) × (Unit × Unit))))))) (b0 : (List V_api_Sum)) (b1 : Int) (b2 : Int) (b3 : (List V_api_Pair)) (b4 : (List (List UInt8))) (b5 : (List Int)) (b6 : (List V_api_Sum)) (b7 : (List V_api_Msg)) (b8 : Int) (b9 : Int) (b10 : Int) (b11 : Int) (b12 : Int) (b13 : Int) (b14 : Int) (b15 : Int) : Option (((Unit × (Unit × (Unit × Unit))) × (((List V_api_Pair) × ((List (List UInt8)) × ((List Int) × ((List V_api_Sum) × (List V_api_Msg))))) × ((Int × (Int × (Int × Int))) × ((Int × (Int × (Int × Int))) × (Unit × Unit)))))) :=
  bif (decide (b2 < b1)) then
  (gd (inB b2 (List.length b0))
  (match node_Sum_c1_m N (((rdL b0 b2 D_api_Sum).1).1) (((rdL b0 b2 D_api_Sum).1).2) b12 b13 b14 b15 with
  | some r2 => (match node_Sum_c1_m_a N (((rdL b0 b2 D_api_Sum).2).1) (((rdL b0 b2 D_api_Sum).2).2) r2.2.1.1 r2.2.1.2.1 r2.2.1.2.2.1 r2.2.1.2.2.2 with
  | some r3 => (rec b0 b1 (IntKind.wrap .i64 (b2 + (1 : Int))) b3 b4 b5 b6 b7 b8 b9 b10 b11 r3.2.1.1 r3.2.1.2.1 r3.2.1.2.2.1 r3.2.1.2.2.2)
  | none => none)
  | none => none))
  else
  (some (((), ((), ((), ()))), ((b3, (b4, (b5, (b6, b7)))), ((b8, (b9, (b10, b11))), ((b12, (b13, (b14, b15))), ((), ()))))))
def node_Sum_l0 (N n : Nat) (b0 : (List V_api_Sum)) (b1 : Int) (b2 : Int) (b3 : (List V_api_Pair)) (b4 : (List (List UInt8))) (b5 : (List Int)) (b6 : (List V_api_Sum)) (b7 : (List V_api_Msg)) (b8 : Int) (b9 : Int) (b10 : Int) (b11 : Int) (b12 : Int) (b13 : Int) (b14 : Int) (b15 : Int) : Option (((Unit × (Unit × (Unit × Unit))) × (((List V_api_Pair) × ((List (List UInt8)) × ((List Int) × ((List V_api_Sum) × (List V_api_Msg))))) × ((Int × (Int × (Int × Int))) × ((Int × (Int × (Int × Int))) × (Unit × Unit)))))) :=
  iter (fun (rec : ((Unit × (Unit × (Unit × (Unit × ((List V_api_Sum) × (Int × Int)))))) × (((List V_api_Pair) × ((List (List UInt8)) × ((List Int) × ((List V_api_Sum) × (List V_api_Msg))))) × ((Int × (Int × (Int × Int))) × ((Int × (Int × (Int × Int))) × (Unit × Unit))))) → Option (((Unit × (Unit × (Unit × Unit))) × (((List V_api_Pair) × ((List (List UInt8)) × ((List Int) × ((List V_api_Sum) × (List V_api_Msg))))) × ((Int × (Int × (Int × Int))) × ((Int × (Int × (Int × Int))) × (Unit × Unit))))))) v => node_Sum_l0_step N (fun b0 b1 b2 b3 b4 b5 b6 b7 b8 b9 b10 b11 b12 b13 b14 b15 => rec (((), ((), ((), ((), (b0, (b1, b2)))))), ((b3, (b4, (b5, (b6, b7)))), ((b8, (b9, (b10, b11))), ((b12, (b13, (b14, b15))), ((), ())))))) v.1.2.2.2.2.1 v.1.2.2.2.2.2.1 v.1.2.2.2.2.2.2 v.2.1.1 v.2.1.2.1 v.2.1.2.2.1 v.2.1.2.2.2.1 v.2.1.2.2.2.2 v.2.2.1.1 v.2.2.1.2.1 v.2.2.1.2.2.1 v.2.2.1.2.2.2 v.2.2.2.1.1 v.2.2.2.1.2.1 v.2.2.2.1.2.2.1 v.2.2.2.1.2.2.2) n (((), ((), ((), ((), (b0, (b1, b2)))))), ((b3, (b4, (b5, (b6, b7)))), ((b8, (b9, (b10, b11))), ((b12, (b13, (b14, b15))), ((), ())))))
def node_Sum (N : Nat) (a0 : V_api_Node) : Option (V_api_Sum) :=
  bif (eqi (List.length a0.2.2.1 : Int) (0 : Int)) then
  (match entry_Total N a0.1 with
  | some r1 => (some ((r1.1, r1.1), (r1.2, r1.2)))
  | none => none)
  else
  (match node_Sum_l0 N N a0.2.2.2.1 (List.length a0.2.2.2.1 : Int) (0 : Int) a0.1 a0.2.1 a0.2.2.1 a0.2.2.2.1 a0.2.2.2.2 (0 : Int) (0 : Int) (0 : Int) (0 : Int) (0 : Int) (0 : Int) (0 : Int) (0 : Int) with
  | some r4 => (match node_Sum_l1 N N r4.2.1.2.2.2.2 (List.length r4.2.1.2.2.2.2 : Int) (0 : Int) r4.2.2.1.1 r4.2.2.1.2.1 r4.2.2.1.2.2.1 r4.2.2.1.2.2.2 r4.2.2.2.1.1 r4.2.2.2.1.2.1 r4.2.2.2.1.2.2.1 r4.2.2.2.1.2.2.2 with
  | some r44 => (some ((r44.2.2.1.1, r44.2.2.1.2.1), r44.2.2.1.2.2))
  | none => none)
  | none => none)
def node_Check_l0_step (N : Nat) (rec : Int → (List Int) → Int → Int → Option ((Int × Unit))) (b0 : Int) (b1 : (List Int)) (b2 : Int) (b3 : Int) : Option ((Int × Unit)) :=
  bif (decide (b3 < b2)) then
  (gd (inB b3 (List.length b1))
  (let x1 := (IntKind.wrap .u64 (((BitVec.ofInt (IntKind.bits .u64) b0 ^^^ BitVec.ofInt (IntKind.bits .u64) (IntKind.wrap .u64 ((rdL b1 b3 (0 : Int))))).toNat : Int)))
  let x2 := (IntKind.wrap .u64 (x1 * (1099511628211 : Int)))
  rec x2 b1 b2 (IntKind.wrap .i64 (b3 + (1 : Int)))))
  else
  (some (b0, ()))
def node_Check_l0 (N n : Nat) (b0 : Int) (b1 : (List Int)) (b2 : Int) (b3 : Int) : Option ((Int × Unit)) :=
  iter (fun (rec : ((Int × ((List Int) × (Int × Int))) × Unit) → Option ((Int × Unit))) v => node_Check_l0_step N (fun b0 b1 b2 b3 => rec ((b0, (b1, (b2, b3))), ())) v.1.1 v.1.2.1 v.1.2.2.1 v.1.2.2.2) n ((b0, (b1, (b2, b3))), ())
def node_Check (N : Nat) (a0 : (List Int)) : Option (Int) :=
  match node_Check_l0 N N (14695981039346656037 : Int) a0 (List.length a0 : Int) (0 : Int) with
  | some r3 => (some r3.1)
  | none => none
def node_Over (N : Nat) (a0 : V_api_Node) (a1 : V_api_Shape) : Option (Bool) :=
  bif (eqi (List.length a0.2.2.1 : Int) (0 : Int)) then
  (some (decide (a1.1 < (List.length a0.1 : Int))))
  else
  (let x1 := (decide (a1.2.1 < (List.length a0.2.2.1 : Int)))
  bif x1 then
  (some true)
  else
  (let x2 := (decide (a1.2.2 < (List.length a0.2.2.2.2 : Int)))
  some x2))
def slices_MinFunc_s_span_end_span_end__span_end_compare_l0_step (N : Nat) (rec : (List (List UInt8)) → (List UInt8) → Int → Option (((List UInt8) × Unit))) (b0 : (List (List UInt8))) (b1 : (List UInt8)) (b2 : Int) : Option (((List UInt8) × Unit)) :=
  bif (decide (b2 < (List.length b0 : Int))) then
  (gd (inB b2 (List.length b0))
  (match span_end_compare N (rdL b0 b2 ([] : List UInt8)) b1 with
  | some r2 => (bif (decide (r2 < (0 : Int))) then
  (gd (inB b2 (List.length b0))
  (rec b0 (rdL b0 b2 ([] : List UInt8)) (IntKind.wrap .i64 (b2 + (1 : Int)))))
  else
  (rec b0 b1 (IntKind.wrap .i64 (b2 + (1 : Int)))))
  | none => none))
  else
  (some (b1, ()))
def slices_MinFunc_s_span_end_span_end__span_end_compare_l0 (N n : Nat) (b0 : (List (List UInt8))) (b1 : (List UInt8)) (b2 : Int) : Option (((List UInt8) × Unit)) :=
  iter (fun (rec : (((List (List UInt8)) × (Unit × ((List UInt8) × Int))) × Unit) → Option (((List UInt8) × Unit))) v => slices_MinFunc_s_span_end_span_end__span_end_compare_l0_step N (fun b0 b1 b2 => rec ((b0, ((), (b1, b2))), ())) v.1.1 v.1.2.2.1 v.1.2.2.2) n ((b0, ((), (b1, b2))), ())
def slices_MinFunc_s_span_end_span_end__span_end_compare (N : Nat) (a0 : (List (List UInt8))) : Option ((List UInt8)) :=
  let x1 := (decide ((List.length a0 : Int) < (1 : Int)))
  bif x1 then
  (none)
  else
  (gd (inB (0 : Int) (List.length a0))
  (match slices_MinFunc_s_span_end_span_end__span_end_compare_l0 N N a0 (rdL a0 (0 : Int) ([] : List UInt8)) (1 : Int) with
  | some r3 => (some r3.1)
  | none => none))
def span_least (N : Nat) (a0 : (List (List UInt8))) : Option ((List UInt8)) :=
  match slices_MinFunc_s_span_end_span_end__span_end_compare N a0 with
  | some r1 => (some r1)
  | none => none
def span_Meet (N : Nat) (a0 : V_api_Span) (a1 : V_api_Span) : Option (V_api_Span) :=
  match span_least N ([a0.2, a1.2] : List (List UInt8)) with
  | some r1 => (match span_Empty N ((bif !(lts a0.1 a1.1) then a0.1 else a1.1), r1) with
  | some r2 => (bif r2 then
  (some (([97] : List UInt8), ([97] : List UInt8)))
  else
  (some ((bif !(lts a0.1 a1.1) then a0.1 else a1.1), r1)))
  | none => none)
  | none => none
def span_Parts_l0_step (N : Nat) (rec : (List UInt8) → (List (List UInt8)) → Int → Int → (List UInt8) → (List UInt8) → (List V_api_Span) → Option (((Unit × (Unit × (List UInt8))) × (((List UInt8) × (List UInt8)) × ((List V_api_Span) × Unit))))) (b0 : (List UInt8)) (b1 : (List (List UInt8))) (b2 : Int) (b3 : Int) (b4 : (List UInt8)) (b5 : (List UInt8)) (b6 : (List V_api_Span)) : Option (((Unit × (Unit × (List UInt8))) × (((List UInt8) × (List UInt8)) × ((List V_api_Span) × Unit)))) :=
  bif (decide (b3 < b2)) then
  (gd (inB b3 (List.length b1))
  (match span_Meet N (b4, b5) (b0, (rdL b1 b3 ([] : List UInt8))) with
  | some r1 => (gd (fits (List.length b6 + 1) 32)
  (let x2 := (@HAppend.hAppend (List V_api_Span) (List V_api_Span) (List V_api_Span) _ b6 ([r1] : List V_api_Span))
  rec (rdL b1 b3 ([] : List UInt8)) b1 b2 (IntKind.wrap .i64 (b3 + (1 : Int))) b4 b5 x2))
  | none => none))
  else
  (some (((), ((), b0)), ((b4, b5), (b6, ()))))
def span_Parts_l0 (N n : Nat) (b0 : (List UInt8)) (b1 : (List (List UInt8))) (b2 : Int) (b3 : Int) (b4 : (List UInt8)) (b5 : (List UInt8)) (b6 : (List V_api_Span)) : Option (((Unit × (Unit × (List UInt8))) × (((List UInt8) × (List UInt8)) × ((List V_api_Span) × Unit)))) :=
  iter (fun (rec : ((Unit × (Unit × ((List UInt8) × ((List (List UInt8)) × (Int × Int))))) × (((List UInt8) × (List UInt8)) × ((List V_api_Span) × Unit))) → Option (((Unit × (Unit × (List UInt8))) × (((List UInt8) × (List UInt8)) × ((List V_api_Span) × Unit))))) v => span_Parts_l0_step N (fun b0 b1 b2 b3 b4 b5 b6 => rec (((), ((), (b0, (b1, (b2, b3))))), ((b4, b5), (b6, ())))) v.1.2.2.1 v.1.2.2.2.1 v.1.2.2.2.2.1 v.1.2.2.2.2.2 v.2.1.1 v.2.1.2 v.2.2.1) n (((), ((), (b0, (b1, (b2, b3))))), ((b4, b5), (b6, ())))
def span_Parts (N : Nat) (a0 : V_api_Span) (a1 : (List (List UInt8))) : Option ((List V_api_Span)) :=
  match span_Parts_l0 N N ([] : List UInt8) a1 (List.length a1 : Int) (0 : Int) a0.1 a0.2 ([] : List V_api_Span) with
  | some r3 => (match span_Meet N r3.2.1 (r3.1.2.2, ([] : List UInt8)) with
  | some r4 => (gd (fits (List.length r3.2.2.1 + 1) 32)
  (let x5 := (@HAppend.hAppend (List V_api_Span) (List V_api_Span) (List V_api_Span) _ r3.2.2.1 ([r4] : List V_api_Span))
  some x5))
  | none => none)
  | none => none
def node_Spans (N : Nat) (a0 : V_api_Node) (a1 : V_api_Span) : Option ((List V_api_Span)) :=
  bif (eqi (List.length a0.2.2.1 : Int) (0 : Int)) then
  (some ([] : List V_api_Span))
  else
  (match span_Parts N a1 a0.2.1 with
  | some r1 => (some r1)
  | none => none)
def ref02_Same_l0_step (N : Nat) (rec : (List V_api_Span) → (List V_api_Span) → Int → Option ((Bool × Unit) ⊕ (Unit × Unit))) (b0 : (List V_api_Span)) (b1 : (List V_api_Span)) (b2 : Int) : Option ((Bool × Unit) ⊕ (Unit × Unit)) :=
  bif (decide (b2 < (List.length b0 : Int))) then
  (gd (inB b2 (List.length b0))
  (gd (inB b2 (List.length b1))
  (let x2 := (!(eqs ((rdL b0 b2 D_api_Span).1) ((rdL b1 b2 D_api_Span).1) && (eqs ((rdL b0 b2 D_api_Span).2) ((rdL b1 b2 D_api_Span).2) && true)))
  bif x2 then
  (some (.inl (false, ())))
  else
  (rec b0 b1 (IntKind.wrap .i64 (b2 + (1 : Int)))))))
  else
  (some (.inr ((), ())))
def ref02_Same_l0 (N n : Nat) (b0 : (List V_api_Span)) (b1 : (List V_api_Span)) (b2 : Int) : Option ((Bool × Unit) ⊕ (Unit × Unit)) :=
  iter (fun (rec : (((List V_api_Span) × ((List V_api_Span) × Int)) × Unit) → Option ((Bool × Unit) ⊕ (Unit × Unit))) v => ref02_Same_l0_step N (fun b0 b1 b2 => rec ((b0, (b1, b2)), ())) v.1.1 v.1.2.1 v.1.2.2) n ((b0, (b1, b2)), ())
def ref02_Same (N : Nat) (a0 : (List V_api_Span)) (a1 : (List V_api_Span)) : Option (Bool) :=
  let x1 := (!(eqi (List.length a0 : Int) (List.length a1 : Int)))
  bif x1 then
  (some false)
  else
  (match ref02_Same_l0 N N a0 a1 (0 : Int) with
  | some r3 => (match r3 with
  | .inl r4 => (some r4.1)
  | .inr r5 => (some true))
  | none => none)
def law10_sanity_p2 (N : Nat) (b0 : Bool) : Option ((Bool × Unit)) :=
  some (b0, ())
def law10_sanity_p1 (N : Nat) (b0 : Bool) (b1 : Bool) (b2 : (List V_api_Pair)) (b3 : (List (List UInt8))) (b4 : (List Int)) (b5 : (List V_api_Sum)) (b6 : (List V_api_Msg)) (b7 : (List V_api_Pair)) (b8 : (List (List UInt8))) (b9 : (List Int)) (b10 : (List V_api_Sum)) (b11 : (List V_api_Msg)) : Option ((Bool × Unit)) :=
  bif b0 then
  (bif b1 then
  (match node_Sum N (b2, (b3, (b4, (b5, b6)))) with
  | some r23 => (let x24 := (eqi r23.1.1 (4 : Int) && (eqi r23.1.2 (6 : Int) && (eqi r23.2.1 (0 : Int) && (eqi r23.2.2 (45 : Int) && true))))
  bif x24 then
  (match node_Check N ([] : List Int) with
  | some r25 => (bif (eqi r25 (14695981039346656037 : Int)) then
  (match node_Check N ([(97 : Int)] : List Int) with
  | some r26 => (bif (eqi r26 (12638187200555641996 : Int)) then
  (match node_Over N (b7, (b8, (b9, (b10, b11)))) ((0 : Int), ((0 : Int), (0 : Int))) with
  | some r27 => (bif r27 then
  (match node_Over N (b7, (b8, (b9, (b10, b11)))) ((1 : Int), ((0 : Int), (0 : Int))) with
  | some r28 => (bif (!r28) then
  (match node_Spans N (b2, (b3, (b4, (b5, b6)))) (([] : List UInt8), ([] : List UInt8)) with
  | some r29 => (let x30 := ([(([] : List UInt8), ([98] : List UInt8)), (([98] : List UInt8), ([] : List UInt8))] : List V_api_Span)
  match ref02_Same N r29 x30 with
  | some r31 => (bif r31 then
  (match node_Spans N (b7, (b8, (b9, (b10, b11)))) (([] : List UInt8), ([] : List UInt8)) with
  | some r32 => (match law10_sanity_p2 N (eqi (List.length r32 : Int) (0 : Int)) with
  | some r33 => (some (r33.1, ()))
  | none => none)
  | none => none)
  else
  (match law10_sanity_p2 N false with
  | some r34 => (some (r34.1, ()))
  | none => none))
  | none => none)
  | none => none)
  else
  (match law10_sanity_p2 N false with
  | some r35 => (some (r35.1, ()))
  | none => none))
  | none => none)
  else
  (match law10_sanity_p2 N false with
  | some r36 => (some (r36.1, ()))
  | none => none))
  | none => none)
  else
  (match law10_sanity_p2 N false with
  | some r37 => (some (r37.1, ()))
  | none => none))
  | none => none)
  else
  (match law10_sanity_p2 N false with
  | some r38 => (some (r38.1, ()))
  | none => none))
  | none => none)
  else
  (match law10_sanity_p2 N false with
  | some r39 => (some (r39.1, ()))
  | none => none))
  | none => none)
  else
  (match law10_sanity_p2 N false with
  | some r40 => (some (r40.1, ()))
  | none => none))
  else
  (match law10_sanity_p2 N false with
  | some r41 => (some (r41.1, ()))
  | none => none)
def law10_sanity_p0 (N : Nat) (b0 : Bool) (b1 : (List V_api_Pair)) (b2 : (List (List UInt8))) (b3 : (List Int)) (b4 : (List V_api_Sum)) (b5 : (List V_api_Msg)) (b6 : (List V_api_Pair)) (b7 : (List (List UInt8))) (b8 : (List Int)) (b9 : (List V_api_Sum)) (b10 : (List V_api_Msg)) (b11 : (List V_api_Pair)) (b12 : (List (List UInt8))) (b13 : (List Int)) (b14 : (List V_api_Sum)) (b15 : (List V_api_Msg)) (b16 : (List V_api_Pair)) (b17 : (List (List UInt8))) (b18 : (List Int)) (b19 : (List V_api_Sum)) (b20 : (List V_api_Msg)) : Option ((Bool × Unit)) :=
  match node_Valid N (b11, (b12, (b13, (b14, b15)))) (([] : List UInt8), ([] : List UInt8)) with
  | some r17 => (bif r17 then
  (match node_Valid N (b16, (b17, (b18, (b19, b20)))) (([] : List UInt8), ([] : List UInt8)) with
  | some r18 => (bif (!r18) then
  (match node_Valid N (b1, (b2, (b3, (b4, b5)))) (([] : List UInt8), ([] : List UInt8)) with
  | some r19 => (bif r19 then
  (match node_Valid N (b1, (b2, (b3, (b4, b5)))) (([98] : List UInt8), ([] : List UInt8)) with
  | some r20 => (bif (!r20) then
  (match node_Valid N (b6, (b7, (b8, (b9, b10)))) (([107] : List UInt8), ([] : List UInt8)) with
  | some r21 => (bif r21 then
  (match node_Valid N (b6, (b7, (b8, (b9, b10)))) (([] : List UInt8), ([107] : List UInt8)) with
  | some r22 => (match law10_sanity_p1 N b0 (!r22) b1 b2 b3 b4 b5 b6 b7 b8 b9 b10 with
  | some r42 => (some (r42.1, ()))
  | none => none)
  | none => none)
  else
  (match law10_sanity_p1 N b0 false b1 b2 b3 b4 b5 b6 b7 b8 b9 b10 with
  | some r43 => (some (r43.1, ()))
  | none => none))
  | none => none)
  else
  (match law10_sanity_p1 N b0 false b1 b2 b3 b4 b5 b6 b7 b8 b9 b10 with
  | some r44 => (some (r44.1, ()))
  | none => none))
  | none => none)
  else
  (match law10_sanity_p1 N b0 false b1 b2 b3 b4 b5 b6 b7 b8 b9 b10 with
  | some r45 => (some (r45.1, ()))
  | none => none))
  | none => none)
  else
  (match law10_sanity_p1 N b0 false b1 b2 b3 b4 b5 b6 b7 b8 b9 b10 with
  | some r46 => (some (r46.1, ()))
  | none => none))
  | none => none)
  else
  (match law10_sanity_p1 N b0 false b1 b2 b3 b4 b5 b6 b7 b8 b9 b10 with
  | some r47 => (some (r47.1, ()))
  | none => none))
  | none => none
def law10_sanity (N : Nat) : Option (Bool) :=
  let x1 := ([(((2 : Int), (3 : Int)), ((10 : Int), (20 : Int))), (((2 : Int), (3 : Int)), ((10 : Int), (20 : Int)))] : List V_api_Sum)
  let x2 := ([((1 : Int), (([97, 47, 2, 0, 0] : List UInt8), (([49, 50, 51, 52, 53] : List UInt8), ((([] : List UInt8), ([] : List UInt8)), (([] : List UInt8), (([] : List UInt8), (0 : Int)))))))] : List V_api_Msg)
  let x3 := ([(([107] : List UInt8), (([118] : List UInt8), (258 : Int)))] : List V_api_Pair)
  let x4 := ([(((0 : Int), (0 : Int)), ((0 : Int), (0 : Int)))] : List V_api_Sum)
  let x5 := ([(((0 : Int), (0 : Int)), ((0 : Int), (0 : Int)))] : List V_api_Sum)
  match node_Parse N ([] : List Int) with
  | some r6 => (let x7 := ([(76 : Int), (0 : Int), (0 : Int), (0 : Int), (0 : Int)] : List Int)
  match node_Parse N x7 with
  | some r8 => (match node_Bytes N (([] : List V_api_Pair), (([] : List (List UInt8)), (([] : List Int), (([] : List V_api_Sum), ([] : List V_api_Msg))))) with
  | some r9 => (let x10 := ([(76 : Int), (0 : Int), (0 : Int), (0 : Int), (0 : Int)] : List Int)
  match ref05_SameBytes N r9 x10 with
  | some r11 => (bif r11 then
  (match node_Bytes N (x3, (([] : List (List UInt8)), (([] : List Int), (([] : List V_api_Sum), ([] : List V_api_Msg))))) with
  | some r12 => (let x13 := ([(76 : Int), (0 : Int), (0 : Int), (0 : Int), (1 : Int), (0 : Int), (1 : Int), (107 : Int), (0 : Int), (1 : Int), (118 : Int), (0 : Int), (0 : Int), (1 : Int), (2 : Int)] : List Int)
  match ref05_SameBytes N r12 x13 with
  | some r14 => (bif r14 then
  (match node_Bytes N (([] : List V_api_Pair), (([([98] : List UInt8)] : List (List UInt8)), (([(1 : Int)] : List Int), (x5, ([] : List V_api_Msg))))) with
  | some r15 => (bif (eqi (List.length r15 : Int) (0 : Int)) then
  (bif (eqi r6.2 (100 : Int)) then
  (bif (eqi r8.2 (0 : Int)) then
  (match ref10_Same N r8.1 (([] : List V_api_Pair), (([] : List (List UInt8)), (([] : List Int), (([] : List V_api_Sum), ([] : List V_api_Msg))))) with
  | some r16 => (match law10_sanity_p0 N r16 ([] : List V_api_Pair) ([([98] : List UInt8)] : List (List UInt8)) ([(1 : Int), (2 : Int)] : List Int) x1 x2 x3 ([] : List (List UInt8)) ([] : List Int) ([] : List V_api_Sum) ([] : List V_api_Msg) ([] : List V_api_Pair) ([] : List (List UInt8)) ([(4095 : Int)] : List Int) x4 ([] : List V_api_Msg) ([] : List V_api_Pair) ([([98] : List UInt8)] : List (List UInt8)) ([(1 : Int)] : List Int) x5 ([] : List V_api_Msg) with
  | some r48 => (some r48.1)
  | none => none)
  | none => none)
  else
  (match law10_sanity_p0 N false ([] : List V_api_Pair) ([([98] : List UInt8)] : List (List UInt8)) ([(1 : Int), (2 : Int)] : List Int) x1 x2 x3 ([] : List (List UInt8)) ([] : List Int) ([] : List V_api_Sum) ([] : List V_api_Msg) ([] : List V_api_Pair) ([] : List (List UInt8)) ([(4095 : Int)] : List Int) x4 ([] : List V_api_Msg) ([] : List V_api_Pair) ([([98] : List UInt8)] : List (List UInt8)) ([(1 : Int)] : List Int) x5 ([] : List V_api_Msg) with
  | some r49 => (some r49.1)
  | none => none))
  else
  (match law10_sanity_p0 N false ([] : List V_api_Pair) ([([98] : List UInt8)] : List (List UInt8)) ([(1 : Int), (2 : Int)] : List Int) x1 x2 x3 ([] : List (List UInt8)) ([] : List Int) ([] : List V_api_Sum) ([] : List V_api_Msg) ([] : List V_api_Pair) ([] : List (List UInt8)) ([(4095 : Int)] : List Int) x4 ([] : List V_api_Msg) ([] : List V_api_Pair) ([([98] : List UInt8)] : List (List UInt8)) ([(1 : Int)] : List Int) x5 ([] : List V_api_Msg) with
  | some r50 => (some r50.1)
  | none => none))
  else
  (match law10_sanity_p0 N false ([] : List V_api_Pair) ([([98] : List UInt8)] : List (List UInt8)) ([(1 : Int), (2 : Int)] : List Int) x1 x2 x3 ([] : List (List UInt8)) ([] : List Int) ([] : List V_api_Sum) ([] : List V_api_Msg) ([] : List V_api_Pair) ([] : List (List UInt8)) ([(4095 : Int)] : List Int) x4 ([] : List V_api_Msg) ([] : List V_api_Pair) ([([98] : List UInt8)] : List (List UInt8)) ([(1 : Int)] : List Int) x5 ([] : List V_api_Msg) with
  | some r51 => (some r51.1)
  | none => none))
  | none => none)
  else
  (match law10_sanity_p0 N false ([] : List V_api_Pair) ([([98] : List UInt8)] : List (List UInt8)) ([(1 : Int), (2 : Int)] : List Int) x1 x2 x3 ([] : List (List UInt8)) ([] : List Int) ([] : List V_api_Sum) ([] : List V_api_Msg) ([] : List V_api_Pair) ([] : List (List UInt8)) ([(4095 : Int)] : List Int) x4 ([] : List V_api_Msg) ([] : List V_api_Pair) ([([98] : List UInt8)] : List (List UInt8)) ([(1 : Int)] : List Int) x5 ([] : List V_api_Msg) with
  | some r52 => (some r52.1)
  | none => none))
  | none => none)
  | none => none)
  else
  (match law10_sanity_p0 N false ([] : List V_api_Pair) ([([98] : List UInt8)] : List (List UInt8)) ([(1 : Int), (2 : Int)] : List Int) x1 x2 x3 ([] : List (List UInt8)) ([] : List Int) ([] : List V_api_Sum) ([] : List V_api_Msg) ([] : List V_api_Pair) ([] : List (List UInt8)) ([(4095 : Int)] : List Int) x4 ([] : List V_api_Msg) ([] : List V_api_Pair) ([([98] : List UInt8)] : List (List UInt8)) ([(1 : Int)] : List Int) x5 ([] : List V_api_Msg) with
  | some r53 => (some r53.1)
  | none => none))
  | none => none)
  | none => none)
  | none => none)
  | none => none
def ref04_Key (N : Nat) (a0 : Int) : Option ((List UInt8)) :=
  let x1 := ([([97, 47] : List UInt8), ([98, 47] : List UInt8), ([97, 47, 98, 47] : List UInt8), ([99, 47] : List UInt8)] : List (List UInt8))
  let x2 := ([([1] : List UInt8), ([2, 0, 0] : List UInt8), ([2, 0, 1] : List UInt8), ([2, 0, 2] : List UInt8), ([3, 120] : List UInt8)] : List (List UInt8))
  let x3 := (decide ((Int.tmod a0 (24 : Int)) < (20 : Int)))
  bif x3 then
  (let x4 := (IntKind.wrap .u8 (Int.tdiv (Int.tmod a0 (24 : Int)) (5 : Int)))
  gd (inB x4 (List.length x1))
  (let x5 := (Int.tmod (Int.tmod a0 (24 : Int)) (5 : Int))
  gd (inB x5 (List.length x2))
  (gd (decide (List.length (rdL x1 x4 ([] : List UInt8)) + List.length (rdL x2 x5 ([] : List UInt8)) < maxS))
  (let x6 := (@HAppend.hAppend (List UInt8) (List UInt8) (List UInt8) _ (rdL x1 x4 ([] : List UInt8)) (rdL x2 x5 ([] : List UInt8)))
  some x6))))
  else
  (let x7 := ([([1] : List UInt8), ([5, 48, 48, 48, 48, 48, 48, 48, 49, 47, 1] : List UInt8), ([6, 97, 47, 1] : List UInt8), ([97, 47, 98, 47, 99, 47, 1] : List UInt8)] : List (List UInt8))
  let x8 := (IntKind.wrap .u8 ((Int.tmod a0 (24 : Int)) - (20 : Int)))
  gd (inB x8 (List.length x7))
  (some (rdL x7 x8 ([] : List UInt8))))
def ref04_Pair (N : Nat) (a0 : V_ref04_Raw) : Option (V_api_Pair) :=
  match ref04_Key N a0.1 with
  | some r1 => (let x2 := ([([] : List UInt8), ([118] : List UInt8), ([119, 120] : List UInt8), ([120, 121, 122] : List UInt8)] : List (List UInt8))
  gd (inB (Int.tmod a0.2.1 (4 : Int)) (List.length x2))
  (let x3 := (rdL x2 (Int.tmod a0.2.1 (4 : Int)) ([] : List UInt8))
  let x4 := (IntKind.wrap .i64 ((Int.tmod a0.2.2 (4 : Int))))
  some (r1, (x3, x4))))
  | none => none
def ref04_Put_p1 (N : Nat) (b0 : (List V_api_Pair)) (b1 : Bool) (b2 : Int) (b3 : (List UInt8)) (b4 : (List UInt8)) (b5 : Int) (b6 : (List V_api_Pair)) : Option ((((List V_api_Pair) × (Unit × (Unit × (Bool × Int)))) × (((List UInt8) × ((List UInt8) × Int)) × ((List V_api_Pair) × Unit)))) :=
  gd (inB b2 (List.length b0))
  (bif (!(eqs ((rdL b0 b2 D_api_Pair).1) b3)) then
  (gd (inB b2 (List.length b0))
  (gd (fits (List.length b6 + 1) 40)
  (let x2 := (@HAppend.hAppend (List V_api_Pair) (List V_api_Pair) (List V_api_Pair) _ b6 ([(rdL b0 b2 D_api_Pair)] : List V_api_Pair))
  some ((b0, ((), ((), (b1, b2)))), ((b3, (b4, b5)), (x2, ()))))))
  else
  (some ((b0, ((), ((), (b1, b2)))), ((b3, (b4, b5)), (b6, ())))))
def ref04_Put_l0_step (N : Nat) (rec : (List V_api_Pair) → Bool → Int → (List UInt8) → (List UInt8) → Int → (List V_api_Pair) → Option (((Unit × (Unit × Bool)) × (((List UInt8) × ((List UInt8) × Int)) × ((List V_api_Pair) × Unit))))) (b0 : (List V_api_Pair)) (b1 : Bool) (b2 : Int) (b3 : (List UInt8)) (b4 : (List UInt8)) (b5 : Int) (b6 : (List V_api_Pair)) : Option (((Unit × (Unit × Bool)) × (((List UInt8) × ((List UInt8) × Int)) × ((List V_api_Pair) × Unit)))) :=
  bif (decide (b2 < (List.length b0 : Int))) then
  (bif (!b1) then
  (gd (inB b2 (List.length b0))
  (bif (!(lts ((rdL b0 b2 D_api_Pair).1) b3)) then
  (gd (fits (List.length b6 + 1) 40)
  (let x1 := (@HAppend.hAppend (List V_api_Pair) (List V_api_Pair) (List V_api_Pair) _ b6 ([(b3, (b4, b5))] : List V_api_Pair))
  match ref04_Put_p1 N b0 true b2 b3 b4 b5 x1 with
  | some r3 => (let x4 := (IntKind.wrap .i64 (r3.1.2.2.2.2 + (1 : Int)))
  rec r3.1.1 r3.1.2.2.2.1 x4 r3.2.1.1 r3.2.1.2.1 r3.2.1.2.2 r3.2.2.1)
  | none => none))
  else
  (match ref04_Put_p1 N b0 b1 b2 b3 b4 b5 b6 with
  | some r5 => (let x6 := (IntKind.wrap .i64 (r5.1.2.2.2.2 + (1 : Int)))
  rec r5.1.1 r5.1.2.2.2.1 x6 r5.2.1.1 r5.2.1.2.1 r5.2.1.2.2 r5.2.2.1)
  | none => none)))
  else
  (match ref04_Put_p1 N b0 b1 b2 b3 b4 b5 b6 with
  | some r7 => (let x8 := (IntKind.wrap .i64 (r7.1.2.2.2.2 + (1 : Int)))
  rec r7.1.1 r7.1.2.2.2.1 x8 r7.2.1.1 r7.2.1.2.1 r7.2.1.2.2 r7.2.2.1)
  | none => none))
  else
  (some (((), ((), b1)), ((b3, (b4, b5)), (b6, ()))))
def ref04_Put_l0 (N n : Nat) (b0 : (List V_api_Pair)) (b1 : Bool) (b2 : Int) (b3 : (List UInt8)) (b4 : (List UInt8)) (b5 : Int) (b6 : (List V_api_Pair)) : Option (((Unit × (Unit × Bool)) × (((List UInt8) × ((List UInt8) × Int)) × ((List V_api_Pair) × Unit)))) :=
  iter (fun (rec : (((List V_api_Pair) × (Unit × (Unit × (Bool × Int)))) × (((List UInt8) × ((List UInt8) × Int)) × ((List V_api_Pair) × Unit))) → Option (((Unit × (Unit × Bool)) × (((List UInt8) × ((List UInt8) × Int)) × ((List V_api_Pair) × Unit))))) v => ref04_Put_l0_step N (fun b0 b1 b2 b3 b4 b5 b6 => rec ((b0, ((), ((), (b1, b2)))), ((b3, (b4, b5)), (b6, ())))) v.1.1 v.1.2.2.2.1 v.1.2.2.2.2 v.2.1.1 v.2.1.2.1 v.2.1.2.2 v.2.2.1) n ((b0, ((), ((), (b1, b2)))), ((b3, (b4, b5)), (b6, ())))
def ref04_Put (N : Nat) (a0 : (List V_api_Pair)) (a1 : V_api_Pair) : Option ((List V_api_Pair)) :=
  match ref04_Put_l0 N N a0 false (0 : Int) a1.1 a1.2.1 a1.2.2 ([] : List V_api_Pair) with
  | some r9 => (bif (!r9.1.2.2) then
  (gd (fits (List.length r9.2.2.1 + 1) 40)
  (let x10 := (@HAppend.hAppend (List V_api_Pair) (List V_api_Pair) (List V_api_Pair) _ r9.2.2.1 ([r9.2.1] : List V_api_Pair))
  some x10))
  else
  (some r9.2.2.1))
  | none => none
def ref04_Made_l0_step (N : Nat) (rec : (List V_ref04_Raw) → Int → (List V_api_Pair) → Option ((Unit × ((List V_api_Pair) × Unit)))) (b0 : (List V_ref04_Raw)) (b1 : Int) (b2 : (List V_api_Pair)) : Option ((Unit × ((List V_api_Pair) × Unit))) :=
  bif (decide (b1 < (List.length b0 : Int))) then
  (bif (decide (b1 < (40 : Int))) then
  (gd (inB b1 (List.length b0))
  (match ref04_Pair N (rdL b0 b1 D_ref04_Raw) with
  | some r1 => (match ref04_Put N b2 r1 with
  | some r2 => (rec b0 (IntKind.wrap .i64 (b1 + (1 : Int))) r2)
  | none => none)
  | none => none))
  else
  (some ((), (b2, ()))))
  else
  (some ((), (b2, ())))
def ref04_Made_l0 (N n : Nat) (b0 : (List V_ref04_Raw)) (b1 : Int) (b2 : (List V_api_Pair)) : Option ((Unit × ((List V_api_Pair) × Unit))) :=
  iter (fun (rec : (((List V_ref04_Raw) × (Unit × Int)) × ((List V_api_Pair) × Unit)) → Option ((Unit × ((List V_api_Pair) × Unit)))) v => ref04_Made_l0_step N (fun b0 b1 b2 => rec ((b0, ((), b1)), (b2, ()))) v.1.1 v.1.2.2 v.2.1) n ((b0, ((), b1)), (b2, ()))
def ref04_Made (N : Nat) (a0 : (List V_ref04_Raw)) : Option ((List V_api_Pair)) :=
  match ref04_Made_l0 N N a0 (0 : Int) ([] : List V_api_Pair) with
  | some r3 => (some r3.2.1)
  | none => none
def ref02_Pivots_l1_step (N : Nat) (rec : (List (List UInt8)) → Int → Bool → Int → (List (List UInt8)) → (List (List UInt8)) → Option ((((List (List UInt8)) × (Int × (Unit × Bool))) × ((List (List UInt8)) × Unit)))) (b0 : (List (List UInt8))) (b1 : Int) (b2 : Bool) (b3 : Int) (b4 : (List (List UInt8))) (b5 : (List (List UInt8))) : Option ((((List (List UInt8)) × (Int × (Unit × Bool))) × ((List (List UInt8)) × Unit))) :=
  bif (decide (b3 < (List.length b4 : Int))) then
  (bif (!b2) then
  (gd (inB b1 (List.length b0))
  (gd (inB b3 (List.length b4))
  (let x2 := (lts (rdL b0 b1 ([] : List UInt8)) (rdL b4 b3 ([] : List UInt8)) || eqs (rdL b0 b1 ([] : List UInt8)) (rdL b4 b3 ([] : List UInt8)))
  bif x2 then
  (gd (inB b1 (List.length b0))
  (gd (inB b3 (List.length b4))
  (let x3 := (lts (rdL b0 b1 ([] : List UInt8)) (rdL b4 b3 ([] : List UInt8)))
  bif x3 then
  (gd (inB b1 (List.length b0))
  (let x4 := ([(rdL b0 b1 ([] : List UInt8))] : List (List UInt8))
  gd (fits (List.length b5 + List.length x4) 16)
  (let x5 := (@HAppend.hAppend (List (List UInt8)) (List (List UInt8)) (List (List UInt8)) _ b5 x4)
  gd (inB b3 (List.length b4))
  (let x6 := ([(rdL b4 b3 ([] : List UInt8))] : List (List UInt8))
  gd (fits (List.length x5 + List.length x6) 16)
  (let x7 := (@HAppend.hAppend (List (List UInt8)) (List (List UInt8)) (List (List UInt8)) _ x5 x6)
  rec b0 b1 true (IntKind.wrap .i64 (b3 + (1 : Int))) b4 x7)))))
  else
  (gd (inB b3 (List.length b4))
  (let x8 := ([(rdL b4 b3 ([] : List UInt8))] : List (List UInt8))
  gd (fits (List.length b5 + List.length x8) 16)
  (let x9 := (@HAppend.hAppend (List (List UInt8)) (List (List UInt8)) (List (List UInt8)) _ b5 x8)
  rec b0 b1 true (IntKind.wrap .i64 (b3 + (1 : Int))) b4 x9))))))
  else
  (gd (inB b3 (List.length b4))
  (let x10 := ([(rdL b4 b3 ([] : List UInt8))] : List (List UInt8))
  gd (fits (List.length b5 + List.length x10) 16)
  (let x11 := (@HAppend.hAppend (List (List UInt8)) (List (List UInt8)) (List (List UInt8)) _ b5 x10)
  rec b0 b1 b2 (IntKind.wrap .i64 (b3 + (1 : Int))) b4 x11))))))
  else
  (gd (inB b3 (List.length b4))
  (let x12 := ([(rdL b4 b3 ([] : List UInt8))] : List (List UInt8))
  gd (fits (List.length b5 + List.length x12) 16)
  (let x13 := (@HAppend.hAppend (List (List UInt8)) (List (List UInt8)) (List (List UInt8)) _ b5 x12)
  rec b0 b1 b2 (IntKind.wrap .i64 (b3 + (1 : Int))) b4 x13))))
  else
  (some ((b0, (b1, ((), b2))), (b5, ())))
def ref02_Pivots_l1 (N n : Nat) (b0 : (List (List UInt8))) (b1 : Int) (b2 : Bool) (b3 : Int) (b4 : (List (List UInt8))) (b5 : (List (List UInt8))) : Option ((((List (List UInt8)) × (Int × (Unit × Bool))) × ((List (List UInt8)) × Unit))) :=
  iter (fun (rec : (((List (List UInt8)) × (Unit × (Int × (Unit × (Bool × Int))))) × ((List (List UInt8)) × ((List (List UInt8)) × Unit))) → Option ((((List (List UInt8)) × (Int × (Unit × Bool))) × ((List (List UInt8)) × Unit)))) v => ref02_Pivots_l1_step N (fun b0 b1 b2 b3 b4 b5 => rec ((b0, ((), (b1, ((), (b2, b3))))), (b4, (b5, ())))) v.1.1 v.1.2.2.1 v.1.2.2.2.2.1 v.1.2.2.2.2.2 v.2.1 v.2.2.1) n ((b0, ((), (b1, ((), (b2, b3))))), (b4, (b5, ())))
theorem ref02_Pivots_l1_succ (N n : Nat) (b0 : (List (List UInt8))) (b1 : Int) (b2 : Bool) (b3 : Int) (b4 : (List (List UInt8))) (b5 : (List (List UInt8))) : ref02_Pivots_l1 N (n + 1) b0 b1 b2 b3 b4 b5 = ref02_Pivots_l1_step N (fun b0  b1  b2  b3  b4  b5  => ref02_Pivots_l1 N n b0 b1 b2 b3 b4 b5) b0 b1 b2 b3 b4 b5 := rfl
def ref02_Pivots_l0_step (N : Nat) (rec : (List (List UInt8)) → Int → (List (List UInt8)) → Option ((Unit × ((List (List UInt8)) × Unit)))) (b0 : (List (List UInt8))) (b1 : Int) (b2 : (List (List UInt8))) : Option ((Unit × ((List (List UInt8)) × Unit))) :=
  bif (decide (b1 < (List.length b0 : Int))) then
  (gd (inB b1 (List.length b0))
  (let x1 := (eqs (rdL b0 b1 ([] : List UInt8)) ([] : List UInt8))
  match ref02_Pivots_l1 N N b0 b1 x1 (0 : Int) b2 ([] : List (List UInt8)) with
  | some r14 => (bif (!r14.1.2.2.2) then
  (gd (inB r14.1.2.1 (List.length r14.1.1))
  (let x15 := ([(rdL r14.1.1 r14.1.2.1 ([] : List UInt8))] : List (List UInt8))
  gd (fits (List.length r14.2.1 + List.length x15) 16)
  (let x16 := (@HAppend.hAppend (List (List UInt8)) (List (List UInt8)) (List (List UInt8)) _ r14.2.1 x15)
  rec r14.1.1 (IntKind.wrap .i64 (r14.1.2.1 + (1 : Int))) x16)))
  else
  (rec r14.1.1 (IntKind.wrap .i64 (r14.1.2.1 + (1 : Int))) r14.2.1))
  | none => none))
  else
  (some ((), (b2, ())))
def ref02_Pivots_l0 (N n : Nat) (b0 : (List (List UInt8))) (b1 : Int) (b2 : (List (List UInt8))) : Option ((Unit × ((List (List UInt8)) × Unit))) :=
  iter (fun (rec : (((List (List UInt8)) × (Unit × Int)) × ((List (List UInt8)) × Unit)) → Option ((Unit × ((List (List UInt8)) × Unit)))) v => ref02_Pivots_l0_step N (fun b0 b1 b2 => rec ((b0, ((), b1)), (b2, ()))) v.1.1 v.1.2.2 v.2.1) n ((b0, ((), b1)), (b2, ()))
theorem ref02_Pivots_l0_succ (N n : Nat) (b0 : (List (List UInt8))) (b1 : Int) (b2 : (List (List UInt8))) : ref02_Pivots_l0 N (n + 1) b0 b1 b2 = ref02_Pivots_l0_step N (fun b0  b1  b2  => ref02_Pivots_l0 N n b0 b1 b2) b0 b1 b2 := rfl
def ref02_Pivots (N : Nat) (a0 : (List (List UInt8))) : Option ((List (List UInt8))) :=
  match ref02_Pivots_l0 N N a0 (0 : Int) ([] : List (List UInt8)) with
  | some r17 => (some r17.2.1)
  | none => none
def ref05_Path (N : Nat) (a0 : Int) : Option ((List UInt8)) :=
  let x1 := ([([97, 47] : List UInt8), ([98, 47] : List UInt8), ([97, 47, 98, 47] : List UInt8), ([99, 47] : List UInt8), ([100, 47] : List UInt8)] : List (List UInt8))
  gd (inB (Int.tmod a0 (5 : Int)) (List.length x1))
  (let x2 := (rdL x1 (Int.tmod a0 (5 : Int)) ([] : List UInt8))
  some x2)
def ref05_Key (N : Nat) (a0 : Int) : Option ((List UInt8)) :=
  match ref05_Path N (Int.tmod a0 (4 : Int)) with
  | some r1 => (let x2 := ([([1] : List UInt8), ([2, 0, 0] : List UInt8), ([2, 0, 1] : List UInt8), ([2, 0, 2] : List UInt8), ([3, 120] : List UInt8)] : List (List UInt8))
  let x3 := (Int.tmod (IntKind.wrap .u8 (Int.tdiv a0 (4 : Int))) (5 : Int))
  gd (inB x3 (List.length x2))
  (gd (decide (List.length r1 + List.length (rdL x2 x3 ([] : List UInt8)) < maxS))
  (let x4 := (@HAppend.hAppend (List UInt8) (List UInt8) (List UInt8) _ r1 (rdL x2 x3 ([] : List UInt8)))
  some x4)))
  | none => none
def ref02_Prefix_l0_step (N : Nat) (rec : (List UInt8) → Int → (List UInt8) → (List UInt8) → Option ((((List UInt8) × (Unit × Int)) × (((List UInt8) × (List UInt8)) × Unit)))) (b0 : (List UInt8)) (b1 : Int) (b2 : (List UInt8)) (b3 : (List UInt8)) : Option ((((List UInt8) × (Unit × Int)) × (((List UInt8) × (List UInt8)) × Unit))) :=
  bif (decide ((0 : Int) < b1)) then
  (gd (inB (IntKind.wrap .i64 (b1 - (1 : Int))) (List.length b0))
  (let x1 := (eqi (bt b0 (IntKind.wrap .i64 (b1 - (1 : Int)))) (255 : Int))
  bif x1 then
  (rec b0 (IntKind.wrap .i64 (b1 - (1 : Int))) b2 b3)
  else
  (some ((b0, ((), b1)), ((b2, b3), ())))))
  else
  (some ((b0, ((), b1)), ((b2, b3), ())))
def ref02_Prefix_l0 (N n : Nat) (b0 : (List UInt8)) (b1 : Int) (b2 : (List UInt8)) (b3 : (List UInt8)) : Option ((((List UInt8) × (Unit × Int)) × (((List UInt8) × (List UInt8)) × Unit))) :=
  iter (fun (rec : (((List UInt8) × (Unit × Int)) × (((List UInt8) × (List UInt8)) × Unit)) → Option ((((List UInt8) × (Unit × Int)) × (((List UInt8) × (List UInt8)) × Unit)))) v => ref02_Prefix_l0_step N (fun b0 b1 b2 b3 => rec ((b0, ((), b1)), ((b2, b3), ()))) v.1.1 v.1.2.2 v.2.1.1 v.2.1.2) n ((b0, ((), b1)), ((b2, b3), ()))
theorem ref02_Prefix_l0_succ (N n : Nat) (b0 : (List UInt8)) (b1 : Int) (b2 : (List UInt8)) (b3 : (List UInt8)) : ref02_Prefix_l0 N (n + 1) b0 b1 b2 b3 = ref02_Prefix_l0_step N (fun b0  b1  b2  b3  => ref02_Prefix_l0 N n b0 b1 b2 b3) b0 b1 b2 b3 := rfl
def ref02_Prefix (N : Nat) (a0 : (List UInt8)) : Option (V_api_Span) :=
  match ref02_Prefix_l0 N N a0 (List.length a0 : Int) ([] : List UInt8) ([] : List UInt8) with
  | some r2 => (bif (eqi r2.1.2.2 (0 : Int)) then
  (some (r2.1.1, ([] : List UInt8)))
  else
  (gd (decide (0 ≤ (0 : Int)) && (decide ((0 : Int) ≤ (IntKind.wrap .i64 (r2.1.2.2 - (1 : Int)))) && decide ((IntKind.wrap .i64 (r2.1.2.2 - (1 : Int))) ≤ (List.length r2.1.1 : Int))))
  (let x3 := (cut2 r2.1.1 (0 : Int) (IntKind.wrap .i64 (r2.1.2.2 - (1 : Int))))
  gd (inB (IntKind.wrap .i64 (r2.1.2.2 - (1 : Int))) (List.length r2.1.1))
  (let x4 := (bt r2.1.1 (IntKind.wrap .i64 (r2.1.2.2 - (1 : Int))))
  let x5 := ([(IntKind.wrap .u8 (x4 + (1 : Int)))] : List Int)
  gd (decide (List.length x3 + List.length (bytesU x5) < maxS))
  (let x6 := (@HAppend.hAppend (List UInt8) (List UInt8) (List UInt8) _ x3 (bytesU x5))
  some (r2.1.1, x6))))))
  | none => none
def ref02_Begins (N : Nat) (a0 : (List UInt8)) (a1 : (List UInt8)) : Option (Bool) :=
  let x1 := (decide ((List.length a1 : Int) ≤ (List.length a0 : Int)))
  bif x1 then
  (gd (decide (0 ≤ (0 : Int)) && (decide ((0 : Int) ≤ (List.length a1 : Int)) && decide ((List.length a1 : Int) ≤ (List.length a0 : Int))))
  (let x2 := (eqs (cut2 a0 (0 : Int) (List.length a1 : Int)) a1)
  some x2))
  else
  (some false)
def ref05_Value (N : Nat) (a0 : Int) : Option ((List UInt8)) :=
  let x1 := ([([] : List UInt8), ([120] : List UInt8), ([121, 121] : List UInt8), ([49, 50, 51, 52, 53, 54, 55, 56, 57, 48] : List UInt8), ([0, 255] : List UInt8)] : List (List UInt8))
  gd (inB (Int.tmod a0 (5 : Int)) (List.length x1))
  (let x2 := (rdL x1 (Int.tmod a0 (5 : Int)) ([] : List UInt8))
  some x2)
def ref02_One (N : Nat) (a0 : (List UInt8)) : Option (V_api_Span) :=
  gd (decide (List.length a0 + List.length ([0] : List UInt8) < maxS))
  (let x1 := (@HAppend.hAppend (List UInt8) (List UInt8) (List UInt8) _ a0 ([0] : List UInt8))
  some (a0, x1))
def ref05_Made_p1 (N : Nat) (b0 : (List UInt8)) (b1 : (List UInt8)) (b2 : (List UInt8)) (b3 : Int) (b4 : Int) (b5 : Int) (b6 : Int) (b7 : Int) (b8 : Int) (b9 : Int) (b10 : (List UInt8)) (b11 : (List UInt8)) (b12 : (List UInt8)) (b13 : (List UInt8)) (b14 : (List UInt8)) (b15 : (List UInt8)) (b16 : Int) (b17 : (List UInt8)) (b18 : (List UInt8)) : Option ((Unit × ((Int × ((List UInt8) × ((List UInt8) × ((List UInt8) × ((List UInt8) × ((List UInt8) × ((List UInt8) × Int))))))) × Unit))) :=
  let x9 := (IntKind.wrap .i64 ((Int.tmod b8 (8 : Int))))
  bif (eqi (Int.tmod b3 (6 : Int)) (0 : Int)) then
  (match ref05_Value N b5 with
  | some r10 => (some ((), (((1 : Int), (b0, (r10, (([] : List UInt8), (([] : List UInt8), (([] : List UInt8), (([] : List UInt8), x9))))))), ())))
  | none => none)
  else
  (bif (eqi (Int.tmod b3 (6 : Int)) (1 : Int)) then
  (some ((), (((2 : Int), (b0, (([] : List UInt8), (([] : List UInt8), (([] : List UInt8), (([] : List UInt8), (([] : List UInt8), (0 : Int)))))))), ())))
  else
  (bif (eqi (Int.tmod b3 (6 : Int)) (2 : Int)) then
  (some ((), (((3 : Int), (([] : List UInt8), (([] : List UInt8), (b17, (b18, (([] : List UInt8), (([] : List UInt8), (0 : Int)))))))), ())))
  else
  (bif (eqi (Int.tmod b3 (6 : Int)) (3 : Int)) then
  (some ((), (((4 : Int), (([] : List UInt8), (([] : List UInt8), (([] : List UInt8), (([] : List UInt8), (b1, (b2, (0 : Int)))))))), ())))
  else
  (bif (eqi (Int.tmod b3 (6 : Int)) (4 : Int)) then
  (some ((), (((5 : Int), (([] : List UInt8), (([] : List UInt8), (([] : List UInt8), (([] : List UInt8), (b1, (b2, (0 : Int)))))))), ())))
  else
  (some ((), (((6 : Int), (([] : List UInt8), (([] : List UInt8), (b17, (b18, (([] : List UInt8), (([] : List UInt8), x9))))))), ())))))))
def ref05_Made_p0 (N : Nat) (b0 : (List UInt8)) (b1 : Int) (b2 : Int) (b3 : Int) (b4 : Int) (b5 : Int) (b6 : Int) (b7 : Int) (b8 : (List UInt8)) (b9 : (List UInt8)) (b10 : (List UInt8)) (b11 : (List UInt8)) (b12 : (List UInt8)) (b13 : (List UInt8)) (b14 : Int) (b15 : (List UInt8)) (b16 : (List UInt8)) : Option ((Unit × ((Int × ((List UInt8) × ((List UInt8) × ((List UInt8) × ((List UInt8) × ((List UInt8) × ((List UInt8) × Int))))))) × Unit))) :=
  match ref05_Path N b2 with
  | some r6 => (match ref05_Path N b4 with
  | some r7 => (match ref02_Begins N r6 r7 with
  | some r8 => (bif r8 then
  (bif (eqs r6 ([100, 47] : List UInt8)) then
  (match ref05_Made_p1 N b0 r6 ([99, 47] : List UInt8) b1 b2 b3 b4 b5 b6 b7 b8 b9 b10 b11 b12 b13 b14 b15 b16 with
  | some r11 => (some ((), ((r11.2.1.1, (r11.2.1.2.1, (r11.2.1.2.2.1, (r11.2.1.2.2.2.1, (r11.2.1.2.2.2.2.1, (r11.2.1.2.2.2.2.2.1, (r11.2.1.2.2.2.2.2.2.1, r11.2.1.2.2.2.2.2.2.2))))))), ())))
  | none => none)
  else
  (match ref05_Made_p1 N b0 r6 ([100, 47] : List UInt8) b1 b2 b3 b4 b5 b6 b7 b8 b9 b10 b11 b12 b13 b14 b15 b16 with
  | some r12 => (some ((), ((r12.2.1.1, (r12.2.1.2.1, (r12.2.1.2.2.1, (r12.2.1.2.2.2.1, (r12.2.1.2.2.2.2.1, (r12.2.1.2.2.2.2.2.1, (r12.2.1.2.2.2.2.2.2.1, r12.2.1.2.2.2.2.2.2.2))))))), ())))
  | none => none))
  else
  (match ref02_Begins N r7 r6 with
  | some r13 => (bif r13 then
  (bif (eqs r6 ([100, 47] : List UInt8)) then
  (match ref05_Made_p1 N b0 r6 ([99, 47] : List UInt8) b1 b2 b3 b4 b5 b6 b7 b8 b9 b10 b11 b12 b13 b14 b15 b16 with
  | some r14 => (some ((), ((r14.2.1.1, (r14.2.1.2.1, (r14.2.1.2.2.1, (r14.2.1.2.2.2.1, (r14.2.1.2.2.2.2.1, (r14.2.1.2.2.2.2.2.1, (r14.2.1.2.2.2.2.2.2.1, r14.2.1.2.2.2.2.2.2.2))))))), ())))
  | none => none)
  else
  (match ref05_Made_p1 N b0 r6 ([100, 47] : List UInt8) b1 b2 b3 b4 b5 b6 b7 b8 b9 b10 b11 b12 b13 b14 b15 b16 with
  | some r15 => (some ((), ((r15.2.1.1, (r15.2.1.2.1, (r15.2.1.2.2.1, (r15.2.1.2.2.2.1, (r15.2.1.2.2.2.2.1, (r15.2.1.2.2.2.2.2.1, (r15.2.1.2.2.2.2.2.2.1, r15.2.1.2.2.2.2.2.2.2))))))), ())))
  | none => none))
  else
  (match ref05_Made_p1 N b0 r6 r7 b1 b2 b3 b4 b5 b6 b7 b8 b9 b10 b11 b12 b13 b14 b15 b16 with
  | some r16 => (some ((), ((r16.2.1.1, (r16.2.1.2.1, (r16.2.1.2.2.1, (r16.2.1.2.2.2.1, (r16.2.1.2.2.2.2.1, (r16.2.1.2.2.2.2.2.1, (r16.2.1.2.2.2.2.2.2.1, r16.2.1.2.2.2.2.2.2.2))))))), ())))
  | none => none))
  | none => none))
  | none => none)
  | none => none)
  | none => none
def ref05_Made (N : Nat) (a0 : V_ref05_Raw) : Option (V_api_Msg) :=
  match ref05_Key N a0.2.1 with
  | some r1 => (match ref05_Key N a0.2.2.2.1 with
  | some r2 => (let x3 := (eqi (Int.tmod a0.2.2.2.2.1 (4 : Int)) (0 : Int))
  bif x3 then
  (match ref05_Path N a0.2.1 with
  | some r4 => (match ref02_Prefix N r4 with
  | some r5 => (match ref05_Made_p0 N r1 a0.1 a0.2.1 a0.2.2.1 a0.2.2.2.1 a0.2.2.2.2.1 a0.2.2.2.2.2 (0 : Int) ([] : List UInt8) ([] : List UInt8) ([] : List UInt8) ([] : List UInt8) ([] : List UInt8) ([] : List UInt8) (0 : Int) r5.1 r5.2 with
  | some r17 => (some (r17.2.1.1, (r17.2.1.2.1, (r17.2.1.2.2.1, ((r17.2.1.2.2.2.1, r17.2.1.2.2.2.2.1), r17.2.1.2.2.2.2.2)))))
  | none => none)
  | none => none)
  | none => none)
  else
  (let x18 := (eqi (Int.tmod a0.2.2.2.2.1 (16 : Int)) (1 : Int))
  bif x18 then
  (match ref05_Made_p0 N r1 a0.1 a0.2.1 a0.2.2.1 a0.2.2.2.1 a0.2.2.2.2.1 a0.2.2.2.2.2 (0 : Int) ([] : List UInt8) ([] : List UInt8) ([] : List UInt8) ([] : List UInt8) ([] : List UInt8) ([] : List UInt8) (0 : Int) r1 ([] : List UInt8) with
  | some r19 => (some (r19.2.1.1, (r19.2.1.2.1, (r19.2.1.2.2.1, ((r19.2.1.2.2.2.1, r19.2.1.2.2.2.2.1), r19.2.1.2.2.2.2.2)))))
  | none => none)
  else
  (let x20 := (eqi (Int.tmod a0.2.2.2.2.1 (16 : Int)) (5 : Int))
  bif x20 then
  (match ref05_Made_p0 N r1 a0.1 a0.2.1 a0.2.2.1 a0.2.2.2.1 a0.2.2.2.2.1 a0.2.2.2.2.2 (0 : Int) ([] : List UInt8) ([] : List UInt8) ([] : List UInt8) ([] : List UInt8) ([] : List UInt8) ([] : List UInt8) (0 : Int) ([] : List UInt8) ([] : List UInt8) with
  | some r21 => (some (r21.2.1.1, (r21.2.1.2.1, (r21.2.1.2.2.1, ((r21.2.1.2.2.2.1, r21.2.1.2.2.2.2.1), r21.2.1.2.2.2.2.2)))))
  | none => none)
  else
  (bif (eqs r1 r2) then
  (match ref02_One N r1 with
  | some r22 => (match ref05_Made_p0 N r1 a0.1 a0.2.1 a0.2.2.1 a0.2.2.2.1 a0.2.2.2.2.1 a0.2.2.2.2.2 (0 : Int) ([] : List UInt8) ([] : List UInt8) ([] : List UInt8) ([] : List UInt8) ([] : List UInt8) ([] : List UInt8) (0 : Int) r22.1 r22.2 with
  | some r23 => (some (r23.2.1.1, (r23.2.1.2.1, (r23.2.1.2.2.1, ((r23.2.1.2.2.2.1, r23.2.1.2.2.2.2.1), r23.2.1.2.2.2.2.2)))))
  | none => none)
  | none => none)
  else
  (match ref05_Made_p0 N r1 a0.1 a0.2.1 a0.2.2.1 a0.2.2.2.1 a0.2.2.2.2.1 a0.2.2.2.2.2 (0 : Int) ([] : List UInt8) ([] : List UInt8) ([] : List UInt8) ([] : List UInt8) ([] : List UInt8) ([] : List UInt8) (0 : Int) (bif lts r1 r2 || eqs r1 r2 then r1 else r2) (bif !(lts r1 r2) then r1 else r2) with
  | some r24 => (some (r24.2.1.1, (r24.2.1.2.1, (r24.2.1.2.2.1, ((r24.2.1.2.2.2.1, r24.2.1.2.2.2.2.1), r24.2.1.2.2.2.2.2)))))
  | none => none)))))
  | none => none)
  | none => none
def ref05_List_l0_step (N : Nat) (rec : (List V_ref05_Raw) → Int → Int → (List V_api_Msg) → Option ((Unit × ((List V_api_Msg) × Unit)))) (b0 : (List V_ref05_Raw)) (b1 : Int) (b2 : Int) (b3 : (List V_api_Msg)) : Option ((Unit × ((List V_api_Msg) × Unit))) :=
  bif (decide (b2 < (List.length b0 : Int))) then
  (bif (decide (b2 < b1)) then
  (gd (inB b2 (List.length b0))
  (match ref05_Made N (rdL b0 b2 D_ref05_Raw) with
  | some r1 => (gd (fits (List.length b3 + 1) 112)
  (let x2 := (@HAppend.hAppend (List V_api_Msg) (List V_api_Msg) (List V_api_Msg) _ b3 ([r1] : List V_api_Msg))
  rec b0 b1 (IntKind.wrap .i64 (b2 + (1 : Int))) x2))
  | none => none))
  else
  (some ((), (b3, ()))))
  else
  (some ((), (b3, ())))
def ref05_List_l0 (N n : Nat) (b0 : (List V_ref05_Raw)) (b1 : Int) (b2 : Int) (b3 : (List V_api_Msg)) : Option ((Unit × ((List V_api_Msg) × Unit))) :=
  iter (fun (rec : (((List V_ref05_Raw) × (Int × (Unit × Int))) × ((List V_api_Msg) × Unit)) → Option ((Unit × ((List V_api_Msg) × Unit)))) v => ref05_List_l0_step N (fun b0 b1 b2 b3 => rec ((b0, (b1, ((), b2))), (b3, ()))) v.1.1 v.1.2.1 v.1.2.2.2 v.2.1) n ((b0, (b1, ((), b2))), (b3, ()))
def ref05_List (N : Nat) (a0 : (List V_ref05_Raw)) (a1 : Int) : Option ((List V_api_Msg)) :=
  match ref05_List_l0 N N a0 a1 (0 : Int) ([] : List V_api_Msg) with
  | some r3 => (some r3.2.1)
  | none => none
def ref10_Made_l1_step (N : Nat) (rec : Int → (List V_ref04_Raw) → (List Int) → (List Int) → (List V_a4_uint8) → (List V_ref05_Raw) → (List V_api_Pair) → (List (List UInt8)) → (List Int) → (List V_api_Sum) → (List V_api_Msg) → (List (List UInt8)) → (List V_api_Pair) → (List Int) → (List V_api_Sum) → (List V_api_Msg) → Option (((Unit × Unit) × ((Unit × (Unit × (Unit × (Unit × Unit)))) × ((List V_api_Pair) × ((List (List UInt8)) × ((List Int) × ((List V_api_Sum) × ((List V_api_Msg) × ((Unit × ((List (List UInt8)) × (Unit × (Unit × Unit)))) × ((List V_api_Pair) × ((List Int) × ((List V_api_Sum) × ((List V_api_Msg) × Unit)))))))))))))) (b0 : Int) (b1 : (List V_ref04_Raw)) (b2 : (List Int)) (b3 : (List Int)) (b4 : (List V_a4_uint8)) (b5 : (List V_ref05_Raw)) (b6 : (List V_api_Pair)) (b7 : (List (List UInt8))) (b8 : (List Int)) (b9 : (List V_api_Sum)) (b10 : (List V_api_Msg)) (b11 : (List (List UInt8))) (b12 : (List V_api_Pair)) (b13 : (List Int)) (b14 : (List V_api_Sum)) (b15 : (List V_api_Msg)) : Option (((Unit × Unit) × ((Unit × (Unit × (Unit × (Unit × Unit)))) × ((List V_api_Pair) × ((List (List UInt8)) × ((List Int) × ((List V_api_Sum) × ((List V_api_Msg) × ((Unit × ((List (List UInt8)) × (Unit × (Unit × Unit)))) × ((List V_api_Pair) × ((List Int) × ((List V_api_Sum) × ((List V_api_Msg) × Unit))))))))))))) :=
  bif (decide (b0 ≤ (List.length b11 : Int))) then
  (bif (decide (b0 < (List.length b4 : Int))) then
  (gd (inB b0 (List.length b4))
  (let x9 := (IntKind.wrap .i64 ((rdL b4 b0 D_a4_uint8).1))
  let x10 := (IntKind.wrap .i64 ((rdL b4 b0 D_a4_uint8).1))
  let x11 := (IntKind.wrap .i64 (((rdL b4 b0 D_a4_uint8).2).1))
  let x12 := (IntKind.wrap .i64 ((((rdL b4 b0 D_a4_uint8).2).2).1))
  let x13 := (IntKind.wrap .i64 ((((rdL b4 b0 D_a4_uint8).2).2).1))
  let x14 := (IntKind.wrap .i64 ((((rdL b4 b0 D_a4_uint8).2).2).2))
  gd (inB b0 (List.length b2))
  (let x15 := ([(IntKind.wrap .i64 ((rdL b2 b0 (0 : Int))))] : List Int)
  gd (fits (List.length b13 + List.length x15) 8)
  (let x16 := (@HAppend.hAppend (List Int) (List Int) (List Int) _ b13 x15)
  let x17 := ([((x9, (IntKind.wrap .i64 (x10 + x11))), (x12, (IntKind.wrap .i64 (x13 + x14))))] : List V_api_Sum)
  gd (fits (List.length b14 + List.length x17) 32)
  (let x18 := (@HAppend.hAppend (List V_api_Sum) (List V_api_Sum) (List V_api_Sum) _ b14 x17)
  rec (IntKind.wrap .i64 (b0 + (1 : Int))) b1 b2 b3 b4 b5 b6 b7 b8 b9 b10 b11 b12 x16 x18 b15)))))
  else
  (gd (inB b0 (List.length b2))
  (let x19 := ([(IntKind.wrap .i64 ((rdL b2 b0 (0 : Int))))] : List Int)
  gd (fits (List.length b13 + List.length x19) 8)
  (let x20 := (@HAppend.hAppend (List Int) (List Int) (List Int) _ b13 x19)
  let x21 := ([(((0 : Int), (0 : Int)), ((0 : Int), (0 : Int)))] : List V_api_Sum)
  gd (fits (List.length b14 + List.length x21) 32)
  (let x22 := (@HAppend.hAppend (List V_api_Sum) (List V_api_Sum) (List V_api_Sum) _ b14 x21)
  rec (IntKind.wrap .i64 (b0 + (1 : Int))) b1 b2 b3 b4 b5 b6 b7 b8 b9 b10 b11 b12 x20 x22 b15)))))
  else
  (some (((), ()), (((), ((), ((), ((), ())))), (b6, (b7, (b8, (b9, (b10, (((), (b11, ((), ((), ())))), (b12, (b13, (b14, (b15, ())))))))))))))
def ref10_Made_l1 (N n : Nat) (b0 : Int) (b1 : (List V_ref04_Raw)) (b2 : (List Int)) (b3 : (List Int)) (b4 : (List V_a4_uint8)) (b5 : (List V_ref05_Raw)) (b6 : (List V_api_Pair)) (b7 : (List (List UInt8))) (b8 : (List Int)) (b9 : (List V_api_Sum)) (b10 : (List V_api_Msg)) (b11 : (List (List UInt8))) (b12 : (List V_api_Pair)) (b13 : (List Int)) (b14 : (List V_api_Sum)) (b15 : (List V_api_Msg)) : Option (((Unit × Unit) × ((Unit × (Unit × (Unit × (Unit × Unit)))) × ((List V_api_Pair) × ((List (List UInt8)) × ((List Int) × ((List V_api_Sum) × ((List V_api_Msg) × ((Unit × ((List (List UInt8)) × (Unit × (Unit × Unit)))) × ((List V_api_Pair) × ((List Int) × ((List V_api_Sum) × ((List V_api_Msg) × Unit))))))))))))) :=
  iter (fun (rec : ((Unit × (Unit × (Unit × Int))) × (((List V_ref04_Raw) × ((List Int) × ((List Int) × ((List V_a4_uint8) × (List V_ref05_Raw))))) × ((Unit × (Unit × (Unit × (Unit × Unit)))) × ((List V_api_Pair) × ((List (List UInt8)) × ((List Int) × ((List V_api_Sum) × ((List V_api_Msg) × ((Unit × ((List (List UInt8)) × (Unit × (Unit × Unit)))) × ((List V_api_Pair) × ((List Int) × ((List V_api_Sum) × ((List V_api_Msg) × Unit))))))))))))) → Option (((Unit × Unit) × ((Unit × (Unit × (Unit × (Unit × Unit)))) × ((List V_api_Pair) × ((List (List UInt8)) × ((List Int) × ((List V_api_Sum) × ((List V_api_Msg) × ((Unit × ((List (List UInt8)) × (Unit × (Unit × Unit)))) × ((List V_api_Pair) × ((List Int) × ((List V_api_Sum) × ((List V_api_Msg) × Unit)))))))))))))) v => ref10_Made_l1_step N (fun b0 b1 b2 b3 b4 b5 b6 b7 b8 b9 b10 b11 b12 b13 b14 b15 => rec (((), ((), ((), b0))), ((b1, (b2, (b3, (b4, b5)))), (((), ((), ((), ((), ())))), (b6, (b7, (b8, (b9, (b10, (((), (b11, ((), ((), ())))), (b12, (b13, (b14, (b15, ())))))))))))))) v.1.2.2.2 v.2.1.1 v.2.1.2.1 v.2.1.2.2.1 v.2.1.2.2.2.1 v.2.1.2.2.2.2 v.2.2.2.1 v.2.2.2.2.1 v.2.2.2.2.2.1 v.2.2.2.2.2.2.1 v.2.2.2.2.2.2.2.1 v.2.2.2.2.2.2.2.2.1.2.1 v.2.2.2.2.2.2.2.2.2.1 v.2.2.2.2.2.2.2.2.2.2.1 v.2.2.2.2.2.2.2.2.2.2.2.1 v.2.2.2.2.2.2.2.2.2.2.2.2.1) n (((), ((), ((), b0))), ((b1, (b2, (b3, (b4, b5)))), (((), ((), ((), ((), ())))), (b6, (b7, (b8, (b9, (b10, (((), (b11, ((), ((), ())))), (b12, (b13, (b14, (b15, ())))))))))))))
theorem ref10_Made_l1_succ (N n : Nat) (b0 : Int) (b1 : (List V_ref04_Raw)) (b2 : (List Int)) (b3 : (List Int)) (b4 : (List V_a4_uint8)) (b5 : (List V_ref05_Raw)) (b6 : (List V_api_Pair)) (b7 : (List (List UInt8))) (b8 : (List Int)) (b9 : (List V_api_Sum)) (b10 : (List V_api_Msg)) (b11 : (List (List UInt8))) (b12 : (List V_api_Pair)) (b13 : (List Int)) (b14 : (List V_api_Sum)) (b15 : (List V_api_Msg)) : ref10_Made_l1 N (n + 1) b0 b1 b2 b3 b4 b5 b6 b7 b8 b9 b10 b11 b12 b13 b14 b15 = ref10_Made_l1_step N (fun b0  b1  b2  b3  b4  b5  b6  b7  b8  b9  b10  b11  b12  b13  b14  b15  => ref10_Made_l1 N n b0 b1 b2 b3 b4 b5 b6 b7 b8 b9 b10 b11 b12 b13 b14 b15) b0 b1 b2 b3 b4 b5 b6 b7 b8 b9 b10 b11 b12 b13 b14 b15 := rfl
def ref10_Made_l0_step (N : Nat) (rec : Int → (List V_ref04_Raw) → (List Int) → (List Int) → (List V_a4_uint8) → (List V_ref05_Raw) → (List V_api_Pair) → (List (List UInt8)) → (List Int) → (List V_api_Sum) → (List V_api_Msg) → (List (List UInt8)) → Option (((Unit × (Unit × Unit)) × (((List V_ref04_Raw) × ((List Int) × ((List Int) × ((List V_a4_uint8) × (List V_ref05_Raw))))) × ((Unit × (Unit × (Unit × (Unit × Unit)))) × ((List V_api_Pair) × ((List (List UInt8)) × ((List Int) × ((List V_api_Sum) × ((List V_api_Msg) × ((List (List UInt8)) × Unit))))))))))) (b0 : Int) (b1 : (List V_ref04_Raw)) (b2 : (List Int)) (b3 : (List Int)) (b4 : (List V_a4_uint8)) (b5 : (List V_ref05_Raw)) (b6 : (List V_api_Pair)) (b7 : (List (List UInt8))) (b8 : (List Int)) (b9 : (List V_api_Sum)) (b10 : (List V_api_Msg)) (b11 : (List (List UInt8))) : Option (((Unit × (Unit × Unit)) × (((List V_ref04_Raw) × ((List Int) × ((List Int) × ((List V_a4_uint8) × (List V_ref05_Raw))))) × ((Unit × (Unit × (Unit × (Unit × Unit)))) × ((List V_api_Pair) × ((List (List UInt8)) × ((List Int) × ((List V_api_Sum) × ((List V_api_Msg) × ((List (List UInt8)) × Unit)))))))))) :=
  bif (decide (b0 < (List.length b3 : Int))) then
  (gd (inB b0 (List.length b3))
  (match ref04_Key N (rdL b3 b0 (0 : Int)) with
  | some r2 => (gd (fits (List.length b11 + 1) 16)
  (let x3 := (@HAppend.hAppend (List (List UInt8)) (List (List UInt8)) (List (List UInt8)) _ b11 ([r2] : List (List UInt8)))
  rec (IntKind.wrap .i64 (b0 + (1 : Int))) b1 b2 b3 b4 b5 b6 b7 b8 b9 b10 x3))
  | none => none))
  else
  (some (((), ((), ())), ((b1, (b2, (b3, (b4, b5)))), (((), ((), ((), ((), ())))), (b6, (b7, (b8, (b9, (b10, (b11, ()))))))))))
def ref10_Made_l0 (N n : Nat) (b0 : Int) (b1 : (List V_ref04_Raw)) (b2 : (List Int)) (b3 : (List Int)) (b4 : (List V_a4_uint8)) (b5 : (List V_ref05_Raw)) (b6 : (List V_api_Pair)) (b7 : (List (List UInt8))) (b8 : (List Int)) (b9 : (List V_api_Sum)) (b10 : (List V_api_Msg)) (b11 : (List (List UInt8))) : Option (((Unit × (Unit × Unit)) × (((List V_ref04_Raw) × ((List Int) × ((List Int) × ((List V_a4_uint8) × (List V_ref05_Raw))))) × ((Unit × (Unit × (Unit × (Unit × Unit)))) × ((List V_api_Pair) × ((List (List UInt8)) × ((List Int) × ((List V_api_Sum) × ((List V_api_Msg) × ((List (List UInt8)) × Unit)))))))))) :=
  iter (fun (rec : ((Unit × (Unit × (Unit × Int))) × (((List V_ref04_Raw) × ((List Int) × ((List Int) × ((List V_a4_uint8) × (List V_ref05_Raw))))) × ((Unit × (Unit × (Unit × (Unit × Unit)))) × ((List V_api_Pair) × ((List (List UInt8)) × ((List Int) × ((List V_api_Sum) × ((List V_api_Msg) × ((List (List UInt8)) × Unit))))))))) → Option (((Unit × (Unit × Unit)) × (((List V_ref04_Raw) × ((List Int) × ((List Int) × ((List V_a4_uint8) × (List V_ref05_Raw))))) × ((Unit × (Unit × (Unit × (Unit × Unit)))) × ((List V_api_Pair) × ((List (List UInt8)) × ((List Int) × ((List V_api_Sum) × ((List V_api_Msg) × ((List (List UInt8)) × Unit))))))))))) v => ref10_Made_l0_step N (fun b0 b1 b2 b3 b4 b5 b6 b7 b8 b9 b10 b11 => rec (((), ((), ((), b0))), ((b1, (b2, (b3, (b4, b5)))), (((), ((), ((), ((), ())))), (b6, (b7, (b8, (b9, (b10, (b11, ())))))))))) v.1.2.2.2 v.2.1.1 v.2.1.2.1 v.2.1.2.2.1 v.2.1.2.2.2.1 v.2.1.2.2.2.2 v.2.2.2.1 v.2.2.2.2.1 v.2.2.2.2.2.1 v.2.2.2.2.2.2.1 v.2.2.2.2.2.2.2.1 v.2.2.2.2.2.2.2.2.1) n (((), ((), ((), b0))), ((b1, (b2, (b3, (b4, b5)))), (((), ((), ((), ((), ())))), (b6, (b7, (b8, (b9, (b10, (b11, ())))))))))
theorem ref10_Made_l0_succ (N n : Nat) (b0 : Int) (b1 : (List V_ref04_Raw)) (b2 : (List Int)) (b3 : (List Int)) (b4 : (List V_a4_uint8)) (b5 : (List V_ref05_Raw)) (b6 : (List V_api_Pair)) (b7 : (List (List UInt8))) (b8 : (List Int)) (b9 : (List V_api_Sum)) (b10 : (List V_api_Msg)) (b11 : (List (List UInt8))) : ref10_Made_l0 N (n + 1) b0 b1 b2 b3 b4 b5 b6 b7 b8 b9 b10 b11 = ref10_Made_l0_step N (fun b0  b1  b2  b3  b4  b5  b6  b7  b8  b9  b10  b11  => ref10_Made_l0 N n b0 b1 b2 b3 b4 b5 b6 b7 b8 b9 b10 b11) b0 b1 b2 b3 b4 b5 b6 b7 b8 b9 b10 b11 := rfl
def ref10_Made (N : Nat) (a0 : V_ref10_Raw) : Option (V_api_Node) :=
  bif (eqi (List.length a0.2.1 : Int) (0 : Int)) then
  (match ref04_Made N a0.1 with
  | some r1 => (some (r1, (([] : List (List UInt8)), (([] : List Int), (([] : List V_api_Sum), ([] : List V_api_Msg))))))
  | none => none)
  else
  (match ref10_Made_l0 N N (0 : Int) a0.1 a0.2.1 a0.2.2.1 a0.2.2.2.1 a0.2.2.2.2 ([] : List V_api_Pair) ([] : List (List UInt8)) ([] : List Int) ([] : List V_api_Sum) ([] : List V_api_Msg) ([] : List (List UInt8)) with
  | some r4 => (match ref02_Pivots N r4.2.2.2.2.2.2.2.2.1 with
  | some r5 => (let x6 := (bif decide ((10 : Int) < (List.length r4.2.1.2.1 : Int)) then (10 : Int) else (List.length r4.2.1.2.1 : Int))
  let x7 := (bif decide ((IntKind.wrap .i64 (x6 - (1 : Int))) < (List.length r5 : Int)) then (IntKind.wrap .i64 (x6 - (1 : Int))) else (List.length r5 : Int))
  gd (decide (0 ≤ (0 : Int)) && (decide ((0 : Int) ≤ x7) && decide (x7 ≤ (List.length r5 : Int))))
  (match ref05_List N r4.2.1.2.2.2.2 (12 : Int) with
  | some r8 => (match ref10_Made_l1 N N (0 : Int) r4.2.1.1 r4.2.1.2.1 r4.2.1.2.2.1 r4.2.1.2.2.2.1 r4.2.1.2.2.2.2 r4.2.2.2.1 r4.2.2.2.2.1 r4.2.2.2.2.2.1 r4.2.2.2.2.2.2.1 r4.2.2.2.2.2.2.2.1 (cut2 r5 (0 : Int) x7) ([] : List V_api_Pair) ([] : List Int) ([] : List V_api_Sum) r8 with
  | some r23 => (some (r23.2.2.2.2.2.2.2.2.1, (r23.2.2.2.2.2.2.2.1.2.1, (r23.2.2.2.2.2.2.2.2.2.1, (r23.2.2.2.2.2.2.2.2.2.2.1, r23.2.2.2.2.2.2.2.2.2.2.2.1)))))
  | none => none)
  | none => none))
  | none => none)
  | none => none)
def ref04_Valid_l0_step (N : Nat) (rec : (List V_api_Pair) → Int → Option ((Bool × Unit) ⊕ (Unit × Unit))) (b0 : (List V_api_Pair)) (b1 : Int) : Option ((Bool × Unit) ⊕ (Unit × Unit)) :=
  bif (decide (b1 < (List.length b0 : Int))) then
  (gd (inB (IntKind.wrap .i64 (b1 - (1 : Int))) (List.length b0))
  (let x1 := (rdL b0 (IntKind.wrap .i64 (b1 - (1 : Int))) D_api_Pair)
  gd (inB b1 (List.length b0))
  (bif (!(lts x1.1 ((rdL b0 b1 D_api_Pair).1))) then
  (some (.inl (false, ())))
  else
  (rec b0 (IntKind.wrap .i64 (b1 + (1 : Int)))))))
  else
  (some (.inr ((), ())))
def ref04_Valid_l0 (N n : Nat) (b0 : (List V_api_Pair)) (b1 : Int) : Option ((Bool × Unit) ⊕ (Unit × Unit)) :=
  iter (fun (rec : (((List V_api_Pair) × Int) × Unit) → Option ((Bool × Unit) ⊕ (Unit × Unit))) v => ref04_Valid_l0_step N (fun b0 b1 => rec ((b0, b1), ())) v.1.1 v.1.2) n ((b0, b1), ())
def ref04_Valid (N : Nat) (a0 : (List V_api_Pair)) : Option (Bool) :=
  match ref04_Valid_l0 N N a0 (1 : Int) with
  | some r2 => (match r2 with
  | .inl r3 => (some r3.1)
  | .inr r4 => (some true))
  | none => none
def ref02_Has (N : Nat) (a0 : V_api_Span) (a1 : (List UInt8)) : Option (Bool) :=
  bif (!(lts a1 a0.1)) then
  (bif (eqs a0.2 ([] : List UInt8)) then
  (some true)
  else
  (some (lts a1 a0.2)))
  else
  (some false)
def ref10_in (N : Nat) (a0 : Int) (a1 : Int) (a2 : Int) : Option (Bool) :=
  bif (decide (a1 ≤ a0)) then
  (some (decide (a0 ≤ a2)))
  else
  (some false)
def ref10_leaf_l0_step (N : Nat) (rec : Int → (List V_api_Pair) → (List (List UInt8)) → (List Int) → (List V_api_Sum) → (List V_api_Msg) → (List UInt8) → (List UInt8) → Option ((Bool × Unit) ⊕ (Unit × Unit))) (b0 : Int) (b1 : (List V_api_Pair)) (b2 : (List (List UInt8))) (b3 : (List Int)) (b4 : (List V_api_Sum)) (b5 : (List V_api_Msg)) (b6 : (List UInt8)) (b7 : (List UInt8)) : Option ((Bool × Unit) ⊕ (Unit × Unit)) :=
  bif (decide (b0 < (List.length b1 : Int))) then
  (gd (inB b0 (List.length b1))
  (match ref02_Has N (b6, b7) ((rdL b1 b0 D_api_Pair).1) with
  | some r5 => (bif (!r5) then
  (some (.inl (false, ())))
  else
  (let x6 := (List.length ((rdL b1 b0 D_api_Pair).1) : Int)
  match ref10_in N x6 (1 : Int) (65535 : Int) with
  | some r7 => (bif (!r7) then
  (some (.inl (false, ())))
  else
  (let x8 := (List.length (((rdL b1 b0 D_api_Pair).2).1) : Int)
  bif (decide ((64 : Int) < x8)) then
  (some (.inl (false, ())))
  else
  (match ref10_in N (((rdL b1 b0 D_api_Pair).2).2) (0 : Int) (1000000000 : Int) with
  | some r9 => (bif (!r9) then
  (some (.inl (false, ())))
  else
  (rec (IntKind.wrap .i64 (b0 + (1 : Int))) b1 b2 b3 b4 b5 b6 b7))
  | none => none)))
  | none => none))
  | none => none))
  else
  (some (.inr ((), ())))
def ref10_leaf_l0 (N n : Nat) (b0 : Int) (b1 : (List V_api_Pair)) (b2 : (List (List UInt8))) (b3 : (List Int)) (b4 : (List V_api_Sum)) (b5 : (List V_api_Msg)) (b6 : (List UInt8)) (b7 : (List UInt8)) : Option ((Bool × Unit) ⊕ (Unit × Unit)) :=
  iter (fun (rec : ((Unit × (Unit × Int)) × (((List V_api_Pair) × ((List (List UInt8)) × ((List Int) × ((List V_api_Sum) × (List V_api_Msg))))) × (((List UInt8) × (List UInt8)) × Unit))) → Option ((Bool × Unit) ⊕ (Unit × Unit))) v => ref10_leaf_l0_step N (fun b0 b1 b2 b3 b4 b5 b6 b7 => rec (((), ((), b0)), ((b1, (b2, (b3, (b4, b5)))), ((b6, b7), ())))) v.1.2.2 v.2.1.1 v.2.1.2.1 v.2.1.2.2.1 v.2.1.2.2.2.1 v.2.1.2.2.2.2 v.2.2.1.1 v.2.2.1.2) n (((), ((), b0)), ((b1, (b2, (b3, (b4, b5)))), ((b6, b7), ())))
theorem ref10_leaf_l0_succ (N n : Nat) (b0 : Int) (b1 : (List V_api_Pair)) (b2 : (List (List UInt8))) (b3 : (List Int)) (b4 : (List V_api_Sum)) (b5 : (List V_api_Msg)) (b6 : (List UInt8)) (b7 : (List UInt8)) : ref10_leaf_l0 N (n + 1) b0 b1 b2 b3 b4 b5 b6 b7 = ref10_leaf_l0_step N (fun b0  b1  b2  b3  b4  b5  b6  b7  => ref10_leaf_l0 N n b0 b1 b2 b3 b4 b5 b6 b7) b0 b1 b2 b3 b4 b5 b6 b7 := rfl
def ref10_leaf (N : Nat) (a0 : V_api_Node) (a1 : V_api_Span) : Option (Bool) :=
  let x1 := (decide ((0 : Int) < (List.length a0.2.1 : Int)))
  bif x1 then
  (some false)
  else
  (let x2 := (decide ((0 : Int) < (List.length a0.2.2.2.1 : Int)))
  bif x2 then
  (some false)
  else
  (let x3 := (decide ((0 : Int) < (List.length a0.2.2.2.2 : Int)))
  bif x3 then
  (some false)
  else
  (match ref04_Valid N a0.1 with
  | some r4 => (bif (!r4) then
  (some false)
  else
  (match ref10_leaf_l0 N N (0 : Int) a0.1 a0.2.1 a0.2.2.1 a0.2.2.2.1 a0.2.2.2.2 a1.1 a1.2 with
  | some r10 => (match r10 with
  | .inl r11 => (some r11.1)
  | .inr r12 => (some true))
  | none => none))
  | none => none)))
def ref10_pivots_p2 (N : Nat) (b0 : (List (List UInt8))) (b1 : Int) (b2 : Bool) (b3 : (List UInt8)) (b4 : (List UInt8)) : Option ((Bool × Unit) ⊕ (((List (List UInt8)) × (Unit × Int)) × (((List UInt8) × (List UInt8)) × Unit))) :=
  bif b2 then
  (some (.inl (false, ())))
  else
  (some (.inr ((b0, ((), b1)), ((b3, b4), ()))))
def ref10_pivots_p1 (N : Nat) (b0 : (List (List UInt8))) (b1 : Int) (b2 : (List UInt8)) (b3 : (List UInt8)) : Option ((((List (List UInt8)) × (Unit × Int)) × (((List UInt8) × (List UInt8)) × Unit))) :=
  some ((b0, ((), (IntKind.wrap .i64 (b1 + (1 : Int))))), ((b2, b3), ()))
def ref10_pivots_l0_step (N : Nat) (rec : (List (List UInt8)) → Int → (List UInt8) → (List UInt8) → Option ((Bool × Unit) ⊕ (Unit × Unit))) (b0 : (List (List UInt8))) (b1 : Int) (b2 : (List UInt8)) (b3 : (List UInt8)) : Option ((Bool × Unit) ⊕ (Unit × Unit)) :=
  bif (decide (b1 < (List.length b0 : Int))) then
  (gd (inB b1 (List.length b0))
  (let x1 := (lts (rdL b0 b1 ([] : List UInt8)) b2 || eqs (rdL b0 b1 ([] : List UInt8)) b2)
  bif x1 then
  (match ref10_pivots_p2 N b0 b1 true b2 b3 with
  | some r2 => (match r2 with
  | .inl r3 => (some (.inl (r3.1, ())))
  | .inr r4 => (match ref10_pivots_p1 N r4.1.1 r4.1.2.2 r4.2.1.1 r4.2.1.2 with
  | some r5 => (rec r5.1.1 r5.1.2.2 r5.2.1.1 r5.2.1.2)
  | none => none))
  | none => none)
  else
  (bif (!(eqs b3 ([] : List UInt8))) then
  (gd (inB b1 (List.length b0))
  (bif (!(lts (rdL b0 b1 ([] : List UInt8)) b3)) then
  (match ref10_pivots_p2 N b0 b1 true b2 b3 with
  | some r6 => (match r6 with
  | .inl r7 => (some (.inl (r7.1, ())))
  | .inr r8 => (match ref10_pivots_p1 N r8.1.1 r8.1.2.2 r8.2.1.1 r8.2.1.2 with
  | some r9 => (rec r9.1.1 r9.1.2.2 r9.2.1.1 r9.2.1.2)
  | none => none))
  | none => none)
  else
  (bif (decide ((0 : Int) < b1)) then
  (gd (inB b1 (List.length b0))
  (gd (inB (IntKind.wrap .i64 (b1 - (1 : Int))) (List.length b0))
  (let x10 := (rdL b0 (IntKind.wrap .i64 (b1 - (1 : Int))) ([] : List UInt8))
  let x11 := (lts (rdL b0 b1 ([] : List UInt8)) x10 || eqs (rdL b0 b1 ([] : List UInt8)) x10)
  match ref10_pivots_p2 N b0 b1 x11 b2 b3 with
  | some r12 => (match r12 with
  | .inl r13 => (some (.inl (r13.1, ())))
  | .inr r14 => (match ref10_pivots_p1 N r14.1.1 r14.1.2.2 r14.2.1.1 r14.2.1.2 with
  | some r15 => (rec r15.1.1 r15.1.2.2 r15.2.1.1 r15.2.1.2)
  | none => none))
  | none => none)))
  else
  (match ref10_pivots_p2 N b0 b1 false b2 b3 with
  | some r16 => (match r16 with
  | .inl r17 => (some (.inl (r17.1, ())))
  | .inr r18 => (match ref10_pivots_p1 N r18.1.1 r18.1.2.2 r18.2.1.1 r18.2.1.2 with
  | some r19 => (rec r19.1.1 r19.1.2.2 r19.2.1.1 r19.2.1.2)
  | none => none))
  | none => none))))
  else
  (bif (decide ((0 : Int) < b1)) then
  (gd (inB b1 (List.length b0))
  (gd (inB (IntKind.wrap .i64 (b1 - (1 : Int))) (List.length b0))
  (let x20 := (rdL b0 (IntKind.wrap .i64 (b1 - (1 : Int))) ([] : List UInt8))
  let x21 := (lts (rdL b0 b1 ([] : List UInt8)) x20 || eqs (rdL b0 b1 ([] : List UInt8)) x20)
  match ref10_pivots_p2 N b0 b1 x21 b2 b3 with
  | some r22 => (match r22 with
  | .inl r23 => (some (.inl (r23.1, ())))
  | .inr r24 => (match ref10_pivots_p1 N r24.1.1 r24.1.2.2 r24.2.1.1 r24.2.1.2 with
  | some r25 => (rec r25.1.1 r25.1.2.2 r25.2.1.1 r25.2.1.2)
  | none => none))
  | none => none)))
  else
  (match ref10_pivots_p2 N b0 b1 false b2 b3 with
  | some r26 => (match r26 with
  | .inl r27 => (some (.inl (r27.1, ())))
  | .inr r28 => (match ref10_pivots_p1 N r28.1.1 r28.1.2.2 r28.2.1.1 r28.2.1.2 with
  | some r29 => (rec r29.1.1 r29.1.2.2 r29.2.1.1 r29.2.1.2)
  | none => none))
  | none => none)))))
  else
  (some (.inr ((), ())))
def ref10_pivots_l0 (N n : Nat) (b0 : (List (List UInt8))) (b1 : Int) (b2 : (List UInt8)) (b3 : (List UInt8)) : Option ((Bool × Unit) ⊕ (Unit × Unit)) :=
  iter (fun (rec : (((List (List UInt8)) × (Unit × Int)) × (((List UInt8) × (List UInt8)) × Unit)) → Option ((Bool × Unit) ⊕ (Unit × Unit))) v => ref10_pivots_l0_step N (fun b0 b1 b2 b3 => rec ((b0, ((), b1)), ((b2, b3), ()))) v.1.1 v.1.2.2 v.2.1.1 v.2.1.2) n ((b0, ((), b1)), ((b2, b3), ()))
theorem ref10_pivots_l0_succ (N n : Nat) (b0 : (List (List UInt8))) (b1 : Int) (b2 : (List UInt8)) (b3 : (List UInt8)) : ref10_pivots_l0 N (n + 1) b0 b1 b2 b3 = ref10_pivots_l0_step N (fun b0  b1  b2  b3  => ref10_pivots_l0 N n b0 b1 b2 b3) b0 b1 b2 b3 := rfl
def ref10_pivots (N : Nat) (a0 : (List (List UInt8))) (a1 : V_api_Span) : Option (Bool) :=
  match ref10_pivots_l0 N N a0 (0 : Int) a1.1 a1.2 with
  | some r30 => (match r30 with
  | .inl r31 => (some r31.1)
  | .inr r32 => (some true))
  | none => none
def ref10_bound (N : Nat) (a0 : V_api_Range) : Option (Bool) :=
  bif (decide ((0 : Int) ≤ a0.1)) then
  (bif (decide (a0.1 ≤ a0.2)) then
  (some (decide (a0.2 ≤ (1000000000000000 : Int))))
  else
  (some false))
  else
  (some false)
def ref05_in (N : Nat) (a0 : Int) (a1 : Int) (a2 : Int) : Option (Bool) :=
  bif (decide (a1 ≤ a0)) then
  (some (decide (a0 ≤ a2)))
  else
  (some false)
def ref02_Empty (N : Nat) (a0 : V_api_Span) : Option (Bool) :=
  bif (!(eqs a0.2 ([] : List UInt8))) then
  (some (lts a0.2 a0.1 || eqs a0.2 a0.1))
  else
  (some false)
def ref05_span (N : Nat) (a0 : V_api_Span) : Option (Bool) :=
  match ref02_Empty N a0 with
  | some r1 => (bif (!r1) then
  (let x2 := (decide ((List.length a0.1 : Int) ≤ (65535 : Int)))
  bif x2 then
  (let x3 := (decide ((List.length a0.2 : Int) ≤ (65535 : Int)))
  some x3)
  else
  (some false))
  else
  (some false))
  | none => none
def ref05_Valid_p0 (N : Nat) (b0 : Bool) (b1 : Int) (b2 : Bool) (b3 : Int) (b4 : (List UInt8)) (b5 : (List UInt8)) (b6 : (List UInt8)) (b7 : (List UInt8)) (b8 : (List UInt8)) (b9 : (List UInt8)) (b10 : Int) : Option ((Bool × Unit) ⊕ (Unit × Unit)) :=
  bif b2 then
  (match ref02_Begins N b8 b9 with
  | some r8 => (bif (!r8) then
  (match ref02_Begins N b9 b8 with
  | some r9 => (bif (!r9) then
  (match ref05_in N (List.length b8 : Int) (1 : Int) (200 : Int) with
  | some r10 => (bif r10 then
  (match ref05_in N (List.length b9 : Int) (1 : Int) (200 : Int) with
  | some r11 => (bif r11 then
  (let x12 := (eqi b3 b3 && (eqs b4 ([] : List UInt8) && (eqs b5 ([] : List UInt8) && (eqs b6 ([] : List UInt8) && (eqs b7 ([] : List UInt8) && (eqs b8 b8 && (eqs b9 b9 && (eqi b10 (0 : Int) && true))))))))
  some (.inl (x12, ())))
  else
  (some (.inl (false, ()))))
  | none => none)
  else
  (some (.inl (false, ()))))
  | none => none)
  else
  (some (.inl (false, ()))))
  | none => none)
  else
  (some (.inl (false, ()))))
  | none => none)
  else
  (bif (eqi b1 (6 : Int)) then
  (match ref05_span N (b6, b7) with
  | some r13 => (bif r13 then
  (bif b0 then
  (let x14 := (eqi b3 b3 && (eqs b4 ([] : List UInt8) && (eqs b5 ([] : List UInt8) && (eqs b6 b6 && (eqs b7 b7 && (eqs b8 ([] : List UInt8) && (eqs b9 ([] : List UInt8) && (eqi b10 b10 && true))))))))
  some (.inl (x14, ())))
  else
  (some (.inl (false, ()))))
  else
  (some (.inl (false, ()))))
  | none => none)
  else
  (some (.inr ((), ()))))
def ref05_Valid (N : Nat) (a0 : V_api_Msg) : Option (Bool) :=
  match ref05_in N (List.length a0.2.1 : Int) (1 : Int) (65535 : Int) with
  | some r1 => (match ref05_in N a0.2.2.2.2.2.2 (0 : Int) (1000000000 : Int) with
  | some r2 => (bif (eqi a0.1 (1 : Int)) then
  (bif r1 then
  (let x3 := (decide ((List.length a0.2.2.1 : Int) ≤ (64 : Int)))
  bif x3 then
  (bif r2 then
  (let x4 := (eqi a0.1 a0.1 && (eqs a0.2.1 a0.2.1 && (eqs a0.2.2.1 a0.2.2.1 && (eqs a0.2.2.2.1.1 ([] : List UInt8) && (eqs a0.2.2.2.1.2 ([] : List UInt8) && (eqs a0.2.2.2.2.1 ([] : List UInt8) && (eqs a0.2.2.2.2.2.1 ([] : List UInt8) && (eqi a0.2.2.2.2.2.2 a0.2.2.2.2.2.2 && true))))))))
  some x4)
  else
  (some false))
  else
  (some false))
  else
  (some false))
  else
  (bif (eqi a0.1 (2 : Int)) then
  (bif r1 then
  (let x5 := (eqi a0.1 a0.1 && (eqs a0.2.1 a0.2.1 && (eqs a0.2.2.1 ([] : List UInt8) && (eqs a0.2.2.2.1.1 ([] : List UInt8) && (eqs a0.2.2.2.1.2 ([] : List UInt8) && (eqs a0.2.2.2.2.1 ([] : List UInt8) && (eqs a0.2.2.2.2.2.1 ([] : List UInt8) && (eqi a0.2.2.2.2.2.2 (0 : Int) && true))))))))
  some x5)
  else
  (some false))
  else
  (bif (eqi a0.1 (3 : Int)) then
  (match ref05_span N a0.2.2.2.1 with
  | some r6 => (bif r6 then
  (let x7 := (eqi a0.1 a0.1 && (eqs a0.2.1 ([] : List UInt8) && (eqs a0.2.2.1 ([] : List UInt8) && (eqs a0.2.2.2.1.1 a0.2.2.2.1.1 && (eqs a0.2.2.2.1.2 a0.2.2.2.1.2 && (eqs a0.2.2.2.2.1 ([] : List UInt8) && (eqs a0.2.2.2.2.2.1 ([] : List UInt8) && (eqi a0.2.2.2.2.2.2 (0 : Int) && true))))))))
  some x7)
  else
  (some false))
  | none => none)
  else
  (bif (eqi a0.1 (4 : Int)) then
  (match ref05_Valid_p0 N r2 a0.1 true a0.1 a0.2.1 a0.2.2.1 a0.2.2.2.1.1 a0.2.2.2.1.2 a0.2.2.2.2.1 a0.2.2.2.2.2.1 a0.2.2.2.2.2.2 with
  | some r15 => (match r15 with
  | .inl r16 => (some r16.1)
  | .inr r17 => (some false))
  | none => none)
  else
  (match ref05_Valid_p0 N r2 a0.1 (eqi a0.1 (5 : Int)) a0.1 a0.2.1 a0.2.2.1 a0.2.2.2.1.1 a0.2.2.2.1.2 a0.2.2.2.2.1 a0.2.2.2.2.2.1 a0.2.2.2.2.2.2 with
  | some r18 => (match r18 with
  | .inl r19 => (some r19.1)
  | .inr r20 => (some false))
  | none => none)))))
  | none => none)
  | none => none
def ref05_Reads (N : Nat) (a0 : V_api_Msg) : Option ((List V_api_Span)) :=
  bif (eqi a0.1 (4 : Int)) then
  (match ref02_Prefix N a0.2.2.2.2.1 with
  | some r1 => (some ([r1] : List V_api_Span))
  | none => none)
  else
  (bif (eqi a0.1 (5 : Int)) then
  (match ref02_Prefix N a0.2.2.2.2.1 with
  | some r2 => (some ([r2] : List V_api_Span))
  | none => none)
  else
  (bif (eqi a0.1 (6 : Int)) then
  (some ([a0.2.2.2.1] : List V_api_Span))
  else
  (some ([] : List V_api_Span))))
def ref05_Writes (N : Nat) (a0 : V_api_Msg) : Option ((List V_api_Span)) :=
  bif (eqi a0.1 (1 : Int)) then
  (match ref02_One N a0.2.1 with
  | some r1 => (some ([r1] : List V_api_Span))
  | none => none)
  else
  (bif (eqi a0.1 (2 : Int)) then
  (match ref02_One N a0.2.1 with
  | some r2 => (some ([r2] : List V_api_Span))
  | none => none)
  else
  (bif (eqi a0.1 (4 : Int)) then
  (match ref02_Prefix N a0.2.2.2.2.1 with
  | some r3 => (match ref02_Prefix N a0.2.2.2.2.2.1 with
  | some r4 => (some ([r3, r4] : List V_api_Span))
  | none => none)
  | none => none)
  else
  (bif (eqi a0.1 (5 : Int)) then
  (match ref02_Prefix N a0.2.2.2.2.2.1 with
  | some r5 => (some ([r5] : List V_api_Span))
  | none => none)
  else
  (some ([a0.2.2.2.1] : List V_api_Span)))))
def ref02_Less (N : Nat) (a0 : (List UInt8)) (a1 : (List UInt8)) : Option (Bool) :=
  bif (!(eqs a0 ([] : List UInt8))) then
  (bif (eqs a1 ([] : List UInt8)) then
  (some true)
  else
  (some (lts a0 a1)))
  else
  (some false)
def ref02_Covers (N : Nat) (a0 : V_api_Span) (a1 : V_api_Span) : Option (Bool) :=
  match ref02_Empty N a1 with
  | some r1 => (bif r1 then
  (some true)
  else
  (match ref02_Empty N a0 with
  | some r2 => (bif (!r2) then
  (bif (lts a0.1 a1.1 || eqs a0.1 a1.1) then
  (match ref02_Less N a0.2 a1.2 with
  | some r3 => (some (!r3))
  | none => none)
  else
  (some false))
  else
  (some false))
  | none => none))
  | none => none
def ref10_Inside_l0_step (N : Nat) (rec : Int → (List UInt8) → (List UInt8) → (List V_api_Span) → Option ((Bool × Unit) ⊕ (Unit × Unit))) (b0 : Int) (b1 : (List UInt8)) (b2 : (List UInt8)) (b3 : (List V_api_Span)) : Option ((Bool × Unit) ⊕ (Unit × Unit)) :=
  bif (decide (b0 < (List.length b3 : Int))) then
  (gd (inB b0 (List.length b3))
  (match ref02_Covers N (b1, b2) (rdL b3 b0 D_api_Span) with
  | some r4 => (bif (!r4) then
  (some (.inl (false, ())))
  else
  (rec (IntKind.wrap .i64 (b0 + (1 : Int))) b1 b2 b3))
  | none => none))
  else
  (some (.inr ((), ())))
def ref10_Inside_l0 (N n : Nat) (b0 : Int) (b1 : (List UInt8)) (b2 : (List UInt8)) (b3 : (List V_api_Span)) : Option ((Bool × Unit) ⊕ (Unit × Unit)) :=
  iter (fun (rec : ((Unit × (Unit × Int)) × (((List UInt8) × (List UInt8)) × ((List V_api_Span) × Unit))) → Option ((Bool × Unit) ⊕ (Unit × Unit))) v => ref10_Inside_l0_step N (fun b0 b1 b2 b3 => rec (((), ((), b0)), ((b1, b2), (b3, ())))) v.1.2.2 v.2.1.1 v.2.1.2 v.2.2.1) n (((), ((), b0)), ((b1, b2), (b3, ())))
theorem ref10_Inside_l0_succ (N n : Nat) (b0 : Int) (b1 : (List UInt8)) (b2 : (List UInt8)) (b3 : (List V_api_Span)) : ref10_Inside_l0 N (n + 1) b0 b1 b2 b3 = ref10_Inside_l0_step N (fun b0  b1  b2  b3  => ref10_Inside_l0 N n b0 b1 b2 b3) b0 b1 b2 b3 := rfl
def ref10_Inside (N : Nat) (a0 : V_api_Msg) (a1 : V_api_Span) : Option (Bool) :=
  match ref05_Reads N a0 with
  | some r1 => (match ref05_Writes N a0 with
  | some r2 => (gd (fits (List.length r1 + List.length r2) 32)
  (let x3 := (@HAppend.hAppend (List V_api_Span) (List V_api_Span) (List V_api_Span) _ r1 r2)
  match ref10_Inside_l0 N N (0 : Int) a1.1 a1.2 x3 with
  | some r5 => (match r5 with
  | .inl r6 => (some r6.1)
  | .inr r7 => (some true))
  | none => none))
  | none => none)
  | none => none
def ref10_Valid_l2_step (N : Nat) (rec : Int → (List V_api_Pair) → (List (List UInt8)) → (List Int) → (List V_api_Sum) → (List V_api_Msg) → (List UInt8) → (List UInt8) → Option ((Bool × Unit) ⊕ (Unit × Unit))) (b0 : Int) (b1 : (List V_api_Pair)) (b2 : (List (List UInt8))) (b3 : (List Int)) (b4 : (List V_api_Sum)) (b5 : (List V_api_Msg)) (b6 : (List UInt8)) (b7 : (List UInt8)) : Option ((Bool × Unit) ⊕ (Unit × Unit)) :=
  bif (decide (b0 < (List.length b5 : Int))) then
  (gd (inB b0 (List.length b5))
  (match ref05_Valid N (rdL b5 b0 D_api_Msg) with
  | some r12 => (bif (!r12) then
  (some (.inl (false, ())))
  else
  (gd (inB b0 (List.length b5))
  (match ref10_Inside N (rdL b5 b0 D_api_Msg) (b6, b7) with
  | some r13 => (bif (!r13) then
  (some (.inl (false, ())))
  else
  (rec (IntKind.wrap .i64 (b0 + (1 : Int))) b1 b2 b3 b4 b5 b6 b7))
  | none => none)))
  | none => none))
  else
  (some (.inr ((), ())))
def ref10_Valid_l2 (N n : Nat) (b0 : Int) (b1 : (List V_api_Pair)) (b2 : (List (List UInt8))) (b3 : (List Int)) (b4 : (List V_api_Sum)) (b5 : (List V_api_Msg)) (b6 : (List UInt8)) (b7 : (List UInt8)) : Option ((Bool × Unit) ⊕ (Unit × Unit)) :=
  iter (fun (rec : ((Unit × (Unit × Int)) × (((List V_api_Pair) × ((List (List UInt8)) × ((List Int) × ((List V_api_Sum) × (List V_api_Msg))))) × (((List UInt8) × (List UInt8)) × Unit))) → Option ((Bool × Unit) ⊕ (Unit × Unit))) v => ref10_Valid_l2_step N (fun b0 b1 b2 b3 b4 b5 b6 b7 => rec (((), ((), b0)), ((b1, (b2, (b3, (b4, b5)))), ((b6, b7), ())))) v.1.2.2 v.2.1.1 v.2.1.2.1 v.2.1.2.2.1 v.2.1.2.2.2.1 v.2.1.2.2.2.2 v.2.2.1.1 v.2.2.1.2) n (((), ((), b0)), ((b1, (b2, (b3, (b4, b5)))), ((b6, b7), ())))
theorem ref10_Valid_l2_succ (N n : Nat) (b0 : Int) (b1 : (List V_api_Pair)) (b2 : (List (List UInt8))) (b3 : (List Int)) (b4 : (List V_api_Sum)) (b5 : (List V_api_Msg)) (b6 : (List UInt8)) (b7 : (List UInt8)) : ref10_Valid_l2 N (n + 1) b0 b1 b2 b3 b4 b5 b6 b7 = ref10_Valid_l2_step N (fun b0  b1  b2  b3  b4  b5  b6  b7  => ref10_Valid_l2 N n b0 b1 b2 b3 b4 b5 b6 b7) b0 b1 b2 b3 b4 b5 b6 b7 := rfl
def ref10_Valid_l1_step (N : Nat) (rec : Int → (List V_api_Pair) → (List (List UInt8)) → (List Int) → (List V_api_Sum) → (List V_api_Msg) → (List UInt8) → (List UInt8) → Option ((Bool × Unit) ⊕ ((Unit × Unit) × (((List V_api_Pair) × ((List (List UInt8)) × ((List Int) × ((List V_api_Sum) × (List V_api_Msg))))) × (((List UInt8) × (List UInt8)) × Unit))))) (b0 : Int) (b1 : (List V_api_Pair)) (b2 : (List (List UInt8))) (b3 : (List Int)) (b4 : (List V_api_Sum)) (b5 : (List V_api_Msg)) (b6 : (List UInt8)) (b7 : (List UInt8)) : Option ((Bool × Unit) ⊕ ((Unit × Unit) × (((List V_api_Pair) × ((List (List UInt8)) × ((List Int) × ((List V_api_Sum) × (List V_api_Msg))))) × (((List UInt8) × (List UInt8)) × Unit)))) :=
  bif (decide (b0 < (List.length b3 : Int))) then
  (gd (inB b0 (List.length b3))
  (match ref10_in N (rdL b3 b0 (0 : Int)) (0 : Int) (4095 : Int) with
  | some r6 => (bif (!r6) then
  (some (.inl (false, ())))
  else
  (gd (inB b0 (List.length b4))
  (match ref10_bound N ((rdL b4 b0 D_api_Sum).1) with
  | some r7 => (bif (!r7) then
  (some (.inl (false, ())))
  else
  (gd (inB b0 (List.length b4))
  (match ref10_bound N ((rdL b4 b0 D_api_Sum).2) with
  | some r8 => (bif (!r8) then
  (some (.inl (false, ())))
  else
  (rec (IntKind.wrap .i64 (b0 + (1 : Int))) b1 b2 b3 b4 b5 b6 b7))
  | none => none)))
  | none => none)))
  | none => none))
  else
  (some (.inr (((), ()), ((b1, (b2, (b3, (b4, b5)))), ((b6, b7), ())))))
def ref10_Valid_l1 (N n : Nat) (b0 : Int) (b1 : (List V_api_Pair)) (b2 : (List (List UInt8))) (b3 : (List Int)) (b4 : (List V_api_Sum)) (b5 : (List V_api_Msg)) (b6 : (List UInt8)) (b7 : (List UInt8)) : Option ((Bool × Unit) ⊕ ((Unit × Unit) × (((List V_api_Pair) × ((List (List UInt8)) × ((List Int) × ((List V_api_Sum) × (List V_api_Msg))))) × (((List UInt8) × (List UInt8)) × Unit)))) :=
  iter (fun (rec : ((Unit × (Unit × Int)) × (((List V_api_Pair) × ((List (List UInt8)) × ((List Int) × ((List V_api_Sum) × (List V_api_Msg))))) × (((List UInt8) × (List UInt8)) × Unit))) → Option ((Bool × Unit) ⊕ ((Unit × Unit) × (((List V_api_Pair) × ((List (List UInt8)) × ((List Int) × ((List V_api_Sum) × (List V_api_Msg))))) × (((List UInt8) × (List UInt8)) × Unit))))) v => ref10_Valid_l1_step N (fun b0 b1 b2 b3 b4 b5 b6 b7 => rec (((), ((), b0)), ((b1, (b2, (b3, (b4, b5)))), ((b6, b7), ())))) v.1.2.2 v.2.1.1 v.2.1.2.1 v.2.1.2.2.1 v.2.1.2.2.2.1 v.2.1.2.2.2.2 v.2.2.1.1 v.2.2.1.2) n (((), ((), b0)), ((b1, (b2, (b3, (b4, b5)))), ((b6, b7), ())))
theorem ref10_Valid_l1_succ (N n : Nat) (b0 : Int) (b1 : (List V_api_Pair)) (b2 : (List (List UInt8))) (b3 : (List Int)) (b4 : (List V_api_Sum)) (b5 : (List V_api_Msg)) (b6 : (List UInt8)) (b7 : (List UInt8)) : ref10_Valid_l1 N (n + 1) b0 b1 b2 b3 b4 b5 b6 b7 = ref10_Valid_l1_step N (fun b0  b1  b2  b3  b4  b5  b6  b7  => ref10_Valid_l1 N n b0 b1 b2 b3 b4 b5 b6 b7) b0 b1 b2 b3 b4 b5 b6 b7 := rfl
def ref10_Valid_p0 (N : Nat) (b0 : (List V_api_Pair)) (b1 : (List (List UInt8))) (b2 : (List Int)) (b3 : (List V_api_Sum)) (b4 : (List V_api_Msg)) (b5 : (List UInt8)) (b6 : (List UInt8)) : Option ((Bool × Unit)) :=
  match ref10_Valid_l1 N N (0 : Int) b0 b1 b2 b3 b4 b5 b6 with
  | some r9 => (match r9 with
  | .inl r10 => (some (r10.1, ()))
  | .inr r11 => (match ref10_Valid_l2 N N (0 : Int) r11.2.1.1 r11.2.1.2.1 r11.2.1.2.2.1 r11.2.1.2.2.2.1 r11.2.1.2.2.2.2 r11.2.2.1.1 r11.2.2.1.2 with
  | some r14 => (match r14 with
  | .inl r15 => (some (r15.1, ()))
  | .inr r16 => (some (true, ())))
  | none => none))
  | none => none
def ref10_Valid (N : Nat) (a0 : V_api_Node) (a1 : V_api_Span) : Option (Bool) :=
  bif (eqi (List.length a0.2.2.1 : Int) (0 : Int)) then
  (match ref10_leaf N a0 a1 with
  | some r1 => (some r1)
  | none => none)
  else
  (let x2 := (decide ((0 : Int) < (List.length a0.1 : Int)))
  bif x2 then
  (some false)
  else
  (let x3 := (!(eqi (List.length a0.2.2.2.1 : Int) (List.length a0.2.2.1 : Int)))
  bif x3 then
  (some false)
  else
  (let x4 := (IntKind.wrap .i64 ((List.length a0.2.2.1 : Int) - (1 : Int)))
  bif (!(eqi (List.length a0.2.1 : Int) x4)) then
  (some false)
  else
  (match ref10_pivots N a0.2.1 a1 with
  | some r5 => (bif (!r5) then
  (some false)
  else
  (match ref10_Valid_p0 N a0.1 a0.2.1 a0.2.2.1 a0.2.2.2.1 a0.2.2.2.2 a1.1 a1.2 with
  | some r17 => (some r17.1)
  | none => none))
  | none => none))))
def law10_NodeBytes_p3 (N : Nat) (b0 : Bool) (b1 : Int) (b2 : Bool) (b3 : (List Int)) (b4 : (List Int)) : Option ((Bool × Unit) ⊕ ((Bool × (Unit × Int)) × (((List Int) × (List Int)) × Unit))) :=
  bif b2 then
  (some (.inl (false, ())))
  else
  (some (.inr ((b0, ((), b1)), ((b3, b4), ()))))
def law10_NodeBytes_p2 (N : Nat) (b0 : Bool) (b1 : Int) (b2 : (List Int)) (b3 : (List Int)) : Option (((Bool × (Unit × Int)) × (((List Int) × (List Int)) × Unit))) :=
  some ((b0, ((), (IntKind.wrap .i64 (b1 + (1 : Int))))), ((b2, b3), ()))
def law10_NodeBytes_l1_step (N : Nat) (rec : Bool → Int → (List Int) → (List Int) → Option ((Bool × Unit) ⊕ (Bool × Unit))) (b0 : Bool) (b1 : Int) (b2 : (List Int)) (b3 : (List Int)) : Option ((Bool × Unit) ⊕ (Bool × Unit)) :=
  bif (decide (b1 < (2 : Int))) then
  (bif (eqi b1 (1 : Int)) then
  (match node_Parse N b3 with
  | some r13 => (bif (eqi r13.2 (0 : Int)) then
  (match ref10_Valid N r13.1 (([] : List UInt8), ([] : List UInt8)) with
  | some r14 => (bif (!r14) then
  (match law10_NodeBytes_p3 N b0 b1 true b2 b3 with
  | some r15 => (match r15 with
  | .inl r16 => (some (.inl (r16.1, ())))
  | .inr r17 => (match law10_NodeBytes_p2 N r17.1.1 r17.1.2.2 r17.2.1.1 r17.2.1.2 with
  | some r18 => (rec r18.1.1 r18.1.2.2 r18.2.1.1 r18.2.1.2)
  | none => none))
  | none => none)
  else
  (match node_Bytes N r13.1 with
  | some r19 => (bif (eqi b1 (1 : Int)) then
  (match ref05_SameBytes N r19 b3 with
  | some r20 => (bif (!r20) then
  (match law10_NodeBytes_p3 N b0 b1 true b2 b3 with
  | some r21 => (match r21 with
  | .inl r22 => (some (.inl (r22.1, ())))
  | .inr r23 => (match law10_NodeBytes_p2 N r23.1.1 r23.1.2.2 r23.2.1.1 r23.2.1.2 with
  | some r24 => (rec r24.1.1 r24.1.2.2 r24.2.1.1 r24.2.1.2)
  | none => none))
  | none => none)
  else
  (bif (!(eqi r13.2 (0 : Int))) then
  (bif (!(eqi r13.2 (100 : Int))) then
  (match law10_NodeBytes_p3 N b0 b1 true b2 b3 with
  | some r25 => (match r25 with
  | .inl r26 => (some (.inl (r26.1, ())))
  | .inr r27 => (match law10_NodeBytes_p2 N r27.1.1 r27.1.2.2 r27.2.1.1 r27.2.1.2 with
  | some r28 => (rec r28.1.1 r28.1.2.2 r28.2.1.1 r28.2.1.2)
  | none => none))
  | none => none)
  else
  (match ref10_Same N r13.1 (([] : List V_api_Pair), (([] : List (List UInt8)), (([] : List Int), (([] : List V_api_Sum), ([] : List V_api_Msg))))) with
  | some r29 => (match law10_NodeBytes_p3 N b0 b1 (!r29) b2 b3 with
  | some r30 => (match r30 with
  | .inl r31 => (some (.inl (r31.1, ())))
  | .inr r32 => (match law10_NodeBytes_p2 N r32.1.1 r32.1.2.2 r32.2.1.1 r32.2.1.2 with
  | some r33 => (rec r33.1.1 r33.1.2.2 r33.2.1.1 r33.2.1.2)
  | none => none))
  | none => none)
  | none => none))
  else
  (match law10_NodeBytes_p3 N b0 b1 false b2 b3 with
  | some r34 => (match r34 with
  | .inl r35 => (some (.inl (r35.1, ())))
  | .inr r36 => (match law10_NodeBytes_p2 N r36.1.1 r36.1.2.2 r36.2.1.1 r36.2.1.2 with
  | some r37 => (rec r37.1.1 r37.1.2.2 r37.2.1.1 r37.2.1.2)
  | none => none))
  | none => none)))
  | none => none)
  else
  (bif (eqi b1 (0 : Int)) then
  (match ref05_SameBytes N r19 b2 with
  | some r38 => (bif (!r38) then
  (match law10_NodeBytes_p3 N b0 b1 true b2 b3 with
  | some r39 => (match r39 with
  | .inl r40 => (some (.inl (r40.1, ())))
  | .inr r41 => (match law10_NodeBytes_p2 N r41.1.1 r41.1.2.2 r41.2.1.1 r41.2.1.2 with
  | some r42 => (rec r42.1.1 r42.1.2.2 r42.2.1.1 r42.2.1.2)
  | none => none))
  | none => none)
  else
  (bif (!(eqi r13.2 (0 : Int))) then
  (bif (!(eqi r13.2 (100 : Int))) then
  (match law10_NodeBytes_p3 N b0 b1 true b2 b3 with
  | some r43 => (match r43 with
  | .inl r44 => (some (.inl (r44.1, ())))
  | .inr r45 => (match law10_NodeBytes_p2 N r45.1.1 r45.1.2.2 r45.2.1.1 r45.2.1.2 with
  | some r46 => (rec r46.1.1 r46.1.2.2 r46.2.1.1 r46.2.1.2)
  | none => none))
  | none => none)
  else
  (match ref10_Same N r13.1 (([] : List V_api_Pair), (([] : List (List UInt8)), (([] : List Int), (([] : List V_api_Sum), ([] : List V_api_Msg))))) with
  | some r47 => (match law10_NodeBytes_p3 N b0 b1 (!r47) b2 b3 with
  | some r48 => (match r48 with
  | .inl r49 => (some (.inl (r49.1, ())))
  | .inr r50 => (match law10_NodeBytes_p2 N r50.1.1 r50.1.2.2 r50.2.1.1 r50.2.1.2 with
  | some r51 => (rec r51.1.1 r51.1.2.2 r51.2.1.1 r51.2.1.2)
  | none => none))
  | none => none)
  | none => none))
  else
  (match law10_NodeBytes_p3 N b0 b1 false b2 b3 with
  | some r52 => (match r52 with
  | .inl r53 => (some (.inl (r53.1, ())))
  | .inr r54 => (match law10_NodeBytes_p2 N r54.1.1 r54.1.2.2 r54.2.1.1 r54.2.1.2 with
  | some r55 => (rec r55.1.1 r55.1.2.2 r55.2.1.1 r55.2.1.2)
  | none => none))
  | none => none)))
  | none => none)
  else
  (none)))
  | none => none))
  | none => none)
  else
  (bif (!(eqi r13.2 (0 : Int))) then
  (bif (!(eqi r13.2 (100 : Int))) then
  (match law10_NodeBytes_p3 N b0 b1 true b2 b3 with
  | some r56 => (match r56 with
  | .inl r57 => (some (.inl (r57.1, ())))
  | .inr r58 => (match law10_NodeBytes_p2 N r58.1.1 r58.1.2.2 r58.2.1.1 r58.2.1.2 with
  | some r59 => (rec r59.1.1 r59.1.2.2 r59.2.1.1 r59.2.1.2)
  | none => none))
  | none => none)
  else
  (match ref10_Same N r13.1 (([] : List V_api_Pair), (([] : List (List UInt8)), (([] : List Int), (([] : List V_api_Sum), ([] : List V_api_Msg))))) with
  | some r60 => (match law10_NodeBytes_p3 N b0 b1 (!r60) b2 b3 with
  | some r61 => (match r61 with
  | .inl r62 => (some (.inl (r62.1, ())))
  | .inr r63 => (match law10_NodeBytes_p2 N r63.1.1 r63.1.2.2 r63.2.1.1 r63.2.1.2 with
  | some r64 => (rec r64.1.1 r64.1.2.2 r64.2.1.1 r64.2.1.2)
  | none => none))
  | none => none)
  | none => none))
  else
  (match law10_NodeBytes_p3 N b0 b1 false b2 b3 with
  | some r65 => (match r65 with
  | .inl r66 => (some (.inl (r66.1, ())))
  | .inr r67 => (match law10_NodeBytes_p2 N r67.1.1 r67.1.2.2 r67.2.1.1 r67.2.1.2 with
  | some r68 => (rec r68.1.1 r68.1.2.2 r68.2.1.1 r68.2.1.2)
  | none => none))
  | none => none)))
  | none => none)
  else
  (bif (eqi b1 (0 : Int)) then
  (match node_Parse N b2 with
  | some r69 => (bif (eqi r69.2 (0 : Int)) then
  (match ref10_Valid N r69.1 (([] : List UInt8), ([] : List UInt8)) with
  | some r70 => (bif (!r70) then
  (match law10_NodeBytes_p3 N b0 b1 true b2 b3 with
  | some r71 => (match r71 with
  | .inl r72 => (some (.inl (r72.1, ())))
  | .inr r73 => (match law10_NodeBytes_p2 N r73.1.1 r73.1.2.2 r73.2.1.1 r73.2.1.2 with
  | some r74 => (rec r74.1.1 r74.1.2.2 r74.2.1.1 r74.2.1.2)
  | none => none))
  | none => none)
  else
  (match node_Bytes N r69.1 with
  | some r75 => (bif (eqi b1 (1 : Int)) then
  (match ref05_SameBytes N r75 b3 with
  | some r76 => (bif (!r76) then
  (match law10_NodeBytes_p3 N b0 b1 true b2 b3 with
  | some r77 => (match r77 with
  | .inl r78 => (some (.inl (r78.1, ())))
  | .inr r79 => (match law10_NodeBytes_p2 N r79.1.1 r79.1.2.2 r79.2.1.1 r79.2.1.2 with
  | some r80 => (rec r80.1.1 r80.1.2.2 r80.2.1.1 r80.2.1.2)
  | none => none))
  | none => none)
  else
  (bif (!(eqi r69.2 (0 : Int))) then
  (bif (!(eqi r69.2 (100 : Int))) then
  (match law10_NodeBytes_p3 N b0 b1 true b2 b3 with
  | some r81 => (match r81 with
  | .inl r82 => (some (.inl (r82.1, ())))
  | .inr r83 => (match law10_NodeBytes_p2 N r83.1.1 r83.1.2.2 r83.2.1.1 r83.2.1.2 with
  | some r84 => (rec r84.1.1 r84.1.2.2 r84.2.1.1 r84.2.1.2)
  | none => none))
  | none => none)
  else
  (match ref10_Same N r69.1 (([] : List V_api_Pair), (([] : List (List UInt8)), (([] : List Int), (([] : List V_api_Sum), ([] : List V_api_Msg))))) with
  | some r85 => (match law10_NodeBytes_p3 N b0 b1 (!r85) b2 b3 with
  | some r86 => (match r86 with
  | .inl r87 => (some (.inl (r87.1, ())))
  | .inr r88 => (match law10_NodeBytes_p2 N r88.1.1 r88.1.2.2 r88.2.1.1 r88.2.1.2 with
  | some r89 => (rec r89.1.1 r89.1.2.2 r89.2.1.1 r89.2.1.2)
  | none => none))
  | none => none)
  | none => none))
  else
  (match law10_NodeBytes_p3 N b0 b1 false b2 b3 with
  | some r90 => (match r90 with
  | .inl r91 => (some (.inl (r91.1, ())))
  | .inr r92 => (match law10_NodeBytes_p2 N r92.1.1 r92.1.2.2 r92.2.1.1 r92.2.1.2 with
  | some r93 => (rec r93.1.1 r93.1.2.2 r93.2.1.1 r93.2.1.2)
  | none => none))
  | none => none)))
  | none => none)
  else
  (bif (eqi b1 (0 : Int)) then
  (match ref05_SameBytes N r75 b2 with
  | some r94 => (bif (!r94) then
  (match law10_NodeBytes_p3 N b0 b1 true b2 b3 with
  | some r95 => (match r95 with
  | .inl r96 => (some (.inl (r96.1, ())))
  | .inr r97 => (match law10_NodeBytes_p2 N r97.1.1 r97.1.2.2 r97.2.1.1 r97.2.1.2 with
  | some r98 => (rec r98.1.1 r98.1.2.2 r98.2.1.1 r98.2.1.2)
  | none => none))
  | none => none)
  else
  (bif (!(eqi r69.2 (0 : Int))) then
  (bif (!(eqi r69.2 (100 : Int))) then
  (match law10_NodeBytes_p3 N b0 b1 true b2 b3 with
  | some r99 => (match r99 with
  | .inl r100 => (some (.inl (r100.1, ())))
  | .inr r101 => (match law10_NodeBytes_p2 N r101.1.1 r101.1.2.2 r101.2.1.1 r101.2.1.2 with
  | some r102 => (rec r102.1.1 r102.1.2.2 r102.2.1.1 r102.2.1.2)
  | none => none))
  | none => none)
  else
  (match ref10_Same N r69.1 (([] : List V_api_Pair), (([] : List (List UInt8)), (([] : List Int), (([] : List V_api_Sum), ([] : List V_api_Msg))))) with
  | some r103 => (match law10_NodeBytes_p3 N b0 b1 (!r103) b2 b3 with
  | some r104 => (match r104 with
  | .inl r105 => (some (.inl (r105.1, ())))
  | .inr r106 => (match law10_NodeBytes_p2 N r106.1.1 r106.1.2.2 r106.2.1.1 r106.2.1.2 with
  | some r107 => (rec r107.1.1 r107.1.2.2 r107.2.1.1 r107.2.1.2)
  | none => none))
  | none => none)
  | none => none))
  else
  (match law10_NodeBytes_p3 N b0 b1 false b2 b3 with
  | some r108 => (match r108 with
  | .inl r109 => (some (.inl (r109.1, ())))
  | .inr r110 => (match law10_NodeBytes_p2 N r110.1.1 r110.1.2.2 r110.2.1.1 r110.2.1.2 with
  | some r111 => (rec r111.1.1 r111.1.2.2 r111.2.1.1 r111.2.1.2)
  | none => none))
  | none => none)))
  | none => none)
  else
  (none)))
  | none => none))
  | none => none)
  else
  (bif (!(eqi r69.2 (0 : Int))) then
  (bif (!(eqi r69.2 (100 : Int))) then
  (match law10_NodeBytes_p3 N b0 b1 true b2 b3 with
  | some r112 => (match r112 with
  | .inl r113 => (some (.inl (r113.1, ())))
  | .inr r114 => (match law10_NodeBytes_p2 N r114.1.1 r114.1.2.2 r114.2.1.1 r114.2.1.2 with
  | some r115 => (rec r115.1.1 r115.1.2.2 r115.2.1.1 r115.2.1.2)
  | none => none))
  | none => none)
  else
  (match ref10_Same N r69.1 (([] : List V_api_Pair), (([] : List (List UInt8)), (([] : List Int), (([] : List V_api_Sum), ([] : List V_api_Msg))))) with
  | some r116 => (match law10_NodeBytes_p3 N b0 b1 (!r116) b2 b3 with
  | some r117 => (match r117 with
  | .inl r118 => (some (.inl (r118.1, ())))
  | .inr r119 => (match law10_NodeBytes_p2 N r119.1.1 r119.1.2.2 r119.2.1.1 r119.2.1.2 with
  | some r120 => (rec r120.1.1 r120.1.2.2 r120.2.1.1 r120.2.1.2)
  | none => none))
  | none => none)
  | none => none))
  else
  (match law10_NodeBytes_p3 N b0 b1 false b2 b3 with
  | some r121 => (match r121 with
  | .inl r122 => (some (.inl (r122.1, ())))
  | .inr r123 => (match law10_NodeBytes_p2 N r123.1.1 r123.1.2.2 r123.2.1.1 r123.2.1.2 with
  | some r124 => (rec r124.1.1 r124.1.2.2 r124.2.1.1 r124.2.1.2)
  | none => none))
  | none => none)))
  | none => none)
  else
  (none)))
  else
  (some (.inr (b0, ())))
def law10_NodeBytes_l1 (N n : Nat) (b0 : Bool) (b1 : Int) (b2 : (List Int)) (b3 : (List Int)) : Option ((Bool × Unit) ⊕ (Bool × Unit)) :=
  iter (fun (rec : ((Bool × (Unit × Int)) × (((List Int) × (List Int)) × Unit)) → Option ((Bool × Unit) ⊕ (Bool × Unit))) v => law10_NodeBytes_l1_step N (fun b0 b1 b2 b3 => rec ((b0, ((), b1)), ((b2, b3), ()))) v.1.1 v.1.2.2 v.2.1.1 v.2.1.2) n ((b0, ((), b1)), ((b2, b3), ()))
theorem law10_NodeBytes_l1_succ (N n : Nat) (b0 : Bool) (b1 : Int) (b2 : (List Int)) (b3 : (List Int)) : law10_NodeBytes_l1 N (n + 1) b0 b1 b2 b3 = law10_NodeBytes_l1_step N (fun b0  b1  b2  b3  => law10_NodeBytes_l1 N n b0 b1 b2 b3) b0 b1 b2 b3 := rfl
def law10_NodeBytes_p0 (N : Nat) (b0 : (List Int)) (b1 : Bool) (b2 : (List Int)) (b3 : Int) (b4 : Int) : Option ((Bool × Unit)) :=
  gd (fits (0 + List.length b2) 1)
  (let x11 := (@HAppend.hAppend (List Int) (List Int) (List Int) _ ([] : List Int) b2)
  gd (!(eqi (List.length b2 : Int) 0))
  (let x12 := (Int.tmod (IntKind.wrap .i64 (b3)) (List.length b2 : Int))
  gd (inB x12 (List.length x11))
  (match law10_NodeBytes_l1 N N b1 (0 : Int) (setL x11 x12 (IntKind.wrap .u8 (b4))) b0 with
  | some r125 => (match r125 with
  | .inl r126 => (some (r126.1, ()))
  | .inr r127 => (some (r127.1, ())))
  | none => none)))
def law10_NodeBytes (N : Nat) (a0 : V_a2_ref10_Raw) (a1 : V_a2_uint16) (a2 : (List Int)) : Option (Bool) :=
  match law10_sanity N with
  | some r1 => (let x2 := (decide ((100 : Int) < (List.length a2 : Int)))
  bif x2 then
  (some r1)
  else
  (match ref10_Made N a0.1 with
  | some r3 => (match ref10_Made N a0.2 with
  | some r4 => (match node_Bytes N r3 with
  | some r5 => (match node_Bytes N r4 with
  | some r6 => (match node_Parse N r5 with
  | some r7 => (bif (!(eqi r7.2 (0 : Int))) then
  (some false)
  else
  (match ref10_Same N r7.1 r3 with
  | some r8 => (bif (!r8) then
  (some false)
  else
  (match ref05_SameBytes N r5 r6 with
  | some r9 => (match ref10_Same N r3 r4 with
  | some r10 => (bif (!(eqb r9 r10)) then
  (some false)
  else
  (bif (eqi (List.length r5 : Int) (0 : Int)) then
  (some false)
  else
  (match law10_NodeBytes_p0 N a2 r1 r5 a1.1 a1.2 with
  | some r128 => (some r128.1)
  | none => none)))
  | none => none)
  | none => none))
  | none => none))
  | none => none)
  | none => none)
  | none => none)
  | none => none)
  | none => none))
  | none => none
end Ds
