/- Printed by a program of the session's: what the program's functions compute, and that they do. -/
import Derived.Test.YtpgikdaeicidaaaGreatDoorDsPure
import Derived.Test.YtpgikdaeicidaaaGreatDoorProg
import Derived.KernelRfl
set_option linter.all false
namespace Go.Proofs.YtpgikdaeicidaaaGreatDoor
open Go Go.Dv Ds
set_option maxRecDepth 100000
noncomputable section
variable (N : Nat)
abbrev Sz0 : Sh := .cons (.list Y1) (.cons (.list .str) (.cons (.list (.int .i64)) (.cons (.list V6) (.list Y5))))
abbrev Sz1 : Sh := .cons (.int .i64) (.int .i64)
abbrev Sz2 : Sh := .cons (.list (.int .u8)) .bool
abbrev Sz3 : Sh := .cons (.int .i64) (.cons .str (.cons .str (.cons .str (.cons .str (.cons .str (.cons .str (.int .i64)))))))
abbrev Sz4 : Sh := .cons (.int .i64) (.cons (.int .i64) Sz1)
abbrev Sz5 : Sh := .cons .str (.cons (.int .i64) (.cons (.int .i64) .str))
abbrev Sz6 : Sh := .cons (.ptr 2000000 0) (.cons (.ptr 2000001 0) (.cons (.ptr 2000002 0) (.cons (.clo 78 (.cons (.ptr 2000002 0) (.ptr 2000001 0))) (.cons (.list Y5) Sz1))))
abbrev Sz7 : Sh := .cons (.own 2000001) (.cons (.own 2000002) (.cons (.own 2000003) (.cons (.own 2000004) (.own 2000005))))
abbrev Sz8 : Sh := .cons .str .str
abbrev Sz9 : Sh := .cons (.ptr 2000000 0) (.ptr 2000001 0)
abbrev Sz10 : Sh := .cons (.own 2000001) (.cons (.list .str) (.cons (.own 2000002) (.cons (.own 2000003) (.own 2000004))))
abbrev Sz11 : Sh := .cons (.ptr 2000000 0) (.cons (.ptr 2000001 0) (.int .i64))
abbrev Sz12 : Sh := .cons (.list z15) (.cons (.list (.int .u8)) (.cons (.list (.int .u8)) (.cons (.list zwj) (.list z4d))))
abbrev Sz13 : Sh := .cons (.own 2000007) (.cons (.own 2000008) (.cons (.own 2000009) (.cons (.own 2000010) (.own 2000011))))
abbrev Sz14 : Sh := .cons (.own 2000002) (.cons (.own 2000003) (.cons (.own 2000004) (.cons (.own 2000005) (.own 2000006))))
abbrev Sz15 : Sh := .cons .str (.int .i64)
abbrev Sz16 : Sh := .cons (.list Y1) (.cons (.ptr 2000000 0) (.cons (.own 2000001) (.cons .bool (.int .i64))))
abbrev Sz17 : Sh := .cons (.ptr 2000000 0) (.int .i64)
abbrev Sz18 : Sh := .cons (.val Y5) (.ptr 5000000 0)
abbrev Sz19 : Sh := .cons (.ptr 2000000 0) (.cons (.ptr 2000001 0) .bool)
abbrev Sz20 : Sh := .cons (.ptr 2000000 0) (.own 2000001)
noncomputable instance : LTab := ⟨fun _ => ⟨#[], [], .skip, .skip, 0⟩⟩
def tyRows : List (Nat × TI) := [
  (3, ⟨.int .i64, 1, 8, [.int .i64], some (.int .i64)⟩),
  (4, ⟨.bool, 1, 1, [.bool], some .bool⟩),
  (5, ⟨.int .u8, 1, 1, [.int .u8], some (.int .u8)⟩),
  (9, ⟨.str, 1, 16, [.str], some .str⟩),
  (22, ⟨.slice 128, 1, 24, [.slice], some (.list z15)⟩),
  (23, ⟨.slice 5, 1, 24, [.slice], some (.list (.int .u8))⟩),
  (24, ⟨.slice 93, 1, 24, [.slice], some (.list zwj)⟩),
  (25, ⟨.slice 142, 1, 24, [.slice], some (.list z4d)⟩),
  (27, ⟨.struct [(0, 22), (1, 23), (2, 23), (3, 24), (4, 25)], 5, 120, [.slice, .slice, .slice, .slice, .slice], some ze8⟩),
  (28, ⟨.slice 48, 1, 24, [.slice], some (.list Y1)⟩),
  (29, ⟨.slice 9, 1, 24, [.slice], some (.list .str)⟩),
  (30, ⟨.slice 3, 1, 24, [.slice], some (.list (.int .i64))⟩),
  (31, ⟨.slice 52, 1, 24, [.slice], some (.list V6)⟩),
  (32, ⟨.slice 46, 1, 24, [.slice], some (.list Y5)⟩),
  (34, ⟨.struct [(0, 28), (1, 29), (2, 30), (3, 31), (4, 32)], 5, 120, [.slice, .slice, .slice, .slice, .slice], some z5f⟩),
  (41, ⟨.struct [(0, 9), (1, 9)], 2, 32, [.str, .str], some Y8⟩),
  (46, ⟨.struct [(0, 3), (1, 9), (2, 9), (3, 41), (5, 9), (6, 9), (7, 3)], 8, 112, [.int .i64, .str, .str, .str, .str, .str, .str, .int .i64], some Y5⟩),
  (48, ⟨.struct [(0, 9), (1, 9), (2, 3)], 3, 40, [.str, .str, .int .i64], some Y1⟩),
  (50, ⟨.struct [(0, 3), (1, 3)], 2, 16, [.int .i64, .int .i64], some ze9⟩),
  (52, ⟨.struct [(0, 50), (2, 50)], 4, 32, [.int .i64, .int .i64, .int .i64, .int .i64], some V6⟩),
  (67, ⟨.func, 1, 8, [.func], none⟩),
  (68, ⟨.slice 41, 1, 24, [.slice], some (.list Y8)⟩),
  (72, ⟨.int .u64, 1, 8, [.int .u64], some (.int .u64)⟩),
  (79, ⟨.struct [(0, 3), (1, 3)], 2, 16, [.int .i64, .int .i64], some zuz⟩),
  (89, ⟨.struct [(0, 3), (1, 3), (2, 3)], 3, 24, [.int .i64, .int .i64, .int .i64], some ymt⟩),
  (93, ⟨.arr 4 5, 4, 4, [.int .u8, .int .u8, .int .u8, .int .u8], some zwj⟩),
  (111, ⟨.struct [(0, 23), (1, 4)], 2, 32, [.slice, .bool], some yyc⟩),
  (128, ⟨.arr 3 5, 3, 3, [.int .u8, .int .u8, .int .u8], some z15⟩),
  (130, ⟨.func, 1, 8, [.func], none⟩),
  (133, ⟨.struct [(0, 9), (1, 3), (2, 3), (3, 9)], 4, 48, [.str, .int .i64, .int .i64, .str], some zqi⟩),
  (142, ⟨.arr 6 5, 6, 6, [.int .u8, .int .u8, .int .u8, .int .u8, .int .u8, .int .u8], some z4d⟩),
  (144, ⟨.slice 50, 1, 24, [.slice], some (.list ze9)⟩),
  (145, ⟨.str, 1, 16, [.str], some .str⟩),
  (149, ⟨.iface, 1, 16, [.iface], none⟩),
  (155, ⟨.struct [(0, 23)], 1, 24, [.slice], some (.list (.int .u8))⟩),
  (158, ⟨.int .u64, 1, 8, [.int .u64], some (.int .u64)⟩),
  (164, ⟨.struct [(0, 9)], 1, 16, [.str], some .str⟩),
  (166, ⟨.struct [(0, 164), (1, 133)], 5, 64, [.str, .str, .int .i64, .int .i64, .str], some x0u⟩),
  (174, ⟨.struct [(0, 3), (1, 9), (2, 9), (3, 41), (5, 9), (6, 9), (7, 3)], 8, 112, [.int .i64, .str, .str, .str, .str, .str, .str, .int .i64], some Y5⟩),
  (175, ⟨.struct [(0, 3), (1, 9), (2, 9), (3, 41), (5, 9), (6, 9), (7, 3)], 8, 112, [.int .i64, .str, .str, .str, .str, .str, .str, .int .i64], some Y5⟩),
  (176, ⟨.struct [(0, 3), (1, 9), (2, 9), (3, 41), (5, 9), (6, 9), (7, 3)], 8, 112, [.int .i64, .str, .str, .str, .str, .str, .str, .int .i64], some Y5⟩),
  (177, ⟨.struct [(0, 3), (1, 9), (2, 9), (3, 41), (5, 9), (6, 9), (7, 3)], 8, 112, [.int .i64, .str, .str, .str, .str, .str, .str, .int .i64], some Y5⟩),
  (178, ⟨.struct [(0, 3), (1, 9), (2, 9), (3, 41), (5, 9), (6, 9), (7, 3)], 8, 112, [.int .i64, .str, .str, .str, .str, .str, .str, .int .i64], some Y5⟩),
  (179, ⟨.struct [(0, 3), (1, 9), (2, 9), (3, 41), (5, 9), (6, 9), (7, 3)], 8, 112, [.int .i64, .str, .str, .str, .str, .str, .str, .int .i64], some Y5⟩),
  (182, ⟨.struct [(0, 23), (1, 4)], 2, 32, [.slice, .bool], some x0v⟩),
  (190, ⟨.slice 145, 1, 24, [.slice], some (.list .str)⟩),
  (246, ⟨.slice 28, 1, 24, [.slice], some (.list (.list Y1))⟩)]
theorem Z5 : (tyRows.all fun r => tiOk Tryz.prog r.1 r.2) = true := by kernel_rfl
theorem mixed : Tryz.prog.follows .mixedOrders = true := by kernel_rfl
def eqRows : List (Nat × List Nat) := [(41, [2, 2]), (46, [0, 2, 2, 2, 2, 2, 2, 0]), (48, [2, 2, 0]), (52, [0, 0, 0, 0]), (133, [2, 0, 0, 2])]
theorem Z6 : (eqRows.all fun r => eqB Tryz.prog r.1 r.2) = true := by kernel_rfl
def Z9 : List (Nat × String × Nat) := [(174, "downspout/msg.apply", 176), (174, "downspout/msg.bare", 177), (174, "downspout/msg.reads", 178), (174, "downspout/msg.valid", 179), (174, "downspout/msg.write", 180), (174, "downspout/msg.writes", 181), (175, "downspout/msg.apply", 198), (175, "downspout/msg.bare", 199), (175, "downspout/msg.reads", 200), (175, "downspout/msg.valid", 201), (175, "downspout/msg.write", 202), (175, "downspout/msg.writes", 203), (176, "downspout/msg.apply", 209), (176, "downspout/msg.bare", 210), (176, "downspout/msg.reads", 211), (176, "downspout/msg.valid", 212), (176, "downspout/msg.write", 213), (176, "downspout/msg.writes", 214), (177, "downspout/msg.apply", 216), (177, "downspout/msg.bare", 217), (177, "downspout/msg.reads", 218), (177, "downspout/msg.valid", 219), (177, "downspout/msg.write", 220), (177, "downspout/msg.writes", 221), (178, "downspout/msg.apply", 222), (178, "downspout/msg.bare", 230), (178, "downspout/msg.reads", 231), (178, "downspout/msg.valid", 232), (178, "downspout/msg.write", 233), (178, "downspout/msg.writes", 234), (179, "downspout/msg.apply", 235), (179, "downspout/msg.bare", 236), (179, "downspout/msg.reads", 237), (179, "downspout/msg.valid", 238), (179, "downspout/msg.write", 239), (179, "downspout/msg.writes", 240)]
theorem Z3 : x2c Tryz.prog Z9 := ⟨fun v w => by kernel_rfl, ⟨fun v w => by kernel_rfl, ⟨fun v w => by kernel_rfl, ⟨fun v w => by kernel_rfl, ⟨fun v w => by kernel_rfl, ⟨fun v w => by kernel_rfl, ⟨fun v w => by kernel_rfl, ⟨fun v w => by kernel_rfl, ⟨fun v w => by kernel_rfl, ⟨fun v w => by kernel_rfl, ⟨fun v w => by kernel_rfl, ⟨fun v w => by kernel_rfl, ⟨fun v w => by kernel_rfl, ⟨fun v w => by kernel_rfl, ⟨fun v w => by kernel_rfl, ⟨fun v w => by kernel_rfl, ⟨fun v w => by kernel_rfl, ⟨fun v w => by kernel_rfl, ⟨fun v w => by kernel_rfl, ⟨fun v w => by kernel_rfl, ⟨fun v w => by kernel_rfl, ⟨fun v w => by kernel_rfl, ⟨fun v w => by kernel_rfl, ⟨fun v w => by kernel_rfl, ⟨fun v w => by kernel_rfl, ⟨fun v w => by kernel_rfl, ⟨fun v w => by kernel_rfl, ⟨fun v w => by kernel_rfl, ⟨fun v w => by kernel_rfl, ⟨fun v w => by kernel_rfl, ⟨fun v w => by kernel_rfl, ⟨fun v w => by kernel_rfl, ⟨fun v w => by kernel_rfl, ⟨fun v w => by kernel_rfl, ⟨fun v w => by kernel_rfl, ⟨fun v w => by kernel_rfl, trivial⟩⟩⟩⟩⟩⟩⟩⟩⟩⟩⟩⟩⟩⟩⟩⟩⟩⟩⟩⟩⟩⟩⟩⟩⟩⟩⟩⟩⟩⟩⟩⟩⟩⟩⟩⟩
def y22 : Code := match Tryz.f99.body with | some c => c | none => .skip
def zt7 (_ : Nat) : List (Nat × Ctr) := []
def zu4 : Env := Y9 tyRows eqRows Z9 [(y88, [25])] [] (zt7 N)
theorem zpd : EnvOk Tryz.prog (zu4 N) := Y0 Z5 Z6 Z3 trivial
def zts (_ : Nat) : Lps := fun _ => none
def znr : Cut := { tms := [0, 1], sh := (.cons (.ptr 5000000 0) (.int .i64)), objs := [(5000000, [0], .box Sz2)], sts := [] }
def zkb : Cut := { tms := [0], sh := (.list (.int .u8)), objs := [(5000000, [5000000], .box Sz2)], sts := [] }
def z4s : CtrM := ctrM znr zkb [] (fun v => z52 N v.1.2 v.2.1.1 v.2.1.2)
theorem z60 : z03 Tryz.prog 99 (z4s N) :=
  U4 (zpd N) mixed (Λ := zts N) (fn := Tryz.f99) (c := y22) Tryz.func99 (by kernel_rfl) (by kernel_rfl) (Y2 (l := []) (by kernel_rfl) Y3) (by kernel_rfl) (by intro v; kernel_rfl)
def z1i : Code := match Tryz.f60.body with | some c => c | none => .skip
def zp3 (_ : Nat) : List (Nat × Ctr) := []
def zmy : List (Nat × CtrM) := [(99, z4s N)]
def zph : Env := Y9 tyRows eqRows Z9 [] [10] (zp3 N) (zmy N)
theorem za2 : EnvOk Tryz.prog (zph N) := Y0 Z5 Z6 Z3 trivial ⟨z60 N, trivial⟩
def zkd : Cut := { tms := [5, 10, 11, 12], sh := (.cons (.int .i64) (.cons (.list (.int .u8)) Sz1)), objs := [(5000000, [5000000], .box Sz2)], sts := [] }
def zg7 : Cut := { tms := [5], sh := (.int .i64), objs := [(5000000, [5000000], .box Sz2)], sts := [] }
def z51 : Lp := lpOf zkd (2, zg7) [] (fun v => zdq N N v.1.1 v.1.2.1 v.1.2.2.1 v.1.2.2.2 v.2.1.1 v.2.1.2)
def zk6 (_ : Nat) : Lps := fun _ => none
theorem zid (ro : Option Nat) : LpOk Tryz.prog 23 ro (z51 N) (Z8 z1i [true, true, false, true, false]) := by
  rw [show (Z8 z1i [true, true, false, true, false]) = .loop (Z8 z1i [true, true, false, true, false, false]) by kernel_rfl]
  exact W6 (za2 N) mixed (Λ := zk6 N) (p := 116) (Y2 (l := []) (by kernel_rfl) Y3) (by kernel_rfl) (by intro rec v; kernel_rfl) N
def zp9 : Lps := fun p => bif Nat.beq p 58 then some (z51 N) else none
def zke : Cut := { tms := [0, 1], sh := (.cons (.ptr 5000000 0) (.int .i64)), objs := [(5000000, [0], .box Sz2)], sts := [] }
def zhc : Cut := { tms := [0], sh := (.int .i64), objs := [(5000000, [5000000], .box Sz2)], sts := [] }
def z0t : CtrM := ctrM zke zhc [] (fun v => z3p N v.1.2 v.2.1.1 v.2.1.2)
theorem z1b : z03 Tryz.prog 60 (z0t N) :=
  U4 (za2 N) mixed (Λ := zp9 N) (fn := Tryz.f60) (c := z1i) Tryz.func60 (by kernel_rfl) (by kernel_rfl) (Y2 (l := [(z51 N, (Z8 z1i [true, true, false, true, false]))]) (by kernel_rfl) (X3 (zid N none) Y3)) (by kernel_rfl) (by intro v; kernel_rfl)
def y24 : Code := match Tryz.f62.body with | some c => c | none => .skip
def zt9 (_ : Nat) : List (Nat × Ctr) := []
def zr2 : List (Nat × CtrM) := [(60, z0t N)]
def zu6 : Env := Y9 tyRows eqRows Z9 [] [4] (zt9 N) (zr2 N)
theorem zpf : EnvOk Tryz.prog (zu6 N) := Y0 Z5 Z6 Z3 trivial ⟨z1b N, trivial⟩
def ztu (_ : Nat) : Lps := fun _ => none
def znt : Cut := { tms := [0], sh := (.ptr 5000000 0), objs := [(5000000, [0], .box Sz2)], sts := [] }
def zkf : Cut := { tms := [0], sh := (.int .i64), objs := [(5000000, [5000000], .box Sz2)], sts := [] }
def z4t : CtrM := ctrM znt zkf [] (fun v => z38 N v.2.1.1 v.2.1.2)
theorem z61 : z03 Tryz.prog 62 (z4t N) :=
  U4 (zpf N) mixed (Λ := ztu N) (fn := Tryz.f62) (c := y24) Tryz.func62 (by kernel_rfl) (by kernel_rfl) (Y2 (l := []) (by kernel_rfl) Y3) (by kernel_rfl) (by intro v; kernel_rfl)
def y21 : Code := match Tryz.f66.body with | some c => c | none => .skip
def zt6 (_ : Nat) : List (Nat × Ctr) := []
def zr0 : List (Nat × CtrM) := [(60, z0t N), (99, z4s N)]
def zu3 : Env := Y9 tyRows eqRows Z9 [] [5, 6] (zt6 N) (zr0 N)
theorem zpc : EnvOk Tryz.prog (zu3 N) := Y0 Z5 Z6 Z3 trivial ⟨z1b N, ⟨z60 N, trivial⟩⟩
def ztr (_ : Nat) : Lps := fun _ => none
def znq : Cut := { tms := [0], sh := (.ptr 5000000 0), objs := [(5000000, [0], .box Sz2)], sts := [] }
def zka : Cut := { tms := [0], sh := .str, objs := [(5000000, [5000000], .box Sz2)], sts := [] }
def z7v : CtrM := ctrM znq zka [] (fun v => z7z N v.2.1.1 v.2.1.2)
theorem zc6 : z03 Tryz.prog 66 (z7v N) :=
  U4 (zpc N) mixed (Λ := ztr N) (fn := Tryz.f66) (c := y21) Tryz.func66 (by kernel_rfl) (by kernel_rfl) (Y2 (l := []) (by kernel_rfl) Y3) (by kernel_rfl) (by intro v; kernel_rfl)
def y23 : Code := match Tryz.f63.body with | some c => c | none => .skip
def zt8 (_ : Nat) : List (Nat × Ctr) := []
def zr1 : List (Nat × CtrM) := [(66, z7v N), (62, z4t N)]
def zu5 : Env := Y9 tyRows eqRows Z9 [] [4, 6, 8] (zt8 N) (zr1 N)
theorem zpe : EnvOk Tryz.prog (zu5 N) := Y0 Z5 Z6 Z3 trivial ⟨zc6 N, ⟨z61 N, trivial⟩⟩
def ztt (_ : Nat) : Lps := fun _ => none
def zns : Cut := { tms := [0], sh := (.ptr 5000000 0), objs := [(5000000, [0], .box Sz2)], sts := [] }
def zkc : Cut := { tms := [0], sh := (.agg (.cons .str Sz15)), objs := [(5000000, [5000000], .box Sz2)], sts := [] }
def zem : CtrM := ctrM zns zkc [] (fun v => zlm N v.2.1.1 v.2.1.2)
theorem zp6 : z03 Tryz.prog 63 (zem N) :=
  U4 (zpe N) mixed (Λ := ztt N) (fn := Tryz.f63) (c := y23) Tryz.func63 (by kernel_rfl) (by kernel_rfl) (Y2 (l := []) (by kernel_rfl) Y3) (by kernel_rfl) (by intro v; kernel_rfl)
def V9 : Code := match Tryz.f61.body with | some c => c | none => .skip
def z7o (_ : Nat) : List (Nat × Ctr) := []
def z72 : List (Nat × CtrM) := [(63, zem N)]
def z7t : Env := Y9 tyRows eqRows Z9 [] [20] (z7o N) (z72 N)
theorem z0y : EnvOk Tryz.prog (z7t N) := Y0 Z5 Z6 Z3 trivial ⟨zp6 N, trivial⟩
def z68 : Cut := { tms := [0, 1, 2, 7], sh := (.cons (.ptr 5000000 0) (.cons (.int .i64) (.cons (.clo 63 (.tup (.ptr 5000000 0))) (.own 2000001)))), objs := [(5000000, [5000000], .box Sz2), (2000001, [7], .sl Y1)], sts := [] }
def z58 : Cut := { tms := [7], sh := (.own 2000000), objs := [(2000000, [7], .sl Y1), (5000000, [5000000], .box Sz2)], sts := [] }
def J9 : Lp := lpOf z68 (2, z58) [] (fun v => z1k N N v.1.2.1 v.2.1.1 v.2.1.2 v.2.2.1)
def z64 (_ : Nat) : Lps := fun _ => none
theorem z5t (ro : Option Nat) : LpOk Tryz.prog 24 ro (J9 N) (Z8 V9 [true, true, false, false]) := by
  rw [show (Z8 V9 [true, true, false, false]) = .loop (Z8 V9 [true, true, false, false, false]) by kernel_rfl]
  exact W6 (z0y N) mixed (Λ := z64 N) (p := 56) (Y2 (l := []) (by kernel_rfl) Y3) (by kernel_rfl) (by intro rec v; kernel_rfl) N
def z7s : Lps := fun p => bif Nat.beq p 28 then some (J9 N) else none
def z69 : Cut := { tms := [0, 1, 2], sh := (.cons (.ptr 5000000 0) (.cons (.int .i64) (.clo 63 (.tup (.ptr 5000000 0))))), objs := [(5000000, [0], .box Sz2)], sts := [] }
def z5g : Cut := { tms := [0], sh := (.own 2000000), objs := [(2000000, [0], .sl Y1), (5000000, [5000000], .box Sz2)], sts := [] }
def z19 : CtrM := ctrM z69 z5g [] (fun v => z3i N v.1.2.1 v.2.1.1 v.2.1.2)
theorem z6d : z03 Tryz.prog 61 (z19 N) :=
  U4 (z0y N) mixed (Λ := z7s N) (fn := Tryz.f61) (c := V9) Tryz.func61 (by kernel_rfl) (by kernel_rfl) (Y2 (l := [(J9 N, (Z8 V9 [true, true, false, false]))]) (by kernel_rfl) (X3 (z5t N none) Y3)) (by kernel_rfl) (by intro v; kernel_rfl)
def zck : Code := match Tryz.f41.body with | some c => c | none => .skip
def yn0 (_ : Nat) : List (Nat × Ctr) := []
def ypd : Env := Y9 tyRows eqRows Z9 [] [] (yn0 N)
theorem zof : EnvOk Tryz.prog (ypd N) := Y0 Z5 Z6 Z3 trivial
def yby : Cut := { tms := [0, 3], sh := (.cons (.list Y1) (.int .i64)), objs := [], sts := [] }
def zyf : Cut := { tms := [2], sh := .bool, objs := [], sts := [] }
def zye : Cut := { tms := [], sh := .nil, objs := [], sts := [] }
def zes : Lp := lpOf yby (1, zyf) [(2, zye)] (fun v => z7i N N v.1.1 v.1.2)
def yan (_ : Nat) : Lps := fun _ => none
theorem y49 (ro : Option Nat) : LpOk Tryz.prog 22 ro (zes N) (Z8 zck [true, false, true, false]) := by
  rw [show (Z8 zck [true, false, true, false]) = .loop (Z8 zck [true, false, true, false, false]) by kernel_rfl]
  exact W6 (zof N) mixed (Λ := yan N) (p := 52) (Y2 (l := []) (by kernel_rfl) Y3) (by kernel_rfl) (by intro rec v; kernel_rfl) N
def yo2 : Lps := fun p => bif Nat.beq p 26 then some (zes N) else none
def zw1 : Ctr := X0 (.list Y1) .bool [] (fun v => zq0 N v)
theorem ydr : Y7 Tryz.prog 41 (fun vs => (zw1 N).run vs some) :=
  Y4 (zof N) mixed (Λ := yo2 N) (fn := Tryz.f41) (c := zck) Tryz.func41 (by kernel_rfl) (by kernel_rfl) (Y2 (l := [(zes N, (Z8 zck [true, false, true, false]))]) (by kernel_rfl) (X3 (y49 N none) Y3)) (by kernel_rfl) (by intro v; kernel_rfl)
def yq7 : Code := match Tryz.f39.body with | some c => c | none => .skip
def ydd (_ : Nat) : List (Nat × Ctr) := []
def yft : Env := Y9 tyRows eqRows Z9 [] [] (ydd N)
theorem y5c : EnvOk Tryz.prog (yft N) := Y0 Z5 Z6 Z3 trivial
def yer (_ : Nat) : Lps := fun _ => none
def zop : Ctr := X0 (.val Y1) .bool [] (fun v => y7k N v)
theorem y3r : Y7 Tryz.prog 39 (fun vs => (zop N).run vs some) :=
  Y4 (y5c N) mixed (Λ := yer N) (fn := Tryz.f39) (c := yq7) Tryz.func39 (by kernel_rfl) (by kernel_rfl) (Y2 (l := []) (by kernel_rfl) Y3) (by kernel_rfl) (by intro v; kernel_rfl)
def x6b : Code := match Tryz.f40.body with | some c => c | none => .skip
def yzm (_ : Nat) : List (Nat × Ctr) := []
def x05 : Env := Y9 tyRows eqRows Z9 [] [] (yzm N)
theorem ysr : EnvOk Tryz.prog (x05 N) := Y0 Z5 Z6 Z3 trivial
def yzu (_ : Nat) : Lps := fun _ => none
def zkv : Ctr := X0 (.cons (.val Y8) .str) .bool [] (fun v => zv1 N v.1 v.2)
theorem zm3 : Y7 Tryz.prog 40 (fun vs => (zkv N).run vs some) :=
  Y4 (ysr N) mixed (Λ := yzu N) (fn := Tryz.f40) (c := x6b) Tryz.func40 (by kernel_rfl) (by kernel_rfl) (Y2 (l := []) (by kernel_rfl) Y3) (by kernel_rfl) (by intro v; kernel_rfl)
def yq9 : Code := match Tryz.f38.body with | some c => c | none => .skip
def ydg : List (Nat × Ctr) := [(39, zop N), (40, zkv N)]
def yfw : Env := Y9 tyRows eqRows Z9 [] [] (ydg N)
theorem y5e : EnvOk Tryz.prog (yfw N) := Y0 Z5 Z6 Z3 ⟨y3r N, ⟨zm3 N, trivial⟩⟩
def yey (_ : Nat) : Lps := fun _ => none
def zor : Ctr := X0 (.cons (.val Y1) (.bx (.cons .str .str) 0)) .bool [] (fun v => y7o N v.1 v.2.1 v.2.2)
theorem y3t : Y7 Tryz.prog 38 (fun vs => (zor N).run vs some) :=
  Y4 (y5e N) mixed (Λ := yey N) (fn := Tryz.f38) (c := yq9) Tryz.func38 (by kernel_rfl) (by kernel_rfl) (Y2 (l := []) (by kernel_rfl) Y3) (by kernel_rfl) (by intro v; kernel_rfl)
def W4 : Code := match Tryz.f89.body with | some c => c | none => .skip
def z3k : List (Nat × Ctr) := [(38, zor N)]
def z3t : Env := Y9 tyRows eqRows Z9 [] [] (z3k N)
theorem G1 : EnvOk Tryz.prog (z3t N) := Y0 Z5 Z6 Z3 ⟨y3t N, trivial⟩
def z2w : Cut := { tms := [0, 1, 7, 8], sh := (.cons (.list Y1) (.cons (.clo 38 (.bx Sz8 0)) Sz1)), objs := [], sts := [] }
def z1h : Cut := { tms := [4], sh := (.int .i64), objs := [], sts := [] }
def z1g : Cut := { tms := [], sh := .nil, objs := [], sts := [] }
def U2 : Lp := lpOf z2w (1, z1h) [(2, z1g)] (fun v => y0 N N v.1.1 v.1.2.1.1 v.1.2.1.2 v.1.2.2.1 v.1.2.2.2)
def z2q (_ : Nat) : Lps := fun _ => none
theorem z26 (ro : Option Nat) : LpOk Tryz.prog 19 ro (U2 N) (Z8 W4 [true, false, true, false]) := by
  rw [show (Z8 W4 [true, false, true, false]) = .loop (Z8 W4 [true, false, true, false, false]) by kernel_rfl]
  exact W6 (G1 N) mixed (Λ := z2q N) (p := 52) (Y2 (l := []) (by kernel_rfl) Y3) (by kernel_rfl) (by intro rec v; kernel_rfl) N
def z3r : Lps := fun p => bif Nat.beq p 26 then some (U2 N) else none
def z7 : Ctr := X0 (.cons (.list Y1) (.clo 38 (.bx (.cons .str .str) 0))) (.int .i64) [] (fun v => q8 N v.1 v.2.1 v.2.2)
theorem z37 : Y7 Tryz.prog 89 (fun vs => (z7 N).run vs some) :=
  Y4 (G1 N) mixed (Λ := z3r N) (fn := Tryz.f89) (c := W4) Tryz.func89 (by kernel_rfl) (by kernel_rfl) (Y2 (l := [(U2 N, (Z8 W4 [true, false, true, false]))]) (by kernel_rfl) (X3 (z26 N none) Y3)) (by kernel_rfl) (by intro v; kernel_rfl)
def z3h : Code := match Tryz.f42.body with | some c => c | none => .skip
def z2m : List (Nat × Ctr) := [(89, z7 N)]
def z2u : Env := Y9 tyRows eqRows Z9 [] [] (z2m N)
theorem z1s : EnvOk Tryz.prog (z2u N) := Y0 Z5 Z6 Z3 ⟨z37 N, trivial⟩
def z2s (_ : Nat) : Lps := fun _ => none
def J8 : Ctr := X0 (.cons (.list Y1) (.clo 38 (.bx (.cons .str .str) 0))) .bool [] (fun v => y5 N v.1 v.2.1 v.2.2)
theorem z1m : Y7 Tryz.prog 42 (fun vs => (J8 N).run vs some) :=
  Y4 (z1s N) mixed (Λ := z2s N) (fn := Tryz.f42) (c := z3h) Tryz.func42 (by kernel_rfl) (by kernel_rfl) (Y2 (l := []) (by kernel_rfl) Y3) (by kernel_rfl) (by intro v; kernel_rfl)
def z9a : Code := match Tryz.f43.body with | some c => c | none => .skip
def ydc (_ : Nat) : List (Nat × Ctr) := []
def yfs : Env := Y9 tyRows eqRows Z9 [] [] (ydc N)
theorem zjf : EnvOk Tryz.prog (yfs N) := Y0 Z5 Z6 Z3 trivial
def y1i : Cut := { tms := [9, 10, 11], sh := (.cons (.own 2000000) Sz1), objs := [(2000000, [9], .sl ze9)], sts := [] }
def zrx : Cut := { tms := [2], sh := .bool, objs := [], sts := [] }
def zrw : Cut := { tms := [], sh := .nil, objs := [], sts := [] }
def zbz : Lp := lpOf y1i (1, zrx) [(2, zrw)] (fun v => z73 N N v.1.2.1 v.1.2.2 v.2.1)
def y02 (_ : Nat) : Lps := fun _ => none
theorem zxa (ro : Option Nat) : LpOk Tryz.prog 31 ro (zbz N) (Z8 z9a [true, false, true, false]) := by
  rw [show (Z8 z9a [true, false, true, false]) = .loop (Z8 z9a [true, false, true, false, false]) by kernel_rfl]
  exact W6 (zjf N) mixed (Λ := y02 N) (p := 52) (Y2 (l := []) (by kernel_rfl) Y3) (by kernel_rfl) (by intro rec v; kernel_rfl) N
def yeq : Lps := fun p => bif Nat.beq p 26 then some (zbz N) else none
def zoo : Ctr := X0 (.val V6) .bool [] (fun v => zhq N v)
theorem y3q : Y7 Tryz.prog 43 (fun vs => (zoo N).run vs some) :=
  Y4 (zjf N) mixed (Λ := yeq N) (fn := Tryz.f43) (c := z9a) Tryz.func43 (by kernel_rfl) (by kernel_rfl) (Y2 (l := [(zbz N, (Z8 z9a [true, false, true, false]))]) (by kernel_rfl) (X3 (zxa N none) Y3)) (by kernel_rfl) (by intro v; kernel_rfl)
def xb1 : Code := match Tryz.f93.body with | some c => c | none => .skip
def x56 (_ : Nat) : List (Nat × Ctr) := []
def x60 : Env := Y9 tyRows eqRows Z9 [] [] (x56 N)
theorem x02 : EnvOk Tryz.prog (x60 N) := Y0 Z5 Z6 Z3 trivial
def x5s (_ : Nat) : Lps := fun _ => none
def zhx : Ctr := X0 (.val Y5) (.iface 174 (.val Y5)) [(.iface 175 (.val Y5)), (.iface 176 (.val Y5)), (.iface 177 (.val Y5)), (.iface 178 (.val Y5)), (.iface 179 (.val Y5)), .nili] (fun v => zk2 N v)
theorem zfd : Y7 Tryz.prog 93 (fun vs => (zhx N).run vs some) :=
  Y4 (x02 N) mixed (Λ := x5s N) (fn := Tryz.f93) (c := xb1) Tryz.func93 (by kernel_rfl) (by kernel_rfl) (Y2 (l := []) (by kernel_rfl) Y3) (by kernel_rfl) (by intro v; kernel_rfl)
def xb2 : Code := match Tryz.f183.body with | some c => c | none => .skip
def x57 (_ : Nat) : List (Nat × Ctr) := []
def x61 : Env := Y9 tyRows eqRows Z9 [] [] (x57 N)
theorem x03 : EnvOk Tryz.prog (x61 N) := Y0 Z5 Z6 Z3 trivial
def x5t (_ : Nat) : Lps := fun _ => none
def znx : Ctr := X0 (.cons (.int .i64) (.cons (.int .i64) (.int .i64))) .bool [] (fun v => yhr N v.1 v.2.1 v.2.2)
theorem zki : Y7 Tryz.prog 183 (fun vs => (znx N).run vs some) :=
  Y4 (x03 N) mixed (Λ := x5t N) (fn := Tryz.f183) (c := xb2) Tryz.func183 (by kernel_rfl) (by kernel_rfl) (Y2 (l := []) (by kernel_rfl) Y3) (by kernel_rfl) (by intro v; kernel_rfl)
def yqc : Code := match Tryz.f179.body with | some c => c | none => .skip
def ydj : List (Nat × Ctr) := [(183, znx N)]
def yfz : Env := Y9 tyRows eqRows Z9 [] [] (ydj N)
theorem y5h : EnvOk Tryz.prog (yfz N) := Y0 Z5 Z6 Z3 ⟨zki N, trivial⟩
def yf9 (_ : Nat) : Lps := fun _ => none
def zot : Ctr := X0 (.val Y5) .bool [] (fun v => y7x N v)
theorem y3v : Y7 Tryz.prog 179 (fun vs => (zot N).run vs some) :=
  Y4 (y5h N) mixed (Λ := yf9 N) (fn := Tryz.f179) (c := yqc) Tryz.func179 (by kernel_rfl) (by kernel_rfl) (Y2 (l := []) (by kernel_rfl) Y3) (by kernel_rfl) (by intro v; kernel_rfl)
def ytx : Code := match Tryz.f177.body with | some c => c | none => .skip
def yis (_ : Nat) : List (Nat × Ctr) := []
def yl1 : Env := Y9 tyRows eqRows Z9 [] [] (yis N)
theorem ybh : EnvOk Tryz.prog (yl1 N) := Y0 Z5 Z6 Z3 trivial
def yk5 (_ : Nat) : Lps := fun _ => none
def zsv : Ctr := X0 (.val Y5) (.val Y5) [] (fun v => yhi N v)
theorem y9d : Y7 Tryz.prog 177 (fun vs => (zsv N).run vs some) :=
  Y4 (ybh N) mixed (Λ := yk5 N) (fn := Tryz.f177) (c := ytx) Tryz.func177 (by kernel_rfl) (by kernel_rfl) (Y2 (l := []) (by kernel_rfl) Y3) (by kernel_rfl) (by intro v; kernel_rfl)
def yqh : Code := match Tryz.f201.body with | some c => c | none => .skip
def ydo : List (Nat × Ctr) := [(183, znx N)]
def yg4 : Env := Y9 tyRows eqRows Z9 [] [] (ydo N)
theorem y5m : EnvOk Tryz.prog (yg4 N) := Y0 Z5 Z6 Z3 ⟨zki N, trivial⟩
def yfe (_ : Nat) : Lps := fun _ => none
def zoy : Ctr := X0 (.val Y5) .bool [] (fun v => y80 N v)
theorem y40 : Y7 Tryz.prog 201 (fun vs => (zoy N).run vs some) :=
  Y4 (y5m N) mixed (Λ := yfe N) (fn := Tryz.f201) (c := yqh) Tryz.func201 (by kernel_rfl) (by kernel_rfl) (Y2 (l := []) (by kernel_rfl) Y3) (by kernel_rfl) (by intro v; kernel_rfl)
def yty : Code := match Tryz.f199.body with | some c => c | none => .skip
def yit (_ : Nat) : List (Nat × Ctr) := []
def yl2 : Env := Y9 tyRows eqRows Z9 [] [] (yit N)
theorem ybi : EnvOk Tryz.prog (yl2 N) := Y0 Z5 Z6 Z3 trivial
def yk7 (_ : Nat) : Lps := fun _ => none
def zsw : Ctr := X0 (.val Y5) (.val Y5) [] (fun v => yhj N v)
theorem y9e : Y7 Tryz.prog 199 (fun vs => (zsw N).run vs some) :=
  Y4 (ybi N) mixed (Λ := yk7 N) (fn := Tryz.f199) (c := yty) Tryz.func199 (by kernel_rfl) (by kernel_rfl) (Y2 (l := []) (by kernel_rfl) Y3) (by kernel_rfl) (by intro v; kernel_rfl)
def x0g : Code := match Tryz.f90.body with | some c => c | none => .skip
def yr3 (_ : Nat) : List (Nat × Ctr) := []
def ysz : Env := Y9 tyRows eqRows Z9 [] [] (yr3 N)
theorem ykh : EnvOk Tryz.prog (ysz N) := Y0 Z5 Z6 Z3 trivial
def yry (_ : Nat) : Lps := fun _ => none
def zax : Ctr := X0 (.val Y8) .bool [] (fun v => zdz N v)
theorem zb6 : Y7 Tryz.prog 90 (fun vs => (zax N).run vs some) :=
  Y4 (ykh N) mixed (Λ := yry N) (fn := Tryz.f90) (c := x0g) Tryz.func90 (by kernel_rfl) (by kernel_rfl) (Y2 (l := []) (by kernel_rfl) Y3) (by kernel_rfl) (by intro v; kernel_rfl)
def x6e : Code := match Tryz.f215.body with | some c => c | none => .skip
def yzr : List (Nat × Ctr) := [(90, zax N)]
def x0a : Env := Y9 tyRows eqRows Z9 [] [] (yzr N)
theorem ysu : EnvOk Tryz.prog (x0a N) := Y0 Z5 Z6 Z3 ⟨zb6 N, trivial⟩
def yzz (_ : Nat) : Lps := fun _ => none
def zvd : Ctr := X0 (.val Y8) .bool [] (fun v => yvi N v)
theorem y27 : Y7 Tryz.prog 215 (fun vs => (zvd N).run vs some) :=
  Y4 (ysu N) mixed (Λ := yzz N) (fn := Tryz.f215) (c := x6e) Tryz.func215 (by kernel_rfl) (by kernel_rfl) (Y2 (l := []) (by kernel_rfl) Y3) (by kernel_rfl) (by intro v; kernel_rfl)
def ylj : Code := match Tryz.f212.body with | some c => c | none => .skip
def y8z : List (Nat × Ctr) := [(215, zvd N)]
def ybs : Env := Y9 tyRows eqRows Z9 [] [] (y8z N)
theorem y0i : EnvOk Tryz.prog (ybs N) := Y0 Z5 Z6 Z3 ⟨y27 N, trivial⟩
def yb5 (_ : Nat) : Lps := fun _ => none
def zlx : Ctr := X0 (.val Y5) .bool [] (fun v => y2c N v)
theorem zzj : Y7 Tryz.prog 212 (fun vs => (zlx N).run vs some) :=
  Y4 (y0i N) mixed (Λ := yb5 N) (fn := Tryz.f212) (c := ylj) Tryz.func212 (by kernel_rfl) (by kernel_rfl) (Y2 (l := []) (by kernel_rfl) Y3) (by kernel_rfl) (by intro v; kernel_rfl)
def yqg : Code := match Tryz.f210.body with | some c => c | none => .skip
def ydn (_ : Nat) : List (Nat × Ctr) := []
def yg3 : Env := Y9 tyRows eqRows Z9 [] [] (ydn N)
theorem y5l : EnvOk Tryz.prog (yg3 N) := Y0 Z5 Z6 Z3 trivial
def yfd (_ : Nat) : Lps := fun _ => none
def zox : Ctr := X0 (.val Y5) (.val Y5) [] (fun v => y7z N v)
theorem y3z : Y7 Tryz.prog 210 (fun vs => (zox N).run vs some) :=
  Y4 (y5l N) mixed (Λ := yfd N) (fn := Tryz.f210) (c := yqg) Tryz.func210 (by kernel_rfl) (by kernel_rfl) (Y2 (l := []) (by kernel_rfl) Y3) (by kernel_rfl) (by intro v; kernel_rfl)
def zs2 : Code := match Tryz.f132.body with | some c => c | none => .skip
def zn0 (_ : Nat) : List (Nat × Ctr) := []
def znl : Env := Y9 tyRows eqRows Z9 [] [] (zn0 N)
theorem zk7 : EnvOk Tryz.prog (znl N) := Y0 Z5 Z6 Z3 trivial
def zng (_ : Nat) : Lps := fun _ => none
def z5d : Ctr := X0 (.cons .str .str) .bool [] (fun v => w8 N v.1 v.2)
theorem z9g : Y7 Tryz.prog 132 (fun vs => (z5d N).run vs some) :=
  Y4 (zk7 N) mixed (Λ := zng N) (fn := Tryz.f132) (c := zs2) Tryz.func132 (by kernel_rfl) (by kernel_rfl) (Y2 (l := []) (by kernel_rfl) Y3) (by kernel_rfl) (by intro v; kernel_rfl)
def y6j : Code := match Tryz.f227.body with | some c => c | none => .skip
def zwn : List (Nat × Ctr) := [(132, z5d N)]
def zy4 : Env := Y9 tyRows eqRows Z9 [] [] (zwn N)
theorem zrj : EnvOk Tryz.prog (zy4 N) := Y0 Z5 Z6 Z3 ⟨z9g N, trivial⟩
def zxd (_ : Nat) : Lps := fun _ => none
def zfv : Ctr := X0 (.cons .str .str) .bool [] (fun v => zep N v.1 v.2)
theorem zr7 : Y7 Tryz.prog 227 (fun vs => (zfv N).run vs some) :=
  Y4 (zrj N) mixed (Λ := zxd N) (fn := Tryz.f227) (c := y6j) Tryz.func227 (by kernel_rfl) (by kernel_rfl) (Y2 (l := []) (by kernel_rfl) Y3) (by kernel_rfl) (by intro v; kernel_rfl)
def x3c : Code := match Tryz.f224.body with | some c => c | none => .skip
def ywg : List (Nat × Ctr) := [(183, znx N), (227, zfv N)]
def yxo : Env := Y9 tyRows eqRows Z9 [] [] (ywg N)
theorem yp7 : EnvOk Tryz.prog (yxo N) := Y0 Z5 Z6 Z3 ⟨zki N, ⟨zr7 N, trivial⟩⟩
def yx3 (_ : Nat) : Lps := fun _ => none
def zqv : Ctr := X0 (.cons .str .str) .bool [] (fun v => ylz N v.1 v.2)
theorem zvl : Y7 Tryz.prog 224 (fun vs => (zqv N).run vs some) :=
  Y4 (yp7 N) mixed (Λ := yx3 N) (fn := Tryz.f224) (c := x3c) Tryz.func224 (by kernel_rfl) (by kernel_rfl) (Y2 (l := []) (by kernel_rfl) Y3) (by kernel_rfl) (by intro v; kernel_rfl)
def ylg : Code := match Tryz.f219.body with | some c => c | none => .skip
def y8w : List (Nat × Ctr) := [(224, zqv N)]
def ybp : Env := Y9 tyRows eqRows Z9 [] [] (y8w N)
theorem y0f : EnvOk Tryz.prog (ybp N) := Y0 Z5 Z6 Z3 ⟨zvl N, trivial⟩
def yb2 (_ : Nat) : Lps := fun _ => none
def zlu : Ctr := X0 (.val Y5) .bool [] (fun v => y2b N v)
theorem zzg : Y7 Tryz.prog 219 (fun vs => (zlu N).run vs some) :=
  Y4 (y0f N) mixed (Λ := yb2 N) (fn := Tryz.f219) (c := ylg) Tryz.func219 (by kernel_rfl) (by kernel_rfl) (Y2 (l := []) (by kernel_rfl) Y3) (by kernel_rfl) (by intro v; kernel_rfl)
def yqf : Code := match Tryz.f217.body with | some c => c | none => .skip
def ydm (_ : Nat) : List (Nat × Ctr) := []
def yg2 : Env := Y9 tyRows eqRows Z9 [] [] (ydm N)
theorem y5k : EnvOk Tryz.prog (yg2 N) := Y0 Z5 Z6 Z3 trivial
def yfc (_ : Nat) : Lps := fun _ => none
def zow : Ctr := X0 (.val Y5) (.val Y5) [] (fun v => y7y N v)
theorem y3y : Y7 Tryz.prog 217 (fun vs => (zow N).run vs some) :=
  Y4 (y5k N) mixed (Λ := yfc N) (fn := Tryz.f217) (c := yqf) Tryz.func217 (by kernel_rfl) (by kernel_rfl) (Y2 (l := []) (by kernel_rfl) Y3) (by kernel_rfl) (by intro v; kernel_rfl)
def yh9 : Code := match Tryz.f232.body with | some c => c | none => .skip
def y3n : List (Nat × Ctr) := [(224, zqv N)]
def y60 : Env := Y9 tyRows eqRows Z9 [] [] (y3n N)
theorem zy0 : EnvOk Tryz.prog (y60 N) := Y0 Z5 Z6 Z3 ⟨zvl N, trivial⟩
def y54 (_ : Nat) : Lps := fun _ => none
def zjt : Ctr := X0 (.val Y5) .bool [] (fun v => zvu N v)
theorem zx7 : Y7 Tryz.prog 232 (fun vs => (zjt N).run vs some) :=
  Y4 (zy0 N) mixed (Λ := y54 N) (fn := Tryz.f232) (c := yh9) Tryz.func232 (by kernel_rfl) (by kernel_rfl) (Y2 (l := []) (by kernel_rfl) Y3) (by kernel_rfl) (by intro v; kernel_rfl)
def yln : Code := match Tryz.f230.body with | some c => c | none => .skip
def y93 (_ : Nat) : List (Nat × Ctr) := []
def ybw : Env := Y9 tyRows eqRows Z9 [] [] (y93 N)
theorem y0m : EnvOk Tryz.prog (ybw N) := Y0 Z5 Z6 Z3 trivial
def yb9 (_ : Nat) : Lps := fun _ => none
def zm1 : Ctr := X0 (.val Y5) (.val Y5) [] (fun v => y2d N v)
theorem zzn : Y7 Tryz.prog 230 (fun vs => (zm1 N).run vs some) :=
  Y4 (y0m N) mixed (Λ := yb9 N) (fn := Tryz.f230) (c := yln) Tryz.func230 (by kernel_rfl) (by kernel_rfl) (Y2 (l := []) (by kernel_rfl) Y3) (by kernel_rfl) (by intro v; kernel_rfl)
def yh3 : Code := match Tryz.f238.body with | some c => c | none => .skip
def y3g : List (Nat × Ctr) := [(215, zvd N), (183, znx N)]
def y5t : Env := Y9 tyRows eqRows Z9 [] [] (y3g N)
theorem zxu : EnvOk Tryz.prog (y5t N) := Y0 Z5 Z6 Z3 ⟨y27 N, ⟨zki N, trivial⟩⟩
def y4x (_ : Nat) : Lps := fun _ => none
def zjm : Ctr := X0 (.val Y5) .bool [] (fun v => zvr N v)
theorem zx0 : Y7 Tryz.prog 238 (fun vs => (zjm N).run vs some) :=
  Y4 (zxu N) mixed (Λ := y4x N) (fn := Tryz.f238) (c := yh3) Tryz.func238 (by kernel_rfl) (by kernel_rfl) (Y2 (l := []) (by kernel_rfl) Y3) (by kernel_rfl) (by intro v; kernel_rfl)
def yle : Code := match Tryz.f236.body with | some c => c | none => .skip
def y8u (_ : Nat) : List (Nat × Ctr) := []
def ybn : Env := Y9 tyRows eqRows Z9 [] [] (y8u N)
theorem y0d : EnvOk Tryz.prog (ybn N) := Y0 Z5 Z6 Z3 trivial
def yb0 (_ : Nat) : Lps := fun _ => none
def zls : Ctr := X0 (.val Y5) (.val Y5) [] (fun v => y2a N v)
theorem zze : Y7 Tryz.prog 236 (fun vs => (zls N).run vs some) :=
  Y4 (y0d N) mixed (Λ := yb0 N) (fn := Tryz.f236) (c := yle) Tryz.func236 (by kernel_rfl) (by kernel_rfl) (Y2 (l := []) (by kernel_rfl) Y3) (by kernel_rfl) (by intro v; kernel_rfl)
def x3d : Code := match Tryz.f48.body with | some c => c | none => .skip
def ywh : List (Nat × Ctr) := [(93, zhx N), (179, zot N), (177, zsv N), (201, zoy N), (199, zsw N), (212, zlx N), (210, zox N), (219, zlu N), (217, zow N), (232, zjt N), (230, zm1 N), (238, zjm N), (236, zls N)]
def yxp : Env := Y9 tyRows eqRows Z9 [] [] (ywh N)
theorem yp8 : EnvOk Tryz.prog (yxp N) := Y0 Z5 Z6 Z3 ⟨zfd N, ⟨y3v N, ⟨y9d N, ⟨y40 N, ⟨y9e N, ⟨zzj N, ⟨y3z N, ⟨zzg N, ⟨y3y N, ⟨zx7 N, ⟨zzn N, ⟨zx0 N, ⟨zze N, trivial⟩⟩⟩⟩⟩⟩⟩⟩⟩⟩⟩⟩⟩
def yx4 (_ : Nat) : Lps := fun _ => none
def zhz : Ctr := X0 (.val Y5) .bool [] (fun v => y71 N v)
theorem zik : Y7 Tryz.prog 48 (fun vs => (zhz N).run vs some) :=
  Y4 (yp8 N) mixed (Λ := yx4 N) (fn := Tryz.f48) (c := x3d) Tryz.func48 (by kernel_rfl) (by kernel_rfl) (Y2 (l := []) (by kernel_rfl) Y3) (by kernel_rfl) (by intro v; kernel_rfl)
def yqd : Code := match Tryz.f178.body with | some c => c | none => .skip
def ydk (_ : Nat) : List (Nat × Ctr) := []
def yg0 : Env := Y9 tyRows eqRows Z9 [] [] (ydk N)
theorem y5i : EnvOk Tryz.prog (yg0 N) := Y0 Z5 Z6 Z3 trivial
def yfa (_ : Nat) : Lps := fun _ => none
def zou : Ctr := X0 (.val Y5) (.fresh Y8) [] (fun v => zqo N v)
theorem y3w : Y7 Tryz.prog 178 (fun vs => (zou N).run vs some) :=
  Y4 (y5i N) mixed (Λ := yfa N) (fn := Tryz.f178) (c := yqd) Tryz.func178 (by kernel_rfl) (by kernel_rfl) (Y2 (l := []) (by kernel_rfl) Y3) (by kernel_rfl) (by intro v; kernel_rfl)
def yqi : Code := match Tryz.f200.body with | some c => c | none => .skip
def ydp (_ : Nat) : List (Nat × Ctr) := []
def yg5 : Env := Y9 tyRows eqRows Z9 [] [] (ydp N)
theorem y5n : EnvOk Tryz.prog (yg5 N) := Y0 Z5 Z6 Z3 trivial
def yff (_ : Nat) : Lps := fun _ => none
def zoz : Ctr := X0 (.val Y5) (.fresh Y8) [] (fun v => zqq N v)
theorem y41 : Y7 Tryz.prog 200 (fun vs => (zoz N).run vs some) :=
  Y4 (y5n N) mixed (Λ := yff N) (fn := Tryz.f200) (c := yqi) Tryz.func200 (by kernel_rfl) (by kernel_rfl) (Y2 (l := []) (by kernel_rfl) Y3) (by kernel_rfl) (by intro v; kernel_rfl)
def ylk : Code := match Tryz.f211.body with | some c => c | none => .skip
def y90 (_ : Nat) : List (Nat × Ctr) := []
def ybt : Env := Y9 tyRows eqRows Z9 [] [] (y90 N)
theorem y0j : EnvOk Tryz.prog (ybt N) := Y0 Z5 Z6 Z3 trivial
def yb6 (_ : Nat) : Lps := fun _ => none
def zly : Ctr := X0 (.val Y5) (.fresh Y8) [] (fun v => zma N v)
theorem zzk : Y7 Tryz.prog 211 (fun vs => (zly N).run vs some) :=
  Y4 (y0j N) mixed (Λ := yb6 N) (fn := Tryz.f211) (c := ylk) Tryz.func211 (by kernel_rfl) (by kernel_rfl) (Y2 (l := []) (by kernel_rfl) Y3) (by kernel_rfl) (by intro v; kernel_rfl)
def zcm : Code := match Tryz.f223.body with | some c => c | none => .skip
def yn4 (_ : Nat) : List (Nat × Ctr) := []
def yph : Env := Y9 tyRows eqRows Z9 [] [22] (yn4 N)
theorem zoh : EnvOk Tryz.prog (yph N) := Y0 Z5 Z6 Z3 trivial
def yc0 : Cut := { tms := [0, 2, 3], sh := (.cons .str Sz20), objs := [(2000000, [2], .box Sz8), (2000001, [3], .sl (.int .u8))], sts := [] }
def zyh : Cut := { tms := [0, 2, 3], sh := (.cons .str Sz20), objs := [(2000000, [2], .box Sz8), (2000001, [3], .sl (.int .u8))], sts := [] }
def zeu : Lp := lpOf yc0 (2, zyh) [] (fun v => zah N N v.1.1 v.2.1.1 v.2.1.2 v.2.2.1)
def yap (_ : Nat) : Lps := fun _ => none
theorem y4b (ro : Option Nat) : LpOk Tryz.prog 38 ro (zeu N) (Z8 zcm [true, true, false, false]) := by
  rw [show (Z8 zcm [true, true, false, false]) = .loop (Z8 zcm [true, true, false, false, false]) by kernel_rfl]
  exact W6 (zoh N) mixed (Λ := yap N) (p := 56) (Y2 (l := []) (by kernel_rfl) Y3) (by kernel_rfl) (by intro rec v; kernel_rfl) N
def yo6 : Lps := fun p => bif Nat.beq p 28 then some (zeu N) else none
def z2e : Ctr := X0 .str (.val Y8) [] (fun v => z4a N v)
theorem z1j : Y7 Tryz.prog 223 (fun vs => (z2e N).run vs some) :=
  Y4 (zoh N) mixed (Λ := yo6 N) (fn := Tryz.f223) (c := zcm) Tryz.func223 (by kernel_rfl) (by kernel_rfl) (Y2 (l := [(zeu N, (Z8 zcm [true, true, false, false]))]) (by kernel_rfl) (X3 (y4b N none) Y3)) (by kernel_rfl) (by intro v; kernel_rfl)
def ylh : Code := match Tryz.f218.body with | some c => c | none => .skip
def y8x : List (Nat × Ctr) := [(223, z2e N)]
def ybq : Env := Y9 tyRows eqRows Z9 [] [] (y8x N)
theorem y0g : EnvOk Tryz.prog (ybq N) := Y0 Z5 Z6 Z3 ⟨z1j N, trivial⟩
def yb3 (_ : Nat) : Lps := fun _ => none
def zlv : Ctr := X0 (.val Y5) (.fresh Y8) [] (fun v => zm8 N v)
theorem zzh : Y7 Tryz.prog 218 (fun vs => (zlv N).run vs some) :=
  Y4 (y0g N) mixed (Λ := yb3 N) (fn := Tryz.f218) (c := ylh) Tryz.func218 (by kernel_rfl) (by kernel_rfl) (Y2 (l := []) (by kernel_rfl) Y3) (by kernel_rfl) (by intro v; kernel_rfl)
def yha : Code := match Tryz.f231.body with | some c => c | none => .skip
def y3o : List (Nat × Ctr) := [(223, z2e N)]
def y61 : Env := Y9 tyRows eqRows Z9 [] [] (y3o N)
theorem zy1 : EnvOk Tryz.prog (y61 N) := Y0 Z5 Z6 Z3 ⟨z1j N, trivial⟩
def y55 (_ : Nat) : Lps := fun _ => none
def zju : Ctr := X0 (.val Y5) (.fresh Y8) [] (fun v => zis N v)
theorem zx8 : Y7 Tryz.prog 231 (fun vs => (zju N).run vs some) :=
  Y4 (zy1 N) mixed (Λ := y55 N) (fn := Tryz.f231) (c := yha) Tryz.func231 (by kernel_rfl) (by kernel_rfl) (Y2 (l := []) (by kernel_rfl) Y3) (by kernel_rfl) (by intro v; kernel_rfl)
def yh4 : Code := match Tryz.f237.body with | some c => c | none => .skip
def y3h (_ : Nat) : List (Nat × Ctr) := []
def y5u : Env := Y9 tyRows eqRows Z9 [] [] (y3h N)
theorem zxv : EnvOk Tryz.prog (y5u N) := Y0 Z5 Z6 Z3 trivial
def y4y (_ : Nat) : Lps := fun _ => none
def zjn : Ctr := X0 (.val Y5) (.fresh Y8) [] (fun v => zin N v)
theorem zx1 : Y7 Tryz.prog 237 (fun vs => (zjn N).run vs some) :=
  Y4 (zxv N) mixed (Λ := y4y N) (fn := Tryz.f237) (c := yh4) Tryz.func237 (by kernel_rfl) (by kernel_rfl) (Y2 (l := []) (by kernel_rfl) Y3) (by kernel_rfl) (by intro v; kernel_rfl)
def x3e : Code := match Tryz.f50.body with | some c => c | none => .skip
def ywi : List (Nat × Ctr) := [(93, zhx N), (178, zou N), (200, zoz N), (211, zly N), (218, zlv N), (231, zju N), (237, zjn N)]
def yxq : Env := Y9 tyRows eqRows Z9 [] [] (ywi N)
theorem yp9 : EnvOk Tryz.prog (yxq N) := Y0 Z5 Z6 Z3 ⟨zfd N, ⟨y3w N, ⟨y41 N, ⟨zzk N, ⟨zzh N, ⟨zx8 N, ⟨zx1 N, trivial⟩⟩⟩⟩⟩⟩⟩
def yx5 (_ : Nat) : Lps := fun _ => none
def y8k : Ctr := X0 (.val Y5) (.fresh Y8) [] (fun v => y72 N v)
theorem ynu : Y7 Tryz.prog 50 (fun vs => (y8k N).run vs some) :=
  Y4 (yp9 N) mixed (Λ := yx5 N) (fn := Tryz.f50) (c := x3e) Tryz.func50 (by kernel_rfl) (by kernel_rfl) (Y2 (l := []) (by kernel_rfl) Y3) (by kernel_rfl) (by intro v; kernel_rfl)
def y25 : Code := match Tryz.f123.body with | some c => c | none => .skip
def zta (_ : Nat) : List (Nat × Ctr) := []
def zu7 : Env := Y9 tyRows eqRows Z9 [] [] (zta N)
theorem zpg : EnvOk Tryz.prog (zu7 N) := Y0 Z5 Z6 Z3 trivial
def ztw (_ : Nat) : Lps := fun _ => none
def zen : Ctr := X0 .str .bool [] (fun v => zdn N v)
theorem zp7 : Y7 Tryz.prog 123 (fun vs => (zen N).run vs some) :=
  Y4 (zpg N) mixed (Λ := ztw N) (fn := Tryz.f123) (c := y25) Tryz.func123 (by kernel_rfl) (by kernel_rfl) (Y2 (l := []) (by kernel_rfl) Y3) (by kernel_rfl) (by intro v; kernel_rfl)
def zuw : Code := match Tryz.f113.body with | some c => c | none => .skip
def zp5 : List (Nat × Ctr) := [(123, zen N)]
def zpj : Env := Y9 tyRows eqRows Z9 [] [] (zp5 N)
theorem zl3 : EnvOk Tryz.prog (zpj N) := Y0 Z5 Z6 Z3 ⟨zp7 N, trivial⟩
def zpb (_ : Nat) : Lps := fun _ => none
def zc8 : Ctr := X0 (.cons .str .str) (.int .i64) [] (fun v => zi0 N v.1 v.2)
theorem zkz : Y7 Tryz.prog 113 (fun vs => (zc8 N).run vs some) :=
  Y4 (zl3 N) mixed (Λ := zpb N) (fn := Tryz.f113) (c := zuw) Tryz.func113 (by kernel_rfl) (by kernel_rfl) (Y2 (l := []) (by kernel_rfl) Y3) (by kernel_rfl) (by intro v; kernel_rfl)
def ycq : Code := match Tryz.f91.body with | some c => c | none => .skip
def zz4 : List (Nat × Ctr) := [(113, zc8 N)]
def y0n : Env := Y9 tyRows eqRows Z9 [] [] (zz4 N)
theorem ztx : EnvOk Tryz.prog (y0n N) := Y0 Z5 Z6 Z3 ⟨zkz N, trivial⟩
def y00 (_ : Nat) : Lps := fun _ => none
def zaa : Ctr := X0 (.cons .str .str) (.int .i64) [] (fun v => zg9 N v.1 v.2)
theorem zee : Y7 Tryz.prog 91 (fun vs => (zaa N).run vs some) :=
  Y4 (ztx N) mixed (Λ := y00 N) (fn := Tryz.f91) (c := ycq) Tryz.func91 (by kernel_rfl) (by kernel_rfl) (Y2 (l := []) (by kernel_rfl) Y3) (by kernel_rfl) (by intro v; kernel_rfl)
def yy2 : Code := match Tryz.f45.body with | some c => c | none => .skip
def yn5 : List (Nat × Ctr) := [(90, zax N), (40, zkv N), (91, zaa N)]
def ypi : Env := Y9 tyRows eqRows Z9 [] [] (yn5 N)
theorem yfk : EnvOk Tryz.prog (ypi N) := Y0 Z5 Z6 Z3 ⟨zb6 N, ⟨zm3 N, ⟨zee N, trivial⟩⟩⟩
def yo7 (_ : Nat) : Lps := fun _ => none
def zw5 : Ctr := X0 (.cons (.val Y8) (.val Y8)) .bool [] (fun v => yme N v.1 v.2)
theorem ydv : Y7 Tryz.prog 45 (fun vs => (zw5 N).run vs some) :=
  Y4 (yfk N) mixed (Λ := yo7 N) (fn := Tryz.f45) (c := yy2) Tryz.func45 (by kernel_rfl) (by kernel_rfl) (Y2 (l := []) (by kernel_rfl) Y3) (by kernel_rfl) (by intro v; kernel_rfl)
def yq8 : Code := match Tryz.f44.body with | some c => c | none => .skip
def ydf : List (Nat × Ctr) := [(45, zw5 N)]
def yfv : Env := Y9 tyRows eqRows Z9 [] [] (ydf N)
theorem y5d : EnvOk Tryz.prog (yfv N) := Y0 Z5 Z6 Z3 ⟨ydv N, trivial⟩
def yex (_ : Nat) : Lps := fun _ => none
def zoq : Ctr := X0 (.cons (.val Y8) (.bx (.cons .str .str) 0)) .bool [] (fun v => y7n N v.1 v.2.1 v.2.2)
theorem y3s : Y7 Tryz.prog 44 (fun vs => (zoq N).run vs some) :=
  Y4 (y5d N) mixed (Λ := yex N) (fn := Tryz.f44) (c := yq8) Tryz.func44 (by kernel_rfl) (by kernel_rfl) (Y2 (l := []) (by kernel_rfl) Y3) (by kernel_rfl) (by intro v; kernel_rfl)
def W3 : Code := match Tryz.f94.body with | some c => c | none => .skip
def z3j : List (Nat × Ctr) := [(44, zoq N)]
def z3s : Env := Y9 tyRows eqRows Z9 [] [] (z3j N)
theorem G0 : EnvOk Tryz.prog (z3s N) := Y0 Z5 Z6 Z3 ⟨y3s N, trivial⟩
def z2v : Cut := { tms := [0, 1, 7, 8], sh := (.cons (.list Y8) (.cons (.clo 44 (.bx Sz8 0)) Sz1)), objs := [], sts := [] }
def z1f : Cut := { tms := [4], sh := (.int .i64), objs := [], sts := [] }
def z1e : Cut := { tms := [], sh := .nil, objs := [], sts := [] }
def U1 : Lp := lpOf z2v (1, z1f) [(2, z1e)] (fun v => z8 N N v.1.1 v.1.2.1.1 v.1.2.1.2 v.1.2.2.1 v.1.2.2.2)
def z2p (_ : Nat) : Lps := fun _ => none
theorem z25 (ro : Option Nat) : LpOk Tryz.prog 19 ro (U1 N) (Z8 W3 [true, false, true, false]) := by
  rw [show (Z8 W3 [true, false, true, false]) = .loop (Z8 W3 [true, false, true, false, false]) by kernel_rfl]
  exact W6 (G0 N) mixed (Λ := z2p N) (p := 52) (Y2 (l := []) (by kernel_rfl) Y3) (by kernel_rfl) (by intro rec v; kernel_rfl) N
def z3q : Lps := fun p => bif Nat.beq p 26 then some (U1 N) else none
def G9 : Ctr := X0 (.cons (.list Y8) (.clo 44 (.bx (.cons .str .str) 0))) (.int .i64) [] (fun v => q7 N v.1 v.2.1 v.2.2)
theorem z36 : Y7 Tryz.prog 94 (fun vs => (G9 N).run vs some) :=
  Y4 (G0 N) mixed (Λ := z3q N) (fn := Tryz.f94) (c := W3) Tryz.func94 (by kernel_rfl) (by kernel_rfl) (Y2 (l := [(U1 N, (Z8 W3 [true, false, true, false]))]) (by kernel_rfl) (X3 (z25 N none) Y3)) (by kernel_rfl) (by intro v; kernel_rfl)
def z3g : Code := match Tryz.f49.body with | some c => c | none => .skip
def z2l : List (Nat × Ctr) := [(94, G9 N)]
def z2t : Env := Y9 tyRows eqRows Z9 [] [] (z2l N)
theorem z1r : EnvOk Tryz.prog (z2t N) := Y0 Z5 Z6 Z3 ⟨z36 N, trivial⟩
def z2r (_ : Nat) : Lps := fun _ => none
def J7 : Ctr := X0 (.cons (.list Y8) (.clo 44 (.bx (.cons .str .str) 0))) .bool [] (fun v => U9 N v.1 v.2.1 v.2.2)
theorem z1l : Y7 Tryz.prog 49 (fun vs => (J7 N).run vs some) :=
  Y4 (z1r N) mixed (Λ := z2r N) (fn := Tryz.f49) (c := z3g) Tryz.func49 (by kernel_rfl) (by kernel_rfl) (Y2 (l := []) (by kernel_rfl) Y3) (by kernel_rfl) (by intro v; kernel_rfl)
def x6a : Code := match Tryz.f185.body with | some c => c | none => .skip
def yzl (_ : Nat) : List (Nat × Ctr) := []
def x04 : Env := Y9 tyRows eqRows Z9 [] [] (yzl N)
theorem ysq : EnvOk Tryz.prog (x04 N) := Y0 Z5 Z6 Z3 trivial
def yzt (_ : Nat) : Lps := fun _ => none
def zku : Ctr := X0 .str (.val Y8) [] (fun v => zj4 N v)
theorem zm2 : Y7 Tryz.prog 185 (fun vs => (zku N).run vs some) :=
  Y4 (ysq N) mixed (Λ := yzt N) (fn := Tryz.f185) (c := x6a) Tryz.func185 (by kernel_rfl) (by kernel_rfl) (Y2 (l := []) (by kernel_rfl) Y3) (by kernel_rfl) (by intro v; kernel_rfl)
def ylf : Code := match Tryz.f181.body with | some c => c | none => .skip
def y8v : List (Nat × Ctr) := [(185, zku N)]
def ybo : Env := Y9 tyRows eqRows Z9 [] [] (y8v N)
theorem y0e : EnvOk Tryz.prog (ybo N) := Y0 Z5 Z6 Z3 ⟨zm2 N, trivial⟩
def yb1 (_ : Nat) : Lps := fun _ => none
def zlt : Ctr := X0 (.val Y5) (.fresh Y8) [] (fun v => zm7 N v)
theorem zzf : Y7 Tryz.prog 181 (fun vs => (zlt N).run vs some) :=
  Y4 (y0e N) mixed (Λ := yb1 N) (fn := Tryz.f181) (c := ylf) Tryz.func181 (by kernel_rfl) (by kernel_rfl) (Y2 (l := []) (by kernel_rfl) Y3) (by kernel_rfl) (by intro v; kernel_rfl)
def ylm : Code := match Tryz.f203.body with | some c => c | none => .skip
def y92 : List (Nat × Ctr) := [(185, zku N)]
def ybv : Env := Y9 tyRows eqRows Z9 [] [] (y92 N)
theorem y0l : EnvOk Tryz.prog (ybv N) := Y0 Z5 Z6 Z3 ⟨zm2 N, trivial⟩
def yb8 (_ : Nat) : Lps := fun _ => none
def zm0 : Ctr := X0 (.val Y5) (.fresh Y8) [] (fun v => zmc N v)
theorem zzm : Y7 Tryz.prog 203 (fun vs => (zm0 N).run vs some) :=
  Y4 (y0l N) mixed (Λ := yb8 N) (fn := Tryz.f203) (c := ylm) Tryz.func203 (by kernel_rfl) (by kernel_rfl) (Y2 (l := []) (by kernel_rfl) Y3) (by kernel_rfl) (by intro v; kernel_rfl)
def yh7 : Code := match Tryz.f214.body with | some c => c | none => .skip
def y3l (_ : Nat) : List (Nat × Ctr) := []
def y5y : Env := Y9 tyRows eqRows Z9 [] [] (y3l N)
theorem zxy : EnvOk Tryz.prog (y5y N) := Y0 Z5 Z6 Z3 trivial
def y52 (_ : Nat) : Lps := fun _ => none
def zjr : Ctr := X0 (.val Y5) (.fresh Y8) [] (fun v => zir N v)
theorem zx5 : Y7 Tryz.prog 214 (fun vs => (zjr N).run vs some) :=
  Y4 (zxy N) mixed (Λ := y52 N) (fn := Tryz.f214) (c := yh7) Tryz.func214 (by kernel_rfl) (by kernel_rfl) (Y2 (l := []) (by kernel_rfl) Y3) (by kernel_rfl) (by intro v; kernel_rfl)
def yh6 : Code := match Tryz.f221.body with | some c => c | none => .skip
def y3k : List (Nat × Ctr) := [(223, z2e N)]
def y5x : Env := Y9 tyRows eqRows Z9 [] [] (y3k N)
theorem zxx : EnvOk Tryz.prog (y5x N) := Y0 Z5 Z6 Z3 ⟨z1j N, trivial⟩
def y51 (_ : Nat) : Lps := fun _ => none
def zjq : Ctr := X0 (.val Y5) (.fresh Y8) [] (fun v => ziq N v)
theorem zx4 : Y7 Tryz.prog 221 (fun vs => (zjq N).run vs some) :=
  Y4 (zxx N) mixed (Λ := y51 N) (fn := Tryz.f221) (c := yh6) Tryz.func221 (by kernel_rfl) (by kernel_rfl) (Y2 (l := []) (by kernel_rfl) Y3) (by kernel_rfl) (by intro v; kernel_rfl)
def ycv : Code := match Tryz.f234.body with | some c => c | none => .skip
def zz9 : List (Nat × Ctr) := [(223, z2e N)]
def y0s : Env := Y9 tyRows eqRows Z9 [] [] (zz9 N)
theorem zu2 : EnvOk Tryz.prog (y0s N) := Y0 Z5 Z6 Z3 ⟨z1j N, trivial⟩
def y07 (_ : Nat) : Lps := fun _ => none
def zhy : Ctr := X0 (.val Y5) (.fresh Y8) [] (fun v => zgf N v)
theorem ztf : Y7 Tryz.prog 234 (fun vs => (zhy N).run vs some) :=
  Y4 (zu2 N) mixed (Λ := y07 N) (fn := Tryz.f234) (c := ycv) Tryz.func234 (by kernel_rfl) (by kernel_rfl) (Y2 (l := []) (by kernel_rfl) Y3) (by kernel_rfl) (by intro v; kernel_rfl)
def ycs : Code := match Tryz.f240.body with | some c => c | none => .skip
def zz6 (_ : Nat) : List (Nat × Ctr) := []
def y0p : Env := Y9 tyRows eqRows Z9 [] [] (zz6 N)
theorem ztz : EnvOk Tryz.prog (y0p N) := Y0 Z5 Z6 Z3 trivial
def y04 (_ : Nat) : Lps := fun _ => none
def zhw : Ctr := X0 (.val Y5) (.fresh Y8) [] (fun v => zgc N v)
theorem zte : Y7 Tryz.prog 240 (fun vs => (zhw N).run vs some) :=
  Y4 (ztz N) mixed (Λ := y04 N) (fn := Tryz.f240) (c := ycs) Tryz.func240 (by kernel_rfl) (by kernel_rfl) (Y2 (l := []) (by kernel_rfl) Y3) (by kernel_rfl) (by intro v; kernel_rfl)
def x0q : Code := match Tryz.f51.body with | some c => c | none => .skip
def yrq : List (Nat × Ctr) := [(93, zhx N), (181, zlt N), (203, zm0 N), (214, zjr N), (221, zjq N), (234, zhy N), (240, zhw N)]
def ytm : Env := Y9 tyRows eqRows Z9 [] [] (yrq N)
theorem ykr : EnvOk Tryz.prog (ytm N) := Y0 Z5 Z6 Z3 ⟨zfd N, ⟨zzf N, ⟨zzm N, ⟨zx5 N, ⟨zx4 N, ⟨ztf N, ⟨zte N, trivial⟩⟩⟩⟩⟩⟩⟩
def yso (_ : Nat) : Lps := fun _ => none
def y2w : Ctr := X0 (.val Y5) (.fresh Y8) [] (fun v => zvv N v)
theorem yjf : Y7 Tryz.prog 51 (fun vs => (y2w N).run vs some) :=
  Y4 (ykr N) mixed (Λ := yso N) (fn := Tryz.f51) (c := x0q) Tryz.func51 (by kernel_rfl) (by kernel_rfl) (Y2 (l := []) (by kernel_rfl) Y3) (by kernel_rfl) (by intro v; kernel_rfl)
def zg8 : Code := match Tryz.f47.body with | some c => c | none => .skip
def zea : List (Nat × Ctr) := [(48, zhz N), (50, y8k N), (49, J7 N), (51, y2w N)]
def zed : Env := Y9 tyRows eqRows Z9 [] [] (zea N)
theorem zci : EnvOk Tryz.prog (zed N) := Y0 Z5 Z6 Z3 ⟨zik N, ⟨ynu N, ⟨z1l N, ⟨yjf N, trivial⟩⟩⟩⟩
def zec (_ : Nat) : Lps := fun _ => none
def z5i : Ctr := X0 (.cons (.val Y5) (.bx (.clo 44 (.bx (.cons .str .str) 0)) 0)) .bool [] (fun v => z8i N v.1 v.2.1 v.2.2)
theorem zc9 : Y7 Tryz.prog 47 (fun vs => (z5i N).run vs some) :=
  Y4 (zci N) mixed (Λ := zec N) (fn := Tryz.f47) (c := zg8) Tryz.func47 (by kernel_rfl) (by kernel_rfl) (Y2 (l := []) (by kernel_rfl) Y3) (by kernel_rfl) (by intro v; kernel_rfl)
def X4 : Code := match Tryz.f92.body with | some c => c | none => .skip
def z0n : List (Nat × Ctr) := [(47, z5i N)]
def z0p : Env := Y9 tyRows eqRows Z9 [] [] (z0n N)
theorem Q2 : EnvOk Tryz.prog (z0p N) := Y0 Z5 Z6 Z3 ⟨zc9 N, trivial⟩
def z0d : Cut := { tms := [0, 1, 7, 8], sh := (.cons (.list Y5) (.cons (.clo 47 (.bx (.clo 44 (.bx Sz8 0)) 0)) Sz1)), objs := [], sts := [] }
def j8 : Cut := { tms := [4], sh := (.int .i64), objs := [], sts := [] }
def j7 : Cut := { tms := [], sh := .nil, objs := [], sts := [] }
def W8 : Lp := lpOf z0d (1, j8) [(2, j7)] (fun v => Q9 N N v.1.1 v.1.2.1.1 v.1.2.1.2 v.1.2.2.1 v.1.2.2.2)
def z0a (_ : Nat) : Lps := fun _ => none
theorem z06 (ro : Option Nat) : LpOk Tryz.prog 19 ro (W8 N) (Z8 X4 [true, false, true, false]) := by
  rw [show (Z8 X4 [true, false, true, false]) = .loop (Z8 X4 [true, false, true, false, false]) by kernel_rfl]
  exact W6 (Q2 N) mixed (Λ := z0a N) (p := 52) (Y2 (l := []) (by kernel_rfl) Y3) (by kernel_rfl) (by intro rec v; kernel_rfl) N
def z0o : Lps := fun p => bif Nat.beq p 26 then some (W8 N) else none
def Q7 : Ctr := X0 (.cons (.list Y5) (.clo 47 (.bx (.clo 44 (.bx (.cons .str .str) 0)) 0))) (.int .i64) [] (fun v => K6 N v.1 v.2.1 v.2.2)
theorem z0g : Y7 Tryz.prog 92 (fun vs => (Q7 N).run vs some) :=
  Y4 (Q2 N) mixed (Λ := z0o N) (fn := Tryz.f92) (c := X4) Tryz.func92 (by kernel_rfl) (by kernel_rfl) (Y2 (l := [(W8 N, (Z8 X4 [true, false, true, false]))]) (by kernel_rfl) (X3 (z06 N none) Y3)) (by kernel_rfl) (by intro v; kernel_rfl)
def z0l : Code := match Tryz.f46.body with | some c => c | none => .skip
def z09 : List (Nat × Ctr) := [(92, Q7 N)]
def z0c : Env := Y9 tyRows eqRows Z9 [] [] (z09 N)
theorem z01 : EnvOk Tryz.prog (z0c N) := Y0 Z5 Z6 Z3 ⟨z0g N, trivial⟩
def z0b (_ : Nat) : Lps := fun _ => none
def Q0 : Ctr := X0 (.cons (.list Y5) (.clo 47 (.bx (.clo 44 (.bx (.cons .str .str) 0)) 0))) .bool [] (fun v => K0 N v.1 v.2.1 v.2.2)
theorem g9 : Y7 Tryz.prog 46 (fun vs => (Q0 N).run vs some) :=
  Y4 (z01 N) mixed (Λ := z0b N) (fn := Tryz.f46) (c := z0l) Tryz.func46 (by kernel_rfl) (by kernel_rfl) (Y2 (l := []) (by kernel_rfl) Y3) (by kernel_rfl) (by intro v; kernel_rfl)
def z1w : Code := match Tryz.f14.body with | some c => c | none => .skip
def yrl : List (Nat × Ctr) := [(41, zw1 N), (42, J8 N), (43, zoo N), (46, Q0 N)]
def yth : Env := Y9 tyRows eqRows Z9 [] [] (yrl N)
theorem zbd : EnvOk Tryz.prog (yth N) := Y0 Z5 Z6 Z3 ⟨ydr N, ⟨z1m N, ⟨y3q N, ⟨g9 N, trivial⟩⟩⟩⟩
def ygo : Cut := { tms := [2, 3, 90, 91, 92], sh := (.cons (.ptr 2000000 0) (.cons (.ptr 2000001 0) (.cons (.list (.int .i64)) Sz1))), objs := [(2000000, [2], .box Sz0), (2000001, [3], .box Sz8)], sts := [] }
def y1o : Cut := { tms := [4], sh := .bool, objs := [], sts := [] }
def y1n : Cut := { tms := [2, 3], sh := Sz9, objs := [(2000000, [2], .box Sz0), (2000001, [3], .box Sz8)], sts := [] }
def zgx : Lp := lpOf ygo (1, y1o) [(4, y1n)] (fun v => z9k N N v.1.2.2.1 v.1.2.2.2.1 v.1.2.2.2.2 v.2.1.1 v.2.1.2.1 v.2.1.2.2.1 v.2.1.2.2.2.1 v.2.1.2.2.2.2 v.2.2.1.1 v.2.2.1.2)
def yev (_ : Nat) : Lps := fun _ => none
theorem yac (ro : Option Nat) : LpOk Tryz.prog 119 ro (zgx N) (Z8 z1w [true, true, true, true, true, false, true, false]) := by
  rw [show (Z8 z1w [true, true, true, true, true, false, true, false]) = .loop (Z8 z1w [true, true, true, true, true, false, true, false, false]) by kernel_rfl]
  exact W6 (zbd N) mixed (Λ := yev N) (p := 1012) (Y2 (l := []) (by kernel_rfl) Y3) (by kernel_rfl) (by intro rec v; kernel_rfl) N
def ygp : Cut := { tms := [2, 3, 6, 67, 68, 69], sh := (.cons (.ptr 2000000 0) (.cons (.ptr 2000001 0) (.cons .str (.cons (.list .str) Sz1)))), objs := [(2000000, [2], .box Sz0), (2000001, [3], .box Sz8)], sts := [] }
def y1q : Cut := { tms := [4], sh := .bool, objs := [], sts := [] }
def y1p : Cut := { tms := [2, 3], sh := Sz9, objs := [(2000000, [2], .box Sz0), (2000001, [3], .box Sz8)], sts := [] }
def zgy : Lp := lpOf ygp (1, y1q) [(2, y1p)] (fun v => y7m N N v.1.2.2.1 v.1.2.2.2.1 v.1.2.2.2.2.1 v.1.2.2.2.2.2 v.2.1.1 v.2.1.2.1 v.2.1.2.2.1 v.2.1.2.2.2.1 v.2.1.2.2.2.2 v.2.2.1.1 v.2.2.1.2)
def yew (_ : Nat) : Lps := fun _ => none
theorem yad (ro : Option Nat) : LpOk Tryz.prog 119 ro (zgy N) (Z8 z1w [true, true, true, true, false, true, false]) := by
  rw [show (Z8 z1w [true, true, true, true, false, true, false]) = .loop (Z8 z1w [true, true, true, true, false, true, false, false]) by kernel_rfl]
  exact W6 (zbd N) mixed (Λ := yew N) (p := 500) (Y2 (l := []) (by kernel_rfl) Y3) (by kernel_rfl) (by intro rec v; kernel_rfl) N
def ygn : Cut := { tms := [2, 3], sh := Sz9, objs := [(2000000, [2], .box Sz0), (2000001, [3], .box Sz8)], sts := [] }
def y1m : Cut := { tms := [4], sh := .bool, objs := [], sts := [] }
def zgw : Lp := lpOf ygn (1, y1m) [] (fun v => y7l N v.2.1.1 v.2.1.2.1 v.2.1.2.2.1 v.2.1.2.2.2.1 v.2.1.2.2.2.2 v.2.2.1.1 v.2.2.1.2)
def yeu : Lps := fun p => bif Nat.beq p 250 then some (zgy N) else bif Nat.beq p 506 then some (zgx N) else none
theorem yab (ro : Option Nat) : LpOk Tryz.prog 119 ro (zgw N) (Z8 z1w [true, true, true]) :=
  z0m (zbd N) mixed (Λ := yeu N) (p := 15) (Y2 (l := [(zgy N, (Z8 z1w [true, true, true, true, false, true, false])), (zgx N, (Z8 z1w [true, true, true, true, true, false, true, false]))]) (by kernel_rfl) (X3 (yad N ro) (X3 (yac N ro) Y3))) (by kernel_rfl) (by intro v; kernel_rfl)
def ysj : Lps := fun p => bif Nat.beq p 15 then some (zgw N) else none
def zmq : Ctr := X0 (.cons (.val z5f) (.val Y8)) .bool [] (fun v => zba N v.1 v.2)
theorem zs9 : Y7 Tryz.prog 14 (fun vs => (zmq N).run vs some) :=
  Y4 (zbd N) mixed (Λ := ysj N) (fn := Tryz.f14) (c := z1w) Tryz.func14 (by kernel_rfl) (by kernel_rfl) (Y2 (l := [(zgw N, (Z8 z1w [true, true, true]))]) (by kernel_rfl) (X3 (yab N none) Y3)) (by kernel_rfl) (by intro v; kernel_rfl)
def z9b : Code := match Tryz.f57.body with | some c => c | none => .skip
def yde (_ : Nat) : List (Nat × Ctr) := []
def yfu : Env := Y9 tyRows eqRows Z9 [] [] (yde N)
theorem zjg : EnvOk Tryz.prog (yfu N) := Y0 Z5 Z6 Z3 trivial
def y1k : Cut := { tms := [0, 1, 7], sh := (.cons (.own 2000000) Sz1), objs := [(2000000, [0], .sl (.int .u8))], sts := [] }
def zry : Cut := { tms := [0], sh := (.own 2000000), objs := [(2000000, [0], .sl (.int .u8))], sts := [] }
def zc0 : Lp := lpOf y1k (2, zry) [] (fun v => zsc N N v.1.2.1 v.1.2.2 v.2.1)
def y03 (_ : Nat) : Lps := fun _ => none
theorem zxb (ro : Option Nat) : LpOk Tryz.prog 23 ro (zc0 N) (Z8 z9b [true, false, true, false]) := by
  rw [show (Z8 z9b [true, false, true, false]) = .loop (Z8 z9b [true, false, true, false, false]) by kernel_rfl]
  exact W6 (zjg N) mixed (Λ := y03 N) (p := 52) (Y2 (l := []) (by kernel_rfl) Y3) (by kernel_rfl) (by intro rec v; kernel_rfl) N
def yet : Lps := fun p => bif Nat.beq p 26 then some (zc0 N) else none
def y1l : Cut := { tms := [0, 1, 2], sh := (.cons (.own 5000000) Sz1), objs := [(5000000, [0], .sl (.int .u8))], sts := [] }
def zui : Cut := { tms := [0], sh := (.own 2000000), objs := [(2000000, [0], .sl (.int .u8))], sts := [] }
def zf4 : CtrM := ctrM y1l zui [] (fun v => z4y N v.1.2.1 v.1.2.2 v.2.1)
theorem zj5 : z03 Tryz.prog 57 (zf4 N) :=
  U4 (zjg N) mixed (Λ := yet N) (fn := Tryz.f57) (c := z9b) Tryz.func57 (by kernel_rfl) (by kernel_rfl) (Y2 (l := [(zc0 N, (Z8 z9b [true, false, true, false]))]) (by kernel_rfl) (X3 (zxb N none) Y3)) (by kernel_rfl) (by intro v; kernel_rfl)
def yy9 : Code := match Tryz.f58.body with | some c => c | none => .skip
def yni (_ : Nat) : List (Nat × Ctr) := []
def yii : List (Nat × CtrM) := [(57, zf4 N)]
def ypv : Env := Y9 tyRows eqRows Z9 [] [8] (yni N) (yii N)
theorem yfr : EnvOk Tryz.prog (ypv N) := Y0 Z5 Z6 Z3 trivial ⟨zj5 N, trivial⟩
def yoo (_ : Nat) : Lps := fun _ => none
def ycg : Cut := { tms := [0, 1], sh := (.cons (.own 5000000) .str), objs := [(5000000, [0], .sl (.int .u8))], sts := [] }
def y1j : Cut := { tms := [0], sh := (.own 2000000), objs := [(2000000, [0], .sl (.int .u8))], sts := [] }
def zwf : CtrM := ctrM ycg y1j [] (fun v => zqa N v.1.2 v.2.1)
theorem ye5 : z03 Tryz.prog 58 (zwf N) :=
  U4 (yfr N) mixed (Λ := yoo N) (fn := Tryz.f58) (c := yy9) Tryz.func58 (by kernel_rfl) (by kernel_rfl) (Y2 (l := []) (by kernel_rfl) Y3) (by kernel_rfl) (by intro v; kernel_rfl)
def z2y : Code := match Tryz.f184.body with | some c => c | none => .skip
def zr4 (_ : Nat) : List (Nat × Ctr) := []
def zrt : Env := Y9 tyRows eqRows Z9 [] [] (zr4 N)
theorem zbe : EnvOk Tryz.prog (zrt N) := Y0 Z5 Z6 Z3 trivial
def zl9 : Cut := { tms := [0, 1, 6], sh := (.cons (.ptr 5000000 0) Sz1), objs := [(5000000, [5000000], .box (.own 2000001)), (2000001, [5000000, 0], .sl (.int .u8))], sts := [] }
def zhe : Cut := { tms := [], sh := .nil, objs := [(5000000, [5000000], .box (.own 2000001)), (2000001, [5000000, 0], .sl (.int .u8))], sts := [] }
def z5a : Lp := lpOf zl9 (2, zhe) [] (fun v => zei N N v.1.2.1 v.1.2.2 v.2.2.1)
def zl0 (_ : Nat) : Lps := fun _ => none
theorem zk4 (ro : Option Nat) : LpOk Tryz.prog 27 ro (z5a N) (Z8 z2y [true, false]) := by
  rw [show (Z8 z2y [true, false]) = .loop (Z8 z2y [true, false, false]) by kernel_rfl]
  exact W6 (zbe N) mixed (Λ := zl0 N) (p := 12) (Y2 (l := []) (by kernel_rfl) Y3) (by kernel_rfl) (by intro rec v; kernel_rfl) N
def zrg : Lps := fun p => bif Nat.beq p 6 then some (z5a N) else none
def zla : Cut := { tms := [0, 1, 2], sh := (.cons (.ptr 5000000 0) Sz1), objs := [(5000000, [0], .box (.own 5000001)), (5000001, [0, 0], .sl (.int .u8))], sts := [] }
def zif : Cut := { tms := [0], sh := (.tup .nil), objs := [(5000000, [5000000], .box (.own 2000001)), (2000001, [5000000, 0], .sl (.int .u8))], sts := [] }
def z49 : CtrM := ctrM zla zif [] (fun v => z6s N v.1.2.1 v.1.2.2 v.2.2.1)
theorem z59 : z03 Tryz.prog 184 (z49 N) :=
  U4 (zbe N) mixed (Λ := zrg N) (fn := Tryz.f184) (c := z2y) Tryz.func184 (by kernel_rfl) (by kernel_rfl) (Y2 (l := [(z5a N, (Z8 z2y [true, false]))]) (by kernel_rfl) (X3 (zk4 N none) Y3)) (by kernel_rfl) (by intro v; kernel_rfl)
def y6n : Code := match Tryz.f175.body with | some c => c | none => .skip
def zws (_ : Nat) : List (Nat × Ctr) := []
def zt2 : List (Nat × CtrM) := [(184, z49 N)]
def zy9 : Env := Y9 tyRows eqRows Z9 [] [7] (zws N) (zt2 N)
theorem zrn : EnvOk Tryz.prog (zy9 N) := Y0 Z5 Z6 Z3 trivial ⟨z59 N, trivial⟩
def zxj (_ : Nat) : Lps := fun _ => none
def zpr : Cut := { tms := [0, 1], sh := (.cons (.ptr 5000000 0) .str), objs := [(5000000, [0], .box (.own 5000001)), (5000001, [0, 0], .sl (.int .u8))], sts := [] }
def zl8 : Cut := { tms := [0], sh := (.tup .nil), objs := [(5000000, [5000000], .box (.own 2000001)), (2000001, [5000000, 0], .sl (.int .u8))], sts := [] }
def z2x : CtrM := ctrM zpr zl8 [] (fun v => z0q N v.1.2 v.2.2.1)
theorem z45 : z03 Tryz.prog 175 (z2x N) :=
  U4 (zrn N) mixed (Λ := zxj N) (fn := Tryz.f175) (c := y6n) Tryz.func175 (by kernel_rfl) (by kernel_rfl) (Y2 (l := []) (by kernel_rfl) Y3) (by kernel_rfl) (by intro v; kernel_rfl)
def yh5 : Code := match Tryz.f180.body with | some c => c | none => .skip
def y3j (_ : Nat) : List (Nat × Ctr) := []
def zz2 : List (Nat × CtrM) := [(175, z2x N), (184, z49 N)]
def y5w : Env := Y9 tyRows eqRows Z9 [] [7, 11, 15] (y3j N) (zz2 N)
theorem zxw : EnvOk Tryz.prog (y5w N) := Y0 Z5 Z6 Z3 trivial ⟨z45 N, ⟨z59 N, trivial⟩⟩
def y50 (_ : Nat) : Lps := fun _ => none
def zun : Cut := { tms := [0, 1], sh := Sz18, objs := [(5000000, [1], .box (.own 5000001)), (5000001, [1, 0], .sl (.int .u8))], sts := [] }
def zpv : Cut := { tms := [0], sh := (.tup .nil), objs := [(5000000, [5000000], .box (.own 2000001)), (2000001, [5000000, 0], .sl (.int .u8))], sts := [] }
def zjp : CtrM := ctrM zun zpv [] (fun v => zvs N v.1.1 v.2.2.1)
theorem zx3 : z03 Tryz.prog 180 (zjp N) :=
  U4 (zxw N) mixed (Λ := y50 N) (fn := Tryz.f180) (c := yh5) Tryz.func180 (by kernel_rfl) (by kernel_rfl) (Y2 (l := []) (by kernel_rfl) Y3) (by kernel_rfl) (by intro v; kernel_rfl)
def yh8 : Code := match Tryz.f202.body with | some c => c | none => .skip
def y3m (_ : Nat) : List (Nat × Ctr) := []
def zz3 : List (Nat × CtrM) := [(175, z2x N)]
def y5z : Env := Y9 tyRows eqRows Z9 [] [7] (y3m N) (zz3 N)
theorem zxz : EnvOk Tryz.prog (y5z N) := Y0 Z5 Z6 Z3 trivial ⟨z45 N, trivial⟩
def y53 (_ : Nat) : Lps := fun _ => none
def zuo : Cut := { tms := [0, 1], sh := Sz18, objs := [(5000000, [1], .box (.own 5000001)), (5000001, [1, 0], .sl (.int .u8))], sts := [] }
def zpw : Cut := { tms := [0], sh := (.tup .nil), objs := [(5000000, [5000000], .box (.own 2000001)), (2000001, [5000000, 0], .sl (.int .u8))], sts := [] }
def zjs : CtrM := ctrM zuo zpw [] (fun v => zvt N v.1.1 v.2.2.1)
theorem zx6 : z03 Tryz.prog 202 (zjs N) :=
  U4 (zxz N) mixed (Λ := y53 N) (fn := Tryz.f202) (c := yh8) Tryz.func202 (by kernel_rfl) (by kernel_rfl) (Y2 (l := []) (by kernel_rfl) Y3) (by kernel_rfl) (by intro v; kernel_rfl)
def ycu : Code := match Tryz.f213.body with | some c => c | none => .skip
def zz8 (_ : Nat) : List (Nat × Ctr) := []
def zwl : List (Nat × CtrM) := [(175, z2x N)]
def y0r : Env := Y9 tyRows eqRows Z9 [] [8, 13] (zz8 N) (zwl N)
theorem zu1 : EnvOk Tryz.prog (y0r N) := Y0 Z5 Z6 Z3 trivial ⟨z45 N, trivial⟩
def y06 (_ : Nat) : Lps := fun _ => none
def zs0 : Cut := { tms := [0, 1], sh := Sz18, objs := [(5000000, [1], .box (.own 5000001)), (5000001, [1, 0], .sl (.int .u8))], sts := [] }
def znw : Cut := { tms := [0], sh := (.tup .nil), objs := [(5000000, [5000000], .box (.own 2000001)), (2000001, [5000000, 0], .sl (.int .u8))], sts := [] }
def zac : CtrM := ctrM zs0 znw [] (fun v => zge N v.1.1 v.2.2.1)
theorem zeg : z03 Tryz.prog 213 (zac N) :=
  U4 (zu1 N) mixed (Λ := y06 N) (fn := Tryz.f213) (c := ycu) Tryz.func213 (by kernel_rfl) (by kernel_rfl) (Y2 (l := []) (by kernel_rfl) Y3) (by kernel_rfl) (by intro v; kernel_rfl)
def yct : Code := match Tryz.f220.body with | some c => c | none => .skip
def zz7 (_ : Nat) : List (Nat × Ctr) := []
def zwk : List (Nat × CtrM) := [(175, z2x N)]
def y0q : Env := Y9 tyRows eqRows Z9 [] [7, 11] (zz7 N) (zwk N)
theorem zu0 : EnvOk Tryz.prog (y0q N) := Y0 Z5 Z6 Z3 trivial ⟨z45 N, trivial⟩
def y05 (_ : Nat) : Lps := fun _ => none
def zrz : Cut := { tms := [0, 1], sh := Sz18, objs := [(5000000, [1], .box (.own 5000001)), (5000001, [1, 0], .sl (.int .u8))], sts := [] }
def znv : Cut := { tms := [0], sh := (.tup .nil), objs := [(5000000, [5000000], .box (.own 2000001)), (2000001, [5000000, 0], .sl (.int .u8))], sts := [] }
def zab : CtrM := ctrM zrz znv [] (fun v => zgd N v.1.1 v.2.2.1)
theorem zef : z03 Tryz.prog 220 (zab N) :=
  U4 (zu0 N) mixed (Λ := y05 N) (fn := Tryz.f220) (c := yct) Tryz.func220 (by kernel_rfl) (by kernel_rfl) (Y2 (l := []) (by kernel_rfl) Y3) (by kernel_rfl) (by intro v; kernel_rfl)
def y6r : Code := match Tryz.f233.body with | some c => c | none => .skip
def zww (_ : Nat) : List (Nat × Ctr) := []
def zt5 : List (Nat × CtrM) := [(220, zab N)]
def zyd : Env := Y9 tyRows eqRows Z9 [] [6] (zww N) (zt5 N)
theorem zrr : EnvOk Tryz.prog (zyd N) := Y0 Z5 Z6 Z3 trivial ⟨zef N, trivial⟩
def zxn (_ : Nat) : Lps := fun _ => none
def zpx : Cut := { tms := [0, 1], sh := Sz18, objs := [(5000000, [1], .box (.own 5000001)), (5000001, [1, 0], .sl (.int .u8))], sts := [] }
def zlg : Cut := { tms := [0], sh := (.tup .nil), objs := [(5000000, [5000000], .box (.own 2000001)), (2000001, [5000000, 0], .sl (.int .u8))], sts := [] }
def zg1 : CtrM := ctrM zpx zlg [] (fun v => zoe N v.1.1 v.2.2.1)
theorem zrd : z03 Tryz.prog 233 (zg1 N) :=
  U4 (zrr N) mixed (Λ := zxn N) (fn := Tryz.f233) (c := y6r) Tryz.func233 (by kernel_rfl) (by kernel_rfl) (Y2 (l := []) (by kernel_rfl) Y3) (by kernel_rfl) (by intro v; kernel_rfl)
def y6o : Code := match Tryz.f239.body with | some c => c | none => .skip
def zwt (_ : Nat) : List (Nat × Ctr) := []
def zt3 : List (Nat × CtrM) := [(213, zac N), (184, z49 N)]
def zya : Env := Y9 tyRows eqRows Z9 [] [6, 10] (zwt N) (zt3 N)
theorem zro : EnvOk Tryz.prog (zya N) := Y0 Z5 Z6 Z3 trivial ⟨zeg N, ⟨z59 N, trivial⟩⟩
def zxk (_ : Nat) : Lps := fun _ => none
def zps : Cut := { tms := [0, 1], sh := Sz18, objs := [(5000000, [1], .box (.own 5000001)), (5000001, [1, 0], .sl (.int .u8))], sts := [] }
def zlb : Cut := { tms := [0], sh := (.tup .nil), objs := [(5000000, [5000000], .box (.own 2000001)), (2000001, [5000000, 0], .sl (.int .u8))], sts := [] }
def zfz : CtrM := ctrM zps zlb [] (fun v => zoc N v.1.1 v.2.2.1)
theorem zrb : z03 Tryz.prog 239 (zfz N) :=
  U4 (zro N) mixed (Λ := zxk N) (fn := Tryz.f239) (c := y6o) Tryz.func239 (by kernel_rfl) (by kernel_rfl) (Y2 (l := []) (by kernel_rfl) Y3) (by kernel_rfl) (by intro v; kernel_rfl)
def x3f : Code := match Tryz.f59.body with | some c => c | none => .skip
def ywk : List (Nat × Ctr) := [(48, zhz N), (93, zhx N)]
def yqy : List (Nat × CtrM) := [(180, zjp N), (202, zjs N), (213, zac N), (220, zab N), (233, zg1 N), (239, zfz N)]
def yxs : Env := Y9 tyRows eqRows Z9 [] [16] (ywk N) (yqy N)
theorem ypa : EnvOk Tryz.prog (yxs N) := Y0 Z5 Z6 Z3 ⟨zik N, ⟨zfd N, trivial⟩⟩ ⟨zx3 N, ⟨zx6 N, ⟨zeg N, ⟨zef N, ⟨zrd N, ⟨zrb N, trivial⟩⟩⟩⟩⟩⟩
def yx7 (_ : Nat) : Lps := fun _ => none
def y8m : Ctr := X0 (.val Y5) (.fresh (.int .u8)) [] (fun v => yyv N v)
theorem ynw : Y7 Tryz.prog 59 (fun vs => (y8m N).run vs some) :=
  Y4 (ypa N) mixed (Λ := yx7 N) (fn := Tryz.f59) (c := x3f) Tryz.func59 (by kernel_rfl) (by kernel_rfl) (Y2 (l := []) (by kernel_rfl) Y3) (by kernel_rfl) (by intro v; kernel_rfl)
def V1 : Code := match Tryz.f16.body with | some c => c | none => .skip
def yrp : List (Nat × Ctr) := [(14, zmq N), (59, y8m N)]
def ymy : List (Nat × CtrM) := [(57, zf4 N), (58, zwf N)]
def ytl : Env := Y9 tyRows eqRows Z9 [] [29, 40, 43, 46, 53, 63, 74, 103, 110] (yrp N) (ymy N)
theorem z3a : EnvOk Tryz.prog (ytl N) := Y0 Z5 Z6 Z3 ⟨zs9 N, ⟨ynw N, trivial⟩⟩ ⟨zj5 N, ⟨ye5 N, trivial⟩⟩
def ygs : Cut := { tms := [1, 6, 77, 78, 79, 95, 96, 97], sh := (.cons (.ptr 2000000 0) (.cons (.own 2000001) (.cons (.list V6) (.cons (.int .i64) (.cons (.int .i64) (.cons (.own 2000002) Sz1)))))), objs := [(2000000, [1], .box Sz0), (2000001, [6], .sl (.int .u8)), (2000002, [95], .sl (.int .i64))], sts := [] }
def y1v : Cut := { tms := [1, 6, 77, 78, 79], sh := (.cons (.ptr 2000000 0) (.cons (.own 2000001) (.cons (.list V6) Sz1))), objs := [(2000000, [1], .box Sz0), (2000001, [6], .sl (.int .u8))], sts := [] }
def zh1 : Lp := lpOf ygs (10, y1v) [] (fun v => y7q N N v.1.2.2.1 v.1.2.2.2.1 v.1.2.2.2.2.1 v.1.2.2.2.2.2.2.1 v.1.2.2.2.2.2.2.2 v.2.1.1 v.2.1.2.1 v.2.1.2.2.1 v.2.1.2.2.2.1 v.2.1.2.2.2.2 v.2.2.1 v.2.2.2.1)
def yf3 (_ : Nat) : Lps := fun _ => none
theorem yag (ro : Option Nat) : LpOk Tryz.prog 124 ro (zh1 N) (Z8 V1 [true, true, true, true, true, true, false, true, false, false, true, true, false, false, true, true, false]) := by
  rw [show (Z8 V1 [true, true, true, true, true, true, false, true, false, false, true, true, false, false, true, true, false]) = .loop (Z8 V1 [true, true, true, true, true, true, false, true, false, false, true, true, false, false, true, true, false, false]) by kernel_rfl]
  exact W6 (z3a N) mixed (Λ := yf3 N) (p := 521420) (Y2 (l := []) (by kernel_rfl) Y3) (by kernel_rfl) (by intro rec v; kernel_rfl) N
def ygt : Cut := { tms := [6, 112, 113, 114], sh := (.cons (.own 2000000) (.cons (.list Y5) Sz1)), objs := [(2000000, [6], .sl (.int .u8))], sts := [] }
def y1w : Cut := { tms := [6], sh := (.own 2000000), objs := [(2000000, [6], .sl (.int .u8))], sts := [] }
def zh2 : Lp := lpOf ygt (12, y1w) [] (fun v => y7r N N v.1.2.1 v.1.2.2.1 v.1.2.2.2 v.2.1)
def yf4 (_ : Nat) : Lps := fun _ => none
theorem yah (ro : Option Nat) : LpOk Tryz.prog 124 ro (zh2 N) (Z8 V1 [true, true, true, true, true, true, true, true, false, true, false]) := by
  rw [show (Z8 V1 [true, true, true, true, true, true, true, true, false, true, false]) = .loop (Z8 V1 [true, true, true, true, true, true, true, true, false, true, false, false]) by kernel_rfl]
  exact W6 (z3a N) mixed (Λ := yf4 N) (p := 8180) (Y2 (l := []) (by kernel_rfl) Y3) (by kernel_rfl) (by intro rec v; kernel_rfl) N
def ygu : Cut := { tms := [1, 6, 77, 78, 79], sh := (.cons (.ptr 2000000 0) (.cons (.own 2000001) (.cons (.list V6) Sz1))), objs := [(2000000, [1], .box Sz0), (2000001, [6], .sl (.int .u8))], sts := [] }
def y1x : Cut := { tms := [1, 6], sh := Sz20, objs := [(2000000, [1], .box Sz0), (2000001, [6], .sl (.int .u8))], sts := [] }
def zh3 : Lp := lpOf ygu (8, y1x) [] (fun v => y7s N N v.1.2.2.1 v.1.2.2.2.1 v.1.2.2.2.2 v.2.1.1 v.2.1.2.1 v.2.1.2.2.1 v.2.1.2.2.2.1 v.2.1.2.2.2.2 v.2.2.1)
def yf5 : Lps := fun p => bif Nat.beq p 260710 then some (zh1 N) else none
theorem yai (ro : Option Nat) : LpOk Tryz.prog 124 ro (zh3 N) (Z8 V1 [true, true, true, true, true, true, false, true, false]) := by
  rw [show (Z8 V1 [true, true, true, true, true, true, false, true, false]) = .loop (Z8 V1 [true, true, true, true, true, true, false, true, false, false]) by kernel_rfl]
  exact W6 (z3a N) mixed (Λ := yf5 N) (p := 2036) (Y2 (l := [(zh1 N, (Z8 V1 [true, true, true, true, true, true, false, true, false, false, true, true, false, false, true, true, false]))]) (by kernel_rfl) (X3 (yag N ro) Y3)) (by kernel_rfl) (by intro rec v; kernel_rfl) N
def ygv : Cut := { tms := [3, 31, 32, 33], sh := (.cons (.own 2000000) (.cons (.list Y1) Sz1)), objs := [(2000000, [3], .sl (.int .u8))], sts := [] }
def y1y : Cut := { tms := [3], sh := (.own 2000000), objs := [(2000000, [3], .sl (.int .u8))], sts := [] }
def zh4 : Lp := lpOf ygv (2, y1y) [] (fun v => y7t N N v.1.2.1 v.1.2.2.1 v.1.2.2.2 v.2.1)
def yf6 (_ : Nat) : Lps := fun _ => none
theorem yaj (ro : Option Nat) : LpOk Tryz.prog 124 ro (zh4 N) (Z8 V1 [true, true, false, true, false, true, false, true, false]) := by
  rw [show (Z8 V1 [true, true, false, true, false, true, false, true, false]) = .loop (Z8 V1 [true, true, false, true, false, true, false, true, false, false]) by kernel_rfl]
  exact W6 (z3a N) mixed (Λ := yf6 N) (p := 1876) (Y2 (l := []) (by kernel_rfl) Y3) (by kernel_rfl) (by intro rec v; kernel_rfl) N
def ygw : Cut := { tms := [1, 6, 66, 67, 68], sh := (.cons (.ptr 2000000 0) (.cons (.own 2000001) (.cons (.list .str) Sz1))), objs := [(2000000, [1], .box Sz0), (2000001, [6], .sl (.int .u8))], sts := [] }
def y1z : Cut := { tms := [1, 6], sh := Sz20, objs := [(2000000, [1], .box Sz0), (2000001, [6], .sl (.int .u8))], sts := [] }
def zh5 : Lp := lpOf ygw (6, y1z) [] (fun v => y7u N N v.1.2.2.1 v.1.2.2.2.1 v.1.2.2.2.2 v.2.1.1 v.2.1.2.1 v.2.1.2.2.1 v.2.1.2.2.2.1 v.2.1.2.2.2.2 v.2.2.1)
def yf7 (_ : Nat) : Lps := fun _ => none
theorem yak (ro : Option Nat) : LpOk Tryz.prog 124 ro (zh5 N) (Z8 V1 [true, true, true, true, true, false, true, false]) := by
  rw [show (Z8 V1 [true, true, true, true, true, false, true, false]) = .loop (Z8 V1 [true, true, true, true, true, false, true, false, false]) by kernel_rfl]
  exact W6 (z3a N) mixed (Λ := yf7 N) (p := 1012) (Y2 (l := []) (by kernel_rfl) Y3) (by kernel_rfl) (by intro rec v; kernel_rfl) N
def ygx : Cut := { tms := [1, 6, 55, 56, 57], sh := (.cons (.ptr 2000000 0) (.cons (.own 2000001) (.cons (.list (.int .i64)) Sz1))), objs := [(2000000, [1], .box Sz0), (2000001, [6], .sl (.int .u8))], sts := [] }
def y20 : Cut := { tms := [1, 6], sh := Sz20, objs := [(2000000, [1], .box Sz0), (2000001, [6], .sl (.int .u8))], sts := [] }
def zh6 : Lp := lpOf ygx (4, y20) [] (fun v => y7v N N v.1.2.2.1 v.1.2.2.2.1 v.1.2.2.2.2 v.2.1.1 v.2.1.2.1 v.2.1.2.2.1 v.2.1.2.2.2.1 v.2.1.2.2.2.2 v.2.2.1)
def yf8 (_ : Nat) : Lps := fun _ => none
theorem yal (ro : Option Nat) : LpOk Tryz.prog 124 ro (zh6 N) (Z8 V1 [true, true, true, true, false, true, false]) := by
  rw [show (Z8 V1 [true, true, true, true, false, true, false]) = .loop (Z8 V1 [true, true, true, true, false, true, false, false]) by kernel_rfl]
  exact W6 (z3a N) mixed (Λ := yf8 N) (p := 500) (Y2 (l := []) (by kernel_rfl) Y3) (by kernel_rfl) (by intro rec v; kernel_rfl) N
def ysn : Lps := fun p => bif Nat.beq p 250 then some (zh6 N) else bif Nat.beq p 506 then some (zh5 N) else bif Nat.beq p 938 then some (zh4 N) else bif Nat.beq p 1018 then some (zh3 N) else bif Nat.beq p 4090 then some (zh2 N) else none
def zmr : Ctr := X0 (.val z5f) (.fresh (.int .u8)) [] (fun v => znc N v)
theorem zsa : Y7 Tryz.prog 16 (fun vs => (zmr N).run vs some) :=
  Y4 (z3a N) mixed (Λ := ysn N) (fn := Tryz.f16) (c := V1) Tryz.func16 (by kernel_rfl) (by kernel_rfl) (Y2 (l := [(zh4 N, (Z8 V1 [true, true, false, true, false, true, false, true, false])), (zh6 N, (Z8 V1 [true, true, true, true, false, true, false])), (zh5 N, (Z8 V1 [true, true, true, true, true, false, true, false])), (zh3 N, (Z8 V1 [true, true, true, true, true, true, false, true, false])), (zh2 N, (Z8 V1 [true, true, true, true, true, true, true, true, false, true, false]))]) (by kernel_rfl) (X3 (yaj N none) (X3 (yal N none) (X3 (yak N none) (X3 (yai N none) (X3 (yah N none) Y3)))))) (by kernel_rfl) (by intro v; kernel_rfl)
def y8 : Code := match Tryz.f71.body with | some c => c | none => .skip
def zg2 (_ : Nat) : List (Nat × Ctr) := []
def zg6 : Env := Y9 tyRows eqRows Z9 [] [] (zg2 N)
theorem z5h : EnvOk Tryz.prog (zg6 N) := Y0 Z5 Z6 Z3 trivial
def zdv : Cut := { tms := [0, 1, 12, 13], sh := (.cons (.list (.int .u8)) (.cons (.list (.int .u8)) Sz1)), objs := [], sts := [] }
def zbt : Cut := { tms := [4], sh := .bool, objs := [], sts := [] }
def zbs : Cut := { tms := [], sh := .nil, objs := [], sts := [] }
def z1a : Lp := lpOf zdv (1, zbt) [(2, zbs)] (fun v => z7n N N v.1.1 v.1.2.1 v.1.2.2.1 v.1.2.2.2)
def zdu (_ : Nat) : Lps := fun _ => none
theorem zcf (ro : Option Nat) : LpOk Tryz.prog 26 ro (z1a N) (Z8 y8 [true, true, false, true, false]) := by
  rw [show (Z8 y8 [true, true, false, true, false]) = .loop (Z8 y8 [true, true, false, true, false, false]) by kernel_rfl]
  exact W6 (z5h N) mixed (Λ := zdu N) (p := 116) (Y2 (l := []) (by kernel_rfl) Y3) (by kernel_rfl) (by intro rec v; kernel_rfl) N
def zg4 : Lps := fun p => bif Nat.beq p 58 then some (z1a N) else none
def z6v : Ctr := X0 (.cons (.list (.int .u8)) (.list (.int .u8))) .bool [] (fun v => za1 N v.1 v.2)
theorem zeb : Y7 Tryz.prog 71 (fun vs => (z6v N).run vs some) :=
  Y4 (z5h N) mixed (Λ := zg4 N) (fn := Tryz.f71) (c := y8) Tryz.func71 (by kernel_rfl) (by kernel_rfl) (Y2 (l := [(z1a N, (Z8 y8 [true, true, false, true, false]))]) (by kernel_rfl) (X3 (zcf N none) Y3)) (by kernel_rfl) (by intro v; kernel_rfl)
def Q8 : Code := match Tryz.f64.body with | some c => c | none => .skip
def zag (_ : Nat) : List (Nat × Ctr) := []
def za0 : List (Nat × CtrM) := [(62, z4t N)]
def zau : Env := Y9 tyRows eqRows Z9 [] [20] (zag N) (za0 N)
theorem z33 : EnvOk Tryz.prog (zau N) := Y0 Z5 Z6 Z3 trivial ⟨z61 N, trivial⟩
def z97 : Cut := { tms := [0, 1, 2, 7], sh := (.cons (.ptr 5000000 0) (.cons (.int .i64) (.cons (.clo 62 (.tup (.ptr 5000000 0))) (.own 2000001)))), objs := [(5000000, [5000000], .box Sz2), (2000001, [7], .sl (.int .i64))], sts := [] }
def z7c : Cut := { tms := [7], sh := (.own 2000000), objs := [(2000000, [7], .sl (.int .i64)), (5000000, [5000000], .box Sz2)], sts := [] }
def u9 : Lp := lpOf z97 (2, z7c) [] (fun v => z4f N N v.1.2.1 v.2.1.1 v.2.1.2 v.2.2.1)
def z8z (_ : Nat) : Lps := fun _ => none
theorem z8d (ro : Option Nat) : LpOk Tryz.prog 24 ro (u9 N) (Z8 Q8 [true, true, false, false]) := by
  rw [show (Z8 Q8 [true, true, false, false]) = .loop (Z8 Q8 [true, true, false, false, false]) by kernel_rfl]
  exact W6 (z33 N) mixed (Λ := z8z N) (p := 56) (Y2 (l := []) (by kernel_rfl) Y3) (by kernel_rfl) (by intro rec v; kernel_rfl) N
def zap : Lps := fun p => bif Nat.beq p 28 then some (u9 N) else none
def z98 : Cut := { tms := [0, 1, 2], sh := (.cons (.ptr 5000000 0) (.cons (.int .i64) (.clo 62 (.tup (.ptr 5000000 0))))), objs := [(5000000, [0], .box Sz2)], sts := [] }
def z7u : Cut := { tms := [0], sh := (.own 2000000), objs := [(2000000, [0], .sl (.int .i64)), (5000000, [5000000], .box Sz2)], sts := [] }
def z44 : CtrM := ctrM z98 z7u [] (fun v => z56 N v.1.2.1 v.2.1.1 v.2.1.2)
theorem z9o : z03 Tryz.prog 64 (z44 N) :=
  U4 (z33 N) mixed (Λ := zap N) (fn := Tryz.f64) (c := Q8) Tryz.func64 (by kernel_rfl) (by kernel_rfl) (Y2 (l := [(u9 N, (Z8 Q8 [true, true, false, false]))]) (by kernel_rfl) (X3 (z8d N none) Y3)) (by kernel_rfl) (by intro v; kernel_rfl)
def U5 : Code := match Tryz.f65.body with | some c => c | none => .skip
def z8o (_ : Nat) : List (Nat × Ctr) := []
def z84 : List (Nat × CtrM) := [(66, z7v N)]
def z92 : Env := Y9 tyRows eqRows Z9 [] [20] (z8o N) (z84 N)
theorem z16 : EnvOk Tryz.prog (z92 N) := Y0 Z5 Z6 Z3 trivial ⟨zc6 N, trivial⟩
def z7a : Cut := { tms := [0, 1, 2, 7], sh := (.cons (.ptr 5000000 0) (.cons (.int .i64) (.cons (.clo 66 (.tup (.ptr 5000000 0))) (.own 2000001)))), objs := [(5000000, [5000000], .box Sz2), (2000001, [7], .sl .str)], sts := [] }
def z5w : Cut := { tms := [7], sh := (.own 2000000), objs := [(2000000, [7], .sl .str), (5000000, [5000000], .box Sz2)], sts := [] }
def G5 : Lp := lpOf z7a (2, z5w) [] (fun v => z30 N N v.1.2.1 v.2.1.1 v.2.1.2 v.2.2.1)
def z74 (_ : Nat) : Lps := fun _ => none
theorem z6h (ro : Option Nat) : LpOk Tryz.prog 24 ro (G5 N) (Z8 U5 [true, true, false, false]) := by
  rw [show (Z8 U5 [true, true, false, false]) = .loop (Z8 U5 [true, true, false, false, false]) by kernel_rfl]
  exact W6 (z16 N) mixed (Λ := z74 N) (p := 56) (Y2 (l := []) (by kernel_rfl) Y3) (by kernel_rfl) (by intro rec v; kernel_rfl) N
def z8y : Lps := fun p => bif Nat.beq p 28 then some (G5 N) else none
def z7b : Cut := { tms := [0, 1, 2], sh := (.cons (.ptr 5000000 0) (.cons (.int .i64) (.clo 66 (.tup (.ptr 5000000 0))))), objs := [(5000000, [0], .box Sz2)], sts := [] }
def z66 : Cut := { tms := [0], sh := (.own 2000000), objs := [(2000000, [0], .sl .str), (5000000, [5000000], .box Sz2)], sts := [] }
def z2f : CtrM := ctrM z7b z66 [] (fun v => z4e N v.1.2.1 v.2.1.1 v.2.1.2)
theorem z7p : z03 Tryz.prog 65 (z2f N) :=
  U4 (z16 N) mixed (Λ := z8y N) (fn := Tryz.f65) (c := U5) Tryz.func65 (by kernel_rfl) (by kernel_rfl) (Y2 (l := [(G5 N, (Z8 U5 [true, true, false, false]))]) (by kernel_rfl) (X3 (z6h N none) Y3)) (by kernel_rfl) (by intro v; kernel_rfl)
def zyy : Code := match Tryz.f114.body with | some c => c | none => .skip
def zr3 (_ : Nat) : List (Nat × Ctr) := []
def zp1 : List (Nat × CtrM) := [(60, z0t N)]
def zrs : Env := Y9 tyRows eqRows Z9 [] [4] (zr3 N) (zp1 N)
theorem znk : EnvOk Tryz.prog (zrs N) := Y0 Z5 Z6 Z3 trivial ⟨z1b N, trivial⟩
def zrf (_ : Nat) : Lps := fun _ => none
def zl7 : Cut := { tms := [0], sh := (.ptr 5000000 0), objs := [(5000000, [0], .box Sz2)], sts := [] }
def zie : Cut := { tms := [0], sh := (.int .i64), objs := [(5000000, [5000000], .box Sz2)], sts := [] }
def zdt : CtrM := ctrM zl7 zie [] (fun v => zby N v.2.1.1 v.2.1.2)
theorem zn3 : z03 Tryz.prog 114 (zdt N) :=
  U4 (znk N) mixed (Λ := zrf N) (fn := Tryz.f114) (c := zyy) Tryz.func114 (by kernel_rfl) (by kernel_rfl) (Y2 (l := []) (by kernel_rfl) Y3) (by kernel_rfl) (by intro v; kernel_rfl)
def zuu : Code := match Tryz.f100.body with | some c => c | none => .skip
def zp4 (_ : Nat) : List (Nat × Ctr) := []
def zmz : List (Nat × CtrM) := [(114, zdt N)]
def zpi : Env := Y9 tyRows eqRows Z9 [] [4, 6] (zp4 N) (zmz N)
theorem zl2 : EnvOk Tryz.prog (zpi N) := Y0 Z5 Z6 Z3 trivial ⟨zn3 N, trivial⟩
def zpa (_ : Nat) : Lps := fun _ => none
def zkg : Cut := { tms := [0], sh := (.ptr 5000000 0), objs := [(5000000, [0], .box Sz2)], sts := [] }
def zhd : Cut := { tms := [0], sh := (.agg Sz1), objs := [(5000000, [5000000], .box Sz2)], sts := [] }
def zc7 : CtrM := ctrM zkg zhd [] (fun v => za5 N v.2.1.1 v.2.1.2)
theorem zky : z03 Tryz.prog 100 (zc7 N) :=
  U4 (zl2 N) mixed (Λ := zpa N) (fn := Tryz.f100) (c := zuu) Tryz.func100 (by kernel_rfl) (by kernel_rfl) (Y2 (l := []) (by kernel_rfl) Y3) (by kernel_rfl) (by intro v; kernel_rfl)
def y6l : Code := match Tryz.f68.body with | some c => c | none => .skip
def zwq (_ : Nat) : List (Nat × Ctr) := []
def zt0 : List (Nat × CtrM) := [(100, zc7 N)]
def zy7 : Env := Y9 tyRows eqRows Z9 [] [4, 6] (zwq N) (zt0 N)
theorem zrl : EnvOk Tryz.prog (zy7 N) := Y0 Z5 Z6 Z3 trivial ⟨zky N, trivial⟩
def zxh (_ : Nat) : Lps := fun _ => none
def zpo : Cut := { tms := [0], sh := (.ptr 5000000 0), objs := [(5000000, [0], .box Sz2)], sts := [] }
def zl5 : Cut := { tms := [0], sh := (.agg Sz4), objs := [(5000000, [5000000], .box Sz2)], sts := [] }
def zfx : CtrM := ctrM zpo zl5 [] (fun v => zoa N v.2.1.1 v.2.1.2)
theorem zr9 : z03 Tryz.prog 68 (zfx N) :=
  U4 (zrl N) mixed (Λ := zxh N) (fn := Tryz.f68) (c := y6l) Tryz.func68 (by kernel_rfl) (by kernel_rfl) (Y2 (l := []) (by kernel_rfl) Y3) (by kernel_rfl) (by intro v; kernel_rfl)
def U6 : Code := match Tryz.f67.body with | some c => c | none => .skip
def z8p (_ : Nat) : List (Nat × Ctr) := []
def z85 : List (Nat × CtrM) := [(68, zfx N)]
def z93 : Env := Y9 tyRows eqRows Z9 [] [20] (z8p N) (z85 N)
theorem z17 : EnvOk Tryz.prog (z93 N) := Y0 Z5 Z6 Z3 trivial ⟨zr9 N, trivial⟩
def z7d : Cut := { tms := [0, 1, 2, 7], sh := (.cons (.ptr 5000000 0) (.cons (.int .i64) (.cons (.clo 68 (.tup (.ptr 5000000 0))) (.own 2000001)))), objs := [(5000000, [5000000], .box Sz2), (2000001, [7], .sl V6)], sts := [] }
def z5x : Cut := { tms := [7], sh := (.own 2000000), objs := [(2000000, [7], .sl V6), (5000000, [5000000], .box Sz2)], sts := [] }
def G6 : Lp := lpOf z7d (2, z5x) [] (fun v => z31 N N v.1.2.1 v.2.1.1 v.2.1.2 v.2.2.1)
def z75 (_ : Nat) : Lps := fun _ => none
theorem z6i (ro : Option Nat) : LpOk Tryz.prog 24 ro (G6 N) (Z8 U6 [true, true, false, false]) := by
  rw [show (Z8 U6 [true, true, false, false]) = .loop (Z8 U6 [true, true, false, false, false]) by kernel_rfl]
  exact W6 (z17 N) mixed (Λ := z75 N) (p := 56) (Y2 (l := []) (by kernel_rfl) Y3) (by kernel_rfl) (by intro rec v; kernel_rfl) N
def z90 : Lps := fun p => bif Nat.beq p 28 then some (G6 N) else none
def z7e : Cut := { tms := [0, 1, 2], sh := (.cons (.ptr 5000000 0) (.cons (.int .i64) (.clo 68 (.tup (.ptr 5000000 0))))), objs := [(5000000, [0], .box Sz2)], sts := [] }
def z67 : Cut := { tms := [0], sh := (.own 2000000), objs := [(2000000, [0], .sl V6), (5000000, [5000000], .box Sz2)], sts := [] }
def z2g : CtrM := ctrM z7e z67 [] (fun v => z4g N v.1.2.1 v.2.1.1 v.2.1.2)
theorem z7q : z03 Tryz.prog 67 (z2g N) :=
  U4 (z17 N) mixed (Λ := z90 N) (fn := Tryz.f67) (c := U6) Tryz.func67 (by kernel_rfl) (by kernel_rfl) (Y2 (l := [(G6 N, (Z8 U6 [true, true, false, false]))]) (by kernel_rfl) (X3 (z6i N none) Y3)) (by kernel_rfl) (by intro v; kernel_rfl)
def y6q : Code := match Tryz.f124.body with | some c => c | none => .skip
def zwv (_ : Nat) : List (Nat × Ctr) := []
def zyc : Env := Y9 tyRows eqRows Z9 [] [] (zwv N)
theorem zrq : EnvOk Tryz.prog (zyc N) := Y0 Z5 Z6 Z3 trivial
def zxm (_ : Nat) : Lps := fun _ => none
def zpu : Cut := { tms := [0, 1], sh := (.cons (.ptr 5000000 0) (.int .i64)), objs := [(5000000, [0], .box Sz2)], sts := [] }
def zld : Cut := { tms := [0], sh := (.list (.int .u8)), objs := [(5000000, [5000000], .box Sz2)], sts := [] }
def z9f : CtrM := ctrM zpu zld [] (fun v => zer N v.1.2 v.2.1.1 v.2.1.2)
theorem zdp : z03 Tryz.prog 124 (z9f N) :=
  U4 (zrq N) mixed (Λ := zxm N) (fn := Tryz.f124) (c := y6q) Tryz.func124 (by kernel_rfl) (by kernel_rfl) (Y2 (l := []) (by kernel_rfl) Y3) (by kernel_rfl) (by intro v; kernel_rfl)
def z2z : Code := match Tryz.f115.body with | some c => c | none => .skip
def zr5 (_ : Nat) : List (Nat × Ctr) := []
def zp2 : List (Nat × CtrM) := [(124, z9f N)]
def zru : Env := Y9 tyRows eqRows Z9 [] [10] (zr5 N) (zp2 N)
theorem zbf : EnvOk Tryz.prog (zru N) := Y0 Z5 Z6 Z3 trivial ⟨zdp N, trivial⟩
def zle : Cut := { tms := [5, 10, 11, 12], sh := (.cons (.int .i64) (.cons (.list (.int .u8)) Sz1)), objs := [(5000000, [5000000], .box Sz2)], sts := [] }
def zhf : Cut := { tms := [5], sh := (.int .i64), objs := [(5000000, [5000000], .box Sz2)], sts := [] }
def z5b : Lp := lpOf zle (2, zhf) [] (fun v => zej N N v.1.1 v.1.2.1 v.1.2.2.1 v.1.2.2.2 v.2.1.1 v.2.1.2)
def zl1 (_ : Nat) : Lps := fun _ => none
theorem zk5 (ro : Option Nat) : LpOk Tryz.prog 23 ro (z5b N) (Z8 z2z [true, true, false, true, false]) := by
  rw [show (Z8 z2z [true, true, false, true, false]) = .loop (Z8 z2z [true, true, false, true, false, false]) by kernel_rfl]
  exact W6 (zbf N) mixed (Λ := zl1 N) (p := 116) (Y2 (l := []) (by kernel_rfl) Y3) (by kernel_rfl) (by intro rec v; kernel_rfl) N
def zrh : Lps := fun p => bif Nat.beq p 58 then some (z5b N) else none
def zlf : Cut := { tms := [0, 1], sh := (.cons (.ptr 5000000 0) (.int .i64)), objs := [(5000000, [0], .box Sz2)], sts := [] }
def zig : Cut := { tms := [0], sh := (.int .i64), objs := [(5000000, [5000000], .box Sz2)], sts := [] }
def z71 : CtrM := ctrM zlf zig [] (fun v => z4k N v.1.2 v.2.1.1 v.2.1.2)
theorem zb7 : z03 Tryz.prog 115 (z71 N) :=
  U4 (zbf N) mixed (Λ := zrh N) (fn := Tryz.f115) (c := z2z) Tryz.func115 (by kernel_rfl) (by kernel_rfl) (Y2 (l := [(z5b N, (Z8 z2z [true, true, false, true, false]))]) (by kernel_rfl) (X3 (zk5 N none) Y3)) (by kernel_rfl) (by intro v; kernel_rfl)
def y6p : Code := match Tryz.f116.body with | some c => c | none => .skip
def zwu (_ : Nat) : List (Nat × Ctr) := []
def zt4 : List (Nat × CtrM) := [(115, z71 N), (124, z9f N)]
def zyb : Env := Y9 tyRows eqRows Z9 [] [5, 6] (zwu N) (zt4 N)
theorem zrp : EnvOk Tryz.prog (zyb N) := Y0 Z5 Z6 Z3 trivial ⟨zb7 N, ⟨zdp N, trivial⟩⟩
def zxl (_ : Nat) : Lps := fun _ => none
def zpt : Cut := { tms := [0], sh := (.ptr 5000000 0), objs := [(5000000, [0], .box Sz2)], sts := [] }
def zlc : Cut := { tms := [0], sh := .str, objs := [(5000000, [5000000], .box Sz2)], sts := [] }
def zg0 : CtrM := ctrM zpt zlc [] (fun v => K5 N v.2.1.1 v.2.1.2)
theorem zrc : z03 Tryz.prog 116 (zg0 N) :=
  U4 (zrp N) mixed (Λ := zxl N) (fn := Tryz.f116) (c := y6p) Tryz.func116 (by kernel_rfl) (by kernel_rfl) (Y2 (l := []) (by kernel_rfl) Y3) (by kernel_rfl) (by intro v; kernel_rfl)
def y37 : Code := match Tryz.f101.body with | some c => c | none => .skip
def ywj : List (Nat × Ctr) := [(48, zhz N)]
def yqx : List (Nat × CtrM) := [(115, z71 N), (116, zg0 N)]
def yxr : Env := Y9 tyRows eqRows Z9 [] [11, 18, 21, 24, 29, 34, 38, 45, 48, 53, 57, 61] (ywj N) (yqx N)
theorem zvz : EnvOk Tryz.prog (yxr N) := Y0 Z5 Z6 Z3 ⟨zik N, trivial⟩ ⟨zb7 N, ⟨zrc N, trivial⟩⟩
def yla : Cut := { tms := [0, 2, 5, 6], sh := (.cons (.list (.int .u8)) (.cons (.ptr 2000000 0) (.cons (.ptr 2000001 0) (.ptr 2000002 0)))), objs := [(2000000, [2], .box Sz3), (2000001, [5], .box Sz2), (2000002, [6], .box Sz3)], sts := [] }
def y6e : Cut := { tms := [2, 3, 4], sh := (.cons (.ptr 2000000 0) Sz1), objs := [(2000000, [2], .box Sz3)], sts := [] }
def ziw : Lp := lpOf yla (1, y6e) [] (fun v => z62 N v.1.1 v.2.1.1 v.2.1.2.1 v.2.1.2.2.1 v.2.1.2.2.2.1 v.2.1.2.2.2.2.1 v.2.1.2.2.2.2.2.1 v.2.1.2.2.2.2.2.2.1 v.2.1.2.2.2.2.2.2.2 v.2.2.1.1 v.2.2.1.2 v.2.2.2.1.1 v.2.2.2.1.2.1 v.2.2.2.1.2.2.1 v.2.2.2.1.2.2.2.1 v.2.2.2.1.2.2.2.2.1 v.2.2.2.1.2.2.2.2.2.1 v.2.2.2.1.2.2.2.2.2.2.1 v.2.2.2.1.2.2.2.2.2.2.2)
def yk8 (_ : Nat) : Lps := fun _ => none
theorem ye9 (ro : Option Nat) : LpOk Tryz.prog 82 ro (ziw N) (Z8 y37 [true, true, true, true]) :=
  z0m (zvz N) mixed (Λ := yk8 N) (p := 31) (Y2 (l := []) (by kernel_rfl) Y3) (by kernel_rfl) (by intro v; kernel_rfl)
def yx6 : Lps := fun p => bif Nat.beq p 31 then some (ziw N) else none
def y8l : Ctr := X0 (.list (.int .u8)) (.tup (.cons (.val Y5) (.cons (.int .i64) (.int .i64)))) [] (fun v => yyu N v)
theorem ynv : Y7 Tryz.prog 101 (fun vs => (y8l N).run vs some) :=
  Y4 (zvz N) mixed (Λ := yx6 N) (fn := Tryz.f101) (c := y37) Tryz.func101 (by kernel_rfl) (by kernel_rfl) (Y2 (l := [(ziw N, (Z8 y37 [true, true, true, true]))]) (by kernel_rfl) (X3 (ye9 N none) Y3)) (by kernel_rfl) (by intro v; kernel_rfl)
def y6m : Code := match Tryz.f70.body with | some c => c | none => .skip
def zwr : List (Nat × Ctr) := [(101, y8l N)]
def zt1 : List (Nat × CtrM) := [(99, z4s N)]
def zy8 : Env := Y9 tyRows eqRows Z9 [] [22] (zwr N) (zt1 N)
theorem zrm : EnvOk Tryz.prog (zy8 N) := Y0 Z5 Z6 Z3 ⟨ynv N, trivial⟩ ⟨z60 N, trivial⟩
def zxi (_ : Nat) : Lps := fun _ => none
def zpp : Cut := { tms := [0], sh := (.ptr 5000000 0), objs := [(5000000, [0], .box Sz2)], sts := [] }
def zl6 : Cut := { tms := [0], sh := (.agg Sz3), objs := [(5000000, [5000000], .box Sz2)], sts := [] }
def zfy : CtrM := ctrM zpp zl6 [] (fun v => zob N v.2.1.1 v.2.1.2)
theorem zra : z03 Tryz.prog 70 (zfy N) :=
  U4 (zrm N) mixed (Λ := zxi N) (fn := Tryz.f70) (c := y6m) Tryz.func70 (by kernel_rfl) (by kernel_rfl) (Y2 (l := []) (by kernel_rfl) Y3) (by kernel_rfl) (by intro v; kernel_rfl)
def U7 : Code := match Tryz.f69.body with | some c => c | none => .skip
def z8q (_ : Nat) : List (Nat × Ctr) := []
def z86 : List (Nat × CtrM) := [(70, zfy N)]
def z94 : Env := Y9 tyRows eqRows Z9 [] [20] (z8q N) (z86 N)
theorem z18 : EnvOk Tryz.prog (z94 N) := Y0 Z5 Z6 Z3 trivial ⟨zra N, trivial⟩
def z7f : Cut := { tms := [0, 1, 2, 7], sh := (.cons (.ptr 5000000 0) (.cons (.int .i64) (.cons (.clo 70 (.tup (.ptr 5000000 0))) (.own 2000001)))), objs := [(5000000, [5000000], .box Sz2), (2000001, [7], .sl Y5)], sts := [] }
def z5y : Cut := { tms := [7], sh := (.own 2000000), objs := [(2000000, [7], .sl Y5), (5000000, [5000000], .box Sz2)], sts := [] }
def G7 : Lp := lpOf z7f (2, z5y) [] (fun v => z32 N N v.1.2.1 v.2.1.1 v.2.1.2 v.2.2.1)
def z76 (_ : Nat) : Lps := fun _ => none
theorem z6j (ro : Option Nat) : LpOk Tryz.prog 24 ro (G7 N) (Z8 U7 [true, true, false, false]) := by
  rw [show (Z8 U7 [true, true, false, false]) = .loop (Z8 U7 [true, true, false, false, false]) by kernel_rfl]
  exact W6 (z18 N) mixed (Λ := z76 N) (p := 56) (Y2 (l := []) (by kernel_rfl) Y3) (by kernel_rfl) (by intro rec v; kernel_rfl) N
def z91 : Lps := fun p => bif Nat.beq p 28 then some (G7 N) else none
def z7g : Cut := { tms := [0, 1, 2], sh := (.cons (.ptr 5000000 0) (.cons (.int .i64) (.clo 70 (.tup (.ptr 5000000 0))))), objs := [(5000000, [0], .box Sz2)], sts := [] }
def z6a : Cut := { tms := [0], sh := (.own 2000000), objs := [(2000000, [0], .sl Y5), (5000000, [5000000], .box Sz2)], sts := [] }
def z2h : CtrM := ctrM z7g z6a [] (fun v => z4h N v.1.2.1 v.2.1.1 v.2.1.2)
theorem z7r : z03 Tryz.prog 69 (z2h N) :=
  U4 (z18 N) mixed (Λ := z91 N) (fn := Tryz.f69) (c := U7) Tryz.func69 (by kernel_rfl) (by kernel_rfl) (Y2 (l := [(G7 N, (Z8 U7 [true, true, false, false]))]) (by kernel_rfl) (X3 (z6j N none) Y3)) (by kernel_rfl) (by intro v; kernel_rfl)
def zve : Code := match Tryz.f17.body with | some c => c | none => .skip
def yrn : List (Nat × Ctr) := [(16, zmr N), (71, z6v N)]
def ymx : List (Nat × CtrM) := [(60, z0t N), (62, z4t N), (61, z19 N), (64, z44 N), (65, z2f N), (67, z2g N), (69, z2h N)]
def ytj : Env := Y9 tyRows eqRows Z9 [(y88, [2000001, 2000002, 2000003, 2000004, 2000005])] [11, 16, 19, 24, 29, 36, 42, 46, 49] (yrn N) (ymx N)
theorem zsm : EnvOk Tryz.prog (ytj N) := Y0 Z5 Z6 Z3 ⟨zsa N, ⟨zeb N, trivial⟩⟩ ⟨z1b N, ⟨z61 N, ⟨z6d N, ⟨z9o N, ⟨z7p N, ⟨z7q N, ⟨z7r N, trivial⟩⟩⟩⟩⟩⟩⟩
def ygq : Cut := { tms := [0, 2, 4, 5], sh := (.cons (.list (.int .u8)) (.cons (.ptr 2000000 0) (.cons (.ptr 2000006 0) (.ptr 2000012 0)))), objs := [(2000000, [2], .box Sz7), (2000001, [2, 0], .sl Y1), (2000002, [2, 1], .sl .str), (2000003, [2, 2], .sl (.int .i64)), (2000004, [2, 3], .sl V6), (2000005, [2, 4], .sl Y5), (2000006, [4], .box Sz13), (2000007, [4, 0], .sl Y1), (2000008, [4, 1], .sl .str), (2000009, [4, 2], .sl (.int .i64)), (2000010, [4, 3], .sl V6), (2000011, [4, 4], .sl Y5), (2000012, [5], .box Sz2)], sts := [] }
def y1t : Cut := { tms := [2, 3], sh := Sz17, objs := [(2000000, [2], .box Sz7), (2000001, [2, 0], .sl Y1), (2000002, [2, 1], .sl .str), (2000003, [2, 2], .sl (.int .i64)), (2000004, [2, 3], .sl V6), (2000005, [2, 4], .sl Y5)], sts := [] }
def zgz : Lp := lpOf ygq (1, y1t) [] (fun v => zhr N v.1.1 v.2.2.1 v.2.2.2.1 v.2.2.2.2.1 v.2.2.2.2.2.1 v.2.2.2.2.2.2.1 v.2.2.2.2.2.2.2.2.1 v.2.2.2.2.2.2.2.2.2.1 v.2.2.2.2.2.2.2.2.2.2.1 v.2.2.2.2.2.2.2.2.2.2.2.1 v.2.2.2.2.2.2.2.2.2.2.2.2.1 v.2.2.2.2.2.2.2.2.2.2.2.2.2.1.1 v.2.2.2.2.2.2.2.2.2.2.2.2.2.1.2)
def yf1 (_ : Nat) : Lps := fun _ => none
theorem yae (ro : Option Nat) : LpOk Tryz.prog 73 ro (zgz N) (Z8 zve [true, true, true, true]) :=
  z0m (zsm N) mixed (Λ := yf1 N) (p := 31) (Y2 (l := []) (by kernel_rfl) Y3) (by kernel_rfl) (by intro v; kernel_rfl)
def ysl : Lps := fun p => bif Nat.beq p 31 then some (zgz N) else none
def y2u : Ctr := X0 (.list (.int .u8)) (.tup (.cons (.val z5f) (.int .i64))) [] (fun v => yd3 N v)
theorem yjd : Y7 Tryz.prog 17 (fun vs => (y2u N).run vs some) :=
  Y4 (zsm N) mixed (Λ := ysl N) (fn := Tryz.f17) (c := zve) Tryz.func17 (by kernel_rfl) (by kernel_rfl) (Y2 (l := [(zgz N, (Z8 zve [true, true, true, true]))]) (by kernel_rfl) (X3 (yae N none) Y3)) (by kernel_rfl) (by intro v; kernel_rfl)
def yh1 : Code := match Tryz.f19.body with | some c => c | none => .skip
def y3e (_ : Nat) : List (Nat × Ctr) := []
def y5r : Env := Y9 tyRows eqRows Z9 [] [] (y3e N)
theorem zxs : EnvOk Tryz.prog (y5r N) := Y0 Z5 Z6 Z3 trivial
def y4s (_ : Nat) : Lps := fun _ => none
def zjl : Ctr := X0 (.cons (.list (.int .u8)) (.list (.int .u8))) .bool [] (fun v => zim N v.1 v.2)
theorem zwz : Y7 Tryz.prog 19 (fun vs => (zjl N).run vs some) :=
  Y4 (zxs N) mixed (Λ := y4s N) (fn := Tryz.f19) (c := yh1) Tryz.func19 (by kernel_rfl) (by kernel_rfl) (Y2 (l := []) (by kernel_rfl) Y3) (by kernel_rfl) (by intro v; kernel_rfl)
def zfj : Code := match Tryz.f72.body with | some c => c | none => .skip
def yrb (_ : Nat) : List (Nat × Ctr) := []
def yt7 : Env := Y9 tyRows eqRows Z9 [] [] (yrb N)
theorem zsi : EnvOk Tryz.prog (yt7 N) := Y0 Z5 Z6 Z3 trivial
def ygj : Cut := { tms := [0, 1, 5], sh := (.cons (.list Y1) (.cons (.list Y1) (.int .i64))), objs := [], sts := [] }
def y1c : Cut := { tms := [4], sh := .bool, objs := [], sts := [] }
def y1b : Cut := { tms := [], sh := .nil, objs := [], sts := [] }
def zgs : Lp := lpOf ygj (1, y1c) [(2, y1b)] (fun v => y7h N N v.1.1 v.1.2.1 v.1.2.2)
def yem (_ : Nat) : Lps := fun _ => none
theorem ya7 (ro : Option Nat) : LpOk Tryz.prog 26 ro (zgs N) (Z8 zfj [true, true, false, true, false]) := by
  rw [show (Z8 zfj [true, true, false, true, false]) = .loop (Z8 zfj [true, true, false, true, false, false]) by kernel_rfl]
  exact W6 (zsi N) mixed (Λ := yem N) (p := 116) (Y2 (l := []) (by kernel_rfl) Y3) (by kernel_rfl) (by intro rec v; kernel_rfl) N
def ys9 : Lps := fun p => bif Nat.beq p 58 then some (zgs N) else none
def y2n : Ctr := X0 (.cons (.list Y1) (.list Y1)) .bool [] (fun v => yuf N v.1 v.2)
theorem yj6 : Y7 Tryz.prog 72 (fun vs => (y2n N).run vs some) :=
  Y4 (zsi N) mixed (Λ := ys9 N) (fn := Tryz.f72) (c := zfj) Tryz.func72 (by kernel_rfl) (by kernel_rfl) (Y2 (l := [(zgs N, (Z8 zfj [true, true, false, true, false]))]) (by kernel_rfl) (X3 (ya7 N none) Y3)) (by kernel_rfl) (by intro v; kernel_rfl)
def z7h : Code := match Tryz.f73.body with | some c => c | none => .skip
def y8s (_ : Nat) : List (Nat × Ctr) := []
def ybl : Env := Y9 tyRows eqRows Z9 [] [] (y8s N)
theorem zht : EnvOk Tryz.prog (ybl N) := Y0 Z5 Z6 Z3 trivial
def zyp : Cut := { tms := [0, 1, 5], sh := (.cons (.list Y5) (.cons (.list Y5) (.int .i64))), objs := [], sts := [] }
def zpl : Cut := { tms := [4], sh := .bool, objs := [], sts := [] }
def zpk : Cut := { tms := [], sh := .nil, objs := [], sts := [] }
def za6 : Lp := lpOf zyp (1, zpl) [(2, zpk)] (fun v => zo9 N N v.1.1 v.1.2.1 v.1.2.2)
def zxf (_ : Nat) : Lps := fun _ => none
theorem zto (ro : Option Nat) : LpOk Tryz.prog 26 ro (za6 N) (Z8 z7h [true, true, false, true, false]) := by
  rw [show (Z8 z7h [true, true, false, true, false]) = .loop (Z8 z7h [true, true, false, true, false, false]) by kernel_rfl]
  exact W6 (zht N) mixed (Λ := zxf N) (p := 116) (Y2 (l := []) (by kernel_rfl) Y3) (by kernel_rfl) (by intro rec v; kernel_rfl) N
def yau : Lps := fun p => bif Nat.beq p 58 then some (za6 N) else none
def zlr : Ctr := X0 (.cons (.list Y5) (.list Y5)) .bool [] (fun v => y28 N v.1 v.2)
theorem zzc : Y7 Tryz.prog 73 (fun vs => (zlr N).run vs some) :=
  Y4 (zht N) mixed (Λ := yau N) (fn := Tryz.f73) (c := z7h) Tryz.func73 (by kernel_rfl) (by kernel_rfl) (Y2 (l := [(za6 N, (Z8 z7h [true, true, false, true, false]))]) (by kernel_rfl) (X3 (zto N none) Y3)) (by kernel_rfl) (by intro v; kernel_rfl)
def J3 : Code := match Tryz.f18.body with | some c => c | none => .skip
def yr5 : List (Nat × Ctr) := [(72, y2n N), (73, zlr N)]
def yt1 : Env := Y9 tyRows eqRows Z9 [] [] (yr5 N)
theorem z50 : EnvOk Tryz.prog (yt1 N) := Y0 Z5 Z6 Z3 ⟨yj6 N, ⟨zzc N, trivial⟩⟩
def ygb : Cut := { tms := [2, 3, 7], sh := Sz11, objs := [(2000000, [2], .box Sz0), (2000001, [3], .box Sz0)], sts := [] }
def y11 : Cut := { tms := [4], sh := .bool, objs := [], sts := [] }
def y10 : Cut := { tms := [], sh := .nil, objs := [], sts := [] }
def zgk : Lp := lpOf ygb (1, y11) [(6, y10)] (fun v => y7e N N v.1.2.2 v.2.1.1 v.2.1.2.1 v.2.1.2.2.1 v.2.1.2.2.2.1 v.2.1.2.2.2.2 v.2.2.1.1 v.2.2.1.2.1 v.2.2.1.2.2.1 v.2.2.1.2.2.2.1 v.2.2.1.2.2.2.2)
def yee (_ : Nat) : Lps := fun _ => none
theorem y9z (ro : Option Nat) : LpOk Tryz.prog 103 ro (zgk N) (Z8 J3 [true, true, true, true, false, true, false]) := by
  rw [show (Z8 J3 [true, true, true, true, false, true, false]) = .loop (Z8 J3 [true, true, true, true, false, true, false, false]) by kernel_rfl]
  exact W6 (z50 N) mixed (Λ := yee N) (p := 500) (Y2 (l := []) (by kernel_rfl) Y3) (by kernel_rfl) (by intro rec v; kernel_rfl) N
def ygc : Cut := { tms := [2, 3, 6], sh := Sz11, objs := [(2000000, [2], .box Sz0), (2000001, [3], .box Sz0)], sts := [] }
def y13 : Cut := { tms := [4], sh := .bool, objs := [], sts := [] }
def y12 : Cut := { tms := [2, 3], sh := Sz9, objs := [(2000000, [2], .box Sz0), (2000001, [3], .box Sz0)], sts := [] }
def zgl : Lp := lpOf ygc (1, y13) [(4, y12)] (fun v => y7f N N v.1.2.2 v.2.1.1 v.2.1.2.1 v.2.1.2.2.1 v.2.1.2.2.2.1 v.2.1.2.2.2.2 v.2.2.1.1 v.2.2.1.2.1 v.2.2.1.2.2.1 v.2.2.1.2.2.2.1 v.2.2.1.2.2.2.2)
def yef (_ : Nat) : Lps := fun _ => none
theorem ya0 (ro : Option Nat) : LpOk Tryz.prog 103 ro (zgl N) (Z8 J3 [true, true, true, false, true, false]) := by
  rw [show (Z8 J3 [true, true, true, false, true, false]) = .loop (Z8 J3 [true, true, true, false, true, false, false]) by kernel_rfl]
  exact W6 (z50 N) mixed (Λ := yef N) (p := 244) (Y2 (l := []) (by kernel_rfl) Y3) (by kernel_rfl) (by intro rec v; kernel_rfl) N
def ygd : Cut := { tms := [2, 3, 5], sh := Sz11, objs := [(2000000, [2], .box Sz0), (2000001, [3], .box Sz0)], sts := [] }
def y15 : Cut := { tms := [4], sh := .bool, objs := [], sts := [] }
def y14 : Cut := { tms := [2, 3], sh := Sz9, objs := [(2000000, [2], .box Sz0), (2000001, [3], .box Sz0)], sts := [] }
def zgm : Lp := lpOf ygd (1, y15) [(2, y14)] (fun v => y7g N N v.1.2.2 v.2.1.1 v.2.1.2.1 v.2.1.2.2.1 v.2.1.2.2.2.1 v.2.1.2.2.2.2 v.2.2.1.1 v.2.2.1.2.1 v.2.2.1.2.2.1 v.2.2.1.2.2.2.1 v.2.2.1.2.2.2.2)
def yeg (_ : Nat) : Lps := fun _ => none
theorem ya1 (ro : Option Nat) : LpOk Tryz.prog 103 ro (zgm N) (Z8 J3 [true, true, false, true, false]) := by
  rw [show (Z8 J3 [true, true, false, true, false]) = .loop (Z8 J3 [true, true, false, true, false, false]) by kernel_rfl]
  exact W6 (z50 N) mixed (Λ := yeg N) (p := 116) (Y2 (l := []) (by kernel_rfl) Y3) (by kernel_rfl) (by intro rec v; kernel_rfl) N
def yg9 : Cut := { tms := [2, 3, 48], sh := Sz19, objs := [(2000000, [2], .box Sz0), (2000001, [3], .box Sz0)], sts := [] }
def y0y : Cut := { tms := [4], sh := .bool, objs := [], sts := [] }
def y0x : Cut := { tms := [2, 3], sh := Sz9, objs := [(2000000, [2], .box Sz0), (2000001, [3], .box Sz0)], sts := [] }
def zgi : Lp := lpOf yg9 (1, y0y) [(0, y0x)] (fun v => z9i N v.1.2.2 v.2.1.1 v.2.1.2.1 v.2.1.2.2.1 v.2.1.2.2.2.1 v.2.1.2.2.2.2 v.2.2.1.1 v.2.2.1.2.1 v.2.2.1.2.2.1 v.2.2.1.2.2.2.1 v.2.2.1.2.2.2.2)
def yec (_ : Nat) : Lps := fun _ => none
theorem y9x (ro : Option Nat) : LpOk Tryz.prog 103 ro (zgi N) (Z8 J3 [true, false, true]) :=
  z0m (z50 N) mixed (Λ := yec N) (p := 13) (Y2 (l := []) (by kernel_rfl) Y3) (by kernel_rfl) (by intro v; kernel_rfl)
def yga : Cut := { tms := [2, 3], sh := Sz9, objs := [(2000000, [2], .box Sz0), (2000001, [3], .box Sz0)], sts := [] }
def y0z : Cut := { tms := [4], sh := .bool, objs := [], sts := [] }
def zgj : Lp := lpOf yga (1, y0z) [] (fun v => z9j N v.2.1.1 v.2.1.2.1 v.2.1.2.2.1 v.2.1.2.2.2.1 v.2.1.2.2.2.2 v.2.2.1.1 v.2.2.1.2.1 v.2.2.1.2.2.1 v.2.2.1.2.2.2.1 v.2.2.1.2.2.2.2)
def yed : Lps := fun p => bif Nat.beq p 58 then some (zgm N) else bif Nat.beq p 122 then some (zgl N) else bif Nat.beq p 250 then some (zgk N) else none
theorem y9y (ro : Option Nat) : LpOk Tryz.prog 103 ro (zgj N) (Z8 J3 [true, true]) :=
  z0m (z50 N) mixed (Λ := yed N) (p := 7) (Y2 (l := [(zgm N, (Z8 J3 [true, true, false, true, false])), (zgl N, (Z8 J3 [true, true, true, false, true, false])), (zgk N, (Z8 J3 [true, true, true, true, false, true, false]))]) (by kernel_rfl) (X3 (ya1 N ro) (X3 (ya0 N ro) (X3 (y9z N ro) Y3)))) (by kernel_rfl) (by intro v; kernel_rfl)
def ys3 : Lps := fun p => bif Nat.beq p 7 then some (zgj N) else bif Nat.beq p 13 then some (zgi N) else none
def y2i : Ctr := X0 (.cons (.val z5f) (.val z5f)) .bool [] (fun v => yue N v.1 v.2)
theorem yj1 : Y7 Tryz.prog 18 (fun vs => (y2i N).run vs some) :=
  Y4 (z50 N) mixed (Λ := ys3 N) (fn := Tryz.f18) (c := J3) Tryz.func18 (by kernel_rfl) (by kernel_rfl) (Y2 (l := [(zgi N, (Z8 J3 [true, false, true])), (zgj N, (Z8 J3 [true, true]))]) (by kernel_rfl) (X3 (y9x N none) (X3 (y9y N none) Y3))) (by kernel_rfl) (by intro v; kernel_rfl)
def zs3 : Code := match Tryz.f126.body with | some c => c | none => .skip
def zn1 : List (Nat × Ctr) := [(132, z5d N)]
def znm : Env := Y9 tyRows eqRows Z9 [] [] (zn1 N)
theorem zk8 : EnvOk Tryz.prog (znm N) := Y0 Z5 Z6 Z3 ⟨z9g N, trivial⟩
def znh (_ : Nat) : Lps := fun _ => none
def zbh : Ctr := X0 (.cons .str .str) (.tup (.cons .str .bool)) [] (fun v => z2n N v.1 v.2)
theorem zjy : Y7 Tryz.prog 126 (fun vs => (zbh N).run vs some) :=
  Y4 (zk8 N) mixed (Λ := znh N) (fn := Tryz.f126) (c := zs3) Tryz.func126 (by kernel_rfl) (by kernel_rfl) (Y2 (l := []) (by kernel_rfl) Y3) (by kernel_rfl) (by intro v; kernel_rfl)
def y6k : Code := match Tryz.f118.body with | some c => c | none => .skip
def zwo : List (Nat × Ctr) := [(126, zbh N)]
def zy5 : Env := Y9 tyRows eqRows Z9 [] [] (zwo N)
theorem zrk : EnvOk Tryz.prog (zy5 N) := Y0 Z5 Z6 Z3 ⟨zjy N, trivial⟩
def zxe (_ : Nat) : Lps := fun _ => none
def z9e : Ctr := X0 (.cons .str .str) (.tup (.cons .str .bool)) [] (fun v => G4 N v.1 v.2)
theorem zdo : Y7 Tryz.prog 118 (fun vs => (z9e N).run vs some) :=
  Y4 (zrk N) mixed (Λ := zxe N) (fn := Tryz.f118) (c := y6k) Tryz.func118 (by kernel_rfl) (by kernel_rfl) (Y2 (l := []) (by kernel_rfl) Y3) (by kernel_rfl) (by intro v; kernel_rfl)
def lay_strings_IndexAny_ren : Go.Shelf.Ren := ⟨fun | 153 => 127 | 152 => 133 | 226 => 134 | 227 => 135 | 228 => 136 | 137 => 145 | 119 => 146 | 224 => 147 | 225 => 148 | 217 => 153 | 266 => 157 | n => n, fun | 9 => 9 | 3 => 3 | 4 => 4 | 5 => 5 | 21 => 21 | 117 => 203 | 116 => 202 | 0 => 0 | 46 => 158 | 124 => 208 | n => n, fun n => n⟩
theorem zzz : Go.Proofs.Lays.n153 Tryz.prog lay_strings_IndexAny_ren := {
  mixed := by kernel_rfl
  f119 := Tryz.func146.trans (congrArg some (by kernel_rfl))
  f137 := Tryz.func145.trans (congrArg some (by kernel_rfl))
  f152 := Tryz.func133.trans (congrArg some (by kernel_rfl))
  f153 := Tryz.func127.trans (congrArg some (by kernel_rfl))
  f217 := Tryz.func153.trans (congrArg some (by kernel_rfl))
  f224 := Tryz.func147.trans (congrArg some (by kernel_rfl))
  f225 := Tryz.func148.trans (congrArg some (by kernel_rfl))
  f226 := Tryz.func134.trans (congrArg some (by kernel_rfl))
  f227 := Tryz.func135.trans (congrArg some (by kernel_rfl))
  f228 := Tryz.func136.trans (congrArg some (by kernel_rfl))
  f266 := Tryz.func157.trans (congrArg some (by kernel_rfl))
  t0 := Tryz.underlying0
  a0 := Tryz.isAgg0
  z0 := Tryz.sizeOf0
  v0 := Tryz.zeroValue0
  t3 := Tryz.underlying3
  a3 := Tryz.isAgg3
  z3 := Tryz.sizeOf3
  v3 := Tryz.zeroValue3
  t4 := Tryz.underlying4
  a4 := Tryz.isAgg4
  z4 := Tryz.sizeOf4
  v4 := Tryz.zeroValue4
  t5 := Tryz.underlying5
  a5 := Tryz.isAgg5
  z5 := Tryz.sizeOf5
  v5 := Tryz.zeroValue5
  t9 := Tryz.underlying9
  a9 := Tryz.isAgg9
  z9 := Tryz.sizeOf9
  v9 := Tryz.zeroValue9
  t21 := Tryz.underlying21
  a21 := Tryz.isAgg21
  z21 := Tryz.sizeOf21
  v21 := Tryz.zeroValue21
  t46 := Tryz.underlying158
  a46 := Tryz.isAgg158
  z46 := Tryz.sizeOf158
  v46 := Tryz.zeroValue158
  t116 := Tryz.underlying202
  a116 := Tryz.isAgg202
  z116 := Tryz.sizeOf202
  t117 := Tryz.underlying203
  a117 := Tryz.isAgg203
  z117 := Tryz.sizeOf203
  v117 := Tryz.zeroValue203
  t124 := Tryz.underlying208
  a124 := Tryz.isAgg208
  z124 := Tryz.sizeOf208
  v124 := Tryz.zeroValue208
  }
def ycp : Code := match Tryz.f127.body with | some c => c | none => .skip
def zhu : Ctr := X0 (.cons .str .str) (.int .i64) [] (fun v => z4x N v.1 v.2)
theorem ztc : Y7 Tryz.prog 127 (fun vs => (zhu N).run vs some) := by
  have e1 : lay_strings_IndexAny_ren.f 153 = 127 := by kernel_rfl
  have h := x95 zzz (by kernel_rfl) (fn := Tryz.f127) (c := ycp) (by rw [e1]; exact Tryz.func127) (by kernel_rfl) (by kernel_rfl)
  rw [e1] at h
  exact h
def ycr : Code := match Tryz.f119.body with | some c => c | none => .skip
def zz5 : List (Nat × Ctr) := [(127, zhu N)]
def y0o : Env := Y9 tyRows eqRows Z9 [] [] (zz5 N)
theorem zty : EnvOk Tryz.prog (y0o N) := Y0 Z5 Z6 Z3 ⟨ztc N, trivial⟩
def y01 (_ : Nat) : Lps := fun _ => none
def zrv : Cut := { tms := [0], sh := (.ptr 5000000 0), objs := [(5000000, [0], .box (.cons .str Sz5))], sts := [] }
def znp : Cut := { tms := [0], sh := (.tup (.cons .str (.int .u8))), objs := [(5000000, [5000000], .box (.cons .str Sz5))], sts := [] }
def zhv : CtrM := ctrM zrv znp [] (fun v => z0h N v.2.1.1 v.2.1.2.1 v.2.1.2.2.1 v.2.1.2.2.2.1 v.2.1.2.2.2.2)
theorem ztd : z03 Tryz.prog 119 (zhv N) :=
  U4 (zty N) mixed (Λ := y01 N) (fn := Tryz.f119) (c := ycr) Tryz.func119 (by kernel_rfl) (by kernel_rfl) (Y2 (l := []) (by kernel_rfl) Y3) (by kernel_rfl) (by intro v; kernel_rfl)
def zc3 : Code := match Tryz.f103.body with | some c => c | none => .skip
def zwp : List (Nat × Ctr) := [(118, z9e N)]
def zsz : List (Nat × CtrM) := [(119, zhv N)]
def zy6 : Env := Y9 tyRows eqRows Z9 [] [24] (zwp N) (zsz N)
theorem zds : EnvOk Tryz.prog (zy6 N) := Y0 Z5 Z6 Z3 ⟨zdo N, trivial⟩ ⟨ztd N, trivial⟩
def zpm : Cut := { tms := [0, 5, 38], sh := (.cons (.ptr 5000000 0) (.cons (.int .u8) .bool)), objs := [(5000000, [5000000], .box (.cons .str Sz5))], sts := [] }
def zk9 : Cut := { tms := [], sh := .nil, objs := [(5000000, [5000000], .box (.cons .str Sz5))], sts := [] }
def z70 : Lp := lpOf zpm (0, zk9) [] (fun v => J2 N v.1.2.1 v.1.2.2 v.2.1.1 v.2.1.2.1 v.2.1.2.2.1 v.2.1.2.2.2.1 v.2.1.2.2.2.2)
def zp8 (_ : Nat) : Lps := fun _ => none
theorem zne (ro : Option Nat) : LpOk Tryz.prog 92 ro (z70 N) (Z8 zc3 [true, true, true, true, false, true]) :=
  z0m (zds N) mixed (Λ := zp8 N) (p := 125) (Y2 (l := []) (by kernel_rfl) Y3) (by kernel_rfl) (by intro v; kernel_rfl)
def zxg : Lps := fun p => bif Nat.beq p 125 then some (z70 N) else none
def zpn : Cut := { tms := [0], sh := (.ptr 5000000 0), objs := [(5000000, [0], .box (.cons .str Sz5))], sts := [] }
def zl4 : Cut := { tms := [0], sh := (.tup .nil), objs := [(5000000, [5000000], .box (.cons .str Sz5))], sts := [] }
def zfw : CtrM := ctrM zpn zl4 [] (fun v => U3 N v.2.1.1 v.2.1.2.1 v.2.1.2.2.1 v.2.1.2.2.2.1 v.2.1.2.2.2.2)
theorem zr8 : z03 Tryz.prog 103 (zfw N) :=
  U4 (zds N) mixed (Λ := zxg N) (fn := Tryz.f103) (c := zc3) Tryz.func103 (by kernel_rfl) (by kernel_rfl) (Y2 (l := [(z70 N, (Z8 zc3 [true, true, true, true, false, true]))]) (by kernel_rfl) (X3 (zne N none) Y3)) (by kernel_rfl) (by intro v; kernel_rfl)
def lay_stringslite_IndexByte_ren : Go.Shelf.Ren := ⟨fun | 217 => 153 | 266 => 157 | n => n, fun | 9 => 9 | 5 => 5 | 3 => 3 | n => n, fun n => n⟩
theorem znf : Go.Proofs.Lays.n217 Tryz.prog lay_stringslite_IndexByte_ren := {
  mixed := by kernel_rfl
  f217 := Tryz.func153.trans (congrArg some (by kernel_rfl))
  f266 := Tryz.func157.trans (congrArg some (by kernel_rfl))
  t3 := Tryz.underlying3
  a3 := Tryz.isAgg3
  z3 := Tryz.sizeOf3
  v3 := Tryz.zeroValue3
  t5 := Tryz.underlying5
  a5 := Tryz.isAgg5
  z5 := Tryz.sizeOf5
  v5 := Tryz.zeroValue5
  t9 := Tryz.underlying9
  a9 := Tryz.isAgg9
  z9 := Tryz.sizeOf9
  v9 := Tryz.zeroValue9
  }
def zs1 : Code := match Tryz.f153.body with | some c => c | none => .skip
def zbg : Ctr := X0 (.cons .str (.int .u8)) (.int .i64) [] (fun v => stringslite_IndexByte N v.1 v.2)
theorem zjx : Y7 Tryz.prog 153 (fun vs => (zbg N).run vs some) := by
  have e1 : lay_stringslite_IndexByte_ren.f 217 = 153 := by kernel_rfl
  have h := x5v znf (fn := Tryz.f153) (c := zs1) (by rw [e1]; exact Tryz.func153) (by kernel_rfl) (by kernel_rfl)
  rw [e1] at h
  exact h
def y6i : Code := match Tryz.f149.body with | some c => c | none => .skip
def zwm : List (Nat × Ctr) := [(153, zbg N)]
def zy3 : Env := Y9 tyRows eqRows Z9 [] [] (zwm N)
theorem zri : EnvOk Tryz.prog (zy3 N) := Y0 Z5 Z6 Z3 ⟨zjx N, trivial⟩
def zxc (_ : Nat) : Lps := fun _ => none
def zfu : Ctr := X0 (.cons .str .str) (.int .i64) [] (fun v => z9q N v.1 v.2)
theorem zr6 : Y7 Tryz.prog 149 (fun vs => (zfu N).run vs some) :=
  Y4 (zri N) mixed (Λ := zxc N) (fn := Tryz.f149) (c := y6i) Tryz.func149 (by kernel_rfl) (by kernel_rfl) (Y2 (l := []) (by kernel_rfl) Y3) (by kernel_rfl) (by intro v; kernel_rfl)
def ygz : Code := match Tryz.f137.body with | some c => c | none => .skip
def y3c : List (Nat × Ctr) := [(149, zfu N)]
def y5p : Env := Y9 tyRows eqRows Z9 [] [] (y3c N)
theorem zxq : EnvOk Tryz.prog (y5p N) := Y0 Z5 Z6 Z3 ⟨zr6 N, trivial⟩
def y4m (_ : Nat) : Lps := fun _ => none
def zjj : Ctr := X0 (.cons .str .str) (.tup (.cons .str (.cons .str .bool))) [] (fun v => zcs N v.1 v.2)
theorem zwx : Y7 Tryz.prog 137 (fun vs => (zjj N).run vs some) :=
  Y4 (zxq N) mixed (Λ := y4m N) (fn := Tryz.f137) (c := ygz) Tryz.func137 (by kernel_rfl) (by kernel_rfl) (Y2 (l := []) (by kernel_rfl) Y3) (by kernel_rfl) (by intro v; kernel_rfl)
def yy1 : Code := match Tryz.f128.body with | some c => c | none => .skip
def yn3 : List (Nat × Ctr) := [(137, zjj N)]
def ypg : Env := Y9 tyRows eqRows Z9 [] [] (yn3 N)
theorem yfj : EnvOk Tryz.prog (ypg N) := Y0 Z5 Z6 Z3 ⟨zwx N, trivial⟩
def yo5 (_ : Nat) : Lps := fun _ => none
def zw4 : Ctr := X0 (.cons .str .str) (.tup (.cons .str (.cons .str .bool))) [] (fun v => ze4 N v.1 v.2)
theorem ydu : Y7 Tryz.prog 128 (fun vs => (zw4 N).run vs some) :=
  Y4 (yfj N) mixed (Λ := yo5 N) (fn := Tryz.f128) (c := yy1) Tryz.func128 (by kernel_rfl) (by kernel_rfl) (Y2 (l := []) (by kernel_rfl) Y3) (by kernel_rfl) (by intro v; kernel_rfl)
def ylc : Code := match Tryz.f131.body with | some c => c | none => .skip
def y8t (_ : Nat) : List (Nat × Ctr) := []
def ybm : Env := Y9 tyRows eqRows Z9 [] [] (y8t N)
theorem y0c : EnvOk Tryz.prog (ybm N) := Y0 Z5 Z6 Z3 trivial
def yay (_ : Nat) : Lps := fun _ => none
def ycm : Ctr := X0 (.int .i32) .bool [] (fun v => G2 N v)
theorem zzd : Y7 Tryz.prog 131 (fun vs => (ycm N).run vs some) :=
  Y4 (y0c N) mixed (Λ := yay N) (fn := Tryz.f131) (c := ylc) Tryz.func131 (by kernel_rfl) (by kernel_rfl) (Y2 (l := []) (by kernel_rfl) Y3) (by kernel_rfl) (by intro v; kernel_rfl)
def lay_strings_indexFunc__path_isName_c1_ren : Go.Shelf.Ren := ⟨fun | 315 => 144 | n => n, fun | 9 => 9 | 40 => 198 | 4 => 4 | 3 => 3 | 0 => 0 | 21 => 21 | n => n, fun n => n⟩
theorem zam : Go.Proofs.Lays.n315 Tryz.prog lay_strings_indexFunc__path_isName_c1_ren := {
  mixed := by kernel_rfl
  f315 := Tryz.func144.trans (congrArg some (by kernel_rfl))
  t0 := Tryz.underlying0
  a0 := Tryz.isAgg0
  z0 := Tryz.sizeOf0
  v0 := Tryz.zeroValue0
  t3 := Tryz.underlying3
  a3 := Tryz.isAgg3
  z3 := Tryz.sizeOf3
  v3 := Tryz.zeroValue3
  t4 := Tryz.underlying4
  a4 := Tryz.isAgg4
  z4 := Tryz.sizeOf4
  v4 := Tryz.zeroValue4
  t9 := Tryz.underlying9
  a9 := Tryz.isAgg9
  z9 := Tryz.sizeOf9
  v9 := Tryz.zeroValue9
  t21 := Tryz.underlying21
  a21 := Tryz.isAgg21
  z21 := Tryz.sizeOf21
  v21 := Tryz.zeroValue21
  t40 := Tryz.underlying198
  a40 := Tryz.isAgg198
  z40 := Tryz.sizeOf198
  v40 := Tryz.zeroValue198
  }
theorem zad (r : Nat) : (G2 N (r : Int)).isSome = true := by
  simp only [G2, Bool.cond_eq_ite]
  (repeat' split) <;> rfl
def zc4 : Code := match Tryz.f144.body with | some c => c | none => .skip
def zbu : Code := match Tryz.f131.body with | some c => c | none => .skip
def z41 : Ctr := X0 (.cons .str (.cons (.clo 131 .nil) .bool)) (.int .i64) [] (fun v => z0z N v.1 v.2.2)
theorem z9l : Y7 Tryz.prog 144 (fun vs => (z41 N).run vs some) := by
  have e1 : lay_strings_indexFunc__path_isName_c1_ren.f 315 = 144 := by kernel_rfl
  have h := yx9 zam (g := 131) (F := G2 N) (zzd N) (zad N) (fg := Tryz.f131) (cg := zbu) Tryz.func131 (by kernel_rfl) (by kernel_rfl) (fn := Tryz.f144) (c := zc4) (by rw [e1]; exact Tryz.func144) (by kernel_rfl) (by kernel_rfl)
  rw [e1] at h
  exact h
def zc5 : Code := match Tryz.f130.body with | some c => c | none => .skip
def zae : List (Nat × Ctr) := [(144, z41 N)]
def zas : Env := Y9 tyRows eqRows Z9 [] [] (zae N)
theorem z9p : EnvOk Tryz.prog (zas N) := Y0 Z5 Z6 Z3 ⟨z9l N, trivial⟩
def zan (_ : Nat) : Lps := fun _ => none
def z42 : Ctr := X0 (.cons .str (.clo 131 .nil)) (.int .i64) [] (fun v => z11 N v.1)
theorem z9m : Y7 Tryz.prog 130 (fun vs => (z42 N).run vs some) :=
  Y4 (z9p N) mixed (Λ := zan N) (fn := Tryz.f130) (c := zc5) Tryz.func130 (by kernel_rfl) (by kernel_rfl) (Y2 (l := []) (by kernel_rfl) Y3) (by kernel_rfl) (by intro v; kernel_rfl)
def yy8 : Code := match Tryz.f122.body with | some c => c | none => .skip
def yng : List (Nat × Ctr) := [(130, z42 N)]
def ypt : Env := Y9 tyRows eqRows Z9 [] [] (yng N)
theorem yfq : EnvOk Tryz.prog (ypt N) := Y0 Z5 Z6 Z3 ⟨z9m N, trivial⟩
def yoi (_ : Nat) : Lps := fun _ => none
def zj0 : Ctr := X0 .str .bool [] (fun v => zi9 N v)
theorem zo7 : Y7 Tryz.prog 122 (fun vs => (zj0 N).run vs some) :=
  Y4 (yfq N) mixed (Λ := yoi N) (fn := Tryz.f122) (c := yy8) Tryz.func122 (by kernel_rfl) (by kernel_rfl) (Y2 (l := []) (by kernel_rfl) Y3) (by kernel_rfl) (by intro v; kernel_rfl)
def zfm : Code := match Tryz.f120.body with | some c => c | none => .skip
def yri : List (Nat × Ctr) := [(128, zw4 N), (122, zj0 N)]
def yte : Env := Y9 tyRows eqRows Z9 [] [] (yri N)
theorem zsl : EnvOk Tryz.prog (yte N) := Y0 Z5 Z6 Z3 ⟨ydu N, ⟨zo7 N, trivial⟩⟩
def ygm : Cut := { tms := [0], sh := .str, objs := [], sts := [] }
def y1h : Cut := { tms := [2], sh := .bool, objs := [], sts := [] }
def y1g : Cut := { tms := [], sh := .nil, objs := [], sts := [] }
def zgv : Lp := lpOf ygm (1, y1h) [(2, y1g)] (fun v => zcd N N v.1)
def yep (_ : Nat) : Lps := fun _ => none
theorem yaa (ro : Option Nat) : LpOk Tryz.prog 22 ro (zgv N) (Z8 zfm [true, false, false]) := by
  rw [show (Z8 zfm [true, false, false]) = .loop (Z8 zfm [true, false, false, false]) by kernel_rfl]
  exact W6 (zsl N) mixed (Λ := yep N) (p := 24) (Y2 (l := []) (by kernel_rfl) Y3) (by kernel_rfl) (by intro rec v; kernel_rfl) N
def ysg : Lps := fun p => bif Nat.beq p 12 then some (zgv N) else none
def zmp : Ctr := X0 .str .bool [] (fun v => zna N v)
theorem zs8 : Y7 Tryz.prog 120 (fun vs => (zmp N).run vs some) :=
  Y4 (zsl N) mixed (Λ := ysg N) (fn := Tryz.f120) (c := zfm) Tryz.func120 (by kernel_rfl) (by kernel_rfl) (Y2 (l := [(zgv N, (Z8 zfm [true, false, false]))]) (by kernel_rfl) (X3 (yaa N none) Y3)) (by kernel_rfl) (by intro v; kernel_rfl)
def lay_strings_Trim_ren : Go.Shelf.Ren := ⟨fun | 160 => 129 | 232 => 139 | 231 => 138 | 227 => 135 | 234 => 141 | 233 => 140 | 236 => 143 | 235 => 142 | 228 => 136 | 271 => 152 | 151 => 151 | 197 => 150 | 120 => 156 | 152 => 133 | 260 => 155 | 137 => 145 | 119 => 146 | 224 => 147 | 225 => 148 | 217 => 153 | 266 => 157 | n => n, fun | 9 => 9 | 4 => 4 | 3 => 3 | 5 => 5 | 117 => 203 | 116 => 202 | 0 => 0 | 124 => 208 | 21 => 21 | 105 => 211 | 46 => 158 | 119 => 217 | 139 => 220 | 138 => 219 | n => n, fun | 3 => 1 | 4 => 2 | n => n⟩
theorem yjt : Go.Proofs.Lays.n160 Tryz.prog lay_strings_Trim_ren := {
  mixed := by kernel_rfl
  f119 := Tryz.func146.trans (congrArg some (by kernel_rfl))
  f120 := Tryz.func156.trans (congrArg some (by kernel_rfl))
  f137 := Tryz.func145.trans (congrArg some (by kernel_rfl))
  f151 := Tryz.func151.trans (congrArg some (by kernel_rfl))
  f152 := Tryz.func133.trans (congrArg some (by kernel_rfl))
  f160 := Tryz.func129.trans (congrArg some (by kernel_rfl))
  f197 := Tryz.func150.trans (congrArg some (by kernel_rfl))
  f217 := Tryz.func153.trans (congrArg some (by kernel_rfl))
  f224 := Tryz.func147.trans (congrArg some (by kernel_rfl))
  f225 := Tryz.func148.trans (congrArg some (by kernel_rfl))
  f227 := Tryz.func135.trans (congrArg some (by kernel_rfl))
  f228 := Tryz.func136.trans (congrArg some (by kernel_rfl))
  f231 := Tryz.func138.trans (congrArg some (by kernel_rfl))
  f232 := Tryz.func139.trans (congrArg some (by kernel_rfl))
  f233 := Tryz.func140.trans (congrArg some (by kernel_rfl))
  f234 := Tryz.func141.trans (congrArg some (by kernel_rfl))
  f235 := Tryz.func142.trans (congrArg some (by kernel_rfl))
  f236 := Tryz.func143.trans (congrArg some (by kernel_rfl))
  f260 := Tryz.func155.trans (congrArg some (by kernel_rfl))
  f266 := Tryz.func157.trans (congrArg some (by kernel_rfl))
  f271 := Tryz.func152.trans (congrArg some (by kernel_rfl))
  t0 := Tryz.underlying0
  a0 := Tryz.isAgg0
  z0 := Tryz.sizeOf0
  v0 := Tryz.zeroValue0
  t3 := Tryz.underlying3
  a3 := Tryz.isAgg3
  z3 := Tryz.sizeOf3
  v3 := Tryz.zeroValue3
  t4 := Tryz.underlying4
  a4 := Tryz.isAgg4
  z4 := Tryz.sizeOf4
  v4 := Tryz.zeroValue4
  t5 := Tryz.underlying5
  a5 := Tryz.isAgg5
  z5 := Tryz.sizeOf5
  v5 := Tryz.zeroValue5
  t9 := Tryz.underlying9
  a9 := Tryz.isAgg9
  z9 := Tryz.sizeOf9
  v9 := Tryz.zeroValue9
  t21 := Tryz.underlying21
  a21 := Tryz.isAgg21
  z21 := Tryz.sizeOf21
  v21 := Tryz.zeroValue21
  t46 := Tryz.underlying158
  a46 := Tryz.isAgg158
  z46 := Tryz.sizeOf158
  v46 := Tryz.zeroValue158
  t105 := Tryz.underlying211
  a105 := Tryz.isAgg211
  z105 := Tryz.sizeOf211
  v105 := Tryz.zeroValue211
  t116 := Tryz.underlying202
  a116 := Tryz.isAgg202
  z116 := Tryz.sizeOf202
  t117 := Tryz.underlying203
  a117 := Tryz.isAgg203
  z117 := Tryz.sizeOf203
  v117 := Tryz.zeroValue203
  t119 := Tryz.underlying217
  a119 := Tryz.isAgg217
  z119 := Tryz.sizeOf217
  t124 := Tryz.underlying208
  a124 := Tryz.isAgg208
  z124 := Tryz.sizeOf208
  v124 := Tryz.zeroValue208
  t138 := Tryz.underlying219
  a138 := Tryz.isAgg219
  z138 := Tryz.sizeOf219
  v138 := Tryz.zeroValue219
  t139 := Tryz.underlying220
  a139 := Tryz.isAgg220
  z139 := Tryz.sizeOf220
  v139 := Tryz.zeroValue220
  g3 := by kernel_rfl
  g4 := by kernel_rfl
  }
def yts : Code := match Tryz.f129.body with | some c => c | none => .skip
def zso : Ctr := X0 (.cons .str .str) .str [] (fun v => zkh N v.1 v.2)
theorem y96 : Y7 Tryz.prog 129 (fun vs => (zso N).run vs some) := by
  have e1 : lay_strings_Trim_ren.f 160 = 129 := by kernel_rfl
  have h := x55 yjt (by kernel_rfl) (fn := Tryz.f129) (c := yts) (by rw [e1]; exact Tryz.func129) (by kernel_rfl) (by kernel_rfl)
  rw [e1] at h
  exact h
end
end Go.Proofs.YtpgikdaeicidaaaGreatDoor
