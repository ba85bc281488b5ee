/- Printed by a program of the session's: what the program's functions compute, and that they do. -/
import Derived.Test.YtknfflpgemghmaaGreatDsPure
import Derived.Test.YtknfflpgemghmaaGreatProg
import Derived.KernelRfl
set_option linter.all false
namespace Go.Proofs.YtknfflpgemghmaaGreat
open Go Go.Dv Ds
set_option maxRecDepth 100000

noncomputable instance : LTab := ⟨fun _ => ⟨#[], [], .skip, .skip, 0⟩⟩

noncomputable def tyRows : List (Nat × TI) := [
  (3, ⟨.int .i64, 1, 8, [.int .i64], some (.int .i64)⟩),
  (4, ⟨.bool, 1, 1, [.bool], some .bool⟩),
  (5, ⟨.int .u8, 1, 1, [.int .u8], some (.int .u8)⟩),
  (9, ⟨.str, 1, 16, [.str], some .str⟩),
  (21, ⟨.int .i32, 1, 4, [.int .i32], some (.int .i32)⟩),
  (23, ⟨.struct [(0, 9), (1, 9)], 2, 32, [.str, .str], some T_api_Span⟩),
  (25, ⟨.struct [(0, 3), (1, 9), (2, 9), (3, 23), (5, 9), (6, 9), (7, 3)], 8, 112, [.int .i64, .str, .str, .str, .str, .str, .str, .int .i64], some T_api_Msg⟩),
  (27, ⟨.arr 6 5, 6, 6, [.int .u8, .int .u8, .int .u8, .int .u8, .int .u8, .int .u8], some T_ref05_Raw⟩),
  (28, ⟨.arr 2 21, 2, 8, [.int .i32, .int .i32], some T_a2_int32⟩),
  (32, ⟨.int .u32, 1, 4, [.int .u32], some (.int .u32)⟩),
  (34, ⟨.slice 5, 1, 24, [.slice], some (.list (.int .u8))⟩),
  (37, ⟨.slice 86, 1, 24, [.slice], some (.list T_a3_uint8)⟩),
  (38, ⟨.slice 69, 1, 24, [.slice], some (.list T_api_Pair)⟩),
  (40, ⟨.slice 23, 1, 24, [.slice], some (.list T_api_Span)⟩),
  (50, ⟨.arr 2 27, 12, 12, [.int .u8, .int .u8, .int .u8, .int .u8, .int .u8, .int .u8, .int .u8, .int .u8, .int .u8, .int .u8, .int .u8, .int .u8], some T_a2_ref05_Raw⟩),
  (55, ⟨.arr 2 5, 2, 2, [.int .u8, .int .u8], some T_a2_uint8⟩),
  (56, ⟨.slice 34, 1, 24, [.slice], some (.list (.list (.int .u8)))⟩),
  (58, ⟨.slice 27, 1, 24, [.slice], some (.list T_ref05_Raw)⟩),
  (59, ⟨.slice 25, 1, 24, [.slice], some (.list T_api_Msg)⟩),
  (69, ⟨.struct [(0, 9), (1, 9), (2, 3)], 3, 40, [.str, .str, .int .i64], some T_api_Pair⟩),
  (73, ⟨.iface, 1, 16, [.iface], none⟩),
  (80, ⟨.struct [(0, 34)], 1, 24, [.slice], some (.list (.int .u8))⟩),
  (83, ⟨.slice 9, 1, 24, [.slice], some (.list .str)⟩),
  (86, ⟨.arr 3 5, 3, 3, [.int .u8, .int .u8, .int .u8], some T_a3_uint8⟩),
  (94, ⟨.struct [(0, 34), (1, 4)], 2, 32, [.slice, .bool], some T_msg_reader⟩),
  (97, ⟨.arr 2 9, 2, 32, [.str, .str], some T_a2_string⟩),
  (103, ⟨.struct [(0, 3), (1, 9), (2, 9), (3, 23), (5, 9), (6, 9), (7, 3)], 8, 112, [.int .i64, .str, .str, .str, .str, .str, .str, .int .i64], some T_api_Msg⟩),
  (104, ⟨.struct [(0, 3), (1, 9), (2, 9), (3, 23), (5, 9), (6, 9), (7, 3)], 8, 112, [.int .i64, .str, .str, .str, .str, .str, .str, .int .i64], some T_api_Msg⟩),
  (105, ⟨.struct [(0, 3), (1, 9), (2, 9), (3, 23), (5, 9), (6, 9), (7, 3)], 8, 112, [.int .i64, .str, .str, .str, .str, .str, .str, .int .i64], some T_api_Msg⟩),
  (106, ⟨.struct [(0, 3), (1, 9), (2, 9), (3, 23), (5, 9), (6, 9), (7, 3)], 8, 112, [.int .i64, .str, .str, .str, .str, .str, .str, .int .i64], some T_api_Msg⟩),
  (107, ⟨.struct [(0, 3), (1, 9), (2, 9), (3, 23), (5, 9), (6, 9), (7, 3)], 8, 112, [.int .i64, .str, .str, .str, .str, .str, .str, .int .i64], some T_api_Msg⟩),
  (108, ⟨.struct [(0, 3), (1, 9), (2, 9), (3, 23), (5, 9), (6, 9), (7, 3)], 8, 112, [.int .i64, .str, .str, .str, .str, .str, .str, .int .i64], some T_api_Msg⟩),
  (112, ⟨.int .u64, 1, 8, [.int .u64], some (.int .u64)⟩),
  (117, ⟨.str, 1, 16, [.str], some .str⟩),
  (119, ⟨.slice 117, 1, 24, [.slice], some (.list .str)⟩),
  (153, ⟨.slice 38, 1, 24, [.slice], some (.list (.list T_api_Pair))⟩)]
theorem tyRows_ok : (tyRows.all fun r => tiOk Tryz.prog r.1 r.2) = true := by kernel_rfl
theorem mixed : Tryz.prog.follows .mixedOrders = true := by kernel_rfl
noncomputable def eqRows : List (Nat × List Nat) := [(23, [2, 2]), (25, [0, 2, 2, 2, 2, 2, 2, 0]), (69, [2, 2, 0])]
theorem eqRows_ok : (eqRows.all fun r => eqB Tryz.prog r.1 r.2) = true := by kernel_rfl
noncomputable def methRows : List (Nat × String × Nat) := [(103, "downspout/msg.apply", 99), (103, "downspout/msg.bare", 100), (103, "downspout/msg.reads", 101), (103, "downspout/msg.valid", 102), (103, "downspout/msg.write", 103), (103, "downspout/msg.writes", 104), (104, "downspout/msg.apply", 121), (104, "downspout/msg.bare", 122), (104, "downspout/msg.reads", 123), (104, "downspout/msg.valid", 124), (104, "downspout/msg.write", 125), (104, "downspout/msg.writes", 126), (105, "downspout/msg.apply", 132), (105, "downspout/msg.bare", 133), (105, "downspout/msg.reads", 134), (105, "downspout/msg.valid", 135), (105, "downspout/msg.write", 136), (105, "downspout/msg.writes", 137), (106, "downspout/msg.apply", 139), (106, "downspout/msg.bare", 140), (106, "downspout/msg.reads", 141), (106, "downspout/msg.valid", 142), (106, "downspout/msg.write", 143), (106, "downspout/msg.writes", 144), (107, "downspout/msg.apply", 145), (107, "downspout/msg.bare", 156), (107, "downspout/msg.reads", 157), (107, "downspout/msg.valid", 158), (107, "downspout/msg.write", 159), (107, "downspout/msg.writes", 160), (108, "downspout/msg.apply", 161), (108, "downspout/msg.bare", 162), (108, "downspout/msg.reads", 163), (108, "downspout/msg.valid", 164), (108, "downspout/msg.write", 165), (108, "downspout/msg.writes", 166)]
theorem methRows_ok : MethOk Tryz.prog methRows := ⟨fun v w => by kernel_rfl, ⟨fun v w => by kernel_rfl, ⟨fun v w => by kernel_rfl, ⟨fun v w => by kernel_rfl, ⟨fun v w => by kernel_rfl, ⟨fun v w => by kernel_rfl, ⟨fun v w => by kernel_rfl, ⟨fun v w => by kernel_rfl, ⟨fun v w => by kernel_rfl, ⟨fun v w => by kernel_rfl, ⟨fun v w => by kernel_rfl, ⟨fun v w => by kernel_rfl, ⟨fun v w => by kernel_rfl, ⟨fun v w => by kernel_rfl, ⟨fun v w => by kernel_rfl, ⟨fun v w => by kernel_rfl, ⟨fun v w => by kernel_rfl, ⟨fun v w => by kernel_rfl, ⟨fun v w => by kernel_rfl, ⟨fun v w => by kernel_rfl, ⟨fun v w => by kernel_rfl, ⟨fun v w => by kernel_rfl, ⟨fun v w => by kernel_rfl, ⟨fun v w => by kernel_rfl, ⟨fun v w => by kernel_rfl, ⟨fun v w => by kernel_rfl, ⟨fun v w => by kernel_rfl, ⟨fun v w => by kernel_rfl, ⟨fun v w => by kernel_rfl, ⟨fun v w => by kernel_rfl, ⟨fun v w => by kernel_rfl, ⟨fun v w => by kernel_rfl, ⟨fun v w => by kernel_rfl, ⟨fun v w => by kernel_rfl, ⟨fun v w => by kernel_rfl, ⟨fun v w => by kernel_rfl, trivial⟩⟩⟩⟩⟩⟩⟩⟩⟩⟩⟩⟩⟩⟩⟩⟩⟩⟩⟩⟩⟩⟩⟩⟩⟩⟩⟩⟩⟩⟩⟩⟩⟩⟩⟩⟩

noncomputable def c_law05_sample : Code := match Tryz.f43.body with | some c => c | none => .skip
noncomputable def tab_law05_sample (_ : Nat) : List (Nat × Ctr) := []
noncomputable def env_law05_sample (N : Nat) : Env := mkEnv tyRows eqRows methRows [] [] (tab_law05_sample N)
theorem envok_law05_sample (N : Nat) : EnvOk Tryz.prog (env_law05_sample N) := mkEnv_ok tyRows_ok eqRows_ok methRows_ok trivial
noncomputable def lam_law05_sample (_ : Nat) : Lps := fun _ => none
noncomputable def ctr_law05_sample (N : Nat) : Ctr := ctrOf .nil (.fresh T_api_Pair) [] (fun _ => law05_sample N)
theorem sound_law05_sample (N : Nat) : SoundF Tryz.prog 43 (fun vs => (ctr_law05_sample N).run vs some) :=
  fn_sound (envok_law05_sample N) mixed (Λ := lam_law05_sample N) (fn := Tryz.f43) (c := c_law05_sample) Tryz.func43 (by kernel_rfl) (by kernel_rfl) (obs_ok (l := []) (by kernel_rfl) obsNil) (by kernel_rfl) (by intro v; kernel_rfl)

noncomputable def c_msg_of : Code := match Tryz.f49.body with | some c => c | none => .skip
noncomputable def tab_msg_of (_ : Nat) : List (Nat × Ctr) := []
noncomputable def env_msg_of (N : Nat) : Env := mkEnv tyRows eqRows methRows [] [] (tab_msg_of N)
theorem envok_msg_of (N : Nat) : EnvOk Tryz.prog (env_msg_of N) := mkEnv_ok tyRows_ok eqRows_ok methRows_ok trivial
noncomputable def lam_msg_of (_ : Nat) : Lps := fun _ => none
noncomputable def ctr_msg_of (N : Nat) : Ctr := ctrOf (.val T_api_Msg) (.iface 103 (.val T_api_Msg)) [(.iface 104 (.val T_api_Msg)), (.iface 105 (.val T_api_Msg)), (.iface 106 (.val T_api_Msg)), (.iface 107 (.val T_api_Msg)), (.iface 108 (.val T_api_Msg)), .nili] (fun v => msg_of N v)
theorem sound_msg_of (N : Nat) : SoundF Tryz.prog 49 (fun vs => (ctr_msg_of N).run vs some) :=
  fn_sound (envok_msg_of N) mixed (Λ := lam_msg_of N) (fn := Tryz.f49) (c := c_msg_of) Tryz.func49 (by kernel_rfl) (by kernel_rfl) (obs_ok (l := []) (by kernel_rfl) obsNil) (by kernel_rfl) (by intro v; kernel_rfl)

noncomputable def cmp117_ren : Go.Shelf.Ren := ⟨fun | 213 => 117 | 265 => 119 | n => n, fun n => n, fun n => n⟩
theorem cmp117 : Go.Proofs.Lays.n213 Tryz.prog cmp117_ren := {
  mixed := by kernel_rfl
  f213 := Tryz.func117.trans (congrArg some (by kernel_rfl))
  f265 := Tryz.func119.trans (congrArg some (by kernel_rfl))
  t3 := Tryz.underlying3
  a3 := Tryz.isAgg3
  z3 := Tryz.sizeOf3
  v3 := Tryz.zeroValue3
  t9 := Tryz.underlying9
  a9 := Tryz.isAgg9
  z9 := Tryz.sizeOf9
  v9 := Tryz.zeroValue9
  }
noncomputable def c_bytealg_CompareString : Code := match Tryz.f117.body with | some c => c | none => .skip
noncomputable def ctr_bytealg_CompareString (N : Nat) : Ctr := ctrOf (.cons .str .str) (.int .i64) [] (fun v => bytealg_CompareString N v.1 v.2)
theorem sound_bytealg_CompareString (N : Nat) : SoundF Tryz.prog 117 (fun vs => (ctr_bytealg_CompareString N).run vs some) := by
  have e1 : cmp117_ren.f 213 = 117 := by kernel_rfl
  have h := cmp_sound cmp117 (fn := Tryz.f117) (c := c_bytealg_CompareString) (by rw [e1]; exact Tryz.func117) (by kernel_rfl) (by kernel_rfl)
  rw [e1] at h
  exact h

noncomputable def c_strings_Compare : Code := match Tryz.f114.body with | some c => c | none => .skip
noncomputable def tab_strings_Compare (N : Nat) : List (Nat × Ctr) := [(117, ctr_bytealg_CompareString N)]
noncomputable def env_strings_Compare (N : Nat) : Env := mkEnv tyRows eqRows methRows [] [] (tab_strings_Compare N)
theorem envok_strings_Compare (N : Nat) : EnvOk Tryz.prog (env_strings_Compare N) := mkEnv_ok tyRows_ok eqRows_ok methRows_ok ⟨sound_bytealg_CompareString N, trivial⟩
noncomputable def lam_strings_Compare (_ : Nat) : Lps := fun _ => none
noncomputable def ctr_strings_Compare (N : Nat) : Ctr := ctrOf (.cons .str .str) (.int .i64) [] (fun v => strings_Compare N v.1 v.2)
theorem sound_strings_Compare (N : Nat) : SoundF Tryz.prog 114 (fun vs => (ctr_strings_Compare N).run vs some) :=
  fn_sound (envok_strings_Compare N) mixed (Λ := lam_strings_Compare N) (fn := Tryz.f114) (c := c_strings_Compare) Tryz.func114 (by kernel_rfl) (by kernel_rfl) (obs_ok (l := []) (by kernel_rfl) obsNil) (by kernel_rfl) (by intro v; kernel_rfl)

noncomputable def c_table_place_c1 : Code := match Tryz.f113.body with | some c => c | none => .skip
noncomputable def tab_table_place_c1 (N : Nat) : List (Nat × Ctr) := [(114, ctr_strings_Compare N)]
noncomputable def env_table_place_c1 (N : Nat) : Env := mkEnv tyRows eqRows methRows [] [] (tab_table_place_c1 N)
theorem envok_table_place_c1 (N : Nat) : EnvOk Tryz.prog (env_table_place_c1 N) := mkEnv_ok tyRows_ok eqRows_ok methRows_ok ⟨sound_strings_Compare N, trivial⟩
noncomputable def lam_table_place_c1 (_ : Nat) : Lps := fun _ => none
noncomputable def ctr_table_place_c1 (N : Nat) : Ctr := ctrOf (.cons (.val T_api_Pair) .str) (.int .i64) [] (fun v => table_place_c1 N v.1 v.2)
theorem sound_table_place_c1 (N : Nat) : SoundF Tryz.prog 113 (fun vs => (ctr_table_place_c1 N).run vs some) :=
  fn_sound (envok_table_place_c1 N) mixed (Λ := lam_table_place_c1 N) (fn := Tryz.f113) (c := c_table_place_c1) Tryz.func113 (by kernel_rfl) (by kernel_rfl) (obs_ok (l := []) (by kernel_rfl) obsNil) (by kernel_rfl) (by intro v; kernel_rfl)

noncomputable def c_slices_BinarySearchFunc_s_api_Pair_api_Pair_string__table_place_c1 : Code := match Tryz.f112.body with | some c => c | none => .skip
noncomputable def tab_slices_BinarySearchFunc_s_api_Pair_api_Pair_string__table_place_c1 (N : Nat) : List (Nat × Ctr) := [(113, ctr_table_place_c1 N)]
noncomputable def env_slices_BinarySearchFunc_s_api_Pair_api_Pair_string__table_place_c1 (N : Nat) : Env := mkEnv tyRows eqRows methRows [] [] (tab_slices_BinarySearchFunc_s_api_Pair_api_Pair_string__table_place_c1 N)
theorem envok_slices_BinarySearchFunc_s_api_Pair_api_Pair_string__table_place_c1 (N : Nat) : EnvOk Tryz.prog (env_slices_BinarySearchFunc_s_api_Pair_api_Pair_string__table_place_c1 N) := mkEnv_ok tyRows_ok eqRows_ok methRows_ok ⟨sound_table_place_c1 N, trivial⟩
noncomputable def cut_slices_BinarySearchFunc_s_api_Pair_api_Pair_string__table_place_c1_l0 : Cut := { tms := [0, 1, 2, 8, 9, 10], sh := (.cons (.list T_api_Pair) (.cons .str (.cons (.clo 113 .nil) (.cons (.int .i64) (.cons (.int .i64) (.int .i64)))))), objs := [], sts := [] }
noncomputable def cut_slices_BinarySearchFunc_s_api_Pair_api_Pair_string__table_place_c1_l0_o0 : Cut := { tms := [0, 1, 2, 8, 9], sh := (.cons (.list T_api_Pair) (.cons .str (.cons (.clo 113 .nil) (.cons (.int .i64) (.int .i64))))), objs := [], sts := [] }
noncomputable def lp_slices_BinarySearchFunc_s_api_Pair_api_Pair_string__table_place_c1_l0 (N : Nat) : Lp := lpOf cut_slices_BinarySearchFunc_s_api_Pair_api_Pair_string__table_place_c1_l0 (2, cut_slices_BinarySearchFunc_s_api_Pair_api_Pair_string__table_place_c1_l0_o0) [] (fun v => slices_BinarySearchFunc_s_api_Pair_api_Pair_string__table_place_c1_l0 N N v.1.1 v.1.2.1 v.1.2.2.2.1 v.1.2.2.2.2.1 v.1.2.2.2.2.2)
noncomputable def lam_slices_BinarySearchFunc_s_api_Pair_api_Pair_string__table_place_c1_l0 (_ : Nat) : Lps := fun _ => none
theorem lpok_slices_BinarySearchFunc_s_api_Pair_api_Pair_string__table_place_c1_l0 (N : Nat) (ro : Option Nat) : LpOk Tryz.prog 49 ro (lp_slices_BinarySearchFunc_s_api_Pair_api_Pair_string__table_place_c1_l0 N) (codeAt c_slices_BinarySearchFunc_s_api_Pair_api_Pair_string__table_place_c1 [true, true, true, false, false]) := by
  rw [show (codeAt c_slices_BinarySearchFunc_s_api_Pair_api_Pair_string__table_place_c1 [true, true, true, false, false]) = .loop (codeAt c_slices_BinarySearchFunc_s_api_Pair_api_Pair_string__table_place_c1 [true, true, true, false, false, false]) by kernel_rfl]
  exact loop_ok (envok_slices_BinarySearchFunc_s_api_Pair_api_Pair_string__table_place_c1 N) mixed (Λ := lam_slices_BinarySearchFunc_s_api_Pair_api_Pair_string__table_place_c1_l0 N) (p := 120) (obs_ok (l := []) (by kernel_rfl) obsNil) (by kernel_rfl) (by intro rec v; kernel_rfl) N
noncomputable def lam_slices_BinarySearchFunc_s_api_Pair_api_Pair_string__table_place_c1 (N : Nat) : Lps := fun p => bif Nat.beq p 60 then some (lp_slices_BinarySearchFunc_s_api_Pair_api_Pair_string__table_place_c1_l0 N) else none
noncomputable def ctr_slices_BinarySearchFunc_s_api_Pair_api_Pair_string__table_place_c1 (N : Nat) : Ctr := ctrOf (.cons (.list T_api_Pair) (.cons .str (.clo 113 .nil))) (.tup (.cons (.int .i64) .bool)) [] (fun v => slices_BinarySearchFunc_s_api_Pair_api_Pair_string__table_place_c1 N v.1 v.2.1)
theorem sound_slices_BinarySearchFunc_s_api_Pair_api_Pair_string__table_place_c1 (N : Nat) : SoundF Tryz.prog 112 (fun vs => (ctr_slices_BinarySearchFunc_s_api_Pair_api_Pair_string__table_place_c1 N).run vs some) :=
  fn_sound (envok_slices_BinarySearchFunc_s_api_Pair_api_Pair_string__table_place_c1 N) mixed (Λ := lam_slices_BinarySearchFunc_s_api_Pair_api_Pair_string__table_place_c1 N) (fn := Tryz.f112) (c := c_slices_BinarySearchFunc_s_api_Pair_api_Pair_string__table_place_c1) Tryz.func112 (by kernel_rfl) (by kernel_rfl) (obs_ok (l := [(lp_slices_BinarySearchFunc_s_api_Pair_api_Pair_string__table_place_c1_l0 N, (codeAt c_slices_BinarySearchFunc_s_api_Pair_api_Pair_string__table_place_c1 [true, true, true, false, false]))]) (by kernel_rfl) (obsCons (lpok_slices_BinarySearchFunc_s_api_Pair_api_Pair_string__table_place_c1_l0 N none) obsNil)) (by kernel_rfl) (by intro v; kernel_rfl)

noncomputable def c_table_place : Code := match Tryz.f109.body with | some c => c | none => .skip
noncomputable def tab_table_place (N : Nat) : List (Nat × Ctr) := [(112, ctr_slices_BinarySearchFunc_s_api_Pair_api_Pair_string__table_place_c1 N)]
noncomputable def env_table_place (N : Nat) : Env := mkEnv tyRows eqRows methRows [] [] (tab_table_place N)
theorem envok_table_place (N : Nat) : EnvOk Tryz.prog (env_table_place N) := mkEnv_ok tyRows_ok eqRows_ok methRows_ok ⟨sound_slices_BinarySearchFunc_s_api_Pair_api_Pair_string__table_place_c1 N, trivial⟩
noncomputable def lam_table_place (_ : Nat) : Lps := fun _ => none
noncomputable def ctr_table_place (N : Nat) : Ctr := ctrOf (.cons (.list T_api_Pair) .str) (.tup (.cons (.int .i64) .bool)) [] (fun v => table_place N v.1 v.2)
theorem sound_table_place (N : Nat) : SoundF Tryz.prog 109 (fun vs => (ctr_table_place N).run vs some) :=
  fn_sound (envok_table_place N) mixed (Λ := lam_table_place N) (fn := Tryz.f109) (c := c_table_place) Tryz.func109 (by kernel_rfl) (by kernel_rfl) (obs_ok (l := []) (by kernel_rfl) obsNil) (by kernel_rfl) (by intro v; kernel_rfl)

noncomputable def clone110_ren : Go.Shelf.Ren := ⟨fun | 41 => 110 | n => n, fun | 22 => 38 | 23 => 69 | n => n, fun n => n⟩
theorem clone110 : CloneL Tryz.prog clone110_ren := {
  mixed := by kernel_rfl
  f41 := ⟨Tryz.f110.name, by decide, Tryz.func110.trans (congrArg some (by kernel_rfl))⟩
  t4 := Tryz.underlying4
  a4 := Tryz.isAgg4
  z4 := Tryz.sizeOf4
  v4 := Tryz.zeroValue4
  t22 := Tryz.underlying38
  a22 := Tryz.isAgg38
  z22 := Tryz.sizeOf38
  v22 := Tryz.zeroValue38
  }
noncomputable def c_slices_Clone_s_api_Pair_api_Pair : Code := match Tryz.f110.body with | some c => c | none => .skip
noncomputable def ctr_slices_Clone_s_api_Pair_api_Pair (N : Nat) : Ctr := ctrOf (.list T_api_Pair) (.fresh T_api_Pair) [] (fun v => slices_Clone_s_api_Pair_api_Pair N v)
noncomputable def ti_slices_Clone_s_api_Pair_api_Pair : TI := match findT tyRows 69 with | some t => t | none => ⟨.other, 0, 0, [], none⟩
theorem sound_slices_Clone_s_api_Pair_api_Pair (N : Nat) : SoundF Tryz.prog 110 (fun vs => (ctr_slices_Clone_s_api_Pair_api_Pair N).run vs some) := by
  have e1 : clone110_ren.f 41 = 110 := by kernel_rfl
  have e2 : clone110_ren.t 23 = 69 := by kernel_rfl
  have h := clone_sound clone110 (ei := ti_slices_Clone_s_api_Pair_api_Pair) (ty := T_api_Pair) (fn := Tryz.f110) (c := c_slices_Clone_s_api_Pair_api_Pair) (by rw [e2]; exact findT_ok tyRows_ok 69 _ (by kernel_rfl)) (by kernel_rfl) (by rw [e1]; exact Tryz.func110) (by kernel_rfl) (by kernel_rfl)
  rw [e1, show ti_slices_Clone_s_api_Pair_api_Pair.bytes = 40 by kernel_rfl] at h
  exact h

noncomputable def insert111_ren : Go.Shelf.Ren := ⟨fun | 22 => 111 | 29 => 115 | 30 => 116 | n => n, fun | 24 => 38 | 9 => 69 | n => n, fun n => n⟩
theorem insert111 : InsertL Tryz.prog insert111_ren := {
  mixed := by kernel_rfl
  f22 := ⟨Tryz.f111.name, by decide, Tryz.func111.trans (congrArg some (by kernel_rfl))⟩
  over := ⟨Tryz.f115, Tryz.func115, by kernel_rfl, by kernel_rfl, by kernel_rfl, by kernel_rfl⟩
  t0 := Tryz.underlying0
  a0 := Tryz.isAgg0
  z0 := Tryz.sizeOf0
  v0 := Tryz.zeroValue0
  t3 := Tryz.underlying3
  a3 := Tryz.isAgg3
  z3 := Tryz.sizeOf3
  v3 := Tryz.zeroValue3
  t4 := Tryz.underlying4
  a4 := Tryz.isAgg4
  z4 := Tryz.sizeOf4
  v4 := Tryz.zeroValue4
  t24 := Tryz.underlying38
  a24 := Tryz.isAgg38
  z24 := Tryz.sizeOf38
  v24 := Tryz.zeroValue38
  }
noncomputable def c_slices_Insert_s_api_Pair_api_Pair_m : Code := match Tryz.f111.body with | some c => c | none => .skip
noncomputable def ctr_slices_Insert_s_api_Pair_api_Pair_m (N : Nat) : CtrM := ctrM (insIn T_api_Pair) (insOut T_api_Pair) [] (fun v => slices_Insert_s_api_Pair_api_Pair_m N v.1.2.1 v.2.1 v.2.2.1)
noncomputable def ti_slices_Insert_s_api_Pair_api_Pair_m : TI := match findT tyRows 69 with | some t => t | none => ⟨.other, 0, 0, [], none⟩
theorem sound_slices_Insert_s_api_Pair_api_Pair_m (N : Nat) : SoundM Tryz.prog 111 (ctr_slices_Insert_s_api_Pair_api_Pair_m N) := by
  have e1 : insert111_ren.f 22 = 111 := by kernel_rfl
  have e2 : insert111_ren.t 9 = 69 := by kernel_rfl
  have h := insert_sound insert111 (ei := ti_slices_Insert_s_api_Pair_api_Pair_m) (ty := T_api_Pair) (fn := Tryz.f111) (c := c_slices_Insert_s_api_Pair_api_Pair_m) (by rw [e2]; exact findT_ok tyRows_ok 69 _ (by kernel_rfl)) (by kernel_rfl) (by rw [e1]; exact Tryz.func111) (by kernel_rfl) (by kernel_rfl) (by kernel_rfl)
  rw [e1, show ti_slices_Insert_s_api_Pair_api_Pair_m.bytes = 40 by kernel_rfl] at h
  exact h

noncomputable def c_table_Put : Code := match Tryz.f105.body with | some c => c | none => .skip
noncomputable def tab_table_Put (N : Nat) : List (Nat × Ctr) := [(109, ctr_table_place N), (110, ctr_slices_Clone_s_api_Pair_api_Pair N)]
noncomputable def tabm_table_Put (N : Nat) : List (Nat × CtrM) := [(111, ctr_slices_Insert_s_api_Pair_api_Pair_m N)]
noncomputable def env_table_Put (N : Nat) : Env := mkEnv tyRows eqRows methRows [] [27] (tab_table_Put N) (tabm_table_Put N)
theorem envok_table_Put (N : Nat) : EnvOk Tryz.prog (env_table_Put N) := mkEnv_ok tyRows_ok eqRows_ok methRows_ok ⟨sound_table_place N, ⟨sound_slices_Clone_s_api_Pair_api_Pair N, trivial⟩⟩ ⟨sound_slices_Insert_s_api_Pair_api_Pair_m N, trivial⟩
noncomputable def lam_table_Put (_ : Nat) : Lps := fun _ => none
noncomputable def ctr_table_Put (N : Nat) : Ctr := ctrOf (.cons (.list T_api_Pair) (.val T_api_Pair)) (.fresh T_api_Pair) [] (fun v => table_Put N v.1 v.2)
theorem sound_table_Put (N : Nat) : SoundF Tryz.prog 105 (fun vs => (ctr_table_Put N).run vs some) :=
  fn_sound (envok_table_Put N) mixed (Λ := lam_table_Put N) (fn := Tryz.f105) (c := c_table_Put) Tryz.func105 (by kernel_rfl) (by kernel_rfl) (obs_ok (l := []) (by kernel_rfl) obsNil) (by kernel_rfl) (by intro v; kernel_rfl)

noncomputable def c_msg_put_apply : Code := match Tryz.f99.body with | some c => c | none => .skip
noncomputable def tab_msg_put_apply (N : Nat) : List (Nat × Ctr) := [(105, ctr_table_Put N)]
noncomputable def env_msg_put_apply (N : Nat) : Env := mkEnv tyRows eqRows methRows [] [] (tab_msg_put_apply N)
theorem envok_msg_put_apply (N : Nat) : EnvOk Tryz.prog (env_msg_put_apply N) := mkEnv_ok tyRows_ok eqRows_ok methRows_ok ⟨sound_table_Put N, trivial⟩
noncomputable def lam_msg_put_apply (_ : Nat) : Lps := fun _ => none
noncomputable def ctr_msg_put_apply (N : Nat) : Ctr := ctrOf (.cons (.val T_api_Msg) (.list T_api_Pair)) (.fresh T_api_Pair) [] (fun v => msg_put_apply N v.1 v.2)
theorem sound_msg_put_apply (N : Nat) : SoundF Tryz.prog 99 (fun vs => (ctr_msg_put_apply N).run vs some) :=
  fn_sound (envok_msg_put_apply N) mixed (Λ := lam_msg_put_apply N) (fn := Tryz.f99) (c := c_msg_put_apply) Tryz.func99 (by kernel_rfl) (by kernel_rfl) (obs_ok (l := []) (by kernel_rfl) obsNil) (by kernel_rfl) (by intro v; kernel_rfl)

noncomputable def c_span_One : Code := match Tryz.f108.body with | some c => c | none => .skip
noncomputable def tab_span_One (_ : Nat) : List (Nat × Ctr) := []
noncomputable def env_span_One (N : Nat) : Env := mkEnv tyRows eqRows methRows [] [] (tab_span_One N)
theorem envok_span_One (N : Nat) : EnvOk Tryz.prog (env_span_One N) := mkEnv_ok tyRows_ok eqRows_ok methRows_ok trivial
noncomputable def lam_span_One (_ : Nat) : Lps := fun _ => none
noncomputable def ctr_span_One (N : Nat) : Ctr := ctrOf .str (.val T_api_Span) [] (fun v => span_One N v)
theorem sound_span_One (N : Nat) : SoundF Tryz.prog 108 (fun vs => (ctr_span_One N).run vs some) :=
  fn_sound (envok_span_One N) mixed (Λ := lam_span_One N) (fn := Tryz.f108) (c := c_span_One) Tryz.func108 (by kernel_rfl) (by kernel_rfl) (obs_ok (l := []) (by kernel_rfl) obsNil) (by kernel_rfl) (by intro v; kernel_rfl)

noncomputable def c_span_Empty : Code := match Tryz.f74.body with | some c => c | none => .skip
noncomputable def tab_span_Empty (_ : Nat) : List (Nat × Ctr) := []
noncomputable def env_span_Empty (N : Nat) : Env := mkEnv tyRows eqRows methRows [] [] (tab_span_Empty N)
theorem envok_span_Empty (N : Nat) : EnvOk Tryz.prog (env_span_Empty N) := mkEnv_ok tyRows_ok eqRows_ok methRows_ok trivial
noncomputable def lam_span_Empty (_ : Nat) : Lps := fun _ => none
noncomputable def ctr_span_Empty (N : Nat) : Ctr := ctrOf (.val T_api_Span) .bool [] (fun v => span_Empty N v)
theorem sound_span_Empty (N : Nat) : SoundF Tryz.prog 74 (fun vs => (ctr_span_Empty N).run vs some) :=
  fn_sound (envok_span_Empty N) mixed (Λ := lam_span_Empty N) (fn := Tryz.f74) (c := c_span_Empty) Tryz.func74 (by kernel_rfl) (by kernel_rfl) (obs_ok (l := []) (by kernel_rfl) obsNil) (by kernel_rfl) (by intro v; kernel_rfl)

noncomputable def c_table_bounds : Code := match Tryz.f129.body with | some c => c | none => .skip
noncomputable def tab_table_bounds (N : Nat) : List (Nat × Ctr) := [(74, ctr_span_Empty N), (109, ctr_table_place N)]
noncomputable def env_table_bounds (N : Nat) : Env := mkEnv tyRows eqRows methRows [] [] (tab_table_bounds N)
theorem envok_table_bounds (N : Nat) : EnvOk Tryz.prog (env_table_bounds N) := mkEnv_ok tyRows_ok eqRows_ok methRows_ok ⟨sound_span_Empty N, ⟨sound_table_place N, trivial⟩⟩
noncomputable def lam_table_bounds (_ : Nat) : Lps := fun _ => none
noncomputable def ctr_table_bounds (N : Nat) : Ctr := ctrOf (.cons (.list T_api_Pair) (.val T_api_Span)) (.tup (.cons (.int .i64) (.int .i64))) [] (fun v => table_bounds N v.1 v.2)
theorem sound_table_bounds (N : Nat) : SoundF Tryz.prog 129 (fun vs => (ctr_table_bounds N).run vs some) :=
  fn_sound (envok_table_bounds N) mixed (Λ := lam_table_bounds N) (fn := Tryz.f129) (c := c_table_bounds) Tryz.func129 (by kernel_rfl) (by kernel_rfl) (obs_ok (l := []) (by kernel_rfl) obsNil) (by kernel_rfl) (by intro v; kernel_rfl)

noncomputable def grow131_ren : Go.Shelf.Ren := ⟨fun | 4 => 131 | n => n, fun | 22 => 38 | 25 => 69 | n => n, fun n => n⟩
theorem grow131 : Go.Proofs.Lays8.n4 Tryz.prog grow131_ren := {
  mixed := by kernel_rfl
  f4 := ⟨Tryz.f131.name, by decide, Tryz.func131.trans (congrArg some (by kernel_rfl))⟩
  t0 := Tryz.underlying0
  a0 := Tryz.isAgg0
  z0 := Tryz.sizeOf0
  v0 := Tryz.zeroValue0
  t3 := Tryz.underlying3
  a3 := Tryz.isAgg3
  z3 := Tryz.sizeOf3
  v3 := Tryz.zeroValue3
  t4 := Tryz.underlying4
  a4 := Tryz.isAgg4
  z4 := Tryz.sizeOf4
  v4 := Tryz.zeroValue4
  t9 := Tryz.underlying9
  a9 := Tryz.isAgg9
  z9 := Tryz.sizeOf9
  v9 := Tryz.zeroValue9
  t20 := Tryz.underlying20
  a20 := Tryz.isAgg20
  z20 := Tryz.sizeOf20
  v20 := Tryz.zeroValue20
  t22 := Tryz.underlying38
  a22 := Tryz.isAgg38
  z22 := Tryz.sizeOf38
  v22 := Tryz.zeroValue38
  }
noncomputable def c_slices_Grow_s_api_Pair_api_Pair_nil : Code := match Tryz.f131.body with | some c => c | none => .skip
noncomputable def ctr_slices_Grow_s_api_Pair_api_Pair_nil (_ : Nat) : Ctr := ctrOf (.cons .nils (.int .i64)) (.fresh T_api_Pair) [] (growF T_api_Pair 40)
noncomputable def ti_slices_Grow_s_api_Pair_api_Pair_nil : TI := match findT tyRows 69 with | some t => t | none => ⟨.other, 0, 0, [], none⟩
theorem sound_slices_Grow_s_api_Pair_api_Pair_nil (N : Nat) : SoundF Tryz.prog 131 (fun vs => (ctr_slices_Grow_s_api_Pair_api_Pair_nil N).run vs some) := by
  have e1 : grow131_ren.f 4 = 131 := by kernel_rfl
  have e2 : grow131_ren.t 25 = 69 := by kernel_rfl
  have h := grow_sound grow131 (ei := ti_slices_Grow_s_api_Pair_api_Pair_nil) (ty := T_api_Pair) (fn := Tryz.f131) (c := c_slices_Grow_s_api_Pair_api_Pair_nil) (by rw [e2]; exact findT_ok tyRows_ok 69 _ (by kernel_rfl)) (by kernel_rfl) (by rw [e1]; exact Tryz.func131) (by kernel_rfl) (by kernel_rfl)
  rw [e1, show ti_slices_Grow_s_api_Pair_api_Pair_nil.bytes = 40 by kernel_rfl] at h
  exact h

noncomputable def c_slices_Concat_s_api_Pair_api_Pair : Code := match Tryz.f130.body with | some c => c | none => .skip
noncomputable def tab_slices_Concat_s_api_Pair_api_Pair (N : Nat) : List (Nat × Ctr) := [(131, ctr_slices_Grow_s_api_Pair_api_Pair_nil N)]
noncomputable def env_slices_Concat_s_api_Pair_api_Pair (N : Nat) : Env := mkEnv tyRows eqRows methRows [] [] (tab_slices_Concat_s_api_Pair_api_Pair N)
theorem envok_slices_Concat_s_api_Pair_api_Pair (N : Nat) : EnvOk Tryz.prog (env_slices_Concat_s_api_Pair_api_Pair N) := mkEnv_ok tyRows_ok eqRows_ok methRows_ok ⟨sound_slices_Grow_s_api_Pair_api_Pair_nil N, trivial⟩
noncomputable def cut_slices_Concat_s_api_Pair_api_Pair_l1 : Cut := { tms := [6, 25, 26, 27], sh := (.cons (.own 2000000) (.cons (.list (.list T_api_Pair)) (.cons (.int .i64) (.int .i64)))), objs := [(2000000, [6], .sl T_api_Pair)], sts := [] }
noncomputable def cut_slices_Concat_s_api_Pair_api_Pair_l1_o0 : Cut := { tms := [6], sh := (.own 2000000), objs := [(2000000, [6], .sl T_api_Pair)], sts := [] }
noncomputable def lp_slices_Concat_s_api_Pair_api_Pair_l1 (N : Nat) : Lp := lpOf cut_slices_Concat_s_api_Pair_api_Pair_l1 (4, cut_slices_Concat_s_api_Pair_api_Pair_l1_o0) [] (fun v => slices_Concat_s_api_Pair_api_Pair_l1 N N v.1.2.1 v.1.2.2.1 v.1.2.2.2 v.2.1)
noncomputable def lam_slices_Concat_s_api_Pair_api_Pair_l1 (_ : Nat) : Lps := fun _ => none
theorem lpok_slices_Concat_s_api_Pair_api_Pair_l1 (N : Nat) (ro : Option Nat) : LpOk Tryz.prog 36 ro (lp_slices_Concat_s_api_Pair_api_Pair_l1 N) (codeAt c_slices_Concat_s_api_Pair_api_Pair [true, true, true, true, false, true, false]) := by
  rw [show (codeAt c_slices_Concat_s_api_Pair_api_Pair [true, true, true, true, false, true, false]) = .loop (codeAt c_slices_Concat_s_api_Pair_api_Pair [true, true, true, true, false, true, false, false]) by kernel_rfl]
  exact loop_ok (envok_slices_Concat_s_api_Pair_api_Pair N) mixed (Λ := lam_slices_Concat_s_api_Pair_api_Pair_l1 N) (p := 500) (obs_ok (l := []) (by kernel_rfl) obsNil) (by kernel_rfl) (by intro rec v; kernel_rfl) N
noncomputable def cut_slices_Concat_s_api_Pair_api_Pair_l0 : Cut := { tms := [0, 3, 9, 10, 11], sh := (.cons (.list (.list T_api_Pair)) (.cons (.int .i64) (.cons (.list (.list T_api_Pair)) (.cons (.int .i64) (.int .i64))))), objs := [], sts := [] }
noncomputable def cut_slices_Concat_s_api_Pair_api_Pair_l0_o0 : Cut := { tms := [0, 3], sh := (.cons (.list (.list T_api_Pair)) (.int .i64)), objs := [], sts := [] }
noncomputable def lp_slices_Concat_s_api_Pair_api_Pair_l0 (N : Nat) : Lp := lpOf cut_slices_Concat_s_api_Pair_api_Pair_l0 (2, cut_slices_Concat_s_api_Pair_api_Pair_l0_o0) [] (fun v => slices_Concat_s_api_Pair_api_Pair_l0 N N v.1.1 v.1.2.1 v.1.2.2.1 v.1.2.2.2.1 v.1.2.2.2.2)
noncomputable def lam_slices_Concat_s_api_Pair_api_Pair_l0 (_ : Nat) : Lps := fun _ => none
theorem lpok_slices_Concat_s_api_Pair_api_Pair_l0 (N : Nat) (ro : Option Nat) : LpOk Tryz.prog 36 ro (lp_slices_Concat_s_api_Pair_api_Pair_l0 N) (codeAt c_slices_Concat_s_api_Pair_api_Pair [true, true, false, true, false]) := by
  rw [show (codeAt c_slices_Concat_s_api_Pair_api_Pair [true, true, false, true, false]) = .loop (codeAt c_slices_Concat_s_api_Pair_api_Pair [true, true, false, true, false, false]) by kernel_rfl]
  exact loop_ok (envok_slices_Concat_s_api_Pair_api_Pair N) mixed (Λ := lam_slices_Concat_s_api_Pair_api_Pair_l0 N) (p := 116) (obs_ok (l := []) (by kernel_rfl) obsNil) (by kernel_rfl) (by intro rec v; kernel_rfl) N
noncomputable def lam_slices_Concat_s_api_Pair_api_Pair (N : Nat) : Lps := fun p => bif Nat.beq p 58 then some (lp_slices_Concat_s_api_Pair_api_Pair_l0 N) else bif Nat.beq p 250 then some (lp_slices_Concat_s_api_Pair_api_Pair_l1 N) else none
noncomputable def ctr_slices_Concat_s_api_Pair_api_Pair (N : Nat) : Ctr := ctrOf (.list (.list T_api_Pair)) (.fresh T_api_Pair) [] (fun v => slices_Concat_s_api_Pair_api_Pair N v)
theorem sound_slices_Concat_s_api_Pair_api_Pair (N : Nat) : SoundF Tryz.prog 130 (fun vs => (ctr_slices_Concat_s_api_Pair_api_Pair N).run vs some) :=
  fn_sound (envok_slices_Concat_s_api_Pair_api_Pair N) mixed (Λ := lam_slices_Concat_s_api_Pair_api_Pair N) (fn := Tryz.f130) (c := c_slices_Concat_s_api_Pair_api_Pair) Tryz.func130 (by kernel_rfl) (by kernel_rfl) (obs_ok (l := [(lp_slices_Concat_s_api_Pair_api_Pair_l0 N, (codeAt c_slices_Concat_s_api_Pair_api_Pair [true, true, false, true, false])), (lp_slices_Concat_s_api_Pair_api_Pair_l1 N, (codeAt c_slices_Concat_s_api_Pair_api_Pair [true, true, true, true, false, true, false]))]) (by kernel_rfl) (obsCons (lpok_slices_Concat_s_api_Pair_api_Pair_l0 N none) (obsCons (lpok_slices_Concat_s_api_Pair_api_Pair_l1 N none) obsNil))) (by kernel_rfl) (by intro v; kernel_rfl)

noncomputable def c_table_Drop : Code := match Tryz.f128.body with | some c => c | none => .skip
noncomputable def tab_table_Drop (N : Nat) : List (Nat × Ctr) := [(129, ctr_table_bounds N), (130, ctr_slices_Concat_s_api_Pair_api_Pair N)]
noncomputable def env_table_Drop (N : Nat) : Env := mkEnv tyRows eqRows methRows [] [] (tab_table_Drop N)
theorem envok_table_Drop (N : Nat) : EnvOk Tryz.prog (env_table_Drop N) := mkEnv_ok tyRows_ok eqRows_ok methRows_ok ⟨sound_table_bounds N, ⟨sound_slices_Concat_s_api_Pair_api_Pair N, trivial⟩⟩
noncomputable def lam_table_Drop (_ : Nat) : Lps := fun _ => none
noncomputable def ctr_table_Drop (N : Nat) : Ctr := ctrOf (.cons (.list T_api_Pair) (.val T_api_Span)) (.fresh T_api_Pair) [] (fun v => table_Drop N v.1 v.2)
theorem sound_table_Drop (N : Nat) : SoundF Tryz.prog 128 (fun vs => (ctr_table_Drop N).run vs some) :=
  fn_sound (envok_table_Drop N) mixed (Λ := lam_table_Drop N) (fn := Tryz.f128) (c := c_table_Drop) Tryz.func128 (by kernel_rfl) (by kernel_rfl) (obs_ok (l := []) (by kernel_rfl) obsNil) (by kernel_rfl) (by intro v; kernel_rfl)

noncomputable def c_table_Del : Code := match Tryz.f127.body with | some c => c | none => .skip
noncomputable def tab_table_Del (N : Nat) : List (Nat × Ctr) := [(108, ctr_span_One N), (128, ctr_table_Drop N)]
noncomputable def env_table_Del (N : Nat) : Env := mkEnv tyRows eqRows methRows [] [] (tab_table_Del N)
theorem envok_table_Del (N : Nat) : EnvOk Tryz.prog (env_table_Del N) := mkEnv_ok tyRows_ok eqRows_ok methRows_ok ⟨sound_span_One N, ⟨sound_table_Drop N, trivial⟩⟩
noncomputable def lam_table_Del (_ : Nat) : Lps := fun _ => none
noncomputable def ctr_table_Del (N : Nat) : Ctr := ctrOf (.cons (.list T_api_Pair) .str) (.fresh T_api_Pair) [] (fun v => table_Del N v.1 v.2)
theorem sound_table_Del (N : Nat) : SoundF Tryz.prog 127 (fun vs => (ctr_table_Del N).run vs some) :=
  fn_sound (envok_table_Del N) mixed (Λ := lam_table_Del N) (fn := Tryz.f127) (c := c_table_Del) Tryz.func127 (by kernel_rfl) (by kernel_rfl) (obs_ok (l := []) (by kernel_rfl) obsNil) (by kernel_rfl) (by intro v; kernel_rfl)

noncomputable def c_msg_del_apply : Code := match Tryz.f121.body with | some c => c | none => .skip
noncomputable def tab_msg_del_apply (N : Nat) : List (Nat × Ctr) := [(127, ctr_table_Del N)]
noncomputable def env_msg_del_apply (N : Nat) : Env := mkEnv tyRows eqRows methRows [] [] (tab_msg_del_apply N)
theorem envok_msg_del_apply (N : Nat) : EnvOk Tryz.prog (env_msg_del_apply N) := mkEnv_ok tyRows_ok eqRows_ok methRows_ok ⟨sound_table_Del N, trivial⟩
noncomputable def lam_msg_del_apply (_ : Nat) : Lps := fun _ => none
noncomputable def ctr_msg_del_apply (N : Nat) : Ctr := ctrOf (.cons (.val T_api_Msg) (.list T_api_Pair)) (.fresh T_api_Pair) [] (fun v => msg_del_apply N v.1 v.2)
theorem sound_msg_del_apply (N : Nat) : SoundF Tryz.prog 121 (fun vs => (ctr_msg_del_apply N).run vs some) :=
  fn_sound (envok_msg_del_apply N) mixed (Λ := lam_msg_del_apply N) (fn := Tryz.f121) (c := c_msg_del_apply) Tryz.func121 (by kernel_rfl) (by kernel_rfl) (obs_ok (l := []) (by kernel_rfl) obsNil) (by kernel_rfl) (by intro v; kernel_rfl)

noncomputable def c_msg_drop_apply : Code := match Tryz.f132.body with | some c => c | none => .skip
noncomputable def tab_msg_drop_apply (N : Nat) : List (Nat × Ctr) := [(128, ctr_table_Drop N)]
noncomputable def env_msg_drop_apply (N : Nat) : Env := mkEnv tyRows eqRows methRows [] [] (tab_msg_drop_apply N)
theorem envok_msg_drop_apply (N : Nat) : EnvOk Tryz.prog (env_msg_drop_apply N) := mkEnv_ok tyRows_ok eqRows_ok methRows_ok ⟨sound_table_Drop N, trivial⟩
noncomputable def lam_msg_drop_apply (_ : Nat) : Lps := fun _ => none
noncomputable def ctr_msg_drop_apply (N : Nat) : Ctr := ctrOf (.cons (.val T_api_Msg) (.list T_api_Pair)) (.fresh T_api_Pair) [] (fun v => msg_drop_apply N v.1 v.2)
theorem sound_msg_drop_apply (N : Nat) : SoundF Tryz.prog 132 (fun vs => (ctr_msg_drop_apply N).run vs some) :=
  fn_sound (envok_msg_drop_apply N) mixed (Λ := lam_msg_drop_apply N) (fn := Tryz.f132) (c := c_msg_drop_apply) Tryz.func132 (by kernel_rfl) (by kernel_rfl) (obs_ok (l := []) (by kernel_rfl) obsNil) (by kernel_rfl) (by intro v; kernel_rfl)

noncomputable def c_span_Prefix : Code := match Tryz.f146.body with | some c => c | none => .skip
noncomputable def tab_span_Prefix (_ : Nat) : List (Nat × Ctr) := []
noncomputable def env_span_Prefix (N : Nat) : Env := mkEnv tyRows eqRows methRows [] [22] (tab_span_Prefix N)
theorem envok_span_Prefix (N : Nat) : EnvOk Tryz.prog (env_span_Prefix N) := mkEnv_ok tyRows_ok eqRows_ok methRows_ok trivial
noncomputable def cut_span_Prefix_l0 : Cut := { tms := [0, 2, 3], sh := (.cons .str (.cons (.ptr 2000000 0) (.own 2000001))), objs := [(2000000, [2], .box (.cons .str .str)), (2000001, [3], .sl (.int .u8))], sts := [] }
noncomputable def cut_span_Prefix_l0_o0 : Cut := { tms := [0, 2, 3], sh := (.cons .str (.cons (.ptr 2000000 0) (.own 2000001))), objs := [(2000000, [2], .box (.cons .str .str)), (2000001, [3], .sl (.int .u8))], sts := [] }
noncomputable def lp_span_Prefix_l0 (N : Nat) : Lp := lpOf cut_span_Prefix_l0 (2, cut_span_Prefix_l0_o0) [] (fun v => span_Prefix_l0 N N v.1.1 v.2.1.1 v.2.1.2 v.2.2.1)
noncomputable def lam_span_Prefix_l0 (_ : Nat) : Lps := fun _ => none
theorem lpok_span_Prefix_l0 (N : Nat) (ro : Option Nat) : LpOk Tryz.prog 38 ro (lp_span_Prefix_l0 N) (codeAt c_span_Prefix [true, true, false, false]) := by
  rw [show (codeAt c_span_Prefix [true, true, false, false]) = .loop (codeAt c_span_Prefix [true, true, false, false, false]) by kernel_rfl]
  exact loop_ok (envok_span_Prefix N) mixed (Λ := lam_span_Prefix_l0 N) (p := 56) (obs_ok (l := []) (by kernel_rfl) obsNil) (by kernel_rfl) (by intro rec v; kernel_rfl) N
noncomputable def lam_span_Prefix (N : Nat) : Lps := fun p => bif Nat.beq p 28 then some (lp_span_Prefix_l0 N) else none
noncomputable def ctr_span_Prefix (N : Nat) : Ctr := ctrOf .str (.val T_api_Span) [] (fun v => span_Prefix N v)
theorem sound_span_Prefix (N : Nat) : SoundF Tryz.prog 146 (fun vs => (ctr_span_Prefix N).run vs some) :=
  fn_sound (envok_span_Prefix N) mixed (Λ := lam_span_Prefix N) (fn := Tryz.f146) (c := c_span_Prefix) Tryz.func146 (by kernel_rfl) (by kernel_rfl) (obs_ok (l := [(lp_span_Prefix_l0 N, (codeAt c_span_Prefix [true, true, false, false]))]) (by kernel_rfl) (obsCons (lpok_span_Prefix_l0 N none) obsNil)) (by kernel_rfl) (by intro v; kernel_rfl)

noncomputable def c_table_Range : Code := match Tryz.f151.body with | some c => c | none => .skip
noncomputable def tab_table_Range (N : Nat) : List (Nat × Ctr) := [(129, ctr_table_bounds N)]
noncomputable def env_table_Range (N : Nat) : Env := mkEnv tyRows eqRows methRows [] [] (tab_table_Range N)
theorem envok_table_Range (N : Nat) : EnvOk Tryz.prog (env_table_Range N) := mkEnv_ok tyRows_ok eqRows_ok methRows_ok ⟨sound_table_bounds N, trivial⟩
noncomputable def lam_table_Range (_ : Nat) : Lps := fun _ => none
noncomputable def ctr_table_Range (N : Nat) : Ctr := ctrOf (.cons (.list T_api_Pair) (.val T_api_Span)) (.list T_api_Pair) [] (fun v => table_Range N v.1 v.2)
theorem sound_table_Range (N : Nat) : SoundF Tryz.prog 151 (fun vs => (ctr_table_Range N).run vs some) :=
  fn_sound (envok_table_Range N) mixed (Λ := lam_table_Range N) (fn := Tryz.f151) (c := c_table_Range) Tryz.func151 (by kernel_rfl) (by kernel_rfl) (obs_ok (l := []) (by kernel_rfl) obsNil) (by kernel_rfl) (by intro v; kernel_rfl)

noncomputable def c_stringslite_HasPrefix : Code := match Tryz.f153.body with | some c => c | none => .skip
noncomputable def tab_stringslite_HasPrefix (_ : Nat) : List (Nat × Ctr) := []
noncomputable def env_stringslite_HasPrefix (N : Nat) : Env := mkEnv tyRows eqRows methRows [] [] (tab_stringslite_HasPrefix N)
theorem envok_stringslite_HasPrefix (N : Nat) : EnvOk Tryz.prog (env_stringslite_HasPrefix N) := mkEnv_ok tyRows_ok eqRows_ok methRows_ok trivial
noncomputable def lam_stringslite_HasPrefix (_ : Nat) : Lps := fun _ => none
noncomputable def ctr_stringslite_HasPrefix (N : Nat) : Ctr := ctrOf (.cons .str .str) .bool [] (fun v => stringslite_HasPrefix N v.1 v.2)
theorem sound_stringslite_HasPrefix (N : Nat) : SoundF Tryz.prog 153 (fun vs => (ctr_stringslite_HasPrefix N).run vs some) :=
  fn_sound (envok_stringslite_HasPrefix N) mixed (Λ := lam_stringslite_HasPrefix N) (fn := Tryz.f153) (c := c_stringslite_HasPrefix) Tryz.func153 (by kernel_rfl) (by kernel_rfl) (obs_ok (l := []) (by kernel_rfl) obsNil) (by kernel_rfl) (by intro v; kernel_rfl)

noncomputable def c_stringslite_CutPrefix : Code := match Tryz.f155.body with | some c => c | none => .skip
noncomputable def tab_stringslite_CutPrefix (N : Nat) : List (Nat × Ctr) := [(153, ctr_stringslite_HasPrefix N)]
noncomputable def env_stringslite_CutPrefix (N : Nat) : Env := mkEnv tyRows eqRows methRows [] [] (tab_stringslite_CutPrefix N)
theorem envok_stringslite_CutPrefix (N : Nat) : EnvOk Tryz.prog (env_stringslite_CutPrefix N) := mkEnv_ok tyRows_ok eqRows_ok methRows_ok ⟨sound_stringslite_HasPrefix N, trivial⟩
noncomputable def lam_stringslite_CutPrefix (_ : Nat) : Lps := fun _ => none
noncomputable def ctr_stringslite_CutPrefix (N : Nat) : Ctr := ctrOf (.cons .str .str) (.tup (.cons .str .bool)) [] (fun v => stringslite_CutPrefix N v.1 v.2)
theorem sound_stringslite_CutPrefix (N : Nat) : SoundF Tryz.prog 155 (fun vs => (ctr_stringslite_CutPrefix N).run vs some) :=
  fn_sound (envok_stringslite_CutPrefix N) mixed (Λ := lam_stringslite_CutPrefix N) (fn := Tryz.f155) (c := c_stringslite_CutPrefix) Tryz.func155 (by kernel_rfl) (by kernel_rfl) (obs_ok (l := []) (by kernel_rfl) obsNil) (by kernel_rfl) (by intro v; kernel_rfl)

noncomputable def c_strings_CutPrefix : Code := match Tryz.f154.body with | some c => c | none => .skip
noncomputable def tab_strings_CutPrefix (N : Nat) : List (Nat × Ctr) := [(155, ctr_stringslite_CutPrefix N)]
noncomputable def env_strings_CutPrefix (N : Nat) : Env := mkEnv tyRows eqRows methRows [] [] (tab_strings_CutPrefix N)
theorem envok_strings_CutPrefix (N : Nat) : EnvOk Tryz.prog (env_strings_CutPrefix N) := mkEnv_ok tyRows_ok eqRows_ok methRows_ok ⟨sound_stringslite_CutPrefix N, trivial⟩
noncomputable def lam_strings_CutPrefix (_ : Nat) : Lps := fun _ => none
noncomputable def ctr_strings_CutPrefix (N : Nat) : Ctr := ctrOf (.cons .str .str) (.tup (.cons .str .bool)) [] (fun v => strings_CutPrefix N v.1 v.2)
theorem sound_strings_CutPrefix (N : Nat) : SoundF Tryz.prog 154 (fun vs => (ctr_strings_CutPrefix N).run vs some) :=
  fn_sound (envok_strings_CutPrefix N) mixed (Λ := lam_strings_CutPrefix N) (fn := Tryz.f154) (c := c_strings_CutPrefix) Tryz.func154 (by kernel_rfl) (by kernel_rfl) (obs_ok (l := []) (by kernel_rfl) obsNil) (by kernel_rfl) (by intro v; kernel_rfl)

noncomputable def c_span_Moved : Code := match Tryz.f152.body with | some c => c | none => .skip
noncomputable def tab_span_Moved (N : Nat) : List (Nat × Ctr) := [(154, ctr_strings_CutPrefix N)]
noncomputable def env_span_Moved (N : Nat) : Env := mkEnv tyRows eqRows methRows [] [] (tab_span_Moved N)
theorem envok_span_Moved (N : Nat) : EnvOk Tryz.prog (env_span_Moved N) := mkEnv_ok tyRows_ok eqRows_ok methRows_ok ⟨sound_strings_CutPrefix N, trivial⟩
noncomputable def lam_span_Moved (_ : Nat) : Lps := fun _ => none
noncomputable def ctr_span_Moved (N : Nat) : Ctr := ctrOf (.cons .str (.cons .str .str)) (.tup (.cons .str .bool)) [] (fun v => span_Moved N v.1 v.2.1 v.2.2)
theorem sound_span_Moved (N : Nat) : SoundF Tryz.prog 152 (fun vs => (ctr_span_Moved N).run vs some) :=
  fn_sound (envok_span_Moved N) mixed (Λ := lam_span_Moved N) (fn := Tryz.f152) (c := c_span_Moved) Tryz.func152 (by kernel_rfl) (by kernel_rfl) (obs_ok (l := []) (by kernel_rfl) obsNil) (by kernel_rfl) (by intro v; kernel_rfl)

noncomputable def c_msg_moved : Code := match Tryz.f149.body with | some c => c | none => .skip
noncomputable def tab_msg_moved (N : Nat) : List (Nat × Ctr) := [(146, ctr_span_Prefix N), (151, ctr_table_Range N), (110, ctr_slices_Clone_s_api_Pair_api_Pair N), (152, ctr_span_Moved N)]
noncomputable def env_msg_moved (N : Nat) : Env := mkEnv tyRows eqRows methRows [] [] (tab_msg_moved N)
theorem envok_msg_moved (N : Nat) : EnvOk Tryz.prog (env_msg_moved N) := mkEnv_ok tyRows_ok eqRows_ok methRows_ok ⟨sound_span_Prefix N, ⟨sound_table_Range N, ⟨sound_slices_Clone_s_api_Pair_api_Pair N, ⟨sound_span_Moved N, trivial⟩⟩⟩⟩
noncomputable def cut_msg_moved_l0 : Cut := { tms := [1, 2, 7, 15, 16], sh := (.cons .str (.cons .str (.cons (.own 2000000) (.cons (.int .i64) (.int .i64))))), objs := [(2000000, [7], .sl T_api_Pair)], sts := [] }
noncomputable def cut_msg_moved_l0_o0 : Cut := { tms := [7], sh := (.own 2000000), objs := [(2000000, [7], .sl T_api_Pair)], sts := [] }
noncomputable def lp_msg_moved_l0 (N : Nat) : Lp := lpOf cut_msg_moved_l0 (2, cut_msg_moved_l0_o0) [] (fun v => msg_moved_l0 N N v.1.1 v.1.2.1 v.1.2.2.2.1 v.1.2.2.2.2 v.2.1)
noncomputable def lam_msg_moved_l0 (_ : Nat) : Lps := fun _ => none
theorem lpok_msg_moved_l0 (N : Nat) (ro : Option Nat) : LpOk Tryz.prog 36 ro (lp_msg_moved_l0 N) (codeAt c_msg_moved [true, true, false, true, false]) := by
  rw [show (codeAt c_msg_moved [true, true, false, true, false]) = .loop (codeAt c_msg_moved [true, true, false, true, false, false]) by kernel_rfl]
  exact loop_ok (envok_msg_moved N) mixed (Λ := lam_msg_moved_l0 N) (p := 116) (obs_ok (l := []) (by kernel_rfl) obsNil) (by kernel_rfl) (by intro rec v; kernel_rfl) N
noncomputable def lam_msg_moved (N : Nat) : Lps := fun p => bif Nat.beq p 58 then some (lp_msg_moved_l0 N) else none
noncomputable def ctr_msg_moved (N : Nat) : Ctr := ctrOf (.cons (.list T_api_Pair) (.cons .str .str)) (.fresh T_api_Pair) [] (fun v => msg_moved N v.1 v.2.1 v.2.2)
theorem sound_msg_moved (N : Nat) : SoundF Tryz.prog 149 (fun vs => (ctr_msg_moved N).run vs some) :=
  fn_sound (envok_msg_moved N) mixed (Λ := lam_msg_moved N) (fn := Tryz.f149) (c := c_msg_moved) Tryz.func149 (by kernel_rfl) (by kernel_rfl) (obs_ok (l := [(lp_msg_moved_l0 N, (codeAt c_msg_moved [true, true, false, true, false]))]) (by kernel_rfl) (obsCons (lpok_msg_moved_l0 N none) obsNil)) (by kernel_rfl) (by intro v; kernel_rfl)

noncomputable def c_table_Union : Code := match Tryz.f148.body with | some c => c | none => .skip
noncomputable def tab_table_Union (_ : Nat) : List (Nat × Ctr) := []
noncomputable def env_table_Union (N : Nat) : Env := mkEnv tyRows eqRows methRows [] [] (tab_table_Union N)
theorem envok_table_Union (N : Nat) : EnvOk Tryz.prog (env_table_Union N) := mkEnv_ok tyRows_ok eqRows_ok methRows_ok trivial
noncomputable def cut_table_Union_l0 : Cut := { tms := [0, 1, 5], sh := (.cons (.list T_api_Pair) (.cons (.list T_api_Pair) (.own 2000000))), objs := [(2000000, [5], .sl T_api_Pair)], sts := [] }
noncomputable def cut_table_Union_l0_o0 : Cut := { tms := [0, 1, 5], sh := (.cons (.list T_api_Pair) (.cons (.list T_api_Pair) (.own 2000000))), objs := [(2000000, [5], .sl T_api_Pair)], sts := [] }
noncomputable def lp_table_Union_l0 (N : Nat) : Lp := lpOf cut_table_Union_l0 (2, cut_table_Union_l0_o0) [] (fun v => table_Union_l0 N N v.1.1 v.1.2.1 v.2.1)
noncomputable def lam_table_Union_l0 (_ : Nat) : Lps := fun _ => none
theorem lpok_table_Union_l0 (N : Nat) (ro : Option Nat) : LpOk Tryz.prog 64 ro (lp_table_Union_l0 N) (codeAt c_table_Union [true, false, true, true, false, false]) := by
  rw [show (codeAt c_table_Union [true, false, true, true, false, false]) = .loop (codeAt c_table_Union [true, false, true, true, false, false, false]) by kernel_rfl]
  exact loop_ok (envok_table_Union N) mixed (Λ := lam_table_Union_l0 N) (p := 216) (obs_ok (l := []) (by kernel_rfl) obsNil) (by kernel_rfl) (by intro rec v; kernel_rfl) N
noncomputable def lam_table_Union (N : Nat) : Lps := fun p => bif Nat.beq p 108 then some (lp_table_Union_l0 N) else none
noncomputable def ctr_table_Union (N : Nat) : Ctr := ctrOf (.cons (.list T_api_Pair) (.list T_api_Pair)) (.fresh T_api_Pair) [] (fun v => table_Union N v.1 v.2)
theorem sound_table_Union (N : Nat) : SoundF Tryz.prog 148 (fun vs => (ctr_table_Union N).run vs some) :=
  fn_sound (envok_table_Union N) mixed (Λ := lam_table_Union N) (fn := Tryz.f148) (c := c_table_Union) Tryz.func148 (by kernel_rfl) (by kernel_rfl) (obs_ok (l := [(lp_table_Union_l0 N, (codeAt c_table_Union [true, false, true, true, false, false]))]) (by kernel_rfl) (obsCons (lpok_table_Union_l0 N none) obsNil)) (by kernel_rfl) (by intro v; kernel_rfl)

noncomputable def c_msg_clone_apply : Code := match Tryz.f145.body with | some c => c | none => .skip
noncomputable def tab_msg_clone_apply (N : Nat) : List (Nat × Ctr) := [(146, ctr_span_Prefix N), (128, ctr_table_Drop N), (149, ctr_msg_moved N), (148, ctr_table_Union N)]
noncomputable def env_msg_clone_apply (N : Nat) : Env := mkEnv tyRows eqRows methRows [] [] (tab_msg_clone_apply N)
theorem envok_msg_clone_apply (N : Nat) : EnvOk Tryz.prog (env_msg_clone_apply N) := mkEnv_ok tyRows_ok eqRows_ok methRows_ok ⟨sound_span_Prefix N, ⟨sound_table_Drop N, ⟨sound_msg_moved N, ⟨sound_table_Union N, trivial⟩⟩⟩⟩
noncomputable def lam_msg_clone_apply (_ : Nat) : Lps := fun _ => none
noncomputable def ctr_msg_clone_apply (N : Nat) : Ctr := ctrOf (.cons (.val T_api_Msg) (.list T_api_Pair)) (.fresh T_api_Pair) [] (fun v => msg_clone_apply N v.1 v.2)
theorem sound_msg_clone_apply (N : Nat) : SoundF Tryz.prog 145 (fun vs => (ctr_msg_clone_apply N).run vs some) :=
  fn_sound (envok_msg_clone_apply N) mixed (Λ := lam_msg_clone_apply N) (fn := Tryz.f145) (c := c_msg_clone_apply) Tryz.func145 (by kernel_rfl) (by kernel_rfl) (obs_ok (l := []) (by kernel_rfl) obsNil) (by kernel_rfl) (by intro v; kernel_rfl)

noncomputable def c_msg_move_apply : Code := match Tryz.f139.body with | some c => c | none => .skip
noncomputable def tab_msg_move_apply (N : Nat) : List (Nat × Ctr) := [(145, ctr_msg_clone_apply N), (146, ctr_span_Prefix N), (128, ctr_table_Drop N)]
noncomputable def env_msg_move_apply (N : Nat) : Env := mkEnv tyRows eqRows methRows [] [] (tab_msg_move_apply N)
theorem envok_msg_move_apply (N : Nat) : EnvOk Tryz.prog (env_msg_move_apply N) := mkEnv_ok tyRows_ok eqRows_ok methRows_ok ⟨sound_msg_clone_apply N, ⟨sound_span_Prefix N, ⟨sound_table_Drop N, trivial⟩⟩⟩
noncomputable def lam_msg_move_apply (_ : Nat) : Lps := fun _ => none
noncomputable def ctr_msg_move_apply (N : Nat) : Ctr := ctrOf (.cons (.val T_api_Msg) (.list T_api_Pair)) (.fresh T_api_Pair) [] (fun v => msg_move_apply N v.1 v.2)
theorem sound_msg_move_apply (N : Nat) : SoundF Tryz.prog 139 (fun vs => (ctr_msg_move_apply N).run vs some) :=
  fn_sound (envok_msg_move_apply N) mixed (Λ := lam_msg_move_apply N) (fn := Tryz.f139) (c := c_msg_move_apply) Tryz.func139 (by kernel_rfl) (by kernel_rfl) (obs_ok (l := []) (by kernel_rfl) obsNil) (by kernel_rfl) (by intro v; kernel_rfl)

noncomputable def c_span_Has : Code := match Tryz.f167.body with | some c => c | none => .skip
noncomputable def tab_span_Has (_ : Nat) : List (Nat × Ctr) := []
noncomputable def env_span_Has (N : Nat) : Env := mkEnv tyRows eqRows methRows [] [] (tab_span_Has N)
theorem envok_span_Has (N : Nat) : EnvOk Tryz.prog (env_span_Has N) := mkEnv_ok tyRows_ok eqRows_ok methRows_ok trivial
noncomputable def lam_span_Has (_ : Nat) : Lps := fun _ => none
noncomputable def ctr_span_Has (N : Nat) : Ctr := ctrOf (.cons (.val T_api_Span) .str) .bool [] (fun v => span_Has N v.1 v.2)
theorem sound_span_Has (N : Nat) : SoundF Tryz.prog 167 (fun vs => (ctr_span_Has N).run vs some) :=
  fn_sound (envok_span_Has N) mixed (Λ := lam_span_Has N) (fn := Tryz.f167) (c := c_span_Has) Tryz.func167 (by kernel_rfl) (by kernel_rfl) (obs_ok (l := []) (by kernel_rfl) obsNil) (by kernel_rfl) (by intro v; kernel_rfl)

noncomputable def c_msg_stamp_apply : Code := match Tryz.f161.body with | some c => c | none => .skip
noncomputable def tab_msg_stamp_apply (N : Nat) : List (Nat × Ctr) := [(110, ctr_slices_Clone_s_api_Pair_api_Pair N), (167, ctr_span_Has N)]
noncomputable def env_msg_stamp_apply (N : Nat) : Env := mkEnv tyRows eqRows methRows [] [] (tab_msg_stamp_apply N)
theorem envok_msg_stamp_apply (N : Nat) : EnvOk Tryz.prog (env_msg_stamp_apply N) := mkEnv_ok tyRows_ok eqRows_ok methRows_ok ⟨sound_slices_Clone_s_api_Pair_api_Pair N, ⟨sound_span_Has N, trivial⟩⟩
noncomputable def cut_msg_stamp_apply_l0 : Cut := { tms := [2, 5, 10, 11], sh := (.cons (.ptr 2000000 0) (.cons (.own 2000001) (.cons (.int .i64) (.int .i64)))), objs := [(2000000, [2], .box (.cons (.int .i64) (.cons .str (.cons .str (.cons .str (.cons .str (.cons .str (.cons .str (.int .i64))))))))), (2000001, [5], .sl T_api_Pair)], sts := [] }
noncomputable def cut_msg_stamp_apply_l0_o0 : Cut := { tms := [5], sh := (.own 2000000), objs := [(2000000, [5], .sl T_api_Pair)], sts := [] }
noncomputable def lp_msg_stamp_apply_l0 (N : Nat) : Lp := lpOf cut_msg_stamp_apply_l0 (2, cut_msg_stamp_apply_l0_o0) [] (fun v => msg_stamp_apply_l0 N N v.1.2.2.1 v.1.2.2.2 v.2.1.1 v.2.1.2.1 v.2.1.2.2.1 v.2.1.2.2.2.1 v.2.1.2.2.2.2.1 v.2.1.2.2.2.2.2.1 v.2.1.2.2.2.2.2.2.1 v.2.1.2.2.2.2.2.2.2 v.2.2.1)
noncomputable def lam_msg_stamp_apply_l0 (_ : Nat) : Lps := fun _ => none
theorem lpok_msg_stamp_apply_l0 (N : Nat) (ro : Option Nat) : LpOk Tryz.prog 30 ro (lp_msg_stamp_apply_l0 N) (codeAt c_msg_stamp_apply [true, true, false, true, false]) := by
  rw [show (codeAt c_msg_stamp_apply [true, true, false, true, false]) = .loop (codeAt c_msg_stamp_apply [true, true, false, true, false, false]) by kernel_rfl]
  exact loop_ok (envok_msg_stamp_apply N) mixed (Λ := lam_msg_stamp_apply_l0 N) (p := 116) (obs_ok (l := []) (by kernel_rfl) obsNil) (by kernel_rfl) (by intro rec v; kernel_rfl) N
noncomputable def lam_msg_stamp_apply (N : Nat) : Lps := fun p => bif Nat.beq p 58 then some (lp_msg_stamp_apply_l0 N) else none
noncomputable def ctr_msg_stamp_apply (N : Nat) : Ctr := ctrOf (.cons (.val T_api_Msg) (.list T_api_Pair)) (.fresh T_api_Pair) [] (fun v => msg_stamp_apply N v.1 v.2)
theorem sound_msg_stamp_apply (N : Nat) : SoundF Tryz.prog 161 (fun vs => (ctr_msg_stamp_apply N).run vs some) :=
  fn_sound (envok_msg_stamp_apply N) mixed (Λ := lam_msg_stamp_apply N) (fn := Tryz.f161) (c := c_msg_stamp_apply) Tryz.func161 (by kernel_rfl) (by kernel_rfl) (obs_ok (l := [(lp_msg_stamp_apply_l0 N, (codeAt c_msg_stamp_apply [true, true, false, true, false]))]) (by kernel_rfl) (obsCons (lpok_msg_stamp_apply_l0 N none) obsNil)) (by kernel_rfl) (by intro v; kernel_rfl)

noncomputable def c_msg_Apply : Code := match Tryz.f21.body with | some c => c | none => .skip
noncomputable def tab_msg_Apply (N : Nat) : List (Nat × Ctr) := [(49, ctr_msg_of N), (99, ctr_msg_put_apply N), (121, ctr_msg_del_apply N), (132, ctr_msg_drop_apply N), (139, ctr_msg_move_apply N), (145, ctr_msg_clone_apply N), (161, ctr_msg_stamp_apply N)]
noncomputable def env_msg_Apply (N : Nat) : Env := mkEnv tyRows eqRows methRows [(endKey, [12])] [] (tab_msg_Apply N)
theorem envok_msg_Apply (N : Nat) : EnvOk Tryz.prog (env_msg_Apply N) := mkEnv_ok tyRows_ok eqRows_ok methRows_ok ⟨sound_msg_of N, ⟨sound_msg_put_apply N, ⟨sound_msg_del_apply N, ⟨sound_msg_drop_apply N, ⟨sound_msg_move_apply N, ⟨sound_msg_clone_apply N, ⟨sound_msg_stamp_apply N, trivial⟩⟩⟩⟩⟩⟩⟩
noncomputable def lam_msg_Apply (_ : Nat) : Lps := fun _ => none
noncomputable def ctr_msg_Apply (N : Nat) : Ctr := ctrOf (.cons (.list T_api_Pair) (.val T_api_Msg)) (.list T_api_Pair) [] (fun v => msg_Apply N v.1 v.2)
theorem sound_msg_Apply (N : Nat) : SoundF Tryz.prog 21 (fun vs => (ctr_msg_Apply N).run vs some) :=
  fn_sound (envok_msg_Apply N) mixed (Λ := lam_msg_Apply N) (fn := Tryz.f21) (c := c_msg_Apply) Tryz.func21 (by kernel_rfl) (by kernel_rfl) (obs_ok (l := []) (by kernel_rfl) obsNil) (by kernel_rfl) (by intro v; kernel_rfl)

noncomputable def c_ref05_Same : Code := match Tryz.f22.body with | some c => c | none => .skip
noncomputable def tab_ref05_Same (_ : Nat) : List (Nat × Ctr) := []
noncomputable def env_ref05_Same (N : Nat) : Env := mkEnv tyRows eqRows methRows [] [] (tab_ref05_Same N)
theorem envok_ref05_Same (N : Nat) : EnvOk Tryz.prog (env_ref05_Same N) := mkEnv_ok tyRows_ok eqRows_ok methRows_ok trivial
noncomputable def cut_ref05_Same_l0 : Cut := { tms := [0, 1, 5], sh := (.cons (.list T_api_Pair) (.cons (.list T_api_Pair) (.int .i64))), objs := [], sts := [] }
noncomputable def cut_ref05_Same_l0_o0 : Cut := { tms := [4], sh := .bool, objs := [], sts := [] }
noncomputable def cut_ref05_Same_l0_o1 : Cut := { tms := [], sh := .nil, objs := [], sts := [] }
noncomputable def lp_ref05_Same_l0 (N : Nat) : Lp := lpOf cut_ref05_Same_l0 (1, cut_ref05_Same_l0_o0) [(2, cut_ref05_Same_l0_o1)] (fun v => ref05_Same_l0 N N v.1.1 v.1.2.1 v.1.2.2)
noncomputable def lam_ref05_Same_l0 (_ : Nat) : Lps := fun _ => none
theorem lpok_ref05_Same_l0 (N : Nat) (ro : Option Nat) : LpOk Tryz.prog 26 ro (lp_ref05_Same_l0 N) (codeAt c_ref05_Same [true, true, false, true, false]) := by
  rw [show (codeAt c_ref05_Same [true, true, false, true, false]) = .loop (codeAt c_ref05_Same [true, true, false, true, false, false]) by kernel_rfl]
  exact loop_ok (envok_ref05_Same N) mixed (Λ := lam_ref05_Same_l0 N) (p := 116) (obs_ok (l := []) (by kernel_rfl) obsNil) (by kernel_rfl) (by intro rec v; kernel_rfl) N
noncomputable def lam_ref05_Same (N : Nat) : Lps := fun p => bif Nat.beq p 58 then some (lp_ref05_Same_l0 N) else none
noncomputable def ctr_ref05_Same (N : Nat) : Ctr := ctrOf (.cons (.list T_api_Pair) (.list T_api_Pair)) .bool [] (fun v => ref05_Same N v.1 v.2)
theorem sound_ref05_Same (N : Nat) : SoundF Tryz.prog 22 (fun vs => (ctr_ref05_Same N).run vs some) :=
  fn_sound (envok_ref05_Same N) mixed (Λ := lam_ref05_Same N) (fn := Tryz.f22) (c := c_ref05_Same) Tryz.func22 (by kernel_rfl) (by kernel_rfl) (obs_ok (l := [(lp_ref05_Same_l0 N, (codeAt c_ref05_Same [true, true, false, true, false]))]) (by kernel_rfl) (obsCons (lpok_ref05_Same_l0 N none) obsNil)) (by kernel_rfl) (by intro v; kernel_rfl)

noncomputable def c_ref02_Prefix : Code := match Tryz.f42.body with | some c => c | none => .skip
noncomputable def tab_ref02_Prefix (_ : Nat) : List (Nat × Ctr) := []
noncomputable def env_ref02_Prefix (N : Nat) : Env := mkEnv tyRows eqRows methRows [] [] (tab_ref02_Prefix N)
theorem envok_ref02_Prefix (N : Nat) : EnvOk Tryz.prog (env_ref02_Prefix N) := mkEnv_ok tyRows_ok eqRows_ok methRows_ok trivial
noncomputable def cut_ref02_Prefix_l0 : Cut := { tms := [0, 2, 3], sh := (.cons .str (.cons (.ptr 2000000 0) (.int .i64))), objs := [(2000000, [2], .box (.cons .str .str))], sts := [] }
noncomputable def cut_ref02_Prefix_l0_o0 : Cut := { tms := [0, 2, 3], sh := (.cons .str (.cons (.ptr 2000000 0) (.int .i64))), objs := [(2000000, [2], .box (.cons .str .str))], sts := [] }
noncomputable def lp_ref02_Prefix_l0 (N : Nat) : Lp := lpOf cut_ref02_Prefix_l0 (2, cut_ref02_Prefix_l0_o0) [] (fun v => ref02_Prefix_l0 N N v.1.1 v.1.2.2 v.2.1.1 v.2.1.2)
noncomputable def lam_ref02_Prefix_l0 (_ : Nat) : Lps := fun _ => none
theorem lpok_ref02_Prefix_l0 (N : Nat) (ro : Option Nat) : LpOk Tryz.prog 35 ro (lp_ref02_Prefix_l0 N) (codeAt c_ref02_Prefix [true, true, false, false]) := by
  rw [show (codeAt c_ref02_Prefix [true, true, false, false]) = .loop (codeAt c_ref02_Prefix [true, true, false, false, false]) by kernel_rfl]
  exact loop_ok (envok_ref02_Prefix N) mixed (Λ := lam_ref02_Prefix_l0 N) (p := 56) (obs_ok (l := []) (by kernel_rfl) obsNil) (by kernel_rfl) (by intro rec v; kernel_rfl) N
noncomputable def lam_ref02_Prefix (N : Nat) : Lps := fun p => bif Nat.beq p 28 then some (lp_ref02_Prefix_l0 N) else none
noncomputable def ctr_ref02_Prefix (N : Nat) : Ctr := ctrOf .str (.val T_api_Span) [] (fun v => ref02_Prefix N v)
theorem sound_ref02_Prefix (N : Nat) : SoundF Tryz.prog 42 (fun vs => (ctr_ref02_Prefix N).run vs some) :=
  fn_sound (envok_ref02_Prefix N) mixed (Λ := lam_ref02_Prefix N) (fn := Tryz.f42) (c := c_ref02_Prefix) Tryz.func42 (by kernel_rfl) (by kernel_rfl) (obs_ok (l := [(lp_ref02_Prefix_l0 N, (codeAt c_ref02_Prefix [true, true, false, false]))]) (by kernel_rfl) (obsCons (lpok_ref02_Prefix_l0 N none) obsNil)) (by kernel_rfl) (by intro v; kernel_rfl)

noncomputable def c_msg_put_reads : Code := match Tryz.f101.body with | some c => c | none => .skip
noncomputable def tab_msg_put_reads (_ : Nat) : List (Nat × Ctr) := []
noncomputable def env_msg_put_reads (N : Nat) : Env := mkEnv tyRows eqRows methRows [] [] (tab_msg_put_reads N)
theorem envok_msg_put_reads (N : Nat) : EnvOk Tryz.prog (env_msg_put_reads N) := mkEnv_ok tyRows_ok eqRows_ok methRows_ok trivial
noncomputable def lam_msg_put_reads (_ : Nat) : Lps := fun _ => none
noncomputable def ctr_msg_put_reads (N : Nat) : Ctr := ctrOf (.val T_api_Msg) (.fresh T_api_Span) [] (fun v => msg_put_reads N v)
theorem sound_msg_put_reads (N : Nat) : SoundF Tryz.prog 101 (fun vs => (ctr_msg_put_reads N).run vs some) :=
  fn_sound (envok_msg_put_reads N) mixed (Λ := lam_msg_put_reads N) (fn := Tryz.f101) (c := c_msg_put_reads) Tryz.func101 (by kernel_rfl) (by kernel_rfl) (obs_ok (l := []) (by kernel_rfl) obsNil) (by kernel_rfl) (by intro v; kernel_rfl)

noncomputable def c_msg_del_reads : Code := match Tryz.f123.body with | some c => c | none => .skip
noncomputable def tab_msg_del_reads (_ : Nat) : List (Nat × Ctr) := []
noncomputable def env_msg_del_reads (N : Nat) : Env := mkEnv tyRows eqRows methRows [] [] (tab_msg_del_reads N)
theorem envok_msg_del_reads (N : Nat) : EnvOk Tryz.prog (env_msg_del_reads N) := mkEnv_ok tyRows_ok eqRows_ok methRows_ok trivial
noncomputable def lam_msg_del_reads (_ : Nat) : Lps := fun _ => none
noncomputable def ctr_msg_del_reads (N : Nat) : Ctr := ctrOf (.val T_api_Msg) (.fresh T_api_Span) [] (fun v => msg_del_reads N v)
theorem sound_msg_del_reads (N : Nat) : SoundF Tryz.prog 123 (fun vs => (ctr_msg_del_reads N).run vs some) :=
  fn_sound (envok_msg_del_reads N) mixed (Λ := lam_msg_del_reads N) (fn := Tryz.f123) (c := c_msg_del_reads) Tryz.func123 (by kernel_rfl) (by kernel_rfl) (obs_ok (l := []) (by kernel_rfl) obsNil) (by kernel_rfl) (by intro v; kernel_rfl)

noncomputable def c_msg_drop_reads : Code := match Tryz.f134.body with | some c => c | none => .skip
noncomputable def tab_msg_drop_reads (_ : Nat) : List (Nat × Ctr) := []
noncomputable def env_msg_drop_reads (N : Nat) : Env := mkEnv tyRows eqRows methRows [] [] (tab_msg_drop_reads N)
theorem envok_msg_drop_reads (N : Nat) : EnvOk Tryz.prog (env_msg_drop_reads N) := mkEnv_ok tyRows_ok eqRows_ok methRows_ok trivial
noncomputable def lam_msg_drop_reads (_ : Nat) : Lps := fun _ => none
noncomputable def ctr_msg_drop_reads (N : Nat) : Ctr := ctrOf (.val T_api_Msg) (.fresh T_api_Span) [] (fun v => msg_drop_reads N v)
theorem sound_msg_drop_reads (N : Nat) : SoundF Tryz.prog 134 (fun vs => (ctr_msg_drop_reads N).run vs some) :=
  fn_sound (envok_msg_drop_reads N) mixed (Λ := lam_msg_drop_reads N) (fn := Tryz.f134) (c := c_msg_drop_reads) Tryz.func134 (by kernel_rfl) (by kernel_rfl) (obs_ok (l := []) (by kernel_rfl) obsNil) (by kernel_rfl) (by intro v; kernel_rfl)

noncomputable def c_msg_move_reads : Code := match Tryz.f141.body with | some c => c | none => .skip
noncomputable def tab_msg_move_reads (N : Nat) : List (Nat × Ctr) := [(146, ctr_span_Prefix N)]
noncomputable def env_msg_move_reads (N : Nat) : Env := mkEnv tyRows eqRows methRows [] [] (tab_msg_move_reads N)
theorem envok_msg_move_reads (N : Nat) : EnvOk Tryz.prog (env_msg_move_reads N) := mkEnv_ok tyRows_ok eqRows_ok methRows_ok ⟨sound_span_Prefix N, trivial⟩
noncomputable def lam_msg_move_reads (_ : Nat) : Lps := fun _ => none
noncomputable def ctr_msg_move_reads (N : Nat) : Ctr := ctrOf (.val T_api_Msg) (.fresh T_api_Span) [] (fun v => msg_move_reads N v)
theorem sound_msg_move_reads (N : Nat) : SoundF Tryz.prog 141 (fun vs => (ctr_msg_move_reads N).run vs some) :=
  fn_sound (envok_msg_move_reads N) mixed (Λ := lam_msg_move_reads N) (fn := Tryz.f141) (c := c_msg_move_reads) Tryz.func141 (by kernel_rfl) (by kernel_rfl) (obs_ok (l := []) (by kernel_rfl) obsNil) (by kernel_rfl) (by intro v; kernel_rfl)

noncomputable def c_msg_clone_reads : Code := match Tryz.f157.body with | some c => c | none => .skip
noncomputable def tab_msg_clone_reads (N : Nat) : List (Nat × Ctr) := [(146, ctr_span_Prefix N)]
noncomputable def env_msg_clone_reads (N : Nat) : Env := mkEnv tyRows eqRows methRows [] [] (tab_msg_clone_reads N)
theorem envok_msg_clone_reads (N : Nat) : EnvOk Tryz.prog (env_msg_clone_reads N) := mkEnv_ok tyRows_ok eqRows_ok methRows_ok ⟨sound_span_Prefix N, trivial⟩
noncomputable def lam_msg_clone_reads (_ : Nat) : Lps := fun _ => none
noncomputable def ctr_msg_clone_reads (N : Nat) : Ctr := ctrOf (.val T_api_Msg) (.fresh T_api_Span) [] (fun v => msg_clone_reads N v)
theorem sound_msg_clone_reads (N : Nat) : SoundF Tryz.prog 157 (fun vs => (ctr_msg_clone_reads N).run vs some) :=
  fn_sound (envok_msg_clone_reads N) mixed (Λ := lam_msg_clone_reads N) (fn := Tryz.f157) (c := c_msg_clone_reads) Tryz.func157 (by kernel_rfl) (by kernel_rfl) (obs_ok (l := []) (by kernel_rfl) obsNil) (by kernel_rfl) (by intro v; kernel_rfl)

noncomputable def c_msg_stamp_reads : Code := match Tryz.f163.body with | some c => c | none => .skip
noncomputable def tab_msg_stamp_reads (_ : Nat) : List (Nat × Ctr) := []
noncomputable def env_msg_stamp_reads (N : Nat) : Env := mkEnv tyRows eqRows methRows [] [] (tab_msg_stamp_reads N)
theorem envok_msg_stamp_reads (N : Nat) : EnvOk Tryz.prog (env_msg_stamp_reads N) := mkEnv_ok tyRows_ok eqRows_ok methRows_ok trivial
noncomputable def lam_msg_stamp_reads (_ : Nat) : Lps := fun _ => none
noncomputable def ctr_msg_stamp_reads (N : Nat) : Ctr := ctrOf (.val T_api_Msg) (.fresh T_api_Span) [] (fun v => msg_stamp_reads N v)
theorem sound_msg_stamp_reads (N : Nat) : SoundF Tryz.prog 163 (fun vs => (ctr_msg_stamp_reads N).run vs some) :=
  fn_sound (envok_msg_stamp_reads N) mixed (Λ := lam_msg_stamp_reads N) (fn := Tryz.f163) (c := c_msg_stamp_reads) Tryz.func163 (by kernel_rfl) (by kernel_rfl) (obs_ok (l := []) (by kernel_rfl) obsNil) (by kernel_rfl) (by intro v; kernel_rfl)

noncomputable def c_msg_Reads : Code := match Tryz.f25.body with | some c => c | none => .skip
noncomputable def tab_msg_Reads (N : Nat) : List (Nat × Ctr) := [(49, ctr_msg_of N), (101, ctr_msg_put_reads N), (123, ctr_msg_del_reads N), (134, ctr_msg_drop_reads N), (141, ctr_msg_move_reads N), (157, ctr_msg_clone_reads N), (163, ctr_msg_stamp_reads N)]
noncomputable def env_msg_Reads (N : Nat) : Env := mkEnv tyRows eqRows methRows [] [] (tab_msg_Reads N)
theorem envok_msg_Reads (N : Nat) : EnvOk Tryz.prog (env_msg_Reads N) := mkEnv_ok tyRows_ok eqRows_ok methRows_ok ⟨sound_msg_of N, ⟨sound_msg_put_reads N, ⟨sound_msg_del_reads N, ⟨sound_msg_drop_reads N, ⟨sound_msg_move_reads N, ⟨sound_msg_clone_reads N, ⟨sound_msg_stamp_reads N, trivial⟩⟩⟩⟩⟩⟩⟩
noncomputable def lam_msg_Reads (_ : Nat) : Lps := fun _ => none
noncomputable def ctr_msg_Reads (N : Nat) : Ctr := ctrOf (.val T_api_Msg) (.fresh T_api_Span) [] (fun v => msg_Reads N v)
theorem sound_msg_Reads (N : Nat) : SoundF Tryz.prog 25 (fun vs => (ctr_msg_Reads N).run vs some) :=
  fn_sound (envok_msg_Reads N) mixed (Λ := lam_msg_Reads N) (fn := Tryz.f25) (c := c_msg_Reads) Tryz.func25 (by kernel_rfl) (by kernel_rfl) (obs_ok (l := []) (by kernel_rfl) obsNil) (by kernel_rfl) (by intro v; kernel_rfl)

noncomputable def c_msg_put_writes : Code := match Tryz.f104.body with | some c => c | none => .skip
noncomputable def tab_msg_put_writes (N : Nat) : List (Nat × Ctr) := [(108, ctr_span_One N)]
noncomputable def env_msg_put_writes (N : Nat) : Env := mkEnv tyRows eqRows methRows [] [] (tab_msg_put_writes N)
theorem envok_msg_put_writes (N : Nat) : EnvOk Tryz.prog (env_msg_put_writes N) := mkEnv_ok tyRows_ok eqRows_ok methRows_ok ⟨sound_span_One N, trivial⟩
noncomputable def lam_msg_put_writes (_ : Nat) : Lps := fun _ => none
noncomputable def ctr_msg_put_writes (N : Nat) : Ctr := ctrOf (.val T_api_Msg) (.fresh T_api_Span) [] (fun v => msg_put_writes N v)
theorem sound_msg_put_writes (N : Nat) : SoundF Tryz.prog 104 (fun vs => (ctr_msg_put_writes N).run vs some) :=
  fn_sound (envok_msg_put_writes N) mixed (Λ := lam_msg_put_writes N) (fn := Tryz.f104) (c := c_msg_put_writes) Tryz.func104 (by kernel_rfl) (by kernel_rfl) (obs_ok (l := []) (by kernel_rfl) obsNil) (by kernel_rfl) (by intro v; kernel_rfl)

noncomputable def c_msg_del_writes : Code := match Tryz.f126.body with | some c => c | none => .skip
noncomputable def tab_msg_del_writes (N : Nat) : List (Nat × Ctr) := [(108, ctr_span_One N)]
noncomputable def env_msg_del_writes (N : Nat) : Env := mkEnv tyRows eqRows methRows [] [] (tab_msg_del_writes N)
theorem envok_msg_del_writes (N : Nat) : EnvOk Tryz.prog (env_msg_del_writes N) := mkEnv_ok tyRows_ok eqRows_ok methRows_ok ⟨sound_span_One N, trivial⟩
noncomputable def lam_msg_del_writes (_ : Nat) : Lps := fun _ => none
noncomputable def ctr_msg_del_writes (N : Nat) : Ctr := ctrOf (.val T_api_Msg) (.fresh T_api_Span) [] (fun v => msg_del_writes N v)
theorem sound_msg_del_writes (N : Nat) : SoundF Tryz.prog 126 (fun vs => (ctr_msg_del_writes N).run vs some) :=
  fn_sound (envok_msg_del_writes N) mixed (Λ := lam_msg_del_writes N) (fn := Tryz.f126) (c := c_msg_del_writes) Tryz.func126 (by kernel_rfl) (by kernel_rfl) (obs_ok (l := []) (by kernel_rfl) obsNil) (by kernel_rfl) (by intro v; kernel_rfl)

noncomputable def c_msg_drop_writes : Code := match Tryz.f137.body with | some c => c | none => .skip
noncomputable def tab_msg_drop_writes (_ : Nat) : List (Nat × Ctr) := []
noncomputable def env_msg_drop_writes (N : Nat) : Env := mkEnv tyRows eqRows methRows [] [] (tab_msg_drop_writes N)
theorem envok_msg_drop_writes (N : Nat) : EnvOk Tryz.prog (env_msg_drop_writes N) := mkEnv_ok tyRows_ok eqRows_ok methRows_ok trivial
noncomputable def lam_msg_drop_writes (_ : Nat) : Lps := fun _ => none
noncomputable def ctr_msg_drop_writes (N : Nat) : Ctr := ctrOf (.val T_api_Msg) (.fresh T_api_Span) [] (fun v => msg_drop_writes N v)
theorem sound_msg_drop_writes (N : Nat) : SoundF Tryz.prog 137 (fun vs => (ctr_msg_drop_writes N).run vs some) :=
  fn_sound (envok_msg_drop_writes N) mixed (Λ := lam_msg_drop_writes N) (fn := Tryz.f137) (c := c_msg_drop_writes) Tryz.func137 (by kernel_rfl) (by kernel_rfl) (obs_ok (l := []) (by kernel_rfl) obsNil) (by kernel_rfl) (by intro v; kernel_rfl)

noncomputable def c_msg_move_writes : Code := match Tryz.f144.body with | some c => c | none => .skip
noncomputable def tab_msg_move_writes (N : Nat) : List (Nat × Ctr) := [(146, ctr_span_Prefix N)]
noncomputable def env_msg_move_writes (N : Nat) : Env := mkEnv tyRows eqRows methRows [] [] (tab_msg_move_writes N)
theorem envok_msg_move_writes (N : Nat) : EnvOk Tryz.prog (env_msg_move_writes N) := mkEnv_ok tyRows_ok eqRows_ok methRows_ok ⟨sound_span_Prefix N, trivial⟩
noncomputable def lam_msg_move_writes (_ : Nat) : Lps := fun _ => none
noncomputable def ctr_msg_move_writes (N : Nat) : Ctr := ctrOf (.val T_api_Msg) (.fresh T_api_Span) [] (fun v => msg_move_writes N v)
theorem sound_msg_move_writes (N : Nat) : SoundF Tryz.prog 144 (fun vs => (ctr_msg_move_writes N).run vs some) :=
  fn_sound (envok_msg_move_writes N) mixed (Λ := lam_msg_move_writes N) (fn := Tryz.f144) (c := c_msg_move_writes) Tryz.func144 (by kernel_rfl) (by kernel_rfl) (obs_ok (l := []) (by kernel_rfl) obsNil) (by kernel_rfl) (by intro v; kernel_rfl)

noncomputable def c_msg_clone_writes : Code := match Tryz.f160.body with | some c => c | none => .skip
noncomputable def tab_msg_clone_writes (N : Nat) : List (Nat × Ctr) := [(146, ctr_span_Prefix N)]
noncomputable def env_msg_clone_writes (N : Nat) : Env := mkEnv tyRows eqRows methRows [] [] (tab_msg_clone_writes N)
theorem envok_msg_clone_writes (N : Nat) : EnvOk Tryz.prog (env_msg_clone_writes N) := mkEnv_ok tyRows_ok eqRows_ok methRows_ok ⟨sound_span_Prefix N, trivial⟩
noncomputable def lam_msg_clone_writes (_ : Nat) : Lps := fun _ => none
noncomputable def ctr_msg_clone_writes (N : Nat) : Ctr := ctrOf (.val T_api_Msg) (.fresh T_api_Span) [] (fun v => msg_clone_writes N v)
theorem sound_msg_clone_writes (N : Nat) : SoundF Tryz.prog 160 (fun vs => (ctr_msg_clone_writes N).run vs some) :=
  fn_sound (envok_msg_clone_writes N) mixed (Λ := lam_msg_clone_writes N) (fn := Tryz.f160) (c := c_msg_clone_writes) Tryz.func160 (by kernel_rfl) (by kernel_rfl) (obs_ok (l := []) (by kernel_rfl) obsNil) (by kernel_rfl) (by intro v; kernel_rfl)

noncomputable def c_msg_stamp_writes : Code := match Tryz.f166.body with | some c => c | none => .skip
noncomputable def tab_msg_stamp_writes (_ : Nat) : List (Nat × Ctr) := []
noncomputable def env_msg_stamp_writes (N : Nat) : Env := mkEnv tyRows eqRows methRows [] [] (tab_msg_stamp_writes N)
theorem envok_msg_stamp_writes (N : Nat) : EnvOk Tryz.prog (env_msg_stamp_writes N) := mkEnv_ok tyRows_ok eqRows_ok methRows_ok trivial
noncomputable def lam_msg_stamp_writes (_ : Nat) : Lps := fun _ => none
noncomputable def ctr_msg_stamp_writes (N : Nat) : Ctr := ctrOf (.val T_api_Msg) (.fresh T_api_Span) [] (fun v => msg_stamp_writes N v)
theorem sound_msg_stamp_writes (N : Nat) : SoundF Tryz.prog 166 (fun vs => (ctr_msg_stamp_writes N).run vs some) :=
  fn_sound (envok_msg_stamp_writes N) mixed (Λ := lam_msg_stamp_writes N) (fn := Tryz.f166) (c := c_msg_stamp_writes) Tryz.func166 (by kernel_rfl) (by kernel_rfl) (obs_ok (l := []) (by kernel_rfl) obsNil) (by kernel_rfl) (by intro v; kernel_rfl)

noncomputable def c_msg_Writes : Code := match Tryz.f20.body with | some c => c | none => .skip
noncomputable def tab_msg_Writes (N : Nat) : List (Nat × Ctr) := [(49, ctr_msg_of N), (104, ctr_msg_put_writes N), (126, ctr_msg_del_writes N), (137, ctr_msg_drop_writes N), (144, ctr_msg_move_writes N), (160, ctr_msg_clone_writes N), (166, ctr_msg_stamp_writes N)]
noncomputable def env_msg_Writes (N : Nat) : Env := mkEnv tyRows eqRows methRows [] [] (tab_msg_Writes N)
theorem envok_msg_Writes (N : Nat) : EnvOk Tryz.prog (env_msg_Writes N) := mkEnv_ok tyRows_ok eqRows_ok methRows_ok ⟨sound_msg_of N, ⟨sound_msg_put_writes N, ⟨sound_msg_del_writes N, ⟨sound_msg_drop_writes N, ⟨sound_msg_move_writes N, ⟨sound_msg_clone_writes N, ⟨sound_msg_stamp_writes N, trivial⟩⟩⟩⟩⟩⟩⟩
noncomputable def lam_msg_Writes (_ : Nat) : Lps := fun _ => none
noncomputable def ctr_msg_Writes (N : Nat) : Ctr := ctrOf (.val T_api_Msg) (.fresh T_api_Span) [] (fun v => msg_Writes N v)
theorem sound_msg_Writes (N : Nat) : SoundF Tryz.prog 20 (fun vs => (ctr_msg_Writes N).run vs some) :=
  fn_sound (envok_msg_Writes N) mixed (Λ := lam_msg_Writes N) (fn := Tryz.f20) (c := c_msg_Writes) Tryz.func20 (by kernel_rfl) (by kernel_rfl) (obs_ok (l := []) (by kernel_rfl) obsNil) (by kernel_rfl) (by intro v; kernel_rfl)

noncomputable def c_ref02_One : Code := match Tryz.f44.body with | some c => c | none => .skip
noncomputable def tab_ref02_One (_ : Nat) : List (Nat × Ctr) := []
noncomputable def env_ref02_One (N : Nat) : Env := mkEnv tyRows eqRows methRows [] [] (tab_ref02_One N)
theorem envok_ref02_One (N : Nat) : EnvOk Tryz.prog (env_ref02_One N) := mkEnv_ok tyRows_ok eqRows_ok methRows_ok trivial
noncomputable def lam_ref02_One (_ : Nat) : Lps := fun _ => none
noncomputable def ctr_ref02_One (N : Nat) : Ctr := ctrOf .str (.val T_api_Span) [] (fun v => ref02_One N v)
theorem sound_ref02_One (N : Nat) : SoundF Tryz.prog 44 (fun vs => (ctr_ref02_One N).run vs some) :=
  fn_sound (envok_ref02_One N) mixed (Λ := lam_ref02_One N) (fn := Tryz.f44) (c := c_ref02_One) Tryz.func44 (by kernel_rfl) (by kernel_rfl) (obs_ok (l := []) (by kernel_rfl) obsNil) (by kernel_rfl) (by intro v; kernel_rfl)

noncomputable def c_ref02_Same : Code := match Tryz.f36.body with | some c => c | none => .skip
noncomputable def tab_ref02_Same (_ : Nat) : List (Nat × Ctr) := []
noncomputable def env_ref02_Same (N : Nat) : Env := mkEnv tyRows eqRows methRows [] [] (tab_ref02_Same N)
theorem envok_ref02_Same (N : Nat) : EnvOk Tryz.prog (env_ref02_Same N) := mkEnv_ok tyRows_ok eqRows_ok methRows_ok trivial
noncomputable def cut_ref02_Same_l0 : Cut := { tms := [0, 1, 5], sh := (.cons (.list T_api_Span) (.cons (.list T_api_Span) (.int .i64))), objs := [], sts := [] }
noncomputable def cut_ref02_Same_l0_o0 : Cut := { tms := [4], sh := .bool, objs := [], sts := [] }
noncomputable def cut_ref02_Same_l0_o1 : Cut := { tms := [], sh := .nil, objs := [], sts := [] }
noncomputable def lp_ref02_Same_l0 (N : Nat) : Lp := lpOf cut_ref02_Same_l0 (1, cut_ref02_Same_l0_o0) [(2, cut_ref02_Same_l0_o1)] (fun v => ref02_Same_l0 N N v.1.1 v.1.2.1 v.1.2.2)
noncomputable def lam_ref02_Same_l0 (_ : Nat) : Lps := fun _ => none
theorem lpok_ref02_Same_l0 (N : Nat) (ro : Option Nat) : LpOk Tryz.prog 26 ro (lp_ref02_Same_l0 N) (codeAt c_ref02_Same [true, true, false, true, false]) := by
  rw [show (codeAt c_ref02_Same [true, true, false, true, false]) = .loop (codeAt c_ref02_Same [true, true, false, true, false, false]) by kernel_rfl]
  exact loop_ok (envok_ref02_Same N) mixed (Λ := lam_ref02_Same_l0 N) (p := 116) (obs_ok (l := []) (by kernel_rfl) obsNil) (by kernel_rfl) (by intro rec v; kernel_rfl) N
noncomputable def lam_ref02_Same (N : Nat) : Lps := fun p => bif Nat.beq p 58 then some (lp_ref02_Same_l0 N) else none
noncomputable def ctr_ref02_Same (N : Nat) : Ctr := ctrOf (.cons (.list T_api_Span) (.list T_api_Span)) .bool [] (fun v => ref02_Same N v.1 v.2)
theorem sound_ref02_Same (N : Nat) : SoundF Tryz.prog 36 (fun vs => (ctr_ref02_Same N).run vs some) :=
  fn_sound (envok_ref02_Same N) mixed (Λ := lam_ref02_Same N) (fn := Tryz.f36) (c := c_ref02_Same) Tryz.func36 (by kernel_rfl) (by kernel_rfl) (obs_ok (l := [(lp_ref02_Same_l0 N, (codeAt c_ref02_Same [true, true, false, true, false]))]) (by kernel_rfl) (obsCons (lpok_ref02_Same_l0 N none) obsNil)) (by kernel_rfl) (by intro v; kernel_rfl)

noncomputable def c_msg_Kills : Code := match Tryz.f26.body with | some c => c | none => .skip
noncomputable def tab_msg_Kills (N : Nat) : List (Nat × Ctr) := [(20, ctr_msg_Writes N)]
noncomputable def env_msg_Kills (N : Nat) : Env := mkEnv tyRows eqRows methRows [] [] (tab_msg_Kills N)
theorem envok_msg_Kills (N : Nat) : EnvOk Tryz.prog (env_msg_Kills N) := mkEnv_ok tyRows_ok eqRows_ok methRows_ok ⟨sound_msg_Writes N, trivial⟩
noncomputable def lam_msg_Kills (_ : Nat) : Lps := fun _ => none
noncomputable def ctr_msg_Kills (N : Nat) : Ctr := ctrOf (.val T_api_Msg) (.fresh T_api_Span) [] (fun v => msg_Kills N v)
theorem sound_msg_Kills (N : Nat) : SoundF Tryz.prog 26 (fun vs => (ctr_msg_Kills N).run vs some) :=
  fn_sound (envok_msg_Kills N) mixed (Λ := lam_msg_Kills N) (fn := Tryz.f26) (c := c_msg_Kills) Tryz.func26 (by kernel_rfl) (by kernel_rfl) (obs_ok (l := []) (by kernel_rfl) obsNil) (by kernel_rfl) (by intro v; kernel_rfl)

noncomputable def c_msg_in : Code := match Tryz.f106.body with | some c => c | none => .skip
noncomputable def tab_msg_in (_ : Nat) : List (Nat × Ctr) := []
noncomputable def env_msg_in (N : Nat) : Env := mkEnv tyRows eqRows methRows [] [] (tab_msg_in N)
theorem envok_msg_in (N : Nat) : EnvOk Tryz.prog (env_msg_in N) := mkEnv_ok tyRows_ok eqRows_ok methRows_ok trivial
noncomputable def lam_msg_in (_ : Nat) : Lps := fun _ => none
noncomputable def ctr_msg_in (N : Nat) : Ctr := ctrOf (.cons (.int .i64) (.cons (.int .i64) (.int .i64))) .bool [] (fun v => msg_in N v.1 v.2.1 v.2.2)
theorem sound_msg_in (N : Nat) : SoundF Tryz.prog 106 (fun vs => (ctr_msg_in N).run vs some) :=
  fn_sound (envok_msg_in N) mixed (Λ := lam_msg_in N) (fn := Tryz.f106) (c := c_msg_in) Tryz.func106 (by kernel_rfl) (by kernel_rfl) (obs_ok (l := []) (by kernel_rfl) obsNil) (by kernel_rfl) (by intro v; kernel_rfl)

noncomputable def c_msg_put_valid : Code := match Tryz.f102.body with | some c => c | none => .skip
noncomputable def tab_msg_put_valid (N : Nat) : List (Nat × Ctr) := [(106, ctr_msg_in N)]
noncomputable def env_msg_put_valid (N : Nat) : Env := mkEnv tyRows eqRows methRows [] [] (tab_msg_put_valid N)
theorem envok_msg_put_valid (N : Nat) : EnvOk Tryz.prog (env_msg_put_valid N) := mkEnv_ok tyRows_ok eqRows_ok methRows_ok ⟨sound_msg_in N, trivial⟩
noncomputable def lam_msg_put_valid (_ : Nat) : Lps := fun _ => none
noncomputable def ctr_msg_put_valid (N : Nat) : Ctr := ctrOf (.val T_api_Msg) .bool [] (fun v => msg_put_valid N v)
theorem sound_msg_put_valid (N : Nat) : SoundF Tryz.prog 102 (fun vs => (ctr_msg_put_valid N).run vs some) :=
  fn_sound (envok_msg_put_valid N) mixed (Λ := lam_msg_put_valid N) (fn := Tryz.f102) (c := c_msg_put_valid) Tryz.func102 (by kernel_rfl) (by kernel_rfl) (obs_ok (l := []) (by kernel_rfl) obsNil) (by kernel_rfl) (by intro v; kernel_rfl)

noncomputable def c_msg_put_bare : Code := match Tryz.f100.body with | some c => c | none => .skip
noncomputable def tab_msg_put_bare (_ : Nat) : List (Nat × Ctr) := []
noncomputable def env_msg_put_bare (N : Nat) : Env := mkEnv tyRows eqRows methRows [] [] (tab_msg_put_bare N)
theorem envok_msg_put_bare (N : Nat) : EnvOk Tryz.prog (env_msg_put_bare N) := mkEnv_ok tyRows_ok eqRows_ok methRows_ok trivial
noncomputable def lam_msg_put_bare (_ : Nat) : Lps := fun _ => none
noncomputable def ctr_msg_put_bare (N : Nat) : Ctr := ctrOf (.val T_api_Msg) (.val T_api_Msg) [] (fun v => msg_put_bare N v)
theorem sound_msg_put_bare (N : Nat) : SoundF Tryz.prog 100 (fun vs => (ctr_msg_put_bare N).run vs some) :=
  fn_sound (envok_msg_put_bare N) mixed (Λ := lam_msg_put_bare N) (fn := Tryz.f100) (c := c_msg_put_bare) Tryz.func100 (by kernel_rfl) (by kernel_rfl) (obs_ok (l := []) (by kernel_rfl) obsNil) (by kernel_rfl) (by intro v; kernel_rfl)

noncomputable def c_msg_del_valid : Code := match Tryz.f124.body with | some c => c | none => .skip
noncomputable def tab_msg_del_valid (N : Nat) : List (Nat × Ctr) := [(106, ctr_msg_in N)]
noncomputable def env_msg_del_valid (N : Nat) : Env := mkEnv tyRows eqRows methRows [] [] (tab_msg_del_valid N)
theorem envok_msg_del_valid (N : Nat) : EnvOk Tryz.prog (env_msg_del_valid N) := mkEnv_ok tyRows_ok eqRows_ok methRows_ok ⟨sound_msg_in N, trivial⟩
noncomputable def lam_msg_del_valid (_ : Nat) : Lps := fun _ => none
noncomputable def ctr_msg_del_valid (N : Nat) : Ctr := ctrOf (.val T_api_Msg) .bool [] (fun v => msg_del_valid N v)
theorem sound_msg_del_valid (N : Nat) : SoundF Tryz.prog 124 (fun vs => (ctr_msg_del_valid N).run vs some) :=
  fn_sound (envok_msg_del_valid N) mixed (Λ := lam_msg_del_valid N) (fn := Tryz.f124) (c := c_msg_del_valid) Tryz.func124 (by kernel_rfl) (by kernel_rfl) (obs_ok (l := []) (by kernel_rfl) obsNil) (by kernel_rfl) (by intro v; kernel_rfl)

noncomputable def c_msg_del_bare : Code := match Tryz.f122.body with | some c => c | none => .skip
noncomputable def tab_msg_del_bare (_ : Nat) : List (Nat × Ctr) := []
noncomputable def env_msg_del_bare (N : Nat) : Env := mkEnv tyRows eqRows methRows [] [] (tab_msg_del_bare N)
theorem envok_msg_del_bare (N : Nat) : EnvOk Tryz.prog (env_msg_del_bare N) := mkEnv_ok tyRows_ok eqRows_ok methRows_ok trivial
noncomputable def lam_msg_del_bare (_ : Nat) : Lps := fun _ => none
noncomputable def ctr_msg_del_bare (N : Nat) : Ctr := ctrOf (.val T_api_Msg) (.val T_api_Msg) [] (fun v => msg_del_bare N v)
theorem sound_msg_del_bare (N : Nat) : SoundF Tryz.prog 122 (fun vs => (ctr_msg_del_bare N).run vs some) :=
  fn_sound (envok_msg_del_bare N) mixed (Λ := lam_msg_del_bare N) (fn := Tryz.f122) (c := c_msg_del_bare) Tryz.func122 (by kernel_rfl) (by kernel_rfl) (obs_ok (l := []) (by kernel_rfl) obsNil) (by kernel_rfl) (by intro v; kernel_rfl)

noncomputable def c_msg_ends : Code := match Tryz.f138.body with | some c => c | none => .skip
noncomputable def tab_msg_ends (N : Nat) : List (Nat × Ctr) := [(74, ctr_span_Empty N)]
noncomputable def env_msg_ends (N : Nat) : Env := mkEnv tyRows eqRows methRows [] [] (tab_msg_ends N)
theorem envok_msg_ends (N : Nat) : EnvOk Tryz.prog (env_msg_ends N) := mkEnv_ok tyRows_ok eqRows_ok methRows_ok ⟨sound_span_Empty N, trivial⟩
noncomputable def lam_msg_ends (_ : Nat) : Lps := fun _ => none
noncomputable def ctr_msg_ends (N : Nat) : Ctr := ctrOf (.val T_api_Span) .bool [] (fun v => msg_ends N v)
theorem sound_msg_ends (N : Nat) : SoundF Tryz.prog 138 (fun vs => (ctr_msg_ends N).run vs some) :=
  fn_sound (envok_msg_ends N) mixed (Λ := lam_msg_ends N) (fn := Tryz.f138) (c := c_msg_ends) Tryz.func138 (by kernel_rfl) (by kernel_rfl) (obs_ok (l := []) (by kernel_rfl) obsNil) (by kernel_rfl) (by intro v; kernel_rfl)

noncomputable def c_msg_drop_valid : Code := match Tryz.f135.body with | some c => c | none => .skip
noncomputable def tab_msg_drop_valid (N : Nat) : List (Nat × Ctr) := [(138, ctr_msg_ends N)]
noncomputable def env_msg_drop_valid (N : Nat) : Env := mkEnv tyRows eqRows methRows [] [] (tab_msg_drop_valid N)
theorem envok_msg_drop_valid (N : Nat) : EnvOk Tryz.prog (env_msg_drop_valid N) := mkEnv_ok tyRows_ok eqRows_ok methRows_ok ⟨sound_msg_ends N, trivial⟩
noncomputable def lam_msg_drop_valid (_ : Nat) : Lps := fun _ => none
noncomputable def ctr_msg_drop_valid (N : Nat) : Ctr := ctrOf (.val T_api_Msg) .bool [] (fun v => msg_drop_valid N v)
theorem sound_msg_drop_valid (N : Nat) : SoundF Tryz.prog 135 (fun vs => (ctr_msg_drop_valid N).run vs some) :=
  fn_sound (envok_msg_drop_valid N) mixed (Λ := lam_msg_drop_valid N) (fn := Tryz.f135) (c := c_msg_drop_valid) Tryz.func135 (by kernel_rfl) (by kernel_rfl) (obs_ok (l := []) (by kernel_rfl) obsNil) (by kernel_rfl) (by intro v; kernel_rfl)

noncomputable def c_msg_drop_bare : Code := match Tryz.f133.body with | some c => c | none => .skip
noncomputable def tab_msg_drop_bare (_ : Nat) : List (Nat × Ctr) := []
noncomputable def env_msg_drop_bare (N : Nat) : Env := mkEnv tyRows eqRows methRows [] [] (tab_msg_drop_bare N)
theorem envok_msg_drop_bare (N : Nat) : EnvOk Tryz.prog (env_msg_drop_bare N) := mkEnv_ok tyRows_ok eqRows_ok methRows_ok trivial
noncomputable def lam_msg_drop_bare (_ : Nat) : Lps := fun _ => none
noncomputable def ctr_msg_drop_bare (N : Nat) : Ctr := ctrOf (.val T_api_Msg) (.val T_api_Msg) [] (fun v => msg_drop_bare N v)
theorem sound_msg_drop_bare (N : Nat) : SoundF Tryz.prog 133 (fun vs => (ctr_msg_drop_bare N).run vs some) :=
  fn_sound (envok_msg_drop_bare N) mixed (Λ := lam_msg_drop_bare N) (fn := Tryz.f133) (c := c_msg_drop_bare) Tryz.func133 (by kernel_rfl) (by kernel_rfl) (obs_ok (l := []) (by kernel_rfl) obsNil) (by kernel_rfl) (by intro v; kernel_rfl)

noncomputable def c_strings_HasPrefix : Code := match Tryz.f150.body with | some c => c | none => .skip
noncomputable def tab_strings_HasPrefix (N : Nat) : List (Nat × Ctr) := [(153, ctr_stringslite_HasPrefix N)]
noncomputable def env_strings_HasPrefix (N : Nat) : Env := mkEnv tyRows eqRows methRows [] [] (tab_strings_HasPrefix N)
theorem envok_strings_HasPrefix (N : Nat) : EnvOk Tryz.prog (env_strings_HasPrefix N) := mkEnv_ok tyRows_ok eqRows_ok methRows_ok ⟨sound_stringslite_HasPrefix N, trivial⟩
noncomputable def lam_strings_HasPrefix (_ : Nat) : Lps := fun _ => none
noncomputable def ctr_strings_HasPrefix (N : Nat) : Ctr := ctrOf (.cons .str .str) .bool [] (fun v => strings_HasPrefix N v.1 v.2)
theorem sound_strings_HasPrefix (N : Nat) : SoundF Tryz.prog 150 (fun vs => (ctr_strings_HasPrefix N).run vs some) :=
  fn_sound (envok_strings_HasPrefix N) mixed (Λ := lam_strings_HasPrefix N) (fn := Tryz.f150) (c := c_strings_HasPrefix) Tryz.func150 (by kernel_rfl) (by kernel_rfl) (obs_ok (l := []) (by kernel_rfl) obsNil) (by kernel_rfl) (by intro v; kernel_rfl)

noncomputable def c_msg_apart : Code := match Tryz.f147.body with | some c => c | none => .skip
noncomputable def tab_msg_apart (N : Nat) : List (Nat × Ctr) := [(106, ctr_msg_in N), (150, ctr_strings_HasPrefix N)]
noncomputable def env_msg_apart (N : Nat) : Env := mkEnv tyRows eqRows methRows [] [] (tab_msg_apart N)
theorem envok_msg_apart (N : Nat) : EnvOk Tryz.prog (env_msg_apart N) := mkEnv_ok tyRows_ok eqRows_ok methRows_ok ⟨sound_msg_in N, ⟨sound_strings_HasPrefix N, trivial⟩⟩
noncomputable def lam_msg_apart (_ : Nat) : Lps := fun _ => none
noncomputable def ctr_msg_apart (N : Nat) : Ctr := ctrOf (.cons .str .str) .bool [] (fun v => msg_apart N v.1 v.2)
theorem sound_msg_apart (N : Nat) : SoundF Tryz.prog 147 (fun vs => (ctr_msg_apart N).run vs some) :=
  fn_sound (envok_msg_apart N) mixed (Λ := lam_msg_apart N) (fn := Tryz.f147) (c := c_msg_apart) Tryz.func147 (by kernel_rfl) (by kernel_rfl) (obs_ok (l := []) (by kernel_rfl) obsNil) (by kernel_rfl) (by intro v; kernel_rfl)

noncomputable def c_msg_move_valid : Code := match Tryz.f142.body with | some c => c | none => .skip
noncomputable def tab_msg_move_valid (N : Nat) : List (Nat × Ctr) := [(147, ctr_msg_apart N)]
noncomputable def env_msg_move_valid (N : Nat) : Env := mkEnv tyRows eqRows methRows [] [] (tab_msg_move_valid N)
theorem envok_msg_move_valid (N : Nat) : EnvOk Tryz.prog (env_msg_move_valid N) := mkEnv_ok tyRows_ok eqRows_ok methRows_ok ⟨sound_msg_apart N, trivial⟩
noncomputable def lam_msg_move_valid (_ : Nat) : Lps := fun _ => none
noncomputable def ctr_msg_move_valid (N : Nat) : Ctr := ctrOf (.val T_api_Msg) .bool [] (fun v => msg_move_valid N v)
theorem sound_msg_move_valid (N : Nat) : SoundF Tryz.prog 142 (fun vs => (ctr_msg_move_valid N).run vs some) :=
  fn_sound (envok_msg_move_valid N) mixed (Λ := lam_msg_move_valid N) (fn := Tryz.f142) (c := c_msg_move_valid) Tryz.func142 (by kernel_rfl) (by kernel_rfl) (obs_ok (l := []) (by kernel_rfl) obsNil) (by kernel_rfl) (by intro v; kernel_rfl)

noncomputable def c_msg_move_bare : Code := match Tryz.f140.body with | some c => c | none => .skip
noncomputable def tab_msg_move_bare (_ : Nat) : List (Nat × Ctr) := []
noncomputable def env_msg_move_bare (N : Nat) : Env := mkEnv tyRows eqRows methRows [] [] (tab_msg_move_bare N)
theorem envok_msg_move_bare (N : Nat) : EnvOk Tryz.prog (env_msg_move_bare N) := mkEnv_ok tyRows_ok eqRows_ok methRows_ok trivial
noncomputable def lam_msg_move_bare (_ : Nat) : Lps := fun _ => none
noncomputable def ctr_msg_move_bare (N : Nat) : Ctr := ctrOf (.val T_api_Msg) (.val T_api_Msg) [] (fun v => msg_move_bare N v)
theorem sound_msg_move_bare (N : Nat) : SoundF Tryz.prog 140 (fun vs => (ctr_msg_move_bare N).run vs some) :=
  fn_sound (envok_msg_move_bare N) mixed (Λ := lam_msg_move_bare N) (fn := Tryz.f140) (c := c_msg_move_bare) Tryz.func140 (by kernel_rfl) (by kernel_rfl) (obs_ok (l := []) (by kernel_rfl) obsNil) (by kernel_rfl) (by intro v; kernel_rfl)

noncomputable def c_msg_clone_valid : Code := match Tryz.f158.body with | some c => c | none => .skip
noncomputable def tab_msg_clone_valid (N : Nat) : List (Nat × Ctr) := [(147, ctr_msg_apart N)]
noncomputable def env_msg_clone_valid (N : Nat) : Env := mkEnv tyRows eqRows methRows [] [] (tab_msg_clone_valid N)
theorem envok_msg_clone_valid (N : Nat) : EnvOk Tryz.prog (env_msg_clone_valid N) := mkEnv_ok tyRows_ok eqRows_ok methRows_ok ⟨sound_msg_apart N, trivial⟩
noncomputable def lam_msg_clone_valid (_ : Nat) : Lps := fun _ => none
noncomputable def ctr_msg_clone_valid (N : Nat) : Ctr := ctrOf (.val T_api_Msg) .bool [] (fun v => msg_clone_valid N v)
theorem sound_msg_clone_valid (N : Nat) : SoundF Tryz.prog 158 (fun vs => (ctr_msg_clone_valid N).run vs some) :=
  fn_sound (envok_msg_clone_valid N) mixed (Λ := lam_msg_clone_valid N) (fn := Tryz.f158) (c := c_msg_clone_valid) Tryz.func158 (by kernel_rfl) (by kernel_rfl) (obs_ok (l := []) (by kernel_rfl) obsNil) (by kernel_rfl) (by intro v; kernel_rfl)

noncomputable def c_msg_clone_bare : Code := match Tryz.f156.body with | some c => c | none => .skip
noncomputable def tab_msg_clone_bare (_ : Nat) : List (Nat × Ctr) := []
noncomputable def env_msg_clone_bare (N : Nat) : Env := mkEnv tyRows eqRows methRows [] [] (tab_msg_clone_bare N)
theorem envok_msg_clone_bare (N : Nat) : EnvOk Tryz.prog (env_msg_clone_bare N) := mkEnv_ok tyRows_ok eqRows_ok methRows_ok trivial
noncomputable def lam_msg_clone_bare (_ : Nat) : Lps := fun _ => none
noncomputable def ctr_msg_clone_bare (N : Nat) : Ctr := ctrOf (.val T_api_Msg) (.val T_api_Msg) [] (fun v => msg_clone_bare N v)
theorem sound_msg_clone_bare (N : Nat) : SoundF Tryz.prog 156 (fun vs => (ctr_msg_clone_bare N).run vs some) :=
  fn_sound (envok_msg_clone_bare N) mixed (Λ := lam_msg_clone_bare N) (fn := Tryz.f156) (c := c_msg_clone_bare) Tryz.func156 (by kernel_rfl) (by kernel_rfl) (obs_ok (l := []) (by kernel_rfl) obsNil) (by kernel_rfl) (by intro v; kernel_rfl)

noncomputable def c_msg_stamp_valid : Code := match Tryz.f164.body with | some c => c | none => .skip
noncomputable def tab_msg_stamp_valid (N : Nat) : List (Nat × Ctr) := [(138, ctr_msg_ends N), (106, ctr_msg_in N)]
noncomputable def env_msg_stamp_valid (N : Nat) : Env := mkEnv tyRows eqRows methRows [] [] (tab_msg_stamp_valid N)
theorem envok_msg_stamp_valid (N : Nat) : EnvOk Tryz.prog (env_msg_stamp_valid N) := mkEnv_ok tyRows_ok eqRows_ok methRows_ok ⟨sound_msg_ends N, ⟨sound_msg_in N, trivial⟩⟩
noncomputable def lam_msg_stamp_valid (_ : Nat) : Lps := fun _ => none
noncomputable def ctr_msg_stamp_valid (N : Nat) : Ctr := ctrOf (.val T_api_Msg) .bool [] (fun v => msg_stamp_valid N v)
theorem sound_msg_stamp_valid (N : Nat) : SoundF Tryz.prog 164 (fun vs => (ctr_msg_stamp_valid N).run vs some) :=
  fn_sound (envok_msg_stamp_valid N) mixed (Λ := lam_msg_stamp_valid N) (fn := Tryz.f164) (c := c_msg_stamp_valid) Tryz.func164 (by kernel_rfl) (by kernel_rfl) (obs_ok (l := []) (by kernel_rfl) obsNil) (by kernel_rfl) (by intro v; kernel_rfl)

noncomputable def c_msg_stamp_bare : Code := match Tryz.f162.body with | some c => c | none => .skip
noncomputable def tab_msg_stamp_bare (_ : Nat) : List (Nat × Ctr) := []
noncomputable def env_msg_stamp_bare (N : Nat) : Env := mkEnv tyRows eqRows methRows [] [] (tab_msg_stamp_bare N)
theorem envok_msg_stamp_bare (N : Nat) : EnvOk Tryz.prog (env_msg_stamp_bare N) := mkEnv_ok tyRows_ok eqRows_ok methRows_ok trivial
noncomputable def lam_msg_stamp_bare (_ : Nat) : Lps := fun _ => none
noncomputable def ctr_msg_stamp_bare (N : Nat) : Ctr := ctrOf (.val T_api_Msg) (.val T_api_Msg) [] (fun v => msg_stamp_bare N v)
theorem sound_msg_stamp_bare (N : Nat) : SoundF Tryz.prog 162 (fun vs => (ctr_msg_stamp_bare N).run vs some) :=
  fn_sound (envok_msg_stamp_bare N) mixed (Λ := lam_msg_stamp_bare N) (fn := Tryz.f162) (c := c_msg_stamp_bare) Tryz.func162 (by kernel_rfl) (by kernel_rfl) (obs_ok (l := []) (by kernel_rfl) obsNil) (by kernel_rfl) (by intro v; kernel_rfl)

noncomputable def c_msg_Valid : Code := match Tryz.f14.body with | some c => c | none => .skip
noncomputable def tab_msg_Valid (N : Nat) : List (Nat × Ctr) := [(49, ctr_msg_of N), (102, ctr_msg_put_valid N), (100, ctr_msg_put_bare N), (124, ctr_msg_del_valid N), (122, ctr_msg_del_bare N), (135, ctr_msg_drop_valid N), (133, ctr_msg_drop_bare N), (142, ctr_msg_move_valid N), (140, ctr_msg_move_bare N), (158, ctr_msg_clone_valid N), (156, ctr_msg_clone_bare N), (164, ctr_msg_stamp_valid N), (162, ctr_msg_stamp_bare N)]
noncomputable def env_msg_Valid (N : Nat) : Env := mkEnv tyRows eqRows methRows [] [] (tab_msg_Valid N)
theorem envok_msg_Valid (N : Nat) : EnvOk Tryz.prog (env_msg_Valid N) := mkEnv_ok tyRows_ok eqRows_ok methRows_ok ⟨sound_msg_of N, ⟨sound_msg_put_valid N, ⟨sound_msg_put_bare N, ⟨sound_msg_del_valid N, ⟨sound_msg_del_bare N, ⟨sound_msg_drop_valid N, ⟨sound_msg_drop_bare N, ⟨sound_msg_move_valid N, ⟨sound_msg_move_bare N, ⟨sound_msg_clone_valid N, ⟨sound_msg_clone_bare N, ⟨sound_msg_stamp_valid N, ⟨sound_msg_stamp_bare N, trivial⟩⟩⟩⟩⟩⟩⟩⟩⟩⟩⟩⟩⟩
noncomputable def lam_msg_Valid (_ : Nat) : Lps := fun _ => none
noncomputable def ctr_msg_Valid (N : Nat) : Ctr := ctrOf (.val T_api_Msg) .bool [] (fun v => msg_Valid N v)
theorem sound_msg_Valid (N : Nat) : SoundF Tryz.prog 14 (fun vs => (ctr_msg_Valid N).run vs some) :=
  fn_sound (envok_msg_Valid N) mixed (Λ := lam_msg_Valid N) (fn := Tryz.f14) (c := c_msg_Valid) Tryz.func14 (by kernel_rfl) (by kernel_rfl) (obs_ok (l := []) (by kernel_rfl) obsNil) (by kernel_rfl) (by intro v; kernel_rfl)

noncomputable def c_msg_writer_number_m : Code := match Tryz.f107.body with | some c => c | none => .skip
noncomputable def tab_msg_writer_number_m (_ : Nat) : List (Nat × Ctr) := []
noncomputable def env_msg_writer_number_m (N : Nat) : Env := mkEnv tyRows eqRows methRows [] [] (tab_msg_writer_number_m N)
theorem envok_msg_writer_number_m (N : Nat) : EnvOk Tryz.prog (env_msg_writer_number_m N) := mkEnv_ok tyRows_ok eqRows_ok methRows_ok trivial
noncomputable def cut_msg_writer_number_m_l0 : Cut := { tms := [0, 1, 6], sh := (.cons (.ptr 5000000 0) (.cons (.int .i64) (.int .i64))), objs := [(5000000, [5000000], .box (.own 2000001)), (2000001, [5000000, 0], .sl (.int .u8))], sts := [] }
noncomputable def cut_msg_writer_number_m_l0_o0 : Cut := { tms := [], sh := .nil, objs := [(5000000, [5000000], .box (.own 2000001)), (2000001, [5000000, 0], .sl (.int .u8))], sts := [] }
noncomputable def lp_msg_writer_number_m_l0 (N : Nat) : Lp := lpOf cut_msg_writer_number_m_l0 (2, cut_msg_writer_number_m_l0_o0) [] (fun v => msg_writer_number_m_l0 N N v.1.2.1 v.1.2.2 v.2.2.1)
noncomputable def lam_msg_writer_number_m_l0 (_ : Nat) : Lps := fun _ => none
theorem lpok_msg_writer_number_m_l0 (N : Nat) (ro : Option Nat) : LpOk Tryz.prog 27 ro (lp_msg_writer_number_m_l0 N) (codeAt c_msg_writer_number_m [true, false]) := by
  rw [show (codeAt c_msg_writer_number_m [true, false]) = .loop (codeAt c_msg_writer_number_m [true, false, false]) by kernel_rfl]
  exact loop_ok (envok_msg_writer_number_m N) mixed (Λ := lam_msg_writer_number_m_l0 N) (p := 12) (obs_ok (l := []) (by kernel_rfl) obsNil) (by kernel_rfl) (by intro rec v; kernel_rfl) N
noncomputable def lam_msg_writer_number_m (N : Nat) : Lps := fun p => bif Nat.beq p 6 then some (lp_msg_writer_number_m_l0 N) else none
noncomputable def cut_msg_writer_number_m_in : Cut := { tms := [0, 1, 2], sh := (.cons (.ptr 5000000 0) (.cons (.int .i64) (.int .i64))), objs := [(5000000, [0], .box (.own 5000001)), (5000001, [0, 0], .sl (.int .u8))], sts := [] }
noncomputable def cut_msg_writer_number_m_out0 : Cut := { tms := [0], sh := (.tup .nil), objs := [(5000000, [5000000], .box (.own 2000001)), (2000001, [5000000, 0], .sl (.int .u8))], sts := [] }
noncomputable def ctr_msg_writer_number_m (N : Nat) : CtrM := ctrM cut_msg_writer_number_m_in cut_msg_writer_number_m_out0 [] (fun v => msg_writer_number_m N v.1.2.1 v.1.2.2 v.2.2.1)
theorem sound_msg_writer_number_m (N : Nat) : SoundM Tryz.prog 107 (ctr_msg_writer_number_m N) :=
  fnM_sound (envok_msg_writer_number_m N) mixed (Λ := lam_msg_writer_number_m N) (fn := Tryz.f107) (c := c_msg_writer_number_m) Tryz.func107 (by kernel_rfl) (by kernel_rfl) (obs_ok (l := [(lp_msg_writer_number_m_l0 N, (codeAt c_msg_writer_number_m [true, false]))]) (by kernel_rfl) (obsCons (lpok_msg_writer_number_m_l0 N none) obsNil)) (by kernel_rfl) (by intro v; kernel_rfl)

noncomputable def c_msg_writer_text_m : Code := match Tryz.f98.body with | some c => c | none => .skip
noncomputable def tab_msg_writer_text_m (_ : Nat) : List (Nat × Ctr) := []
noncomputable def tabm_msg_writer_text_m (N : Nat) : List (Nat × CtrM) := [(107, ctr_msg_writer_number_m N)]
noncomputable def env_msg_writer_text_m (N : Nat) : Env := mkEnv tyRows eqRows methRows [] [7] (tab_msg_writer_text_m N) (tabm_msg_writer_text_m N)
theorem envok_msg_writer_text_m (N : Nat) : EnvOk Tryz.prog (env_msg_writer_text_m N) := mkEnv_ok tyRows_ok eqRows_ok methRows_ok trivial ⟨sound_msg_writer_number_m N, trivial⟩
noncomputable def lam_msg_writer_text_m (_ : Nat) : Lps := fun _ => none
noncomputable def cut_msg_writer_text_m_in : Cut := { tms := [0, 1], sh := (.cons (.ptr 5000000 0) .str), objs := [(5000000, [0], .box (.own 5000001)), (5000001, [0, 0], .sl (.int .u8))], sts := [] }
noncomputable def cut_msg_writer_text_m_out0 : Cut := { tms := [0], sh := (.tup .nil), objs := [(5000000, [5000000], .box (.own 2000001)), (2000001, [5000000, 0], .sl (.int .u8))], sts := [] }
noncomputable def ctr_msg_writer_text_m (N : Nat) : CtrM := ctrM cut_msg_writer_text_m_in cut_msg_writer_text_m_out0 [] (fun v => msg_writer_text_m N v.1.2 v.2.2.1)
theorem sound_msg_writer_text_m (N : Nat) : SoundM Tryz.prog 98 (ctr_msg_writer_text_m N) :=
  fnM_sound (envok_msg_writer_text_m N) mixed (Λ := lam_msg_writer_text_m N) (fn := Tryz.f98) (c := c_msg_writer_text_m) Tryz.func98 (by kernel_rfl) (by kernel_rfl) (obs_ok (l := []) (by kernel_rfl) obsNil) (by kernel_rfl) (by intro v; kernel_rfl)

noncomputable def c_msg_put_write_m : Code := match Tryz.f103.body with | some c => c | none => .skip
noncomputable def tab_msg_put_write_m (_ : Nat) : List (Nat × Ctr) := []
noncomputable def tabm_msg_put_write_m (N : Nat) : List (Nat × CtrM) := [(98, ctr_msg_writer_text_m N), (107, ctr_msg_writer_number_m N)]
noncomputable def env_msg_put_write_m (N : Nat) : Env := mkEnv tyRows eqRows methRows [] [7, 11, 15] (tab_msg_put_write_m N) (tabm_msg_put_write_m N)
theorem envok_msg_put_write_m (N : Nat) : EnvOk Tryz.prog (env_msg_put_write_m N) := mkEnv_ok tyRows_ok eqRows_ok methRows_ok trivial ⟨sound_msg_writer_text_m N, ⟨sound_msg_writer_number_m N, trivial⟩⟩
noncomputable def lam_msg_put_write_m (_ : Nat) : Lps := fun _ => none
noncomputable def cut_msg_put_write_m_in : Cut := { tms := [0, 1], sh := (.cons (.val T_api_Msg) (.ptr 5000000 0)), objs := [(5000000, [1], .box (.own 5000001)), (5000001, [1, 0], .sl (.int .u8))], sts := [] }
noncomputable def cut_msg_put_write_m_out0 : Cut := { tms := [0], sh := (.tup .nil), objs := [(5000000, [5000000], .box (.own 2000001)), (2000001, [5000000, 0], .sl (.int .u8))], sts := [] }
noncomputable def ctr_msg_put_write_m (N : Nat) : CtrM := ctrM cut_msg_put_write_m_in cut_msg_put_write_m_out0 [] (fun v => msg_put_write_m N v.1.1 v.2.2.1)
theorem sound_msg_put_write_m (N : Nat) : SoundM Tryz.prog 103 (ctr_msg_put_write_m N) :=
  fnM_sound (envok_msg_put_write_m N) mixed (Λ := lam_msg_put_write_m N) (fn := Tryz.f103) (c := c_msg_put_write_m) Tryz.func103 (by kernel_rfl) (by kernel_rfl) (obs_ok (l := []) (by kernel_rfl) obsNil) (by kernel_rfl) (by intro v; kernel_rfl)

noncomputable def c_msg_del_write_m : Code := match Tryz.f125.body with | some c => c | none => .skip
noncomputable def tab_msg_del_write_m (_ : Nat) : List (Nat × Ctr) := []
noncomputable def tabm_msg_del_write_m (N : Nat) : List (Nat × CtrM) := [(98, ctr_msg_writer_text_m N)]
noncomputable def env_msg_del_write_m (N : Nat) : Env := mkEnv tyRows eqRows methRows [] [7] (tab_msg_del_write_m N) (tabm_msg_del_write_m N)
theorem envok_msg_del_write_m (N : Nat) : EnvOk Tryz.prog (env_msg_del_write_m N) := mkEnv_ok tyRows_ok eqRows_ok methRows_ok trivial ⟨sound_msg_writer_text_m N, trivial⟩
noncomputable def lam_msg_del_write_m (_ : Nat) : Lps := fun _ => none
noncomputable def cut_msg_del_write_m_in : Cut := { tms := [0, 1], sh := (.cons (.val T_api_Msg) (.ptr 5000000 0)), objs := [(5000000, [1], .box (.own 5000001)), (5000001, [1, 0], .sl (.int .u8))], sts := [] }
noncomputable def cut_msg_del_write_m_out0 : Cut := { tms := [0], sh := (.tup .nil), objs := [(5000000, [5000000], .box (.own 2000001)), (2000001, [5000000, 0], .sl (.int .u8))], sts := [] }
noncomputable def ctr_msg_del_write_m (N : Nat) : CtrM := ctrM cut_msg_del_write_m_in cut_msg_del_write_m_out0 [] (fun v => msg_del_write_m N v.1.1 v.2.2.1)
theorem sound_msg_del_write_m (N : Nat) : SoundM Tryz.prog 125 (ctr_msg_del_write_m N) :=
  fnM_sound (envok_msg_del_write_m N) mixed (Λ := lam_msg_del_write_m N) (fn := Tryz.f125) (c := c_msg_del_write_m) Tryz.func125 (by kernel_rfl) (by kernel_rfl) (obs_ok (l := []) (by kernel_rfl) obsNil) (by kernel_rfl) (by intro v; kernel_rfl)

noncomputable def c_msg_drop_write_m : Code := match Tryz.f136.body with | some c => c | none => .skip
noncomputable def tab_msg_drop_write_m (_ : Nat) : List (Nat × Ctr) := []
noncomputable def tabm_msg_drop_write_m (N : Nat) : List (Nat × CtrM) := [(98, ctr_msg_writer_text_m N)]
noncomputable def env_msg_drop_write_m (N : Nat) : Env := mkEnv tyRows eqRows methRows [] [8, 13] (tab_msg_drop_write_m N) (tabm_msg_drop_write_m N)
theorem envok_msg_drop_write_m (N : Nat) : EnvOk Tryz.prog (env_msg_drop_write_m N) := mkEnv_ok tyRows_ok eqRows_ok methRows_ok trivial ⟨sound_msg_writer_text_m N, trivial⟩
noncomputable def lam_msg_drop_write_m (_ : Nat) : Lps := fun _ => none
noncomputable def cut_msg_drop_write_m_in : Cut := { tms := [0, 1], sh := (.cons (.val T_api_Msg) (.ptr 5000000 0)), objs := [(5000000, [1], .box (.own 5000001)), (5000001, [1, 0], .sl (.int .u8))], sts := [] }
noncomputable def cut_msg_drop_write_m_out0 : Cut := { tms := [0], sh := (.tup .nil), objs := [(5000000, [5000000], .box (.own 2000001)), (2000001, [5000000, 0], .sl (.int .u8))], sts := [] }
noncomputable def ctr_msg_drop_write_m (N : Nat) : CtrM := ctrM cut_msg_drop_write_m_in cut_msg_drop_write_m_out0 [] (fun v => msg_drop_write_m N v.1.1 v.2.2.1)
theorem sound_msg_drop_write_m (N : Nat) : SoundM Tryz.prog 136 (ctr_msg_drop_write_m N) :=
  fnM_sound (envok_msg_drop_write_m N) mixed (Λ := lam_msg_drop_write_m N) (fn := Tryz.f136) (c := c_msg_drop_write_m) Tryz.func136 (by kernel_rfl) (by kernel_rfl) (obs_ok (l := []) (by kernel_rfl) obsNil) (by kernel_rfl) (by intro v; kernel_rfl)

noncomputable def c_msg_move_write_m : Code := match Tryz.f143.body with | some c => c | none => .skip
noncomputable def tab_msg_move_write_m (_ : Nat) : List (Nat × Ctr) := []
noncomputable def tabm_msg_move_write_m (N : Nat) : List (Nat × CtrM) := [(98, ctr_msg_writer_text_m N)]
noncomputable def env_msg_move_write_m (N : Nat) : Env := mkEnv tyRows eqRows methRows [] [7, 11] (tab_msg_move_write_m N) (tabm_msg_move_write_m N)
theorem envok_msg_move_write_m (N : Nat) : EnvOk Tryz.prog (env_msg_move_write_m N) := mkEnv_ok tyRows_ok eqRows_ok methRows_ok trivial ⟨sound_msg_writer_text_m N, trivial⟩
noncomputable def lam_msg_move_write_m (_ : Nat) : Lps := fun _ => none
noncomputable def cut_msg_move_write_m_in : Cut := { tms := [0, 1], sh := (.cons (.val T_api_Msg) (.ptr 5000000 0)), objs := [(5000000, [1], .box (.own 5000001)), (5000001, [1, 0], .sl (.int .u8))], sts := [] }
noncomputable def cut_msg_move_write_m_out0 : Cut := { tms := [0], sh := (.tup .nil), objs := [(5000000, [5000000], .box (.own 2000001)), (2000001, [5000000, 0], .sl (.int .u8))], sts := [] }
noncomputable def ctr_msg_move_write_m (N : Nat) : CtrM := ctrM cut_msg_move_write_m_in cut_msg_move_write_m_out0 [] (fun v => msg_move_write_m N v.1.1 v.2.2.1)
theorem sound_msg_move_write_m (N : Nat) : SoundM Tryz.prog 143 (ctr_msg_move_write_m N) :=
  fnM_sound (envok_msg_move_write_m N) mixed (Λ := lam_msg_move_write_m N) (fn := Tryz.f143) (c := c_msg_move_write_m) Tryz.func143 (by kernel_rfl) (by kernel_rfl) (obs_ok (l := []) (by kernel_rfl) obsNil) (by kernel_rfl) (by intro v; kernel_rfl)

noncomputable def c_msg_clone_write_m : Code := match Tryz.f159.body with | some c => c | none => .skip
noncomputable def tab_msg_clone_write_m (_ : Nat) : List (Nat × Ctr) := []
noncomputable def tabm_msg_clone_write_m (N : Nat) : List (Nat × CtrM) := [(143, ctr_msg_move_write_m N)]
noncomputable def env_msg_clone_write_m (N : Nat) : Env := mkEnv tyRows eqRows methRows [] [6] (tab_msg_clone_write_m N) (tabm_msg_clone_write_m N)
theorem envok_msg_clone_write_m (N : Nat) : EnvOk Tryz.prog (env_msg_clone_write_m N) := mkEnv_ok tyRows_ok eqRows_ok methRows_ok trivial ⟨sound_msg_move_write_m N, trivial⟩
noncomputable def lam_msg_clone_write_m (_ : Nat) : Lps := fun _ => none
noncomputable def cut_msg_clone_write_m_in : Cut := { tms := [0, 1], sh := (.cons (.val T_api_Msg) (.ptr 5000000 0)), objs := [(5000000, [1], .box (.own 5000001)), (5000001, [1, 0], .sl (.int .u8))], sts := [] }
noncomputable def cut_msg_clone_write_m_out0 : Cut := { tms := [0], sh := (.tup .nil), objs := [(5000000, [5000000], .box (.own 2000001)), (2000001, [5000000, 0], .sl (.int .u8))], sts := [] }
noncomputable def ctr_msg_clone_write_m (N : Nat) : CtrM := ctrM cut_msg_clone_write_m_in cut_msg_clone_write_m_out0 [] (fun v => msg_clone_write_m N v.1.1 v.2.2.1)
theorem sound_msg_clone_write_m (N : Nat) : SoundM Tryz.prog 159 (ctr_msg_clone_write_m N) :=
  fnM_sound (envok_msg_clone_write_m N) mixed (Λ := lam_msg_clone_write_m N) (fn := Tryz.f159) (c := c_msg_clone_write_m) Tryz.func159 (by kernel_rfl) (by kernel_rfl) (obs_ok (l := []) (by kernel_rfl) obsNil) (by kernel_rfl) (by intro v; kernel_rfl)

noncomputable def c_msg_stamp_write_m : Code := match Tryz.f165.body with | some c => c | none => .skip
noncomputable def tab_msg_stamp_write_m (_ : Nat) : List (Nat × Ctr) := []
noncomputable def tabm_msg_stamp_write_m (N : Nat) : List (Nat × CtrM) := [(136, ctr_msg_drop_write_m N), (107, ctr_msg_writer_number_m N)]
noncomputable def env_msg_stamp_write_m (N : Nat) : Env := mkEnv tyRows eqRows methRows [] [6, 10] (tab_msg_stamp_write_m N) (tabm_msg_stamp_write_m N)
theorem envok_msg_stamp_write_m (N : Nat) : EnvOk Tryz.prog (env_msg_stamp_write_m N) := mkEnv_ok tyRows_ok eqRows_ok methRows_ok trivial ⟨sound_msg_drop_write_m N, ⟨sound_msg_writer_number_m N, trivial⟩⟩
noncomputable def lam_msg_stamp_write_m (_ : Nat) : Lps := fun _ => none
noncomputable def cut_msg_stamp_write_m_in : Cut := { tms := [0, 1], sh := (.cons (.val T_api_Msg) (.ptr 5000000 0)), objs := [(5000000, [1], .box (.own 5000001)), (5000001, [1, 0], .sl (.int .u8))], sts := [] }
noncomputable def cut_msg_stamp_write_m_out0 : Cut := { tms := [0], sh := (.tup .nil), objs := [(5000000, [5000000], .box (.own 2000001)), (2000001, [5000000, 0], .sl (.int .u8))], sts := [] }
noncomputable def ctr_msg_stamp_write_m (N : Nat) : CtrM := ctrM cut_msg_stamp_write_m_in cut_msg_stamp_write_m_out0 [] (fun v => msg_stamp_write_m N v.1.1 v.2.2.1)
theorem sound_msg_stamp_write_m (N : Nat) : SoundM Tryz.prog 165 (ctr_msg_stamp_write_m N) :=
  fnM_sound (envok_msg_stamp_write_m N) mixed (Λ := lam_msg_stamp_write_m N) (fn := Tryz.f165) (c := c_msg_stamp_write_m) Tryz.func165 (by kernel_rfl) (by kernel_rfl) (obs_ok (l := []) (by kernel_rfl) obsNil) (by kernel_rfl) (by intro v; kernel_rfl)

noncomputable def c_msg_Bytes : Code := match Tryz.f17.body with | some c => c | none => .skip
noncomputable def tab_msg_Bytes (N : Nat) : List (Nat × Ctr) := [(14, ctr_msg_Valid N), (49, ctr_msg_of N)]
noncomputable def tabm_msg_Bytes (N : Nat) : List (Nat × CtrM) := [(103, ctr_msg_put_write_m N), (125, ctr_msg_del_write_m N), (136, ctr_msg_drop_write_m N), (143, ctr_msg_move_write_m N), (159, ctr_msg_clone_write_m N), (165, ctr_msg_stamp_write_m N)]
noncomputable def env_msg_Bytes (N : Nat) : Env := mkEnv tyRows eqRows methRows [] [16] (tab_msg_Bytes N) (tabm_msg_Bytes N)
theorem envok_msg_Bytes (N : Nat) : EnvOk Tryz.prog (env_msg_Bytes N) := mkEnv_ok tyRows_ok eqRows_ok methRows_ok ⟨sound_msg_Valid N, ⟨sound_msg_of N, trivial⟩⟩ ⟨sound_msg_put_write_m N, ⟨sound_msg_del_write_m N, ⟨sound_msg_drop_write_m N, ⟨sound_msg_move_write_m N, ⟨sound_msg_clone_write_m N, ⟨sound_msg_stamp_write_m N, trivial⟩⟩⟩⟩⟩⟩
noncomputable def lam_msg_Bytes (_ : Nat) : Lps := fun _ => none
noncomputable def ctr_msg_Bytes (N : Nat) : Ctr := ctrOf (.val T_api_Msg) (.fresh (.int .u8)) [] (fun v => msg_Bytes N v)
theorem sound_msg_Bytes (N : Nat) : SoundF Tryz.prog 17 (fun vs => (ctr_msg_Bytes N).run vs some) :=
  fn_sound (envok_msg_Bytes N) mixed (Λ := lam_msg_Bytes N) (fn := Tryz.f17) (c := c_msg_Bytes) Tryz.func17 (by kernel_rfl) (by kernel_rfl) (obs_ok (l := []) (by kernel_rfl) obsNil) (by kernel_rfl) (by intro v; kernel_rfl)

noncomputable def c_ref05_SameBytes : Code := match Tryz.f16.body with | some c => c | none => .skip
noncomputable def tab_ref05_SameBytes (_ : Nat) : List (Nat × Ctr) := []
noncomputable def env_ref05_SameBytes (N : Nat) : Env := mkEnv tyRows eqRows methRows [] [] (tab_ref05_SameBytes N)
theorem envok_ref05_SameBytes (N : Nat) : EnvOk Tryz.prog (env_ref05_SameBytes N) := mkEnv_ok tyRows_ok eqRows_ok methRows_ok trivial
noncomputable def lam_ref05_SameBytes (_ : Nat) : Lps := fun _ => none
noncomputable def ctr_ref05_SameBytes (N : Nat) : Ctr := ctrOf (.cons (.list (.int .u8)) (.list (.int .u8))) .bool [] (fun v => ref05_SameBytes N v.1 v.2)
theorem sound_ref05_SameBytes (N : Nat) : SoundF Tryz.prog 16 (fun vs => (ctr_ref05_SameBytes N).run vs some) :=
  fn_sound (envok_ref05_SameBytes N) mixed (Λ := lam_ref05_SameBytes N) (fn := Tryz.f16) (c := c_ref05_SameBytes) Tryz.func16 (by kernel_rfl) (by kernel_rfl) (obs_ok (l := []) (by kernel_rfl) obsNil) (by kernel_rfl) (by intro v; kernel_rfl)

noncomputable def c_msg_reader_take_m : Code := match Tryz.f69.body with | some c => c | none => .skip
noncomputable def tab_msg_reader_take_m (_ : Nat) : List (Nat × Ctr) := []
noncomputable def env_msg_reader_take_m (N : Nat) : Env := mkEnv tyRows eqRows methRows [] [] (tab_msg_reader_take_m N)
theorem envok_msg_reader_take_m (N : Nat) : EnvOk Tryz.prog (env_msg_reader_take_m N) := mkEnv_ok tyRows_ok eqRows_ok methRows_ok trivial
noncomputable def lam_msg_reader_take_m (_ : Nat) : Lps := fun _ => none
noncomputable def cut_msg_reader_take_m_in : Cut := { tms := [0, 1], sh := (.cons (.ptr 5000000 0) (.int .i64)), objs := [(5000000, [0], .box (.cons (.list (.int .u8)) .bool))], sts := [] }
noncomputable def cut_msg_reader_take_m_out0 : Cut := { tms := [0], sh := (.list (.int .u8)), objs := [(5000000, [5000000], .box (.cons (.list (.int .u8)) .bool))], sts := [] }
noncomputable def ctr_msg_reader_take_m (N : Nat) : CtrM := ctrM cut_msg_reader_take_m_in cut_msg_reader_take_m_out0 [] (fun v => msg_reader_take_m N v.1.2 v.2.1.1 v.2.1.2)
theorem sound_msg_reader_take_m (N : Nat) : SoundM Tryz.prog 69 (ctr_msg_reader_take_m N) :=
  fnM_sound (envok_msg_reader_take_m N) mixed (Λ := lam_msg_reader_take_m N) (fn := Tryz.f69) (c := c_msg_reader_take_m) Tryz.func69 (by kernel_rfl) (by kernel_rfl) (obs_ok (l := []) (by kernel_rfl) obsNil) (by kernel_rfl) (by intro v; kernel_rfl)

noncomputable def c_msg_reader_number_m : Code := match Tryz.f59.body with | some c => c | none => .skip
noncomputable def tab_msg_reader_number_m (_ : Nat) : List (Nat × Ctr) := []
noncomputable def tabm_msg_reader_number_m (N : Nat) : List (Nat × CtrM) := [(69, ctr_msg_reader_take_m N)]
noncomputable def env_msg_reader_number_m (N : Nat) : Env := mkEnv tyRows eqRows methRows [] [10] (tab_msg_reader_number_m N) (tabm_msg_reader_number_m N)
theorem envok_msg_reader_number_m (N : Nat) : EnvOk Tryz.prog (env_msg_reader_number_m N) := mkEnv_ok tyRows_ok eqRows_ok methRows_ok trivial ⟨sound_msg_reader_take_m N, trivial⟩
noncomputable def cut_msg_reader_number_m_l0 : Cut := { tms := [5, 10, 11, 12], sh := (.cons (.int .i64) (.cons (.list (.int .u8)) (.cons (.int .i64) (.int .i64)))), objs := [(5000000, [5000000], .box (.cons (.list (.int .u8)) .bool))], sts := [] }
noncomputable def cut_msg_reader_number_m_l0_o0 : Cut := { tms := [5], sh := (.int .i64), objs := [(5000000, [5000000], .box (.cons (.list (.int .u8)) .bool))], sts := [] }
noncomputable def lp_msg_reader_number_m_l0 (N : Nat) : Lp := lpOf cut_msg_reader_number_m_l0 (2, cut_msg_reader_number_m_l0_o0) [] (fun v => msg_reader_number_m_l0 N N v.1.1 v.1.2.1 v.1.2.2.1 v.1.2.2.2 v.2.1.1 v.2.1.2)
noncomputable def lam_msg_reader_number_m_l0 (_ : Nat) : Lps := fun _ => none
theorem lpok_msg_reader_number_m_l0 (N : Nat) (ro : Option Nat) : LpOk Tryz.prog 23 ro (lp_msg_reader_number_m_l0 N) (codeAt c_msg_reader_number_m [true, true, false, true, false]) := by
  rw [show (codeAt c_msg_reader_number_m [true, true, false, true, false]) = .loop (codeAt c_msg_reader_number_m [true, true, false, true, false, false]) by kernel_rfl]
  exact loop_ok (envok_msg_reader_number_m N) mixed (Λ := lam_msg_reader_number_m_l0 N) (p := 116) (obs_ok (l := []) (by kernel_rfl) obsNil) (by kernel_rfl) (by intro rec v; kernel_rfl) N
noncomputable def lam_msg_reader_number_m (N : Nat) : Lps := fun p => bif Nat.beq p 58 then some (lp_msg_reader_number_m_l0 N) else none
noncomputable def cut_msg_reader_number_m_in : Cut := { tms := [0, 1], sh := (.cons (.ptr 5000000 0) (.int .i64)), objs := [(5000000, [0], .box (.cons (.list (.int .u8)) .bool))], sts := [] }
noncomputable def cut_msg_reader_number_m_out0 : Cut := { tms := [0], sh := (.int .i64), objs := [(5000000, [5000000], .box (.cons (.list (.int .u8)) .bool))], sts := [] }
noncomputable def ctr_msg_reader_number_m (N : Nat) : CtrM := ctrM cut_msg_reader_number_m_in cut_msg_reader_number_m_out0 [] (fun v => msg_reader_number_m N v.1.2 v.2.1.1 v.2.1.2)
theorem sound_msg_reader_number_m (N : Nat) : SoundM Tryz.prog 59 (ctr_msg_reader_number_m N) :=
  fnM_sound (envok_msg_reader_number_m N) mixed (Λ := lam_msg_reader_number_m N) (fn := Tryz.f59) (c := c_msg_reader_number_m) Tryz.func59 (by kernel_rfl) (by kernel_rfl) (obs_ok (l := [(lp_msg_reader_number_m_l0 N, (codeAt c_msg_reader_number_m [true, true, false, true, false]))]) (by kernel_rfl) (obsCons (lpok_msg_reader_number_m_l0 N none) obsNil)) (by kernel_rfl) (by intro v; kernel_rfl)

noncomputable def c_msg_reader_text_m : Code := match Tryz.f60.body with | some c => c | none => .skip
noncomputable def tab_msg_reader_text_m (_ : Nat) : List (Nat × Ctr) := []
noncomputable def tabm_msg_reader_text_m (N : Nat) : List (Nat × CtrM) := [(59, ctr_msg_reader_number_m N), (69, ctr_msg_reader_take_m N)]
noncomputable def env_msg_reader_text_m (N : Nat) : Env := mkEnv tyRows eqRows methRows [] [5, 6] (tab_msg_reader_text_m N) (tabm_msg_reader_text_m N)
theorem envok_msg_reader_text_m (N : Nat) : EnvOk Tryz.prog (env_msg_reader_text_m N) := mkEnv_ok tyRows_ok eqRows_ok methRows_ok trivial ⟨sound_msg_reader_number_m N, ⟨sound_msg_reader_take_m N, trivial⟩⟩
noncomputable def lam_msg_reader_text_m (_ : Nat) : Lps := fun _ => none
noncomputable def cut_msg_reader_text_m_in : Cut := { tms := [0], sh := (.ptr 5000000 0), objs := [(5000000, [0], .box (.cons (.list (.int .u8)) .bool))], sts := [] }
noncomputable def cut_msg_reader_text_m_out0 : Cut := { tms := [0], sh := .str, objs := [(5000000, [5000000], .box (.cons (.list (.int .u8)) .bool))], sts := [] }
noncomputable def ctr_msg_reader_text_m (N : Nat) : CtrM := ctrM cut_msg_reader_text_m_in cut_msg_reader_text_m_out0 [] (fun v => msg_reader_text_m N v.2.1.1 v.2.1.2)
theorem sound_msg_reader_text_m (N : Nat) : SoundM Tryz.prog 60 (ctr_msg_reader_text_m N) :=
  fnM_sound (envok_msg_reader_text_m N) mixed (Λ := lam_msg_reader_text_m N) (fn := Tryz.f60) (c := c_msg_reader_text_m) Tryz.func60 (by kernel_rfl) (by kernel_rfl) (obs_ok (l := []) (by kernel_rfl) obsNil) (by kernel_rfl) (by intro v; kernel_rfl)

noncomputable def c_msg_Parse : Code := match Tryz.f30.body with | some c => c | none => .skip
noncomputable def tab_msg_Parse (N : Nat) : List (Nat × Ctr) := [(14, ctr_msg_Valid N)]
noncomputable def tabm_msg_Parse (N : Nat) : List (Nat × CtrM) := [(59, ctr_msg_reader_number_m N), (60, ctr_msg_reader_text_m N)]
noncomputable def env_msg_Parse (N : Nat) : Env := mkEnv tyRows eqRows methRows [] [11, 18, 21, 24, 29, 34, 38, 45, 48, 53, 57, 61] (tab_msg_Parse N) (tabm_msg_Parse N)
theorem envok_msg_Parse (N : Nat) : EnvOk Tryz.prog (env_msg_Parse N) := mkEnv_ok tyRows_ok eqRows_ok methRows_ok ⟨sound_msg_Valid N, trivial⟩ ⟨sound_msg_reader_number_m N, ⟨sound_msg_reader_text_m N, trivial⟩⟩
noncomputable def cut_msg_Parse_p0 : Cut := { tms := [0, 2, 5, 6], sh := (.cons (.list (.int .u8)) (.cons (.ptr 2000000 0) (.cons (.ptr 2000001 0) (.ptr 2000002 0)))), objs := [(2000000, [2], .box (.cons (.int .i64) (.cons .str (.cons .str (.cons .str (.cons .str (.cons .str (.cons .str (.int .i64))))))))), (2000001, [5], .box (.cons (.list (.int .u8)) .bool)), (2000002, [6], .box (.cons (.int .i64) (.cons .str (.cons .str (.cons .str (.cons .str (.cons .str (.cons .str (.int .i64)))))))))], sts := [] }
noncomputable def cut_msg_Parse_p0_o0 : Cut := { tms := [2, 3, 4], sh := (.cons (.ptr 2000000 0) (.cons (.int .i64) (.int .i64))), objs := [(2000000, [2], .box (.cons (.int .i64) (.cons .str (.cons .str (.cons .str (.cons .str (.cons .str (.cons .str (.int .i64)))))))))], sts := [] }
noncomputable def lp_msg_Parse_p0 (N : Nat) : Lp := lpOf cut_msg_Parse_p0 (1, cut_msg_Parse_p0_o0) [] (fun v => msg_Parse_p0 N v.1.1 v.2.1.1 v.2.1.2.1 v.2.1.2.2.1 v.2.1.2.2.2.1 v.2.1.2.2.2.2.1 v.2.1.2.2.2.2.2.1 v.2.1.2.2.2.2.2.2.1 v.2.1.2.2.2.2.2.2.2 v.2.2.1.1 v.2.2.1.2 v.2.2.2.1.1 v.2.2.2.1.2.1 v.2.2.2.1.2.2.1 v.2.2.2.1.2.2.2.1 v.2.2.2.1.2.2.2.2.1 v.2.2.2.1.2.2.2.2.2.1 v.2.2.2.1.2.2.2.2.2.2.1 v.2.2.2.1.2.2.2.2.2.2.2)
noncomputable def lam_msg_Parse_p0 (_ : Nat) : Lps := fun _ => none
theorem lpok_msg_Parse_p0 (N : Nat) (ro : Option Nat) : LpOk Tryz.prog 82 ro (lp_msg_Parse_p0 N) (codeAt c_msg_Parse [true, true, true, true]) :=
  piece_ok (envok_msg_Parse N) mixed (Λ := lam_msg_Parse_p0 N) (p := 31) (obs_ok (l := []) (by kernel_rfl) obsNil) (by kernel_rfl) (by intro v; kernel_rfl)
noncomputable def lam_msg_Parse (N : Nat) : Lps := fun p => bif Nat.beq p 31 then some (lp_msg_Parse_p0 N) else none
noncomputable def ctr_msg_Parse (N : Nat) : Ctr := ctrOf (.list (.int .u8)) (.tup (.cons (.val T_api_Msg) (.cons (.int .i64) (.int .i64)))) [] (fun v => msg_Parse N v)
theorem sound_msg_Parse (N : Nat) : SoundF Tryz.prog 30 (fun vs => (ctr_msg_Parse N).run vs some) :=
  fn_sound (envok_msg_Parse N) mixed (Λ := lam_msg_Parse N) (fn := Tryz.f30) (c := c_msg_Parse) Tryz.func30 (by kernel_rfl) (by kernel_rfl) (obs_ok (l := [(lp_msg_Parse_p0 N, (codeAt c_msg_Parse [true, true, true, true]))]) (by kernel_rfl) (obsCons (lpok_msg_Parse_p0 N none) obsNil)) (by kernel_rfl) (by intro v; kernel_rfl)

noncomputable def c_cmp_isNaN_span_end : Code := match Tryz.f81.body with | some c => c | none => .skip
noncomputable def tab_cmp_isNaN_span_end (_ : Nat) : List (Nat × Ctr) := []
noncomputable def env_cmp_isNaN_span_end (N : Nat) : Env := mkEnv tyRows eqRows methRows [] [] (tab_cmp_isNaN_span_end N)
theorem envok_cmp_isNaN_span_end (N : Nat) : EnvOk Tryz.prog (env_cmp_isNaN_span_end N) := mkEnv_ok tyRows_ok eqRows_ok methRows_ok trivial
noncomputable def lam_cmp_isNaN_span_end (_ : Nat) : Lps := fun _ => none
noncomputable def ctr_cmp_isNaN_span_end (N : Nat) : Ctr := ctrOf .str .bool [] (fun v => cmp_isNaN_span_end N v)
theorem sound_cmp_isNaN_span_end (N : Nat) : SoundF Tryz.prog 81 (fun vs => (ctr_cmp_isNaN_span_end N).run vs some) :=
  fn_sound (envok_cmp_isNaN_span_end N) mixed (Λ := lam_cmp_isNaN_span_end N) (fn := Tryz.f81) (c := c_cmp_isNaN_span_end) Tryz.func81 (by kernel_rfl) (by kernel_rfl) (obs_ok (l := []) (by kernel_rfl) obsNil) (by kernel_rfl) (by intro v; kernel_rfl)

noncomputable def c_cmp_Compare_span_end : Code := match Tryz.f80.body with | some c => c | none => .skip
noncomputable def tab_cmp_Compare_span_end (N : Nat) : List (Nat × Ctr) := [(81, ctr_cmp_isNaN_span_end N)]
noncomputable def env_cmp_Compare_span_end (N : Nat) : Env := mkEnv tyRows eqRows methRows [] [] (tab_cmp_Compare_span_end N)
theorem envok_cmp_Compare_span_end (N : Nat) : EnvOk Tryz.prog (env_cmp_Compare_span_end N) := mkEnv_ok tyRows_ok eqRows_ok methRows_ok ⟨sound_cmp_isNaN_span_end N, trivial⟩
noncomputable def lam_cmp_Compare_span_end (_ : Nat) : Lps := fun _ => none
noncomputable def ctr_cmp_Compare_span_end (N : Nat) : Ctr := ctrOf (.cons .str .str) (.int .i64) [] (fun v => cmp_Compare_span_end N v.1 v.2)
theorem sound_cmp_Compare_span_end (N : Nat) : SoundF Tryz.prog 80 (fun vs => (ctr_cmp_Compare_span_end N).run vs some) :=
  fn_sound (envok_cmp_Compare_span_end N) mixed (Λ := lam_cmp_Compare_span_end N) (fn := Tryz.f80) (c := c_cmp_Compare_span_end) Tryz.func80 (by kernel_rfl) (by kernel_rfl) (obs_ok (l := []) (by kernel_rfl) obsNil) (by kernel_rfl) (by intro v; kernel_rfl)

noncomputable def c_span_end_compare : Code := match Tryz.f79.body with | some c => c | none => .skip
noncomputable def tab_span_end_compare (N : Nat) : List (Nat × Ctr) := [(80, ctr_cmp_Compare_span_end N)]
noncomputable def env_span_end_compare (N : Nat) : Env := mkEnv tyRows eqRows methRows [] [] (tab_span_end_compare N)
theorem envok_span_end_compare (N : Nat) : EnvOk Tryz.prog (env_span_end_compare N) := mkEnv_ok tyRows_ok eqRows_ok methRows_ok ⟨sound_cmp_Compare_span_end N, trivial⟩
noncomputable def lam_span_end_compare (_ : Nat) : Lps := fun _ => none
noncomputable def ctr_span_end_compare (N : Nat) : Ctr := ctrOf (.cons .str .str) (.int .i64) [] (fun v => span_end_compare N v.1 v.2)
theorem sound_span_end_compare (N : Nat) : SoundF Tryz.prog 79 (fun vs => (ctr_span_end_compare N).run vs some) :=
  fn_sound (envok_span_end_compare N) mixed (Λ := lam_span_end_compare N) (fn := Tryz.f79) (c := c_span_end_compare) Tryz.func79 (by kernel_rfl) (by kernel_rfl) (obs_ok (l := []) (by kernel_rfl) obsNil) (by kernel_rfl) (by intro v; kernel_rfl)

noncomputable def c_slices_MinFunc_s_span_end_span_end__span_end_compare : Code := match Tryz.f78.body with | some c => c | none => .skip
noncomputable def tab_slices_MinFunc_s_span_end_span_end__span_end_compare (N : Nat) : List (Nat × Ctr) := [(79, ctr_span_end_compare N)]
noncomputable def env_slices_MinFunc_s_span_end_span_end__span_end_compare (N : Nat) : Env := mkEnv tyRows eqRows methRows [] [] (tab_slices_MinFunc_s_span_end_span_end__span_end_compare N)
theorem envok_slices_MinFunc_s_span_end_span_end__span_end_compare (N : Nat) : EnvOk Tryz.prog (env_slices_MinFunc_s_span_end_span_end__span_end_compare N) := mkEnv_ok tyRows_ok eqRows_ok methRows_ok ⟨sound_span_end_compare N, trivial⟩
noncomputable def cut_slices_MinFunc_s_span_end_span_end__span_end_compare_l0 : Cut := { tms := [0, 1, 5, 6], sh := (.cons (.list .str) (.cons (.clo 79 .nil) (.cons .str (.int .i64)))), objs := [], sts := [] }
noncomputable def cut_slices_MinFunc_s_span_end_span_end__span_end_compare_l0_o0 : Cut := { tms := [5], sh := .str, objs := [], sts := [] }
noncomputable def lp_slices_MinFunc_s_span_end_span_end__span_end_compare_l0 (N : Nat) : Lp := lpOf cut_slices_MinFunc_s_span_end_span_end__span_end_compare_l0 (2, cut_slices_MinFunc_s_span_end_span_end__span_end_compare_l0_o0) [] (fun v => slices_MinFunc_s_span_end_span_end__span_end_compare_l0 N N v.1.1 v.1.2.2.1 v.1.2.2.2)
noncomputable def lam_slices_MinFunc_s_span_end_span_end__span_end_compare_l0 (_ : Nat) : Lps := fun _ => none
theorem lpok_slices_MinFunc_s_span_end_span_end__span_end_compare_l0 (N : Nat) (ro : Option Nat) : LpOk Tryz.prog 33 ro (lp_slices_MinFunc_s_span_end_span_end__span_end_compare_l0 N) (codeAt c_slices_MinFunc_s_span_end_span_end__span_end_compare [true, true, true, false, true, false]) := by
  rw [show (codeAt c_slices_MinFunc_s_span_end_span_end__span_end_compare [true, true, true, false, true, false]) = .loop (codeAt c_slices_MinFunc_s_span_end_span_end__span_end_compare [true, true, true, false, true, false, false]) by kernel_rfl]
  exact loop_ok (envok_slices_MinFunc_s_span_end_span_end__span_end_compare N) mixed (Λ := lam_slices_MinFunc_s_span_end_span_end__span_end_compare_l0 N) (p := 244) (obs_ok (l := []) (by kernel_rfl) obsNil) (by kernel_rfl) (by intro rec v; kernel_rfl) N
noncomputable def lam_slices_MinFunc_s_span_end_span_end__span_end_compare (N : Nat) : Lps := fun p => bif Nat.beq p 122 then some (lp_slices_MinFunc_s_span_end_span_end__span_end_compare_l0 N) else none
noncomputable def ctr_slices_MinFunc_s_span_end_span_end__span_end_compare (N : Nat) : Ctr := ctrOf (.cons (.list .str) (.clo 79 .nil)) .str [] (fun v => slices_MinFunc_s_span_end_span_end__span_end_compare N v.1)
theorem sound_slices_MinFunc_s_span_end_span_end__span_end_compare (N : Nat) : SoundF Tryz.prog 78 (fun vs => (ctr_slices_MinFunc_s_span_end_span_end__span_end_compare N).run vs some) :=
  fn_sound (envok_slices_MinFunc_s_span_end_span_end__span_end_compare N) mixed (Λ := lam_slices_MinFunc_s_span_end_span_end__span_end_compare N) (fn := Tryz.f78) (c := c_slices_MinFunc_s_span_end_span_end__span_end_compare) Tryz.func78 (by kernel_rfl) (by kernel_rfl) (obs_ok (l := [(lp_slices_MinFunc_s_span_end_span_end__span_end_compare_l0 N, (codeAt c_slices_MinFunc_s_span_end_span_end__span_end_compare [true, true, true, false, true, false]))]) (by kernel_rfl) (obsCons (lpok_slices_MinFunc_s_span_end_span_end__span_end_compare_l0 N none) obsNil)) (by kernel_rfl) (by intro v; kernel_rfl)

noncomputable def c_span_least : Code := match Tryz.f77.body with | some c => c | none => .skip
noncomputable def tab_span_least (N : Nat) : List (Nat × Ctr) := [(78, ctr_slices_MinFunc_s_span_end_span_end__span_end_compare N)]
noncomputable def env_span_least (N : Nat) : Env := mkEnv tyRows eqRows methRows [] [] (tab_span_least N)
theorem envok_span_least (N : Nat) : EnvOk Tryz.prog (env_span_least N) := mkEnv_ok tyRows_ok eqRows_ok methRows_ok ⟨sound_slices_MinFunc_s_span_end_span_end__span_end_compare N, trivial⟩
noncomputable def lam_span_least (_ : Nat) : Lps := fun _ => none
noncomputable def ctr_span_least (N : Nat) : Ctr := ctrOf (.list .str) .str [] (fun v => span_least N v)
theorem sound_span_least (N : Nat) : SoundF Tryz.prog 77 (fun vs => (ctr_span_least N).run vs some) :=
  fn_sound (envok_span_least N) mixed (Λ := lam_span_least N) (fn := Tryz.f77) (c := c_span_least) Tryz.func77 (by kernel_rfl) (by kernel_rfl) (obs_ok (l := []) (by kernel_rfl) obsNil) (by kernel_rfl) (by intro v; kernel_rfl)

noncomputable def c_span_Meet : Code := match Tryz.f75.body with | some c => c | none => .skip
noncomputable def tab_span_Meet (N : Nat) : List (Nat × Ctr) := [(77, ctr_span_least N), (74, ctr_span_Empty N)]
noncomputable def env_span_Meet (N : Nat) : Env := mkEnv tyRows eqRows methRows [] [] (tab_span_Meet N)
theorem envok_span_Meet (N : Nat) : EnvOk Tryz.prog (env_span_Meet N) := mkEnv_ok tyRows_ok eqRows_ok methRows_ok ⟨sound_span_least N, ⟨sound_span_Empty N, trivial⟩⟩
noncomputable def lam_span_Meet (_ : Nat) : Lps := fun _ => none
noncomputable def ctr_span_Meet (N : Nat) : Ctr := ctrOf (.cons (.val T_api_Span) (.val T_api_Span)) (.val T_api_Span) [] (fun v => span_Meet N v.1 v.2)
theorem sound_span_Meet (N : Nat) : SoundF Tryz.prog 75 (fun vs => (ctr_span_Meet N).run vs some) :=
  fn_sound (envok_span_Meet N) mixed (Λ := lam_span_Meet N) (fn := Tryz.f75) (c := c_span_Meet) Tryz.func75 (by kernel_rfl) (by kernel_rfl) (obs_ok (l := []) (by kernel_rfl) obsNil) (by kernel_rfl) (by intro v; kernel_rfl)

noncomputable def c_msg_meet_c1_c1 : Code := match Tryz.f73.body with | some c => c | none => .skip
noncomputable def tab_msg_meet_c1_c1 (N : Nat) : List (Nat × Ctr) := [(75, ctr_span_Meet N), (74, ctr_span_Empty N)]
noncomputable def env_msg_meet_c1_c1 (N : Nat) : Env := mkEnv tyRows eqRows methRows [] [] (tab_msg_meet_c1_c1 N)
theorem envok_msg_meet_c1_c1 (N : Nat) : EnvOk Tryz.prog (env_msg_meet_c1_c1 N) := mkEnv_ok tyRows_ok eqRows_ok methRows_ok ⟨sound_span_Meet N, ⟨sound_span_Empty N, trivial⟩⟩
noncomputable def lam_msg_meet_c1_c1 (_ : Nat) : Lps := fun _ => none
noncomputable def ctr_msg_meet_c1_c1 (N : Nat) : Ctr := ctrOf (.cons (.val T_api_Span) (.bx (.cons .str .str) 0)) .bool [] (fun v => msg_meet_c1_c1 N v.1 v.2.1 v.2.2)
theorem sound_msg_meet_c1_c1 (N : Nat) : SoundF Tryz.prog 73 (fun vs => (ctr_msg_meet_c1_c1 N).run vs some) :=
  fn_sound (envok_msg_meet_c1_c1 N) mixed (Λ := lam_msg_meet_c1_c1 N) (fn := Tryz.f73) (c := c_msg_meet_c1_c1) Tryz.func73 (by kernel_rfl) (by kernel_rfl) (obs_ok (l := []) (by kernel_rfl) obsNil) (by kernel_rfl) (by intro v; kernel_rfl)

noncomputable def c_slices_IndexFunc_s_api_Span_api_Span__msg_meet_c1_c1 : Code := match Tryz.f76.body with | some c => c | none => .skip
noncomputable def tab_slices_IndexFunc_s_api_Span_api_Span__msg_meet_c1_c1 (N : Nat) : List (Nat × Ctr) := [(73, ctr_msg_meet_c1_c1 N)]
noncomputable def env_slices_IndexFunc_s_api_Span_api_Span__msg_meet_c1_c1 (N : Nat) : Env := mkEnv tyRows eqRows methRows [] [] (tab_slices_IndexFunc_s_api_Span_api_Span__msg_meet_c1_c1 N)
theorem envok_slices_IndexFunc_s_api_Span_api_Span__msg_meet_c1_c1 (N : Nat) : EnvOk Tryz.prog (env_slices_IndexFunc_s_api_Span_api_Span__msg_meet_c1_c1 N) := mkEnv_ok tyRows_ok eqRows_ok methRows_ok ⟨sound_msg_meet_c1_c1 N, trivial⟩
noncomputable def cut_slices_IndexFunc_s_api_Span_api_Span__msg_meet_c1_c1_l0 : Cut := { tms := [0, 1, 7, 8], sh := (.cons (.list T_api_Span) (.cons (.clo 73 (.bx (.cons .str .str) 0)) (.cons (.int .i64) (.int .i64)))), objs := [], sts := [] }
noncomputable def cut_slices_IndexFunc_s_api_Span_api_Span__msg_meet_c1_c1_l0_o0 : Cut := { tms := [4], sh := (.int .i64), objs := [], sts := [] }
noncomputable def cut_slices_IndexFunc_s_api_Span_api_Span__msg_meet_c1_c1_l0_o1 : Cut := { tms := [], sh := .nil, objs := [], sts := [] }
noncomputable def lp_slices_IndexFunc_s_api_Span_api_Span__msg_meet_c1_c1_l0 (N : Nat) : Lp := lpOf cut_slices_IndexFunc_s_api_Span_api_Span__msg_meet_c1_c1_l0 (1, cut_slices_IndexFunc_s_api_Span_api_Span__msg_meet_c1_c1_l0_o0) [(2, cut_slices_IndexFunc_s_api_Span_api_Span__msg_meet_c1_c1_l0_o1)] (fun v => slices_IndexFunc_s_api_Span_api_Span__msg_meet_c1_c1_l0 N N v.1.1 v.1.2.1.1 v.1.2.1.2 v.1.2.2.1 v.1.2.2.2)
noncomputable def lam_slices_IndexFunc_s_api_Span_api_Span__msg_meet_c1_c1_l0 (_ : Nat) : Lps := fun _ => none
theorem lpok_slices_IndexFunc_s_api_Span_api_Span__msg_meet_c1_c1_l0 (N : Nat) (ro : Option Nat) : LpOk Tryz.prog 19 ro (lp_slices_IndexFunc_s_api_Span_api_Span__msg_meet_c1_c1_l0 N) (codeAt c_slices_IndexFunc_s_api_Span_api_Span__msg_meet_c1_c1 [true, false, true, false]) := by
  rw [show (codeAt c_slices_IndexFunc_s_api_Span_api_Span__msg_meet_c1_c1 [true, false, true, false]) = .loop (codeAt c_slices_IndexFunc_s_api_Span_api_Span__msg_meet_c1_c1 [true, false, true, false, false]) by kernel_rfl]
  exact loop_ok (envok_slices_IndexFunc_s_api_Span_api_Span__msg_meet_c1_c1 N) mixed (Λ := lam_slices_IndexFunc_s_api_Span_api_Span__msg_meet_c1_c1_l0 N) (p := 52) (obs_ok (l := []) (by kernel_rfl) obsNil) (by kernel_rfl) (by intro rec v; kernel_rfl) N
noncomputable def lam_slices_IndexFunc_s_api_Span_api_Span__msg_meet_c1_c1 (N : Nat) : Lps := fun p => bif Nat.beq p 26 then some (lp_slices_IndexFunc_s_api_Span_api_Span__msg_meet_c1_c1_l0 N) else none
noncomputable def ctr_slices_IndexFunc_s_api_Span_api_Span__msg_meet_c1_c1 (N : Nat) : Ctr := ctrOf (.cons (.list T_api_Span) (.clo 73 (.bx (.cons .str .str) 0))) (.int .i64) [] (fun v => slices_IndexFunc_s_api_Span_api_Span__msg_meet_c1_c1 N v.1 v.2.1 v.2.2)
theorem sound_slices_IndexFunc_s_api_Span_api_Span__msg_meet_c1_c1 (N : Nat) : SoundF Tryz.prog 76 (fun vs => (ctr_slices_IndexFunc_s_api_Span_api_Span__msg_meet_c1_c1 N).run vs some) :=
  fn_sound (envok_slices_IndexFunc_s_api_Span_api_Span__msg_meet_c1_c1 N) mixed (Λ := lam_slices_IndexFunc_s_api_Span_api_Span__msg_meet_c1_c1 N) (fn := Tryz.f76) (c := c_slices_IndexFunc_s_api_Span_api_Span__msg_meet_c1_c1) Tryz.func76 (by kernel_rfl) (by kernel_rfl) (obs_ok (l := [(lp_slices_IndexFunc_s_api_Span_api_Span__msg_meet_c1_c1_l0 N, (codeAt c_slices_IndexFunc_s_api_Span_api_Span__msg_meet_c1_c1 [true, false, true, false]))]) (by kernel_rfl) (obsCons (lpok_slices_IndexFunc_s_api_Span_api_Span__msg_meet_c1_c1_l0 N none) obsNil)) (by kernel_rfl) (by intro v; kernel_rfl)

noncomputable def c_slices_ContainsFunc_s_api_Span_api_Span__msg_meet_c1_c1 : Code := match Tryz.f71.body with | some c => c | none => .skip
noncomputable def tab_slices_ContainsFunc_s_api_Span_api_Span__msg_meet_c1_c1 (N : Nat) : List (Nat × Ctr) := [(76, ctr_slices_IndexFunc_s_api_Span_api_Span__msg_meet_c1_c1 N)]
noncomputable def env_slices_ContainsFunc_s_api_Span_api_Span__msg_meet_c1_c1 (N : Nat) : Env := mkEnv tyRows eqRows methRows [] [] (tab_slices_ContainsFunc_s_api_Span_api_Span__msg_meet_c1_c1 N)
theorem envok_slices_ContainsFunc_s_api_Span_api_Span__msg_meet_c1_c1 (N : Nat) : EnvOk Tryz.prog (env_slices_ContainsFunc_s_api_Span_api_Span__msg_meet_c1_c1 N) := mkEnv_ok tyRows_ok eqRows_ok methRows_ok ⟨sound_slices_IndexFunc_s_api_Span_api_Span__msg_meet_c1_c1 N, trivial⟩
noncomputable def lam_slices_ContainsFunc_s_api_Span_api_Span__msg_meet_c1_c1 (_ : Nat) : Lps := fun _ => none
noncomputable def ctr_slices_ContainsFunc_s_api_Span_api_Span__msg_meet_c1_c1 (N : Nat) : Ctr := ctrOf (.cons (.list T_api_Span) (.clo 73 (.bx (.cons .str .str) 0))) .bool [] (fun v => slices_ContainsFunc_s_api_Span_api_Span__msg_meet_c1_c1 N v.1 v.2.1 v.2.2)
theorem sound_slices_ContainsFunc_s_api_Span_api_Span__msg_meet_c1_c1 (N : Nat) : SoundF Tryz.prog 71 (fun vs => (ctr_slices_ContainsFunc_s_api_Span_api_Span__msg_meet_c1_c1 N).run vs some) :=
  fn_sound (envok_slices_ContainsFunc_s_api_Span_api_Span__msg_meet_c1_c1 N) mixed (Λ := lam_slices_ContainsFunc_s_api_Span_api_Span__msg_meet_c1_c1 N) (fn := Tryz.f71) (c := c_slices_ContainsFunc_s_api_Span_api_Span__msg_meet_c1_c1) Tryz.func71 (by kernel_rfl) (by kernel_rfl) (obs_ok (l := []) (by kernel_rfl) obsNil) (by kernel_rfl) (by intro v; kernel_rfl)

noncomputable def c_msg_meet_c1 : Code := match Tryz.f72.body with | some c => c | none => .skip
noncomputable def tab_msg_meet_c1 (N : Nat) : List (Nat × Ctr) := [(71, ctr_slices_ContainsFunc_s_api_Span_api_Span__msg_meet_c1_c1 N)]
noncomputable def env_msg_meet_c1 (N : Nat) : Env := mkEnv tyRows eqRows methRows [] [] (tab_msg_meet_c1 N)
theorem envok_msg_meet_c1 (N : Nat) : EnvOk Tryz.prog (env_msg_meet_c1 N) := mkEnv_ok tyRows_ok eqRows_ok methRows_ok ⟨sound_slices_ContainsFunc_s_api_Span_api_Span__msg_meet_c1_c1 N, trivial⟩
noncomputable def lam_msg_meet_c1 (_ : Nat) : Lps := fun _ => none
noncomputable def ctr_msg_meet_c1 (N : Nat) : Ctr := ctrOf (.cons (.val T_api_Span) (.bx (.list T_api_Span) 0)) .bool [] (fun v => msg_meet_c1 N v.1 v.2)
theorem sound_msg_meet_c1 (N : Nat) : SoundF Tryz.prog 72 (fun vs => (ctr_msg_meet_c1 N).run vs some) :=
  fn_sound (envok_msg_meet_c1 N) mixed (Λ := lam_msg_meet_c1 N) (fn := Tryz.f72) (c := c_msg_meet_c1) Tryz.func72 (by kernel_rfl) (by kernel_rfl) (obs_ok (l := []) (by kernel_rfl) obsNil) (by kernel_rfl) (by intro v; kernel_rfl)

noncomputable def c_slices_IndexFunc_s_api_Span_api_Span__msg_meet_c1 : Code := match Tryz.f76.body with | some c => c | none => .skip
noncomputable def tab_slices_IndexFunc_s_api_Span_api_Span__msg_meet_c1 (N : Nat) : List (Nat × Ctr) := [(72, ctr_msg_meet_c1 N)]
noncomputable def env_slices_IndexFunc_s_api_Span_api_Span__msg_meet_c1 (N : Nat) : Env := mkEnv tyRows eqRows methRows [] [] (tab_slices_IndexFunc_s_api_Span_api_Span__msg_meet_c1 N)
theorem envok_slices_IndexFunc_s_api_Span_api_Span__msg_meet_c1 (N : Nat) : EnvOk Tryz.prog (env_slices_IndexFunc_s_api_Span_api_Span__msg_meet_c1 N) := mkEnv_ok tyRows_ok eqRows_ok methRows_ok ⟨sound_msg_meet_c1 N, trivial⟩
noncomputable def cut_slices_IndexFunc_s_api_Span_api_Span__msg_meet_c1_l0 : Cut := { tms := [0, 1, 7, 8], sh := (.cons (.list T_api_Span) (.cons (.clo 72 (.bx (.list T_api_Span) 0)) (.cons (.int .i64) (.int .i64)))), objs := [], sts := [] }
noncomputable def cut_slices_IndexFunc_s_api_Span_api_Span__msg_meet_c1_l0_o0 : Cut := { tms := [4], sh := (.int .i64), objs := [], sts := [] }
noncomputable def cut_slices_IndexFunc_s_api_Span_api_Span__msg_meet_c1_l0_o1 : Cut := { tms := [], sh := .nil, objs := [], sts := [] }
noncomputable def lp_slices_IndexFunc_s_api_Span_api_Span__msg_meet_c1_l0 (N : Nat) : Lp := lpOf cut_slices_IndexFunc_s_api_Span_api_Span__msg_meet_c1_l0 (1, cut_slices_IndexFunc_s_api_Span_api_Span__msg_meet_c1_l0_o0) [(2, cut_slices_IndexFunc_s_api_Span_api_Span__msg_meet_c1_l0_o1)] (fun v => slices_IndexFunc_s_api_Span_api_Span__msg_meet_c1_l0 N N v.1.1 v.1.2.1 v.1.2.2.1 v.1.2.2.2)
noncomputable def lam_slices_IndexFunc_s_api_Span_api_Span__msg_meet_c1_l0 (_ : Nat) : Lps := fun _ => none
theorem lpok_slices_IndexFunc_s_api_Span_api_Span__msg_meet_c1_l0 (N : Nat) (ro : Option Nat) : LpOk Tryz.prog 19 ro (lp_slices_IndexFunc_s_api_Span_api_Span__msg_meet_c1_l0 N) (codeAt c_slices_IndexFunc_s_api_Span_api_Span__msg_meet_c1 [true, false, true, false]) := by
  rw [show (codeAt c_slices_IndexFunc_s_api_Span_api_Span__msg_meet_c1 [true, false, true, false]) = .loop (codeAt c_slices_IndexFunc_s_api_Span_api_Span__msg_meet_c1 [true, false, true, false, false]) by kernel_rfl]
  exact loop_ok (envok_slices_IndexFunc_s_api_Span_api_Span__msg_meet_c1 N) mixed (Λ := lam_slices_IndexFunc_s_api_Span_api_Span__msg_meet_c1_l0 N) (p := 52) (obs_ok (l := []) (by kernel_rfl) obsNil) (by kernel_rfl) (by intro rec v; kernel_rfl) N
noncomputable def lam_slices_IndexFunc_s_api_Span_api_Span__msg_meet_c1 (N : Nat) : Lps := fun p => bif Nat.beq p 26 then some (lp_slices_IndexFunc_s_api_Span_api_Span__msg_meet_c1_l0 N) else none
noncomputable def ctr_slices_IndexFunc_s_api_Span_api_Span__msg_meet_c1 (N : Nat) : Ctr := ctrOf (.cons (.list T_api_Span) (.clo 72 (.bx (.list T_api_Span) 0))) (.int .i64) [] (fun v => slices_IndexFunc_s_api_Span_api_Span__msg_meet_c1 N v.1 v.2)
theorem sound_slices_IndexFunc_s_api_Span_api_Span__msg_meet_c1 (N : Nat) : SoundF Tryz.prog 76 (fun vs => (ctr_slices_IndexFunc_s_api_Span_api_Span__msg_meet_c1 N).run vs some) :=
  fn_sound (envok_slices_IndexFunc_s_api_Span_api_Span__msg_meet_c1 N) mixed (Λ := lam_slices_IndexFunc_s_api_Span_api_Span__msg_meet_c1 N) (fn := Tryz.f76) (c := c_slices_IndexFunc_s_api_Span_api_Span__msg_meet_c1) Tryz.func76 (by kernel_rfl) (by kernel_rfl) (obs_ok (l := [(lp_slices_IndexFunc_s_api_Span_api_Span__msg_meet_c1_l0 N, (codeAt c_slices_IndexFunc_s_api_Span_api_Span__msg_meet_c1 [true, false, true, false]))]) (by kernel_rfl) (obsCons (lpok_slices_IndexFunc_s_api_Span_api_Span__msg_meet_c1_l0 N none) obsNil)) (by kernel_rfl) (by intro v; kernel_rfl)

noncomputable def c_slices_ContainsFunc_s_api_Span_api_Span__msg_meet_c1 : Code := match Tryz.f71.body with | some c => c | none => .skip
noncomputable def tab_slices_ContainsFunc_s_api_Span_api_Span__msg_meet_c1 (N : Nat) : List (Nat × Ctr) := [(76, ctr_slices_IndexFunc_s_api_Span_api_Span__msg_meet_c1 N)]
noncomputable def env_slices_ContainsFunc_s_api_Span_api_Span__msg_meet_c1 (N : Nat) : Env := mkEnv tyRows eqRows methRows [] [] (tab_slices_ContainsFunc_s_api_Span_api_Span__msg_meet_c1 N)
theorem envok_slices_ContainsFunc_s_api_Span_api_Span__msg_meet_c1 (N : Nat) : EnvOk Tryz.prog (env_slices_ContainsFunc_s_api_Span_api_Span__msg_meet_c1 N) := mkEnv_ok tyRows_ok eqRows_ok methRows_ok ⟨sound_slices_IndexFunc_s_api_Span_api_Span__msg_meet_c1 N, trivial⟩
noncomputable def lam_slices_ContainsFunc_s_api_Span_api_Span__msg_meet_c1 (_ : Nat) : Lps := fun _ => none
noncomputable def ctr_slices_ContainsFunc_s_api_Span_api_Span__msg_meet_c1 (N : Nat) : Ctr := ctrOf (.cons (.list T_api_Span) (.clo 72 (.bx (.list T_api_Span) 0))) .bool [] (fun v => slices_ContainsFunc_s_api_Span_api_Span__msg_meet_c1 N v.1 v.2)
theorem sound_slices_ContainsFunc_s_api_Span_api_Span__msg_meet_c1 (N : Nat) : SoundF Tryz.prog 71 (fun vs => (ctr_slices_ContainsFunc_s_api_Span_api_Span__msg_meet_c1 N).run vs some) :=
  fn_sound (envok_slices_ContainsFunc_s_api_Span_api_Span__msg_meet_c1 N) mixed (Λ := lam_slices_ContainsFunc_s_api_Span_api_Span__msg_meet_c1 N) (fn := Tryz.f71) (c := c_slices_ContainsFunc_s_api_Span_api_Span__msg_meet_c1) Tryz.func71 (by kernel_rfl) (by kernel_rfl) (obs_ok (l := []) (by kernel_rfl) obsNil) (by kernel_rfl) (by intro v; kernel_rfl)

noncomputable def c_msg_meet : Code := match Tryz.f64.body with | some c => c | none => .skip
noncomputable def tab_msg_meet (N : Nat) : List (Nat × Ctr) := [(71, ctr_slices_ContainsFunc_s_api_Span_api_Span__msg_meet_c1 N)]
noncomputable def env_msg_meet (N : Nat) : Env := mkEnv tyRows eqRows methRows [] [] (tab_msg_meet N)
theorem envok_msg_meet (N : Nat) : EnvOk Tryz.prog (env_msg_meet N) := mkEnv_ok tyRows_ok eqRows_ok methRows_ok ⟨sound_slices_ContainsFunc_s_api_Span_api_Span__msg_meet_c1 N, trivial⟩
noncomputable def lam_msg_meet (_ : Nat) : Lps := fun _ => none
noncomputable def ctr_msg_meet (N : Nat) : Ctr := ctrOf (.cons (.list T_api_Span) (.list T_api_Span)) .bool [] (fun v => msg_meet N v.1 v.2)
theorem sound_msg_meet (N : Nat) : SoundF Tryz.prog 64 (fun vs => (ctr_msg_meet N).run vs some) :=
  fn_sound (envok_msg_meet N) mixed (Λ := lam_msg_meet N) (fn := Tryz.f64) (c := c_msg_meet) Tryz.func64 (by kernel_rfl) (by kernel_rfl) (obs_ok (l := []) (by kernel_rfl) obsNil) (by kernel_rfl) (by intro v; kernel_rfl)

noncomputable def c_msg_Free : Code := match Tryz.f40.body with | some c => c | none => .skip
noncomputable def tab_msg_Free (N : Nat) : List (Nat × Ctr) := [(20, ctr_msg_Writes N), (64, ctr_msg_meet N), (25, ctr_msg_Reads N)]
noncomputable def env_msg_Free (N : Nat) : Env := mkEnv tyRows eqRows methRows [] [] (tab_msg_Free N)
theorem envok_msg_Free (N : Nat) : EnvOk Tryz.prog (env_msg_Free N) := mkEnv_ok tyRows_ok eqRows_ok methRows_ok ⟨sound_msg_Writes N, ⟨sound_msg_meet N, ⟨sound_msg_Reads N, trivial⟩⟩⟩
noncomputable def lam_msg_Free (_ : Nat) : Lps := fun _ => none
noncomputable def ctr_msg_Free (N : Nat) : Ctr := ctrOf (.cons (.val T_api_Msg) (.val T_api_Msg)) .bool [] (fun v => msg_Free N v.1 v.2)
theorem sound_msg_Free (N : Nat) : SoundF Tryz.prog 40 (fun vs => (ctr_msg_Free N).run vs some) :=
  fn_sound (envok_msg_Free N) mixed (Λ := lam_msg_Free N) (fn := Tryz.f40) (c := c_msg_Free) Tryz.func40 (by kernel_rfl) (by kernel_rfl) (obs_ok (l := []) (by kernel_rfl) obsNil) (by kernel_rfl) (by intro v; kernel_rfl)

noncomputable def c_law05_sanity : Code := match Tryz.f12.body with | some c => c | none => .skip
noncomputable def tab_law05_sanity (N : Nat) : List (Nat × Ctr) := [(43, ctr_law05_sample N), (21, ctr_msg_Apply N), (22, ctr_ref05_Same N), (42, ctr_ref02_Prefix N), (25, ctr_msg_Reads N), (20, ctr_msg_Writes N), (44, ctr_ref02_One N), (36, ctr_ref02_Same N), (26, ctr_msg_Kills N), (17, ctr_msg_Bytes N), (16, ctr_ref05_SameBytes N), (30, ctr_msg_Parse N), (14, ctr_msg_Valid N), (40, ctr_msg_Free N)]
noncomputable def env_law05_sanity (N : Nat) : Env := mkEnv tyRows eqRows methRows [(8, [19])] [] (tab_law05_sanity N)
theorem envok_law05_sanity (N : Nat) : EnvOk Tryz.prog (env_law05_sanity N) := mkEnv_ok tyRows_ok eqRows_ok methRows_ok ⟨sound_law05_sample N, ⟨sound_msg_Apply N, ⟨sound_ref05_Same N, ⟨sound_ref02_Prefix N, ⟨sound_msg_Reads N, ⟨sound_msg_Writes N, ⟨sound_ref02_One N, ⟨sound_ref02_Same N, ⟨sound_msg_Kills N, ⟨sound_msg_Bytes N, ⟨sound_ref05_SameBytes N, ⟨sound_msg_Parse N, ⟨sound_msg_Valid N, ⟨sound_msg_Free N, trivial⟩⟩⟩⟩⟩⟩⟩⟩⟩⟩⟩⟩⟩⟩
noncomputable def cut_law05_sanity_p3 : Cut := { tms := [0], sh := .bool, objs := [], sts := [] }
noncomputable def cut_law05_sanity_p3_o0 : Cut := { tms := [0], sh := .bool, objs := [], sts := [] }
noncomputable def lp_law05_sanity_p3 (N : Nat) : Lp := lpOf cut_law05_sanity_p3 (1, cut_law05_sanity_p3_o0) [] (fun v => law05_sanity_p3 N v.1)
noncomputable def lam_law05_sanity_p3 (_ : Nat) : Lps := fun _ => none
theorem lpok_law05_sanity_p3 (N : Nat) (ro : Option Nat) : LpOk Tryz.prog 198 ro (lp_law05_sanity_p3 N) (codeAt c_law05_sanity [true, true, true, true, true, true, true, true, true, true, true, true, true, true, true]) :=
  piece_ok (envok_law05_sanity N) mixed (Λ := lam_law05_sanity_p3 N) (p := 65535) (obs_ok (l := []) (by kernel_rfl) obsNil) (by kernel_rfl) (by intro v; kernel_rfl)
noncomputable def cut_law05_sanity_p2 : Cut := { tms := [2, 4, 6, 8, 11, 12], sh := (.cons (.ptr 2000000 0) (.cons (.ptr 2000001 0) (.cons (.ptr 2000002 0) (.cons .bool (.cons .bool .bool))))), objs := [(2000000, [2], .box (.cons (.int .i64) (.cons .str (.cons .str (.cons .str (.cons .str (.cons .str (.cons .str (.int .i64))))))))), (2000001, [4], .box (.cons (.int .i64) (.cons .str (.cons .str (.cons .str (.cons .str (.cons .str (.cons .str (.int .i64))))))))), (2000002, [6], .box (.cons (.int .i64) (.cons .str (.cons .str (.cons .str (.cons .str (.cons .str (.cons .str (.int .i64)))))))))], sts := [] }
noncomputable def cut_law05_sanity_p2_o0 : Cut := { tms := [0], sh := .bool, objs := [], sts := [] }
noncomputable def lp_law05_sanity_p2 (N : Nat) : Lp := lpOf cut_law05_sanity_p2 (1, cut_law05_sanity_p2_o0) [] (fun v => law05_sanity_p2 N v.1.2.2.2.1 v.1.2.2.2.2.1 v.1.2.2.2.2.2 v.2.1.1 v.2.1.2.1 v.2.1.2.2.1 v.2.1.2.2.2.1 v.2.1.2.2.2.2.1 v.2.1.2.2.2.2.2.1 v.2.1.2.2.2.2.2.2.1 v.2.1.2.2.2.2.2.2.2 v.2.2.1.1 v.2.2.1.2.1 v.2.2.1.2.2.1 v.2.2.1.2.2.2.1 v.2.2.1.2.2.2.2.1 v.2.2.1.2.2.2.2.2.1 v.2.2.1.2.2.2.2.2.2.1 v.2.2.1.2.2.2.2.2.2.2 v.2.2.2.1.1 v.2.2.2.1.2.1 v.2.2.2.1.2.2.1 v.2.2.2.1.2.2.2.1 v.2.2.2.1.2.2.2.2.1 v.2.2.2.1.2.2.2.2.2.1 v.2.2.2.1.2.2.2.2.2.2.1 v.2.2.2.1.2.2.2.2.2.2.2)
noncomputable def lam_law05_sanity_p2 (N : Nat) : Lps := fun p => bif Nat.beq p 65535 then some (lp_law05_sanity_p3 N) else none
theorem lpok_law05_sanity_p2 (N : Nat) (ro : Option Nat) : LpOk Tryz.prog 198 ro (lp_law05_sanity_p2 N) (codeAt c_law05_sanity [true, true, true, true, true, true, true, true, true, true, true, true]) :=
  piece_ok (envok_law05_sanity N) mixed (Λ := lam_law05_sanity_p2 N) (p := 8191) (obs_ok (l := [(lp_law05_sanity_p3 N, (codeAt c_law05_sanity [true, true, true, true, true, true, true, true, true, true, true, true, true, true, true]))]) (by kernel_rfl) (obsCons (lpok_law05_sanity_p3 N ro) obsNil)) (by kernel_rfl) (by intro v; kernel_rfl)
noncomputable def cut_law05_sanity_p1 : Cut := { tms := [2, 4, 6, 8, 11], sh := (.cons (.ptr 2000000 0) (.cons (.ptr 2000001 0) (.cons (.ptr 2000002 0) (.cons .bool .bool)))), objs := [(2000000, [2], .box (.cons (.int .i64) (.cons .str (.cons .str (.cons .str (.cons .str (.cons .str (.cons .str (.int .i64))))))))), (2000001, [4], .box (.cons (.int .i64) (.cons .str (.cons .str (.cons .str (.cons .str (.cons .str (.cons .str (.int .i64))))))))), (2000002, [6], .box (.cons (.int .i64) (.cons .str (.cons .str (.cons .str (.cons .str (.cons .str (.cons .str (.int .i64)))))))))], sts := [] }
noncomputable def cut_law05_sanity_p1_o0 : Cut := { tms := [0], sh := .bool, objs := [], sts := [] }
noncomputable def lp_law05_sanity_p1 (N : Nat) : Lp := lpOf cut_law05_sanity_p1 (1, cut_law05_sanity_p1_o0) [] (fun v => law05_sanity_p1 N v.1.2.2.2.1 v.1.2.2.2.2 v.2.1.1 v.2.1.2.1 v.2.1.2.2.1 v.2.1.2.2.2.1 v.2.1.2.2.2.2.1 v.2.1.2.2.2.2.2.1 v.2.1.2.2.2.2.2.2.1 v.2.1.2.2.2.2.2.2.2 v.2.2.1.1 v.2.2.1.2.1 v.2.2.1.2.2.1 v.2.2.1.2.2.2.1 v.2.2.1.2.2.2.2.1 v.2.2.1.2.2.2.2.2.1 v.2.2.1.2.2.2.2.2.2.1 v.2.2.1.2.2.2.2.2.2.2 v.2.2.2.1.1 v.2.2.2.1.2.1 v.2.2.2.1.2.2.1 v.2.2.2.1.2.2.2.1 v.2.2.2.1.2.2.2.2.1 v.2.2.2.1.2.2.2.2.2.1 v.2.2.2.1.2.2.2.2.2.2.1 v.2.2.2.1.2.2.2.2.2.2.2)
noncomputable def lam_law05_sanity_p1 (N : Nat) : Lps := fun p => bif Nat.beq p 8191 then some (lp_law05_sanity_p2 N) else none
theorem lpok_law05_sanity_p1 (N : Nat) (ro : Option Nat) : LpOk Tryz.prog 198 ro (lp_law05_sanity_p1 N) (codeAt c_law05_sanity [true, true, true, true, true, true, true, true, true, true, true]) :=
  piece_ok (envok_law05_sanity N) mixed (Λ := lam_law05_sanity_p1 N) (p := 4095) (obs_ok (l := [(lp_law05_sanity_p2 N, (codeAt c_law05_sanity [true, true, true, true, true, true, true, true, true, true, true, true]))]) (by kernel_rfl) (obsCons (lpok_law05_sanity_p2 N ro) obsNil)) (by kernel_rfl) (by intro v; kernel_rfl)
noncomputable def cut_law05_sanity_p0 : Cut := { tms := [2, 4, 5, 6, 8], sh := (.cons (.ptr 2000000 0) (.cons (.ptr 2000001 0) (.cons (.ptr 2000002 0) (.cons (.ptr 2000003 0) .bool)))), objs := [(2000000, [2], .box (.cons (.int .i64) (.cons .str (.cons .str (.cons .str (.cons .str (.cons .str (.cons .str (.int .i64))))))))), (2000001, [4], .box (.cons (.int .i64) (.cons .str (.cons .str (.cons .str (.cons .str (.cons .str (.cons .str (.int .i64))))))))), (2000002, [5], .box (.cons (.int .i64) (.cons .str (.cons .str (.cons .str (.cons .str (.cons .str (.cons .str (.int .i64))))))))), (2000003, [6], .box (.cons (.int .i64) (.cons .str (.cons .str (.cons .str (.cons .str (.cons .str (.cons .str (.int .i64)))))))))], sts := [] }
noncomputable def cut_law05_sanity_p0_o0 : Cut := { tms := [0], sh := .bool, objs := [], sts := [] }
noncomputable def lp_law05_sanity_p0 (N : Nat) : Lp := lpOf cut_law05_sanity_p0 (1, cut_law05_sanity_p0_o0) [] (fun v => law05_sanity_p0 N v.1.2.2.2.2 v.2.1.1 v.2.1.2.1 v.2.1.2.2.1 v.2.1.2.2.2.1 v.2.1.2.2.2.2.1 v.2.1.2.2.2.2.2.1 v.2.1.2.2.2.2.2.2.1 v.2.1.2.2.2.2.2.2.2 v.2.2.1.1 v.2.2.1.2.1 v.2.2.1.2.2.1 v.2.2.1.2.2.2.1 v.2.2.1.2.2.2.2.1 v.2.2.1.2.2.2.2.2.1 v.2.2.1.2.2.2.2.2.2.1 v.2.2.1.2.2.2.2.2.2.2 v.2.2.2.1.1 v.2.2.2.1.2.1 v.2.2.2.1.2.2.1 v.2.2.2.1.2.2.2.1 v.2.2.2.1.2.2.2.2.1 v.2.2.2.1.2.2.2.2.2.1 v.2.2.2.1.2.2.2.2.2.2.1 v.2.2.2.1.2.2.2.2.2.2.2 v.2.2.2.2.1.1 v.2.2.2.2.1.2.1 v.2.2.2.2.1.2.2.1 v.2.2.2.2.1.2.2.2.1 v.2.2.2.2.1.2.2.2.2.1 v.2.2.2.2.1.2.2.2.2.2.1 v.2.2.2.2.1.2.2.2.2.2.2.1 v.2.2.2.2.1.2.2.2.2.2.2.2)
noncomputable def lam_law05_sanity_p0 (N : Nat) : Lps := fun p => bif Nat.beq p 4095 then some (lp_law05_sanity_p1 N) else none
theorem lpok_law05_sanity_p0 (N : Nat) (ro : Option Nat) : LpOk Tryz.prog 198 ro (lp_law05_sanity_p0 N) (codeAt c_law05_sanity [true, true, true, true, true, true, true, true, true]) :=
  piece_ok (envok_law05_sanity N) mixed (Λ := lam_law05_sanity_p0 N) (p := 1023) (obs_ok (l := [(lp_law05_sanity_p1 N, (codeAt c_law05_sanity [true, true, true, true, true, true, true, true, true, true, true]))]) (by kernel_rfl) (obsCons (lpok_law05_sanity_p1 N ro) obsNil)) (by kernel_rfl) (by intro v; kernel_rfl)
noncomputable def lam_law05_sanity (N : Nat) : Lps := fun p => bif Nat.beq p 1023 then some (lp_law05_sanity_p0 N) else none
noncomputable def ctr_law05_sanity (N : Nat) : Ctr := ctrOf .nil .bool [] (fun _ => law05_sanity N)
theorem sound_law05_sanity (N : Nat) : SoundF Tryz.prog 12 (fun vs => (ctr_law05_sanity N).run vs some) :=
  fn_sound (envok_law05_sanity N) mixed (Λ := lam_law05_sanity N) (fn := Tryz.f12) (c := c_law05_sanity) Tryz.func12 (by kernel_rfl) (by kernel_rfl) (obs_ok (l := [(lp_law05_sanity_p0 N, (codeAt c_law05_sanity [true, true, true, true, true, true, true, true, true]))]) (by kernel_rfl) (obsCons (lpok_law05_sanity_p0 N none) obsNil)) (by kernel_rfl) (by intro v; kernel_rfl)

noncomputable def c_ref05_Path : Code := match Tryz.f46.body with | some c => c | none => .skip
noncomputable def tab_ref05_Path (_ : Nat) : List (Nat × Ctr) := []
noncomputable def env_ref05_Path (N : Nat) : Env := mkEnv tyRows eqRows methRows [] [] (tab_ref05_Path N)
theorem envok_ref05_Path (N : Nat) : EnvOk Tryz.prog (env_ref05_Path N) := mkEnv_ok tyRows_ok eqRows_ok methRows_ok trivial
noncomputable def lam_ref05_Path (_ : Nat) : Lps := fun _ => none
noncomputable def ctr_ref05_Path (N : Nat) : Ctr := ctrOf (.int .u8) .str [] (fun v => ref05_Path N v)
theorem sound_ref05_Path (N : Nat) : SoundF Tryz.prog 46 (fun vs => (ctr_ref05_Path N).run vs some) :=
  fn_sound (envok_ref05_Path N) mixed (Λ := lam_ref05_Path N) (fn := Tryz.f46) (c := c_ref05_Path) Tryz.func46 (by kernel_rfl) (by kernel_rfl) (obs_ok (l := []) (by kernel_rfl) obsNil) (by kernel_rfl) (by intro v; kernel_rfl)

noncomputable def c_ref05_Key : Code := match Tryz.f45.body with | some c => c | none => .skip
noncomputable def tab_ref05_Key (N : Nat) : List (Nat × Ctr) := [(46, ctr_ref05_Path N)]
noncomputable def env_ref05_Key (N : Nat) : Env := mkEnv tyRows eqRows methRows [] [] (tab_ref05_Key N)
theorem envok_ref05_Key (N : Nat) : EnvOk Tryz.prog (env_ref05_Key N) := mkEnv_ok tyRows_ok eqRows_ok methRows_ok ⟨sound_ref05_Path N, trivial⟩
noncomputable def lam_ref05_Key (_ : Nat) : Lps := fun _ => none
noncomputable def ctr_ref05_Key (N : Nat) : Ctr := ctrOf (.int .u8) .str [] (fun v => ref05_Key N v)
theorem sound_ref05_Key (N : Nat) : SoundF Tryz.prog 45 (fun vs => (ctr_ref05_Key N).run vs some) :=
  fn_sound (envok_ref05_Key N) mixed (Λ := lam_ref05_Key N) (fn := Tryz.f45) (c := c_ref05_Key) Tryz.func45 (by kernel_rfl) (by kernel_rfl) (obs_ok (l := []) (by kernel_rfl) obsNil) (by kernel_rfl) (by intro v; kernel_rfl)

noncomputable def c_ref02_Begins : Code := match Tryz.f47.body with | some c => c | none => .skip
noncomputable def tab_ref02_Begins (_ : Nat) : List (Nat × Ctr) := []
noncomputable def env_ref02_Begins (N : Nat) : Env := mkEnv tyRows eqRows methRows [] [] (tab_ref02_Begins N)
theorem envok_ref02_Begins (N : Nat) : EnvOk Tryz.prog (env_ref02_Begins N) := mkEnv_ok tyRows_ok eqRows_ok methRows_ok trivial
noncomputable def lam_ref02_Begins (_ : Nat) : Lps := fun _ => none
noncomputable def ctr_ref02_Begins (N : Nat) : Ctr := ctrOf (.cons .str .str) .bool [] (fun v => ref02_Begins N v.1 v.2)
theorem sound_ref02_Begins (N : Nat) : SoundF Tryz.prog 47 (fun vs => (ctr_ref02_Begins N).run vs some) :=
  fn_sound (envok_ref02_Begins N) mixed (Λ := lam_ref02_Begins N) (fn := Tryz.f47) (c := c_ref02_Begins) Tryz.func47 (by kernel_rfl) (by kernel_rfl) (obs_ok (l := []) (by kernel_rfl) obsNil) (by kernel_rfl) (by intro v; kernel_rfl)

noncomputable def c_ref05_Value : Code := match Tryz.f48.body with | some c => c | none => .skip
noncomputable def tab_ref05_Value (_ : Nat) : List (Nat × Ctr) := []
noncomputable def env_ref05_Value (N : Nat) : Env := mkEnv tyRows eqRows methRows [] [] (tab_ref05_Value N)
theorem envok_ref05_Value (N : Nat) : EnvOk Tryz.prog (env_ref05_Value N) := mkEnv_ok tyRows_ok eqRows_ok methRows_ok trivial
noncomputable def lam_ref05_Value (_ : Nat) : Lps := fun _ => none
noncomputable def ctr_ref05_Value (N : Nat) : Ctr := ctrOf (.int .u8) .str [] (fun v => ref05_Value N v)
theorem sound_ref05_Value (N : Nat) : SoundF Tryz.prog 48 (fun vs => (ctr_ref05_Value N).run vs some) :=
  fn_sound (envok_ref05_Value N) mixed (Λ := lam_ref05_Value N) (fn := Tryz.f48) (c := c_ref05_Value) Tryz.func48 (by kernel_rfl) (by kernel_rfl) (obs_ok (l := []) (by kernel_rfl) obsNil) (by kernel_rfl) (by intro v; kernel_rfl)

noncomputable def c_ref05_Made : Code := match Tryz.f13.body with | some c => c | none => .skip
noncomputable def tab_ref05_Made (N : Nat) : List (Nat × Ctr) := [(45, ctr_ref05_Key N), (46, ctr_ref05_Path N), (42, ctr_ref02_Prefix N), (47, ctr_ref02_Begins N), (48, ctr_ref05_Value N), (44, ctr_ref02_One N)]
noncomputable def env_ref05_Made (N : Nat) : Env := mkEnv tyRows eqRows methRows [] [] (tab_ref05_Made N)
theorem envok_ref05_Made (N : Nat) : EnvOk Tryz.prog (env_ref05_Made N) := mkEnv_ok tyRows_ok eqRows_ok methRows_ok ⟨sound_ref05_Key N, ⟨sound_ref05_Path N, ⟨sound_ref02_Prefix N, ⟨sound_ref02_Begins N, ⟨sound_ref05_Value N, ⟨sound_ref02_One N, trivial⟩⟩⟩⟩⟩⟩
noncomputable def cut_ref05_Made_p1 : Cut := { tms := [1, 2, 3, 5, 6, 7], sh := (.cons (.ptr 2000000 0) (.cons (.ptr 2000001 0) (.cons .str (.cons (.ptr 2000002 0) (.cons .str .str))))), objs := [(2000000, [1], .box (.cons (.int .u8) (.cons (.int .u8) (.cons (.int .u8) (.cons (.int .u8) (.cons (.int .u8) (.int .u8))))))), (2000001, [2], .box (.cons (.int .i64) (.cons .str (.cons .str (.cons .str (.cons .str (.cons .str (.cons .str (.int .i64))))))))), (2000002, [5], .box (.cons .str .str))], sts := [] }
noncomputable def cut_ref05_Made_p1_o0 : Cut := { tms := [2], sh := (.ptr 2000000 0), objs := [(2000000, [2], .box (.cons (.int .i64) (.cons .str (.cons .str (.cons .str (.cons .str (.cons .str (.cons .str (.int .i64)))))))))], sts := [] }
noncomputable def lp_ref05_Made_p1 (N : Nat) : Lp := lpOf cut_ref05_Made_p1 (1, cut_ref05_Made_p1_o0) [] (fun v => ref05_Made_p1 N v.1.2.2.1 v.1.2.2.2.2.1 v.1.2.2.2.2.2 v.2.1.1 v.2.1.2.1 v.2.1.2.2.1 v.2.1.2.2.2.1 v.2.1.2.2.2.2.1 v.2.1.2.2.2.2.2 v.2.2.1.1 v.2.2.1.2.1 v.2.2.1.2.2.1 v.2.2.1.2.2.2.1 v.2.2.1.2.2.2.2.1 v.2.2.1.2.2.2.2.2.1 v.2.2.1.2.2.2.2.2.2.1 v.2.2.1.2.2.2.2.2.2.2 v.2.2.2.1.1 v.2.2.2.1.2)
noncomputable def lam_ref05_Made_p1 (_ : Nat) : Lps := fun _ => none
theorem lpok_ref05_Made_p1 (N : Nat) (ro : Option Nat) : LpOk Tryz.prog 102 ro (lp_ref05_Made_p1 N) (codeAt c_ref05_Made [true, true, true, true, true, true]) :=
  piece_ok (envok_ref05_Made N) mixed (Λ := lam_ref05_Made_p1 N) (p := 127) (obs_ok (l := []) (by kernel_rfl) obsNil) (by kernel_rfl) (by intro v; kernel_rfl)
noncomputable def cut_ref05_Made_p0 : Cut := { tms := [1, 2, 3, 5], sh := (.cons (.ptr 2000000 0) (.cons (.ptr 2000001 0) (.cons .str (.ptr 2000002 0)))), objs := [(2000000, [1], .box (.cons (.int .u8) (.cons (.int .u8) (.cons (.int .u8) (.cons (.int .u8) (.cons (.int .u8) (.int .u8))))))), (2000001, [2], .box (.cons (.int .i64) (.cons .str (.cons .str (.cons .str (.cons .str (.cons .str (.cons .str (.int .i64))))))))), (2000002, [5], .box (.cons .str .str))], sts := [] }
noncomputable def cut_ref05_Made_p0_o0 : Cut := { tms := [2], sh := (.ptr 2000000 0), objs := [(2000000, [2], .box (.cons (.int .i64) (.cons .str (.cons .str (.cons .str (.cons .str (.cons .str (.cons .str (.int .i64)))))))))], sts := [] }
noncomputable def lp_ref05_Made_p0 (N : Nat) : Lp := lpOf cut_ref05_Made_p0 (1, cut_ref05_Made_p0_o0) [] (fun v => ref05_Made_p0 N v.1.2.2.1 v.2.1.1 v.2.1.2.1 v.2.1.2.2.1 v.2.1.2.2.2.1 v.2.1.2.2.2.2.1 v.2.1.2.2.2.2.2 v.2.2.1.1 v.2.2.1.2.1 v.2.2.1.2.2.1 v.2.2.1.2.2.2.1 v.2.2.1.2.2.2.2.1 v.2.2.1.2.2.2.2.2.1 v.2.2.1.2.2.2.2.2.2.1 v.2.2.1.2.2.2.2.2.2.2 v.2.2.2.1.1 v.2.2.2.1.2)
noncomputable def lam_ref05_Made_p0 (N : Nat) : Lps := fun p => bif Nat.beq p 127 then some (lp_ref05_Made_p1 N) else none
theorem lpok_ref05_Made_p0 (N : Nat) (ro : Option Nat) : LpOk Tryz.prog 102 ro (lp_ref05_Made_p0 N) (codeAt c_ref05_Made [true, true, true, true]) :=
  piece_ok (envok_ref05_Made N) mixed (Λ := lam_ref05_Made_p0 N) (p := 31) (obs_ok (l := [(lp_ref05_Made_p1 N, (codeAt c_ref05_Made [true, true, true, true, true, true]))]) (by kernel_rfl) (obsCons (lpok_ref05_Made_p1 N ro) obsNil)) (by kernel_rfl) (by intro v; kernel_rfl)
noncomputable def lam_ref05_Made (N : Nat) : Lps := fun p => bif Nat.beq p 31 then some (lp_ref05_Made_p0 N) else none
noncomputable def ctr_ref05_Made (N : Nat) : Ctr := ctrOf (.val T_ref05_Raw) (.val T_api_Msg) [] (fun v => ref05_Made N v)
theorem sound_ref05_Made (N : Nat) : SoundF Tryz.prog 13 (fun vs => (ctr_ref05_Made N).run vs some) :=
  fn_sound (envok_ref05_Made N) mixed (Λ := lam_ref05_Made N) (fn := Tryz.f13) (c := c_ref05_Made) Tryz.func13 (by kernel_rfl) (by kernel_rfl) (obs_ok (l := [(lp_ref05_Made_p0 N, (codeAt c_ref05_Made [true, true, true, true]))]) (by kernel_rfl) (obsCons (lpok_ref05_Made_p0 N none) obsNil)) (by kernel_rfl) (by intro v; kernel_rfl)

noncomputable def c_ref05_in : Code := match Tryz.f50.body with | some c => c | none => .skip
noncomputable def tab_ref05_in (_ : Nat) : List (Nat × Ctr) := []
noncomputable def env_ref05_in (N : Nat) : Env := mkEnv tyRows eqRows methRows [] [] (tab_ref05_in N)
theorem envok_ref05_in (N : Nat) : EnvOk Tryz.prog (env_ref05_in N) := mkEnv_ok tyRows_ok eqRows_ok methRows_ok trivial
noncomputable def lam_ref05_in (_ : Nat) : Lps := fun _ => none
noncomputable def ctr_ref05_in (N : Nat) : Ctr := ctrOf (.cons (.int .i64) (.cons (.int .i64) (.int .i64))) .bool [] (fun v => ref05_in N v.1 v.2.1 v.2.2)
theorem sound_ref05_in (N : Nat) : SoundF Tryz.prog 50 (fun vs => (ctr_ref05_in N).run vs some) :=
  fn_sound (envok_ref05_in N) mixed (Λ := lam_ref05_in N) (fn := Tryz.f50) (c := c_ref05_in) Tryz.func50 (by kernel_rfl) (by kernel_rfl) (obs_ok (l := []) (by kernel_rfl) obsNil) (by kernel_rfl) (by intro v; kernel_rfl)

noncomputable def c_ref02_Empty : Code := match Tryz.f57.body with | some c => c | none => .skip
noncomputable def tab_ref02_Empty (_ : Nat) : List (Nat × Ctr) := []
noncomputable def env_ref02_Empty (N : Nat) : Env := mkEnv tyRows eqRows methRows [] [] (tab_ref02_Empty N)
theorem envok_ref02_Empty (N : Nat) : EnvOk Tryz.prog (env_ref02_Empty N) := mkEnv_ok tyRows_ok eqRows_ok methRows_ok trivial
noncomputable def lam_ref02_Empty (_ : Nat) : Lps := fun _ => none
noncomputable def ctr_ref02_Empty (N : Nat) : Ctr := ctrOf (.val T_api_Span) .bool [] (fun v => ref02_Empty N v)
theorem sound_ref02_Empty (N : Nat) : SoundF Tryz.prog 57 (fun vs => (ctr_ref02_Empty N).run vs some) :=
  fn_sound (envok_ref02_Empty N) mixed (Λ := lam_ref02_Empty N) (fn := Tryz.f57) (c := c_ref02_Empty) Tryz.func57 (by kernel_rfl) (by kernel_rfl) (obs_ok (l := []) (by kernel_rfl) obsNil) (by kernel_rfl) (by intro v; kernel_rfl)

noncomputable def c_ref05_span : Code := match Tryz.f51.body with | some c => c | none => .skip
noncomputable def tab_ref05_span (N : Nat) : List (Nat × Ctr) := [(57, ctr_ref02_Empty N)]
noncomputable def env_ref05_span (N : Nat) : Env := mkEnv tyRows eqRows methRows [] [] (tab_ref05_span N)
theorem envok_ref05_span (N : Nat) : EnvOk Tryz.prog (env_ref05_span N) := mkEnv_ok tyRows_ok eqRows_ok methRows_ok ⟨sound_ref02_Empty N, trivial⟩
noncomputable def lam_ref05_span (_ : Nat) : Lps := fun _ => none
noncomputable def ctr_ref05_span (N : Nat) : Ctr := ctrOf (.val T_api_Span) .bool [] (fun v => ref05_span N v)
theorem sound_ref05_span (N : Nat) : SoundF Tryz.prog 51 (fun vs => (ctr_ref05_span N).run vs some) :=
  fn_sound (envok_ref05_span N) mixed (Λ := lam_ref05_span N) (fn := Tryz.f51) (c := c_ref05_span) Tryz.func51 (by kernel_rfl) (by kernel_rfl) (obs_ok (l := []) (by kernel_rfl) obsNil) (by kernel_rfl) (by intro v; kernel_rfl)

noncomputable def c_ref05_Valid : Code := match Tryz.f15.body with | some c => c | none => .skip
noncomputable def tab_ref05_Valid (N : Nat) : List (Nat × Ctr) := [(50, ctr_ref05_in N), (51, ctr_ref05_span N), (47, ctr_ref02_Begins N)]
noncomputable def env_ref05_Valid (N : Nat) : Env := mkEnv tyRows eqRows methRows [] [] (tab_ref05_Valid N)
theorem envok_ref05_Valid (N : Nat) : EnvOk Tryz.prog (env_ref05_Valid N) := mkEnv_ok tyRows_ok eqRows_ok methRows_ok ⟨sound_ref05_in N, ⟨sound_ref05_span N, ⟨sound_ref02_Begins N, trivial⟩⟩⟩
noncomputable def cut_ref05_Valid_p0 : Cut := { tms := [1, 4, 14, 66], sh := (.cons (.ptr 2000000 0) (.cons .bool (.cons (.int .i64) .bool))), objs := [(2000000, [1], .box (.cons (.int .i64) (.cons .str (.cons .str (.cons .str (.cons .str (.cons .str (.cons .str (.int .i64)))))))))], sts := [] }
noncomputable def cut_ref05_Valid_p0_o0 : Cut := { tms := [2], sh := .bool, objs := [], sts := [] }
noncomputable def cut_ref05_Valid_p0_o1 : Cut := { tms := [], sh := .nil, objs := [], sts := [] }
noncomputable def lp_ref05_Valid_p0 (N : Nat) : Lp := lpOf cut_ref05_Valid_p0 (1, cut_ref05_Valid_p0_o0) [(0, cut_ref05_Valid_p0_o1)] (fun v => ref05_Valid_p0 N v.1.2.1 v.1.2.2.1 v.1.2.2.2 v.2.1.1 v.2.1.2.1 v.2.1.2.2.1 v.2.1.2.2.2.1 v.2.1.2.2.2.2.1 v.2.1.2.2.2.2.2.1 v.2.1.2.2.2.2.2.2.1 v.2.1.2.2.2.2.2.2.2)
noncomputable def lam_ref05_Valid_p0 (_ : Nat) : Lps := fun _ => none
theorem lpok_ref05_Valid_p0 (N : Nat) (ro : Option Nat) : LpOk Tryz.prog 126 ro (lp_ref05_Valid_p0 N) (codeAt c_ref05_Valid [true, true, false, true, false, true, true, true, true, true, true, true]) :=
  piece_ok (envok_ref05_Valid N) mixed (Λ := lam_ref05_Valid_p0 N) (p := 7551) (obs_ok (l := []) (by kernel_rfl) obsNil) (by kernel_rfl) (by intro v; kernel_rfl)
noncomputable def lam_ref05_Valid (N : Nat) : Lps := fun p => bif Nat.beq p 7551 then some (lp_ref05_Valid_p0 N) else none
noncomputable def ctr_ref05_Valid (N : Nat) : Ctr := ctrOf (.val T_api_Msg) .bool [] (fun v => ref05_Valid N v)
theorem sound_ref05_Valid (N : Nat) : SoundF Tryz.prog 15 (fun vs => (ctr_ref05_Valid N).run vs some) :=
  fn_sound (envok_ref05_Valid N) mixed (Λ := lam_ref05_Valid N) (fn := Tryz.f15) (c := c_ref05_Valid) Tryz.func15 (by kernel_rfl) (by kernel_rfl) (obs_ok (l := [(lp_ref05_Valid_p0 N, (codeAt c_ref05_Valid [true, true, false, true, false, true, true, true, true, true, true, true]))]) (by kernel_rfl) (obsCons (lpok_ref05_Valid_p0 N none) obsNil)) (by kernel_rfl) (by intro v; kernel_rfl)

noncomputable def c_ref05_number : Code := match Tryz.f53.body with | some c => c | none => .skip
noncomputable def tab_ref05_number (_ : Nat) : List (Nat × Ctr) := []
noncomputable def env_ref05_number (N : Nat) : Env := mkEnv tyRows eqRows methRows [] [] (tab_ref05_number N)
theorem envok_ref05_number (N : Nat) : EnvOk Tryz.prog (env_ref05_number N) := mkEnv_ok tyRows_ok eqRows_ok methRows_ok trivial
noncomputable def cut_ref05_number_l0 : Cut := { tms := [0, 5, 6], sh := (.cons (.int .i64) (.cons (.own 2000000) (.int .i64))), objs := [(2000000, [5], .sl (.int .u8))], sts := [] }
noncomputable def cut_ref05_number_l0_o0 : Cut := { tms := [5], sh := (.own 2000000), objs := [(2000000, [5], .sl (.int .u8))], sts := [] }
noncomputable def lp_ref05_number_l0 (N : Nat) : Lp := lpOf cut_ref05_number_l0 (2, cut_ref05_number_l0_o0) [] (fun v => ref05_number_l0 N N v.1.1 v.1.2.2 v.2.1)
noncomputable def lam_ref05_number_l0 (_ : Nat) : Lps := fun _ => none
theorem lpok_ref05_number_l0 (N : Nat) (ro : Option Nat) : LpOk Tryz.prog 23 ro (lp_ref05_number_l0 N) (codeAt c_ref05_number [true, true, false, true, false]) := by
  rw [show (codeAt c_ref05_number [true, true, false, true, false]) = .loop (codeAt c_ref05_number [true, true, false, true, false, false]) by kernel_rfl]
  exact loop_ok (envok_ref05_number N) mixed (Λ := lam_ref05_number_l0 N) (p := 116) (obs_ok (l := []) (by kernel_rfl) obsNil) (by kernel_rfl) (by intro rec v; kernel_rfl) N
noncomputable def lam_ref05_number (N : Nat) : Lps := fun p => bif Nat.beq p 58 then some (lp_ref05_number_l0 N) else none
noncomputable def ctr_ref05_number (N : Nat) : Ctr := ctrOf (.cons (.int .i64) (.int .i64)) (.fresh (.int .u8)) [] (fun v => ref05_number N v.1 v.2)
theorem sound_ref05_number (N : Nat) : SoundF Tryz.prog 53 (fun vs => (ctr_ref05_number N).run vs some) :=
  fn_sound (envok_ref05_number N) mixed (Λ := lam_ref05_number N) (fn := Tryz.f53) (c := c_ref05_number) Tryz.func53 (by kernel_rfl) (by kernel_rfl) (obs_ok (l := [(lp_ref05_number_l0 N, (codeAt c_ref05_number [true, true, false, true, false]))]) (by kernel_rfl) (obsCons (lpok_ref05_number_l0 N none) obsNil)) (by kernel_rfl) (by intro v; kernel_rfl)

noncomputable def c_ref05_texts : Code := match Tryz.f52.body with | some c => c | none => .skip
noncomputable def tab_ref05_texts (N : Nat) : List (Nat × Ctr) := [(53, ctr_ref05_number N)]
noncomputable def env_ref05_texts (N : Nat) : Env := mkEnv tyRows eqRows methRows [] [] (tab_ref05_texts N)
theorem envok_ref05_texts (N : Nat) : EnvOk Tryz.prog (env_ref05_texts N) := mkEnv_ok tyRows_ok eqRows_ok methRows_ok ⟨sound_ref05_number N, trivial⟩
noncomputable def cut_ref05_texts_l0 : Cut := { tms := [0, 3, 4], sh := (.cons (.list .str) (.cons (.own 2000000) (.int .i64))), objs := [(2000000, [3], .sl (.int .u8))], sts := [] }
noncomputable def cut_ref05_texts_l0_o0 : Cut := { tms := [3], sh := (.own 2000000), objs := [(2000000, [3], .sl (.int .u8))], sts := [] }
noncomputable def lp_ref05_texts_l0 (N : Nat) : Lp := lpOf cut_ref05_texts_l0 (2, cut_ref05_texts_l0_o0) [] (fun v => ref05_texts_l0 N N v.1.1 v.1.2.2 v.2.1)
noncomputable def lam_ref05_texts_l0 (_ : Nat) : Lps := fun _ => none
theorem lpok_ref05_texts_l0 (N : Nat) (ro : Option Nat) : LpOk Tryz.prog 27 ro (lp_ref05_texts_l0 N) (codeAt c_ref05_texts [true, true, false, true, false]) := by
  rw [show (codeAt c_ref05_texts [true, true, false, true, false]) = .loop (codeAt c_ref05_texts [true, true, false, true, false, false]) by kernel_rfl]
  exact loop_ok (envok_ref05_texts N) mixed (Λ := lam_ref05_texts_l0 N) (p := 116) (obs_ok (l := []) (by kernel_rfl) obsNil) (by kernel_rfl) (by intro rec v; kernel_rfl) N
noncomputable def lam_ref05_texts (N : Nat) : Lps := fun p => bif Nat.beq p 58 then some (lp_ref05_texts_l0 N) else none
noncomputable def ctr_ref05_texts (N : Nat) : Ctr := ctrOf (.list .str) (.fresh (.int .u8)) [] (fun v => ref05_texts N v)
theorem sound_ref05_texts (N : Nat) : SoundF Tryz.prog 52 (fun vs => (ctr_ref05_texts N).run vs some) :=
  fn_sound (envok_ref05_texts N) mixed (Λ := lam_ref05_texts N) (fn := Tryz.f52) (c := c_ref05_texts) Tryz.func52 (by kernel_rfl) (by kernel_rfl) (obs_ok (l := [(lp_ref05_texts_l0 N, (codeAt c_ref05_texts [true, true, false, true, false]))]) (by kernel_rfl) (obsCons (lpok_ref05_texts_l0 N none) obsNil)) (by kernel_rfl) (by intro v; kernel_rfl)

noncomputable def c_ref05_Bytes : Code := match Tryz.f18.body with | some c => c | none => .skip
noncomputable def tab_ref05_Bytes (N : Nat) : List (Nat × Ctr) := [(15, ctr_ref05_Valid N), (52, ctr_ref05_texts N), (53, ctr_ref05_number N)]
noncomputable def env_ref05_Bytes (N : Nat) : Env := mkEnv tyRows eqRows methRows [] [] (tab_ref05_Bytes N)
theorem envok_ref05_Bytes (N : Nat) : EnvOk Tryz.prog (env_ref05_Bytes N) := mkEnv_ok tyRows_ok eqRows_ok methRows_ok ⟨sound_ref05_Valid N, ⟨sound_ref05_texts N, ⟨sound_ref05_number N, trivial⟩⟩⟩
noncomputable def cut_ref05_Bytes_p0 : Cut := { tms := [1, 3], sh := (.cons (.ptr 2000000 0) (.own 2000001)), objs := [(2000000, [1], .box (.cons (.int .i64) (.cons .str (.cons .str (.cons .str (.cons .str (.cons .str (.cons .str (.int .i64))))))))), (2000001, [3], .sl (.int .u8))], sts := [] }
noncomputable def cut_ref05_Bytes_p0_o0 : Cut := { tms := [2], sh := (.own 2000000), objs := [(2000000, [2], .sl (.int .u8))], sts := [] }
noncomputable def lp_ref05_Bytes_p0 (N : Nat) : Lp := lpOf cut_ref05_Bytes_p0 (1, cut_ref05_Bytes_p0_o0) [] (fun v => ref05_Bytes_p0 N v.2.1.1 v.2.1.2.1 v.2.1.2.2.1 v.2.1.2.2.2.1 v.2.1.2.2.2.2.1 v.2.1.2.2.2.2.2.1 v.2.1.2.2.2.2.2.2.1 v.2.1.2.2.2.2.2.2.2 v.2.2.1)
noncomputable def lam_ref05_Bytes_p0 (_ : Nat) : Lps := fun _ => none
theorem lpok_ref05_Bytes_p0 (N : Nat) (ro : Option Nat) : LpOk Tryz.prog 67 ro (lp_ref05_Bytes_p0 N) (codeAt c_ref05_Bytes [true, true, true, true]) :=
  piece_ok (envok_ref05_Bytes N) mixed (Λ := lam_ref05_Bytes_p0 N) (p := 31) (obs_ok (l := []) (by kernel_rfl) obsNil) (by kernel_rfl) (by intro v; kernel_rfl)
noncomputable def lam_ref05_Bytes (N : Nat) : Lps := fun p => bif Nat.beq p 31 then some (lp_ref05_Bytes_p0 N) else none
noncomputable def ctr_ref05_Bytes (N : Nat) : Ctr := ctrOf (.val T_api_Msg) (.fresh (.int .u8)) [] (fun v => ref05_Bytes N v)
theorem sound_ref05_Bytes (N : Nat) : SoundF Tryz.prog 18 (fun vs => (ctr_ref05_Bytes N).run vs some) :=
  fn_sound (envok_ref05_Bytes N) mixed (Λ := lam_ref05_Bytes N) (fn := Tryz.f18) (c := c_ref05_Bytes) Tryz.func18 (by kernel_rfl) (by kernel_rfl) (obs_ok (l := [(lp_ref05_Bytes_p0 N, (codeAt c_ref05_Bytes [true, true, true, true]))]) (by kernel_rfl) (obsCons (lpok_ref05_Bytes_p0 N none) obsNil)) (by kernel_rfl) (by intro v; kernel_rfl)

noncomputable def c_law05_MsgValid : Code := match Tryz.f3.body with | some c => c | none => .skip
noncomputable def tab_law05_MsgValid (N : Nat) : List (Nat × Ctr) := [(12, ctr_law05_sanity N), (13, ctr_ref05_Made N), (14, ctr_msg_Valid N), (15, ctr_ref05_Valid N), (17, ctr_msg_Bytes N), (18, ctr_ref05_Bytes N), (16, ctr_ref05_SameBytes N)]
noncomputable def env_law05_MsgValid (N : Nat) : Env := mkEnv tyRows eqRows methRows [] [] (tab_law05_MsgValid N)
theorem envok_law05_MsgValid (N : Nat) : EnvOk Tryz.prog (env_law05_MsgValid N) := mkEnv_ok tyRows_ok eqRows_ok methRows_ok ⟨sound_law05_sanity N, ⟨sound_ref05_Made N, ⟨sound_msg_Valid N, ⟨sound_ref05_Valid N, ⟨sound_msg_Bytes N, ⟨sound_ref05_Bytes N, ⟨sound_ref05_SameBytes N, trivial⟩⟩⟩⟩⟩⟩⟩
noncomputable def cut_law05_MsgValid_p0 : Cut := { tms := [3, 7, 8], sh := (.cons (.ptr 2000000 0) (.cons .bool (.ptr 2000001 0))), objs := [(2000000, [3], .box (.cons (.int .i64) (.cons .str (.cons .str (.cons .str (.cons .str (.cons .str (.cons .str (.int .i64))))))))), (2000001, [8], .box (.cons (.int .i64) (.cons .str (.cons .str (.cons .str (.cons .str (.cons .str (.cons .str (.int .i64)))))))))], sts := [] }
noncomputable def cut_law05_MsgValid_p0_o0 : Cut := { tms := [6], sh := .bool, objs := [], sts := [] }
noncomputable def lp_law05_MsgValid_p0 (N : Nat) : Lp := lpOf cut_law05_MsgValid_p0 (1, cut_law05_MsgValid_p0_o0) [] (fun v => law05_MsgValid_p0 N v.1.2.1 v.2.1.1 v.2.1.2.1 v.2.1.2.2.1 v.2.1.2.2.2.1 v.2.1.2.2.2.2.1 v.2.1.2.2.2.2.2.1 v.2.1.2.2.2.2.2.2.1 v.2.1.2.2.2.2.2.2.2 v.2.2.1.1 v.2.2.1.2.1 v.2.2.1.2.2.1 v.2.2.1.2.2.2.1 v.2.2.1.2.2.2.2.1 v.2.2.1.2.2.2.2.2.1 v.2.2.1.2.2.2.2.2.2.1 v.2.2.1.2.2.2.2.2.2.2)
noncomputable def lam_law05_MsgValid_p0 (_ : Nat) : Lps := fun _ => none
theorem lpok_law05_MsgValid_p0 (N : Nat) (ro : Option Nat) : LpOk Tryz.prog 105 ro (lp_law05_MsgValid_p0 N) (codeAt c_law05_MsgValid [true, true, true, true, true]) :=
  piece_ok (envok_law05_MsgValid N) mixed (Λ := lam_law05_MsgValid_p0 N) (p := 63) (obs_ok (l := []) (by kernel_rfl) obsNil) (by kernel_rfl) (by intro v; kernel_rfl)
noncomputable def lam_law05_MsgValid (N : Nat) : Lps := fun p => bif Nat.beq p 63 then some (lp_law05_MsgValid_p0 N) else none
noncomputable def ctr_law05_MsgValid (N : Nat) : Ctr := ctrOf (.cons (.val T_api_Msg) (.cons (.val T_ref05_Raw) (.val T_a2_int32))) .bool [] (fun v => law05_MsgValid N v.1 v.2.1 v.2.2)
theorem sound_law05_MsgValid (N : Nat) : SoundF Tryz.prog 3 (fun vs => (ctr_law05_MsgValid N).run vs some) :=
  fn_sound (envok_law05_MsgValid N) mixed (Λ := lam_law05_MsgValid N) (fn := Tryz.f3) (c := c_law05_MsgValid) Tryz.func3 (by kernel_rfl) (by kernel_rfl) (obs_ok (l := [(lp_law05_MsgValid_p0 N, (codeAt c_law05_MsgValid [true, true, true, true, true]))]) (by kernel_rfl) (obsCons (lpok_law05_MsgValid_p0 N none) obsNil)) (by kernel_rfl) (by intro v; kernel_rfl)

noncomputable def c_ref05_Insert : Code := match Tryz.f54.body with | some c => c | none => .skip
noncomputable def tab_ref05_Insert (_ : Nat) : List (Nat × Ctr) := []
noncomputable def env_ref05_Insert (N : Nat) : Env := mkEnv tyRows eqRows methRows [] [] (tab_ref05_Insert N)
theorem envok_ref05_Insert (N : Nat) : EnvOk Tryz.prog (env_ref05_Insert N) := mkEnv_ok tyRows_ok eqRows_ok methRows_ok trivial
noncomputable def cut_ref05_Insert_p1 : Cut := { tms := [0, 3, 5, 6, 7], sh := (.cons (.list T_api_Pair) (.cons (.ptr 2000000 0) (.cons (.own 2000001) (.cons .bool (.int .i64))))), objs := [(2000000, [3], .box (.cons .str (.cons .str (.int .i64)))), (2000001, [5], .sl T_api_Pair)], sts := [] }
noncomputable def cut_ref05_Insert_p1_o0 : Cut := { tms := [0, 3, 5, 6, 7], sh := (.cons (.list T_api_Pair) (.cons (.ptr 2000000 0) (.cons (.own 2000001) (.cons .bool (.int .i64))))), objs := [(2000000, [3], .box (.cons .str (.cons .str (.int .i64)))), (2000001, [5], .sl T_api_Pair)], sts := [] }
noncomputable def lp_ref05_Insert_p1 (N : Nat) : Lp := lpOf cut_ref05_Insert_p1 (0, cut_ref05_Insert_p1_o0) [] (fun v => ref05_Insert_p1 N v.1.1 v.1.2.2.2.1 v.1.2.2.2.2 v.2.1.1 v.2.1.2.1 v.2.1.2.2 v.2.2.1)
noncomputable def lam_ref05_Insert_p1 (_ : Nat) : Lps := fun _ => none
theorem lpok_ref05_Insert_p1 (N : Nat) (ro : Option Nat) : LpOk Tryz.prog 53 ro (lp_ref05_Insert_p1 N) (codeAt c_ref05_Insert [true, true, false, true, false, false, true, false, false, true]) :=
  piece_ok (envok_ref05_Insert N) mixed (Λ := lam_ref05_Insert_p1 N) (p := 1865) (obs_ok (l := []) (by kernel_rfl) obsNil) (by kernel_rfl) (by intro v; kernel_rfl)
noncomputable def cut_ref05_Insert_l0 : Cut := { tms := [0, 3, 5, 6, 7], sh := (.cons (.list T_api_Pair) (.cons (.ptr 2000000 0) (.cons (.own 2000001) (.cons .bool (.int .i64))))), objs := [(2000000, [3], .box (.cons .str (.cons .str (.int .i64)))), (2000001, [5], .sl T_api_Pair)], sts := [] }
noncomputable def cut_ref05_Insert_l0_o0 : Cut := { tms := [3, 5, 6], sh := (.cons (.ptr 2000000 0) (.cons (.own 2000001) .bool)), objs := [(2000000, [3], .box (.cons .str (.cons .str (.int .i64)))), (2000001, [5], .sl T_api_Pair)], sts := [] }
noncomputable def lp_ref05_Insert_l0 (N : Nat) : Lp := lpOf cut_ref05_Insert_l0 (2, cut_ref05_Insert_l0_o0) [] (fun v => ref05_Insert_l0 N N v.1.1 v.1.2.2.2.1 v.1.2.2.2.2 v.2.1.1 v.2.1.2.1 v.2.1.2.2 v.2.2.1)
noncomputable def lam_ref05_Insert_l0 (N : Nat) : Lps := fun p => bif Nat.beq p 1865 then some (lp_ref05_Insert_p1 N) else none
theorem lpok_ref05_Insert_l0 (N : Nat) (ro : Option Nat) : LpOk Tryz.prog 53 ro (lp_ref05_Insert_l0 N) (codeAt c_ref05_Insert [true, true, false, true, false]) := by
  rw [show (codeAt c_ref05_Insert [true, true, false, true, false]) = .loop (codeAt c_ref05_Insert [true, true, false, true, false, false]) by kernel_rfl]
  exact loop_ok (envok_ref05_Insert N) mixed (Λ := lam_ref05_Insert_l0 N) (p := 116) (obs_ok (l := [(lp_ref05_Insert_p1 N, (codeAt c_ref05_Insert [true, true, false, true, false, false, true, false, false, true]))]) (by kernel_rfl) (obsCons (lpok_ref05_Insert_p1 N ro) obsNil)) (by kernel_rfl) (by intro rec v; kernel_rfl) N
noncomputable def lam_ref05_Insert (N : Nat) : Lps := fun p => bif Nat.beq p 58 then some (lp_ref05_Insert_l0 N) else none
noncomputable def ctr_ref05_Insert (N : Nat) : Ctr := ctrOf (.cons (.list T_api_Pair) (.val T_api_Pair)) (.fresh T_api_Pair) [] (fun v => ref05_Insert N v.1 v.2)
theorem sound_ref05_Insert (N : Nat) : SoundF Tryz.prog 54 (fun vs => (ctr_ref05_Insert N).run vs some) :=
  fn_sound (envok_ref05_Insert N) mixed (Λ := lam_ref05_Insert N) (fn := Tryz.f54) (c := c_ref05_Insert) Tryz.func54 (by kernel_rfl) (by kernel_rfl) (obs_ok (l := [(lp_ref05_Insert_l0 N, (codeAt c_ref05_Insert [true, true, false, true, false]))]) (by kernel_rfl) (obsCons (lpok_ref05_Insert_l0 N none) obsNil)) (by kernel_rfl) (by intro v; kernel_rfl)

noncomputable def c_ref05_Table : Code := match Tryz.f19.body with | some c => c | none => .skip
noncomputable def tab_ref05_Table (N : Nat) : List (Nat × Ctr) := [(45, ctr_ref05_Key N), (48, ctr_ref05_Value N), (54, ctr_ref05_Insert N)]
noncomputable def env_ref05_Table (N : Nat) : Env := mkEnv tyRows eqRows methRows [] [] (tab_ref05_Table N)
theorem envok_ref05_Table (N : Nat) : EnvOk Tryz.prog (env_ref05_Table N) := mkEnv_ok tyRows_ok eqRows_ok methRows_ok ⟨sound_ref05_Key N, ⟨sound_ref05_Value N, ⟨sound_ref05_Insert N, trivial⟩⟩⟩
noncomputable def cut_ref05_Table_l0 : Cut := { tms := [0, 1, 5, 6], sh := (.cons (.list T_a3_uint8) (.cons (.int .i64) (.cons (.own 2000000) (.int .i64)))), objs := [(2000000, [5], .sl T_api_Pair)], sts := [] }
noncomputable def cut_ref05_Table_l0_o0 : Cut := { tms := [5], sh := (.own 2000000), objs := [(2000000, [5], .sl T_api_Pair)], sts := [] }
noncomputable def lp_ref05_Table_l0 (N : Nat) : Lp := lpOf cut_ref05_Table_l0 (2, cut_ref05_Table_l0_o0) [] (fun v => ref05_Table_l0 N N v.1.1 v.1.2.1 v.1.2.2.2 v.2.1)
noncomputable def lam_ref05_Table_l0 (_ : Nat) : Lps := fun _ => none
theorem lpok_ref05_Table_l0 (N : Nat) (ro : Option Nat) : LpOk Tryz.prog 42 ro (lp_ref05_Table_l0 N) (codeAt c_ref05_Table [true, true, false, true, false]) := by
  rw [show (codeAt c_ref05_Table [true, true, false, true, false]) = .loop (codeAt c_ref05_Table [true, true, false, true, false, false]) by kernel_rfl]
  exact loop_ok (envok_ref05_Table N) mixed (Λ := lam_ref05_Table_l0 N) (p := 116) (obs_ok (l := []) (by kernel_rfl) obsNil) (by kernel_rfl) (by intro rec v; kernel_rfl) N
noncomputable def lam_ref05_Table (N : Nat) : Lps := fun p => bif Nat.beq p 58 then some (lp_ref05_Table_l0 N) else none
noncomputable def ctr_ref05_Table (N : Nat) : Ctr := ctrOf (.cons (.list T_a3_uint8) (.int .i64)) (.fresh T_api_Pair) [] (fun v => ref05_Table N v.1 v.2)
theorem sound_ref05_Table (N : Nat) : SoundF Tryz.prog 19 (fun vs => (ctr_ref05_Table N).run vs some) :=
  fn_sound (envok_ref05_Table N) mixed (Λ := lam_ref05_Table N) (fn := Tryz.f19) (c := c_ref05_Table) Tryz.func19 (by kernel_rfl) (by kernel_rfl) (obs_ok (l := [(lp_ref05_Table_l0 N, (codeAt c_ref05_Table [true, true, false, true, false]))]) (by kernel_rfl) (obsCons (lpok_ref05_Table_l0 N none) obsNil)) (by kernel_rfl) (by intro v; kernel_rfl)

noncomputable def c_ref02_Has : Code := match Tryz.f62.body with | some c => c | none => .skip
noncomputable def tab_ref02_Has (_ : Nat) : List (Nat × Ctr) := []
noncomputable def env_ref02_Has (N : Nat) : Env := mkEnv tyRows eqRows methRows [] [] (tab_ref02_Has N)
theorem envok_ref02_Has (N : Nat) : EnvOk Tryz.prog (env_ref02_Has N) := mkEnv_ok tyRows_ok eqRows_ok methRows_ok trivial
noncomputable def lam_ref02_Has (_ : Nat) : Lps := fun _ => none
noncomputable def ctr_ref02_Has (N : Nat) : Ctr := ctrOf (.cons (.val T_api_Span) .str) .bool [] (fun v => ref02_Has N v.1 v.2)
theorem sound_ref02_Has (N : Nat) : SoundF Tryz.prog 62 (fun vs => (ctr_ref02_Has N).run vs some) :=
  fn_sound (envok_ref02_Has N) mixed (Λ := lam_ref02_Has N) (fn := Tryz.f62) (c := c_ref02_Has) Tryz.func62 (by kernel_rfl) (by kernel_rfl) (obs_ok (l := []) (by kernel_rfl) obsNil) (by kernel_rfl) (by intro v; kernel_rfl)

noncomputable def c_ref02_In : Code := match Tryz.f55.body with | some c => c | none => .skip
noncomputable def tab_ref02_In (N : Nat) : List (Nat × Ctr) := [(62, ctr_ref02_Has N)]
noncomputable def env_ref02_In (N : Nat) : Env := mkEnv tyRows eqRows methRows [] [] (tab_ref02_In N)
theorem envok_ref02_In (N : Nat) : EnvOk Tryz.prog (env_ref02_In N) := mkEnv_ok tyRows_ok eqRows_ok methRows_ok ⟨sound_ref02_Has N, trivial⟩
noncomputable def cut_ref02_In_l0 : Cut := { tms := [0, 1, 5], sh := (.cons (.list T_api_Span) (.cons .str (.int .i64))), objs := [], sts := [] }
noncomputable def cut_ref02_In_l0_o0 : Cut := { tms := [4], sh := .bool, objs := [], sts := [] }
noncomputable def cut_ref02_In_l0_o1 : Cut := { tms := [], sh := .nil, objs := [], sts := [] }
noncomputable def lp_ref02_In_l0 (N : Nat) : Lp := lpOf cut_ref02_In_l0 (1, cut_ref02_In_l0_o0) [(2, cut_ref02_In_l0_o1)] (fun v => ref02_In_l0 N N v.1.1 v.1.2.1 v.1.2.2)
noncomputable def lam_ref02_In_l0 (_ : Nat) : Lps := fun _ => none
theorem lpok_ref02_In_l0 (N : Nat) (ro : Option Nat) : LpOk Tryz.prog 18 ro (lp_ref02_In_l0 N) (codeAt c_ref02_In [true, false, true, false]) := by
  rw [show (codeAt c_ref02_In [true, false, true, false]) = .loop (codeAt c_ref02_In [true, false, true, false, false]) by kernel_rfl]
  exact loop_ok (envok_ref02_In N) mixed (Λ := lam_ref02_In_l0 N) (p := 52) (obs_ok (l := []) (by kernel_rfl) obsNil) (by kernel_rfl) (by intro rec v; kernel_rfl) N
noncomputable def lam_ref02_In (N : Nat) : Lps := fun p => bif Nat.beq p 26 then some (lp_ref02_In_l0 N) else none
noncomputable def ctr_ref02_In (N : Nat) : Ctr := ctrOf (.cons (.list T_api_Span) .str) .bool [] (fun v => ref02_In N v.1 v.2)
theorem sound_ref02_In (N : Nat) : SoundF Tryz.prog 55 (fun vs => (ctr_ref02_In N).run vs some) :=
  fn_sound (envok_ref02_In N) mixed (Λ := lam_ref02_In N) (fn := Tryz.f55) (c := c_ref02_In) Tryz.func55 (by kernel_rfl) (by kernel_rfl) (obs_ok (l := [(lp_ref02_In_l0 N, (codeAt c_ref02_In [true, false, true, false]))]) (by kernel_rfl) (obsCons (lpok_ref02_In_l0 N none) obsNil)) (by kernel_rfl) (by intro v; kernel_rfl)

noncomputable def c_ref05_Without : Code := match Tryz.f23.body with | some c => c | none => .skip
noncomputable def tab_ref05_Without (N : Nat) : List (Nat × Ctr) := [(55, ctr_ref02_In N)]
noncomputable def env_ref05_Without (N : Nat) : Env := mkEnv tyRows eqRows methRows [] [] (tab_ref05_Without N)
theorem envok_ref05_Without (N : Nat) : EnvOk Tryz.prog (env_ref05_Without N) := mkEnv_ok tyRows_ok eqRows_ok methRows_ok ⟨sound_ref02_In N, trivial⟩
noncomputable def cut_ref05_Without_l0 : Cut := { tms := [0, 1, 5, 6], sh := (.cons (.list T_api_Pair) (.cons (.list T_api_Span) (.cons (.own 2000000) (.int .i64)))), objs := [(2000000, [5], .sl T_api_Pair)], sts := [] }
noncomputable def cut_ref05_Without_l0_o0 : Cut := { tms := [5], sh := (.own 2000000), objs := [(2000000, [5], .sl T_api_Pair)], sts := [] }
noncomputable def lp_ref05_Without_l0 (N : Nat) : Lp := lpOf cut_ref05_Without_l0 (2, cut_ref05_Without_l0_o0) [] (fun v => ref05_Without_l0 N N v.1.1 v.1.2.1 v.1.2.2.2 v.2.1)
noncomputable def lam_ref05_Without_l0 (_ : Nat) : Lps := fun _ => none
theorem lpok_ref05_Without_l0 (N : Nat) (ro : Option Nat) : LpOk Tryz.prog 30 ro (lp_ref05_Without_l0 N) (codeAt c_ref05_Without [true, true, false, true, false]) := by
  rw [show (codeAt c_ref05_Without [true, true, false, true, false]) = .loop (codeAt c_ref05_Without [true, true, false, true, false, false]) by kernel_rfl]
  exact loop_ok (envok_ref05_Without N) mixed (Λ := lam_ref05_Without_l0 N) (p := 116) (obs_ok (l := []) (by kernel_rfl) obsNil) (by kernel_rfl) (by intro rec v; kernel_rfl) N
noncomputable def lam_ref05_Without (N : Nat) : Lps := fun p => bif Nat.beq p 58 then some (lp_ref05_Without_l0 N) else none
noncomputable def ctr_ref05_Without (N : Nat) : Ctr := ctrOf (.cons (.list T_api_Pair) (.list T_api_Span)) (.fresh T_api_Pair) [] (fun v => ref05_Without N v.1 v.2)
theorem sound_ref05_Without (N : Nat) : SoundF Tryz.prog 23 (fun vs => (ctr_ref05_Without N).run vs some) :=
  fn_sound (envok_ref05_Without N) mixed (Λ := lam_ref05_Without N) (fn := Tryz.f23) (c := c_ref05_Without) Tryz.func23 (by kernel_rfl) (by kernel_rfl) (obs_ok (l := [(lp_ref05_Without_l0 N, (codeAt c_ref05_Without [true, true, false, true, false]))]) (by kernel_rfl) (obsCons (lpok_ref05_Without_l0 N none) obsNil)) (by kernel_rfl) (by intro v; kernel_rfl)

noncomputable def c_ref05_Sorted : Code := match Tryz.f24.body with | some c => c | none => .skip
noncomputable def tab_ref05_Sorted (_ : Nat) : List (Nat × Ctr) := []
noncomputable def env_ref05_Sorted (N : Nat) : Env := mkEnv tyRows eqRows methRows [] [] (tab_ref05_Sorted N)
theorem envok_ref05_Sorted (N : Nat) : EnvOk Tryz.prog (env_ref05_Sorted N) := mkEnv_ok tyRows_ok eqRows_ok methRows_ok trivial
noncomputable def cut_ref05_Sorted_l0 : Cut := { tms := [0, 3], sh := (.cons (.list T_api_Pair) (.int .i64)), objs := [], sts := [] }
noncomputable def cut_ref05_Sorted_l0_o0 : Cut := { tms := [2], sh := .bool, objs := [], sts := [] }
noncomputable def cut_ref05_Sorted_l0_o1 : Cut := { tms := [], sh := .nil, objs := [], sts := [] }
noncomputable def lp_ref05_Sorted_l0 (N : Nat) : Lp := lpOf cut_ref05_Sorted_l0 (1, cut_ref05_Sorted_l0_o0) [(2, cut_ref05_Sorted_l0_o1)] (fun v => ref05_Sorted_l0 N N v.1.1 v.1.2)
noncomputable def lam_ref05_Sorted_l0 (_ : Nat) : Lps := fun _ => none
theorem lpok_ref05_Sorted_l0 (N : Nat) (ro : Option Nat) : LpOk Tryz.prog 22 ro (lp_ref05_Sorted_l0 N) (codeAt c_ref05_Sorted [true, false, true, false]) := by
  rw [show (codeAt c_ref05_Sorted [true, false, true, false]) = .loop (codeAt c_ref05_Sorted [true, false, true, false, false]) by kernel_rfl]
  exact loop_ok (envok_ref05_Sorted N) mixed (Λ := lam_ref05_Sorted_l0 N) (p := 52) (obs_ok (l := []) (by kernel_rfl) obsNil) (by kernel_rfl) (by intro rec v; kernel_rfl) N
noncomputable def lam_ref05_Sorted (N : Nat) : Lps := fun p => bif Nat.beq p 26 then some (lp_ref05_Sorted_l0 N) else none
noncomputable def ctr_ref05_Sorted (N : Nat) : Ctr := ctrOf (.list T_api_Pair) .bool [] (fun v => ref05_Sorted N v)
theorem sound_ref05_Sorted (N : Nat) : SoundF Tryz.prog 24 (fun vs => (ctr_ref05_Sorted N).run vs some) :=
  fn_sound (envok_ref05_Sorted N) mixed (Λ := lam_ref05_Sorted N) (fn := Tryz.f24) (c := c_ref05_Sorted) Tryz.func24 (by kernel_rfl) (by kernel_rfl) (obs_ok (l := [(lp_ref05_Sorted_l0 N, (codeAt c_ref05_Sorted [true, false, true, false]))]) (by kernel_rfl) (obsCons (lpok_ref05_Sorted_l0 N none) obsNil)) (by kernel_rfl) (by intro v; kernel_rfl)

noncomputable def c_law05_MsgOutside : Code := match Tryz.f4.body with | some c => c | none => .skip
noncomputable def tab_law05_MsgOutside (N : Nat) : List (Nat × Ctr) := [(12, ctr_law05_sanity N), (19, ctr_ref05_Table N), (13, ctr_ref05_Made N), (20, ctr_msg_Writes N), (21, ctr_msg_Apply N), (23, ctr_ref05_Without N), (22, ctr_ref05_Same N), (24, ctr_ref05_Sorted N)]
noncomputable def env_law05_MsgOutside (N : Nat) : Env := mkEnv tyRows eqRows methRows [(3, [12])] [] (tab_law05_MsgOutside N)
theorem envok_law05_MsgOutside (N : Nat) : EnvOk Tryz.prog (env_law05_MsgOutside N) := mkEnv_ok tyRows_ok eqRows_ok methRows_ok ⟨sound_law05_sanity N, ⟨sound_ref05_Table N, ⟨sound_ref05_Made N, ⟨sound_msg_Writes N, ⟨sound_msg_Apply N, ⟨sound_ref05_Without N, ⟨sound_ref05_Same N, ⟨sound_ref05_Sorted N, trivial⟩⟩⟩⟩⟩⟩⟩⟩
noncomputable def lam_law05_MsgOutside (_ : Nat) : Lps := fun _ => none
noncomputable def ctr_law05_MsgOutside (N : Nat) : Ctr := ctrOf (.cons (.list T_a3_uint8) (.val T_ref05_Raw)) .bool [] (fun v => law05_MsgOutside N v.1 v.2)
theorem sound_law05_MsgOutside (N : Nat) : SoundF Tryz.prog 4 (fun vs => (ctr_law05_MsgOutside N).run vs some) :=
  fn_sound (envok_law05_MsgOutside N) mixed (Λ := lam_law05_MsgOutside N) (fn := Tryz.f4) (c := c_law05_MsgOutside) Tryz.func4 (by kernel_rfl) (by kernel_rfl) (obs_ok (l := []) (by kernel_rfl) obsNil) (by kernel_rfl) (by intro v; kernel_rfl)

noncomputable def c_ref05_Within : Code := match Tryz.f28.body with | some c => c | none => .skip
noncomputable def tab_ref05_Within (N : Nat) : List (Nat × Ctr) := [(55, ctr_ref02_In N)]
noncomputable def env_ref05_Within (N : Nat) : Env := mkEnv tyRows eqRows methRows [] [] (tab_ref05_Within N)
theorem envok_ref05_Within (N : Nat) : EnvOk Tryz.prog (env_ref05_Within N) := mkEnv_ok tyRows_ok eqRows_ok methRows_ok ⟨sound_ref02_In N, trivial⟩
noncomputable def cut_ref05_Within_l0 : Cut := { tms := [0, 1, 5, 6], sh := (.cons (.list T_api_Pair) (.cons (.list T_api_Span) (.cons (.own 2000000) (.int .i64)))), objs := [(2000000, [5], .sl T_api_Pair)], sts := [] }
noncomputable def cut_ref05_Within_l0_o0 : Cut := { tms := [5], sh := (.own 2000000), objs := [(2000000, [5], .sl T_api_Pair)], sts := [] }
noncomputable def lp_ref05_Within_l0 (N : Nat) : Lp := lpOf cut_ref05_Within_l0 (2, cut_ref05_Within_l0_o0) [] (fun v => ref05_Within_l0 N N v.1.1 v.1.2.1 v.1.2.2.2 v.2.1)
noncomputable def lam_ref05_Within_l0 (_ : Nat) : Lps := fun _ => none
theorem lpok_ref05_Within_l0 (N : Nat) (ro : Option Nat) : LpOk Tryz.prog 29 ro (lp_ref05_Within_l0 N) (codeAt c_ref05_Within [true, true, false, true, false]) := by
  rw [show (codeAt c_ref05_Within [true, true, false, true, false]) = .loop (codeAt c_ref05_Within [true, true, false, true, false, false]) by kernel_rfl]
  exact loop_ok (envok_ref05_Within N) mixed (Λ := lam_ref05_Within_l0 N) (p := 116) (obs_ok (l := []) (by kernel_rfl) obsNil) (by kernel_rfl) (by intro rec v; kernel_rfl) N
noncomputable def lam_ref05_Within (N : Nat) : Lps := fun p => bif Nat.beq p 58 then some (lp_ref05_Within_l0 N) else none
noncomputable def ctr_ref05_Within (N : Nat) : Ctr := ctrOf (.cons (.list T_api_Pair) (.list T_api_Span)) (.fresh T_api_Pair) [] (fun v => ref05_Within N v.1 v.2)
theorem sound_ref05_Within (N : Nat) : SoundF Tryz.prog 28 (fun vs => (ctr_ref05_Within N).run vs some) :=
  fn_sound (envok_ref05_Within N) mixed (Λ := lam_ref05_Within N) (fn := Tryz.f28) (c := c_ref05_Within) Tryz.func28 (by kernel_rfl) (by kernel_rfl) (obs_ok (l := [(lp_ref05_Within_l0 N, (codeAt c_ref05_Within [true, true, false, true, false]))]) (by kernel_rfl) (obsCons (lpok_ref05_Within_l0 N none) obsNil)) (by kernel_rfl) (by intro v; kernel_rfl)

noncomputable def c_ref05_Join : Code := match Tryz.f27.body with | some c => c | none => .skip
noncomputable def tab_ref05_Join (N : Nat) : List (Nat × Ctr) := [(54, ctr_ref05_Insert N)]
noncomputable def env_ref05_Join (N : Nat) : Env := mkEnv tyRows eqRows methRows [] [] (tab_ref05_Join N)
theorem envok_ref05_Join (N : Nat) : EnvOk Tryz.prog (env_ref05_Join N) := mkEnv_ok tyRows_ok eqRows_ok methRows_ok ⟨sound_ref05_Insert N, trivial⟩
noncomputable def cut_ref05_Join_l0 : Cut := { tms := [1, 5, 6], sh := (.cons (.list T_api_Pair) (.cons (.own 2000000) (.int .i64))), objs := [(2000000, [5], .sl T_api_Pair)], sts := [] }
noncomputable def cut_ref05_Join_l0_o0 : Cut := { tms := [5], sh := (.own 2000000), objs := [(2000000, [5], .sl T_api_Pair)], sts := [] }
noncomputable def lp_ref05_Join_l0 (N : Nat) : Lp := lpOf cut_ref05_Join_l0 (2, cut_ref05_Join_l0_o0) [] (fun v => ref05_Join_l0 N N v.1.1 v.1.2.2 v.2.1)
noncomputable def lam_ref05_Join_l0 (_ : Nat) : Lps := fun _ => none
theorem lpok_ref05_Join_l0 (N : Nat) (ro : Option Nat) : LpOk Tryz.prog 23 ro (lp_ref05_Join_l0 N) (codeAt c_ref05_Join [true, true, false, true, false]) := by
  rw [show (codeAt c_ref05_Join [true, true, false, true, false]) = .loop (codeAt c_ref05_Join [true, true, false, true, false, false]) by kernel_rfl]
  exact loop_ok (envok_ref05_Join N) mixed (Λ := lam_ref05_Join_l0 N) (p := 116) (obs_ok (l := []) (by kernel_rfl) obsNil) (by kernel_rfl) (by intro rec v; kernel_rfl) N
noncomputable def lam_ref05_Join (N : Nat) : Lps := fun p => bif Nat.beq p 58 then some (lp_ref05_Join_l0 N) else none
noncomputable def ctr_ref05_Join (N : Nat) : Ctr := ctrOf (.cons (.list T_api_Pair) (.list T_api_Pair)) (.fresh T_api_Pair) [] (fun v => ref05_Join N v.1 v.2)
theorem sound_ref05_Join (N : Nat) : SoundF Tryz.prog 27 (fun vs => (ctr_ref05_Join N).run vs some) :=
  fn_sound (envok_ref05_Join N) mixed (Λ := lam_ref05_Join N) (fn := Tryz.f27) (c := c_ref05_Join) Tryz.func27 (by kernel_rfl) (by kernel_rfl) (obs_ok (l := [(lp_ref05_Join_l0 N, (codeAt c_ref05_Join [true, true, false, true, false]))]) (by kernel_rfl) (obsCons (lpok_ref05_Join_l0 N none) obsNil)) (by kernel_rfl) (by intro v; kernel_rfl)

noncomputable def c_ref02_insert : Code := match Tryz.f66.body with | some c => c | none => .skip
noncomputable def tab_ref02_insert (N : Nat) : List (Nat × Ctr) := [(57, ctr_ref02_Empty N)]
noncomputable def env_ref02_insert (N : Nat) : Env := mkEnv tyRows eqRows methRows [] [] (tab_ref02_insert N)
theorem envok_ref02_insert (N : Nat) : EnvOk Tryz.prog (env_ref02_insert N) := mkEnv_ok tyRows_ok eqRows_ok methRows_ok ⟨sound_ref02_Empty N, trivial⟩
noncomputable def cut_ref02_insert_l0 : Cut := { tms := [0, 3, 5, 6, 7], sh := (.cons (.list T_api_Span) (.cons (.ptr 2000000 0) (.cons (.own 2000001) (.cons .bool (.int .i64))))), objs := [(2000000, [3], .box (.cons .str .str)), (2000001, [5], .sl T_api_Span)], sts := [] }
noncomputable def cut_ref02_insert_l0_o0 : Cut := { tms := [3, 5, 6], sh := (.cons (.ptr 2000000 0) (.cons (.own 2000001) .bool)), objs := [(2000000, [3], .box (.cons .str .str)), (2000001, [5], .sl T_api_Span)], sts := [] }
noncomputable def lp_ref02_insert_l0 (N : Nat) : Lp := lpOf cut_ref02_insert_l0 (2, cut_ref02_insert_l0_o0) [] (fun v => ref02_insert_l0 N N v.1.1 v.1.2.2.2.1 v.1.2.2.2.2 v.2.1.1 v.2.1.2 v.2.2.1)
noncomputable def lam_ref02_insert_l0 (_ : Nat) : Lps := fun _ => none
theorem lpok_ref02_insert_l0 (N : Nat) (ro : Option Nat) : LpOk Tryz.prog 47 ro (lp_ref02_insert_l0 N) (codeAt c_ref02_insert [true, true, false, true, false]) := by
  rw [show (codeAt c_ref02_insert [true, true, false, true, false]) = .loop (codeAt c_ref02_insert [true, true, false, true, false, false]) by kernel_rfl]
  exact loop_ok (envok_ref02_insert N) mixed (Λ := lam_ref02_insert_l0 N) (p := 116) (obs_ok (l := []) (by kernel_rfl) obsNil) (by kernel_rfl) (by intro rec v; kernel_rfl) N
noncomputable def lam_ref02_insert (N : Nat) : Lps := fun p => bif Nat.beq p 58 then some (lp_ref02_insert_l0 N) else none
noncomputable def ctr_ref02_insert (N : Nat) : Ctr := ctrOf (.cons (.list T_api_Span) (.val T_api_Span)) (.fresh T_api_Span) [] (fun v => ref02_insert N v.1 v.2)
theorem sound_ref02_insert (N : Nat) : SoundF Tryz.prog 66 (fun vs => (ctr_ref02_insert N).run vs some) :=
  fn_sound (envok_ref02_insert N) mixed (Λ := lam_ref02_insert N) (fn := Tryz.f66) (c := c_ref02_insert) Tryz.func66 (by kernel_rfl) (by kernel_rfl) (obs_ok (l := [(lp_ref02_insert_l0 N, (codeAt c_ref02_insert [true, true, false, true, false]))]) (by kernel_rfl) (obsCons (lpok_ref02_insert_l0 N none) obsNil)) (by kernel_rfl) (by intro v; kernel_rfl)

noncomputable def c_ref02_Less : Code := match Tryz.f67.body with | some c => c | none => .skip
noncomputable def tab_ref02_Less (_ : Nat) : List (Nat × Ctr) := []
noncomputable def env_ref02_Less (N : Nat) : Env := mkEnv tyRows eqRows methRows [] [] (tab_ref02_Less N)
theorem envok_ref02_Less (N : Nat) : EnvOk Tryz.prog (env_ref02_Less N) := mkEnv_ok tyRows_ok eqRows_ok methRows_ok trivial
noncomputable def lam_ref02_Less (_ : Nat) : Lps := fun _ => none
noncomputable def ctr_ref02_Less (N : Nat) : Ctr := ctrOf (.cons .str .str) .bool [] (fun v => ref02_Less N v.1 v.2)
theorem sound_ref02_Less (N : Nat) : SoundF Tryz.prog 67 (fun vs => (ctr_ref02_Less N).run vs some) :=
  fn_sound (envok_ref02_Less N) mixed (Λ := lam_ref02_Less N) (fn := Tryz.f67) (c := c_ref02_Less) Tryz.func67 (by kernel_rfl) (by kernel_rfl) (obs_ok (l := []) (by kernel_rfl) obsNil) (by kernel_rfl) (by intro v; kernel_rfl)

noncomputable def c_ref02_Norm : Code := match Tryz.f56.body with | some c => c | none => .skip
noncomputable def tab_ref02_Norm (N : Nat) : List (Nat × Ctr) := [(66, ctr_ref02_insert N), (67, ctr_ref02_Less N)]
noncomputable def env_ref02_Norm (N : Nat) : Env := mkEnv tyRows eqRows methRows [] [] (tab_ref02_Norm N)
theorem envok_ref02_Norm (N : Nat) : EnvOk Tryz.prog (env_ref02_Norm N) := mkEnv_ok tyRows_ok eqRows_ok methRows_ok ⟨sound_ref02_insert N, ⟨sound_ref02_Less N, trivial⟩⟩
noncomputable def cut_ref02_Norm_p2 : Cut := { tms := [3, 4, 6, 7, 53], sh := (.cons (.own 2000000) (.cons (.own 2000001) (.cons (.int .i64) (.cons (.int .i64) .bool)))), objs := [(2000000, [3], .sl T_api_Span), (2000001, [4], .sl T_api_Span)], sts := [] }
noncomputable def cut_ref02_Norm_p2_o0 : Cut := { tms := [3, 4, 6], sh := (.cons (.own 2000000) (.cons (.own 2000001) (.int .i64))), objs := [(2000000, [3], .sl T_api_Span), (2000001, [4], .sl T_api_Span)], sts := [] }
noncomputable def lp_ref02_Norm_p2 (N : Nat) : Lp := lpOf cut_ref02_Norm_p2 (0, cut_ref02_Norm_p2_o0) [] (fun v => ref02_Norm_p2 N v.1.2.2.1 v.1.2.2.2.1 v.1.2.2.2.2 v.2.1 v.2.2.1)
noncomputable def lam_ref02_Norm_p2 (_ : Nat) : Lps := fun _ => none
theorem lpok_ref02_Norm_p2 (N : Nat) (ro : Option Nat) : LpOk Tryz.prog 82 ro (lp_ref02_Norm_p2 N) (codeAt c_ref02_Norm [true, true, true, false, true, false, false, true, false, false, true, true]) :=
  piece_ok (envok_ref02_Norm N) mixed (Λ := lam_ref02_Norm_p2 N) (p := 7827) (obs_ok (l := []) (by kernel_rfl) obsNil) (by kernel_rfl) (by intro v; kernel_rfl)
noncomputable def cut_ref02_Norm_l1 : Cut := { tms := [3, 4, 6], sh := (.cons (.own 2000000) (.cons (.own 2000001) (.int .i64))), objs := [(2000000, [3], .sl T_api_Span), (2000001, [4], .sl T_api_Span)], sts := [] }
noncomputable def cut_ref02_Norm_l1_o0 : Cut := { tms := [4], sh := (.own 2000000), objs := [(2000000, [4], .sl T_api_Span)], sts := [] }
noncomputable def lp_ref02_Norm_l1 (N : Nat) : Lp := lpOf cut_ref02_Norm_l1 (4, cut_ref02_Norm_l1_o0) [] (fun v => ref02_Norm_l1 N N v.1.2.2 v.2.1 v.2.2.1)
noncomputable def lam_ref02_Norm_l1 (N : Nat) : Lps := fun p => bif Nat.beq p 7827 then some (lp_ref02_Norm_p2 N) else none
theorem lpok_ref02_Norm_l1 (N : Nat) (ro : Option Nat) : LpOk Tryz.prog 82 ro (lp_ref02_Norm_l1 N) (codeAt c_ref02_Norm [true, true, true, false, true, false]) := by
  rw [show (codeAt c_ref02_Norm [true, true, true, false, true, false]) = .loop (codeAt c_ref02_Norm [true, true, true, false, true, false, false]) by kernel_rfl]
  exact loop_ok (envok_ref02_Norm N) mixed (Λ := lam_ref02_Norm_l1 N) (p := 244) (obs_ok (l := [(lp_ref02_Norm_p2 N, (codeAt c_ref02_Norm [true, true, true, false, true, false, false, true, false, false, true, true]))]) (by kernel_rfl) (obsCons (lpok_ref02_Norm_p2 N ro) obsNil)) (by kernel_rfl) (by intro rec v; kernel_rfl) N
noncomputable def cut_ref02_Norm_l0 : Cut := { tms := [0, 3, 4, 5], sh := (.cons (.list T_api_Span) (.cons (.own 2000000) (.cons (.own 2000001) (.int .i64)))), objs := [(2000000, [3], .sl T_api_Span), (2000001, [4], .sl T_api_Span)], sts := [] }
noncomputable def cut_ref02_Norm_l0_o0 : Cut := { tms := [3, 4], sh := (.cons (.own 2000000) (.own 2000001)), objs := [(2000000, [3], .sl T_api_Span), (2000001, [4], .sl T_api_Span)], sts := [] }
noncomputable def lp_ref02_Norm_l0 (N : Nat) : Lp := lpOf cut_ref02_Norm_l0 (2, cut_ref02_Norm_l0_o0) [] (fun v => ref02_Norm_l0 N N v.1.1 v.1.2.2.2 v.2.1 v.2.2.1)
noncomputable def lam_ref02_Norm_l0 (_ : Nat) : Lps := fun _ => none
theorem lpok_ref02_Norm_l0 (N : Nat) (ro : Option Nat) : LpOk Tryz.prog 82 ro (lp_ref02_Norm_l0 N) (codeAt c_ref02_Norm [true, true, false, true, false]) := by
  rw [show (codeAt c_ref02_Norm [true, true, false, true, false]) = .loop (codeAt c_ref02_Norm [true, true, false, true, false, false]) by kernel_rfl]
  exact loop_ok (envok_ref02_Norm N) mixed (Λ := lam_ref02_Norm_l0 N) (p := 116) (obs_ok (l := []) (by kernel_rfl) obsNil) (by kernel_rfl) (by intro rec v; kernel_rfl) N
noncomputable def lam_ref02_Norm (N : Nat) : Lps := fun p => bif Nat.beq p 58 then some (lp_ref02_Norm_l0 N) else bif Nat.beq p 122 then some (lp_ref02_Norm_l1 N) else none
noncomputable def ctr_ref02_Norm (N : Nat) : Ctr := ctrOf (.list T_api_Span) (.fresh T_api_Span) [] (fun v => ref02_Norm N v)
theorem sound_ref02_Norm (N : Nat) : SoundF Tryz.prog 56 (fun vs => (ctr_ref02_Norm N).run vs some) :=
  fn_sound (envok_ref02_Norm N) mixed (Λ := lam_ref02_Norm N) (fn := Tryz.f56) (c := c_ref02_Norm) Tryz.func56 (by kernel_rfl) (by kernel_rfl) (obs_ok (l := [(lp_ref02_Norm_l0 N, (codeAt c_ref02_Norm [true, true, false, true, false])), (lp_ref02_Norm_l1 N, (codeAt c_ref02_Norm [true, true, true, false, true, false]))]) (by kernel_rfl) (obsCons (lpok_ref02_Norm_l0 N none) (obsCons (lpok_ref02_Norm_l1 N none) obsNil))) (by kernel_rfl) (by intro v; kernel_rfl)

noncomputable def c_ref02_None : Code := match Tryz.f68.body with | some c => c | none => .skip
noncomputable def tab_ref02_None (_ : Nat) : List (Nat × Ctr) := []
noncomputable def env_ref02_None (N : Nat) : Env := mkEnv tyRows eqRows methRows [] [] (tab_ref02_None N)
theorem envok_ref02_None (N : Nat) : EnvOk Tryz.prog (env_ref02_None N) := mkEnv_ok tyRows_ok eqRows_ok methRows_ok trivial
noncomputable def lam_ref02_None (_ : Nat) : Lps := fun _ => none
noncomputable def ctr_ref02_None (N : Nat) : Ctr := ctrOf .nil (.val T_api_Span) [] (fun _ => ref02_None N)
theorem sound_ref02_None (N : Nat) : SoundF Tryz.prog 68 (fun vs => (ctr_ref02_None N).run vs some) :=
  fn_sound (envok_ref02_None N) mixed (Λ := lam_ref02_None N) (fn := Tryz.f68) (c := c_ref02_None) Tryz.func68 (by kernel_rfl) (by kernel_rfl) (obs_ok (l := []) (by kernel_rfl) obsNil) (by kernel_rfl) (by intro v; kernel_rfl)

noncomputable def c_ref02_Meet : Code := match Tryz.f58.body with | some c => c | none => .skip
noncomputable def tab_ref02_Meet (N : Nat) : List (Nat × Ctr) := [(67, ctr_ref02_Less N), (57, ctr_ref02_Empty N), (68, ctr_ref02_None N)]
noncomputable def env_ref02_Meet (N : Nat) : Env := mkEnv tyRows eqRows methRows [] [] (tab_ref02_Meet N)
theorem envok_ref02_Meet (N : Nat) : EnvOk Tryz.prog (env_ref02_Meet N) := mkEnv_ok tyRows_ok eqRows_ok methRows_ok ⟨sound_ref02_Less N, ⟨sound_ref02_Empty N, ⟨sound_ref02_None N, trivial⟩⟩⟩
noncomputable def lam_ref02_Meet (_ : Nat) : Lps := fun _ => none
noncomputable def ctr_ref02_Meet (N : Nat) : Ctr := ctrOf (.cons (.val T_api_Span) (.val T_api_Span)) (.val T_api_Span) [] (fun v => ref02_Meet N v.1 v.2)
theorem sound_ref02_Meet (N : Nat) : SoundF Tryz.prog 58 (fun vs => (ctr_ref02_Meet N).run vs some) :=
  fn_sound (envok_ref02_Meet N) mixed (Λ := lam_ref02_Meet N) (fn := Tryz.f58) (c := c_ref02_Meet) Tryz.func58 (by kernel_rfl) (by kernel_rfl) (obs_ok (l := []) (by kernel_rfl) obsNil) (by kernel_rfl) (by intro v; kernel_rfl)

noncomputable def c_ref02_Minus : Code := match Tryz.f29.body with | some c => c | none => .skip
noncomputable def tab_ref02_Minus (N : Nat) : List (Nat × Ctr) := [(56, ctr_ref02_Norm N), (57, ctr_ref02_Empty N), (58, ctr_ref02_Meet N)]
noncomputable def env_ref02_Minus (N : Nat) : Env := mkEnv tyRows eqRows methRows [] [] (tab_ref02_Minus N)
theorem envok_ref02_Minus (N : Nat) : EnvOk Tryz.prog (env_ref02_Minus N) := mkEnv_ok tyRows_ok eqRows_ok methRows_ok ⟨sound_ref02_Norm N, ⟨sound_ref02_Empty N, ⟨sound_ref02_Meet N, trivial⟩⟩⟩
noncomputable def cut_ref02_Minus_l1 : Cut := { tms := [1, 5, 6, 7, 8], sh := (.cons (.list T_api_Span) (.cons (.own 2000000) (.cons (.int .i64) (.cons (.own 2000001) (.int .i64))))), objs := [(2000000, [5], .sl T_api_Span), (2000001, [7], .sl T_api_Span)], sts := [] }
noncomputable def cut_ref02_Minus_l1_o0 : Cut := { tms := [1, 6, 7], sh := (.cons (.list T_api_Span) (.cons (.int .i64) (.own 2000000))), objs := [(2000000, [7], .sl T_api_Span)], sts := [] }
noncomputable def lp_ref02_Minus_l1 (N : Nat) : Lp := lpOf cut_ref02_Minus_l1 (4, cut_ref02_Minus_l1_o0) [] (fun v => ref02_Minus_l1 N N v.1.1 v.1.2.2.1 v.1.2.2.2.2 v.2.1 v.2.2.1)
noncomputable def lam_ref02_Minus_l1 (_ : Nat) : Lps := fun _ => none
theorem lpok_ref02_Minus_l1 (N : Nat) (ro : Option Nat) : LpOk Tryz.prog 72 ro (lp_ref02_Minus_l1 N) (codeAt c_ref02_Minus [true, true, false, true, false, false, true, false, false, true, true, false, true, false]) := by
  rw [show (codeAt c_ref02_Minus [true, true, false, true, false, false, true, false, false, true, true, false, true, false]) = .loop (codeAt c_ref02_Minus [true, true, false, true, false, false, true, false, false, true, true, false, true, false, false]) by kernel_rfl]
  exact loop_ok (envok_ref02_Minus N) mixed (Λ := lam_ref02_Minus_l1 N) (p := 59700) (obs_ok (l := []) (by kernel_rfl) obsNil) (by kernel_rfl) (by intro rec v; kernel_rfl) N
noncomputable def cut_ref02_Minus_l0 : Cut := { tms := [1, 5, 6], sh := (.cons (.list T_api_Span) (.cons (.own 2000000) (.int .i64))), objs := [(2000000, [5], .sl T_api_Span)], sts := [] }
noncomputable def cut_ref02_Minus_l0_o0 : Cut := { tms := [5], sh := (.own 2000000), objs := [(2000000, [5], .sl T_api_Span)], sts := [] }
noncomputable def lp_ref02_Minus_l0 (N : Nat) : Lp := lpOf cut_ref02_Minus_l0 (2, cut_ref02_Minus_l0_o0) [] (fun v => ref02_Minus_l0 N N v.1.1 v.1.2.2 v.2.1)
noncomputable def lam_ref02_Minus_l0 (N : Nat) : Lps := fun p => bif Nat.beq p 29850 then some (lp_ref02_Minus_l1 N) else none
theorem lpok_ref02_Minus_l0 (N : Nat) (ro : Option Nat) : LpOk Tryz.prog 72 ro (lp_ref02_Minus_l0 N) (codeAt c_ref02_Minus [true, true, false, true, false]) := by
  rw [show (codeAt c_ref02_Minus [true, true, false, true, false]) = .loop (codeAt c_ref02_Minus [true, true, false, true, false, false]) by kernel_rfl]
  exact loop_ok (envok_ref02_Minus N) mixed (Λ := lam_ref02_Minus_l0 N) (p := 116) (obs_ok (l := [(lp_ref02_Minus_l1 N, (codeAt c_ref02_Minus [true, true, false, true, false, false, true, false, false, true, true, false, true, false]))]) (by kernel_rfl) (obsCons (lpok_ref02_Minus_l1 N ro) obsNil)) (by kernel_rfl) (by intro rec v; kernel_rfl) N
noncomputable def lam_ref02_Minus (N : Nat) : Lps := fun p => bif Nat.beq p 58 then some (lp_ref02_Minus_l0 N) else none
noncomputable def ctr_ref02_Minus (N : Nat) : Ctr := ctrOf (.cons (.list T_api_Span) (.list T_api_Span)) (.fresh T_api_Span) [] (fun v => ref02_Minus N v.1 v.2)
theorem sound_ref02_Minus (N : Nat) : SoundF Tryz.prog 29 (fun vs => (ctr_ref02_Minus N).run vs some) :=
  fn_sound (envok_ref02_Minus N) mixed (Λ := lam_ref02_Minus N) (fn := Tryz.f29) (c := c_ref02_Minus) Tryz.func29 (by kernel_rfl) (by kernel_rfl) (obs_ok (l := [(lp_ref02_Minus_l0 N, (codeAt c_ref02_Minus [true, true, false, true, false]))]) (by kernel_rfl) (obsCons (lpok_ref02_Minus_l0 N none) obsNil)) (by kernel_rfl) (by intro v; kernel_rfl)

noncomputable def c_law05_MsgReads : Code := match Tryz.f5.body with | some c => c | none => .skip
noncomputable def tab_law05_MsgReads (N : Nat) : List (Nat × Ctr) := [(12, ctr_law05_sanity N), (19, ctr_ref05_Table N), (13, ctr_ref05_Made N), (25, ctr_msg_Reads N), (20, ctr_msg_Writes N), (26, ctr_msg_Kills N), (23, ctr_ref05_Without N), (28, ctr_ref05_Within N), (27, ctr_ref05_Join N), (21, ctr_msg_Apply N), (22, ctr_ref05_Same N), (29, ctr_ref02_Minus N)]
noncomputable def env_law05_MsgReads (N : Nat) : Env := mkEnv tyRows eqRows methRows [(5, [19, 36]), (9, [58])] [] (tab_law05_MsgReads N)
theorem envok_law05_MsgReads (N : Nat) : EnvOk Tryz.prog (env_law05_MsgReads N) := mkEnv_ok tyRows_ok eqRows_ok methRows_ok ⟨sound_law05_sanity N, ⟨sound_ref05_Table N, ⟨sound_ref05_Made N, ⟨sound_msg_Reads N, ⟨sound_msg_Writes N, ⟨sound_msg_Kills N, ⟨sound_ref05_Without N, ⟨sound_ref05_Within N, ⟨sound_ref05_Join N, ⟨sound_msg_Apply N, ⟨sound_ref05_Same N, ⟨sound_ref02_Minus N, trivial⟩⟩⟩⟩⟩⟩⟩⟩⟩⟩⟩⟩
noncomputable def lam_law05_MsgReads (_ : Nat) : Lps := fun _ => none
noncomputable def ctr_law05_MsgReads (N : Nat) : Ctr := ctrOf (.cons (.list T_a3_uint8) (.cons (.list T_a3_uint8) (.val T_ref05_Raw))) .bool [] (fun v => law05_MsgReads N v.1 v.2.1 v.2.2)
theorem sound_law05_MsgReads (N : Nat) : SoundF Tryz.prog 5 (fun vs => (ctr_law05_MsgReads N).run vs some) :=
  fn_sound (envok_law05_MsgReads N) mixed (Λ := lam_law05_MsgReads N) (fn := Tryz.f5) (c := c_law05_MsgReads) Tryz.func5 (by kernel_rfl) (by kernel_rfl) (obs_ok (l := []) (by kernel_rfl) obsNil) (by kernel_rfl) (by intro v; kernel_rfl)

noncomputable def c_law05_MsgBytes : Code := match Tryz.f6.body with | some c => c | none => .skip
noncomputable def tab_law05_MsgBytes (N : Nat) : List (Nat × Ctr) := [(12, ctr_law05_sanity N), (13, ctr_ref05_Made N), (17, ctr_msg_Bytes N), (30, ctr_msg_Parse N), (16, ctr_ref05_SameBytes N)]
noncomputable def env_law05_MsgBytes (N : Nat) : Env := mkEnv tyRows eqRows methRows [(12, [2000002])] [] (tab_law05_MsgBytes N)
theorem envok_law05_MsgBytes (N : Nat) : EnvOk Tryz.prog (env_law05_MsgBytes N) := mkEnv_ok tyRows_ok eqRows_ok methRows_ok ⟨sound_law05_sanity N, ⟨sound_ref05_Made N, ⟨sound_msg_Bytes N, ⟨sound_msg_Parse N, ⟨sound_ref05_SameBytes N, trivial⟩⟩⟩⟩⟩
noncomputable def cut_law05_MsgBytes_l1 : Cut := { tms := [5, 6, 7, 8, 12], sh := (.cons .bool (.cons (.ptr 2000000 0) (.cons (.ptr 2000001 0) (.cons (.list (.int .u8)) (.int .i64))))), objs := [(2000000, [6], .box (.cons (.int .i64) (.cons .str (.cons .str (.cons .str (.cons .str (.cons .str (.cons .str (.int .i64))))))))), (2000001, [7], .box (.cons (.int .i64) (.cons .str (.cons .str (.cons .str (.cons .str (.cons .str (.cons .str (.int .i64)))))))))], sts := [2000002] }
noncomputable def cut_law05_MsgBytes_l1_o0 : Cut := { tms := [4], sh := .bool, objs := [], sts := [] }
noncomputable def cut_law05_MsgBytes_l1_o1 : Cut := { tms := [5, 6, 7, 8], sh := (.cons .bool (.cons (.ptr 2000000 0) (.cons (.ptr 2000001 0) (.list (.int .u8))))), objs := [(2000000, [6], .box (.cons (.int .i64) (.cons .str (.cons .str (.cons .str (.cons .str (.cons .str (.cons .str (.int .i64))))))))), (2000001, [7], .box (.cons (.int .i64) (.cons .str (.cons .str (.cons .str (.cons .str (.cons .str (.cons .str (.int .i64)))))))))], sts := [] }
noncomputable def lp_law05_MsgBytes_l1 (N : Nat) : Lp := lpOf cut_law05_MsgBytes_l1 (1, cut_law05_MsgBytes_l1_o0) [(2, cut_law05_MsgBytes_l1_o1)] (fun v => law05_MsgBytes_l1 N N v.1.1 v.1.2.2.2.1 v.1.2.2.2.2 v.2.1.1 v.2.1.2.1 v.2.1.2.2.1 v.2.1.2.2.2.1 v.2.1.2.2.2.2.1 v.2.1.2.2.2.2.2.1 v.2.1.2.2.2.2.2.2.1 v.2.1.2.2.2.2.2.2.2 v.2.2.1.1 v.2.2.1.2.1 v.2.2.1.2.2.1 v.2.2.1.2.2.2.1 v.2.2.1.2.2.2.2.1 v.2.2.1.2.2.2.2.2.1 v.2.2.1.2.2.2.2.2.2.1 v.2.2.1.2.2.2.2.2.2.2)
noncomputable def lam_law05_MsgBytes_l1 (_ : Nat) : Lps := fun _ => none
theorem lpok_law05_MsgBytes_l1 (N : Nat) (ro : Option Nat) : LpOk Tryz.prog 88 ro (lp_law05_MsgBytes_l1 N) (codeAt c_law05_MsgBytes [true, true, true, true, true, true, true, false, true, false]) := by
  rw [show (codeAt c_law05_MsgBytes [true, true, true, true, true, true, true, false, true, false]) = .loop (codeAt c_law05_MsgBytes [true, true, true, true, true, true, true, false, true, false, false]) by kernel_rfl]
  exact loop_ok (envok_law05_MsgBytes N) mixed (Λ := lam_law05_MsgBytes_l1 N) (p := 4084) (obs_ok (l := []) (by kernel_rfl) obsNil) (by kernel_rfl) (by intro rec v; kernel_rfl) N
noncomputable def cut_law05_MsgBytes_p0 : Cut := { tms := [5, 6, 7, 8], sh := (.cons .bool (.cons (.ptr 2000000 0) (.cons (.ptr 2000001 0) (.own 2000002)))), objs := [(2000000, [6], .box (.cons (.int .i64) (.cons .str (.cons .str (.cons .str (.cons .str (.cons .str (.cons .str (.int .i64))))))))), (2000001, [7], .box (.cons (.int .i64) (.cons .str (.cons .str (.cons .str (.cons .str (.cons .str (.cons .str (.int .i64))))))))), (2000002, [8], .sl (.int .u8))], sts := [] }
noncomputable def cut_law05_MsgBytes_p0_o0 : Cut := { tms := [4], sh := .bool, objs := [], sts := [] }
noncomputable def lp_law05_MsgBytes_p0 (N : Nat) : Lp := lpOf cut_law05_MsgBytes_p0 (1, cut_law05_MsgBytes_p0_o0) [] (fun v => law05_MsgBytes_p0 N v.1.1 v.2.1.1 v.2.1.2.1 v.2.1.2.2.1 v.2.1.2.2.2.1 v.2.1.2.2.2.2.1 v.2.1.2.2.2.2.2.1 v.2.1.2.2.2.2.2.2.1 v.2.1.2.2.2.2.2.2.2 v.2.2.1.1 v.2.2.1.2.1 v.2.2.1.2.2.1 v.2.2.1.2.2.2.1 v.2.2.1.2.2.2.2.1 v.2.2.1.2.2.2.2.2.1 v.2.2.1.2.2.2.2.2.2.1 v.2.2.1.2.2.2.2.2.2.2 v.2.2.2.1)
noncomputable def lam_law05_MsgBytes_p0 (N : Nat) : Lps := fun p => bif Nat.beq p 2042 then some (lp_law05_MsgBytes_l1 N) else none
theorem lpok_law05_MsgBytes_p0 (N : Nat) (ro : Option Nat) : LpOk Tryz.prog 88 ro (lp_law05_MsgBytes_p0 N) (codeAt c_law05_MsgBytes [true, true, true, true, true, true, true]) :=
  piece_ok (envok_law05_MsgBytes N) mixed (Λ := lam_law05_MsgBytes_p0 N) (p := 255) (obs_ok (l := [(lp_law05_MsgBytes_l1 N, (codeAt c_law05_MsgBytes [true, true, true, true, true, true, true, false, true, false]))]) (by kernel_rfl) (obsCons (lpok_law05_MsgBytes_l1 N ro) obsNil)) (by kernel_rfl) (by intro v; kernel_rfl)
noncomputable def lam_law05_MsgBytes (N : Nat) : Lps := fun p => bif Nat.beq p 255 then some (lp_law05_MsgBytes_p0 N) else none
noncomputable def ctr_law05_MsgBytes (N : Nat) : Ctr := ctrOf (.cons (.val T_a2_ref05_Raw) (.list (.int .u8))) .bool [] (fun v => law05_MsgBytes N v.1 v.2)
theorem sound_law05_MsgBytes (N : Nat) : SoundF Tryz.prog 6 (fun vs => (ctr_law05_MsgBytes N).run vs some) :=
  fn_sound (envok_law05_MsgBytes N) mixed (Λ := lam_law05_MsgBytes N) (fn := Tryz.f6) (c := c_law05_MsgBytes) Tryz.func6 (by kernel_rfl) (by kernel_rfl) (obs_ok (l := [(lp_law05_MsgBytes_p0 N, (codeAt c_law05_MsgBytes [true, true, true, true, true, true, true]))]) (by kernel_rfl) (obsCons (lpok_law05_MsgBytes_p0 N none) obsNil)) (by kernel_rfl) (by intro v; kernel_rfl)

noncomputable def c_ref05_text : Code := match Tryz.f70.body with | some c => c | none => .skip
noncomputable def tab_ref05_text (_ : Nat) : List (Nat × Ctr) := []
noncomputable def env_ref05_text (N : Nat) : Env := mkEnv tyRows eqRows methRows [] [] (tab_ref05_text N)
theorem envok_ref05_text (N : Nat) : EnvOk Tryz.prog (env_ref05_text N) := mkEnv_ok tyRows_ok eqRows_ok methRows_ok trivial
noncomputable def lam_ref05_text (_ : Nat) : Lps := fun _ => none
noncomputable def ctr_ref05_text (N : Nat) : Ctr := ctrOf (.list (.int .u8)) (.tup (.cons .str (.cons (.list (.int .u8)) .bool))) [] (fun v => ref05_text N v)
theorem sound_ref05_text (N : Nat) : SoundF Tryz.prog 70 (fun vs => (ctr_ref05_text N).run vs some) :=
  fn_sound (envok_ref05_text N) mixed (Λ := lam_ref05_text N) (fn := Tryz.f70) (c := c_ref05_text) Tryz.func70 (by kernel_rfl) (by kernel_rfl) (obs_ok (l := []) (by kernel_rfl) obsNil) (by kernel_rfl) (by intro v; kernel_rfl)

noncomputable def c_ref05_read : Code := match Tryz.f61.body with | some c => c | none => .skip
noncomputable def tab_ref05_read (N : Nat) : List (Nat × Ctr) := [(70, ctr_ref05_text N)]
noncomputable def env_ref05_read (N : Nat) : Env := mkEnv tyRows eqRows methRows [] [] (tab_ref05_read N)
theorem envok_ref05_read (N : Nat) : EnvOk Tryz.prog (env_ref05_read N) := mkEnv_ok tyRows_ok eqRows_ok methRows_ok ⟨sound_ref05_text N, trivial⟩
noncomputable def cut_ref05_read_l0 : Cut := { tms := [0, 1, 4, 7, 8, 9], sh := (.cons (.list (.int .u8)) (.cons (.int .i64) (.cons (.ptr 2000000 0) (.cons (.ptr 2000001 0) (.cons .bool (.int .i64)))))), objs := [(2000000, [4], .box (.cons .str .str)), (2000001, [7], .box (.cons .str .str))], sts := [] }
noncomputable def cut_ref05_read_l0_o0 : Cut := { tms := [0, 4, 7, 8], sh := (.cons (.list (.int .u8)) (.cons (.ptr 2000000 0) (.cons (.ptr 2000001 0) .bool))), objs := [(2000000, [4], .box (.cons .str .str)), (2000001, [7], .box (.cons .str .str))], sts := [] }
noncomputable def lp_ref05_read_l0 (N : Nat) : Lp := lpOf cut_ref05_read_l0 (2, cut_ref05_read_l0_o0) [] (fun v => ref05_read_l0 N N v.1.1 v.1.2.1 v.1.2.2.2.2.1 v.1.2.2.2.2.2 v.2.1.1 v.2.1.2 v.2.2.1.1 v.2.2.1.2)
noncomputable def lam_ref05_read_l0 (_ : Nat) : Lps := fun _ => none
theorem lpok_ref05_read_l0 (N : Nat) (ro : Option Nat) : LpOk Tryz.prog 30 ro (lp_ref05_read_l0 N) (codeAt c_ref05_read [true, true, false, true, false]) := by
  rw [show (codeAt c_ref05_read [true, true, false, true, false]) = .loop (codeAt c_ref05_read [true, true, false, true, false, false]) by kernel_rfl]
  exact loop_ok (envok_ref05_read N) mixed (Λ := lam_ref05_read_l0 N) (p := 116) (obs_ok (l := []) (by kernel_rfl) obsNil) (by kernel_rfl) (by intro rec v; kernel_rfl) N
noncomputable def lam_ref05_read (N : Nat) : Lps := fun p => bif Nat.beq p 58 then some (lp_ref05_read_l0 N) else none
noncomputable def ctr_ref05_read (N : Nat) : Ctr := ctrOf (.cons (.list (.int .u8)) (.int .i64)) (.tup (.cons (.val T_a2_string) (.cons (.list (.int .u8)) .bool))) [] (fun v => ref05_read N v.1 v.2)
theorem sound_ref05_read (N : Nat) : SoundF Tryz.prog 61 (fun vs => (ctr_ref05_read N).run vs some) :=
  fn_sound (envok_ref05_read N) mixed (Λ := lam_ref05_read N) (fn := Tryz.f61) (c := c_ref05_read) Tryz.func61 (by kernel_rfl) (by kernel_rfl) (obs_ok (l := [(lp_ref05_read_l0 N, (codeAt c_ref05_read [true, true, false, true, false]))]) (by kernel_rfl) (obsCons (lpok_ref05_read_l0 N none) obsNil)) (by kernel_rfl) (by intro v; kernel_rfl)

noncomputable def c_ref05_Parse : Code := match Tryz.f31.body with | some c => c | none => .skip
noncomputable def tab_ref05_Parse (N : Nat) : List (Nat × Ctr) := [(61, ctr_ref05_read N), (15, ctr_ref05_Valid N)]
noncomputable def env_ref05_Parse (N : Nat) : Env := mkEnv tyRows eqRows methRows [] [] (tab_ref05_Parse N)
theorem envok_ref05_Parse (N : Nat) : EnvOk Tryz.prog (env_ref05_Parse N) := mkEnv_ok tyRows_ok eqRows_ok methRows_ok ⟨sound_ref05_read N, ⟨sound_ref05_Valid N, trivial⟩⟩
noncomputable def cut_ref05_Parse_l3 : Cut := { tms := [0, 2, 5, 8, 10], sh := (.cons (.list (.int .u8)) (.cons (.ptr 2000000 0) (.cons (.ptr 2000001 0) (.cons (.list (.int .u8)) (.int .i64))))), objs := [(2000000, [2], .box (.cons (.int .i64) (.cons .str (.cons .str (.cons .str (.cons .str (.cons .str (.cons .str (.int .i64))))))))), (2000001, [5], .box (.cons (.int .i64) (.cons .str (.cons .str (.cons .str (.cons .str (.cons .str (.cons .str (.int .i64)))))))))], sts := [] }
noncomputable def cut_ref05_Parse_l3_o0 : Cut := { tms := [0, 2, 5, 8], sh := (.cons (.list (.int .u8)) (.cons (.ptr 2000000 0) (.cons (.ptr 2000001 0) (.list (.int .u8))))), objs := [(2000000, [2], .box (.cons (.int .i64) (.cons .str (.cons .str (.cons .str (.cons .str (.cons .str (.cons .str (.int .i64))))))))), (2000001, [5], .box (.cons (.int .i64) (.cons .str (.cons .str (.cons .str (.cons .str (.cons .str (.cons .str (.int .i64)))))))))], sts := [] }
noncomputable def lp_ref05_Parse_l3 (N : Nat) : Lp := lpOf cut_ref05_Parse_l3 (3, cut_ref05_Parse_l3_o0) [] (fun v => ref05_Parse_l3 N N v.1.1 v.1.2.2.2.1 v.1.2.2.2.2 v.2.1.1 v.2.1.2.1 v.2.1.2.2.1 v.2.1.2.2.2.1 v.2.1.2.2.2.2.1 v.2.1.2.2.2.2.2.1 v.2.1.2.2.2.2.2.2.1 v.2.1.2.2.2.2.2.2.2 v.2.2.1.1 v.2.2.1.2.1 v.2.2.1.2.2.1 v.2.2.1.2.2.2.1 v.2.2.1.2.2.2.2.1 v.2.2.1.2.2.2.2.2.1 v.2.2.1.2.2.2.2.2.2.1 v.2.2.1.2.2.2.2.2.2.2)
noncomputable def lam_ref05_Parse_l3 (_ : Nat) : Lps := fun _ => none
theorem lpok_ref05_Parse_l3 (N : Nat) (ro : Option Nat) : LpOk Tryz.prog 102 ro (lp_ref05_Parse_l3 N) (codeAt c_ref05_Parse [true, true, true, true, true, true, true, false, true, false, true, false, true, false]) := by
  rw [show (codeAt c_ref05_Parse [true, true, true, true, true, true, true, false, true, false, true, false, true, false]) = .loop (codeAt c_ref05_Parse [true, true, true, true, true, true, true, false, true, false, true, false, true, false, false]) by kernel_rfl]
  exact loop_ok (envok_ref05_Parse N) mixed (Λ := lam_ref05_Parse_l3 N) (p := 65364) (obs_ok (l := []) (by kernel_rfl) obsNil) (by kernel_rfl) (by intro rec v; kernel_rfl) N
noncomputable def cut_ref05_Parse_p2 : Cut := { tms := [0, 2, 5, 8], sh := (.cons (.list (.int .u8)) (.cons (.ptr 2000000 0) (.cons (.ptr 2000001 0) (.list (.int .u8))))), objs := [(2000000, [2], .box (.cons (.int .i64) (.cons .str (.cons .str (.cons .str (.cons .str (.cons .str (.cons .str (.int .i64))))))))), (2000001, [5], .box (.cons (.int .i64) (.cons .str (.cons .str (.cons .str (.cons .str (.cons .str (.cons .str (.int .i64)))))))))], sts := [] }
noncomputable def cut_ref05_Parse_p2_o0 : Cut := { tms := [2, 3, 4], sh := (.cons (.ptr 2000000 0) (.cons (.int .i64) (.int .i64))), objs := [(2000000, [2], .box (.cons (.int .i64) (.cons .str (.cons .str (.cons .str (.cons .str (.cons .str (.cons .str (.int .i64)))))))))], sts := [] }
noncomputable def lp_ref05_Parse_p2 (N : Nat) : Lp := lpOf cut_ref05_Parse_p2 (1, cut_ref05_Parse_p2_o0) [] (fun v => ref05_Parse_p2 N v.1.1 v.1.2.2.2 v.2.1.1 v.2.1.2.1 v.2.1.2.2.1 v.2.1.2.2.2.1 v.2.1.2.2.2.2.1 v.2.1.2.2.2.2.2.1 v.2.1.2.2.2.2.2.2.1 v.2.1.2.2.2.2.2.2.2 v.2.2.1.1 v.2.2.1.2.1 v.2.2.1.2.2.1 v.2.2.1.2.2.2.1 v.2.2.1.2.2.2.2.1 v.2.2.1.2.2.2.2.2.1 v.2.2.1.2.2.2.2.2.2.1 v.2.2.1.2.2.2.2.2.2.2)
noncomputable def lam_ref05_Parse_p2 (_ : Nat) : Lps := fun _ => none
theorem lpok_ref05_Parse_p2 (N : Nat) (ro : Option Nat) : LpOk Tryz.prog 102 ro (lp_ref05_Parse_p2 N) (codeAt c_ref05_Parse [true, true, true, true, true, true, true, true]) :=
  piece_ok (envok_ref05_Parse N) mixed (Λ := lam_ref05_Parse_p2 N) (p := 511) (obs_ok (l := []) (by kernel_rfl) obsNil) (by kernel_rfl) (by intro v; kernel_rfl)
noncomputable def cut_ref05_Parse_p1 : Cut := { tms := [0, 2, 5, 8], sh := (.cons (.list (.int .u8)) (.cons (.ptr 2000000 0) (.cons (.ptr 2000001 0) (.list (.int .u8))))), objs := [(2000000, [2], .box (.cons (.int .i64) (.cons .str (.cons .str (.cons .str (.cons .str (.cons .str (.cons .str (.int .i64))))))))), (2000001, [5], .box (.cons (.int .i64) (.cons .str (.cons .str (.cons .str (.cons .str (.cons .str (.cons .str (.int .i64)))))))))], sts := [] }
noncomputable def cut_ref05_Parse_p1_o0 : Cut := { tms := [2, 3, 4], sh := (.cons (.ptr 2000000 0) (.cons (.int .i64) (.int .i64))), objs := [(2000000, [2], .box (.cons (.int .i64) (.cons .str (.cons .str (.cons .str (.cons .str (.cons .str (.cons .str (.int .i64)))))))))], sts := [] }
noncomputable def lp_ref05_Parse_p1 (N : Nat) : Lp := lpOf cut_ref05_Parse_p1 (1, cut_ref05_Parse_p1_o0) [] (fun v => ref05_Parse_p1 N v.1.1 v.1.2.2.2 v.2.1.1 v.2.1.2.1 v.2.1.2.2.1 v.2.1.2.2.2.1 v.2.1.2.2.2.2.1 v.2.1.2.2.2.2.2.1 v.2.1.2.2.2.2.2.2.1 v.2.1.2.2.2.2.2.2.2 v.2.2.1.1 v.2.2.1.2.1 v.2.2.1.2.2.1 v.2.2.1.2.2.2.1 v.2.2.1.2.2.2.2.1 v.2.2.1.2.2.2.2.2.1 v.2.2.1.2.2.2.2.2.2.1 v.2.2.1.2.2.2.2.2.2.2)
noncomputable def lam_ref05_Parse_p1 (N : Nat) : Lps := fun p => bif Nat.beq p 511 then some (lp_ref05_Parse_p2 N) else bif Nat.beq p 32682 then some (lp_ref05_Parse_l3 N) else none
theorem lpok_ref05_Parse_p1 (N : Nat) (ro : Option Nat) : LpOk Tryz.prog 102 ro (lp_ref05_Parse_p1 N) (codeAt c_ref05_Parse [true, true, true, true, true, true, true]) :=
  piece_ok (envok_ref05_Parse N) mixed (Λ := lam_ref05_Parse_p1 N) (p := 255) (obs_ok (l := [(lp_ref05_Parse_l3 N, (codeAt c_ref05_Parse [true, true, true, true, true, true, true, false, true, false, true, false, true, false])), (lp_ref05_Parse_p2 N, (codeAt c_ref05_Parse [true, true, true, true, true, true, true, true]))]) (by kernel_rfl) (obsCons (lpok_ref05_Parse_l3 N ro) (obsCons (lpok_ref05_Parse_p2 N ro) obsNil))) (by kernel_rfl) (by intro v; kernel_rfl)
noncomputable def cut_ref05_Parse_p0 : Cut := { tms := [0, 2, 5, 6], sh := (.cons (.list (.int .u8)) (.cons (.ptr 2000000 0) (.cons (.ptr 2000001 0) (.int .i64)))), objs := [(2000000, [2], .box (.cons (.int .i64) (.cons .str (.cons .str (.cons .str (.cons .str (.cons .str (.cons .str (.int .i64))))))))), (2000001, [5], .box (.cons (.int .i64) (.cons .str (.cons .str (.cons .str (.cons .str (.cons .str (.cons .str (.int .i64)))))))))], sts := [] }
noncomputable def cut_ref05_Parse_p0_o0 : Cut := { tms := [2, 3, 4], sh := (.cons (.ptr 2000000 0) (.cons (.int .i64) (.int .i64))), objs := [(2000000, [2], .box (.cons (.int .i64) (.cons .str (.cons .str (.cons .str (.cons .str (.cons .str (.cons .str (.int .i64)))))))))], sts := [] }
noncomputable def lp_ref05_Parse_p0 (N : Nat) : Lp := lpOf cut_ref05_Parse_p0 (1, cut_ref05_Parse_p0_o0) [] (fun v => ref05_Parse_p0 N v.1.1 v.1.2.2.2 v.2.1.1 v.2.1.2.1 v.2.1.2.2.1 v.2.1.2.2.2.1 v.2.1.2.2.2.2.1 v.2.1.2.2.2.2.2.1 v.2.1.2.2.2.2.2.2.1 v.2.1.2.2.2.2.2.2.2 v.2.2.1.1 v.2.2.1.2.1 v.2.2.1.2.2.1 v.2.2.1.2.2.2.1 v.2.2.1.2.2.2.2.1 v.2.2.1.2.2.2.2.2.1 v.2.2.1.2.2.2.2.2.2.1 v.2.2.1.2.2.2.2.2.2.2)
noncomputable def lam_ref05_Parse_p0 (N : Nat) : Lps := fun p => bif Nat.beq p 255 then some (lp_ref05_Parse_p1 N) else none
theorem lpok_ref05_Parse_p0 (N : Nat) (ro : Option Nat) : LpOk Tryz.prog 102 ro (lp_ref05_Parse_p0 N) (codeAt c_ref05_Parse [true, true, true, true]) :=
  piece_ok (envok_ref05_Parse N) mixed (Λ := lam_ref05_Parse_p0 N) (p := 31) (obs_ok (l := [(lp_ref05_Parse_p1 N, (codeAt c_ref05_Parse [true, true, true, true, true, true, true]))]) (by kernel_rfl) (obsCons (lpok_ref05_Parse_p1 N ro) obsNil)) (by kernel_rfl) (by intro v; kernel_rfl)
noncomputable def lam_ref05_Parse (N : Nat) : Lps := fun p => bif Nat.beq p 31 then some (lp_ref05_Parse_p0 N) else none
noncomputable def ctr_ref05_Parse (N : Nat) : Ctr := ctrOf (.list (.int .u8)) (.tup (.cons (.val T_api_Msg) (.cons (.int .i64) (.int .i64)))) [] (fun v => ref05_Parse N v)
theorem sound_ref05_Parse (N : Nat) : SoundF Tryz.prog 31 (fun vs => (ctr_ref05_Parse N).run vs some) :=
  fn_sound (envok_ref05_Parse N) mixed (Λ := lam_ref05_Parse N) (fn := Tryz.f31) (c := c_ref05_Parse) Tryz.func31 (by kernel_rfl) (by kernel_rfl) (obs_ok (l := [(lp_ref05_Parse_p0 N, (codeAt c_ref05_Parse [true, true, true, true]))]) (by kernel_rfl) (obsCons (lpok_ref05_Parse_p0 N none) obsNil)) (by kernel_rfl) (by intro v; kernel_rfl)

noncomputable def c_law05_MsgParses : Code := match Tryz.f7.body with | some c => c | none => .skip
noncomputable def tab_law05_MsgParses (N : Nat) : List (Nat × Ctr) := [(12, ctr_law05_sanity N), (13, ctr_ref05_Made N), (18, ctr_ref05_Bytes N), (30, ctr_msg_Parse N), (31, ctr_ref05_Parse N), (17, ctr_msg_Bytes N), (16, ctr_ref05_SameBytes N)]
noncomputable def env_law05_MsgParses (N : Nat) : Env := mkEnv tyRows eqRows methRows [(7, [27]), (9, [55])] [] (tab_law05_MsgParses N)
theorem envok_law05_MsgParses (N : Nat) : EnvOk Tryz.prog (env_law05_MsgParses N) := mkEnv_ok tyRows_ok eqRows_ok methRows_ok ⟨sound_law05_sanity N, ⟨sound_ref05_Made N, ⟨sound_ref05_Bytes N, ⟨sound_msg_Parse N, ⟨sound_ref05_Parse N, ⟨sound_msg_Bytes N, ⟨sound_ref05_SameBytes N, trivial⟩⟩⟩⟩⟩⟩⟩
noncomputable def cut_law05_MsgParses_p2 : Cut := { tms := [7, 12, 13, 109], sh := (.cons .bool (.cons (.own 2000000) (.cons (.int .i64) .bool))), objs := [(2000000, [12], .sl (.list (.int .u8)))], sts := [] }
noncomputable def cut_law05_MsgParses_p2_o0 : Cut := { tms := [6], sh := .bool, objs := [], sts := [] }
noncomputable def cut_law05_MsgParses_p2_o1 : Cut := { tms := [7, 12, 13], sh := (.cons .bool (.cons (.own 2000000) (.int .i64))), objs := [(2000000, [12], .sl (.list (.int .u8)))], sts := [] }
noncomputable def lp_law05_MsgParses_p2 (N : Nat) : Lp := lpOf cut_law05_MsgParses_p2 (1, cut_law05_MsgParses_p2_o0) [(0, cut_law05_MsgParses_p2_o1)] (fun v => law05_MsgParses_p2 N v.1.1 v.1.2.2.1 v.1.2.2.2 v.2.1)
noncomputable def lam_law05_MsgParses_p2 (_ : Nat) : Lps := fun _ => none
theorem lpok_law05_MsgParses_p2 (N : Nat) (ro : Option Nat) : LpOk Tryz.prog 111 ro (lp_law05_MsgParses_p2 N) (codeAt c_law05_MsgParses [true, true, true, true, true, true, true, true, true, false, true, false, false, true, false, false, true, true, true]) :=
  piece_ok (envok_law05_MsgParses N) mixed (Λ := lam_law05_MsgParses_p2 N) (p := 1047847) (obs_ok (l := []) (by kernel_rfl) obsNil) (by kernel_rfl) (by intro v; kernel_rfl)
noncomputable def cut_law05_MsgParses_p1 : Cut := { tms := [7, 12, 13], sh := (.cons .bool (.cons (.own 2000000) (.int .i64))), objs := [(2000000, [12], .sl (.list (.int .u8)))], sts := [] }
noncomputable def cut_law05_MsgParses_p1_o0 : Cut := { tms := [7, 12, 13], sh := (.cons .bool (.cons (.own 2000000) (.int .i64))), objs := [(2000000, [12], .sl (.list (.int .u8)))], sts := [] }
noncomputable def lp_law05_MsgParses_p1 (N : Nat) : Lp := lpOf cut_law05_MsgParses_p1 (0, cut_law05_MsgParses_p1_o0) [] (fun v => law05_MsgParses_p1 N v.1.1 v.1.2.2 v.2.1)
noncomputable def lam_law05_MsgParses_p1 (_ : Nat) : Lps := fun _ => none
theorem lpok_law05_MsgParses_p1 (N : Nat) (ro : Option Nat) : LpOk Tryz.prog 111 ro (lp_law05_MsgParses_p1 N) (codeAt c_law05_MsgParses [true, true, true, true, true, true, true, true, true, false, true, false, false, true, true]) :=
  piece_ok (envok_law05_MsgParses N) mixed (Λ := lam_law05_MsgParses_p1 N) (p := 65491) (obs_ok (l := []) (by kernel_rfl) obsNil) (by kernel_rfl) (by intro v; kernel_rfl)
noncomputable def cut_law05_MsgParses_l0 : Cut := { tms := [7, 12, 13], sh := (.cons .bool (.cons (.own 2000000) (.int .i64))), objs := [(2000000, [12], .sl (.list (.int .u8)))], sts := [] }
noncomputable def cut_law05_MsgParses_l0_o0 : Cut := { tms := [6], sh := .bool, objs := [], sts := [] }
noncomputable def cut_law05_MsgParses_l0_o1 : Cut := { tms := [7], sh := .bool, objs := [], sts := [] }
noncomputable def lp_law05_MsgParses_l0 (N : Nat) : Lp := lpOf cut_law05_MsgParses_l0 (1, cut_law05_MsgParses_l0_o0) [(2, cut_law05_MsgParses_l0_o1)] (fun v => law05_MsgParses_l0 N N v.1.1 v.1.2.2 v.2.1)
noncomputable def lam_law05_MsgParses_l0 (N : Nat) : Lps := fun p => bif Nat.beq p 65491 then some (lp_law05_MsgParses_p1 N) else bif Nat.beq p 1047847 then some (lp_law05_MsgParses_p2 N) else none
theorem lpok_law05_MsgParses_l0 (N : Nat) (ro : Option Nat) : LpOk Tryz.prog 111 ro (lp_law05_MsgParses_l0 N) (codeAt c_law05_MsgParses [true, true, true, true, true, true, true, true, true, false, true, false]) := by
  rw [show (codeAt c_law05_MsgParses [true, true, true, true, true, true, true, true, true, false, true, false]) = .loop (codeAt c_law05_MsgParses [true, true, true, true, true, true, true, true, true, false, true, false, false]) by kernel_rfl]
  exact loop_ok (envok_law05_MsgParses N) mixed (Λ := lam_law05_MsgParses_l0 N) (p := 16372) (obs_ok (l := [(lp_law05_MsgParses_p2 N, (codeAt c_law05_MsgParses [true, true, true, true, true, true, true, true, true, false, true, false, false, true, false, false, true, true, true])), (lp_law05_MsgParses_p1 N, (codeAt c_law05_MsgParses [true, true, true, true, true, true, true, true, true, false, true, false, false, true, true]))]) (by kernel_rfl) (obsCons (lpok_law05_MsgParses_p2 N ro) (obsCons (lpok_law05_MsgParses_p1 N ro) obsNil))) (by kernel_rfl) (by intro rec v; kernel_rfl) N
noncomputable def lam_law05_MsgParses (N : Nat) : Lps := fun p => bif Nat.beq p 8186 then some (lp_law05_MsgParses_l0 N) else none
noncomputable def ctr_law05_MsgParses (N : Nat) : Ctr := ctrOf (.cons (.val T_ref05_Raw) (.cons (.list (.int .u8)) (.val T_a2_uint8))) .bool [] (fun v => law05_MsgParses N v.1 v.2.1 v.2.2)
theorem sound_law05_MsgParses (N : Nat) : SoundF Tryz.prog 7 (fun vs => (ctr_law05_MsgParses N).run vs some) :=
  fn_sound (envok_law05_MsgParses N) mixed (Λ := lam_law05_MsgParses N) (fn := Tryz.f7) (c := c_law05_MsgParses) Tryz.func7 (by kernel_rfl) (by kernel_rfl) (obs_ok (l := [(lp_law05_MsgParses_l0 N, (codeAt c_law05_MsgParses [true, true, true, true, true, true, true, true, true, false, true, false]))]) (by kernel_rfl) (obsCons (lpok_law05_MsgParses_l0 N none) obsNil)) (by kernel_rfl) (by intro v; kernel_rfl)

noncomputable def c_ref05_List : Code := match Tryz.f32.body with | some c => c | none => .skip
noncomputable def tab_ref05_List (N : Nat) : List (Nat × Ctr) := [(13, ctr_ref05_Made N)]
noncomputable def env_ref05_List (N : Nat) : Env := mkEnv tyRows eqRows methRows [] [] (tab_ref05_List N)
theorem envok_ref05_List (N : Nat) : EnvOk Tryz.prog (env_ref05_List N) := mkEnv_ok tyRows_ok eqRows_ok methRows_ok ⟨sound_ref05_Made N, trivial⟩
noncomputable def cut_ref05_List_l0 : Cut := { tms := [0, 1, 5, 6], sh := (.cons (.list T_ref05_Raw) (.cons (.int .i64) (.cons (.own 2000000) (.int .i64)))), objs := [(2000000, [5], .sl T_api_Msg)], sts := [] }
noncomputable def cut_ref05_List_l0_o0 : Cut := { tms := [5], sh := (.own 2000000), objs := [(2000000, [5], .sl T_api_Msg)], sts := [] }
noncomputable def lp_ref05_List_l0 (N : Nat) : Lp := lpOf cut_ref05_List_l0 (2, cut_ref05_List_l0_o0) [] (fun v => ref05_List_l0 N N v.1.1 v.1.2.1 v.1.2.2.2 v.2.1)
noncomputable def lam_ref05_List_l0 (_ : Nat) : Lps := fun _ => none
theorem lpok_ref05_List_l0 (N : Nat) (ro : Option Nat) : LpOk Tryz.prog 28 ro (lp_ref05_List_l0 N) (codeAt c_ref05_List [true, true, false, true, false]) := by
  rw [show (codeAt c_ref05_List [true, true, false, true, false]) = .loop (codeAt c_ref05_List [true, true, false, true, false, false]) by kernel_rfl]
  exact loop_ok (envok_ref05_List N) mixed (Λ := lam_ref05_List_l0 N) (p := 116) (obs_ok (l := []) (by kernel_rfl) obsNil) (by kernel_rfl) (by intro rec v; kernel_rfl) N
noncomputable def lam_ref05_List (N : Nat) : Lps := fun p => bif Nat.beq p 58 then some (lp_ref05_List_l0 N) else none
noncomputable def ctr_ref05_List (N : Nat) : Ctr := ctrOf (.cons (.list T_ref05_Raw) (.int .i64)) (.fresh T_api_Msg) [] (fun v => ref05_List N v.1 v.2)
theorem sound_ref05_List (N : Nat) : SoundF Tryz.prog 32 (fun vs => (ctr_ref05_List N).run vs some) :=
  fn_sound (envok_ref05_List N) mixed (Λ := lam_ref05_List N) (fn := Tryz.f32) (c := c_ref05_List) Tryz.func32 (by kernel_rfl) (by kernel_rfl) (obs_ok (l := [(lp_ref05_List_l0 N, (codeAt c_ref05_List [true, true, false, true, false]))]) (by kernel_rfl) (obsCons (lpok_ref05_List_l0 N none) obsNil)) (by kernel_rfl) (by intro v; kernel_rfl)

noncomputable def c_msg_All : Code := match Tryz.f33.body with | some c => c | none => .skip
noncomputable def tab_msg_All (N : Nat) : List (Nat × Ctr) := [(21, ctr_msg_Apply N)]
noncomputable def env_msg_All (N : Nat) : Env := mkEnv tyRows eqRows methRows [] [] (tab_msg_All N)
theorem envok_msg_All (N : Nat) : EnvOk Tryz.prog (env_msg_All N) := mkEnv_ok tyRows_ok eqRows_ok methRows_ok ⟨sound_msg_Apply N, trivial⟩
noncomputable def cut_msg_All_l0 : Cut := { tms := [0, 7, 8, 9], sh := (.cons (.list T_api_Pair) (.cons (.list T_api_Msg) (.cons (.int .i64) (.int .i64)))), objs := [], sts := [] }
noncomputable def cut_msg_All_l0_o0 : Cut := { tms := [0], sh := (.list T_api_Pair), objs := [], sts := [] }
noncomputable def lp_msg_All_l0 (N : Nat) : Lp := lpOf cut_msg_All_l0 (2, cut_msg_All_l0_o0) [] (fun v => msg_All_l0 N N v.1.1 v.1.2.1 v.1.2.2.1 v.1.2.2.2)
noncomputable def lam_msg_All_l0 (_ : Nat) : Lps := fun _ => none
theorem lpok_msg_All_l0 (N : Nat) (ro : Option Nat) : LpOk Tryz.prog 18 ro (lp_msg_All_l0 N) (codeAt c_msg_All [true, false, true, false]) := by
  rw [show (codeAt c_msg_All [true, false, true, false]) = .loop (codeAt c_msg_All [true, false, true, false, false]) by kernel_rfl]
  exact loop_ok (envok_msg_All N) mixed (Λ := lam_msg_All_l0 N) (p := 52) (obs_ok (l := []) (by kernel_rfl) obsNil) (by kernel_rfl) (by intro rec v; kernel_rfl) N
noncomputable def lam_msg_All (N : Nat) : Lps := fun p => bif Nat.beq p 26 then some (lp_msg_All_l0 N) else none
noncomputable def ctr_msg_All (N : Nat) : Ctr := ctrOf (.cons (.list T_api_Pair) (.list T_api_Msg)) (.list T_api_Pair) [] (fun v => msg_All N v.1 v.2)
theorem sound_msg_All (N : Nat) : SoundF Tryz.prog 33 (fun vs => (ctr_msg_All N).run vs some) :=
  fn_sound (envok_msg_All N) mixed (Λ := lam_msg_All N) (fn := Tryz.f33) (c := c_msg_All) Tryz.func33 (by kernel_rfl) (by kernel_rfl) (obs_ok (l := [(lp_msg_All_l0 N, (codeAt c_msg_All [true, false, true, false]))]) (by kernel_rfl) (obsCons (lpok_msg_All_l0 N none) obsNil)) (by kernel_rfl) (by intro v; kernel_rfl)

noncomputable def c_ref02_Moved : Code := match Tryz.f63.body with | some c => c | none => .skip
noncomputable def tab_ref02_Moved (N : Nat) : List (Nat × Ctr) := [(47, ctr_ref02_Begins N)]
noncomputable def env_ref02_Moved (N : Nat) : Env := mkEnv tyRows eqRows methRows [] [] (tab_ref02_Moved N)
theorem envok_ref02_Moved (N : Nat) : EnvOk Tryz.prog (env_ref02_Moved N) := mkEnv_ok tyRows_ok eqRows_ok methRows_ok ⟨sound_ref02_Begins N, trivial⟩
noncomputable def lam_ref02_Moved (_ : Nat) : Lps := fun _ => none
noncomputable def ctr_ref02_Moved (N : Nat) : Ctr := ctrOf (.cons .str (.cons .str .str)) (.tup (.cons .str .bool)) [] (fun v => ref02_Moved N v.1 v.2.1 v.2.2)
theorem sound_ref02_Moved (N : Nat) : SoundF Tryz.prog 63 (fun vs => (ctr_ref02_Moved N).run vs some) :=
  fn_sound (envok_ref02_Moved N) mixed (Λ := lam_ref02_Moved N) (fn := Tryz.f63) (c := c_ref02_Moved) Tryz.func63 (by kernel_rfl) (by kernel_rfl) (obs_ok (l := []) (by kernel_rfl) obsNil) (by kernel_rfl) (by intro v; kernel_rfl)

noncomputable def c_ref05_Apply : Code := match Tryz.f35.body with | some c => c | none => .skip
noncomputable def tab_ref05_Apply (N : Nat) : List (Nat × Ctr) := [(54, ctr_ref05_Insert N), (44, ctr_ref02_One N), (23, ctr_ref05_Without N), (62, ctr_ref02_Has N), (42, ctr_ref02_Prefix N), (28, ctr_ref05_Within N), (63, ctr_ref02_Moved N)]
noncomputable def env_ref05_Apply (N : Nat) : Env := mkEnv tyRows eqRows methRows [] [] (tab_ref05_Apply N)
theorem envok_ref05_Apply (N : Nat) : EnvOk Tryz.prog (env_ref05_Apply N) := mkEnv_ok tyRows_ok eqRows_ok methRows_ok ⟨sound_ref05_Insert N, ⟨sound_ref02_One N, ⟨sound_ref05_Without N, ⟨sound_ref02_Has N, ⟨sound_ref02_Prefix N, ⟨sound_ref05_Within N, ⟨sound_ref02_Moved N, trivial⟩⟩⟩⟩⟩⟩⟩
noncomputable def cut_ref05_Apply_l1 : Cut := { tms := [3, 5, 6], sh := (.cons (.ptr 2000000 0) (.cons (.own 2000001) (.int .i64))), objs := [(2000000, [3], .box (.cons (.int .i64) (.cons .str (.cons .str (.cons .str (.cons .str (.cons .str (.cons .str (.int .i64))))))))), (2000001, [5], .sl T_api_Pair)], sts := [] }
noncomputable def cut_ref05_Apply_l1_o0 : Cut := { tms := [5], sh := (.own 2000000), objs := [(2000000, [5], .sl T_api_Pair)], sts := [] }
noncomputable def lp_ref05_Apply_l1 (N : Nat) : Lp := lpOf cut_ref05_Apply_l1 (3, cut_ref05_Apply_l1_o0) [] (fun v => ref05_Apply_l1 N N v.1.2.2 v.2.1.1 v.2.1.2.1 v.2.1.2.2.1 v.2.1.2.2.2.1 v.2.1.2.2.2.2.1 v.2.1.2.2.2.2.2.1 v.2.1.2.2.2.2.2.2.1 v.2.1.2.2.2.2.2.2.2 v.2.2.1)
noncomputable def lam_ref05_Apply_l1 (_ : Nat) : Lps := fun _ => none
theorem lpok_ref05_Apply_l1 (N : Nat) (ro : Option Nat) : LpOk Tryz.prog 121 ro (lp_ref05_Apply_l1 N) (codeAt c_ref05_Apply [true, false, true, false, true, true, true, true, true, true, true, false, true, false, true, false]) := by
  rw [show (codeAt c_ref05_Apply [true, false, true, false, true, true, true, true, true, true, true, false, true, false, true, false]) = .loop (codeAt c_ref05_Apply [true, false, true, false, true, true, true, true, true, true, true, false, true, false, true, false, false]) by kernel_rfl]
  exact loop_ok (envok_ref05_Apply N) mixed (Λ := lam_ref05_Apply_l1 N) (p := 221140) (obs_ok (l := []) (by kernel_rfl) obsNil) (by kernel_rfl) (by intro rec v; kernel_rfl) N
noncomputable def cut_ref05_Apply_l0 : Cut := { tms := [3, 7, 8, 9], sh := (.cons (.ptr 2000000 0) (.cons (.own 2000001) (.cons (.own 2000002) (.int .i64)))), objs := [(2000000, [3], .box (.cons (.int .i64) (.cons .str (.cons .str (.cons .str (.cons .str (.cons .str (.cons .str (.int .i64))))))))), (2000001, [7], .sl T_api_Pair), (2000002, [8], .sl T_api_Pair)], sts := [] }
noncomputable def cut_ref05_Apply_l0_o0 : Cut := { tms := [7], sh := (.own 2000000), objs := [(2000000, [7], .sl T_api_Pair)], sts := [] }
noncomputable def lp_ref05_Apply_l0 (N : Nat) : Lp := lpOf cut_ref05_Apply_l0 (5, cut_ref05_Apply_l0_o0) [] (fun v => ref05_Apply_l0 N N v.1.2.2.2 v.2.1.1 v.2.1.2.1 v.2.1.2.2.1 v.2.1.2.2.2.1 v.2.1.2.2.2.2.1 v.2.1.2.2.2.2.2.1 v.2.1.2.2.2.2.2.2.1 v.2.1.2.2.2.2.2.2.2 v.2.2.1 v.2.2.2.1)
noncomputable def lam_ref05_Apply_l0 (_ : Nat) : Lps := fun _ => none
theorem lpok_ref05_Apply_l0 (N : Nat) (ro : Option Nat) : LpOk Tryz.prog 121 ro (lp_ref05_Apply_l0 N) (codeAt c_ref05_Apply [true, true, true, true, false, true, false]) := by
  rw [show (codeAt c_ref05_Apply [true, true, true, true, false, true, false]) = .loop (codeAt c_ref05_Apply [true, true, true, true, false, true, false, false]) by kernel_rfl]
  exact loop_ok (envok_ref05_Apply N) mixed (Λ := lam_ref05_Apply_l0 N) (p := 500) (obs_ok (l := []) (by kernel_rfl) obsNil) (by kernel_rfl) (by intro rec v; kernel_rfl) N
noncomputable def lam_ref05_Apply (N : Nat) : Lps := fun p => bif Nat.beq p 250 then some (lp_ref05_Apply_l0 N) else bif Nat.beq p 110570 then some (lp_ref05_Apply_l1 N) else none
noncomputable def ctr_ref05_Apply (N : Nat) : Ctr := ctrOf (.cons (.list T_api_Pair) (.val T_api_Msg)) (.fresh T_api_Pair) [] (fun v => ref05_Apply N v.1 v.2)
theorem sound_ref05_Apply (N : Nat) : SoundF Tryz.prog 35 (fun vs => (ctr_ref05_Apply N).run vs some) :=
  fn_sound (envok_ref05_Apply N) mixed (Λ := lam_ref05_Apply N) (fn := Tryz.f35) (c := c_ref05_Apply) Tryz.func35 (by kernel_rfl) (by kernel_rfl) (obs_ok (l := [(lp_ref05_Apply_l1 N, (codeAt c_ref05_Apply [true, false, true, false, true, true, true, true, true, true, true, false, true, false, true, false])), (lp_ref05_Apply_l0 N, (codeAt c_ref05_Apply [true, true, true, true, false, true, false]))]) (by kernel_rfl) (obsCons (lpok_ref05_Apply_l1 N none) (obsCons (lpok_ref05_Apply_l0 N none) obsNil))) (by kernel_rfl) (by intro v; kernel_rfl)

noncomputable def c_ref05_All : Code := match Tryz.f34.body with | some c => c | none => .skip
noncomputable def tab_ref05_All (N : Nat) : List (Nat × Ctr) := [(35, ctr_ref05_Apply N)]
noncomputable def env_ref05_All (N : Nat) : Env := mkEnv tyRows eqRows methRows [] [] (tab_ref05_All N)
theorem envok_ref05_All (N : Nat) : EnvOk Tryz.prog (env_ref05_All N) := mkEnv_ok tyRows_ok eqRows_ok methRows_ok ⟨sound_ref05_Apply N, trivial⟩
noncomputable def cut_ref05_All_l0 : Cut := { tms := [0, 1, 5], sh := (.cons (.list T_api_Pair) (.cons (.list T_api_Msg) (.int .i64))), objs := [], sts := [17] }
noncomputable def cut_ref05_All_l0_o0 : Cut := { tms := [0], sh := (.list T_api_Pair), objs := [], sts := [] }
noncomputable def lp_ref05_All_l0 (N : Nat) : Lp := lpOf cut_ref05_All_l0 (2, cut_ref05_All_l0_o0) [] (fun v => ref05_All_l0 N N v.1.1 v.1.2.1 v.1.2.2)
noncomputable def lam_ref05_All_l0 (_ : Nat) : Lps := fun _ => none
theorem lpok_ref05_All_l0 (N : Nat) (ro : Option Nat) : LpOk Tryz.prog 19 ro (lp_ref05_All_l0 N) (codeAt c_ref05_All [true, false, true, false]) := by
  rw [show (codeAt c_ref05_All [true, false, true, false]) = .loop (codeAt c_ref05_All [true, false, true, false, false]) by kernel_rfl]
  exact loop_ok (envok_ref05_All N) mixed (Λ := lam_ref05_All_l0 N) (p := 52) (obs_ok (l := []) (by kernel_rfl) obsNil) (by kernel_rfl) (by intro rec v; kernel_rfl) N
noncomputable def lam_ref05_All (N : Nat) : Lps := fun p => bif Nat.beq p 26 then some (lp_ref05_All_l0 N) else none
noncomputable def ctr_ref05_All (N : Nat) : Ctr := ctrOf (.cons (.list T_api_Pair) (.list T_api_Msg)) (.list T_api_Pair) [] (fun v => ref05_All N v.1 v.2)
theorem sound_ref05_All (N : Nat) : SoundF Tryz.prog 34 (fun vs => (ctr_ref05_All N).run vs some) :=
  fn_sound (envok_ref05_All N) mixed (Λ := lam_ref05_All N) (fn := Tryz.f34) (c := c_ref05_All) Tryz.func34 (by kernel_rfl) (by kernel_rfl) (obs_ok (l := [(lp_ref05_All_l0 N, (codeAt c_ref05_All [true, false, true, false]))]) (by kernel_rfl) (obsCons (lpok_ref05_All_l0 N none) obsNil)) (by kernel_rfl) (by intro v; kernel_rfl)

noncomputable def c_ref05_Reads : Code := match Tryz.f37.body with | some c => c | none => .skip
noncomputable def tab_ref05_Reads (N : Nat) : List (Nat × Ctr) := [(42, ctr_ref02_Prefix N)]
noncomputable def env_ref05_Reads (N : Nat) : Env := mkEnv tyRows eqRows methRows [] [] (tab_ref05_Reads N)
theorem envok_ref05_Reads (N : Nat) : EnvOk Tryz.prog (env_ref05_Reads N) := mkEnv_ok tyRows_ok eqRows_ok methRows_ok ⟨sound_ref02_Prefix N, trivial⟩
noncomputable def lam_ref05_Reads (_ : Nat) : Lps := fun _ => none
noncomputable def ctr_ref05_Reads (N : Nat) : Ctr := ctrOf (.val T_api_Msg) (.fresh T_api_Span) [] (fun v => ref05_Reads N v)
theorem sound_ref05_Reads (N : Nat) : SoundF Tryz.prog 37 (fun vs => (ctr_ref05_Reads N).run vs some) :=
  fn_sound (envok_ref05_Reads N) mixed (Λ := lam_ref05_Reads N) (fn := Tryz.f37) (c := c_ref05_Reads) Tryz.func37 (by kernel_rfl) (by kernel_rfl) (obs_ok (l := []) (by kernel_rfl) obsNil) (by kernel_rfl) (by intro v; kernel_rfl)

noncomputable def c_ref05_Writes : Code := match Tryz.f38.body with | some c => c | none => .skip
noncomputable def tab_ref05_Writes (N : Nat) : List (Nat × Ctr) := [(44, ctr_ref02_One N), (42, ctr_ref02_Prefix N)]
noncomputable def env_ref05_Writes (N : Nat) : Env := mkEnv tyRows eqRows methRows [] [] (tab_ref05_Writes N)
theorem envok_ref05_Writes (N : Nat) : EnvOk Tryz.prog (env_ref05_Writes N) := mkEnv_ok tyRows_ok eqRows_ok methRows_ok ⟨sound_ref02_One N, ⟨sound_ref02_Prefix N, trivial⟩⟩
noncomputable def lam_ref05_Writes (_ : Nat) : Lps := fun _ => none
noncomputable def ctr_ref05_Writes (N : Nat) : Ctr := ctrOf (.val T_api_Msg) (.fresh T_api_Span) [] (fun v => ref05_Writes N v)
theorem sound_ref05_Writes (N : Nat) : SoundF Tryz.prog 38 (fun vs => (ctr_ref05_Writes N).run vs some) :=
  fn_sound (envok_ref05_Writes N) mixed (Λ := lam_ref05_Writes N) (fn := Tryz.f38) (c := c_ref05_Writes) Tryz.func38 (by kernel_rfl) (by kernel_rfl) (obs_ok (l := []) (by kernel_rfl) obsNil) (by kernel_rfl) (by intro v; kernel_rfl)

noncomputable def c_ref05_Kills : Code := match Tryz.f39.body with | some c => c | none => .skip
noncomputable def tab_ref05_Kills (N : Nat) : List (Nat × Ctr) := [(38, ctr_ref05_Writes N)]
noncomputable def env_ref05_Kills (N : Nat) : Env := mkEnv tyRows eqRows methRows [] [] (tab_ref05_Kills N)
theorem envok_ref05_Kills (N : Nat) : EnvOk Tryz.prog (env_ref05_Kills N) := mkEnv_ok tyRows_ok eqRows_ok methRows_ok ⟨sound_ref05_Writes N, trivial⟩
noncomputable def lam_ref05_Kills (_ : Nat) : Lps := fun _ => none
noncomputable def ctr_ref05_Kills (N : Nat) : Ctr := ctrOf (.val T_api_Msg) (.fresh T_api_Span) [] (fun v => ref05_Kills N v)
theorem sound_ref05_Kills (N : Nat) : SoundF Tryz.prog 39 (fun vs => (ctr_ref05_Kills N).run vs some) :=
  fn_sound (envok_ref05_Kills N) mixed (Λ := lam_ref05_Kills N) (fn := Tryz.f39) (c := c_ref05_Kills) Tryz.func39 (by kernel_rfl) (by kernel_rfl) (obs_ok (l := []) (by kernel_rfl) obsNil) (by kernel_rfl) (by intro v; kernel_rfl)

noncomputable def c_ref05_Touch : Code := match Tryz.f65.body with | some c => c | none => .skip
noncomputable def tab_ref05_Touch (N : Nat) : List (Nat × Ctr) := [(58, ctr_ref02_Meet N), (57, ctr_ref02_Empty N)]
noncomputable def env_ref05_Touch (N : Nat) : Env := mkEnv tyRows eqRows methRows [] [] (tab_ref05_Touch N)
theorem envok_ref05_Touch (N : Nat) : EnvOk Tryz.prog (env_ref05_Touch N) := mkEnv_ok tyRows_ok eqRows_ok methRows_ok ⟨sound_ref02_Meet N, ⟨sound_ref02_Empty N, trivial⟩⟩
noncomputable def cut_ref05_Touch_l1 : Cut := { tms := [0, 1, 5, 6], sh := (.cons (.list T_api_Span) (.cons (.list T_api_Span) (.cons (.int .i64) (.int .i64)))), objs := [], sts := [] }
noncomputable def cut_ref05_Touch_l1_o0 : Cut := { tms := [4], sh := .bool, objs := [], sts := [] }
noncomputable def cut_ref05_Touch_l1_o1 : Cut := { tms := [0, 1, 5], sh := (.cons (.list T_api_Span) (.cons (.list T_api_Span) (.int .i64))), objs := [], sts := [] }
noncomputable def lp_ref05_Touch_l1 (N : Nat) : Lp := lpOf cut_ref05_Touch_l1 (1, cut_ref05_Touch_l1_o0) [(4, cut_ref05_Touch_l1_o1)] (fun v => ref05_Touch_l1 N N v.1.1 v.1.2.1 v.1.2.2.1 v.1.2.2.2)
noncomputable def lam_ref05_Touch_l1 (_ : Nat) : Lps := fun _ => none
theorem lpok_ref05_Touch_l1 (N : Nat) (ro : Option Nat) : LpOk Tryz.prog 30 ro (lp_ref05_Touch_l1 N) (codeAt c_ref05_Touch [true, false, true, false, false, true, false, false, true, false]) := by
  rw [show (codeAt c_ref05_Touch [true, false, true, false, false, true, false, false, true, false]) = .loop (codeAt c_ref05_Touch [true, false, true, false, false, true, false, false, true, false, false]) by kernel_rfl]
  exact loop_ok (envok_ref05_Touch N) mixed (Λ := lam_ref05_Touch_l1 N) (p := 3364) (obs_ok (l := []) (by kernel_rfl) obsNil) (by kernel_rfl) (by intro rec v; kernel_rfl) N
noncomputable def cut_ref05_Touch_l0 : Cut := { tms := [0, 1, 5], sh := (.cons (.list T_api_Span) (.cons (.list T_api_Span) (.int .i64))), objs := [], sts := [] }
noncomputable def cut_ref05_Touch_l0_o0 : Cut := { tms := [4], sh := .bool, objs := [], sts := [] }
noncomputable def cut_ref05_Touch_l0_o1 : Cut := { tms := [], sh := .nil, objs := [], sts := [] }
noncomputable def lp_ref05_Touch_l0 (N : Nat) : Lp := lpOf cut_ref05_Touch_l0 (1, cut_ref05_Touch_l0_o0) [(2, cut_ref05_Touch_l0_o1)] (fun v => ref05_Touch_l0 N N v.1.1 v.1.2.1 v.1.2.2)
noncomputable def lam_ref05_Touch_l0 (N : Nat) : Lps := fun p => bif Nat.beq p 1682 then some (lp_ref05_Touch_l1 N) else none
theorem lpok_ref05_Touch_l0 (N : Nat) (ro : Option Nat) : LpOk Tryz.prog 30 ro (lp_ref05_Touch_l0 N) (codeAt c_ref05_Touch [true, false, true, false]) := by
  rw [show (codeAt c_ref05_Touch [true, false, true, false]) = .loop (codeAt c_ref05_Touch [true, false, true, false, false]) by kernel_rfl]
  exact loop_ok (envok_ref05_Touch N) mixed (Λ := lam_ref05_Touch_l0 N) (p := 52) (obs_ok (l := [(lp_ref05_Touch_l1 N, (codeAt c_ref05_Touch [true, false, true, false, false, true, false, false, true, false]))]) (by kernel_rfl) (obsCons (lpok_ref05_Touch_l1 N ro) obsNil)) (by kernel_rfl) (by intro rec v; kernel_rfl) N
noncomputable def lam_ref05_Touch (N : Nat) : Lps := fun p => bif Nat.beq p 26 then some (lp_ref05_Touch_l0 N) else none
noncomputable def ctr_ref05_Touch (N : Nat) : Ctr := ctrOf (.cons (.list T_api_Span) (.list T_api_Span)) .bool [] (fun v => ref05_Touch N v.1 v.2)
theorem sound_ref05_Touch (N : Nat) : SoundF Tryz.prog 65 (fun vs => (ctr_ref05_Touch N).run vs some) :=
  fn_sound (envok_ref05_Touch N) mixed (Λ := lam_ref05_Touch N) (fn := Tryz.f65) (c := c_ref05_Touch) Tryz.func65 (by kernel_rfl) (by kernel_rfl) (obs_ok (l := [(lp_ref05_Touch_l0 N, (codeAt c_ref05_Touch [true, false, true, false]))]) (by kernel_rfl) (obsCons (lpok_ref05_Touch_l0 N none) obsNil)) (by kernel_rfl) (by intro v; kernel_rfl)

noncomputable def c_ref05_Free : Code := match Tryz.f41.body with | some c => c | none => .skip
noncomputable def tab_ref05_Free (N : Nat) : List (Nat × Ctr) := [(38, ctr_ref05_Writes N), (65, ctr_ref05_Touch N), (37, ctr_ref05_Reads N)]
noncomputable def env_ref05_Free (N : Nat) : Env := mkEnv tyRows eqRows methRows [] [] (tab_ref05_Free N)
theorem envok_ref05_Free (N : Nat) : EnvOk Tryz.prog (env_ref05_Free N) := mkEnv_ok tyRows_ok eqRows_ok methRows_ok ⟨sound_ref05_Writes N, ⟨sound_ref05_Touch N, ⟨sound_ref05_Reads N, trivial⟩⟩⟩
noncomputable def lam_ref05_Free (_ : Nat) : Lps := fun _ => none
noncomputable def ctr_ref05_Free (N : Nat) : Ctr := ctrOf (.cons (.val T_api_Msg) (.val T_api_Msg)) .bool [] (fun v => ref05_Free N v.1 v.2)
theorem sound_ref05_Free (N : Nat) : SoundF Tryz.prog 41 (fun vs => (ctr_ref05_Free N).run vs some) :=
  fn_sound (envok_ref05_Free N) mixed (Λ := lam_ref05_Free N) (fn := Tryz.f41) (c := c_ref05_Free) Tryz.func41 (by kernel_rfl) (by kernel_rfl) (obs_ok (l := []) (by kernel_rfl) obsNil) (by kernel_rfl) (by intro v; kernel_rfl)

noncomputable def c_law05_MsgMatchesReference : Code := match Tryz.f8.body with | some c => c | none => .skip
noncomputable def tab_law05_MsgMatchesReference (N : Nat) : List (Nat × Ctr) := [(12, ctr_law05_sanity N), (19, ctr_ref05_Table N), (32, ctr_ref05_List N), (33, ctr_msg_All N), (34, ctr_ref05_All N), (22, ctr_ref05_Same N), (21, ctr_msg_Apply N), (35, ctr_ref05_Apply N), (25, ctr_msg_Reads N), (37, ctr_ref05_Reads N), (36, ctr_ref02_Same N), (20, ctr_msg_Writes N), (38, ctr_ref05_Writes N), (26, ctr_msg_Kills N), (39, ctr_ref05_Kills N), (40, ctr_msg_Free N), (41, ctr_ref05_Free N)]
noncomputable def env_law05_MsgMatchesReference (N : Nat) : Env := mkEnv tyRows eqRows methRows [(3, [13, 15])] [] (tab_law05_MsgMatchesReference N)
theorem envok_law05_MsgMatchesReference (N : Nat) : EnvOk Tryz.prog (env_law05_MsgMatchesReference N) := mkEnv_ok tyRows_ok eqRows_ok methRows_ok ⟨sound_law05_sanity N, ⟨sound_ref05_Table N, ⟨sound_ref05_List N, ⟨sound_msg_All N, ⟨sound_ref05_All N, ⟨sound_ref05_Same N, ⟨sound_msg_Apply N, ⟨sound_ref05_Apply N, ⟨sound_msg_Reads N, ⟨sound_ref05_Reads N, ⟨sound_ref02_Same N, ⟨sound_msg_Writes N, ⟨sound_ref05_Writes N, ⟨sound_msg_Kills N, ⟨sound_ref05_Kills N, ⟨sound_msg_Free N, ⟨sound_ref05_Free N, trivial⟩⟩⟩⟩⟩⟩⟩⟩⟩⟩⟩⟩⟩⟩⟩⟩⟩
noncomputable def cut_law05_MsgMatchesReference_l1 : Cut := { tms := [5, 6, 7, 8, 9, 10], sh := (.cons .bool (.cons (.list T_api_Pair) (.cons (.list T_api_Msg) (.cons (.int .i64) (.cons (.ptr 2000000 0) (.int .i64)))))), objs := [(2000000, [9], .box (.cons (.int .i64) (.cons .str (.cons .str (.cons .str (.cons .str (.cons .str (.cons .str (.int .i64)))))))))], sts := [] }
noncomputable def cut_law05_MsgMatchesReference_l1_o0 : Cut := { tms := [4], sh := .bool, objs := [], sts := [] }
noncomputable def cut_law05_MsgMatchesReference_l1_o1 : Cut := { tms := [5, 6, 7, 8], sh := (.cons .bool (.cons (.list T_api_Pair) (.cons (.list T_api_Msg) (.int .i64)))), objs := [], sts := [] }
noncomputable def lp_law05_MsgMatchesReference_l1 (N : Nat) : Lp := lpOf cut_law05_MsgMatchesReference_l1 (1, cut_law05_MsgMatchesReference_l1_o0) [(4, cut_law05_MsgMatchesReference_l1_o1)] (fun v => law05_MsgMatchesReference_l1 N N v.1.1 v.1.2.1 v.1.2.2.1 v.1.2.2.2.1 v.1.2.2.2.2.2 v.2.1.1 v.2.1.2.1 v.2.1.2.2.1 v.2.1.2.2.2.1 v.2.1.2.2.2.2.1 v.2.1.2.2.2.2.2.1 v.2.1.2.2.2.2.2.2.1 v.2.1.2.2.2.2.2.2.2)
noncomputable def lam_law05_MsgMatchesReference_l1 (_ : Nat) : Lps := fun _ => none
theorem lpok_law05_MsgMatchesReference_l1 (N : Nat) (ro : Option Nat) : LpOk Tryz.prog 86 ro (lp_law05_MsgMatchesReference_l1 N) (codeAt c_law05_MsgMatchesReference [true, true, true, true, false, true, false, false, true, false, false, true, true, true, false]) := by
  rw [show (codeAt c_law05_MsgMatchesReference [true, true, true, true, false, true, false, false, true, false, false, true, true, true, false]) = .loop (codeAt c_law05_MsgMatchesReference [true, true, true, true, false, true, false, false, true, false, false, true, true, true, false, false]) by kernel_rfl]
  exact loop_ok (envok_law05_MsgMatchesReference N) mixed (Λ := lam_law05_MsgMatchesReference_l1 N) (p := 128156) (obs_ok (l := []) (by kernel_rfl) obsNil) (by kernel_rfl) (by intro rec v; kernel_rfl) N
noncomputable def cut_law05_MsgMatchesReference_l0 : Cut := { tms := [5, 6, 7, 8], sh := (.cons .bool (.cons (.list T_api_Pair) (.cons (.list T_api_Msg) (.int .i64)))), objs := [], sts := [] }
noncomputable def cut_law05_MsgMatchesReference_l0_o0 : Cut := { tms := [4], sh := .bool, objs := [], sts := [] }
noncomputable def cut_law05_MsgMatchesReference_l0_o1 : Cut := { tms := [5], sh := .bool, objs := [], sts := [] }
noncomputable def lp_law05_MsgMatchesReference_l0 (N : Nat) : Lp := lpOf cut_law05_MsgMatchesReference_l0 (1, cut_law05_MsgMatchesReference_l0_o0) [(2, cut_law05_MsgMatchesReference_l0_o1)] (fun v => law05_MsgMatchesReference_l0 N N v.1.1 v.1.2.1 v.1.2.2.1 v.1.2.2.2)
noncomputable def lam_law05_MsgMatchesReference_l0 (N : Nat) : Lps := fun p => bif Nat.beq p 64078 then some (lp_law05_MsgMatchesReference_l1 N) else none
theorem lpok_law05_MsgMatchesReference_l0 (N : Nat) (ro : Option Nat) : LpOk Tryz.prog 86 ro (lp_law05_MsgMatchesReference_l0 N) (codeAt c_law05_MsgMatchesReference [true, true, true, true, false, true, false]) := by
  rw [show (codeAt c_law05_MsgMatchesReference [true, true, true, true, false, true, false]) = .loop (codeAt c_law05_MsgMatchesReference [true, true, true, true, false, true, false, false]) by kernel_rfl]
  exact loop_ok (envok_law05_MsgMatchesReference N) mixed (Λ := lam_law05_MsgMatchesReference_l0 N) (p := 500) (obs_ok (l := [(lp_law05_MsgMatchesReference_l1 N, (codeAt c_law05_MsgMatchesReference [true, true, true, true, false, true, false, false, true, false, false, true, true, true, false]))]) (by kernel_rfl) (obsCons (lpok_law05_MsgMatchesReference_l1 N ro) obsNil)) (by kernel_rfl) (by intro rec v; kernel_rfl) N
noncomputable def lam_law05_MsgMatchesReference (N : Nat) : Lps := fun p => bif Nat.beq p 250 then some (lp_law05_MsgMatchesReference_l0 N) else none
noncomputable def ctr_law05_MsgMatchesReference (N : Nat) : Ctr := ctrOf (.cons (.list T_a3_uint8) (.list T_ref05_Raw)) .bool [] (fun v => law05_MsgMatchesReference N v.1 v.2)
theorem sound_law05_MsgMatchesReference (N : Nat) : SoundF Tryz.prog 8 (fun vs => (ctr_law05_MsgMatchesReference N).run vs some) :=
  fn_sound (envok_law05_MsgMatchesReference N) mixed (Λ := lam_law05_MsgMatchesReference N) (fn := Tryz.f8) (c := c_law05_MsgMatchesReference) Tryz.func8 (by kernel_rfl) (by kernel_rfl) (obs_ok (l := [(lp_law05_MsgMatchesReference_l0 N, (codeAt c_law05_MsgMatchesReference [true, true, true, true, false, true, false]))]) (by kernel_rfl) (obsCons (lpok_law05_MsgMatchesReference_l0 N none) obsNil)) (by kernel_rfl) (by intro v; kernel_rfl)

noncomputable def c_law05_MsgFree : Code := match Tryz.f9.body with | some c => c | none => .skip
noncomputable def tab_law05_MsgFree (N : Nat) : List (Nat × Ctr) := [(12, ctr_law05_sanity N), (19, ctr_ref05_Table N), (13, ctr_ref05_Made N), (40, ctr_msg_Free N), (33, ctr_msg_All N), (22, ctr_ref05_Same N)]
noncomputable def env_law05_MsgFree (N : Nat) : Env := mkEnv tyRows eqRows methRows [(5, [11]), (2000039, [38]), (3000033, [33])] [] (tab_law05_MsgFree N)
theorem envok_law05_MsgFree (N : Nat) : EnvOk Tryz.prog (env_law05_MsgFree N) := mkEnv_ok tyRows_ok eqRows_ok methRows_ok ⟨sound_law05_sanity N, ⟨sound_ref05_Table N, ⟨sound_ref05_Made N, ⟨sound_msg_Free N, ⟨sound_msg_All N, ⟨sound_ref05_Same N, trivial⟩⟩⟩⟩⟩⟩
noncomputable def lam_law05_MsgFree (_ : Nat) : Lps := fun _ => none
noncomputable def ctr_law05_MsgFree (N : Nat) : Ctr := ctrOf (.cons (.list T_a3_uint8) (.val T_a2_ref05_Raw)) .bool [] (fun v => law05_MsgFree N v.1 v.2)
theorem sound_law05_MsgFree (N : Nat) : SoundF Tryz.prog 9 (fun vs => (ctr_law05_MsgFree N).run vs some) :=
  fn_sound (envok_law05_MsgFree N) mixed (Λ := lam_law05_MsgFree N) (fn := Tryz.f9) (c := c_law05_MsgFree) Tryz.func9 (by kernel_rfl) (by kernel_rfl) (obs_ok (l := []) (by kernel_rfl) obsNil) (by kernel_rfl) (by intro v; kernel_rfl)

noncomputable def c_law05_MsgMoves : Code := match Tryz.f10.body with | some c => c | none => .skip
noncomputable def tab_law05_MsgMoves (N : Nat) : List (Nat × Ctr) := [(12, ctr_law05_sanity N), (19, ctr_ref05_Table N), (13, ctr_ref05_Made N), (42, ctr_ref02_Prefix N), (21, ctr_msg_Apply N), (33, ctr_msg_All N), (22, ctr_ref05_Same N), (23, ctr_ref05_Without N)]
noncomputable def env_law05_MsgMoves (N : Nat) : Env := mkEnv tyRows eqRows methRows [(7, [14]), (2000038, [37]), (3000044, [44])] [] (tab_law05_MsgMoves N)
theorem envok_law05_MsgMoves (N : Nat) : EnvOk Tryz.prog (env_law05_MsgMoves N) := mkEnv_ok tyRows_ok eqRows_ok methRows_ok ⟨sound_law05_sanity N, ⟨sound_ref05_Table N, ⟨sound_ref05_Made N, ⟨sound_ref02_Prefix N, ⟨sound_msg_Apply N, ⟨sound_msg_All N, ⟨sound_ref05_Same N, ⟨sound_ref05_Without N, trivial⟩⟩⟩⟩⟩⟩⟩⟩
noncomputable def lam_law05_MsgMoves (_ : Nat) : Lps := fun _ => none
noncomputable def ctr_law05_MsgMoves (N : Nat) : Ctr := ctrOf (.cons (.list T_a3_uint8) (.val T_ref05_Raw)) .bool [] (fun v => law05_MsgMoves N v.1 v.2)
theorem sound_law05_MsgMoves (N : Nat) : SoundF Tryz.prog 10 (fun vs => (ctr_law05_MsgMoves N).run vs some) :=
  fn_sound (envok_law05_MsgMoves N) mixed (Λ := lam_law05_MsgMoves N) (fn := Tryz.f10) (c := c_law05_MsgMoves) Tryz.func10 (by kernel_rfl) (by kernel_rfl) (obs_ok (l := []) (by kernel_rfl) obsNil) (by kernel_rfl) (by intro v; kernel_rfl)

noncomputable def c_law05_MsgTwice : Code := match Tryz.f11.body with | some c => c | none => .skip
noncomputable def tab_law05_MsgTwice (N : Nat) : List (Nat × Ctr) := [(12, ctr_law05_sanity N), (19, ctr_ref05_Table N), (13, ctr_ref05_Made N), (21, ctr_msg_Apply N), (33, ctr_msg_All N), (42, ctr_ref02_Prefix N), (23, ctr_ref05_Without N), (22, ctr_ref05_Same N), (26, ctr_msg_Kills N), (25, ctr_msg_Reads N), (29, ctr_ref02_Minus N), (20, ctr_msg_Writes N)]
noncomputable def env_law05_MsgTwice (N : Nat) : Env := mkEnv tyRows eqRows methRows [(3, [14]), (2000028, [27]), (3000061, [61])] [] (tab_law05_MsgTwice N)
theorem envok_law05_MsgTwice (N : Nat) : EnvOk Tryz.prog (env_law05_MsgTwice N) := mkEnv_ok tyRows_ok eqRows_ok methRows_ok ⟨sound_law05_sanity N, ⟨sound_ref05_Table N, ⟨sound_ref05_Made N, ⟨sound_msg_Apply N, ⟨sound_msg_All N, ⟨sound_ref02_Prefix N, ⟨sound_ref05_Without N, ⟨sound_ref05_Same N, ⟨sound_msg_Kills N, ⟨sound_msg_Reads N, ⟨sound_ref02_Minus N, ⟨sound_msg_Writes N, trivial⟩⟩⟩⟩⟩⟩⟩⟩⟩⟩⟩⟩
noncomputable def lam_law05_MsgTwice (_ : Nat) : Lps := fun _ => none
noncomputable def ctr_law05_MsgTwice (N : Nat) : Ctr := ctrOf (.cons (.list T_a3_uint8) (.val T_a2_ref05_Raw)) .bool [] (fun v => law05_MsgTwice N v.1 v.2)
theorem sound_law05_MsgTwice (N : Nat) : SoundF Tryz.prog 11 (fun vs => (ctr_law05_MsgTwice N).run vs some) :=
  fn_sound (envok_law05_MsgTwice N) mixed (Λ := lam_law05_MsgTwice N) (fn := Tryz.f11) (c := c_law05_MsgTwice) Tryz.func11 (by kernel_rfl) (by kernel_rfl) (obs_ok (l := []) (by kernel_rfl) obsNil) (by kernel_rfl) (by intro v; kernel_rfl)

end Go.Proofs.YtknfflpgemghmaaGreat
