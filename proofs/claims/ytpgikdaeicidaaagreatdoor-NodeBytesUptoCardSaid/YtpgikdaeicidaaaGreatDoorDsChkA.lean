/- Printed by a program of the session's: what the program's functions compute, and that they do. -/
import Derived.Test.YtpgikdaeicidaaaGreatDoorDsPure
import Derived.Test.YtpgikdaeicidaaaGreatDoorProg
import Derived.KernelRfl
set_option linter.all false
namespace Go.Proofs.YtpgikdaeicidaaaGreatDoor
open Go Go.Dv Ds
set_option maxRecDepth 100000
noncomputable instance : LTab := ⟨fun _ => ⟨#[], [], .skip, .skip, 0⟩⟩
noncomputable def tyRows : List (Nat × TI) := [
  (3, ⟨.int .i64, 1, 8, [.int .i64], some (.int .i64)⟩),
  (4, ⟨.bool, 1, 1, [.bool], some .bool⟩),
  (5, ⟨.int .u8, 1, 1, [.int .u8], some (.int .u8)⟩),
  (9, ⟨.str, 1, 16, [.str], some .str⟩),
  (22, ⟨.slice 128, 1, 24, [.slice], some (.list T_ref04_Raw)⟩),
  (23, ⟨.slice 5, 1, 24, [.slice], some (.list (.int .u8))⟩),
  (24, ⟨.slice 93, 1, 24, [.slice], some (.list T_a4_uint8)⟩),
  (25, ⟨.slice 142, 1, 24, [.slice], some (.list T_ref05_Raw)⟩),
  (27, ⟨.struct [(0, 22), (1, 23), (2, 23), (3, 24), (4, 25)], 5, 120, [.slice, .slice, .slice, .slice, .slice], some T_ref10_Raw⟩),
  (28, ⟨.slice 48, 1, 24, [.slice], some (.list T_api_Pair)⟩),
  (29, ⟨.slice 9, 1, 24, [.slice], some (.list .str)⟩),
  (30, ⟨.slice 3, 1, 24, [.slice], some (.list (.int .i64))⟩),
  (31, ⟨.slice 52, 1, 24, [.slice], some (.list T_api_Sum)⟩),
  (32, ⟨.slice 46, 1, 24, [.slice], some (.list T_api_Msg)⟩),
  (34, ⟨.struct [(0, 28), (1, 29), (2, 30), (3, 31), (4, 32)], 5, 120, [.slice, .slice, .slice, .slice, .slice], some T_api_Node⟩),
  (41, ⟨.struct [(0, 9), (1, 9)], 2, 32, [.str, .str], some T_api_Span⟩),
  (46, ⟨.struct [(0, 3), (1, 9), (2, 9), (3, 41), (5, 9), (6, 9), (7, 3)], 8, 112, [.int .i64, .str, .str, .str, .str, .str, .str, .int .i64], some T_api_Msg⟩),
  (48, ⟨.struct [(0, 9), (1, 9), (2, 3)], 3, 40, [.str, .str, .int .i64], some T_api_Pair⟩),
  (50, ⟨.struct [(0, 3), (1, 3)], 2, 16, [.int .i64, .int .i64], some T_api_Range⟩),
  (52, ⟨.struct [(0, 50), (2, 50)], 4, 32, [.int .i64, .int .i64, .int .i64, .int .i64], some T_api_Sum⟩),
  (55, ⟨.arr 2 27, 10, 240, [.slice, .slice, .slice, .slice, .slice, .slice, .slice, .slice, .slice, .slice], some T_a2_ref10_Raw⟩),
  (56, ⟨.int .u16, 1, 2, [.int .u16], some (.int .u16)⟩),
  (57, ⟨.arr 2 56, 2, 4, [.int .u16, .int .u16], some T_a2_uint16⟩),
  (64, ⟨.arr 2 23, 2, 48, [.slice, .slice], some T_a2_s_uint8⟩),
  (67, ⟨.func, 1, 8, [.func], none⟩),
  (68, ⟨.slice 41, 1, 24, [.slice], some (.list T_api_Span)⟩),
  (72, ⟨.int .u64, 1, 8, [.int .u64], some (.int .u64)⟩),
  (79, ⟨.struct [(0, 3), (1, 3)], 2, 16, [.int .i64, .int .i64], some T_api_Use⟩),
  (89, ⟨.struct [(0, 3), (1, 3), (2, 3)], 3, 24, [.int .i64, .int .i64, .int .i64], some T_api_Shape⟩),
  (93, ⟨.arr 4 5, 4, 4, [.int .u8, .int .u8, .int .u8, .int .u8], some T_a4_uint8⟩),
  (111, ⟨.struct [(0, 23), (1, 4)], 2, 32, [.slice, .bool], some T_node_reader⟩),
  (128, ⟨.arr 3 5, 3, 3, [.int .u8, .int .u8, .int .u8], some T_ref04_Raw⟩),
  (130, ⟨.func, 1, 8, [.func], none⟩),
  (133, ⟨.struct [(0, 9), (1, 3), (2, 3), (3, 9)], 4, 48, [.str, .int .i64, .int .i64, .str], some T_api_Place⟩),
  (142, ⟨.arr 6 5, 6, 6, [.int .u8, .int .u8, .int .u8, .int .u8, .int .u8, .int .u8], some T_ref05_Raw⟩),
  (144, ⟨.slice 50, 1, 24, [.slice], some (.list T_api_Range)⟩),
  (145, ⟨.str, 1, 16, [.str], some .str⟩),
  (149, ⟨.iface, 1, 16, [.iface], none⟩),
  (155, ⟨.struct [(0, 23)], 1, 24, [.slice], some (.list (.int .u8))⟩),
  (164, ⟨.struct [(0, 9)], 1, 16, [.str], some .str⟩),
  (166, ⟨.struct [(0, 164), (1, 133)], 5, 64, [.str, .str, .int .i64, .int .i64, .str], some T_path_place⟩),
  (174, ⟨.struct [(0, 3), (1, 9), (2, 9), (3, 41), (5, 9), (6, 9), (7, 3)], 8, 112, [.int .i64, .str, .str, .str, .str, .str, .str, .int .i64], some T_api_Msg⟩),
  (175, ⟨.struct [(0, 3), (1, 9), (2, 9), (3, 41), (5, 9), (6, 9), (7, 3)], 8, 112, [.int .i64, .str, .str, .str, .str, .str, .str, .int .i64], some T_api_Msg⟩),
  (176, ⟨.struct [(0, 3), (1, 9), (2, 9), (3, 41), (5, 9), (6, 9), (7, 3)], 8, 112, [.int .i64, .str, .str, .str, .str, .str, .str, .int .i64], some T_api_Msg⟩),
  (177, ⟨.struct [(0, 3), (1, 9), (2, 9), (3, 41), (5, 9), (6, 9), (7, 3)], 8, 112, [.int .i64, .str, .str, .str, .str, .str, .str, .int .i64], some T_api_Msg⟩),
  (178, ⟨.struct [(0, 3), (1, 9), (2, 9), (3, 41), (5, 9), (6, 9), (7, 3)], 8, 112, [.int .i64, .str, .str, .str, .str, .str, .str, .int .i64], some T_api_Msg⟩),
  (179, ⟨.struct [(0, 3), (1, 9), (2, 9), (3, 41), (5, 9), (6, 9), (7, 3)], 8, 112, [.int .i64, .str, .str, .str, .str, .str, .str, .int .i64], some T_api_Msg⟩),
  (182, ⟨.struct [(0, 23), (1, 4)], 2, 32, [.slice, .bool], some T_msg_reader⟩),
  (190, ⟨.slice 145, 1, 24, [.slice], some (.list .str)⟩)]
theorem tyRows_ok : (tyRows.all fun r => tiOk Tryz.prog r.1 r.2) = true := by kernel_rfl
theorem mixed : Tryz.prog.follows .mixedOrders = true := by kernel_rfl
noncomputable def eqRows : List (Nat × List Nat) := [(41, [2, 2]), (46, [0, 2, 2, 2, 2, 2, 2, 0]), (48, [2, 2, 0]), (52, [0, 0, 0, 0]), (133, [2, 0, 0, 2])]
theorem eqRows_ok : (eqRows.all fun r => eqB Tryz.prog r.1 r.2) = true := by kernel_rfl
noncomputable def methRows : List (Nat × String × Nat) := [(174, "downspout/msg.bare", 177), (174, "downspout/msg.reads", 178), (174, "downspout/msg.valid", 179), (174, "downspout/msg.write", 180), (174, "downspout/msg.writes", 181), (175, "downspout/msg.bare", 199), (175, "downspout/msg.reads", 200), (175, "downspout/msg.valid", 201), (175, "downspout/msg.write", 202), (175, "downspout/msg.writes", 203), (176, "downspout/msg.bare", 210), (176, "downspout/msg.reads", 211), (176, "downspout/msg.valid", 212), (176, "downspout/msg.write", 213), (176, "downspout/msg.writes", 214), (177, "downspout/msg.bare", 217), (177, "downspout/msg.reads", 218), (177, "downspout/msg.valid", 219), (177, "downspout/msg.write", 220), (177, "downspout/msg.writes", 221), (178, "downspout/msg.bare", 230), (178, "downspout/msg.reads", 231), (178, "downspout/msg.valid", 232), (178, "downspout/msg.write", 233), (178, "downspout/msg.writes", 234), (179, "downspout/msg.bare", 236), (179, "downspout/msg.reads", 237), (179, "downspout/msg.valid", 238), (179, "downspout/msg.write", 239), (179, "downspout/msg.writes", 240)]
theorem methRows_ok : MethOk Tryz.prog methRows := ⟨fun v w => by kernel_rfl, ⟨fun v w => by kernel_rfl, ⟨fun v w => by kernel_rfl, ⟨fun v w => by kernel_rfl, ⟨fun v w => by kernel_rfl, ⟨fun v w => by kernel_rfl, ⟨fun v w => by kernel_rfl, ⟨fun v w => by kernel_rfl, ⟨fun v w => by kernel_rfl, ⟨fun v w => by kernel_rfl, ⟨fun v w => by kernel_rfl, ⟨fun v w => by kernel_rfl, ⟨fun v w => by kernel_rfl, ⟨fun v w => by kernel_rfl, ⟨fun v w => by kernel_rfl, ⟨fun v w => by kernel_rfl, ⟨fun v w => by kernel_rfl, ⟨fun v w => by kernel_rfl, ⟨fun v w => by kernel_rfl, ⟨fun v w => by kernel_rfl, ⟨fun v w => by kernel_rfl, ⟨fun v w => by kernel_rfl, ⟨fun v w => by kernel_rfl, ⟨fun v w => by kernel_rfl, ⟨fun v w => by kernel_rfl, ⟨fun v w => by kernel_rfl, ⟨fun v w => by kernel_rfl, ⟨fun v w => by kernel_rfl, ⟨fun v w => by kernel_rfl, ⟨fun v w => by kernel_rfl, trivial⟩⟩⟩⟩⟩⟩⟩⟩⟩⟩⟩⟩⟩⟩⟩⟩⟩⟩⟩⟩⟩⟩⟩⟩⟩⟩⟩⟩⟩⟩
noncomputable def c_node_reader_take_m : Code := match Tryz.f99.body with | some c => c | none => .skip
noncomputable def tab_node_reader_take_m (_ : Nat) : List (Nat × Ctr) := []
noncomputable def env_node_reader_take_m (N : Nat) : Env := mkEnv tyRows eqRows methRows [(endKey, [25])] [] (tab_node_reader_take_m N)
theorem envok_node_reader_take_m (N : Nat) : EnvOk Tryz.prog (env_node_reader_take_m N) := mkEnv_ok tyRows_ok eqRows_ok methRows_ok trivial
noncomputable def lam_node_reader_take_m (_ : Nat) : Lps := fun _ => none
noncomputable def cut_node_reader_take_m_in : Cut := { tms := [0, 1], sh := (.cons (.ptr 5000000 0) (.int .i64)), objs := [(5000000, [0], .box (.cons (.list (.int .u8)) .bool))], sts := [] }
noncomputable def cut_node_reader_take_m_out0 : Cut := { tms := [0], sh := (.list (.int .u8)), objs := [(5000000, [5000000], .box (.cons (.list (.int .u8)) .bool))], sts := [] }
noncomputable def ctr_node_reader_take_m (N : Nat) : CtrM := ctrM cut_node_reader_take_m_in cut_node_reader_take_m_out0 [] (fun v => node_reader_take_m N v.1.2 v.2.1.1 v.2.1.2)
theorem sound_node_reader_take_m (N : Nat) : SoundM Tryz.prog 99 (ctr_node_reader_take_m N) :=
  fnM_sound (envok_node_reader_take_m N) mixed (Λ := lam_node_reader_take_m N) (fn := Tryz.f99) (c := c_node_reader_take_m) Tryz.func99 (by kernel_rfl) (by kernel_rfl) (obs_ok (l := []) (by kernel_rfl) obsNil) (by kernel_rfl) (by intro v; kernel_rfl)
noncomputable def c_node_reader_number_m : Code := match Tryz.f60.body with | some c => c | none => .skip
noncomputable def tab_node_reader_number_m (_ : Nat) : List (Nat × Ctr) := []
noncomputable def tabm_node_reader_number_m (N : Nat) : List (Nat × CtrM) := [(99, ctr_node_reader_take_m N)]
noncomputable def env_node_reader_number_m (N : Nat) : Env := mkEnv tyRows eqRows methRows [] [10] (tab_node_reader_number_m N) (tabm_node_reader_number_m N)
theorem envok_node_reader_number_m (N : Nat) : EnvOk Tryz.prog (env_node_reader_number_m N) := mkEnv_ok tyRows_ok eqRows_ok methRows_ok trivial ⟨sound_node_reader_take_m N, trivial⟩
noncomputable def cut_node_reader_number_m_l0 : Cut := { tms := [5, 10, 11, 12], sh := (.cons (.int .i64) (.cons (.list (.int .u8)) (.cons (.int .i64) (.int .i64)))), objs := [(5000000, [5000000], .box (.cons (.list (.int .u8)) .bool))], sts := [] }
noncomputable def cut_node_reader_number_m_l0_o0 : Cut := { tms := [5], sh := (.int .i64), objs := [(5000000, [5000000], .box (.cons (.list (.int .u8)) .bool))], sts := [] }
noncomputable def lp_node_reader_number_m_l0 (N : Nat) : Lp := lpOf cut_node_reader_number_m_l0 (2, cut_node_reader_number_m_l0_o0) [] (fun v => node_reader_number_m_l0 N N v.1.1 v.1.2.1 v.1.2.2.1 v.1.2.2.2 v.2.1.1 v.2.1.2)
noncomputable def lam_node_reader_number_m_l0 (_ : Nat) : Lps := fun _ => none
theorem lpok_node_reader_number_m_l0 (N : Nat) (ro : Option Nat) : LpOk Tryz.prog 23 ro (lp_node_reader_number_m_l0 N) (codeAt c_node_reader_number_m [true, true, false, true, false]) := by
  rw [show (codeAt c_node_reader_number_m [true, true, false, true, false]) = .loop (codeAt c_node_reader_number_m [true, true, false, true, false, false]) by kernel_rfl]
  exact loop_ok (envok_node_reader_number_m N) mixed (Λ := lam_node_reader_number_m_l0 N) (p := 116) (obs_ok (l := []) (by kernel_rfl) obsNil) (by kernel_rfl) (by intro rec v; kernel_rfl) N
noncomputable def lam_node_reader_number_m (N : Nat) : Lps := fun p => bif Nat.beq p 58 then some (lp_node_reader_number_m_l0 N) else none
noncomputable def cut_node_reader_number_m_in : Cut := { tms := [0, 1], sh := (.cons (.ptr 5000000 0) (.int .i64)), objs := [(5000000, [0], .box (.cons (.list (.int .u8)) .bool))], sts := [] }
noncomputable def cut_node_reader_number_m_out0 : Cut := { tms := [0], sh := (.int .i64), objs := [(5000000, [5000000], .box (.cons (.list (.int .u8)) .bool))], sts := [] }
noncomputable def ctr_node_reader_number_m (N : Nat) : CtrM := ctrM cut_node_reader_number_m_in cut_node_reader_number_m_out0 [] (fun v => node_reader_number_m N v.1.2 v.2.1.1 v.2.1.2)
theorem sound_node_reader_number_m (N : Nat) : SoundM Tryz.prog 60 (ctr_node_reader_number_m N) :=
  fnM_sound (envok_node_reader_number_m N) mixed (Λ := lam_node_reader_number_m N) (fn := Tryz.f60) (c := c_node_reader_number_m) Tryz.func60 (by kernel_rfl) (by kernel_rfl) (obs_ok (l := [(lp_node_reader_number_m_l0 N, (codeAt c_node_reader_number_m [true, true, false, true, false]))]) (by kernel_rfl) (obsCons (lpok_node_reader_number_m_l0 N none) obsNil)) (by kernel_rfl) (by intro v; kernel_rfl)
noncomputable def c_node_reader_four_m : Code := match Tryz.f62.body with | some c => c | none => .skip
noncomputable def tab_node_reader_four_m (_ : Nat) : List (Nat × Ctr) := []
noncomputable def tabm_node_reader_four_m (N : Nat) : List (Nat × CtrM) := [(60, ctr_node_reader_number_m N)]
noncomputable def env_node_reader_four_m (N : Nat) : Env := mkEnv tyRows eqRows methRows [] [4] (tab_node_reader_four_m N) (tabm_node_reader_four_m N)
theorem envok_node_reader_four_m (N : Nat) : EnvOk Tryz.prog (env_node_reader_four_m N) := mkEnv_ok tyRows_ok eqRows_ok methRows_ok trivial ⟨sound_node_reader_number_m N, trivial⟩
noncomputable def lam_node_reader_four_m (_ : Nat) : Lps := fun _ => none
noncomputable def cut_node_reader_four_m_in : Cut := { tms := [0], sh := (.ptr 5000000 0), objs := [(5000000, [0], .box (.cons (.list (.int .u8)) .bool))], sts := [] }
noncomputable def cut_node_reader_four_m_out0 : Cut := { tms := [0], sh := (.int .i64), objs := [(5000000, [5000000], .box (.cons (.list (.int .u8)) .bool))], sts := [] }
noncomputable def ctr_node_reader_four_m (N : Nat) : CtrM := ctrM cut_node_reader_four_m_in cut_node_reader_four_m_out0 [] (fun v => node_reader_four_m N v.2.1.1 v.2.1.2)
theorem sound_node_reader_four_m (N : Nat) : SoundM Tryz.prog 62 (ctr_node_reader_four_m N) :=
  fnM_sound (envok_node_reader_four_m N) mixed (Λ := lam_node_reader_four_m N) (fn := Tryz.f62) (c := c_node_reader_four_m) Tryz.func62 (by kernel_rfl) (by kernel_rfl) (obs_ok (l := []) (by kernel_rfl) obsNil) (by kernel_rfl) (by intro v; kernel_rfl)
noncomputable def c_node_reader_text_m : Code := match Tryz.f66.body with | some c => c | none => .skip
noncomputable def tab_node_reader_text_m (_ : Nat) : List (Nat × Ctr) := []
noncomputable def tabm_node_reader_text_m (N : Nat) : List (Nat × CtrM) := [(60, ctr_node_reader_number_m N), (99, ctr_node_reader_take_m N)]
noncomputable def env_node_reader_text_m (N : Nat) : Env := mkEnv tyRows eqRows methRows [] [5, 6] (tab_node_reader_text_m N) (tabm_node_reader_text_m N)
theorem envok_node_reader_text_m (N : Nat) : EnvOk Tryz.prog (env_node_reader_text_m N) := mkEnv_ok tyRows_ok eqRows_ok methRows_ok trivial ⟨sound_node_reader_number_m N, ⟨sound_node_reader_take_m N, trivial⟩⟩
noncomputable def lam_node_reader_text_m (_ : Nat) : Lps := fun _ => none
noncomputable def cut_node_reader_text_m_in : Cut := { tms := [0], sh := (.ptr 5000000 0), objs := [(5000000, [0], .box (.cons (.list (.int .u8)) .bool))], sts := [] }
noncomputable def cut_node_reader_text_m_out0 : Cut := { tms := [0], sh := .str, objs := [(5000000, [5000000], .box (.cons (.list (.int .u8)) .bool))], sts := [] }
noncomputable def ctr_node_reader_text_m (N : Nat) : CtrM := ctrM cut_node_reader_text_m_in cut_node_reader_text_m_out0 [] (fun v => node_reader_text_m N v.2.1.1 v.2.1.2)
theorem sound_node_reader_text_m (N : Nat) : SoundM Tryz.prog 66 (ctr_node_reader_text_m N) :=
  fnM_sound (envok_node_reader_text_m N) mixed (Λ := lam_node_reader_text_m N) (fn := Tryz.f66) (c := c_node_reader_text_m) Tryz.func66 (by kernel_rfl) (by kernel_rfl) (obs_ok (l := []) (by kernel_rfl) obsNil) (by kernel_rfl) (by intro v; kernel_rfl)
noncomputable def c_node_reader_pair_m : Code := match Tryz.f63.body with | some c => c | none => .skip
noncomputable def tab_node_reader_pair_m (_ : Nat) : List (Nat × Ctr) := []
noncomputable def tabm_node_reader_pair_m (N : Nat) : List (Nat × CtrM) := [(66, ctr_node_reader_text_m N), (62, ctr_node_reader_four_m N)]
noncomputable def env_node_reader_pair_m (N : Nat) : Env := mkEnv tyRows eqRows methRows [] [4, 6, 8] (tab_node_reader_pair_m N) (tabm_node_reader_pair_m N)
theorem envok_node_reader_pair_m (N : Nat) : EnvOk Tryz.prog (env_node_reader_pair_m N) := mkEnv_ok tyRows_ok eqRows_ok methRows_ok trivial ⟨sound_node_reader_text_m N, ⟨sound_node_reader_four_m N, trivial⟩⟩
noncomputable def lam_node_reader_pair_m (_ : Nat) : Lps := fun _ => none
noncomputable def cut_node_reader_pair_m_in : Cut := { tms := [0], sh := (.ptr 5000000 0), objs := [(5000000, [0], .box (.cons (.list (.int .u8)) .bool))], sts := [] }
noncomputable def cut_node_reader_pair_m_out0 : Cut := { tms := [0], sh := (.agg (.cons .str (.cons .str (.int .i64)))), objs := [(5000000, [5000000], .box (.cons (.list (.int .u8)) .bool))], sts := [] }
noncomputable def ctr_node_reader_pair_m (N : Nat) : CtrM := ctrM cut_node_reader_pair_m_in cut_node_reader_pair_m_out0 [] (fun v => node_reader_pair_m N v.2.1.1 v.2.1.2)
theorem sound_node_reader_pair_m (N : Nat) : SoundM Tryz.prog 63 (ctr_node_reader_pair_m N) :=
  fnM_sound (envok_node_reader_pair_m N) mixed (Λ := lam_node_reader_pair_m N) (fn := Tryz.f63) (c := c_node_reader_pair_m) Tryz.func63 (by kernel_rfl) (by kernel_rfl) (obs_ok (l := []) (by kernel_rfl) obsNil) (by kernel_rfl) (by intro v; kernel_rfl)
noncomputable def c_node_list_api_Pair_m__node_reader_pair : Code := match Tryz.f61.body with | some c => c | none => .skip
noncomputable def tab_node_list_api_Pair_m__node_reader_pair (_ : Nat) : List (Nat × Ctr) := []
noncomputable def tabm_node_list_api_Pair_m__node_reader_pair (N : Nat) : List (Nat × CtrM) := [(63, ctr_node_reader_pair_m N)]
noncomputable def env_node_list_api_Pair_m__node_reader_pair (N : Nat) : Env := mkEnv tyRows eqRows methRows [] [20] (tab_node_list_api_Pair_m__node_reader_pair N) (tabm_node_list_api_Pair_m__node_reader_pair N)
theorem envok_node_list_api_Pair_m__node_reader_pair (N : Nat) : EnvOk Tryz.prog (env_node_list_api_Pair_m__node_reader_pair N) := mkEnv_ok tyRows_ok eqRows_ok methRows_ok trivial ⟨sound_node_reader_pair_m N, trivial⟩
noncomputable def cut_node_list_api_Pair_m__node_reader_pair_l0 : Cut := { tms := [0, 1, 2, 7], sh := (.cons (.ptr 5000000 0) (.cons (.int .i64) (.cons (.clo 63 (.tup (.ptr 5000000 0))) (.own 2000001)))), objs := [(5000000, [5000000], .box (.cons (.list (.int .u8)) .bool)), (2000001, [7], .sl T_api_Pair)], sts := [] }
noncomputable def cut_node_list_api_Pair_m__node_reader_pair_l0_o0 : Cut := { tms := [7], sh := (.own 2000000), objs := [(2000000, [7], .sl T_api_Pair), (5000000, [5000000], .box (.cons (.list (.int .u8)) .bool))], sts := [] }
noncomputable def lp_node_list_api_Pair_m__node_reader_pair_l0 (N : Nat) : Lp := lpOf cut_node_list_api_Pair_m__node_reader_pair_l0 (2, cut_node_list_api_Pair_m__node_reader_pair_l0_o0) [] (fun v => node_list_api_Pair_m__node_reader_pair_l0 N N v.1.2.1 v.2.1.1 v.2.1.2 v.2.2.1)
noncomputable def lam_node_list_api_Pair_m__node_reader_pair_l0 (_ : Nat) : Lps := fun _ => none
theorem lpok_node_list_api_Pair_m__node_reader_pair_l0 (N : Nat) (ro : Option Nat) : LpOk Tryz.prog 24 ro (lp_node_list_api_Pair_m__node_reader_pair_l0 N) (codeAt c_node_list_api_Pair_m__node_reader_pair [true, true, false, false]) := by
  rw [show (codeAt c_node_list_api_Pair_m__node_reader_pair [true, true, false, false]) = .loop (codeAt c_node_list_api_Pair_m__node_reader_pair [true, true, false, false, false]) by kernel_rfl]
  exact loop_ok (envok_node_list_api_Pair_m__node_reader_pair N) mixed (Λ := lam_node_list_api_Pair_m__node_reader_pair_l0 N) (p := 56) (obs_ok (l := []) (by kernel_rfl) obsNil) (by kernel_rfl) (by intro rec v; kernel_rfl) N
noncomputable def lam_node_list_api_Pair_m__node_reader_pair (N : Nat) : Lps := fun p => bif Nat.beq p 28 then some (lp_node_list_api_Pair_m__node_reader_pair_l0 N) else none
noncomputable def cut_node_list_api_Pair_m__node_reader_pair_in : Cut := { tms := [0, 1, 2], sh := (.cons (.ptr 5000000 0) (.cons (.int .i64) (.clo 63 (.tup (.ptr 5000000 0))))), objs := [(5000000, [0], .box (.cons (.list (.int .u8)) .bool))], sts := [] }
noncomputable def cut_node_list_api_Pair_m__node_reader_pair_out0 : Cut := { tms := [0], sh := (.own 2000000), objs := [(2000000, [0], .sl T_api_Pair), (5000000, [5000000], .box (.cons (.list (.int .u8)) .bool))], sts := [] }
noncomputable def ctr_node_list_api_Pair_m__node_reader_pair (N : Nat) : CtrM := ctrM cut_node_list_api_Pair_m__node_reader_pair_in cut_node_list_api_Pair_m__node_reader_pair_out0 [] (fun v => node_list_api_Pair_m__node_reader_pair N v.1.2.1 v.2.1.1 v.2.1.2)
theorem sound_node_list_api_Pair_m__node_reader_pair (N : Nat) : SoundM Tryz.prog 61 (ctr_node_list_api_Pair_m__node_reader_pair N) :=
  fnM_sound (envok_node_list_api_Pair_m__node_reader_pair N) mixed (Λ := lam_node_list_api_Pair_m__node_reader_pair N) (fn := Tryz.f61) (c := c_node_list_api_Pair_m__node_reader_pair) Tryz.func61 (by kernel_rfl) (by kernel_rfl) (obs_ok (l := [(lp_node_list_api_Pair_m__node_reader_pair_l0 N, (codeAt c_node_list_api_Pair_m__node_reader_pair [true, true, false, false]))]) (by kernel_rfl) (obsCons (lpok_node_list_api_Pair_m__node_reader_pair_l0 N none) obsNil)) (by kernel_rfl) (by intro v; kernel_rfl)
noncomputable def c_table_Valid : Code := match Tryz.f41.body with | some c => c | none => .skip
noncomputable def tab_table_Valid (_ : Nat) : List (Nat × Ctr) := []
noncomputable def env_table_Valid (N : Nat) : Env := mkEnv tyRows eqRows methRows [] [] (tab_table_Valid N)
theorem envok_table_Valid (N : Nat) : EnvOk Tryz.prog (env_table_Valid N) := mkEnv_ok tyRows_ok eqRows_ok methRows_ok trivial
noncomputable def cut_table_Valid_l0 : Cut := { tms := [0, 3], sh := (.cons (.list T_api_Pair) (.int .i64)), objs := [], sts := [] }
noncomputable def cut_table_Valid_l0_o0 : Cut := { tms := [2], sh := .bool, objs := [], sts := [] }
noncomputable def cut_table_Valid_l0_o1 : Cut := { tms := [], sh := .nil, objs := [], sts := [] }
noncomputable def lp_table_Valid_l0 (N : Nat) : Lp := lpOf cut_table_Valid_l0 (1, cut_table_Valid_l0_o0) [(2, cut_table_Valid_l0_o1)] (fun v => table_Valid_l0 N N v.1.1 v.1.2)
noncomputable def lam_table_Valid_l0 (_ : Nat) : Lps := fun _ => none
theorem lpok_table_Valid_l0 (N : Nat) (ro : Option Nat) : LpOk Tryz.prog 22 ro (lp_table_Valid_l0 N) (codeAt c_table_Valid [true, false, true, false]) := by
  rw [show (codeAt c_table_Valid [true, false, true, false]) = .loop (codeAt c_table_Valid [true, false, true, false, false]) by kernel_rfl]
  exact loop_ok (envok_table_Valid N) mixed (Λ := lam_table_Valid_l0 N) (p := 52) (obs_ok (l := []) (by kernel_rfl) obsNil) (by kernel_rfl) (by intro rec v; kernel_rfl) N
noncomputable def lam_table_Valid (N : Nat) : Lps := fun p => bif Nat.beq p 26 then some (lp_table_Valid_l0 N) else none
noncomputable def ctr_table_Valid (N : Nat) : Ctr := ctrOf (.list T_api_Pair) .bool [] (fun v => table_Valid N v)
theorem sound_table_Valid (N : Nat) : SoundF Tryz.prog 41 (fun vs => (ctr_table_Valid N).run vs some) :=
  fn_sound (envok_table_Valid N) mixed (Λ := lam_table_Valid N) (fn := Tryz.f41) (c := c_table_Valid) Tryz.func41 (by kernel_rfl) (by kernel_rfl) (obs_ok (l := [(lp_table_Valid_l0 N, (codeAt c_table_Valid [true, false, true, false]))]) (by kernel_rfl) (obsCons (lpok_table_Valid_l0 N none) obsNil)) (by kernel_rfl) (by intro v; kernel_rfl)
noncomputable def c_node_storable : Code := match Tryz.f39.body with | some c => c | none => .skip
noncomputable def tab_node_storable (_ : Nat) : List (Nat × Ctr) := []
noncomputable def env_node_storable (N : Nat) : Env := mkEnv tyRows eqRows methRows [] [] (tab_node_storable N)
theorem envok_node_storable (N : Nat) : EnvOk Tryz.prog (env_node_storable N) := mkEnv_ok tyRows_ok eqRows_ok methRows_ok trivial
noncomputable def lam_node_storable (_ : Nat) : Lps := fun _ => none
noncomputable def ctr_node_storable (N : Nat) : Ctr := ctrOf (.val T_api_Pair) .bool [] (fun v => node_storable N v)
theorem sound_node_storable (N : Nat) : SoundF Tryz.prog 39 (fun vs => (ctr_node_storable N).run vs some) :=
  fn_sound (envok_node_storable N) mixed (Λ := lam_node_storable N) (fn := Tryz.f39) (c := c_node_storable) Tryz.func39 (by kernel_rfl) (by kernel_rfl) (obs_ok (l := []) (by kernel_rfl) obsNil) (by kernel_rfl) (by intro v; kernel_rfl)
noncomputable def c_span_Has : Code := match Tryz.f40.body with | some c => c | none => .skip
noncomputable def tab_span_Has (_ : Nat) : List (Nat × Ctr) := []
noncomputable def env_span_Has (N : Nat) : Env := mkEnv tyRows eqRows methRows [] [] (tab_span_Has N)
theorem envok_span_Has (N : Nat) : EnvOk Tryz.prog (env_span_Has N) := mkEnv_ok tyRows_ok eqRows_ok methRows_ok trivial
noncomputable def lam_span_Has (_ : Nat) : Lps := fun _ => none
noncomputable def ctr_span_Has (N : Nat) : Ctr := ctrOf (.cons (.val T_api_Span) .str) .bool [] (fun v => span_Has N v.1 v.2)
theorem sound_span_Has (N : Nat) : SoundF Tryz.prog 40 (fun vs => (ctr_span_Has N).run vs some) :=
  fn_sound (envok_span_Has N) mixed (Λ := lam_span_Has N) (fn := Tryz.f40) (c := c_span_Has) Tryz.func40 (by kernel_rfl) (by kernel_rfl) (obs_ok (l := []) (by kernel_rfl) obsNil) (by kernel_rfl) (by intro v; kernel_rfl)
noncomputable def c_node_Valid_c1 : Code := match Tryz.f38.body with | some c => c | none => .skip
noncomputable def tab_node_Valid_c1 (N : Nat) : List (Nat × Ctr) := [(39, ctr_node_storable N), (40, ctr_span_Has N)]
noncomputable def env_node_Valid_c1 (N : Nat) : Env := mkEnv tyRows eqRows methRows [] [] (tab_node_Valid_c1 N)
theorem envok_node_Valid_c1 (N : Nat) : EnvOk Tryz.prog (env_node_Valid_c1 N) := mkEnv_ok tyRows_ok eqRows_ok methRows_ok ⟨sound_node_storable N, ⟨sound_span_Has N, trivial⟩⟩
noncomputable def lam_node_Valid_c1 (_ : Nat) : Lps := fun _ => none
noncomputable def ctr_node_Valid_c1 (N : Nat) : Ctr := ctrOf (.cons (.val T_api_Pair) (.bx (.cons .str .str) 0)) .bool [] (fun v => node_Valid_c1 N v.1 v.2.1 v.2.2)
theorem sound_node_Valid_c1 (N : Nat) : SoundF Tryz.prog 38 (fun vs => (ctr_node_Valid_c1 N).run vs some) :=
  fn_sound (envok_node_Valid_c1 N) mixed (Λ := lam_node_Valid_c1 N) (fn := Tryz.f38) (c := c_node_Valid_c1) Tryz.func38 (by kernel_rfl) (by kernel_rfl) (obs_ok (l := []) (by kernel_rfl) obsNil) (by kernel_rfl) (by intro v; kernel_rfl)
noncomputable def c_slices_IndexFunc_s_api_Pair_api_Pair__node_Valid_c1 : Code := match Tryz.f89.body with | some c => c | none => .skip
noncomputable def tab_slices_IndexFunc_s_api_Pair_api_Pair__node_Valid_c1 (N : Nat) : List (Nat × Ctr) := [(38, ctr_node_Valid_c1 N)]
noncomputable def env_slices_IndexFunc_s_api_Pair_api_Pair__node_Valid_c1 (N : Nat) : Env := mkEnv tyRows eqRows methRows [] [] (tab_slices_IndexFunc_s_api_Pair_api_Pair__node_Valid_c1 N)
theorem envok_slices_IndexFunc_s_api_Pair_api_Pair__node_Valid_c1 (N : Nat) : EnvOk Tryz.prog (env_slices_IndexFunc_s_api_Pair_api_Pair__node_Valid_c1 N) := mkEnv_ok tyRows_ok eqRows_ok methRows_ok ⟨sound_node_Valid_c1 N, trivial⟩
noncomputable def cut_slices_IndexFunc_s_api_Pair_api_Pair__node_Valid_c1_l0 : Cut := { tms := [0, 1, 7, 8], sh := (.cons (.list T_api_Pair) (.cons (.clo 38 (.bx (.cons .str .str) 0)) (.cons (.int .i64) (.int .i64)))), objs := [], sts := [] }
noncomputable def cut_slices_IndexFunc_s_api_Pair_api_Pair__node_Valid_c1_l0_o0 : Cut := { tms := [4], sh := (.int .i64), objs := [], sts := [] }
noncomputable def cut_slices_IndexFunc_s_api_Pair_api_Pair__node_Valid_c1_l0_o1 : Cut := { tms := [], sh := .nil, objs := [], sts := [] }
noncomputable def lp_slices_IndexFunc_s_api_Pair_api_Pair__node_Valid_c1_l0 (N : Nat) : Lp := lpOf cut_slices_IndexFunc_s_api_Pair_api_Pair__node_Valid_c1_l0 (1, cut_slices_IndexFunc_s_api_Pair_api_Pair__node_Valid_c1_l0_o0) [(2, cut_slices_IndexFunc_s_api_Pair_api_Pair__node_Valid_c1_l0_o1)] (fun v => slices_IndexFunc_s_api_Pair_api_Pair__node_Valid_c1_l0 N N v.1.1 v.1.2.1.1 v.1.2.1.2 v.1.2.2.1 v.1.2.2.2)
noncomputable def lam_slices_IndexFunc_s_api_Pair_api_Pair__node_Valid_c1_l0 (_ : Nat) : Lps := fun _ => none
theorem lpok_slices_IndexFunc_s_api_Pair_api_Pair__node_Valid_c1_l0 (N : Nat) (ro : Option Nat) : LpOk Tryz.prog 19 ro (lp_slices_IndexFunc_s_api_Pair_api_Pair__node_Valid_c1_l0 N) (codeAt c_slices_IndexFunc_s_api_Pair_api_Pair__node_Valid_c1 [true, false, true, false]) := by
  rw [show (codeAt c_slices_IndexFunc_s_api_Pair_api_Pair__node_Valid_c1 [true, false, true, false]) = .loop (codeAt c_slices_IndexFunc_s_api_Pair_api_Pair__node_Valid_c1 [true, false, true, false, false]) by kernel_rfl]
  exact loop_ok (envok_slices_IndexFunc_s_api_Pair_api_Pair__node_Valid_c1 N) mixed (Λ := lam_slices_IndexFunc_s_api_Pair_api_Pair__node_Valid_c1_l0 N) (p := 52) (obs_ok (l := []) (by kernel_rfl) obsNil) (by kernel_rfl) (by intro rec v; kernel_rfl) N
noncomputable def lam_slices_IndexFunc_s_api_Pair_api_Pair__node_Valid_c1 (N : Nat) : Lps := fun p => bif Nat.beq p 26 then some (lp_slices_IndexFunc_s_api_Pair_api_Pair__node_Valid_c1_l0 N) else none
noncomputable def ctr_slices_IndexFunc_s_api_Pair_api_Pair__node_Valid_c1 (N : Nat) : Ctr := ctrOf (.cons (.list T_api_Pair) (.clo 38 (.bx (.cons .str .str) 0))) (.int .i64) [] (fun v => slices_IndexFunc_s_api_Pair_api_Pair__node_Valid_c1 N v.1 v.2.1 v.2.2)
theorem sound_slices_IndexFunc_s_api_Pair_api_Pair__node_Valid_c1 (N : Nat) : SoundF Tryz.prog 89 (fun vs => (ctr_slices_IndexFunc_s_api_Pair_api_Pair__node_Valid_c1 N).run vs some) :=
  fn_sound (envok_slices_IndexFunc_s_api_Pair_api_Pair__node_Valid_c1 N) mixed (Λ := lam_slices_IndexFunc_s_api_Pair_api_Pair__node_Valid_c1 N) (fn := Tryz.f89) (c := c_slices_IndexFunc_s_api_Pair_api_Pair__node_Valid_c1) Tryz.func89 (by kernel_rfl) (by kernel_rfl) (obs_ok (l := [(lp_slices_IndexFunc_s_api_Pair_api_Pair__node_Valid_c1_l0 N, (codeAt c_slices_IndexFunc_s_api_Pair_api_Pair__node_Valid_c1 [true, false, true, false]))]) (by kernel_rfl) (obsCons (lpok_slices_IndexFunc_s_api_Pair_api_Pair__node_Valid_c1_l0 N none) obsNil)) (by kernel_rfl) (by intro v; kernel_rfl)
noncomputable def c_slices_ContainsFunc_s_api_Pair_api_Pair__node_Valid_c1 : Code := match Tryz.f42.body with | some c => c | none => .skip
noncomputable def tab_slices_ContainsFunc_s_api_Pair_api_Pair__node_Valid_c1 (N : Nat) : List (Nat × Ctr) := [(89, ctr_slices_IndexFunc_s_api_Pair_api_Pair__node_Valid_c1 N)]
noncomputable def env_slices_ContainsFunc_s_api_Pair_api_Pair__node_Valid_c1 (N : Nat) : Env := mkEnv tyRows eqRows methRows [] [] (tab_slices_ContainsFunc_s_api_Pair_api_Pair__node_Valid_c1 N)
theorem envok_slices_ContainsFunc_s_api_Pair_api_Pair__node_Valid_c1 (N : Nat) : EnvOk Tryz.prog (env_slices_ContainsFunc_s_api_Pair_api_Pair__node_Valid_c1 N) := mkEnv_ok tyRows_ok eqRows_ok methRows_ok ⟨sound_slices_IndexFunc_s_api_Pair_api_Pair__node_Valid_c1 N, trivial⟩
noncomputable def lam_slices_ContainsFunc_s_api_Pair_api_Pair__node_Valid_c1 (_ : Nat) : Lps := fun _ => none
noncomputable def ctr_slices_ContainsFunc_s_api_Pair_api_Pair__node_Valid_c1 (N : Nat) : Ctr := ctrOf (.cons (.list T_api_Pair) (.clo 38 (.bx (.cons .str .str) 0))) .bool [] (fun v => slices_ContainsFunc_s_api_Pair_api_Pair__node_Valid_c1 N v.1 v.2.1 v.2.2)
theorem sound_slices_ContainsFunc_s_api_Pair_api_Pair__node_Valid_c1 (N : Nat) : SoundF Tryz.prog 42 (fun vs => (ctr_slices_ContainsFunc_s_api_Pair_api_Pair__node_Valid_c1 N).run vs some) :=
  fn_sound (envok_slices_ContainsFunc_s_api_Pair_api_Pair__node_Valid_c1 N) mixed (Λ := lam_slices_ContainsFunc_s_api_Pair_api_Pair__node_Valid_c1 N) (fn := Tryz.f42) (c := c_slices_ContainsFunc_s_api_Pair_api_Pair__node_Valid_c1) Tryz.func42 (by kernel_rfl) (by kernel_rfl) (obs_ok (l := []) (by kernel_rfl) obsNil) (by kernel_rfl) (by intro v; kernel_rfl)
noncomputable def c_node_validSum : Code := match Tryz.f43.body with | some c => c | none => .skip
noncomputable def tab_node_validSum (_ : Nat) : List (Nat × Ctr) := []
noncomputable def env_node_validSum (N : Nat) : Env := mkEnv tyRows eqRows methRows [] [] (tab_node_validSum N)
theorem envok_node_validSum (N : Nat) : EnvOk Tryz.prog (env_node_validSum N) := mkEnv_ok tyRows_ok eqRows_ok methRows_ok trivial
noncomputable def cut_node_validSum_l0 : Cut := { tms := [9, 10, 11], sh := (.cons (.own 2000000) (.cons (.int .i64) (.int .i64))), objs := [(2000000, [9], .sl T_api_Range)], sts := [] }
noncomputable def cut_node_validSum_l0_o0 : Cut := { tms := [2], sh := .bool, objs := [], sts := [] }
noncomputable def cut_node_validSum_l0_o1 : Cut := { tms := [], sh := .nil, objs := [], sts := [] }
noncomputable def lp_node_validSum_l0 (N : Nat) : Lp := lpOf cut_node_validSum_l0 (1, cut_node_validSum_l0_o0) [(2, cut_node_validSum_l0_o1)] (fun v => node_validSum_l0 N N v.1.2.1 v.1.2.2 v.2.1)
noncomputable def lam_node_validSum_l0 (_ : Nat) : Lps := fun _ => none
theorem lpok_node_validSum_l0 (N : Nat) (ro : Option Nat) : LpOk Tryz.prog 31 ro (lp_node_validSum_l0 N) (codeAt c_node_validSum [true, false, true, false]) := by
  rw [show (codeAt c_node_validSum [true, false, true, false]) = .loop (codeAt c_node_validSum [true, false, true, false, false]) by kernel_rfl]
  exact loop_ok (envok_node_validSum N) mixed (Λ := lam_node_validSum_l0 N) (p := 52) (obs_ok (l := []) (by kernel_rfl) obsNil) (by kernel_rfl) (by intro rec v; kernel_rfl) N
noncomputable def lam_node_validSum (N : Nat) : Lps := fun p => bif Nat.beq p 26 then some (lp_node_validSum_l0 N) else none
noncomputable def ctr_node_validSum (N : Nat) : Ctr := ctrOf (.val T_api_Sum) .bool [] (fun v => node_validSum N v)
theorem sound_node_validSum (N : Nat) : SoundF Tryz.prog 43 (fun vs => (ctr_node_validSum N).run vs some) :=
  fn_sound (envok_node_validSum N) mixed (Λ := lam_node_validSum N) (fn := Tryz.f43) (c := c_node_validSum) Tryz.func43 (by kernel_rfl) (by kernel_rfl) (obs_ok (l := [(lp_node_validSum_l0 N, (codeAt c_node_validSum [true, false, true, false]))]) (by kernel_rfl) (obsCons (lpok_node_validSum_l0 N none) obsNil)) (by kernel_rfl) (by intro v; kernel_rfl)
noncomputable def c_msg_of : Code := match Tryz.f93.body with | some c => c | none => .skip
noncomputable def tab_msg_of (_ : Nat) : List (Nat × Ctr) := []
noncomputable def env_msg_of (N : Nat) : Env := mkEnv tyRows eqRows methRows [] [] (tab_msg_of N)
theorem envok_msg_of (N : Nat) : EnvOk Tryz.prog (env_msg_of N) := mkEnv_ok tyRows_ok eqRows_ok methRows_ok trivial
noncomputable def lam_msg_of (_ : Nat) : Lps := fun _ => none
noncomputable def ctr_msg_of (N : Nat) : Ctr := ctrOf (.val T_api_Msg) (.iface 174 (.val T_api_Msg)) [(.iface 175 (.val T_api_Msg)), (.iface 176 (.val T_api_Msg)), (.iface 177 (.val T_api_Msg)), (.iface 178 (.val T_api_Msg)), (.iface 179 (.val T_api_Msg)), .nili] (fun v => msg_of N v)
theorem sound_msg_of (N : Nat) : SoundF Tryz.prog 93 (fun vs => (ctr_msg_of N).run vs some) :=
  fn_sound (envok_msg_of N) mixed (Λ := lam_msg_of N) (fn := Tryz.f93) (c := c_msg_of) Tryz.func93 (by kernel_rfl) (by kernel_rfl) (obs_ok (l := []) (by kernel_rfl) obsNil) (by kernel_rfl) (by intro v; kernel_rfl)
noncomputable def c_msg_in : Code := match Tryz.f183.body with | some c => c | none => .skip
noncomputable def tab_msg_in (_ : Nat) : List (Nat × Ctr) := []
noncomputable def env_msg_in (N : Nat) : Env := mkEnv tyRows eqRows methRows [] [] (tab_msg_in N)
theorem envok_msg_in (N : Nat) : EnvOk Tryz.prog (env_msg_in N) := mkEnv_ok tyRows_ok eqRows_ok methRows_ok trivial
noncomputable def lam_msg_in (_ : Nat) : Lps := fun _ => none
noncomputable def ctr_msg_in (N : Nat) : Ctr := ctrOf (.cons (.int .i64) (.cons (.int .i64) (.int .i64))) .bool [] (fun v => msg_in N v.1 v.2.1 v.2.2)
theorem sound_msg_in (N : Nat) : SoundF Tryz.prog 183 (fun vs => (ctr_msg_in N).run vs some) :=
  fn_sound (envok_msg_in N) mixed (Λ := lam_msg_in N) (fn := Tryz.f183) (c := c_msg_in) Tryz.func183 (by kernel_rfl) (by kernel_rfl) (obs_ok (l := []) (by kernel_rfl) obsNil) (by kernel_rfl) (by intro v; kernel_rfl)
noncomputable def c_msg_put_valid : Code := match Tryz.f179.body with | some c => c | none => .skip
noncomputable def tab_msg_put_valid (N : Nat) : List (Nat × Ctr) := [(183, ctr_msg_in N)]
noncomputable def env_msg_put_valid (N : Nat) : Env := mkEnv tyRows eqRows methRows [] [] (tab_msg_put_valid N)
theorem envok_msg_put_valid (N : Nat) : EnvOk Tryz.prog (env_msg_put_valid N) := mkEnv_ok tyRows_ok eqRows_ok methRows_ok ⟨sound_msg_in N, trivial⟩
noncomputable def lam_msg_put_valid (_ : Nat) : Lps := fun _ => none
noncomputable def ctr_msg_put_valid (N : Nat) : Ctr := ctrOf (.val T_api_Msg) .bool [] (fun v => msg_put_valid N v)
theorem sound_msg_put_valid (N : Nat) : SoundF Tryz.prog 179 (fun vs => (ctr_msg_put_valid N).run vs some) :=
  fn_sound (envok_msg_put_valid N) mixed (Λ := lam_msg_put_valid N) (fn := Tryz.f179) (c := c_msg_put_valid) Tryz.func179 (by kernel_rfl) (by kernel_rfl) (obs_ok (l := []) (by kernel_rfl) obsNil) (by kernel_rfl) (by intro v; kernel_rfl)
noncomputable def c_msg_put_bare : Code := match Tryz.f177.body with | some c => c | none => .skip
noncomputable def tab_msg_put_bare (_ : Nat) : List (Nat × Ctr) := []
noncomputable def env_msg_put_bare (N : Nat) : Env := mkEnv tyRows eqRows methRows [] [] (tab_msg_put_bare N)
theorem envok_msg_put_bare (N : Nat) : EnvOk Tryz.prog (env_msg_put_bare N) := mkEnv_ok tyRows_ok eqRows_ok methRows_ok trivial
noncomputable def lam_msg_put_bare (_ : Nat) : Lps := fun _ => none
noncomputable def ctr_msg_put_bare (N : Nat) : Ctr := ctrOf (.val T_api_Msg) (.val T_api_Msg) [] (fun v => msg_put_bare N v)
theorem sound_msg_put_bare (N : Nat) : SoundF Tryz.prog 177 (fun vs => (ctr_msg_put_bare N).run vs some) :=
  fn_sound (envok_msg_put_bare N) mixed (Λ := lam_msg_put_bare N) (fn := Tryz.f177) (c := c_msg_put_bare) Tryz.func177 (by kernel_rfl) (by kernel_rfl) (obs_ok (l := []) (by kernel_rfl) obsNil) (by kernel_rfl) (by intro v; kernel_rfl)
noncomputable def c_msg_del_valid : Code := match Tryz.f201.body with | some c => c | none => .skip
noncomputable def tab_msg_del_valid (N : Nat) : List (Nat × Ctr) := [(183, ctr_msg_in N)]
noncomputable def env_msg_del_valid (N : Nat) : Env := mkEnv tyRows eqRows methRows [] [] (tab_msg_del_valid N)
theorem envok_msg_del_valid (N : Nat) : EnvOk Tryz.prog (env_msg_del_valid N) := mkEnv_ok tyRows_ok eqRows_ok methRows_ok ⟨sound_msg_in N, trivial⟩
noncomputable def lam_msg_del_valid (_ : Nat) : Lps := fun _ => none
noncomputable def ctr_msg_del_valid (N : Nat) : Ctr := ctrOf (.val T_api_Msg) .bool [] (fun v => msg_del_valid N v)
theorem sound_msg_del_valid (N : Nat) : SoundF Tryz.prog 201 (fun vs => (ctr_msg_del_valid N).run vs some) :=
  fn_sound (envok_msg_del_valid N) mixed (Λ := lam_msg_del_valid N) (fn := Tryz.f201) (c := c_msg_del_valid) Tryz.func201 (by kernel_rfl) (by kernel_rfl) (obs_ok (l := []) (by kernel_rfl) obsNil) (by kernel_rfl) (by intro v; kernel_rfl)
noncomputable def c_msg_del_bare : Code := match Tryz.f199.body with | some c => c | none => .skip
noncomputable def tab_msg_del_bare (_ : Nat) : List (Nat × Ctr) := []
noncomputable def env_msg_del_bare (N : Nat) : Env := mkEnv tyRows eqRows methRows [] [] (tab_msg_del_bare N)
theorem envok_msg_del_bare (N : Nat) : EnvOk Tryz.prog (env_msg_del_bare N) := mkEnv_ok tyRows_ok eqRows_ok methRows_ok trivial
noncomputable def lam_msg_del_bare (_ : Nat) : Lps := fun _ => none
noncomputable def ctr_msg_del_bare (N : Nat) : Ctr := ctrOf (.val T_api_Msg) (.val T_api_Msg) [] (fun v => msg_del_bare N v)
theorem sound_msg_del_bare (N : Nat) : SoundF Tryz.prog 199 (fun vs => (ctr_msg_del_bare N).run vs some) :=
  fn_sound (envok_msg_del_bare N) mixed (Λ := lam_msg_del_bare N) (fn := Tryz.f199) (c := c_msg_del_bare) Tryz.func199 (by kernel_rfl) (by kernel_rfl) (obs_ok (l := []) (by kernel_rfl) obsNil) (by kernel_rfl) (by intro v; kernel_rfl)
noncomputable def c_span_Empty : Code := match Tryz.f90.body with | some c => c | none => .skip
noncomputable def tab_span_Empty (_ : Nat) : List (Nat × Ctr) := []
noncomputable def env_span_Empty (N : Nat) : Env := mkEnv tyRows eqRows methRows [] [] (tab_span_Empty N)
theorem envok_span_Empty (N : Nat) : EnvOk Tryz.prog (env_span_Empty N) := mkEnv_ok tyRows_ok eqRows_ok methRows_ok trivial
noncomputable def lam_span_Empty (_ : Nat) : Lps := fun _ => none
noncomputable def ctr_span_Empty (N : Nat) : Ctr := ctrOf (.val T_api_Span) .bool [] (fun v => span_Empty N v)
theorem sound_span_Empty (N : Nat) : SoundF Tryz.prog 90 (fun vs => (ctr_span_Empty N).run vs some) :=
  fn_sound (envok_span_Empty N) mixed (Λ := lam_span_Empty N) (fn := Tryz.f90) (c := c_span_Empty) Tryz.func90 (by kernel_rfl) (by kernel_rfl) (obs_ok (l := []) (by kernel_rfl) obsNil) (by kernel_rfl) (by intro v; kernel_rfl)
noncomputable def c_msg_ends : Code := match Tryz.f215.body with | some c => c | none => .skip
noncomputable def tab_msg_ends (N : Nat) : List (Nat × Ctr) := [(90, ctr_span_Empty N)]
noncomputable def env_msg_ends (N : Nat) : Env := mkEnv tyRows eqRows methRows [] [] (tab_msg_ends N)
theorem envok_msg_ends (N : Nat) : EnvOk Tryz.prog (env_msg_ends N) := mkEnv_ok tyRows_ok eqRows_ok methRows_ok ⟨sound_span_Empty N, trivial⟩
noncomputable def lam_msg_ends (_ : Nat) : Lps := fun _ => none
noncomputable def ctr_msg_ends (N : Nat) : Ctr := ctrOf (.val T_api_Span) .bool [] (fun v => msg_ends N v)
theorem sound_msg_ends (N : Nat) : SoundF Tryz.prog 215 (fun vs => (ctr_msg_ends N).run vs some) :=
  fn_sound (envok_msg_ends N) mixed (Λ := lam_msg_ends N) (fn := Tryz.f215) (c := c_msg_ends) Tryz.func215 (by kernel_rfl) (by kernel_rfl) (obs_ok (l := []) (by kernel_rfl) obsNil) (by kernel_rfl) (by intro v; kernel_rfl)
noncomputable def c_msg_drop_valid : Code := match Tryz.f212.body with | some c => c | none => .skip
noncomputable def tab_msg_drop_valid (N : Nat) : List (Nat × Ctr) := [(215, ctr_msg_ends N)]
noncomputable def env_msg_drop_valid (N : Nat) : Env := mkEnv tyRows eqRows methRows [] [] (tab_msg_drop_valid N)
theorem envok_msg_drop_valid (N : Nat) : EnvOk Tryz.prog (env_msg_drop_valid N) := mkEnv_ok tyRows_ok eqRows_ok methRows_ok ⟨sound_msg_ends N, trivial⟩
noncomputable def lam_msg_drop_valid (_ : Nat) : Lps := fun _ => none
noncomputable def ctr_msg_drop_valid (N : Nat) : Ctr := ctrOf (.val T_api_Msg) .bool [] (fun v => msg_drop_valid N v)
theorem sound_msg_drop_valid (N : Nat) : SoundF Tryz.prog 212 (fun vs => (ctr_msg_drop_valid N).run vs some) :=
  fn_sound (envok_msg_drop_valid N) mixed (Λ := lam_msg_drop_valid N) (fn := Tryz.f212) (c := c_msg_drop_valid) Tryz.func212 (by kernel_rfl) (by kernel_rfl) (obs_ok (l := []) (by kernel_rfl) obsNil) (by kernel_rfl) (by intro v; kernel_rfl)
noncomputable def c_msg_drop_bare : Code := match Tryz.f210.body with | some c => c | none => .skip
noncomputable def tab_msg_drop_bare (_ : Nat) : List (Nat × Ctr) := []
noncomputable def env_msg_drop_bare (N : Nat) : Env := mkEnv tyRows eqRows methRows [] [] (tab_msg_drop_bare N)
theorem envok_msg_drop_bare (N : Nat) : EnvOk Tryz.prog (env_msg_drop_bare N) := mkEnv_ok tyRows_ok eqRows_ok methRows_ok trivial
noncomputable def lam_msg_drop_bare (_ : Nat) : Lps := fun _ => none
noncomputable def ctr_msg_drop_bare (N : Nat) : Ctr := ctrOf (.val T_api_Msg) (.val T_api_Msg) [] (fun v => msg_drop_bare N v)
theorem sound_msg_drop_bare (N : Nat) : SoundF Tryz.prog 210 (fun vs => (ctr_msg_drop_bare N).run vs some) :=
  fn_sound (envok_msg_drop_bare N) mixed (Λ := lam_msg_drop_bare N) (fn := Tryz.f210) (c := c_msg_drop_bare) Tryz.func210 (by kernel_rfl) (by kernel_rfl) (obs_ok (l := []) (by kernel_rfl) obsNil) (by kernel_rfl) (by intro v; kernel_rfl)
noncomputable def c_stringslite_HasPrefix : Code := match Tryz.f132.body with | some c => c | none => .skip
noncomputable def tab_stringslite_HasPrefix (_ : Nat) : List (Nat × Ctr) := []
noncomputable def env_stringslite_HasPrefix (N : Nat) : Env := mkEnv tyRows eqRows methRows [] [] (tab_stringslite_HasPrefix N)
theorem envok_stringslite_HasPrefix (N : Nat) : EnvOk Tryz.prog (env_stringslite_HasPrefix N) := mkEnv_ok tyRows_ok eqRows_ok methRows_ok trivial
noncomputable def lam_stringslite_HasPrefix (_ : Nat) : Lps := fun _ => none
noncomputable def ctr_stringslite_HasPrefix (N : Nat) : Ctr := ctrOf (.cons .str .str) .bool [] (fun v => stringslite_HasPrefix N v.1 v.2)
theorem sound_stringslite_HasPrefix (N : Nat) : SoundF Tryz.prog 132 (fun vs => (ctr_stringslite_HasPrefix N).run vs some) :=
  fn_sound (envok_stringslite_HasPrefix N) mixed (Λ := lam_stringslite_HasPrefix N) (fn := Tryz.f132) (c := c_stringslite_HasPrefix) Tryz.func132 (by kernel_rfl) (by kernel_rfl) (obs_ok (l := []) (by kernel_rfl) obsNil) (by kernel_rfl) (by intro v; kernel_rfl)
noncomputable def c_strings_HasPrefix : Code := match Tryz.f227.body with | some c => c | none => .skip
noncomputable def tab_strings_HasPrefix (N : Nat) : List (Nat × Ctr) := [(132, ctr_stringslite_HasPrefix N)]
noncomputable def env_strings_HasPrefix (N : Nat) : Env := mkEnv tyRows eqRows methRows [] [] (tab_strings_HasPrefix N)
theorem envok_strings_HasPrefix (N : Nat) : EnvOk Tryz.prog (env_strings_HasPrefix N) := mkEnv_ok tyRows_ok eqRows_ok methRows_ok ⟨sound_stringslite_HasPrefix N, trivial⟩
noncomputable def lam_strings_HasPrefix (_ : Nat) : Lps := fun _ => none
noncomputable def ctr_strings_HasPrefix (N : Nat) : Ctr := ctrOf (.cons .str .str) .bool [] (fun v => strings_HasPrefix N v.1 v.2)
theorem sound_strings_HasPrefix (N : Nat) : SoundF Tryz.prog 227 (fun vs => (ctr_strings_HasPrefix N).run vs some) :=
  fn_sound (envok_strings_HasPrefix N) mixed (Λ := lam_strings_HasPrefix N) (fn := Tryz.f227) (c := c_strings_HasPrefix) Tryz.func227 (by kernel_rfl) (by kernel_rfl) (obs_ok (l := []) (by kernel_rfl) obsNil) (by kernel_rfl) (by intro v; kernel_rfl)
noncomputable def c_msg_apart : Code := match Tryz.f224.body with | some c => c | none => .skip
noncomputable def tab_msg_apart (N : Nat) : List (Nat × Ctr) := [(183, ctr_msg_in N), (227, ctr_strings_HasPrefix N)]
noncomputable def env_msg_apart (N : Nat) : Env := mkEnv tyRows eqRows methRows [] [] (tab_msg_apart N)
theorem envok_msg_apart (N : Nat) : EnvOk Tryz.prog (env_msg_apart N) := mkEnv_ok tyRows_ok eqRows_ok methRows_ok ⟨sound_msg_in N, ⟨sound_strings_HasPrefix N, trivial⟩⟩
noncomputable def lam_msg_apart (_ : Nat) : Lps := fun _ => none
noncomputable def ctr_msg_apart (N : Nat) : Ctr := ctrOf (.cons .str .str) .bool [] (fun v => msg_apart N v.1 v.2)
theorem sound_msg_apart (N : Nat) : SoundF Tryz.prog 224 (fun vs => (ctr_msg_apart N).run vs some) :=
  fn_sound (envok_msg_apart N) mixed (Λ := lam_msg_apart N) (fn := Tryz.f224) (c := c_msg_apart) Tryz.func224 (by kernel_rfl) (by kernel_rfl) (obs_ok (l := []) (by kernel_rfl) obsNil) (by kernel_rfl) (by intro v; kernel_rfl)
noncomputable def c_msg_move_valid : Code := match Tryz.f219.body with | some c => c | none => .skip
noncomputable def tab_msg_move_valid (N : Nat) : List (Nat × Ctr) := [(224, ctr_msg_apart N)]
noncomputable def env_msg_move_valid (N : Nat) : Env := mkEnv tyRows eqRows methRows [] [] (tab_msg_move_valid N)
theorem envok_msg_move_valid (N : Nat) : EnvOk Tryz.prog (env_msg_move_valid N) := mkEnv_ok tyRows_ok eqRows_ok methRows_ok ⟨sound_msg_apart N, trivial⟩
noncomputable def lam_msg_move_valid (_ : Nat) : Lps := fun _ => none
noncomputable def ctr_msg_move_valid (N : Nat) : Ctr := ctrOf (.val T_api_Msg) .bool [] (fun v => msg_move_valid N v)
theorem sound_msg_move_valid (N : Nat) : SoundF Tryz.prog 219 (fun vs => (ctr_msg_move_valid N).run vs some) :=
  fn_sound (envok_msg_move_valid N) mixed (Λ := lam_msg_move_valid N) (fn := Tryz.f219) (c := c_msg_move_valid) Tryz.func219 (by kernel_rfl) (by kernel_rfl) (obs_ok (l := []) (by kernel_rfl) obsNil) (by kernel_rfl) (by intro v; kernel_rfl)
noncomputable def c_msg_move_bare : Code := match Tryz.f217.body with | some c => c | none => .skip
noncomputable def tab_msg_move_bare (_ : Nat) : List (Nat × Ctr) := []
noncomputable def env_msg_move_bare (N : Nat) : Env := mkEnv tyRows eqRows methRows [] [] (tab_msg_move_bare N)
theorem envok_msg_move_bare (N : Nat) : EnvOk Tryz.prog (env_msg_move_bare N) := mkEnv_ok tyRows_ok eqRows_ok methRows_ok trivial
noncomputable def lam_msg_move_bare (_ : Nat) : Lps := fun _ => none
noncomputable def ctr_msg_move_bare (N : Nat) : Ctr := ctrOf (.val T_api_Msg) (.val T_api_Msg) [] (fun v => msg_move_bare N v)
theorem sound_msg_move_bare (N : Nat) : SoundF Tryz.prog 217 (fun vs => (ctr_msg_move_bare N).run vs some) :=
  fn_sound (envok_msg_move_bare N) mixed (Λ := lam_msg_move_bare N) (fn := Tryz.f217) (c := c_msg_move_bare) Tryz.func217 (by kernel_rfl) (by kernel_rfl) (obs_ok (l := []) (by kernel_rfl) obsNil) (by kernel_rfl) (by intro v; kernel_rfl)
noncomputable def c_msg_clone_valid : Code := match Tryz.f232.body with | some c => c | none => .skip
noncomputable def tab_msg_clone_valid (N : Nat) : List (Nat × Ctr) := [(224, ctr_msg_apart N)]
noncomputable def env_msg_clone_valid (N : Nat) : Env := mkEnv tyRows eqRows methRows [] [] (tab_msg_clone_valid N)
theorem envok_msg_clone_valid (N : Nat) : EnvOk Tryz.prog (env_msg_clone_valid N) := mkEnv_ok tyRows_ok eqRows_ok methRows_ok ⟨sound_msg_apart N, trivial⟩
noncomputable def lam_msg_clone_valid (_ : Nat) : Lps := fun _ => none
noncomputable def ctr_msg_clone_valid (N : Nat) : Ctr := ctrOf (.val T_api_Msg) .bool [] (fun v => msg_clone_valid N v)
theorem sound_msg_clone_valid (N : Nat) : SoundF Tryz.prog 232 (fun vs => (ctr_msg_clone_valid N).run vs some) :=
  fn_sound (envok_msg_clone_valid N) mixed (Λ := lam_msg_clone_valid N) (fn := Tryz.f232) (c := c_msg_clone_valid) Tryz.func232 (by kernel_rfl) (by kernel_rfl) (obs_ok (l := []) (by kernel_rfl) obsNil) (by kernel_rfl) (by intro v; kernel_rfl)
noncomputable def c_msg_clone_bare : Code := match Tryz.f230.body with | some c => c | none => .skip
noncomputable def tab_msg_clone_bare (_ : Nat) : List (Nat × Ctr) := []
noncomputable def env_msg_clone_bare (N : Nat) : Env := mkEnv tyRows eqRows methRows [] [] (tab_msg_clone_bare N)
theorem envok_msg_clone_bare (N : Nat) : EnvOk Tryz.prog (env_msg_clone_bare N) := mkEnv_ok tyRows_ok eqRows_ok methRows_ok trivial
noncomputable def lam_msg_clone_bare (_ : Nat) : Lps := fun _ => none
noncomputable def ctr_msg_clone_bare (N : Nat) : Ctr := ctrOf (.val T_api_Msg) (.val T_api_Msg) [] (fun v => msg_clone_bare N v)
theorem sound_msg_clone_bare (N : Nat) : SoundF Tryz.prog 230 (fun vs => (ctr_msg_clone_bare N).run vs some) :=
  fn_sound (envok_msg_clone_bare N) mixed (Λ := lam_msg_clone_bare N) (fn := Tryz.f230) (c := c_msg_clone_bare) Tryz.func230 (by kernel_rfl) (by kernel_rfl) (obs_ok (l := []) (by kernel_rfl) obsNil) (by kernel_rfl) (by intro v; kernel_rfl)
noncomputable def c_msg_stamp_valid : Code := match Tryz.f238.body with | some c => c | none => .skip
noncomputable def tab_msg_stamp_valid (N : Nat) : List (Nat × Ctr) := [(215, ctr_msg_ends N), (183, ctr_msg_in N)]
noncomputable def env_msg_stamp_valid (N : Nat) : Env := mkEnv tyRows eqRows methRows [] [] (tab_msg_stamp_valid N)
theorem envok_msg_stamp_valid (N : Nat) : EnvOk Tryz.prog (env_msg_stamp_valid N) := mkEnv_ok tyRows_ok eqRows_ok methRows_ok ⟨sound_msg_ends N, ⟨sound_msg_in N, trivial⟩⟩
noncomputable def lam_msg_stamp_valid (_ : Nat) : Lps := fun _ => none
noncomputable def ctr_msg_stamp_valid (N : Nat) : Ctr := ctrOf (.val T_api_Msg) .bool [] (fun v => msg_stamp_valid N v)
theorem sound_msg_stamp_valid (N : Nat) : SoundF Tryz.prog 238 (fun vs => (ctr_msg_stamp_valid N).run vs some) :=
  fn_sound (envok_msg_stamp_valid N) mixed (Λ := lam_msg_stamp_valid N) (fn := Tryz.f238) (c := c_msg_stamp_valid) Tryz.func238 (by kernel_rfl) (by kernel_rfl) (obs_ok (l := []) (by kernel_rfl) obsNil) (by kernel_rfl) (by intro v; kernel_rfl)
noncomputable def c_msg_stamp_bare : Code := match Tryz.f236.body with | some c => c | none => .skip
noncomputable def tab_msg_stamp_bare (_ : Nat) : List (Nat × Ctr) := []
noncomputable def env_msg_stamp_bare (N : Nat) : Env := mkEnv tyRows eqRows methRows [] [] (tab_msg_stamp_bare N)
theorem envok_msg_stamp_bare (N : Nat) : EnvOk Tryz.prog (env_msg_stamp_bare N) := mkEnv_ok tyRows_ok eqRows_ok methRows_ok trivial
noncomputable def lam_msg_stamp_bare (_ : Nat) : Lps := fun _ => none
noncomputable def ctr_msg_stamp_bare (N : Nat) : Ctr := ctrOf (.val T_api_Msg) (.val T_api_Msg) [] (fun v => msg_stamp_bare N v)
theorem sound_msg_stamp_bare (N : Nat) : SoundF Tryz.prog 236 (fun vs => (ctr_msg_stamp_bare N).run vs some) :=
  fn_sound (envok_msg_stamp_bare N) mixed (Λ := lam_msg_stamp_bare N) (fn := Tryz.f236) (c := c_msg_stamp_bare) Tryz.func236 (by kernel_rfl) (by kernel_rfl) (obs_ok (l := []) (by kernel_rfl) obsNil) (by kernel_rfl) (by intro v; kernel_rfl)
noncomputable def c_msg_Valid : Code := match Tryz.f48.body with | some c => c | none => .skip
noncomputable def tab_msg_Valid (N : Nat) : List (Nat × Ctr) := [(93, ctr_msg_of N), (179, ctr_msg_put_valid N), (177, ctr_msg_put_bare N), (201, ctr_msg_del_valid N), (199, ctr_msg_del_bare N), (212, ctr_msg_drop_valid N), (210, ctr_msg_drop_bare N), (219, ctr_msg_move_valid N), (217, ctr_msg_move_bare N), (232, ctr_msg_clone_valid N), (230, ctr_msg_clone_bare N), (238, ctr_msg_stamp_valid N), (236, ctr_msg_stamp_bare N)]
noncomputable def env_msg_Valid (N : Nat) : Env := mkEnv tyRows eqRows methRows [] [] (tab_msg_Valid N)
theorem envok_msg_Valid (N : Nat) : EnvOk Tryz.prog (env_msg_Valid N) := mkEnv_ok tyRows_ok eqRows_ok methRows_ok ⟨sound_msg_of N, ⟨sound_msg_put_valid N, ⟨sound_msg_put_bare N, ⟨sound_msg_del_valid N, ⟨sound_msg_del_bare N, ⟨sound_msg_drop_valid N, ⟨sound_msg_drop_bare N, ⟨sound_msg_move_valid N, ⟨sound_msg_move_bare N, ⟨sound_msg_clone_valid N, ⟨sound_msg_clone_bare N, ⟨sound_msg_stamp_valid N, ⟨sound_msg_stamp_bare N, trivial⟩⟩⟩⟩⟩⟩⟩⟩⟩⟩⟩⟩⟩
noncomputable def lam_msg_Valid (_ : Nat) : Lps := fun _ => none
noncomputable def ctr_msg_Valid (N : Nat) : Ctr := ctrOf (.val T_api_Msg) .bool [] (fun v => msg_Valid N v)
theorem sound_msg_Valid (N : Nat) : SoundF Tryz.prog 48 (fun vs => (ctr_msg_Valid N).run vs some) :=
  fn_sound (envok_msg_Valid N) mixed (Λ := lam_msg_Valid N) (fn := Tryz.f48) (c := c_msg_Valid) Tryz.func48 (by kernel_rfl) (by kernel_rfl) (obs_ok (l := []) (by kernel_rfl) obsNil) (by kernel_rfl) (by intro v; kernel_rfl)
noncomputable def c_msg_put_reads : Code := match Tryz.f178.body with | some c => c | none => .skip
noncomputable def tab_msg_put_reads (_ : Nat) : List (Nat × Ctr) := []
noncomputable def env_msg_put_reads (N : Nat) : Env := mkEnv tyRows eqRows methRows [] [] (tab_msg_put_reads N)
theorem envok_msg_put_reads (N : Nat) : EnvOk Tryz.prog (env_msg_put_reads N) := mkEnv_ok tyRows_ok eqRows_ok methRows_ok trivial
noncomputable def lam_msg_put_reads (_ : Nat) : Lps := fun _ => none
noncomputable def ctr_msg_put_reads (N : Nat) : Ctr := ctrOf (.val T_api_Msg) (.fresh T_api_Span) [] (fun v => msg_put_reads N v)
theorem sound_msg_put_reads (N : Nat) : SoundF Tryz.prog 178 (fun vs => (ctr_msg_put_reads N).run vs some) :=
  fn_sound (envok_msg_put_reads N) mixed (Λ := lam_msg_put_reads N) (fn := Tryz.f178) (c := c_msg_put_reads) Tryz.func178 (by kernel_rfl) (by kernel_rfl) (obs_ok (l := []) (by kernel_rfl) obsNil) (by kernel_rfl) (by intro v; kernel_rfl)
noncomputable def c_msg_del_reads : Code := match Tryz.f200.body with | some c => c | none => .skip
noncomputable def tab_msg_del_reads (_ : Nat) : List (Nat × Ctr) := []
noncomputable def env_msg_del_reads (N : Nat) : Env := mkEnv tyRows eqRows methRows [] [] (tab_msg_del_reads N)
theorem envok_msg_del_reads (N : Nat) : EnvOk Tryz.prog (env_msg_del_reads N) := mkEnv_ok tyRows_ok eqRows_ok methRows_ok trivial
noncomputable def lam_msg_del_reads (_ : Nat) : Lps := fun _ => none
noncomputable def ctr_msg_del_reads (N : Nat) : Ctr := ctrOf (.val T_api_Msg) (.fresh T_api_Span) [] (fun v => msg_del_reads N v)
theorem sound_msg_del_reads (N : Nat) : SoundF Tryz.prog 200 (fun vs => (ctr_msg_del_reads N).run vs some) :=
  fn_sound (envok_msg_del_reads N) mixed (Λ := lam_msg_del_reads N) (fn := Tryz.f200) (c := c_msg_del_reads) Tryz.func200 (by kernel_rfl) (by kernel_rfl) (obs_ok (l := []) (by kernel_rfl) obsNil) (by kernel_rfl) (by intro v; kernel_rfl)
noncomputable def c_msg_drop_reads : Code := match Tryz.f211.body with | some c => c | none => .skip
noncomputable def tab_msg_drop_reads (_ : Nat) : List (Nat × Ctr) := []
noncomputable def env_msg_drop_reads (N : Nat) : Env := mkEnv tyRows eqRows methRows [] [] (tab_msg_drop_reads N)
theorem envok_msg_drop_reads (N : Nat) : EnvOk Tryz.prog (env_msg_drop_reads N) := mkEnv_ok tyRows_ok eqRows_ok methRows_ok trivial
noncomputable def lam_msg_drop_reads (_ : Nat) : Lps := fun _ => none
noncomputable def ctr_msg_drop_reads (N : Nat) : Ctr := ctrOf (.val T_api_Msg) (.fresh T_api_Span) [] (fun v => msg_drop_reads N v)
theorem sound_msg_drop_reads (N : Nat) : SoundF Tryz.prog 211 (fun vs => (ctr_msg_drop_reads N).run vs some) :=
  fn_sound (envok_msg_drop_reads N) mixed (Λ := lam_msg_drop_reads N) (fn := Tryz.f211) (c := c_msg_drop_reads) Tryz.func211 (by kernel_rfl) (by kernel_rfl) (obs_ok (l := []) (by kernel_rfl) obsNil) (by kernel_rfl) (by intro v; kernel_rfl)
noncomputable def c_span_Prefix : Code := match Tryz.f223.body with | some c => c | none => .skip
noncomputable def tab_span_Prefix (_ : Nat) : List (Nat × Ctr) := []
noncomputable def env_span_Prefix (N : Nat) : Env := mkEnv tyRows eqRows methRows [] [22] (tab_span_Prefix N)
theorem envok_span_Prefix (N : Nat) : EnvOk Tryz.prog (env_span_Prefix N) := mkEnv_ok tyRows_ok eqRows_ok methRows_ok trivial
noncomputable def cut_span_Prefix_l0 : Cut := { tms := [0, 2, 3], sh := (.cons .str (.cons (.ptr 2000000 0) (.own 2000001))), objs := [(2000000, [2], .box (.cons .str .str)), (2000001, [3], .sl (.int .u8))], sts := [] }
noncomputable def cut_span_Prefix_l0_o0 : Cut := { tms := [0, 2, 3], sh := (.cons .str (.cons (.ptr 2000000 0) (.own 2000001))), objs := [(2000000, [2], .box (.cons .str .str)), (2000001, [3], .sl (.int .u8))], sts := [] }
noncomputable def lp_span_Prefix_l0 (N : Nat) : Lp := lpOf cut_span_Prefix_l0 (2, cut_span_Prefix_l0_o0) [] (fun v => span_Prefix_l0 N N v.1.1 v.2.1.1 v.2.1.2 v.2.2.1)
noncomputable def lam_span_Prefix_l0 (_ : Nat) : Lps := fun _ => none
theorem lpok_span_Prefix_l0 (N : Nat) (ro : Option Nat) : LpOk Tryz.prog 38 ro (lp_span_Prefix_l0 N) (codeAt c_span_Prefix [true, true, false, false]) := by
  rw [show (codeAt c_span_Prefix [true, true, false, false]) = .loop (codeAt c_span_Prefix [true, true, false, false, false]) by kernel_rfl]
  exact loop_ok (envok_span_Prefix N) mixed (Λ := lam_span_Prefix_l0 N) (p := 56) (obs_ok (l := []) (by kernel_rfl) obsNil) (by kernel_rfl) (by intro rec v; kernel_rfl) N
noncomputable def lam_span_Prefix (N : Nat) : Lps := fun p => bif Nat.beq p 28 then some (lp_span_Prefix_l0 N) else none
noncomputable def ctr_span_Prefix (N : Nat) : Ctr := ctrOf .str (.val T_api_Span) [] (fun v => span_Prefix N v)
theorem sound_span_Prefix (N : Nat) : SoundF Tryz.prog 223 (fun vs => (ctr_span_Prefix N).run vs some) :=
  fn_sound (envok_span_Prefix N) mixed (Λ := lam_span_Prefix N) (fn := Tryz.f223) (c := c_span_Prefix) Tryz.func223 (by kernel_rfl) (by kernel_rfl) (obs_ok (l := [(lp_span_Prefix_l0 N, (codeAt c_span_Prefix [true, true, false, false]))]) (by kernel_rfl) (obsCons (lpok_span_Prefix_l0 N none) obsNil)) (by kernel_rfl) (by intro v; kernel_rfl)
noncomputable def c_msg_move_reads : Code := match Tryz.f218.body with | some c => c | none => .skip
noncomputable def tab_msg_move_reads (N : Nat) : List (Nat × Ctr) := [(223, ctr_span_Prefix N)]
noncomputable def env_msg_move_reads (N : Nat) : Env := mkEnv tyRows eqRows methRows [] [] (tab_msg_move_reads N)
theorem envok_msg_move_reads (N : Nat) : EnvOk Tryz.prog (env_msg_move_reads N) := mkEnv_ok tyRows_ok eqRows_ok methRows_ok ⟨sound_span_Prefix N, trivial⟩
noncomputable def lam_msg_move_reads (_ : Nat) : Lps := fun _ => none
noncomputable def ctr_msg_move_reads (N : Nat) : Ctr := ctrOf (.val T_api_Msg) (.fresh T_api_Span) [] (fun v => msg_move_reads N v)
theorem sound_msg_move_reads (N : Nat) : SoundF Tryz.prog 218 (fun vs => (ctr_msg_move_reads N).run vs some) :=
  fn_sound (envok_msg_move_reads N) mixed (Λ := lam_msg_move_reads N) (fn := Tryz.f218) (c := c_msg_move_reads) Tryz.func218 (by kernel_rfl) (by kernel_rfl) (obs_ok (l := []) (by kernel_rfl) obsNil) (by kernel_rfl) (by intro v; kernel_rfl)
noncomputable def c_msg_clone_reads : Code := match Tryz.f231.body with | some c => c | none => .skip
noncomputable def tab_msg_clone_reads (N : Nat) : List (Nat × Ctr) := [(223, ctr_span_Prefix N)]
noncomputable def env_msg_clone_reads (N : Nat) : Env := mkEnv tyRows eqRows methRows [] [] (tab_msg_clone_reads N)
theorem envok_msg_clone_reads (N : Nat) : EnvOk Tryz.prog (env_msg_clone_reads N) := mkEnv_ok tyRows_ok eqRows_ok methRows_ok ⟨sound_span_Prefix N, trivial⟩
noncomputable def lam_msg_clone_reads (_ : Nat) : Lps := fun _ => none
noncomputable def ctr_msg_clone_reads (N : Nat) : Ctr := ctrOf (.val T_api_Msg) (.fresh T_api_Span) [] (fun v => msg_clone_reads N v)
theorem sound_msg_clone_reads (N : Nat) : SoundF Tryz.prog 231 (fun vs => (ctr_msg_clone_reads N).run vs some) :=
  fn_sound (envok_msg_clone_reads N) mixed (Λ := lam_msg_clone_reads N) (fn := Tryz.f231) (c := c_msg_clone_reads) Tryz.func231 (by kernel_rfl) (by kernel_rfl) (obs_ok (l := []) (by kernel_rfl) obsNil) (by kernel_rfl) (by intro v; kernel_rfl)
noncomputable def c_msg_stamp_reads : Code := match Tryz.f237.body with | some c => c | none => .skip
noncomputable def tab_msg_stamp_reads (_ : Nat) : List (Nat × Ctr) := []
noncomputable def env_msg_stamp_reads (N : Nat) : Env := mkEnv tyRows eqRows methRows [] [] (tab_msg_stamp_reads N)
theorem envok_msg_stamp_reads (N : Nat) : EnvOk Tryz.prog (env_msg_stamp_reads N) := mkEnv_ok tyRows_ok eqRows_ok methRows_ok trivial
noncomputable def lam_msg_stamp_reads (_ : Nat) : Lps := fun _ => none
noncomputable def ctr_msg_stamp_reads (N : Nat) : Ctr := ctrOf (.val T_api_Msg) (.fresh T_api_Span) [] (fun v => msg_stamp_reads N v)
theorem sound_msg_stamp_reads (N : Nat) : SoundF Tryz.prog 237 (fun vs => (ctr_msg_stamp_reads N).run vs some) :=
  fn_sound (envok_msg_stamp_reads N) mixed (Λ := lam_msg_stamp_reads N) (fn := Tryz.f237) (c := c_msg_stamp_reads) Tryz.func237 (by kernel_rfl) (by kernel_rfl) (obs_ok (l := []) (by kernel_rfl) obsNil) (by kernel_rfl) (by intro v; kernel_rfl)
noncomputable def c_msg_Reads : Code := match Tryz.f50.body with | some c => c | none => .skip
noncomputable def tab_msg_Reads (N : Nat) : List (Nat × Ctr) := [(93, ctr_msg_of N), (178, ctr_msg_put_reads N), (200, ctr_msg_del_reads N), (211, ctr_msg_drop_reads N), (218, ctr_msg_move_reads N), (231, ctr_msg_clone_reads N), (237, ctr_msg_stamp_reads N)]
noncomputable def env_msg_Reads (N : Nat) : Env := mkEnv tyRows eqRows methRows [] [] (tab_msg_Reads N)
theorem envok_msg_Reads (N : Nat) : EnvOk Tryz.prog (env_msg_Reads N) := mkEnv_ok tyRows_ok eqRows_ok methRows_ok ⟨sound_msg_of N, ⟨sound_msg_put_reads N, ⟨sound_msg_del_reads N, ⟨sound_msg_drop_reads N, ⟨sound_msg_move_reads N, ⟨sound_msg_clone_reads N, ⟨sound_msg_stamp_reads N, trivial⟩⟩⟩⟩⟩⟩⟩
noncomputable def lam_msg_Reads (_ : Nat) : Lps := fun _ => none
noncomputable def ctr_msg_Reads (N : Nat) : Ctr := ctrOf (.val T_api_Msg) (.fresh T_api_Span) [] (fun v => msg_Reads N v)
theorem sound_msg_Reads (N : Nat) : SoundF Tryz.prog 50 (fun vs => (ctr_msg_Reads N).run vs some) :=
  fn_sound (envok_msg_Reads N) mixed (Λ := lam_msg_Reads N) (fn := Tryz.f50) (c := c_msg_Reads) Tryz.func50 (by kernel_rfl) (by kernel_rfl) (obs_ok (l := []) (by kernel_rfl) obsNil) (by kernel_rfl) (by intro v; kernel_rfl)
noncomputable def c_cmp_isNaN_span_end : Code := match Tryz.f123.body with | some c => c | none => .skip
noncomputable def tab_cmp_isNaN_span_end (_ : Nat) : List (Nat × Ctr) := []
noncomputable def env_cmp_isNaN_span_end (N : Nat) : Env := mkEnv tyRows eqRows methRows [] [] (tab_cmp_isNaN_span_end N)
theorem envok_cmp_isNaN_span_end (N : Nat) : EnvOk Tryz.prog (env_cmp_isNaN_span_end N) := mkEnv_ok tyRows_ok eqRows_ok methRows_ok trivial
noncomputable def lam_cmp_isNaN_span_end (_ : Nat) : Lps := fun _ => none
noncomputable def ctr_cmp_isNaN_span_end (N : Nat) : Ctr := ctrOf .str .bool [] (fun v => cmp_isNaN_span_end N v)
theorem sound_cmp_isNaN_span_end (N : Nat) : SoundF Tryz.prog 123 (fun vs => (ctr_cmp_isNaN_span_end N).run vs some) :=
  fn_sound (envok_cmp_isNaN_span_end N) mixed (Λ := lam_cmp_isNaN_span_end N) (fn := Tryz.f123) (c := c_cmp_isNaN_span_end) Tryz.func123 (by kernel_rfl) (by kernel_rfl) (obs_ok (l := []) (by kernel_rfl) obsNil) (by kernel_rfl) (by intro v; kernel_rfl)
noncomputable def c_cmp_Compare_span_end : Code := match Tryz.f113.body with | some c => c | none => .skip
noncomputable def tab_cmp_Compare_span_end (N : Nat) : List (Nat × Ctr) := [(123, ctr_cmp_isNaN_span_end N)]
noncomputable def env_cmp_Compare_span_end (N : Nat) : Env := mkEnv tyRows eqRows methRows [] [] (tab_cmp_Compare_span_end N)
theorem envok_cmp_Compare_span_end (N : Nat) : EnvOk Tryz.prog (env_cmp_Compare_span_end N) := mkEnv_ok tyRows_ok eqRows_ok methRows_ok ⟨sound_cmp_isNaN_span_end N, trivial⟩
noncomputable def lam_cmp_Compare_span_end (_ : Nat) : Lps := fun _ => none
noncomputable def ctr_cmp_Compare_span_end (N : Nat) : Ctr := ctrOf (.cons .str .str) (.int .i64) [] (fun v => cmp_Compare_span_end N v.1 v.2)
theorem sound_cmp_Compare_span_end (N : Nat) : SoundF Tryz.prog 113 (fun vs => (ctr_cmp_Compare_span_end N).run vs some) :=
  fn_sound (envok_cmp_Compare_span_end N) mixed (Λ := lam_cmp_Compare_span_end N) (fn := Tryz.f113) (c := c_cmp_Compare_span_end) Tryz.func113 (by kernel_rfl) (by kernel_rfl) (obs_ok (l := []) (by kernel_rfl) obsNil) (by kernel_rfl) (by intro v; kernel_rfl)
noncomputable def c_span_end_compare : Code := match Tryz.f91.body with | some c => c | none => .skip
noncomputable def tab_span_end_compare (N : Nat) : List (Nat × Ctr) := [(113, ctr_cmp_Compare_span_end N)]
noncomputable def env_span_end_compare (N : Nat) : Env := mkEnv tyRows eqRows methRows [] [] (tab_span_end_compare N)
theorem envok_span_end_compare (N : Nat) : EnvOk Tryz.prog (env_span_end_compare N) := mkEnv_ok tyRows_ok eqRows_ok methRows_ok ⟨sound_cmp_Compare_span_end N, trivial⟩
noncomputable def lam_span_end_compare (_ : Nat) : Lps := fun _ => none
noncomputable def ctr_span_end_compare (N : Nat) : Ctr := ctrOf (.cons .str .str) (.int .i64) [] (fun v => span_end_compare N v.1 v.2)
theorem sound_span_end_compare (N : Nat) : SoundF Tryz.prog 91 (fun vs => (ctr_span_end_compare N).run vs some) :=
  fn_sound (envok_span_end_compare N) mixed (Λ := lam_span_end_compare N) (fn := Tryz.f91) (c := c_span_end_compare) Tryz.func91 (by kernel_rfl) (by kernel_rfl) (obs_ok (l := []) (by kernel_rfl) obsNil) (by kernel_rfl) (by intro v; kernel_rfl)
noncomputable def c_span_Covers : Code := match Tryz.f45.body with | some c => c | none => .skip
noncomputable def tab_span_Covers (N : Nat) : List (Nat × Ctr) := [(90, ctr_span_Empty N), (40, ctr_span_Has N), (91, ctr_span_end_compare N)]
noncomputable def env_span_Covers (N : Nat) : Env := mkEnv tyRows eqRows methRows [] [] (tab_span_Covers N)
theorem envok_span_Covers (N : Nat) : EnvOk Tryz.prog (env_span_Covers N) := mkEnv_ok tyRows_ok eqRows_ok methRows_ok ⟨sound_span_Empty N, ⟨sound_span_Has N, ⟨sound_span_end_compare N, trivial⟩⟩⟩
noncomputable def lam_span_Covers (_ : Nat) : Lps := fun _ => none
noncomputable def ctr_span_Covers (N : Nat) : Ctr := ctrOf (.cons (.val T_api_Span) (.val T_api_Span)) .bool [] (fun v => span_Covers N v.1 v.2)
theorem sound_span_Covers (N : Nat) : SoundF Tryz.prog 45 (fun vs => (ctr_span_Covers N).run vs some) :=
  fn_sound (envok_span_Covers N) mixed (Λ := lam_span_Covers N) (fn := Tryz.f45) (c := c_span_Covers) Tryz.func45 (by kernel_rfl) (by kernel_rfl) (obs_ok (l := []) (by kernel_rfl) obsNil) (by kernel_rfl) (by intro v; kernel_rfl)
noncomputable def c_node_Valid_c2 : Code := match Tryz.f44.body with | some c => c | none => .skip
noncomputable def tab_node_Valid_c2 (N : Nat) : List (Nat × Ctr) := [(45, ctr_span_Covers N)]
noncomputable def env_node_Valid_c2 (N : Nat) : Env := mkEnv tyRows eqRows methRows [] [] (tab_node_Valid_c2 N)
theorem envok_node_Valid_c2 (N : Nat) : EnvOk Tryz.prog (env_node_Valid_c2 N) := mkEnv_ok tyRows_ok eqRows_ok methRows_ok ⟨sound_span_Covers N, trivial⟩
noncomputable def lam_node_Valid_c2 (_ : Nat) : Lps := fun _ => none
noncomputable def ctr_node_Valid_c2 (N : Nat) : Ctr := ctrOf (.cons (.val T_api_Span) (.bx (.cons .str .str) 0)) .bool [] (fun v => node_Valid_c2 N v.1 v.2.1 v.2.2)
theorem sound_node_Valid_c2 (N : Nat) : SoundF Tryz.prog 44 (fun vs => (ctr_node_Valid_c2 N).run vs some) :=
  fn_sound (envok_node_Valid_c2 N) mixed (Λ := lam_node_Valid_c2 N) (fn := Tryz.f44) (c := c_node_Valid_c2) Tryz.func44 (by kernel_rfl) (by kernel_rfl) (obs_ok (l := []) (by kernel_rfl) obsNil) (by kernel_rfl) (by intro v; kernel_rfl)
noncomputable def c_slices_IndexFunc_s_api_Span_api_Span__node_Valid_c2 : Code := match Tryz.f94.body with | some c => c | none => .skip
noncomputable def tab_slices_IndexFunc_s_api_Span_api_Span__node_Valid_c2 (N : Nat) : List (Nat × Ctr) := [(44, ctr_node_Valid_c2 N)]
noncomputable def env_slices_IndexFunc_s_api_Span_api_Span__node_Valid_c2 (N : Nat) : Env := mkEnv tyRows eqRows methRows [] [] (tab_slices_IndexFunc_s_api_Span_api_Span__node_Valid_c2 N)
theorem envok_slices_IndexFunc_s_api_Span_api_Span__node_Valid_c2 (N : Nat) : EnvOk Tryz.prog (env_slices_IndexFunc_s_api_Span_api_Span__node_Valid_c2 N) := mkEnv_ok tyRows_ok eqRows_ok methRows_ok ⟨sound_node_Valid_c2 N, trivial⟩
noncomputable def cut_slices_IndexFunc_s_api_Span_api_Span__node_Valid_c2_l0 : Cut := { tms := [0, 1, 7, 8], sh := (.cons (.list T_api_Span) (.cons (.clo 44 (.bx (.cons .str .str) 0)) (.cons (.int .i64) (.int .i64)))), objs := [], sts := [] }
noncomputable def cut_slices_IndexFunc_s_api_Span_api_Span__node_Valid_c2_l0_o0 : Cut := { tms := [4], sh := (.int .i64), objs := [], sts := [] }
noncomputable def cut_slices_IndexFunc_s_api_Span_api_Span__node_Valid_c2_l0_o1 : Cut := { tms := [], sh := .nil, objs := [], sts := [] }
noncomputable def lp_slices_IndexFunc_s_api_Span_api_Span__node_Valid_c2_l0 (N : Nat) : Lp := lpOf cut_slices_IndexFunc_s_api_Span_api_Span__node_Valid_c2_l0 (1, cut_slices_IndexFunc_s_api_Span_api_Span__node_Valid_c2_l0_o0) [(2, cut_slices_IndexFunc_s_api_Span_api_Span__node_Valid_c2_l0_o1)] (fun v => slices_IndexFunc_s_api_Span_api_Span__node_Valid_c2_l0 N N v.1.1 v.1.2.1.1 v.1.2.1.2 v.1.2.2.1 v.1.2.2.2)
noncomputable def lam_slices_IndexFunc_s_api_Span_api_Span__node_Valid_c2_l0 (_ : Nat) : Lps := fun _ => none
theorem lpok_slices_IndexFunc_s_api_Span_api_Span__node_Valid_c2_l0 (N : Nat) (ro : Option Nat) : LpOk Tryz.prog 19 ro (lp_slices_IndexFunc_s_api_Span_api_Span__node_Valid_c2_l0 N) (codeAt c_slices_IndexFunc_s_api_Span_api_Span__node_Valid_c2 [true, false, true, false]) := by
  rw [show (codeAt c_slices_IndexFunc_s_api_Span_api_Span__node_Valid_c2 [true, false, true, false]) = .loop (codeAt c_slices_IndexFunc_s_api_Span_api_Span__node_Valid_c2 [true, false, true, false, false]) by kernel_rfl]
  exact loop_ok (envok_slices_IndexFunc_s_api_Span_api_Span__node_Valid_c2 N) mixed (Λ := lam_slices_IndexFunc_s_api_Span_api_Span__node_Valid_c2_l0 N) (p := 52) (obs_ok (l := []) (by kernel_rfl) obsNil) (by kernel_rfl) (by intro rec v; kernel_rfl) N
noncomputable def lam_slices_IndexFunc_s_api_Span_api_Span__node_Valid_c2 (N : Nat) : Lps := fun p => bif Nat.beq p 26 then some (lp_slices_IndexFunc_s_api_Span_api_Span__node_Valid_c2_l0 N) else none
noncomputable def ctr_slices_IndexFunc_s_api_Span_api_Span__node_Valid_c2 (N : Nat) : Ctr := ctrOf (.cons (.list T_api_Span) (.clo 44 (.bx (.cons .str .str) 0))) (.int .i64) [] (fun v => slices_IndexFunc_s_api_Span_api_Span__node_Valid_c2 N v.1 v.2.1 v.2.2)
theorem sound_slices_IndexFunc_s_api_Span_api_Span__node_Valid_c2 (N : Nat) : SoundF Tryz.prog 94 (fun vs => (ctr_slices_IndexFunc_s_api_Span_api_Span__node_Valid_c2 N).run vs some) :=
  fn_sound (envok_slices_IndexFunc_s_api_Span_api_Span__node_Valid_c2 N) mixed (Λ := lam_slices_IndexFunc_s_api_Span_api_Span__node_Valid_c2 N) (fn := Tryz.f94) (c := c_slices_IndexFunc_s_api_Span_api_Span__node_Valid_c2) Tryz.func94 (by kernel_rfl) (by kernel_rfl) (obs_ok (l := [(lp_slices_IndexFunc_s_api_Span_api_Span__node_Valid_c2_l0 N, (codeAt c_slices_IndexFunc_s_api_Span_api_Span__node_Valid_c2 [true, false, true, false]))]) (by kernel_rfl) (obsCons (lpok_slices_IndexFunc_s_api_Span_api_Span__node_Valid_c2_l0 N none) obsNil)) (by kernel_rfl) (by intro v; kernel_rfl)
noncomputable def c_slices_ContainsFunc_s_api_Span_api_Span__node_Valid_c2 : Code := match Tryz.f49.body with | some c => c | none => .skip
noncomputable def tab_slices_ContainsFunc_s_api_Span_api_Span__node_Valid_c2 (N : Nat) : List (Nat × Ctr) := [(94, ctr_slices_IndexFunc_s_api_Span_api_Span__node_Valid_c2 N)]
noncomputable def env_slices_ContainsFunc_s_api_Span_api_Span__node_Valid_c2 (N : Nat) : Env := mkEnv tyRows eqRows methRows [] [] (tab_slices_ContainsFunc_s_api_Span_api_Span__node_Valid_c2 N)
theorem envok_slices_ContainsFunc_s_api_Span_api_Span__node_Valid_c2 (N : Nat) : EnvOk Tryz.prog (env_slices_ContainsFunc_s_api_Span_api_Span__node_Valid_c2 N) := mkEnv_ok tyRows_ok eqRows_ok methRows_ok ⟨sound_slices_IndexFunc_s_api_Span_api_Span__node_Valid_c2 N, trivial⟩
noncomputable def lam_slices_ContainsFunc_s_api_Span_api_Span__node_Valid_c2 (_ : Nat) : Lps := fun _ => none
noncomputable def ctr_slices_ContainsFunc_s_api_Span_api_Span__node_Valid_c2 (N : Nat) : Ctr := ctrOf (.cons (.list T_api_Span) (.clo 44 (.bx (.cons .str .str) 0))) .bool [] (fun v => slices_ContainsFunc_s_api_Span_api_Span__node_Valid_c2 N v.1 v.2.1 v.2.2)
theorem sound_slices_ContainsFunc_s_api_Span_api_Span__node_Valid_c2 (N : Nat) : SoundF Tryz.prog 49 (fun vs => (ctr_slices_ContainsFunc_s_api_Span_api_Span__node_Valid_c2 N).run vs some) :=
  fn_sound (envok_slices_ContainsFunc_s_api_Span_api_Span__node_Valid_c2 N) mixed (Λ := lam_slices_ContainsFunc_s_api_Span_api_Span__node_Valid_c2 N) (fn := Tryz.f49) (c := c_slices_ContainsFunc_s_api_Span_api_Span__node_Valid_c2) Tryz.func49 (by kernel_rfl) (by kernel_rfl) (obs_ok (l := []) (by kernel_rfl) obsNil) (by kernel_rfl) (by intro v; kernel_rfl)
noncomputable def c_span_One : Code := match Tryz.f185.body with | some c => c | none => .skip
noncomputable def tab_span_One (_ : Nat) : List (Nat × Ctr) := []
noncomputable def env_span_One (N : Nat) : Env := mkEnv tyRows eqRows methRows [] [] (tab_span_One N)
theorem envok_span_One (N : Nat) : EnvOk Tryz.prog (env_span_One N) := mkEnv_ok tyRows_ok eqRows_ok methRows_ok trivial
noncomputable def lam_span_One (_ : Nat) : Lps := fun _ => none
noncomputable def ctr_span_One (N : Nat) : Ctr := ctrOf .str (.val T_api_Span) [] (fun v => span_One N v)
theorem sound_span_One (N : Nat) : SoundF Tryz.prog 185 (fun vs => (ctr_span_One N).run vs some) :=
  fn_sound (envok_span_One N) mixed (Λ := lam_span_One N) (fn := Tryz.f185) (c := c_span_One) Tryz.func185 (by kernel_rfl) (by kernel_rfl) (obs_ok (l := []) (by kernel_rfl) obsNil) (by kernel_rfl) (by intro v; kernel_rfl)
noncomputable def c_msg_put_writes : Code := match Tryz.f181.body with | some c => c | none => .skip
noncomputable def tab_msg_put_writes (N : Nat) : List (Nat × Ctr) := [(185, ctr_span_One N)]
noncomputable def env_msg_put_writes (N : Nat) : Env := mkEnv tyRows eqRows methRows [] [] (tab_msg_put_writes N)
theorem envok_msg_put_writes (N : Nat) : EnvOk Tryz.prog (env_msg_put_writes N) := mkEnv_ok tyRows_ok eqRows_ok methRows_ok ⟨sound_span_One N, trivial⟩
noncomputable def lam_msg_put_writes (_ : Nat) : Lps := fun _ => none
noncomputable def ctr_msg_put_writes (N : Nat) : Ctr := ctrOf (.val T_api_Msg) (.fresh T_api_Span) [] (fun v => msg_put_writes N v)
theorem sound_msg_put_writes (N : Nat) : SoundF Tryz.prog 181 (fun vs => (ctr_msg_put_writes N).run vs some) :=
  fn_sound (envok_msg_put_writes N) mixed (Λ := lam_msg_put_writes N) (fn := Tryz.f181) (c := c_msg_put_writes) Tryz.func181 (by kernel_rfl) (by kernel_rfl) (obs_ok (l := []) (by kernel_rfl) obsNil) (by kernel_rfl) (by intro v; kernel_rfl)
noncomputable def c_msg_del_writes : Code := match Tryz.f203.body with | some c => c | none => .skip
noncomputable def tab_msg_del_writes (N : Nat) : List (Nat × Ctr) := [(185, ctr_span_One N)]
noncomputable def env_msg_del_writes (N : Nat) : Env := mkEnv tyRows eqRows methRows [] [] (tab_msg_del_writes N)
theorem envok_msg_del_writes (N : Nat) : EnvOk Tryz.prog (env_msg_del_writes N) := mkEnv_ok tyRows_ok eqRows_ok methRows_ok ⟨sound_span_One N, trivial⟩
noncomputable def lam_msg_del_writes (_ : Nat) : Lps := fun _ => none
noncomputable def ctr_msg_del_writes (N : Nat) : Ctr := ctrOf (.val T_api_Msg) (.fresh T_api_Span) [] (fun v => msg_del_writes N v)
theorem sound_msg_del_writes (N : Nat) : SoundF Tryz.prog 203 (fun vs => (ctr_msg_del_writes N).run vs some) :=
  fn_sound (envok_msg_del_writes N) mixed (Λ := lam_msg_del_writes N) (fn := Tryz.f203) (c := c_msg_del_writes) Tryz.func203 (by kernel_rfl) (by kernel_rfl) (obs_ok (l := []) (by kernel_rfl) obsNil) (by kernel_rfl) (by intro v; kernel_rfl)
noncomputable def c_msg_drop_writes : Code := match Tryz.f214.body with | some c => c | none => .skip
noncomputable def tab_msg_drop_writes (_ : Nat) : List (Nat × Ctr) := []
noncomputable def env_msg_drop_writes (N : Nat) : Env := mkEnv tyRows eqRows methRows [] [] (tab_msg_drop_writes N)
theorem envok_msg_drop_writes (N : Nat) : EnvOk Tryz.prog (env_msg_drop_writes N) := mkEnv_ok tyRows_ok eqRows_ok methRows_ok trivial
noncomputable def lam_msg_drop_writes (_ : Nat) : Lps := fun _ => none
noncomputable def ctr_msg_drop_writes (N : Nat) : Ctr := ctrOf (.val T_api_Msg) (.fresh T_api_Span) [] (fun v => msg_drop_writes N v)
theorem sound_msg_drop_writes (N : Nat) : SoundF Tryz.prog 214 (fun vs => (ctr_msg_drop_writes N).run vs some) :=
  fn_sound (envok_msg_drop_writes N) mixed (Λ := lam_msg_drop_writes N) (fn := Tryz.f214) (c := c_msg_drop_writes) Tryz.func214 (by kernel_rfl) (by kernel_rfl) (obs_ok (l := []) (by kernel_rfl) obsNil) (by kernel_rfl) (by intro v; kernel_rfl)
noncomputable def c_msg_move_writes : Code := match Tryz.f221.body with | some c => c | none => .skip
noncomputable def tab_msg_move_writes (N : Nat) : List (Nat × Ctr) := [(223, ctr_span_Prefix N)]
noncomputable def env_msg_move_writes (N : Nat) : Env := mkEnv tyRows eqRows methRows [] [] (tab_msg_move_writes N)
theorem envok_msg_move_writes (N : Nat) : EnvOk Tryz.prog (env_msg_move_writes N) := mkEnv_ok tyRows_ok eqRows_ok methRows_ok ⟨sound_span_Prefix N, trivial⟩
noncomputable def lam_msg_move_writes (_ : Nat) : Lps := fun _ => none
noncomputable def ctr_msg_move_writes (N : Nat) : Ctr := ctrOf (.val T_api_Msg) (.fresh T_api_Span) [] (fun v => msg_move_writes N v)
theorem sound_msg_move_writes (N : Nat) : SoundF Tryz.prog 221 (fun vs => (ctr_msg_move_writes N).run vs some) :=
  fn_sound (envok_msg_move_writes N) mixed (Λ := lam_msg_move_writes N) (fn := Tryz.f221) (c := c_msg_move_writes) Tryz.func221 (by kernel_rfl) (by kernel_rfl) (obs_ok (l := []) (by kernel_rfl) obsNil) (by kernel_rfl) (by intro v; kernel_rfl)
noncomputable def c_msg_clone_writes : Code := match Tryz.f234.body with | some c => c | none => .skip
noncomputable def tab_msg_clone_writes (N : Nat) : List (Nat × Ctr) := [(223, ctr_span_Prefix N)]
noncomputable def env_msg_clone_writes (N : Nat) : Env := mkEnv tyRows eqRows methRows [] [] (tab_msg_clone_writes N)
theorem envok_msg_clone_writes (N : Nat) : EnvOk Tryz.prog (env_msg_clone_writes N) := mkEnv_ok tyRows_ok eqRows_ok methRows_ok ⟨sound_span_Prefix N, trivial⟩
noncomputable def lam_msg_clone_writes (_ : Nat) : Lps := fun _ => none
noncomputable def ctr_msg_clone_writes (N : Nat) : Ctr := ctrOf (.val T_api_Msg) (.fresh T_api_Span) [] (fun v => msg_clone_writes N v)
theorem sound_msg_clone_writes (N : Nat) : SoundF Tryz.prog 234 (fun vs => (ctr_msg_clone_writes N).run vs some) :=
  fn_sound (envok_msg_clone_writes N) mixed (Λ := lam_msg_clone_writes N) (fn := Tryz.f234) (c := c_msg_clone_writes) Tryz.func234 (by kernel_rfl) (by kernel_rfl) (obs_ok (l := []) (by kernel_rfl) obsNil) (by kernel_rfl) (by intro v; kernel_rfl)
noncomputable def c_msg_stamp_writes : Code := match Tryz.f240.body with | some c => c | none => .skip
noncomputable def tab_msg_stamp_writes (_ : Nat) : List (Nat × Ctr) := []
noncomputable def env_msg_stamp_writes (N : Nat) : Env := mkEnv tyRows eqRows methRows [] [] (tab_msg_stamp_writes N)
theorem envok_msg_stamp_writes (N : Nat) : EnvOk Tryz.prog (env_msg_stamp_writes N) := mkEnv_ok tyRows_ok eqRows_ok methRows_ok trivial
noncomputable def lam_msg_stamp_writes (_ : Nat) : Lps := fun _ => none
noncomputable def ctr_msg_stamp_writes (N : Nat) : Ctr := ctrOf (.val T_api_Msg) (.fresh T_api_Span) [] (fun v => msg_stamp_writes N v)
theorem sound_msg_stamp_writes (N : Nat) : SoundF Tryz.prog 240 (fun vs => (ctr_msg_stamp_writes N).run vs some) :=
  fn_sound (envok_msg_stamp_writes N) mixed (Λ := lam_msg_stamp_writes N) (fn := Tryz.f240) (c := c_msg_stamp_writes) Tryz.func240 (by kernel_rfl) (by kernel_rfl) (obs_ok (l := []) (by kernel_rfl) obsNil) (by kernel_rfl) (by intro v; kernel_rfl)
noncomputable def c_msg_Writes : Code := match Tryz.f51.body with | some c => c | none => .skip
noncomputable def tab_msg_Writes (N : Nat) : List (Nat × Ctr) := [(93, ctr_msg_of N), (181, ctr_msg_put_writes N), (203, ctr_msg_del_writes N), (214, ctr_msg_drop_writes N), (221, ctr_msg_move_writes N), (234, ctr_msg_clone_writes N), (240, ctr_msg_stamp_writes N)]
noncomputable def env_msg_Writes (N : Nat) : Env := mkEnv tyRows eqRows methRows [] [] (tab_msg_Writes N)
theorem envok_msg_Writes (N : Nat) : EnvOk Tryz.prog (env_msg_Writes N) := mkEnv_ok tyRows_ok eqRows_ok methRows_ok ⟨sound_msg_of N, ⟨sound_msg_put_writes N, ⟨sound_msg_del_writes N, ⟨sound_msg_drop_writes N, ⟨sound_msg_move_writes N, ⟨sound_msg_clone_writes N, ⟨sound_msg_stamp_writes N, trivial⟩⟩⟩⟩⟩⟩⟩
noncomputable def lam_msg_Writes (_ : Nat) : Lps := fun _ => none
noncomputable def ctr_msg_Writes (N : Nat) : Ctr := ctrOf (.val T_api_Msg) (.fresh T_api_Span) [] (fun v => msg_Writes N v)
theorem sound_msg_Writes (N : Nat) : SoundF Tryz.prog 51 (fun vs => (ctr_msg_Writes N).run vs some) :=
  fn_sound (envok_msg_Writes N) mixed (Λ := lam_msg_Writes N) (fn := Tryz.f51) (c := c_msg_Writes) Tryz.func51 (by kernel_rfl) (by kernel_rfl) (obs_ok (l := []) (by kernel_rfl) obsNil) (by kernel_rfl) (by intro v; kernel_rfl)
noncomputable def c_node_Valid_c3__node_Valid_c2 : Code := match Tryz.f47.body with | some c => c | none => .skip
noncomputable def tab_node_Valid_c3__node_Valid_c2 (N : Nat) : List (Nat × Ctr) := [(48, ctr_msg_Valid N), (50, ctr_msg_Reads N), (49, ctr_slices_ContainsFunc_s_api_Span_api_Span__node_Valid_c2 N), (51, ctr_msg_Writes N)]
noncomputable def env_node_Valid_c3__node_Valid_c2 (N : Nat) : Env := mkEnv tyRows eqRows methRows [] [] (tab_node_Valid_c3__node_Valid_c2 N)
theorem envok_node_Valid_c3__node_Valid_c2 (N : Nat) : EnvOk Tryz.prog (env_node_Valid_c3__node_Valid_c2 N) := mkEnv_ok tyRows_ok eqRows_ok methRows_ok ⟨sound_msg_Valid N, ⟨sound_msg_Reads N, ⟨sound_slices_ContainsFunc_s_api_Span_api_Span__node_Valid_c2 N, ⟨sound_msg_Writes N, trivial⟩⟩⟩⟩
noncomputable def lam_node_Valid_c3__node_Valid_c2 (_ : Nat) : Lps := fun _ => none
noncomputable def ctr_node_Valid_c3__node_Valid_c2 (N : Nat) : Ctr := ctrOf (.cons (.val T_api_Msg) (.bx (.clo 44 (.bx (.cons .str .str) 0)) 0)) .bool [] (fun v => node_Valid_c3__node_Valid_c2 N v.1 v.2.1 v.2.2)
theorem sound_node_Valid_c3__node_Valid_c2 (N : Nat) : SoundF Tryz.prog 47 (fun vs => (ctr_node_Valid_c3__node_Valid_c2 N).run vs some) :=
  fn_sound (envok_node_Valid_c3__node_Valid_c2 N) mixed (Λ := lam_node_Valid_c3__node_Valid_c2 N) (fn := Tryz.f47) (c := c_node_Valid_c3__node_Valid_c2) Tryz.func47 (by kernel_rfl) (by kernel_rfl) (obs_ok (l := []) (by kernel_rfl) obsNil) (by kernel_rfl) (by intro v; kernel_rfl)
noncomputable def c_slices_IndexFunc_s_api_Msg_api_Msg__node_Valid_c3__node_Valid_c2 : Code := match Tryz.f92.body with | some c => c | none => .skip
noncomputable def tab_slices_IndexFunc_s_api_Msg_api_Msg__node_Valid_c3__node_Valid_c2 (N : Nat) : List (Nat × Ctr) := [(47, ctr_node_Valid_c3__node_Valid_c2 N)]
noncomputable def env_slices_IndexFunc_s_api_Msg_api_Msg__node_Valid_c3__node_Valid_c2 (N : Nat) : Env := mkEnv tyRows eqRows methRows [] [] (tab_slices_IndexFunc_s_api_Msg_api_Msg__node_Valid_c3__node_Valid_c2 N)
theorem envok_slices_IndexFunc_s_api_Msg_api_Msg__node_Valid_c3__node_Valid_c2 (N : Nat) : EnvOk Tryz.prog (env_slices_IndexFunc_s_api_Msg_api_Msg__node_Valid_c3__node_Valid_c2 N) := mkEnv_ok tyRows_ok eqRows_ok methRows_ok ⟨sound_node_Valid_c3__node_Valid_c2 N, trivial⟩
noncomputable def cut_slices_IndexFunc_s_api_Msg_api_Msg__node_Valid_c3__node_Valid_c2_l0 : Cut := { tms := [0, 1, 7, 8], sh := (.cons (.list T_api_Msg) (.cons (.clo 47 (.bx (.clo 44 (.bx (.cons .str .str) 0)) 0)) (.cons (.int .i64) (.int .i64)))), objs := [], sts := [] }
noncomputable def cut_slices_IndexFunc_s_api_Msg_api_Msg__node_Valid_c3__node_Valid_c2_l0_o0 : Cut := { tms := [4], sh := (.int .i64), objs := [], sts := [] }
noncomputable def cut_slices_IndexFunc_s_api_Msg_api_Msg__node_Valid_c3__node_Valid_c2_l0_o1 : Cut := { tms := [], sh := .nil, objs := [], sts := [] }
noncomputable def lp_slices_IndexFunc_s_api_Msg_api_Msg__node_Valid_c3__node_Valid_c2_l0 (N : Nat) : Lp := lpOf cut_slices_IndexFunc_s_api_Msg_api_Msg__node_Valid_c3__node_Valid_c2_l0 (1, cut_slices_IndexFunc_s_api_Msg_api_Msg__node_Valid_c3__node_Valid_c2_l0_o0) [(2, cut_slices_IndexFunc_s_api_Msg_api_Msg__node_Valid_c3__node_Valid_c2_l0_o1)] (fun v => slices_IndexFunc_s_api_Msg_api_Msg__node_Valid_c3__node_Valid_c2_l0 N N v.1.1 v.1.2.1.1 v.1.2.1.2 v.1.2.2.1 v.1.2.2.2)
noncomputable def lam_slices_IndexFunc_s_api_Msg_api_Msg__node_Valid_c3__node_Valid_c2_l0 (_ : Nat) : Lps := fun _ => none
theorem lpok_slices_IndexFunc_s_api_Msg_api_Msg__node_Valid_c3__node_Valid_c2_l0 (N : Nat) (ro : Option Nat) : LpOk Tryz.prog 19 ro (lp_slices_IndexFunc_s_api_Msg_api_Msg__node_Valid_c3__node_Valid_c2_l0 N) (codeAt c_slices_IndexFunc_s_api_Msg_api_Msg__node_Valid_c3__node_Valid_c2 [true, false, true, false]) := by
  rw [show (codeAt c_slices_IndexFunc_s_api_Msg_api_Msg__node_Valid_c3__node_Valid_c2 [true, false, true, false]) = .loop (codeAt c_slices_IndexFunc_s_api_Msg_api_Msg__node_Valid_c3__node_Valid_c2 [true, false, true, false, false]) by kernel_rfl]
  exact loop_ok (envok_slices_IndexFunc_s_api_Msg_api_Msg__node_Valid_c3__node_Valid_c2 N) mixed (Λ := lam_slices_IndexFunc_s_api_Msg_api_Msg__node_Valid_c3__node_Valid_c2_l0 N) (p := 52) (obs_ok (l := []) (by kernel_rfl) obsNil) (by kernel_rfl) (by intro rec v; kernel_rfl) N
noncomputable def lam_slices_IndexFunc_s_api_Msg_api_Msg__node_Valid_c3__node_Valid_c2 (N : Nat) : Lps := fun p => bif Nat.beq p 26 then some (lp_slices_IndexFunc_s_api_Msg_api_Msg__node_Valid_c3__node_Valid_c2_l0 N) else none
noncomputable def ctr_slices_IndexFunc_s_api_Msg_api_Msg__node_Valid_c3__node_Valid_c2 (N : Nat) : Ctr := ctrOf (.cons (.list T_api_Msg) (.clo 47 (.bx (.clo 44 (.bx (.cons .str .str) 0)) 0))) (.int .i64) [] (fun v => slices_IndexFunc_s_api_Msg_api_Msg__node_Valid_c3__node_Valid_c2 N v.1 v.2.1 v.2.2)
theorem sound_slices_IndexFunc_s_api_Msg_api_Msg__node_Valid_c3__node_Valid_c2 (N : Nat) : SoundF Tryz.prog 92 (fun vs => (ctr_slices_IndexFunc_s_api_Msg_api_Msg__node_Valid_c3__node_Valid_c2 N).run vs some) :=
  fn_sound (envok_slices_IndexFunc_s_api_Msg_api_Msg__node_Valid_c3__node_Valid_c2 N) mixed (Λ := lam_slices_IndexFunc_s_api_Msg_api_Msg__node_Valid_c3__node_Valid_c2 N) (fn := Tryz.f92) (c := c_slices_IndexFunc_s_api_Msg_api_Msg__node_Valid_c3__node_Valid_c2) Tryz.func92 (by kernel_rfl) (by kernel_rfl) (obs_ok (l := [(lp_slices_IndexFunc_s_api_Msg_api_Msg__node_Valid_c3__node_Valid_c2_l0 N, (codeAt c_slices_IndexFunc_s_api_Msg_api_Msg__node_Valid_c3__node_Valid_c2 [true, false, true, false]))]) (by kernel_rfl) (obsCons (lpok_slices_IndexFunc_s_api_Msg_api_Msg__node_Valid_c3__node_Valid_c2_l0 N none) obsNil)) (by kernel_rfl) (by intro v; kernel_rfl)
noncomputable def c_slices_ContainsFunc_s_api_Msg_api_Msg__node_Valid_c3__node_Valid_c2 : Code := match Tryz.f46.body with | some c => c | none => .skip
noncomputable def tab_slices_ContainsFunc_s_api_Msg_api_Msg__node_Valid_c3__node_Valid_c2 (N : Nat) : List (Nat × Ctr) := [(92, ctr_slices_IndexFunc_s_api_Msg_api_Msg__node_Valid_c3__node_Valid_c2 N)]
noncomputable def env_slices_ContainsFunc_s_api_Msg_api_Msg__node_Valid_c3__node_Valid_c2 (N : Nat) : Env := mkEnv tyRows eqRows methRows [] [] (tab_slices_ContainsFunc_s_api_Msg_api_Msg__node_Valid_c3__node_Valid_c2 N)
theorem envok_slices_ContainsFunc_s_api_Msg_api_Msg__node_Valid_c3__node_Valid_c2 (N : Nat) : EnvOk Tryz.prog (env_slices_ContainsFunc_s_api_Msg_api_Msg__node_Valid_c3__node_Valid_c2 N) := mkEnv_ok tyRows_ok eqRows_ok methRows_ok ⟨sound_slices_IndexFunc_s_api_Msg_api_Msg__node_Valid_c3__node_Valid_c2 N, trivial⟩
noncomputable def lam_slices_ContainsFunc_s_api_Msg_api_Msg__node_Valid_c3__node_Valid_c2 (_ : Nat) : Lps := fun _ => none
noncomputable def ctr_slices_ContainsFunc_s_api_Msg_api_Msg__node_Valid_c3__node_Valid_c2 (N : Nat) : Ctr := ctrOf (.cons (.list T_api_Msg) (.clo 47 (.bx (.clo 44 (.bx (.cons .str .str) 0)) 0))) .bool [] (fun v => slices_ContainsFunc_s_api_Msg_api_Msg__node_Valid_c3__node_Valid_c2 N v.1 v.2.1 v.2.2)
theorem sound_slices_ContainsFunc_s_api_Msg_api_Msg__node_Valid_c3__node_Valid_c2 (N : Nat) : SoundF Tryz.prog 46 (fun vs => (ctr_slices_ContainsFunc_s_api_Msg_api_Msg__node_Valid_c3__node_Valid_c2 N).run vs some) :=
  fn_sound (envok_slices_ContainsFunc_s_api_Msg_api_Msg__node_Valid_c3__node_Valid_c2 N) mixed (Λ := lam_slices_ContainsFunc_s_api_Msg_api_Msg__node_Valid_c3__node_Valid_c2 N) (fn := Tryz.f46) (c := c_slices_ContainsFunc_s_api_Msg_api_Msg__node_Valid_c3__node_Valid_c2) Tryz.func46 (by kernel_rfl) (by kernel_rfl) (obs_ok (l := []) (by kernel_rfl) obsNil) (by kernel_rfl) (by intro v; kernel_rfl)
noncomputable def c_node_Valid : Code := match Tryz.f14.body with | some c => c | none => .skip
noncomputable def tab_node_Valid (N : Nat) : List (Nat × Ctr) := [(41, ctr_table_Valid N), (42, ctr_slices_ContainsFunc_s_api_Pair_api_Pair__node_Valid_c1 N), (43, ctr_node_validSum N), (46, ctr_slices_ContainsFunc_s_api_Msg_api_Msg__node_Valid_c3__node_Valid_c2 N)]
noncomputable def env_node_Valid (N : Nat) : Env := mkEnv tyRows eqRows methRows [] [] (tab_node_Valid N)
theorem envok_node_Valid (N : Nat) : EnvOk Tryz.prog (env_node_Valid N) := mkEnv_ok tyRows_ok eqRows_ok methRows_ok ⟨sound_table_Valid N, ⟨sound_slices_ContainsFunc_s_api_Pair_api_Pair__node_Valid_c1 N, ⟨sound_node_validSum N, ⟨sound_slices_ContainsFunc_s_api_Msg_api_Msg__node_Valid_c3__node_Valid_c2 N, trivial⟩⟩⟩⟩
noncomputable def cut_node_Valid_l2 : Cut := { tms := [2, 3, 90, 91, 92], sh := (.cons (.ptr 2000000 0) (.cons (.ptr 2000001 0) (.cons (.list (.int .i64)) (.cons (.int .i64) (.int .i64))))), objs := [(2000000, [2], .box (.cons (.list T_api_Pair) (.cons (.list .str) (.cons (.list (.int .i64)) (.cons (.list T_api_Sum) (.list T_api_Msg)))))), (2000001, [3], .box (.cons .str .str))], sts := [] }
noncomputable def cut_node_Valid_l2_o0 : Cut := { tms := [4], sh := .bool, objs := [], sts := [] }
noncomputable def cut_node_Valid_l2_o1 : Cut := { tms := [2, 3], sh := (.cons (.ptr 2000000 0) (.ptr 2000001 0)), objs := [(2000000, [2], .box (.cons (.list T_api_Pair) (.cons (.list .str) (.cons (.list (.int .i64)) (.cons (.list T_api_Sum) (.list T_api_Msg)))))), (2000001, [3], .box (.cons .str .str))], sts := [] }
noncomputable def lp_node_Valid_l2 (N : Nat) : Lp := lpOf cut_node_Valid_l2 (1, cut_node_Valid_l2_o0) [(4, cut_node_Valid_l2_o1)] (fun v => node_Valid_l2 N N v.1.2.2.1 v.1.2.2.2.1 v.1.2.2.2.2 v.2.1.1 v.2.1.2.1 v.2.1.2.2.1 v.2.1.2.2.2.1 v.2.1.2.2.2.2 v.2.2.1.1 v.2.2.1.2)
noncomputable def lam_node_Valid_l2 (_ : Nat) : Lps := fun _ => none
theorem lpok_node_Valid_l2 (N : Nat) (ro : Option Nat) : LpOk Tryz.prog 119 ro (lp_node_Valid_l2 N) (codeAt c_node_Valid [true, true, true, true, true, false, true, false]) := by
  rw [show (codeAt c_node_Valid [true, true, true, true, true, false, true, false]) = .loop (codeAt c_node_Valid [true, true, true, true, true, false, true, false, false]) by kernel_rfl]
  exact loop_ok (envok_node_Valid N) mixed (Λ := lam_node_Valid_l2 N) (p := 1012) (obs_ok (l := []) (by kernel_rfl) obsNil) (by kernel_rfl) (by intro rec v; kernel_rfl) N
noncomputable def cut_node_Valid_l1 : Cut := { tms := [2, 3, 6, 67, 68, 69], sh := (.cons (.ptr 2000000 0) (.cons (.ptr 2000001 0) (.cons .str (.cons (.list .str) (.cons (.int .i64) (.int .i64)))))), objs := [(2000000, [2], .box (.cons (.list T_api_Pair) (.cons (.list .str) (.cons (.list (.int .i64)) (.cons (.list T_api_Sum) (.list T_api_Msg)))))), (2000001, [3], .box (.cons .str .str))], sts := [] }
noncomputable def cut_node_Valid_l1_o0 : Cut := { tms := [4], sh := .bool, objs := [], sts := [] }
noncomputable def cut_node_Valid_l1_o1 : Cut := { tms := [2, 3], sh := (.cons (.ptr 2000000 0) (.ptr 2000001 0)), objs := [(2000000, [2], .box (.cons (.list T_api_Pair) (.cons (.list .str) (.cons (.list (.int .i64)) (.cons (.list T_api_Sum) (.list T_api_Msg)))))), (2000001, [3], .box (.cons .str .str))], sts := [] }
noncomputable def lp_node_Valid_l1 (N : Nat) : Lp := lpOf cut_node_Valid_l1 (1, cut_node_Valid_l1_o0) [(2, cut_node_Valid_l1_o1)] (fun v => node_Valid_l1 N N v.1.2.2.1 v.1.2.2.2.1 v.1.2.2.2.2.1 v.1.2.2.2.2.2 v.2.1.1 v.2.1.2.1 v.2.1.2.2.1 v.2.1.2.2.2.1 v.2.1.2.2.2.2 v.2.2.1.1 v.2.2.1.2)
noncomputable def lam_node_Valid_l1 (_ : Nat) : Lps := fun _ => none
theorem lpok_node_Valid_l1 (N : Nat) (ro : Option Nat) : LpOk Tryz.prog 119 ro (lp_node_Valid_l1 N) (codeAt c_node_Valid [true, true, true, true, false, true, false]) := by
  rw [show (codeAt c_node_Valid [true, true, true, true, false, true, false]) = .loop (codeAt c_node_Valid [true, true, true, true, false, true, false, false]) by kernel_rfl]
  exact loop_ok (envok_node_Valid N) mixed (Λ := lam_node_Valid_l1 N) (p := 500) (obs_ok (l := []) (by kernel_rfl) obsNil) (by kernel_rfl) (by intro rec v; kernel_rfl) N
noncomputable def cut_node_Valid_p0 : Cut := { tms := [2, 3], sh := (.cons (.ptr 2000000 0) (.ptr 2000001 0)), objs := [(2000000, [2], .box (.cons (.list T_api_Pair) (.cons (.list .str) (.cons (.list (.int .i64)) (.cons (.list T_api_Sum) (.list T_api_Msg)))))), (2000001, [3], .box (.cons .str .str))], sts := [] }
noncomputable def cut_node_Valid_p0_o0 : Cut := { tms := [4], sh := .bool, objs := [], sts := [] }
noncomputable def lp_node_Valid_p0 (N : Nat) : Lp := lpOf cut_node_Valid_p0 (1, cut_node_Valid_p0_o0) [] (fun v => node_Valid_p0 N v.2.1.1 v.2.1.2.1 v.2.1.2.2.1 v.2.1.2.2.2.1 v.2.1.2.2.2.2 v.2.2.1.1 v.2.2.1.2)
noncomputable def lam_node_Valid_p0 (N : Nat) : Lps := fun p => bif Nat.beq p 250 then some (lp_node_Valid_l1 N) else bif Nat.beq p 506 then some (lp_node_Valid_l2 N) else none
theorem lpok_node_Valid_p0 (N : Nat) (ro : Option Nat) : LpOk Tryz.prog 119 ro (lp_node_Valid_p0 N) (codeAt c_node_Valid [true, true, true]) :=
  piece_ok (envok_node_Valid N) mixed (Λ := lam_node_Valid_p0 N) (p := 15) (obs_ok (l := [(lp_node_Valid_l1 N, (codeAt c_node_Valid [true, true, true, true, false, true, false])), (lp_node_Valid_l2 N, (codeAt c_node_Valid [true, true, true, true, true, false, true, false]))]) (by kernel_rfl) (obsCons (lpok_node_Valid_l1 N ro) (obsCons (lpok_node_Valid_l2 N ro) obsNil))) (by kernel_rfl) (by intro v; kernel_rfl)
noncomputable def lam_node_Valid (N : Nat) : Lps := fun p => bif Nat.beq p 15 then some (lp_node_Valid_p0 N) else none
noncomputable def ctr_node_Valid (N : Nat) : Ctr := ctrOf (.cons (.val T_api_Node) (.val T_api_Span)) .bool [] (fun v => node_Valid N v.1 v.2)
theorem sound_node_Valid (N : Nat) : SoundF Tryz.prog 14 (fun vs => (ctr_node_Valid N).run vs some) :=
  fn_sound (envok_node_Valid N) mixed (Λ := lam_node_Valid N) (fn := Tryz.f14) (c := c_node_Valid) Tryz.func14 (by kernel_rfl) (by kernel_rfl) (obs_ok (l := [(lp_node_Valid_p0 N, (codeAt c_node_Valid [true, true, true]))]) (by kernel_rfl) (obsCons (lpok_node_Valid_p0 N none) obsNil)) (by kernel_rfl) (by intro v; kernel_rfl)
noncomputable def c_node_number_m : Code := match Tryz.f57.body with | some c => c | none => .skip
noncomputable def tab_node_number_m (_ : Nat) : List (Nat × Ctr) := []
noncomputable def env_node_number_m (N : Nat) : Env := mkEnv tyRows eqRows methRows [] [] (tab_node_number_m N)
theorem envok_node_number_m (N : Nat) : EnvOk Tryz.prog (env_node_number_m N) := mkEnv_ok tyRows_ok eqRows_ok methRows_ok trivial
noncomputable def cut_node_number_m_l0 : Cut := { tms := [0, 1, 7], sh := (.cons (.own 2000000) (.cons (.int .i64) (.int .i64))), objs := [(2000000, [0], .sl (.int .u8))], sts := [] }
noncomputable def cut_node_number_m_l0_o0 : Cut := { tms := [0], sh := (.own 2000000), objs := [(2000000, [0], .sl (.int .u8))], sts := [] }
noncomputable def lp_node_number_m_l0 (N : Nat) : Lp := lpOf cut_node_number_m_l0 (2, cut_node_number_m_l0_o0) [] (fun v => node_number_m_l0 N N v.1.2.1 v.1.2.2 v.2.1)
noncomputable def lam_node_number_m_l0 (_ : Nat) : Lps := fun _ => none
theorem lpok_node_number_m_l0 (N : Nat) (ro : Option Nat) : LpOk Tryz.prog 23 ro (lp_node_number_m_l0 N) (codeAt c_node_number_m [true, false, true, false]) := by
  rw [show (codeAt c_node_number_m [true, false, true, false]) = .loop (codeAt c_node_number_m [true, false, true, false, false]) by kernel_rfl]
  exact loop_ok (envok_node_number_m N) mixed (Λ := lam_node_number_m_l0 N) (p := 52) (obs_ok (l := []) (by kernel_rfl) obsNil) (by kernel_rfl) (by intro rec v; kernel_rfl) N
noncomputable def lam_node_number_m (N : Nat) : Lps := fun p => bif Nat.beq p 26 then some (lp_node_number_m_l0 N) else none
noncomputable def cut_node_number_m_in : Cut := { tms := [0, 1, 2], sh := (.cons (.own 5000000) (.cons (.int .i64) (.int .i64))), objs := [(5000000, [0], .sl (.int .u8))], sts := [] }
noncomputable def cut_node_number_m_out0 : Cut := { tms := [0], sh := (.own 2000000), objs := [(2000000, [0], .sl (.int .u8))], sts := [] }
noncomputable def ctr_node_number_m (N : Nat) : CtrM := ctrM cut_node_number_m_in cut_node_number_m_out0 [] (fun v => node_number_m N v.1.2.1 v.1.2.2 v.2.1)
theorem sound_node_number_m (N : Nat) : SoundM Tryz.prog 57 (ctr_node_number_m N) :=
  fnM_sound (envok_node_number_m N) mixed (Λ := lam_node_number_m N) (fn := Tryz.f57) (c := c_node_number_m) Tryz.func57 (by kernel_rfl) (by kernel_rfl) (obs_ok (l := [(lp_node_number_m_l0 N, (codeAt c_node_number_m [true, false, true, false]))]) (by kernel_rfl) (obsCons (lpok_node_number_m_l0 N none) obsNil)) (by kernel_rfl) (by intro v; kernel_rfl)
noncomputable def c_node_text_m : Code := match Tryz.f58.body with | some c => c | none => .skip
noncomputable def tab_node_text_m (_ : Nat) : List (Nat × Ctr) := []
noncomputable def tabm_node_text_m (N : Nat) : List (Nat × CtrM) := [(57, ctr_node_number_m N)]
noncomputable def env_node_text_m (N : Nat) : Env := mkEnv tyRows eqRows methRows [] [8] (tab_node_text_m N) (tabm_node_text_m N)
theorem envok_node_text_m (N : Nat) : EnvOk Tryz.prog (env_node_text_m N) := mkEnv_ok tyRows_ok eqRows_ok methRows_ok trivial ⟨sound_node_number_m N, trivial⟩
noncomputable def lam_node_text_m (_ : Nat) : Lps := fun _ => none
noncomputable def cut_node_text_m_in : Cut := { tms := [0, 1], sh := (.cons (.own 5000000) .str), objs := [(5000000, [0], .sl (.int .u8))], sts := [] }
noncomputable def cut_node_text_m_out0 : Cut := { tms := [0], sh := (.own 2000000), objs := [(2000000, [0], .sl (.int .u8))], sts := [] }
noncomputable def ctr_node_text_m (N : Nat) : CtrM := ctrM cut_node_text_m_in cut_node_text_m_out0 [] (fun v => node_text_m N v.1.2 v.2.1)
theorem sound_node_text_m (N : Nat) : SoundM Tryz.prog 58 (ctr_node_text_m N) :=
  fnM_sound (envok_node_text_m N) mixed (Λ := lam_node_text_m N) (fn := Tryz.f58) (c := c_node_text_m) Tryz.func58 (by kernel_rfl) (by kernel_rfl) (obs_ok (l := []) (by kernel_rfl) obsNil) (by kernel_rfl) (by intro v; kernel_rfl)
noncomputable def c_msg_writer_number_m : Code := match Tryz.f184.body with | some c => c | none => .skip
noncomputable def tab_msg_writer_number_m (_ : Nat) : List (Nat × Ctr) := []
noncomputable def env_msg_writer_number_m (N : Nat) : Env := mkEnv tyRows eqRows methRows [] [] (tab_msg_writer_number_m N)
theorem envok_msg_writer_number_m (N : Nat) : EnvOk Tryz.prog (env_msg_writer_number_m N) := mkEnv_ok tyRows_ok eqRows_ok methRows_ok trivial
noncomputable def cut_msg_writer_number_m_l0 : Cut := { tms := [0, 1, 6], sh := (.cons (.ptr 5000000 0) (.cons (.int .i64) (.int .i64))), objs := [(5000000, [5000000], .box (.own 2000001)), (2000001, [5000000, 0], .sl (.int .u8))], sts := [] }
noncomputable def cut_msg_writer_number_m_l0_o0 : Cut := { tms := [], sh := .nil, objs := [(5000000, [5000000], .box (.own 2000001)), (2000001, [5000000, 0], .sl (.int .u8))], sts := [] }
noncomputable def lp_msg_writer_number_m_l0 (N : Nat) : Lp := lpOf cut_msg_writer_number_m_l0 (2, cut_msg_writer_number_m_l0_o0) [] (fun v => msg_writer_number_m_l0 N N v.1.2.1 v.1.2.2 v.2.2.1)
noncomputable def lam_msg_writer_number_m_l0 (_ : Nat) : Lps := fun _ => none
theorem lpok_msg_writer_number_m_l0 (N : Nat) (ro : Option Nat) : LpOk Tryz.prog 27 ro (lp_msg_writer_number_m_l0 N) (codeAt c_msg_writer_number_m [true, false]) := by
  rw [show (codeAt c_msg_writer_number_m [true, false]) = .loop (codeAt c_msg_writer_number_m [true, false, false]) by kernel_rfl]
  exact loop_ok (envok_msg_writer_number_m N) mixed (Λ := lam_msg_writer_number_m_l0 N) (p := 12) (obs_ok (l := []) (by kernel_rfl) obsNil) (by kernel_rfl) (by intro rec v; kernel_rfl) N
noncomputable def lam_msg_writer_number_m (N : Nat) : Lps := fun p => bif Nat.beq p 6 then some (lp_msg_writer_number_m_l0 N) else none
noncomputable def cut_msg_writer_number_m_in : Cut := { tms := [0, 1, 2], sh := (.cons (.ptr 5000000 0) (.cons (.int .i64) (.int .i64))), objs := [(5000000, [0], .box (.own 5000001)), (5000001, [0, 0], .sl (.int .u8))], sts := [] }
noncomputable def cut_msg_writer_number_m_out0 : Cut := { tms := [0], sh := (.tup .nil), objs := [(5000000, [5000000], .box (.own 2000001)), (2000001, [5000000, 0], .sl (.int .u8))], sts := [] }
noncomputable def ctr_msg_writer_number_m (N : Nat) : CtrM := ctrM cut_msg_writer_number_m_in cut_msg_writer_number_m_out0 [] (fun v => msg_writer_number_m N v.1.2.1 v.1.2.2 v.2.2.1)
theorem sound_msg_writer_number_m (N : Nat) : SoundM Tryz.prog 184 (ctr_msg_writer_number_m N) :=
  fnM_sound (envok_msg_writer_number_m N) mixed (Λ := lam_msg_writer_number_m N) (fn := Tryz.f184) (c := c_msg_writer_number_m) Tryz.func184 (by kernel_rfl) (by kernel_rfl) (obs_ok (l := [(lp_msg_writer_number_m_l0 N, (codeAt c_msg_writer_number_m [true, false]))]) (by kernel_rfl) (obsCons (lpok_msg_writer_number_m_l0 N none) obsNil)) (by kernel_rfl) (by intro v; kernel_rfl)
noncomputable def c_msg_writer_text_m : Code := match Tryz.f175.body with | some c => c | none => .skip
noncomputable def tab_msg_writer_text_m (_ : Nat) : List (Nat × Ctr) := []
noncomputable def tabm_msg_writer_text_m (N : Nat) : List (Nat × CtrM) := [(184, ctr_msg_writer_number_m N)]
noncomputable def env_msg_writer_text_m (N : Nat) : Env := mkEnv tyRows eqRows methRows [] [7] (tab_msg_writer_text_m N) (tabm_msg_writer_text_m N)
theorem envok_msg_writer_text_m (N : Nat) : EnvOk Tryz.prog (env_msg_writer_text_m N) := mkEnv_ok tyRows_ok eqRows_ok methRows_ok trivial ⟨sound_msg_writer_number_m N, trivial⟩
noncomputable def lam_msg_writer_text_m (_ : Nat) : Lps := fun _ => none
noncomputable def cut_msg_writer_text_m_in : Cut := { tms := [0, 1], sh := (.cons (.ptr 5000000 0) .str), objs := [(5000000, [0], .box (.own 5000001)), (5000001, [0, 0], .sl (.int .u8))], sts := [] }
noncomputable def cut_msg_writer_text_m_out0 : Cut := { tms := [0], sh := (.tup .nil), objs := [(5000000, [5000000], .box (.own 2000001)), (2000001, [5000000, 0], .sl (.int .u8))], sts := [] }
noncomputable def ctr_msg_writer_text_m (N : Nat) : CtrM := ctrM cut_msg_writer_text_m_in cut_msg_writer_text_m_out0 [] (fun v => msg_writer_text_m N v.1.2 v.2.2.1)
theorem sound_msg_writer_text_m (N : Nat) : SoundM Tryz.prog 175 (ctr_msg_writer_text_m N) :=
  fnM_sound (envok_msg_writer_text_m N) mixed (Λ := lam_msg_writer_text_m N) (fn := Tryz.f175) (c := c_msg_writer_text_m) Tryz.func175 (by kernel_rfl) (by kernel_rfl) (obs_ok (l := []) (by kernel_rfl) obsNil) (by kernel_rfl) (by intro v; kernel_rfl)
noncomputable def c_msg_put_write_m : Code := match Tryz.f180.body with | some c => c | none => .skip
noncomputable def tab_msg_put_write_m (_ : Nat) : List (Nat × Ctr) := []
noncomputable def tabm_msg_put_write_m (N : Nat) : List (Nat × CtrM) := [(175, ctr_msg_writer_text_m N), (184, ctr_msg_writer_number_m N)]
noncomputable def env_msg_put_write_m (N : Nat) : Env := mkEnv tyRows eqRows methRows [] [7, 11, 15] (tab_msg_put_write_m N) (tabm_msg_put_write_m N)
theorem envok_msg_put_write_m (N : Nat) : EnvOk Tryz.prog (env_msg_put_write_m N) := mkEnv_ok tyRows_ok eqRows_ok methRows_ok trivial ⟨sound_msg_writer_text_m N, ⟨sound_msg_writer_number_m N, trivial⟩⟩
noncomputable def lam_msg_put_write_m (_ : Nat) : Lps := fun _ => none
noncomputable def cut_msg_put_write_m_in : Cut := { tms := [0, 1], sh := (.cons (.val T_api_Msg) (.ptr 5000000 0)), objs := [(5000000, [1], .box (.own 5000001)), (5000001, [1, 0], .sl (.int .u8))], sts := [] }
noncomputable def cut_msg_put_write_m_out0 : Cut := { tms := [0], sh := (.tup .nil), objs := [(5000000, [5000000], .box (.own 2000001)), (2000001, [5000000, 0], .sl (.int .u8))], sts := [] }
noncomputable def ctr_msg_put_write_m (N : Nat) : CtrM := ctrM cut_msg_put_write_m_in cut_msg_put_write_m_out0 [] (fun v => msg_put_write_m N v.1.1 v.2.2.1)
theorem sound_msg_put_write_m (N : Nat) : SoundM Tryz.prog 180 (ctr_msg_put_write_m N) :=
  fnM_sound (envok_msg_put_write_m N) mixed (Λ := lam_msg_put_write_m N) (fn := Tryz.f180) (c := c_msg_put_write_m) Tryz.func180 (by kernel_rfl) (by kernel_rfl) (obs_ok (l := []) (by kernel_rfl) obsNil) (by kernel_rfl) (by intro v; kernel_rfl)
noncomputable def c_msg_del_write_m : Code := match Tryz.f202.body with | some c => c | none => .skip
noncomputable def tab_msg_del_write_m (_ : Nat) : List (Nat × Ctr) := []
noncomputable def tabm_msg_del_write_m (N : Nat) : List (Nat × CtrM) := [(175, ctr_msg_writer_text_m N)]
noncomputable def env_msg_del_write_m (N : Nat) : Env := mkEnv tyRows eqRows methRows [] [7] (tab_msg_del_write_m N) (tabm_msg_del_write_m N)
theorem envok_msg_del_write_m (N : Nat) : EnvOk Tryz.prog (env_msg_del_write_m N) := mkEnv_ok tyRows_ok eqRows_ok methRows_ok trivial ⟨sound_msg_writer_text_m N, trivial⟩
noncomputable def lam_msg_del_write_m (_ : Nat) : Lps := fun _ => none
noncomputable def cut_msg_del_write_m_in : Cut := { tms := [0, 1], sh := (.cons (.val T_api_Msg) (.ptr 5000000 0)), objs := [(5000000, [1], .box (.own 5000001)), (5000001, [1, 0], .sl (.int .u8))], sts := [] }
noncomputable def cut_msg_del_write_m_out0 : Cut := { tms := [0], sh := (.tup .nil), objs := [(5000000, [5000000], .box (.own 2000001)), (2000001, [5000000, 0], .sl (.int .u8))], sts := [] }
noncomputable def ctr_msg_del_write_m (N : Nat) : CtrM := ctrM cut_msg_del_write_m_in cut_msg_del_write_m_out0 [] (fun v => msg_del_write_m N v.1.1 v.2.2.1)
theorem sound_msg_del_write_m (N : Nat) : SoundM Tryz.prog 202 (ctr_msg_del_write_m N) :=
  fnM_sound (envok_msg_del_write_m N) mixed (Λ := lam_msg_del_write_m N) (fn := Tryz.f202) (c := c_msg_del_write_m) Tryz.func202 (by kernel_rfl) (by kernel_rfl) (obs_ok (l := []) (by kernel_rfl) obsNil) (by kernel_rfl) (by intro v; kernel_rfl)
noncomputable def c_msg_drop_write_m : Code := match Tryz.f213.body with | some c => c | none => .skip
noncomputable def tab_msg_drop_write_m (_ : Nat) : List (Nat × Ctr) := []
noncomputable def tabm_msg_drop_write_m (N : Nat) : List (Nat × CtrM) := [(175, ctr_msg_writer_text_m N)]
noncomputable def env_msg_drop_write_m (N : Nat) : Env := mkEnv tyRows eqRows methRows [] [8, 13] (tab_msg_drop_write_m N) (tabm_msg_drop_write_m N)
theorem envok_msg_drop_write_m (N : Nat) : EnvOk Tryz.prog (env_msg_drop_write_m N) := mkEnv_ok tyRows_ok eqRows_ok methRows_ok trivial ⟨sound_msg_writer_text_m N, trivial⟩
noncomputable def lam_msg_drop_write_m (_ : Nat) : Lps := fun _ => none
noncomputable def cut_msg_drop_write_m_in : Cut := { tms := [0, 1], sh := (.cons (.val T_api_Msg) (.ptr 5000000 0)), objs := [(5000000, [1], .box (.own 5000001)), (5000001, [1, 0], .sl (.int .u8))], sts := [] }
noncomputable def cut_msg_drop_write_m_out0 : Cut := { tms := [0], sh := (.tup .nil), objs := [(5000000, [5000000], .box (.own 2000001)), (2000001, [5000000, 0], .sl (.int .u8))], sts := [] }
noncomputable def ctr_msg_drop_write_m (N : Nat) : CtrM := ctrM cut_msg_drop_write_m_in cut_msg_drop_write_m_out0 [] (fun v => msg_drop_write_m N v.1.1 v.2.2.1)
theorem sound_msg_drop_write_m (N : Nat) : SoundM Tryz.prog 213 (ctr_msg_drop_write_m N) :=
  fnM_sound (envok_msg_drop_write_m N) mixed (Λ := lam_msg_drop_write_m N) (fn := Tryz.f213) (c := c_msg_drop_write_m) Tryz.func213 (by kernel_rfl) (by kernel_rfl) (obs_ok (l := []) (by kernel_rfl) obsNil) (by kernel_rfl) (by intro v; kernel_rfl)
noncomputable def c_msg_move_write_m : Code := match Tryz.f220.body with | some c => c | none => .skip
noncomputable def tab_msg_move_write_m (_ : Nat) : List (Nat × Ctr) := []
noncomputable def tabm_msg_move_write_m (N : Nat) : List (Nat × CtrM) := [(175, ctr_msg_writer_text_m N)]
noncomputable def env_msg_move_write_m (N : Nat) : Env := mkEnv tyRows eqRows methRows [] [7, 11] (tab_msg_move_write_m N) (tabm_msg_move_write_m N)
theorem envok_msg_move_write_m (N : Nat) : EnvOk Tryz.prog (env_msg_move_write_m N) := mkEnv_ok tyRows_ok eqRows_ok methRows_ok trivial ⟨sound_msg_writer_text_m N, trivial⟩
noncomputable def lam_msg_move_write_m (_ : Nat) : Lps := fun _ => none
noncomputable def cut_msg_move_write_m_in : Cut := { tms := [0, 1], sh := (.cons (.val T_api_Msg) (.ptr 5000000 0)), objs := [(5000000, [1], .box (.own 5000001)), (5000001, [1, 0], .sl (.int .u8))], sts := [] }
noncomputable def cut_msg_move_write_m_out0 : Cut := { tms := [0], sh := (.tup .nil), objs := [(5000000, [5000000], .box (.own 2000001)), (2000001, [5000000, 0], .sl (.int .u8))], sts := [] }
noncomputable def ctr_msg_move_write_m (N : Nat) : CtrM := ctrM cut_msg_move_write_m_in cut_msg_move_write_m_out0 [] (fun v => msg_move_write_m N v.1.1 v.2.2.1)
theorem sound_msg_move_write_m (N : Nat) : SoundM Tryz.prog 220 (ctr_msg_move_write_m N) :=
  fnM_sound (envok_msg_move_write_m N) mixed (Λ := lam_msg_move_write_m N) (fn := Tryz.f220) (c := c_msg_move_write_m) Tryz.func220 (by kernel_rfl) (by kernel_rfl) (obs_ok (l := []) (by kernel_rfl) obsNil) (by kernel_rfl) (by intro v; kernel_rfl)
noncomputable def c_msg_clone_write_m : Code := match Tryz.f233.body with | some c => c | none => .skip
noncomputable def tab_msg_clone_write_m (_ : Nat) : List (Nat × Ctr) := []
noncomputable def tabm_msg_clone_write_m (N : Nat) : List (Nat × CtrM) := [(220, ctr_msg_move_write_m N)]
noncomputable def env_msg_clone_write_m (N : Nat) : Env := mkEnv tyRows eqRows methRows [] [6] (tab_msg_clone_write_m N) (tabm_msg_clone_write_m N)
theorem envok_msg_clone_write_m (N : Nat) : EnvOk Tryz.prog (env_msg_clone_write_m N) := mkEnv_ok tyRows_ok eqRows_ok methRows_ok trivial ⟨sound_msg_move_write_m N, trivial⟩
noncomputable def lam_msg_clone_write_m (_ : Nat) : Lps := fun _ => none
noncomputable def cut_msg_clone_write_m_in : Cut := { tms := [0, 1], sh := (.cons (.val T_api_Msg) (.ptr 5000000 0)), objs := [(5000000, [1], .box (.own 5000001)), (5000001, [1, 0], .sl (.int .u8))], sts := [] }
noncomputable def cut_msg_clone_write_m_out0 : Cut := { tms := [0], sh := (.tup .nil), objs := [(5000000, [5000000], .box (.own 2000001)), (2000001, [5000000, 0], .sl (.int .u8))], sts := [] }
noncomputable def ctr_msg_clone_write_m (N : Nat) : CtrM := ctrM cut_msg_clone_write_m_in cut_msg_clone_write_m_out0 [] (fun v => msg_clone_write_m N v.1.1 v.2.2.1)
theorem sound_msg_clone_write_m (N : Nat) : SoundM Tryz.prog 233 (ctr_msg_clone_write_m N) :=
  fnM_sound (envok_msg_clone_write_m N) mixed (Λ := lam_msg_clone_write_m N) (fn := Tryz.f233) (c := c_msg_clone_write_m) Tryz.func233 (by kernel_rfl) (by kernel_rfl) (obs_ok (l := []) (by kernel_rfl) obsNil) (by kernel_rfl) (by intro v; kernel_rfl)
noncomputable def c_msg_stamp_write_m : Code := match Tryz.f239.body with | some c => c | none => .skip
noncomputable def tab_msg_stamp_write_m (_ : Nat) : List (Nat × Ctr) := []
noncomputable def tabm_msg_stamp_write_m (N : Nat) : List (Nat × CtrM) := [(213, ctr_msg_drop_write_m N), (184, ctr_msg_writer_number_m N)]
noncomputable def env_msg_stamp_write_m (N : Nat) : Env := mkEnv tyRows eqRows methRows [] [6, 10] (tab_msg_stamp_write_m N) (tabm_msg_stamp_write_m N)
theorem envok_msg_stamp_write_m (N : Nat) : EnvOk Tryz.prog (env_msg_stamp_write_m N) := mkEnv_ok tyRows_ok eqRows_ok methRows_ok trivial ⟨sound_msg_drop_write_m N, ⟨sound_msg_writer_number_m N, trivial⟩⟩
noncomputable def lam_msg_stamp_write_m (_ : Nat) : Lps := fun _ => none
noncomputable def cut_msg_stamp_write_m_in : Cut := { tms := [0, 1], sh := (.cons (.val T_api_Msg) (.ptr 5000000 0)), objs := [(5000000, [1], .box (.own 5000001)), (5000001, [1, 0], .sl (.int .u8))], sts := [] }
noncomputable def cut_msg_stamp_write_m_out0 : Cut := { tms := [0], sh := (.tup .nil), objs := [(5000000, [5000000], .box (.own 2000001)), (2000001, [5000000, 0], .sl (.int .u8))], sts := [] }
noncomputable def ctr_msg_stamp_write_m (N : Nat) : CtrM := ctrM cut_msg_stamp_write_m_in cut_msg_stamp_write_m_out0 [] (fun v => msg_stamp_write_m N v.1.1 v.2.2.1)
theorem sound_msg_stamp_write_m (N : Nat) : SoundM Tryz.prog 239 (ctr_msg_stamp_write_m N) :=
  fnM_sound (envok_msg_stamp_write_m N) mixed (Λ := lam_msg_stamp_write_m N) (fn := Tryz.f239) (c := c_msg_stamp_write_m) Tryz.func239 (by kernel_rfl) (by kernel_rfl) (obs_ok (l := []) (by kernel_rfl) obsNil) (by kernel_rfl) (by intro v; kernel_rfl)
noncomputable def c_msg_Bytes : Code := match Tryz.f59.body with | some c => c | none => .skip
noncomputable def tab_msg_Bytes (N : Nat) : List (Nat × Ctr) := [(48, ctr_msg_Valid N), (93, ctr_msg_of N)]
noncomputable def tabm_msg_Bytes (N : Nat) : List (Nat × CtrM) := [(180, ctr_msg_put_write_m N), (202, ctr_msg_del_write_m N), (213, ctr_msg_drop_write_m N), (220, ctr_msg_move_write_m N), (233, ctr_msg_clone_write_m N), (239, ctr_msg_stamp_write_m N)]
noncomputable def env_msg_Bytes (N : Nat) : Env := mkEnv tyRows eqRows methRows [] [16] (tab_msg_Bytes N) (tabm_msg_Bytes N)
theorem envok_msg_Bytes (N : Nat) : EnvOk Tryz.prog (env_msg_Bytes N) := mkEnv_ok tyRows_ok eqRows_ok methRows_ok ⟨sound_msg_Valid N, ⟨sound_msg_of N, trivial⟩⟩ ⟨sound_msg_put_write_m N, ⟨sound_msg_del_write_m N, ⟨sound_msg_drop_write_m N, ⟨sound_msg_move_write_m N, ⟨sound_msg_clone_write_m N, ⟨sound_msg_stamp_write_m N, trivial⟩⟩⟩⟩⟩⟩
noncomputable def lam_msg_Bytes (_ : Nat) : Lps := fun _ => none
noncomputable def ctr_msg_Bytes (N : Nat) : Ctr := ctrOf (.val T_api_Msg) (.fresh (.int .u8)) [] (fun v => msg_Bytes N v)
theorem sound_msg_Bytes (N : Nat) : SoundF Tryz.prog 59 (fun vs => (ctr_msg_Bytes N).run vs some) :=
  fn_sound (envok_msg_Bytes N) mixed (Λ := lam_msg_Bytes N) (fn := Tryz.f59) (c := c_msg_Bytes) Tryz.func59 (by kernel_rfl) (by kernel_rfl) (obs_ok (l := []) (by kernel_rfl) obsNil) (by kernel_rfl) (by intro v; kernel_rfl)
noncomputable def c_node_Bytes : Code := match Tryz.f16.body with | some c => c | none => .skip
noncomputable def tab_node_Bytes (N : Nat) : List (Nat × Ctr) := [(14, ctr_node_Valid N), (59, ctr_msg_Bytes N)]
noncomputable def tabm_node_Bytes (N : Nat) : List (Nat × CtrM) := [(57, ctr_node_number_m N), (58, ctr_node_text_m N)]
noncomputable def env_node_Bytes (N : Nat) : Env := mkEnv tyRows eqRows methRows [] [29, 40, 43, 46, 53, 63, 74, 103, 110] (tab_node_Bytes N) (tabm_node_Bytes N)
theorem envok_node_Bytes (N : Nat) : EnvOk Tryz.prog (env_node_Bytes N) := mkEnv_ok tyRows_ok eqRows_ok methRows_ok ⟨sound_node_Valid N, ⟨sound_msg_Bytes N, trivial⟩⟩ ⟨sound_node_number_m N, ⟨sound_node_text_m N, trivial⟩⟩
noncomputable def cut_node_Bytes_l5 : Cut := { tms := [1, 6, 77, 78, 79, 95, 96, 97], sh := (.cons (.ptr 2000000 0) (.cons (.own 2000001) (.cons (.list T_api_Sum) (.cons (.int .i64) (.cons (.int .i64) (.cons (.own 2000002) (.cons (.int .i64) (.int .i64)))))))), objs := [(2000000, [1], .box (.cons (.list T_api_Pair) (.cons (.list .str) (.cons (.list (.int .i64)) (.cons (.list T_api_Sum) (.list T_api_Msg)))))), (2000001, [6], .sl (.int .u8)), (2000002, [95], .sl (.int .i64))], sts := [] }
noncomputable def cut_node_Bytes_l5_o0 : Cut := { tms := [1, 6, 77, 78, 79], sh := (.cons (.ptr 2000000 0) (.cons (.own 2000001) (.cons (.list T_api_Sum) (.cons (.int .i64) (.int .i64))))), objs := [(2000000, [1], .box (.cons (.list T_api_Pair) (.cons (.list .str) (.cons (.list (.int .i64)) (.cons (.list T_api_Sum) (.list T_api_Msg)))))), (2000001, [6], .sl (.int .u8))], sts := [] }
noncomputable def lp_node_Bytes_l5 (N : Nat) : Lp := lpOf cut_node_Bytes_l5 (10, cut_node_Bytes_l5_o0) [] (fun v => node_Bytes_l5 N N v.1.2.2.1 v.1.2.2.2.1 v.1.2.2.2.2.1 v.1.2.2.2.2.2.2.1 v.1.2.2.2.2.2.2.2 v.2.1.1 v.2.1.2.1 v.2.1.2.2.1 v.2.1.2.2.2.1 v.2.1.2.2.2.2 v.2.2.1 v.2.2.2.1)
noncomputable def lam_node_Bytes_l5 (_ : Nat) : Lps := fun _ => none
theorem lpok_node_Bytes_l5 (N : Nat) (ro : Option Nat) : LpOk Tryz.prog 124 ro (lp_node_Bytes_l5 N) (codeAt c_node_Bytes [true, true, true, true, true, true, false, true, false, false, true, true, false, false, true, true, false]) := by
  rw [show (codeAt c_node_Bytes [true, true, true, true, true, true, false, true, false, false, true, true, false, false, true, true, false]) = .loop (codeAt c_node_Bytes [true, true, true, true, true, true, false, true, false, false, true, true, false, false, true, true, false, false]) by kernel_rfl]
  exact loop_ok (envok_node_Bytes N) mixed (Λ := lam_node_Bytes_l5 N) (p := 521420) (obs_ok (l := []) (by kernel_rfl) obsNil) (by kernel_rfl) (by intro rec v; kernel_rfl) N
noncomputable def cut_node_Bytes_l4 : Cut := { tms := [6, 112, 113, 114], sh := (.cons (.own 2000000) (.cons (.list T_api_Msg) (.cons (.int .i64) (.int .i64)))), objs := [(2000000, [6], .sl (.int .u8))], sts := [] }
noncomputable def cut_node_Bytes_l4_o0 : Cut := { tms := [6], sh := (.own 2000000), objs := [(2000000, [6], .sl (.int .u8))], sts := [] }
noncomputable def lp_node_Bytes_l4 (N : Nat) : Lp := lpOf cut_node_Bytes_l4 (12, cut_node_Bytes_l4_o0) [] (fun v => node_Bytes_l4 N N v.1.2.1 v.1.2.2.1 v.1.2.2.2 v.2.1)
noncomputable def lam_node_Bytes_l4 (_ : Nat) : Lps := fun _ => none
theorem lpok_node_Bytes_l4 (N : Nat) (ro : Option Nat) : LpOk Tryz.prog 124 ro (lp_node_Bytes_l4 N) (codeAt c_node_Bytes [true, true, true, true, true, true, true, true, false, true, false]) := by
  rw [show (codeAt c_node_Bytes [true, true, true, true, true, true, true, true, false, true, false]) = .loop (codeAt c_node_Bytes [true, true, true, true, true, true, true, true, false, true, false, false]) by kernel_rfl]
  exact loop_ok (envok_node_Bytes N) mixed (Λ := lam_node_Bytes_l4 N) (p := 8180) (obs_ok (l := []) (by kernel_rfl) obsNil) (by kernel_rfl) (by intro rec v; kernel_rfl) N
noncomputable def cut_node_Bytes_l3 : Cut := { tms := [1, 6, 77, 78, 79], sh := (.cons (.ptr 2000000 0) (.cons (.own 2000001) (.cons (.list T_api_Sum) (.cons (.int .i64) (.int .i64))))), objs := [(2000000, [1], .box (.cons (.list T_api_Pair) (.cons (.list .str) (.cons (.list (.int .i64)) (.cons (.list T_api_Sum) (.list T_api_Msg)))))), (2000001, [6], .sl (.int .u8))], sts := [] }
noncomputable def cut_node_Bytes_l3_o0 : Cut := { tms := [1, 6], sh := (.cons (.ptr 2000000 0) (.own 2000001)), objs := [(2000000, [1], .box (.cons (.list T_api_Pair) (.cons (.list .str) (.cons (.list (.int .i64)) (.cons (.list T_api_Sum) (.list T_api_Msg)))))), (2000001, [6], .sl (.int .u8))], sts := [] }
noncomputable def lp_node_Bytes_l3 (N : Nat) : Lp := lpOf cut_node_Bytes_l3 (8, cut_node_Bytes_l3_o0) [] (fun v => node_Bytes_l3 N N v.1.2.2.1 v.1.2.2.2.1 v.1.2.2.2.2 v.2.1.1 v.2.1.2.1 v.2.1.2.2.1 v.2.1.2.2.2.1 v.2.1.2.2.2.2 v.2.2.1)
noncomputable def lam_node_Bytes_l3 (N : Nat) : Lps := fun p => bif Nat.beq p 260710 then some (lp_node_Bytes_l5 N) else none
theorem lpok_node_Bytes_l3 (N : Nat) (ro : Option Nat) : LpOk Tryz.prog 124 ro (lp_node_Bytes_l3 N) (codeAt c_node_Bytes [true, true, true, true, true, true, false, true, false]) := by
  rw [show (codeAt c_node_Bytes [true, true, true, true, true, true, false, true, false]) = .loop (codeAt c_node_Bytes [true, true, true, true, true, true, false, true, false, false]) by kernel_rfl]
  exact loop_ok (envok_node_Bytes N) mixed (Λ := lam_node_Bytes_l3 N) (p := 2036) (obs_ok (l := [(lp_node_Bytes_l5 N, (codeAt c_node_Bytes [true, true, true, true, true, true, false, true, false, false, true, true, false, false, true, true, false]))]) (by kernel_rfl) (obsCons (lpok_node_Bytes_l5 N ro) obsNil)) (by kernel_rfl) (by intro rec v; kernel_rfl) N
noncomputable def cut_node_Bytes_l2 : Cut := { tms := [3, 31, 32, 33], sh := (.cons (.own 2000000) (.cons (.list T_api_Pair) (.cons (.int .i64) (.int .i64)))), objs := [(2000000, [3], .sl (.int .u8))], sts := [] }
noncomputable def cut_node_Bytes_l2_o0 : Cut := { tms := [3], sh := (.own 2000000), objs := [(2000000, [3], .sl (.int .u8))], sts := [] }
noncomputable def lp_node_Bytes_l2 (N : Nat) : Lp := lpOf cut_node_Bytes_l2 (2, cut_node_Bytes_l2_o0) [] (fun v => node_Bytes_l2 N N v.1.2.1 v.1.2.2.1 v.1.2.2.2 v.2.1)
noncomputable def lam_node_Bytes_l2 (_ : Nat) : Lps := fun _ => none
theorem lpok_node_Bytes_l2 (N : Nat) (ro : Option Nat) : LpOk Tryz.prog 124 ro (lp_node_Bytes_l2 N) (codeAt c_node_Bytes [true, true, false, true, false, true, false, true, false]) := by
  rw [show (codeAt c_node_Bytes [true, true, false, true, false, true, false, true, false]) = .loop (codeAt c_node_Bytes [true, true, false, true, false, true, false, true, false, false]) by kernel_rfl]
  exact loop_ok (envok_node_Bytes N) mixed (Λ := lam_node_Bytes_l2 N) (p := 1876) (obs_ok (l := []) (by kernel_rfl) obsNil) (by kernel_rfl) (by intro rec v; kernel_rfl) N
noncomputable def cut_node_Bytes_l1 : Cut := { tms := [1, 6, 66, 67, 68], sh := (.cons (.ptr 2000000 0) (.cons (.own 2000001) (.cons (.list .str) (.cons (.int .i64) (.int .i64))))), objs := [(2000000, [1], .box (.cons (.list T_api_Pair) (.cons (.list .str) (.cons (.list (.int .i64)) (.cons (.list T_api_Sum) (.list T_api_Msg)))))), (2000001, [6], .sl (.int .u8))], sts := [] }
noncomputable def cut_node_Bytes_l1_o0 : Cut := { tms := [1, 6], sh := (.cons (.ptr 2000000 0) (.own 2000001)), objs := [(2000000, [1], .box (.cons (.list T_api_Pair) (.cons (.list .str) (.cons (.list (.int .i64)) (.cons (.list T_api_Sum) (.list T_api_Msg)))))), (2000001, [6], .sl (.int .u8))], sts := [] }
noncomputable def lp_node_Bytes_l1 (N : Nat) : Lp := lpOf cut_node_Bytes_l1 (6, cut_node_Bytes_l1_o0) [] (fun v => node_Bytes_l1 N N v.1.2.2.1 v.1.2.2.2.1 v.1.2.2.2.2 v.2.1.1 v.2.1.2.1 v.2.1.2.2.1 v.2.1.2.2.2.1 v.2.1.2.2.2.2 v.2.2.1)
noncomputable def lam_node_Bytes_l1 (_ : Nat) : Lps := fun _ => none
theorem lpok_node_Bytes_l1 (N : Nat) (ro : Option Nat) : LpOk Tryz.prog 124 ro (lp_node_Bytes_l1 N) (codeAt c_node_Bytes [true, true, true, true, true, false, true, false]) := by
  rw [show (codeAt c_node_Bytes [true, true, true, true, true, false, true, false]) = .loop (codeAt c_node_Bytes [true, true, true, true, true, false, true, false, false]) by kernel_rfl]
  exact loop_ok (envok_node_Bytes N) mixed (Λ := lam_node_Bytes_l1 N) (p := 1012) (obs_ok (l := []) (by kernel_rfl) obsNil) (by kernel_rfl) (by intro rec v; kernel_rfl) N
noncomputable def cut_node_Bytes_l0 : Cut := { tms := [1, 6, 55, 56, 57], sh := (.cons (.ptr 2000000 0) (.cons (.own 2000001) (.cons (.list (.int .i64)) (.cons (.int .i64) (.int .i64))))), objs := [(2000000, [1], .box (.cons (.list T_api_Pair) (.cons (.list .str) (.cons (.list (.int .i64)) (.cons (.list T_api_Sum) (.list T_api_Msg)))))), (2000001, [6], .sl (.int .u8))], sts := [] }
noncomputable def cut_node_Bytes_l0_o0 : Cut := { tms := [1, 6], sh := (.cons (.ptr 2000000 0) (.own 2000001)), objs := [(2000000, [1], .box (.cons (.list T_api_Pair) (.cons (.list .str) (.cons (.list (.int .i64)) (.cons (.list T_api_Sum) (.list T_api_Msg)))))), (2000001, [6], .sl (.int .u8))], sts := [] }
noncomputable def lp_node_Bytes_l0 (N : Nat) : Lp := lpOf cut_node_Bytes_l0 (4, cut_node_Bytes_l0_o0) [] (fun v => node_Bytes_l0 N N v.1.2.2.1 v.1.2.2.2.1 v.1.2.2.2.2 v.2.1.1 v.2.1.2.1 v.2.1.2.2.1 v.2.1.2.2.2.1 v.2.1.2.2.2.2 v.2.2.1)
noncomputable def lam_node_Bytes_l0 (_ : Nat) : Lps := fun _ => none
theorem lpok_node_Bytes_l0 (N : Nat) (ro : Option Nat) : LpOk Tryz.prog 124 ro (lp_node_Bytes_l0 N) (codeAt c_node_Bytes [true, true, true, true, false, true, false]) := by
  rw [show (codeAt c_node_Bytes [true, true, true, true, false, true, false]) = .loop (codeAt c_node_Bytes [true, true, true, true, false, true, false, false]) by kernel_rfl]
  exact loop_ok (envok_node_Bytes N) mixed (Λ := lam_node_Bytes_l0 N) (p := 500) (obs_ok (l := []) (by kernel_rfl) obsNil) (by kernel_rfl) (by intro rec v; kernel_rfl) N
noncomputable def lam_node_Bytes (N : Nat) : Lps := fun p => bif Nat.beq p 250 then some (lp_node_Bytes_l0 N) else bif Nat.beq p 506 then some (lp_node_Bytes_l1 N) else bif Nat.beq p 938 then some (lp_node_Bytes_l2 N) else bif Nat.beq p 1018 then some (lp_node_Bytes_l3 N) else bif Nat.beq p 4090 then some (lp_node_Bytes_l4 N) else none
noncomputable def ctr_node_Bytes (N : Nat) : Ctr := ctrOf (.val T_api_Node) (.fresh (.int .u8)) [] (fun v => node_Bytes N v)
theorem sound_node_Bytes (N : Nat) : SoundF Tryz.prog 16 (fun vs => (ctr_node_Bytes N).run vs some) :=
  fn_sound (envok_node_Bytes N) mixed (Λ := lam_node_Bytes N) (fn := Tryz.f16) (c := c_node_Bytes) Tryz.func16 (by kernel_rfl) (by kernel_rfl) (obs_ok (l := [(lp_node_Bytes_l2 N, (codeAt c_node_Bytes [true, true, false, true, false, true, false, true, false])), (lp_node_Bytes_l0 N, (codeAt c_node_Bytes [true, true, true, true, false, true, false])), (lp_node_Bytes_l1 N, (codeAt c_node_Bytes [true, true, true, true, true, false, true, false])), (lp_node_Bytes_l3 N, (codeAt c_node_Bytes [true, true, true, true, true, true, false, true, false])), (lp_node_Bytes_l4 N, (codeAt c_node_Bytes [true, true, true, true, true, true, true, true, false, true, false]))]) (by kernel_rfl) (obsCons (lpok_node_Bytes_l2 N none) (obsCons (lpok_node_Bytes_l0 N none) (obsCons (lpok_node_Bytes_l1 N none) (obsCons (lpok_node_Bytes_l3 N none) (obsCons (lpok_node_Bytes_l4 N none) obsNil)))))) (by kernel_rfl) (by intro v; kernel_rfl)
noncomputable def c_slices_Equal_s_uint8_uint8 : Code := match Tryz.f71.body with | some c => c | none => .skip
noncomputable def tab_slices_Equal_s_uint8_uint8 (_ : Nat) : List (Nat × Ctr) := []
noncomputable def env_slices_Equal_s_uint8_uint8 (N : Nat) : Env := mkEnv tyRows eqRows methRows [] [] (tab_slices_Equal_s_uint8_uint8 N)
theorem envok_slices_Equal_s_uint8_uint8 (N : Nat) : EnvOk Tryz.prog (env_slices_Equal_s_uint8_uint8 N) := mkEnv_ok tyRows_ok eqRows_ok methRows_ok trivial
noncomputable def cut_slices_Equal_s_uint8_uint8_l0 : Cut := { tms := [0, 1, 12, 13], sh := (.cons (.list (.int .u8)) (.cons (.list (.int .u8)) (.cons (.int .i64) (.int .i64)))), objs := [], sts := [] }
noncomputable def cut_slices_Equal_s_uint8_uint8_l0_o0 : Cut := { tms := [4], sh := .bool, objs := [], sts := [] }
noncomputable def cut_slices_Equal_s_uint8_uint8_l0_o1 : Cut := { tms := [], sh := .nil, objs := [], sts := [] }
noncomputable def lp_slices_Equal_s_uint8_uint8_l0 (N : Nat) : Lp := lpOf cut_slices_Equal_s_uint8_uint8_l0 (1, cut_slices_Equal_s_uint8_uint8_l0_o0) [(2, cut_slices_Equal_s_uint8_uint8_l0_o1)] (fun v => slices_Equal_s_uint8_uint8_l0 N N v.1.1 v.1.2.1 v.1.2.2.1 v.1.2.2.2)
noncomputable def lam_slices_Equal_s_uint8_uint8_l0 (_ : Nat) : Lps := fun _ => none
theorem lpok_slices_Equal_s_uint8_uint8_l0 (N : Nat) (ro : Option Nat) : LpOk Tryz.prog 26 ro (lp_slices_Equal_s_uint8_uint8_l0 N) (codeAt c_slices_Equal_s_uint8_uint8 [true, true, false, true, false]) := by
  rw [show (codeAt c_slices_Equal_s_uint8_uint8 [true, true, false, true, false]) = .loop (codeAt c_slices_Equal_s_uint8_uint8 [true, true, false, true, false, false]) by kernel_rfl]
  exact loop_ok (envok_slices_Equal_s_uint8_uint8 N) mixed (Λ := lam_slices_Equal_s_uint8_uint8_l0 N) (p := 116) (obs_ok (l := []) (by kernel_rfl) obsNil) (by kernel_rfl) (by intro rec v; kernel_rfl) N
noncomputable def lam_slices_Equal_s_uint8_uint8 (N : Nat) : Lps := fun p => bif Nat.beq p 58 then some (lp_slices_Equal_s_uint8_uint8_l0 N) else none
noncomputable def ctr_slices_Equal_s_uint8_uint8 (N : Nat) : Ctr := ctrOf (.cons (.list (.int .u8)) (.list (.int .u8))) .bool [] (fun v => slices_Equal_s_uint8_uint8 N v.1 v.2)
theorem sound_slices_Equal_s_uint8_uint8 (N : Nat) : SoundF Tryz.prog 71 (fun vs => (ctr_slices_Equal_s_uint8_uint8 N).run vs some) :=
  fn_sound (envok_slices_Equal_s_uint8_uint8 N) mixed (Λ := lam_slices_Equal_s_uint8_uint8 N) (fn := Tryz.f71) (c := c_slices_Equal_s_uint8_uint8) Tryz.func71 (by kernel_rfl) (by kernel_rfl) (obs_ok (l := [(lp_slices_Equal_s_uint8_uint8_l0 N, (codeAt c_slices_Equal_s_uint8_uint8 [true, true, false, true, false]))]) (by kernel_rfl) (obsCons (lpok_slices_Equal_s_uint8_uint8_l0 N none) obsNil)) (by kernel_rfl) (by intro v; kernel_rfl)
noncomputable def c_node_list_int_m__node_reader_four : Code := match Tryz.f64.body with | some c => c | none => .skip
noncomputable def tab_node_list_int_m__node_reader_four (_ : Nat) : List (Nat × Ctr) := []
noncomputable def tabm_node_list_int_m__node_reader_four (N : Nat) : List (Nat × CtrM) := [(62, ctr_node_reader_four_m N)]
noncomputable def env_node_list_int_m__node_reader_four (N : Nat) : Env := mkEnv tyRows eqRows methRows [] [20] (tab_node_list_int_m__node_reader_four N) (tabm_node_list_int_m__node_reader_four N)
theorem envok_node_list_int_m__node_reader_four (N : Nat) : EnvOk Tryz.prog (env_node_list_int_m__node_reader_four N) := mkEnv_ok tyRows_ok eqRows_ok methRows_ok trivial ⟨sound_node_reader_four_m N, trivial⟩
noncomputable def cut_node_list_int_m__node_reader_four_l0 : Cut := { tms := [0, 1, 2, 7], sh := (.cons (.ptr 5000000 0) (.cons (.int .i64) (.cons (.clo 62 (.tup (.ptr 5000000 0))) (.own 2000001)))), objs := [(5000000, [5000000], .box (.cons (.list (.int .u8)) .bool)), (2000001, [7], .sl (.int .i64))], sts := [] }
noncomputable def cut_node_list_int_m__node_reader_four_l0_o0 : Cut := { tms := [7], sh := (.own 2000000), objs := [(2000000, [7], .sl (.int .i64)), (5000000, [5000000], .box (.cons (.list (.int .u8)) .bool))], sts := [] }
noncomputable def lp_node_list_int_m__node_reader_four_l0 (N : Nat) : Lp := lpOf cut_node_list_int_m__node_reader_four_l0 (2, cut_node_list_int_m__node_reader_four_l0_o0) [] (fun v => node_list_int_m__node_reader_four_l0 N N v.1.2.1 v.2.1.1 v.2.1.2 v.2.2.1)
noncomputable def lam_node_list_int_m__node_reader_four_l0 (_ : Nat) : Lps := fun _ => none
theorem lpok_node_list_int_m__node_reader_four_l0 (N : Nat) (ro : Option Nat) : LpOk Tryz.prog 24 ro (lp_node_list_int_m__node_reader_four_l0 N) (codeAt c_node_list_int_m__node_reader_four [true, true, false, false]) := by
  rw [show (codeAt c_node_list_int_m__node_reader_four [true, true, false, false]) = .loop (codeAt c_node_list_int_m__node_reader_four [true, true, false, false, false]) by kernel_rfl]
  exact loop_ok (envok_node_list_int_m__node_reader_four N) mixed (Λ := lam_node_list_int_m__node_reader_four_l0 N) (p := 56) (obs_ok (l := []) (by kernel_rfl) obsNil) (by kernel_rfl) (by intro rec v; kernel_rfl) N
noncomputable def lam_node_list_int_m__node_reader_four (N : Nat) : Lps := fun p => bif Nat.beq p 28 then some (lp_node_list_int_m__node_reader_four_l0 N) else none
noncomputable def cut_node_list_int_m__node_reader_four_in : Cut := { tms := [0, 1, 2], sh := (.cons (.ptr 5000000 0) (.cons (.int .i64) (.clo 62 (.tup (.ptr 5000000 0))))), objs := [(5000000, [0], .box (.cons (.list (.int .u8)) .bool))], sts := [] }
noncomputable def cut_node_list_int_m__node_reader_four_out0 : Cut := { tms := [0], sh := (.own 2000000), objs := [(2000000, [0], .sl (.int .i64)), (5000000, [5000000], .box (.cons (.list (.int .u8)) .bool))], sts := [] }
noncomputable def ctr_node_list_int_m__node_reader_four (N : Nat) : CtrM := ctrM cut_node_list_int_m__node_reader_four_in cut_node_list_int_m__node_reader_four_out0 [] (fun v => node_list_int_m__node_reader_four N v.1.2.1 v.2.1.1 v.2.1.2)
theorem sound_node_list_int_m__node_reader_four (N : Nat) : SoundM Tryz.prog 64 (ctr_node_list_int_m__node_reader_four N) :=
  fnM_sound (envok_node_list_int_m__node_reader_four N) mixed (Λ := lam_node_list_int_m__node_reader_four N) (fn := Tryz.f64) (c := c_node_list_int_m__node_reader_four) Tryz.func64 (by kernel_rfl) (by kernel_rfl) (obs_ok (l := [(lp_node_list_int_m__node_reader_four_l0 N, (codeAt c_node_list_int_m__node_reader_four [true, true, false, false]))]) (by kernel_rfl) (obsCons (lpok_node_list_int_m__node_reader_four_l0 N none) obsNil)) (by kernel_rfl) (by intro v; kernel_rfl)
noncomputable def c_node_list_string_m__node_reader_text : Code := match Tryz.f65.body with | some c => c | none => .skip
noncomputable def tab_node_list_string_m__node_reader_text (_ : Nat) : List (Nat × Ctr) := []
noncomputable def tabm_node_list_string_m__node_reader_text (N : Nat) : List (Nat × CtrM) := [(66, ctr_node_reader_text_m N)]
noncomputable def env_node_list_string_m__node_reader_text (N : Nat) : Env := mkEnv tyRows eqRows methRows [] [20] (tab_node_list_string_m__node_reader_text N) (tabm_node_list_string_m__node_reader_text N)
theorem envok_node_list_string_m__node_reader_text (N : Nat) : EnvOk Tryz.prog (env_node_list_string_m__node_reader_text N) := mkEnv_ok tyRows_ok eqRows_ok methRows_ok trivial ⟨sound_node_reader_text_m N, trivial⟩
noncomputable def cut_node_list_string_m__node_reader_text_l0 : Cut := { tms := [0, 1, 2, 7], sh := (.cons (.ptr 5000000 0) (.cons (.int .i64) (.cons (.clo 66 (.tup (.ptr 5000000 0))) (.own 2000001)))), objs := [(5000000, [5000000], .box (.cons (.list (.int .u8)) .bool)), (2000001, [7], .sl .str)], sts := [] }
noncomputable def cut_node_list_string_m__node_reader_text_l0_o0 : Cut := { tms := [7], sh := (.own 2000000), objs := [(2000000, [7], .sl .str), (5000000, [5000000], .box (.cons (.list (.int .u8)) .bool))], sts := [] }
noncomputable def lp_node_list_string_m__node_reader_text_l0 (N : Nat) : Lp := lpOf cut_node_list_string_m__node_reader_text_l0 (2, cut_node_list_string_m__node_reader_text_l0_o0) [] (fun v => node_list_string_m__node_reader_text_l0 N N v.1.2.1 v.2.1.1 v.2.1.2 v.2.2.1)
noncomputable def lam_node_list_string_m__node_reader_text_l0 (_ : Nat) : Lps := fun _ => none
theorem lpok_node_list_string_m__node_reader_text_l0 (N : Nat) (ro : Option Nat) : LpOk Tryz.prog 24 ro (lp_node_list_string_m__node_reader_text_l0 N) (codeAt c_node_list_string_m__node_reader_text [true, true, false, false]) := by
  rw [show (codeAt c_node_list_string_m__node_reader_text [true, true, false, false]) = .loop (codeAt c_node_list_string_m__node_reader_text [true, true, false, false, false]) by kernel_rfl]
  exact loop_ok (envok_node_list_string_m__node_reader_text N) mixed (Λ := lam_node_list_string_m__node_reader_text_l0 N) (p := 56) (obs_ok (l := []) (by kernel_rfl) obsNil) (by kernel_rfl) (by intro rec v; kernel_rfl) N
noncomputable def lam_node_list_string_m__node_reader_text (N : Nat) : Lps := fun p => bif Nat.beq p 28 then some (lp_node_list_string_m__node_reader_text_l0 N) else none
noncomputable def cut_node_list_string_m__node_reader_text_in : Cut := { tms := [0, 1, 2], sh := (.cons (.ptr 5000000 0) (.cons (.int .i64) (.clo 66 (.tup (.ptr 5000000 0))))), objs := [(5000000, [0], .box (.cons (.list (.int .u8)) .bool))], sts := [] }
noncomputable def cut_node_list_string_m__node_reader_text_out0 : Cut := { tms := [0], sh := (.own 2000000), objs := [(2000000, [0], .sl .str), (5000000, [5000000], .box (.cons (.list (.int .u8)) .bool))], sts := [] }
noncomputable def ctr_node_list_string_m__node_reader_text (N : Nat) : CtrM := ctrM cut_node_list_string_m__node_reader_text_in cut_node_list_string_m__node_reader_text_out0 [] (fun v => node_list_string_m__node_reader_text N v.1.2.1 v.2.1.1 v.2.1.2)
theorem sound_node_list_string_m__node_reader_text (N : Nat) : SoundM Tryz.prog 65 (ctr_node_list_string_m__node_reader_text N) :=
  fnM_sound (envok_node_list_string_m__node_reader_text N) mixed (Λ := lam_node_list_string_m__node_reader_text N) (fn := Tryz.f65) (c := c_node_list_string_m__node_reader_text) Tryz.func65 (by kernel_rfl) (by kernel_rfl) (obs_ok (l := [(lp_node_list_string_m__node_reader_text_l0 N, (codeAt c_node_list_string_m__node_reader_text [true, true, false, false]))]) (by kernel_rfl) (obsCons (lpok_node_list_string_m__node_reader_text_l0 N none) obsNil)) (by kernel_rfl) (by intro v; kernel_rfl)
noncomputable def c_node_reader_eight_m : Code := match Tryz.f114.body with | some c => c | none => .skip
noncomputable def tab_node_reader_eight_m (_ : Nat) : List (Nat × Ctr) := []
noncomputable def tabm_node_reader_eight_m (N : Nat) : List (Nat × CtrM) := [(60, ctr_node_reader_number_m N)]
noncomputable def env_node_reader_eight_m (N : Nat) : Env := mkEnv tyRows eqRows methRows [] [4] (tab_node_reader_eight_m N) (tabm_node_reader_eight_m N)
theorem envok_node_reader_eight_m (N : Nat) : EnvOk Tryz.prog (env_node_reader_eight_m N) := mkEnv_ok tyRows_ok eqRows_ok methRows_ok trivial ⟨sound_node_reader_number_m N, trivial⟩
noncomputable def lam_node_reader_eight_m (_ : Nat) : Lps := fun _ => none
noncomputable def cut_node_reader_eight_m_in : Cut := { tms := [0], sh := (.ptr 5000000 0), objs := [(5000000, [0], .box (.cons (.list (.int .u8)) .bool))], sts := [] }
noncomputable def cut_node_reader_eight_m_out0 : Cut := { tms := [0], sh := (.int .i64), objs := [(5000000, [5000000], .box (.cons (.list (.int .u8)) .bool))], sts := [] }
noncomputable def ctr_node_reader_eight_m (N : Nat) : CtrM := ctrM cut_node_reader_eight_m_in cut_node_reader_eight_m_out0 [] (fun v => node_reader_eight_m N v.2.1.1 v.2.1.2)
theorem sound_node_reader_eight_m (N : Nat) : SoundM Tryz.prog 114 (ctr_node_reader_eight_m N) :=
  fnM_sound (envok_node_reader_eight_m N) mixed (Λ := lam_node_reader_eight_m N) (fn := Tryz.f114) (c := c_node_reader_eight_m) Tryz.func114 (by kernel_rfl) (by kernel_rfl) (obs_ok (l := []) (by kernel_rfl) obsNil) (by kernel_rfl) (by intro v; kernel_rfl)
noncomputable def c_node_reader_bounds_m : Code := match Tryz.f100.body with | some c => c | none => .skip
noncomputable def tab_node_reader_bounds_m (_ : Nat) : List (Nat × Ctr) := []
noncomputable def tabm_node_reader_bounds_m (N : Nat) : List (Nat × CtrM) := [(114, ctr_node_reader_eight_m N)]
noncomputable def env_node_reader_bounds_m (N : Nat) : Env := mkEnv tyRows eqRows methRows [] [4, 6] (tab_node_reader_bounds_m N) (tabm_node_reader_bounds_m N)
theorem envok_node_reader_bounds_m (N : Nat) : EnvOk Tryz.prog (env_node_reader_bounds_m N) := mkEnv_ok tyRows_ok eqRows_ok methRows_ok trivial ⟨sound_node_reader_eight_m N, trivial⟩
noncomputable def lam_node_reader_bounds_m (_ : Nat) : Lps := fun _ => none
noncomputable def cut_node_reader_bounds_m_in : Cut := { tms := [0], sh := (.ptr 5000000 0), objs := [(5000000, [0], .box (.cons (.list (.int .u8)) .bool))], sts := [] }
noncomputable def cut_node_reader_bounds_m_out0 : Cut := { tms := [0], sh := (.agg (.cons (.int .i64) (.int .i64))), objs := [(5000000, [5000000], .box (.cons (.list (.int .u8)) .bool))], sts := [] }
noncomputable def ctr_node_reader_bounds_m (N : Nat) : CtrM := ctrM cut_node_reader_bounds_m_in cut_node_reader_bounds_m_out0 [] (fun v => node_reader_bounds_m N v.2.1.1 v.2.1.2)
theorem sound_node_reader_bounds_m (N : Nat) : SoundM Tryz.prog 100 (ctr_node_reader_bounds_m N) :=
  fnM_sound (envok_node_reader_bounds_m N) mixed (Λ := lam_node_reader_bounds_m N) (fn := Tryz.f100) (c := c_node_reader_bounds_m) Tryz.func100 (by kernel_rfl) (by kernel_rfl) (obs_ok (l := []) (by kernel_rfl) obsNil) (by kernel_rfl) (by intro v; kernel_rfl)
noncomputable def c_node_reader_sum_m : Code := match Tryz.f68.body with | some c => c | none => .skip
noncomputable def tab_node_reader_sum_m (_ : Nat) : List (Nat × Ctr) := []
noncomputable def tabm_node_reader_sum_m (N : Nat) : List (Nat × CtrM) := [(100, ctr_node_reader_bounds_m N)]
noncomputable def env_node_reader_sum_m (N : Nat) : Env := mkEnv tyRows eqRows methRows [] [4, 6] (tab_node_reader_sum_m N) (tabm_node_reader_sum_m N)
theorem envok_node_reader_sum_m (N : Nat) : EnvOk Tryz.prog (env_node_reader_sum_m N) := mkEnv_ok tyRows_ok eqRows_ok methRows_ok trivial ⟨sound_node_reader_bounds_m N, trivial⟩
noncomputable def lam_node_reader_sum_m (_ : Nat) : Lps := fun _ => none
noncomputable def cut_node_reader_sum_m_in : Cut := { tms := [0], sh := (.ptr 5000000 0), objs := [(5000000, [0], .box (.cons (.list (.int .u8)) .bool))], sts := [] }
noncomputable def cut_node_reader_sum_m_out0 : Cut := { tms := [0], sh := (.agg (.cons (.int .i64) (.cons (.int .i64) (.cons (.int .i64) (.int .i64))))), objs := [(5000000, [5000000], .box (.cons (.list (.int .u8)) .bool))], sts := [] }
noncomputable def ctr_node_reader_sum_m (N : Nat) : CtrM := ctrM cut_node_reader_sum_m_in cut_node_reader_sum_m_out0 [] (fun v => node_reader_sum_m N v.2.1.1 v.2.1.2)
theorem sound_node_reader_sum_m (N : Nat) : SoundM Tryz.prog 68 (ctr_node_reader_sum_m N) :=
  fnM_sound (envok_node_reader_sum_m N) mixed (Λ := lam_node_reader_sum_m N) (fn := Tryz.f68) (c := c_node_reader_sum_m) Tryz.func68 (by kernel_rfl) (by kernel_rfl) (obs_ok (l := []) (by kernel_rfl) obsNil) (by kernel_rfl) (by intro v; kernel_rfl)
noncomputable def c_node_list_api_Sum_m__node_reader_sum : Code := match Tryz.f67.body with | some c => c | none => .skip
noncomputable def tab_node_list_api_Sum_m__node_reader_sum (_ : Nat) : List (Nat × Ctr) := []
noncomputable def tabm_node_list_api_Sum_m__node_reader_sum (N : Nat) : List (Nat × CtrM) := [(68, ctr_node_reader_sum_m N)]
noncomputable def env_node_list_api_Sum_m__node_reader_sum (N : Nat) : Env := mkEnv tyRows eqRows methRows [] [20] (tab_node_list_api_Sum_m__node_reader_sum N) (tabm_node_list_api_Sum_m__node_reader_sum N)
theorem envok_node_list_api_Sum_m__node_reader_sum (N : Nat) : EnvOk Tryz.prog (env_node_list_api_Sum_m__node_reader_sum N) := mkEnv_ok tyRows_ok eqRows_ok methRows_ok trivial ⟨sound_node_reader_sum_m N, trivial⟩
noncomputable def cut_node_list_api_Sum_m__node_reader_sum_l0 : Cut := { tms := [0, 1, 2, 7], sh := (.cons (.ptr 5000000 0) (.cons (.int .i64) (.cons (.clo 68 (.tup (.ptr 5000000 0))) (.own 2000001)))), objs := [(5000000, [5000000], .box (.cons (.list (.int .u8)) .bool)), (2000001, [7], .sl T_api_Sum)], sts := [] }
noncomputable def cut_node_list_api_Sum_m__node_reader_sum_l0_o0 : Cut := { tms := [7], sh := (.own 2000000), objs := [(2000000, [7], .sl T_api_Sum), (5000000, [5000000], .box (.cons (.list (.int .u8)) .bool))], sts := [] }
noncomputable def lp_node_list_api_Sum_m__node_reader_sum_l0 (N : Nat) : Lp := lpOf cut_node_list_api_Sum_m__node_reader_sum_l0 (2, cut_node_list_api_Sum_m__node_reader_sum_l0_o0) [] (fun v => node_list_api_Sum_m__node_reader_sum_l0 N N v.1.2.1 v.2.1.1 v.2.1.2 v.2.2.1)
noncomputable def lam_node_list_api_Sum_m__node_reader_sum_l0 (_ : Nat) : Lps := fun _ => none
theorem lpok_node_list_api_Sum_m__node_reader_sum_l0 (N : Nat) (ro : Option Nat) : LpOk Tryz.prog 24 ro (lp_node_list_api_Sum_m__node_reader_sum_l0 N) (codeAt c_node_list_api_Sum_m__node_reader_sum [true, true, false, false]) := by
  rw [show (codeAt c_node_list_api_Sum_m__node_reader_sum [true, true, false, false]) = .loop (codeAt c_node_list_api_Sum_m__node_reader_sum [true, true, false, false, false]) by kernel_rfl]
  exact loop_ok (envok_node_list_api_Sum_m__node_reader_sum N) mixed (Λ := lam_node_list_api_Sum_m__node_reader_sum_l0 N) (p := 56) (obs_ok (l := []) (by kernel_rfl) obsNil) (by kernel_rfl) (by intro rec v; kernel_rfl) N
noncomputable def lam_node_list_api_Sum_m__node_reader_sum (N : Nat) : Lps := fun p => bif Nat.beq p 28 then some (lp_node_list_api_Sum_m__node_reader_sum_l0 N) else none
noncomputable def cut_node_list_api_Sum_m__node_reader_sum_in : Cut := { tms := [0, 1, 2], sh := (.cons (.ptr 5000000 0) (.cons (.int .i64) (.clo 68 (.tup (.ptr 5000000 0))))), objs := [(5000000, [0], .box (.cons (.list (.int .u8)) .bool))], sts := [] }
noncomputable def cut_node_list_api_Sum_m__node_reader_sum_out0 : Cut := { tms := [0], sh := (.own 2000000), objs := [(2000000, [0], .sl T_api_Sum), (5000000, [5000000], .box (.cons (.list (.int .u8)) .bool))], sts := [] }
noncomputable def ctr_node_list_api_Sum_m__node_reader_sum (N : Nat) : CtrM := ctrM cut_node_list_api_Sum_m__node_reader_sum_in cut_node_list_api_Sum_m__node_reader_sum_out0 [] (fun v => node_list_api_Sum_m__node_reader_sum N v.1.2.1 v.2.1.1 v.2.1.2)
theorem sound_node_list_api_Sum_m__node_reader_sum (N : Nat) : SoundM Tryz.prog 67 (ctr_node_list_api_Sum_m__node_reader_sum N) :=
  fnM_sound (envok_node_list_api_Sum_m__node_reader_sum N) mixed (Λ := lam_node_list_api_Sum_m__node_reader_sum N) (fn := Tryz.f67) (c := c_node_list_api_Sum_m__node_reader_sum) Tryz.func67 (by kernel_rfl) (by kernel_rfl) (obs_ok (l := [(lp_node_list_api_Sum_m__node_reader_sum_l0 N, (codeAt c_node_list_api_Sum_m__node_reader_sum [true, true, false, false]))]) (by kernel_rfl) (obsCons (lpok_node_list_api_Sum_m__node_reader_sum_l0 N none) obsNil)) (by kernel_rfl) (by intro v; kernel_rfl)
noncomputable def c_msg_reader_take_m : Code := match Tryz.f124.body with | some c => c | none => .skip
noncomputable def tab_msg_reader_take_m (_ : Nat) : List (Nat × Ctr) := []
noncomputable def env_msg_reader_take_m (N : Nat) : Env := mkEnv tyRows eqRows methRows [] [] (tab_msg_reader_take_m N)
theorem envok_msg_reader_take_m (N : Nat) : EnvOk Tryz.prog (env_msg_reader_take_m N) := mkEnv_ok tyRows_ok eqRows_ok methRows_ok trivial
noncomputable def lam_msg_reader_take_m (_ : Nat) : Lps := fun _ => none
noncomputable def cut_msg_reader_take_m_in : Cut := { tms := [0, 1], sh := (.cons (.ptr 5000000 0) (.int .i64)), objs := [(5000000, [0], .box (.cons (.list (.int .u8)) .bool))], sts := [] }
noncomputable def cut_msg_reader_take_m_out0 : Cut := { tms := [0], sh := (.list (.int .u8)), objs := [(5000000, [5000000], .box (.cons (.list (.int .u8)) .bool))], sts := [] }
noncomputable def ctr_msg_reader_take_m (N : Nat) : CtrM := ctrM cut_msg_reader_take_m_in cut_msg_reader_take_m_out0 [] (fun v => msg_reader_take_m N v.1.2 v.2.1.1 v.2.1.2)
theorem sound_msg_reader_take_m (N : Nat) : SoundM Tryz.prog 124 (ctr_msg_reader_take_m N) :=
  fnM_sound (envok_msg_reader_take_m N) mixed (Λ := lam_msg_reader_take_m N) (fn := Tryz.f124) (c := c_msg_reader_take_m) Tryz.func124 (by kernel_rfl) (by kernel_rfl) (obs_ok (l := []) (by kernel_rfl) obsNil) (by kernel_rfl) (by intro v; kernel_rfl)
noncomputable def c_msg_reader_number_m : Code := match Tryz.f115.body with | some c => c | none => .skip
noncomputable def tab_msg_reader_number_m (_ : Nat) : List (Nat × Ctr) := []
noncomputable def tabm_msg_reader_number_m (N : Nat) : List (Nat × CtrM) := [(124, ctr_msg_reader_take_m N)]
noncomputable def env_msg_reader_number_m (N : Nat) : Env := mkEnv tyRows eqRows methRows [] [10] (tab_msg_reader_number_m N) (tabm_msg_reader_number_m N)
theorem envok_msg_reader_number_m (N : Nat) : EnvOk Tryz.prog (env_msg_reader_number_m N) := mkEnv_ok tyRows_ok eqRows_ok methRows_ok trivial ⟨sound_msg_reader_take_m N, trivial⟩
noncomputable def cut_msg_reader_number_m_l0 : Cut := { tms := [5, 10, 11, 12], sh := (.cons (.int .i64) (.cons (.list (.int .u8)) (.cons (.int .i64) (.int .i64)))), objs := [(5000000, [5000000], .box (.cons (.list (.int .u8)) .bool))], sts := [] }
noncomputable def cut_msg_reader_number_m_l0_o0 : Cut := { tms := [5], sh := (.int .i64), objs := [(5000000, [5000000], .box (.cons (.list (.int .u8)) .bool))], sts := [] }
noncomputable def lp_msg_reader_number_m_l0 (N : Nat) : Lp := lpOf cut_msg_reader_number_m_l0 (2, cut_msg_reader_number_m_l0_o0) [] (fun v => msg_reader_number_m_l0 N N v.1.1 v.1.2.1 v.1.2.2.1 v.1.2.2.2 v.2.1.1 v.2.1.2)
noncomputable def lam_msg_reader_number_m_l0 (_ : Nat) : Lps := fun _ => none
theorem lpok_msg_reader_number_m_l0 (N : Nat) (ro : Option Nat) : LpOk Tryz.prog 23 ro (lp_msg_reader_number_m_l0 N) (codeAt c_msg_reader_number_m [true, true, false, true, false]) := by
  rw [show (codeAt c_msg_reader_number_m [true, true, false, true, false]) = .loop (codeAt c_msg_reader_number_m [true, true, false, true, false, false]) by kernel_rfl]
  exact loop_ok (envok_msg_reader_number_m N) mixed (Λ := lam_msg_reader_number_m_l0 N) (p := 116) (obs_ok (l := []) (by kernel_rfl) obsNil) (by kernel_rfl) (by intro rec v; kernel_rfl) N
noncomputable def lam_msg_reader_number_m (N : Nat) : Lps := fun p => bif Nat.beq p 58 then some (lp_msg_reader_number_m_l0 N) else none
noncomputable def cut_msg_reader_number_m_in : Cut := { tms := [0, 1], sh := (.cons (.ptr 5000000 0) (.int .i64)), objs := [(5000000, [0], .box (.cons (.list (.int .u8)) .bool))], sts := [] }
noncomputable def cut_msg_reader_number_m_out0 : Cut := { tms := [0], sh := (.int .i64), objs := [(5000000, [5000000], .box (.cons (.list (.int .u8)) .bool))], sts := [] }
noncomputable def ctr_msg_reader_number_m (N : Nat) : CtrM := ctrM cut_msg_reader_number_m_in cut_msg_reader_number_m_out0 [] (fun v => msg_reader_number_m N v.1.2 v.2.1.1 v.2.1.2)
theorem sound_msg_reader_number_m (N : Nat) : SoundM Tryz.prog 115 (ctr_msg_reader_number_m N) :=
  fnM_sound (envok_msg_reader_number_m N) mixed (Λ := lam_msg_reader_number_m N) (fn := Tryz.f115) (c := c_msg_reader_number_m) Tryz.func115 (by kernel_rfl) (by kernel_rfl) (obs_ok (l := [(lp_msg_reader_number_m_l0 N, (codeAt c_msg_reader_number_m [true, true, false, true, false]))]) (by kernel_rfl) (obsCons (lpok_msg_reader_number_m_l0 N none) obsNil)) (by kernel_rfl) (by intro v; kernel_rfl)
noncomputable def c_msg_reader_text_m : Code := match Tryz.f116.body with | some c => c | none => .skip
noncomputable def tab_msg_reader_text_m (_ : Nat) : List (Nat × Ctr) := []
noncomputable def tabm_msg_reader_text_m (N : Nat) : List (Nat × CtrM) := [(115, ctr_msg_reader_number_m N), (124, ctr_msg_reader_take_m N)]
noncomputable def env_msg_reader_text_m (N : Nat) : Env := mkEnv tyRows eqRows methRows [] [5, 6] (tab_msg_reader_text_m N) (tabm_msg_reader_text_m N)
theorem envok_msg_reader_text_m (N : Nat) : EnvOk Tryz.prog (env_msg_reader_text_m N) := mkEnv_ok tyRows_ok eqRows_ok methRows_ok trivial ⟨sound_msg_reader_number_m N, ⟨sound_msg_reader_take_m N, trivial⟩⟩
noncomputable def lam_msg_reader_text_m (_ : Nat) : Lps := fun _ => none
noncomputable def cut_msg_reader_text_m_in : Cut := { tms := [0], sh := (.ptr 5000000 0), objs := [(5000000, [0], .box (.cons (.list (.int .u8)) .bool))], sts := [] }
noncomputable def cut_msg_reader_text_m_out0 : Cut := { tms := [0], sh := .str, objs := [(5000000, [5000000], .box (.cons (.list (.int .u8)) .bool))], sts := [] }
noncomputable def ctr_msg_reader_text_m (N : Nat) : CtrM := ctrM cut_msg_reader_text_m_in cut_msg_reader_text_m_out0 [] (fun v => msg_reader_text_m N v.2.1.1 v.2.1.2)
theorem sound_msg_reader_text_m (N : Nat) : SoundM Tryz.prog 116 (ctr_msg_reader_text_m N) :=
  fnM_sound (envok_msg_reader_text_m N) mixed (Λ := lam_msg_reader_text_m N) (fn := Tryz.f116) (c := c_msg_reader_text_m) Tryz.func116 (by kernel_rfl) (by kernel_rfl) (obs_ok (l := []) (by kernel_rfl) obsNil) (by kernel_rfl) (by intro v; kernel_rfl)
noncomputable def c_msg_Parse : Code := match Tryz.f101.body with | some c => c | none => .skip
noncomputable def tab_msg_Parse (N : Nat) : List (Nat × Ctr) := [(48, ctr_msg_Valid N)]
noncomputable def tabm_msg_Parse (N : Nat) : List (Nat × CtrM) := [(115, ctr_msg_reader_number_m N), (116, ctr_msg_reader_text_m N)]
noncomputable def env_msg_Parse (N : Nat) : Env := mkEnv tyRows eqRows methRows [] [11, 18, 21, 24, 29, 34, 38, 45, 48, 53, 57, 61] (tab_msg_Parse N) (tabm_msg_Parse N)
theorem envok_msg_Parse (N : Nat) : EnvOk Tryz.prog (env_msg_Parse N) := mkEnv_ok tyRows_ok eqRows_ok methRows_ok ⟨sound_msg_Valid N, trivial⟩ ⟨sound_msg_reader_number_m N, ⟨sound_msg_reader_text_m N, trivial⟩⟩
noncomputable def cut_msg_Parse_p0 : Cut := { tms := [0, 2, 5, 6], sh := (.cons (.list (.int .u8)) (.cons (.ptr 2000000 0) (.cons (.ptr 2000001 0) (.ptr 2000002 0)))), objs := [(2000000, [2], .box (.cons (.int .i64) (.cons .str (.cons .str (.cons .str (.cons .str (.cons .str (.cons .str (.int .i64))))))))), (2000001, [5], .box (.cons (.list (.int .u8)) .bool)), (2000002, [6], .box (.cons (.int .i64) (.cons .str (.cons .str (.cons .str (.cons .str (.cons .str (.cons .str (.int .i64)))))))))], sts := [] }
noncomputable def cut_msg_Parse_p0_o0 : Cut := { tms := [2, 3, 4], sh := (.cons (.ptr 2000000 0) (.cons (.int .i64) (.int .i64))), objs := [(2000000, [2], .box (.cons (.int .i64) (.cons .str (.cons .str (.cons .str (.cons .str (.cons .str (.cons .str (.int .i64)))))))))], sts := [] }
noncomputable def lp_msg_Parse_p0 (N : Nat) : Lp := lpOf cut_msg_Parse_p0 (1, cut_msg_Parse_p0_o0) [] (fun v => msg_Parse_p0 N v.1.1 v.2.1.1 v.2.1.2.1 v.2.1.2.2.1 v.2.1.2.2.2.1 v.2.1.2.2.2.2.1 v.2.1.2.2.2.2.2.1 v.2.1.2.2.2.2.2.2.1 v.2.1.2.2.2.2.2.2.2 v.2.2.1.1 v.2.2.1.2 v.2.2.2.1.1 v.2.2.2.1.2.1 v.2.2.2.1.2.2.1 v.2.2.2.1.2.2.2.1 v.2.2.2.1.2.2.2.2.1 v.2.2.2.1.2.2.2.2.2.1 v.2.2.2.1.2.2.2.2.2.2.1 v.2.2.2.1.2.2.2.2.2.2.2)
noncomputable def lam_msg_Parse_p0 (_ : Nat) : Lps := fun _ => none
theorem lpok_msg_Parse_p0 (N : Nat) (ro : Option Nat) : LpOk Tryz.prog 82 ro (lp_msg_Parse_p0 N) (codeAt c_msg_Parse [true, true, true, true]) :=
  piece_ok (envok_msg_Parse N) mixed (Λ := lam_msg_Parse_p0 N) (p := 31) (obs_ok (l := []) (by kernel_rfl) obsNil) (by kernel_rfl) (by intro v; kernel_rfl)
noncomputable def lam_msg_Parse (N : Nat) : Lps := fun p => bif Nat.beq p 31 then some (lp_msg_Parse_p0 N) else none
noncomputable def ctr_msg_Parse (N : Nat) : Ctr := ctrOf (.list (.int .u8)) (.tup (.cons (.val T_api_Msg) (.cons (.int .i64) (.int .i64)))) [] (fun v => msg_Parse N v)
theorem sound_msg_Parse (N : Nat) : SoundF Tryz.prog 101 (fun vs => (ctr_msg_Parse N).run vs some) :=
  fn_sound (envok_msg_Parse N) mixed (Λ := lam_msg_Parse N) (fn := Tryz.f101) (c := c_msg_Parse) Tryz.func101 (by kernel_rfl) (by kernel_rfl) (obs_ok (l := [(lp_msg_Parse_p0 N, (codeAt c_msg_Parse [true, true, true, true]))]) (by kernel_rfl) (obsCons (lpok_msg_Parse_p0 N none) obsNil)) (by kernel_rfl) (by intro v; kernel_rfl)
noncomputable def c_node_reader_msg_m : Code := match Tryz.f70.body with | some c => c | none => .skip
noncomputable def tab_node_reader_msg_m (N : Nat) : List (Nat × Ctr) := [(101, ctr_msg_Parse N)]
noncomputable def tabm_node_reader_msg_m (N : Nat) : List (Nat × CtrM) := [(99, ctr_node_reader_take_m N)]
noncomputable def env_node_reader_msg_m (N : Nat) : Env := mkEnv tyRows eqRows methRows [] [22] (tab_node_reader_msg_m N) (tabm_node_reader_msg_m N)
theorem envok_node_reader_msg_m (N : Nat) : EnvOk Tryz.prog (env_node_reader_msg_m N) := mkEnv_ok tyRows_ok eqRows_ok methRows_ok ⟨sound_msg_Parse N, trivial⟩ ⟨sound_node_reader_take_m N, trivial⟩
noncomputable def lam_node_reader_msg_m (_ : Nat) : Lps := fun _ => none
noncomputable def cut_node_reader_msg_m_in : Cut := { tms := [0], sh := (.ptr 5000000 0), objs := [(5000000, [0], .box (.cons (.list (.int .u8)) .bool))], sts := [] }
noncomputable def cut_node_reader_msg_m_out0 : Cut := { tms := [0], sh := (.agg (.cons (.int .i64) (.cons .str (.cons .str (.cons .str (.cons .str (.cons .str (.cons .str (.int .i64))))))))), objs := [(5000000, [5000000], .box (.cons (.list (.int .u8)) .bool))], sts := [] }
noncomputable def ctr_node_reader_msg_m (N : Nat) : CtrM := ctrM cut_node_reader_msg_m_in cut_node_reader_msg_m_out0 [] (fun v => node_reader_msg_m N v.2.1.1 v.2.1.2)
theorem sound_node_reader_msg_m (N : Nat) : SoundM Tryz.prog 70 (ctr_node_reader_msg_m N) :=
  fnM_sound (envok_node_reader_msg_m N) mixed (Λ := lam_node_reader_msg_m N) (fn := Tryz.f70) (c := c_node_reader_msg_m) Tryz.func70 (by kernel_rfl) (by kernel_rfl) (obs_ok (l := []) (by kernel_rfl) obsNil) (by kernel_rfl) (by intro v; kernel_rfl)
noncomputable def c_node_list_api_Msg_m__node_reader_msg : Code := match Tryz.f69.body with | some c => c | none => .skip
noncomputable def tab_node_list_api_Msg_m__node_reader_msg (_ : Nat) : List (Nat × Ctr) := []
noncomputable def tabm_node_list_api_Msg_m__node_reader_msg (N : Nat) : List (Nat × CtrM) := [(70, ctr_node_reader_msg_m N)]
noncomputable def env_node_list_api_Msg_m__node_reader_msg (N : Nat) : Env := mkEnv tyRows eqRows methRows [] [20] (tab_node_list_api_Msg_m__node_reader_msg N) (tabm_node_list_api_Msg_m__node_reader_msg N)
theorem envok_node_list_api_Msg_m__node_reader_msg (N : Nat) : EnvOk Tryz.prog (env_node_list_api_Msg_m__node_reader_msg N) := mkEnv_ok tyRows_ok eqRows_ok methRows_ok trivial ⟨sound_node_reader_msg_m N, trivial⟩
noncomputable def cut_node_list_api_Msg_m__node_reader_msg_l0 : Cut := { tms := [0, 1, 2, 7], sh := (.cons (.ptr 5000000 0) (.cons (.int .i64) (.cons (.clo 70 (.tup (.ptr 5000000 0))) (.own 2000001)))), objs := [(5000000, [5000000], .box (.cons (.list (.int .u8)) .bool)), (2000001, [7], .sl T_api_Msg)], sts := [] }
noncomputable def cut_node_list_api_Msg_m__node_reader_msg_l0_o0 : Cut := { tms := [7], sh := (.own 2000000), objs := [(2000000, [7], .sl T_api_Msg), (5000000, [5000000], .box (.cons (.list (.int .u8)) .bool))], sts := [] }
noncomputable def lp_node_list_api_Msg_m__node_reader_msg_l0 (N : Nat) : Lp := lpOf cut_node_list_api_Msg_m__node_reader_msg_l0 (2, cut_node_list_api_Msg_m__node_reader_msg_l0_o0) [] (fun v => node_list_api_Msg_m__node_reader_msg_l0 N N v.1.2.1 v.2.1.1 v.2.1.2 v.2.2.1)
noncomputable def lam_node_list_api_Msg_m__node_reader_msg_l0 (_ : Nat) : Lps := fun _ => none
theorem lpok_node_list_api_Msg_m__node_reader_msg_l0 (N : Nat) (ro : Option Nat) : LpOk Tryz.prog 24 ro (lp_node_list_api_Msg_m__node_reader_msg_l0 N) (codeAt c_node_list_api_Msg_m__node_reader_msg [true, true, false, false]) := by
  rw [show (codeAt c_node_list_api_Msg_m__node_reader_msg [true, true, false, false]) = .loop (codeAt c_node_list_api_Msg_m__node_reader_msg [true, true, false, false, false]) by kernel_rfl]
  exact loop_ok (envok_node_list_api_Msg_m__node_reader_msg N) mixed (Λ := lam_node_list_api_Msg_m__node_reader_msg_l0 N) (p := 56) (obs_ok (l := []) (by kernel_rfl) obsNil) (by kernel_rfl) (by intro rec v; kernel_rfl) N
noncomputable def lam_node_list_api_Msg_m__node_reader_msg (N : Nat) : Lps := fun p => bif Nat.beq p 28 then some (lp_node_list_api_Msg_m__node_reader_msg_l0 N) else none
noncomputable def cut_node_list_api_Msg_m__node_reader_msg_in : Cut := { tms := [0, 1, 2], sh := (.cons (.ptr 5000000 0) (.cons (.int .i64) (.clo 70 (.tup (.ptr 5000000 0))))), objs := [(5000000, [0], .box (.cons (.list (.int .u8)) .bool))], sts := [] }
noncomputable def cut_node_list_api_Msg_m__node_reader_msg_out0 : Cut := { tms := [0], sh := (.own 2000000), objs := [(2000000, [0], .sl T_api_Msg), (5000000, [5000000], .box (.cons (.list (.int .u8)) .bool))], sts := [] }
noncomputable def ctr_node_list_api_Msg_m__node_reader_msg (N : Nat) : CtrM := ctrM cut_node_list_api_Msg_m__node_reader_msg_in cut_node_list_api_Msg_m__node_reader_msg_out0 [] (fun v => node_list_api_Msg_m__node_reader_msg N v.1.2.1 v.2.1.1 v.2.1.2)
theorem sound_node_list_api_Msg_m__node_reader_msg (N : Nat) : SoundM Tryz.prog 69 (ctr_node_list_api_Msg_m__node_reader_msg N) :=
  fnM_sound (envok_node_list_api_Msg_m__node_reader_msg N) mixed (Λ := lam_node_list_api_Msg_m__node_reader_msg N) (fn := Tryz.f69) (c := c_node_list_api_Msg_m__node_reader_msg) Tryz.func69 (by kernel_rfl) (by kernel_rfl) (obs_ok (l := [(lp_node_list_api_Msg_m__node_reader_msg_l0 N, (codeAt c_node_list_api_Msg_m__node_reader_msg [true, true, false, false]))]) (by kernel_rfl) (obsCons (lpok_node_list_api_Msg_m__node_reader_msg_l0 N none) obsNil)) (by kernel_rfl) (by intro v; kernel_rfl)
noncomputable def c_node_Parse : Code := match Tryz.f17.body with | some c => c | none => .skip
noncomputable def tab_node_Parse (N : Nat) : List (Nat × Ctr) := [(16, ctr_node_Bytes N), (71, ctr_slices_Equal_s_uint8_uint8 N)]
noncomputable def tabm_node_Parse (N : Nat) : List (Nat × CtrM) := [(60, ctr_node_reader_number_m N), (62, ctr_node_reader_four_m N), (61, ctr_node_list_api_Pair_m__node_reader_pair N), (64, ctr_node_list_int_m__node_reader_four N), (65, ctr_node_list_string_m__node_reader_text N), (67, ctr_node_list_api_Sum_m__node_reader_sum N), (69, ctr_node_list_api_Msg_m__node_reader_msg N)]
noncomputable def env_node_Parse (N : Nat) : Env := mkEnv tyRows eqRows methRows [(endKey, [2000001, 2000002, 2000003, 2000004, 2000005])] [11, 16, 19, 24, 29, 36, 42, 46, 49] (tab_node_Parse N) (tabm_node_Parse N)
theorem envok_node_Parse (N : Nat) : EnvOk Tryz.prog (env_node_Parse N) := mkEnv_ok tyRows_ok eqRows_ok methRows_ok ⟨sound_node_Bytes N, ⟨sound_slices_Equal_s_uint8_uint8 N, trivial⟩⟩ ⟨sound_node_reader_number_m N, ⟨sound_node_reader_four_m N, ⟨sound_node_list_api_Pair_m__node_reader_pair N, ⟨sound_node_list_int_m__node_reader_four N, ⟨sound_node_list_string_m__node_reader_text N, ⟨sound_node_list_api_Sum_m__node_reader_sum N, ⟨sound_node_list_api_Msg_m__node_reader_msg N, trivial⟩⟩⟩⟩⟩⟩⟩
noncomputable def cut_node_Parse_p0 : Cut := { tms := [0, 2, 4, 5], sh := (.cons (.list (.int .u8)) (.cons (.ptr 2000000 0) (.cons (.ptr 2000006 0) (.ptr 2000012 0)))), objs := [(2000000, [2], .box (.cons (.own 2000001) (.cons (.own 2000002) (.cons (.own 2000003) (.cons (.own 2000004) (.own 2000005)))))), (2000001, [2, 0], .sl T_api_Pair), (2000002, [2, 1], .sl .str), (2000003, [2, 2], .sl (.int .i64)), (2000004, [2, 3], .sl T_api_Sum), (2000005, [2, 4], .sl T_api_Msg), (2000006, [4], .box (.cons (.own 2000007) (.cons (.own 2000008) (.cons (.own 2000009) (.cons (.own 2000010) (.own 2000011)))))), (2000007, [4, 0], .sl T_api_Pair), (2000008, [4, 1], .sl .str), (2000009, [4, 2], .sl (.int .i64)), (2000010, [4, 3], .sl T_api_Sum), (2000011, [4, 4], .sl T_api_Msg), (2000012, [5], .box (.cons (.list (.int .u8)) .bool))], sts := [] }
noncomputable def cut_node_Parse_p0_o0 : Cut := { tms := [2, 3], sh := (.cons (.ptr 2000000 0) (.int .i64)), objs := [(2000000, [2], .box (.cons (.own 2000001) (.cons (.own 2000002) (.cons (.own 2000003) (.cons (.own 2000004) (.own 2000005)))))), (2000001, [2, 0], .sl T_api_Pair), (2000002, [2, 1], .sl .str), (2000003, [2, 2], .sl (.int .i64)), (2000004, [2, 3], .sl T_api_Sum), (2000005, [2, 4], .sl T_api_Msg)], sts := [] }
noncomputable def lp_node_Parse_p0 (N : Nat) : Lp := lpOf cut_node_Parse_p0 (1, cut_node_Parse_p0_o0) [] (fun v => node_Parse_p0 N v.1.1 v.2.2.1 v.2.2.2.1 v.2.2.2.2.1 v.2.2.2.2.2.1 v.2.2.2.2.2.2.1 v.2.2.2.2.2.2.2.2.1 v.2.2.2.2.2.2.2.2.2.1 v.2.2.2.2.2.2.2.2.2.2.1 v.2.2.2.2.2.2.2.2.2.2.2.1 v.2.2.2.2.2.2.2.2.2.2.2.2.1 v.2.2.2.2.2.2.2.2.2.2.2.2.2.1.1 v.2.2.2.2.2.2.2.2.2.2.2.2.2.1.2)
noncomputable def lam_node_Parse_p0 (_ : Nat) : Lps := fun _ => none
theorem lpok_node_Parse_p0 (N : Nat) (ro : Option Nat) : LpOk Tryz.prog 73 ro (lp_node_Parse_p0 N) (codeAt c_node_Parse [true, true, true, true]) :=
  piece_ok (envok_node_Parse N) mixed (Λ := lam_node_Parse_p0 N) (p := 31) (obs_ok (l := []) (by kernel_rfl) obsNil) (by kernel_rfl) (by intro v; kernel_rfl)
noncomputable def lam_node_Parse (N : Nat) : Lps := fun p => bif Nat.beq p 31 then some (lp_node_Parse_p0 N) else none
noncomputable def ctr_node_Parse (N : Nat) : Ctr := ctrOf (.list (.int .u8)) (.tup (.cons (.val T_api_Node) (.int .i64))) [] (fun v => node_Parse N v)
theorem sound_node_Parse (N : Nat) : SoundF Tryz.prog 17 (fun vs => (ctr_node_Parse N).run vs some) :=
  fn_sound (envok_node_Parse N) mixed (Λ := lam_node_Parse N) (fn := Tryz.f17) (c := c_node_Parse) Tryz.func17 (by kernel_rfl) (by kernel_rfl) (obs_ok (l := [(lp_node_Parse_p0 N, (codeAt c_node_Parse [true, true, true, true]))]) (by kernel_rfl) (obsCons (lpok_node_Parse_p0 N none) obsNil)) (by kernel_rfl) (by intro v; kernel_rfl)
noncomputable def c_ref05_SameBytes : Code := match Tryz.f19.body with | some c => c | none => .skip
noncomputable def tab_ref05_SameBytes (_ : Nat) : List (Nat × Ctr) := []
noncomputable def env_ref05_SameBytes (N : Nat) : Env := mkEnv tyRows eqRows methRows [] [] (tab_ref05_SameBytes N)
theorem envok_ref05_SameBytes (N : Nat) : EnvOk Tryz.prog (env_ref05_SameBytes N) := mkEnv_ok tyRows_ok eqRows_ok methRows_ok trivial
noncomputable def lam_ref05_SameBytes (_ : Nat) : Lps := fun _ => none
noncomputable def ctr_ref05_SameBytes (N : Nat) : Ctr := ctrOf (.cons (.list (.int .u8)) (.list (.int .u8))) .bool [] (fun v => ref05_SameBytes N v.1 v.2)
theorem sound_ref05_SameBytes (N : Nat) : SoundF Tryz.prog 19 (fun vs => (ctr_ref05_SameBytes N).run vs some) :=
  fn_sound (envok_ref05_SameBytes N) mixed (Λ := lam_ref05_SameBytes N) (fn := Tryz.f19) (c := c_ref05_SameBytes) Tryz.func19 (by kernel_rfl) (by kernel_rfl) (obs_ok (l := []) (by kernel_rfl) obsNil) (by kernel_rfl) (by intro v; kernel_rfl)
noncomputable def c_ref04_Same : Code := match Tryz.f72.body with | some c => c | none => .skip
noncomputable def tab_ref04_Same (_ : Nat) : List (Nat × Ctr) := []
noncomputable def env_ref04_Same (N : Nat) : Env := mkEnv tyRows eqRows methRows [] [] (tab_ref04_Same N)
theorem envok_ref04_Same (N : Nat) : EnvOk Tryz.prog (env_ref04_Same N) := mkEnv_ok tyRows_ok eqRows_ok methRows_ok trivial
noncomputable def cut_ref04_Same_l0 : Cut := { tms := [0, 1, 5], sh := (.cons (.list T_api_Pair) (.cons (.list T_api_Pair) (.int .i64))), objs := [], sts := [] }
noncomputable def cut_ref04_Same_l0_o0 : Cut := { tms := [4], sh := .bool, objs := [], sts := [] }
noncomputable def cut_ref04_Same_l0_o1 : Cut := { tms := [], sh := .nil, objs := [], sts := [] }
noncomputable def lp_ref04_Same_l0 (N : Nat) : Lp := lpOf cut_ref04_Same_l0 (1, cut_ref04_Same_l0_o0) [(2, cut_ref04_Same_l0_o1)] (fun v => ref04_Same_l0 N N v.1.1 v.1.2.1 v.1.2.2)
noncomputable def lam_ref04_Same_l0 (_ : Nat) : Lps := fun _ => none
theorem lpok_ref04_Same_l0 (N : Nat) (ro : Option Nat) : LpOk Tryz.prog 26 ro (lp_ref04_Same_l0 N) (codeAt c_ref04_Same [true, true, false, true, false]) := by
  rw [show (codeAt c_ref04_Same [true, true, false, true, false]) = .loop (codeAt c_ref04_Same [true, true, false, true, false, false]) by kernel_rfl]
  exact loop_ok (envok_ref04_Same N) mixed (Λ := lam_ref04_Same_l0 N) (p := 116) (obs_ok (l := []) (by kernel_rfl) obsNil) (by kernel_rfl) (by intro rec v; kernel_rfl) N
noncomputable def lam_ref04_Same (N : Nat) : Lps := fun p => bif Nat.beq p 58 then some (lp_ref04_Same_l0 N) else none
noncomputable def ctr_ref04_Same (N : Nat) : Ctr := ctrOf (.cons (.list T_api_Pair) (.list T_api_Pair)) .bool [] (fun v => ref04_Same N v.1 v.2)
theorem sound_ref04_Same (N : Nat) : SoundF Tryz.prog 72 (fun vs => (ctr_ref04_Same N).run vs some) :=
  fn_sound (envok_ref04_Same N) mixed (Λ := lam_ref04_Same N) (fn := Tryz.f72) (c := c_ref04_Same) Tryz.func72 (by kernel_rfl) (by kernel_rfl) (obs_ok (l := [(lp_ref04_Same_l0 N, (codeAt c_ref04_Same [true, true, false, true, false]))]) (by kernel_rfl) (obsCons (lpok_ref04_Same_l0 N none) obsNil)) (by kernel_rfl) (by intro v; kernel_rfl)
noncomputable def c_ref05_SameMsgs : Code := match Tryz.f73.body with | some c => c | none => .skip
noncomputable def tab_ref05_SameMsgs (_ : Nat) : List (Nat × Ctr) := []
noncomputable def env_ref05_SameMsgs (N : Nat) : Env := mkEnv tyRows eqRows methRows [] [] (tab_ref05_SameMsgs N)
theorem envok_ref05_SameMsgs (N : Nat) : EnvOk Tryz.prog (env_ref05_SameMsgs N) := mkEnv_ok tyRows_ok eqRows_ok methRows_ok trivial
noncomputable def cut_ref05_SameMsgs_l0 : Cut := { tms := [0, 1, 5], sh := (.cons (.list T_api_Msg) (.cons (.list T_api_Msg) (.int .i64))), objs := [], sts := [] }
noncomputable def cut_ref05_SameMsgs_l0_o0 : Cut := { tms := [4], sh := .bool, objs := [], sts := [] }
noncomputable def cut_ref05_SameMsgs_l0_o1 : Cut := { tms := [], sh := .nil, objs := [], sts := [] }
noncomputable def lp_ref05_SameMsgs_l0 (N : Nat) : Lp := lpOf cut_ref05_SameMsgs_l0 (1, cut_ref05_SameMsgs_l0_o0) [(2, cut_ref05_SameMsgs_l0_o1)] (fun v => ref05_SameMsgs_l0 N N v.1.1 v.1.2.1 v.1.2.2)
noncomputable def lam_ref05_SameMsgs_l0 (_ : Nat) : Lps := fun _ => none
theorem lpok_ref05_SameMsgs_l0 (N : Nat) (ro : Option Nat) : LpOk Tryz.prog 26 ro (lp_ref05_SameMsgs_l0 N) (codeAt c_ref05_SameMsgs [true, true, false, true, false]) := by
  rw [show (codeAt c_ref05_SameMsgs [true, true, false, true, false]) = .loop (codeAt c_ref05_SameMsgs [true, true, false, true, false, false]) by kernel_rfl]
  exact loop_ok (envok_ref05_SameMsgs N) mixed (Λ := lam_ref05_SameMsgs_l0 N) (p := 116) (obs_ok (l := []) (by kernel_rfl) obsNil) (by kernel_rfl) (by intro rec v; kernel_rfl) N
noncomputable def lam_ref05_SameMsgs (N : Nat) : Lps := fun p => bif Nat.beq p 58 then some (lp_ref05_SameMsgs_l0 N) else none
noncomputable def ctr_ref05_SameMsgs (N : Nat) : Ctr := ctrOf (.cons (.list T_api_Msg) (.list T_api_Msg)) .bool [] (fun v => ref05_SameMsgs N v.1 v.2)
theorem sound_ref05_SameMsgs (N : Nat) : SoundF Tryz.prog 73 (fun vs => (ctr_ref05_SameMsgs N).run vs some) :=
  fn_sound (envok_ref05_SameMsgs N) mixed (Λ := lam_ref05_SameMsgs N) (fn := Tryz.f73) (c := c_ref05_SameMsgs) Tryz.func73 (by kernel_rfl) (by kernel_rfl) (obs_ok (l := [(lp_ref05_SameMsgs_l0 N, (codeAt c_ref05_SameMsgs [true, true, false, true, false]))]) (by kernel_rfl) (obsCons (lpok_ref05_SameMsgs_l0 N none) obsNil)) (by kernel_rfl) (by intro v; kernel_rfl)
noncomputable def c_ref10_Same : Code := match Tryz.f18.body with | some c => c | none => .skip
noncomputable def tab_ref10_Same (N : Nat) : List (Nat × Ctr) := [(72, ctr_ref04_Same N), (73, ctr_ref05_SameMsgs N)]
noncomputable def env_ref10_Same (N : Nat) : Env := mkEnv tyRows eqRows methRows [] [] (tab_ref10_Same N)
theorem envok_ref10_Same (N : Nat) : EnvOk Tryz.prog (env_ref10_Same N) := mkEnv_ok tyRows_ok eqRows_ok methRows_ok ⟨sound_ref04_Same N, ⟨sound_ref05_SameMsgs N, trivial⟩⟩
noncomputable def cut_ref10_Same_l4 : Cut := { tms := [2, 3, 7], sh := (.cons (.ptr 2000000 0) (.cons (.ptr 2000001 0) (.int .i64))), objs := [(2000000, [2], .box (.cons (.list T_api_Pair) (.cons (.list .str) (.cons (.list (.int .i64)) (.cons (.list T_api_Sum) (.list T_api_Msg)))))), (2000001, [3], .box (.cons (.list T_api_Pair) (.cons (.list .str) (.cons (.list (.int .i64)) (.cons (.list T_api_Sum) (.list T_api_Msg))))))], sts := [] }
noncomputable def cut_ref10_Same_l4_o0 : Cut := { tms := [4], sh := .bool, objs := [], sts := [] }
noncomputable def cut_ref10_Same_l4_o1 : Cut := { tms := [], sh := .nil, objs := [], sts := [] }
noncomputable def lp_ref10_Same_l4 (N : Nat) : Lp := lpOf cut_ref10_Same_l4 (1, cut_ref10_Same_l4_o0) [(6, cut_ref10_Same_l4_o1)] (fun v => ref10_Same_l4 N N v.1.2.2 v.2.1.1 v.2.1.2.1 v.2.1.2.2.1 v.2.1.2.2.2.1 v.2.1.2.2.2.2 v.2.2.1.1 v.2.2.1.2.1 v.2.2.1.2.2.1 v.2.2.1.2.2.2.1 v.2.2.1.2.2.2.2)
noncomputable def lam_ref10_Same_l4 (_ : Nat) : Lps := fun _ => none
theorem lpok_ref10_Same_l4 (N : Nat) (ro : Option Nat) : LpOk Tryz.prog 103 ro (lp_ref10_Same_l4 N) (codeAt c_ref10_Same [true, true, true, true, false, true, false]) := by
  rw [show (codeAt c_ref10_Same [true, true, true, true, false, true, false]) = .loop (codeAt c_ref10_Same [true, true, true, true, false, true, false, false]) by kernel_rfl]
  exact loop_ok (envok_ref10_Same N) mixed (Λ := lam_ref10_Same_l4 N) (p := 500) (obs_ok (l := []) (by kernel_rfl) obsNil) (by kernel_rfl) (by intro rec v; kernel_rfl) N
noncomputable def cut_ref10_Same_l3 : Cut := { tms := [2, 3, 6], sh := (.cons (.ptr 2000000 0) (.cons (.ptr 2000001 0) (.int .i64))), objs := [(2000000, [2], .box (.cons (.list T_api_Pair) (.cons (.list .str) (.cons (.list (.int .i64)) (.cons (.list T_api_Sum) (.list T_api_Msg)))))), (2000001, [3], .box (.cons (.list T_api_Pair) (.cons (.list .str) (.cons (.list (.int .i64)) (.cons (.list T_api_Sum) (.list T_api_Msg))))))], sts := [] }
noncomputable def cut_ref10_Same_l3_o0 : Cut := { tms := [4], sh := .bool, objs := [], sts := [] }
noncomputable def cut_ref10_Same_l3_o1 : Cut := { tms := [2, 3], sh := (.cons (.ptr 2000000 0) (.ptr 2000001 0)), objs := [(2000000, [2], .box (.cons (.list T_api_Pair) (.cons (.list .str) (.cons (.list (.int .i64)) (.cons (.list T_api_Sum) (.list T_api_Msg)))))), (2000001, [3], .box (.cons (.list T_api_Pair) (.cons (.list .str) (.cons (.list (.int .i64)) (.cons (.list T_api_Sum) (.list T_api_Msg))))))], sts := [] }
noncomputable def lp_ref10_Same_l3 (N : Nat) : Lp := lpOf cut_ref10_Same_l3 (1, cut_ref10_Same_l3_o0) [(4, cut_ref10_Same_l3_o1)] (fun v => ref10_Same_l3 N N v.1.2.2 v.2.1.1 v.2.1.2.1 v.2.1.2.2.1 v.2.1.2.2.2.1 v.2.1.2.2.2.2 v.2.2.1.1 v.2.2.1.2.1 v.2.2.1.2.2.1 v.2.2.1.2.2.2.1 v.2.2.1.2.2.2.2)
noncomputable def lam_ref10_Same_l3 (_ : Nat) : Lps := fun _ => none
theorem lpok_ref10_Same_l3 (N : Nat) (ro : Option Nat) : LpOk Tryz.prog 103 ro (lp_ref10_Same_l3 N) (codeAt c_ref10_Same [true, true, true, false, true, false]) := by
  rw [show (codeAt c_ref10_Same [true, true, true, false, true, false]) = .loop (codeAt c_ref10_Same [true, true, true, false, true, false, false]) by kernel_rfl]
  exact loop_ok (envok_ref10_Same N) mixed (Λ := lam_ref10_Same_l3 N) (p := 244) (obs_ok (l := []) (by kernel_rfl) obsNil) (by kernel_rfl) (by intro rec v; kernel_rfl) N
noncomputable def cut_ref10_Same_l2 : Cut := { tms := [2, 3, 5], sh := (.cons (.ptr 2000000 0) (.cons (.ptr 2000001 0) (.int .i64))), objs := [(2000000, [2], .box (.cons (.list T_api_Pair) (.cons (.list .str) (.cons (.list (.int .i64)) (.cons (.list T_api_Sum) (.list T_api_Msg)))))), (2000001, [3], .box (.cons (.list T_api_Pair) (.cons (.list .str) (.cons (.list (.int .i64)) (.cons (.list T_api_Sum) (.list T_api_Msg))))))], sts := [] }
noncomputable def cut_ref10_Same_l2_o0 : Cut := { tms := [4], sh := .bool, objs := [], sts := [] }
noncomputable def cut_ref10_Same_l2_o1 : Cut := { tms := [2, 3], sh := (.cons (.ptr 2000000 0) (.ptr 2000001 0)), objs := [(2000000, [2], .box (.cons (.list T_api_Pair) (.cons (.list .str) (.cons (.list (.int .i64)) (.cons (.list T_api_Sum) (.list T_api_Msg)))))), (2000001, [3], .box (.cons (.list T_api_Pair) (.cons (.list .str) (.cons (.list (.int .i64)) (.cons (.list T_api_Sum) (.list T_api_Msg))))))], sts := [] }
noncomputable def lp_ref10_Same_l2 (N : Nat) : Lp := lpOf cut_ref10_Same_l2 (1, cut_ref10_Same_l2_o0) [(2, cut_ref10_Same_l2_o1)] (fun v => ref10_Same_l2 N N v.1.2.2 v.2.1.1 v.2.1.2.1 v.2.1.2.2.1 v.2.1.2.2.2.1 v.2.1.2.2.2.2 v.2.2.1.1 v.2.2.1.2.1 v.2.2.1.2.2.1 v.2.2.1.2.2.2.1 v.2.2.1.2.2.2.2)
noncomputable def lam_ref10_Same_l2 (_ : Nat) : Lps := fun _ => none
theorem lpok_ref10_Same_l2 (N : Nat) (ro : Option Nat) : LpOk Tryz.prog 103 ro (lp_ref10_Same_l2 N) (codeAt c_ref10_Same [true, true, false, true, false]) := by
  rw [show (codeAt c_ref10_Same [true, true, false, true, false]) = .loop (codeAt c_ref10_Same [true, true, false, true, false, false]) by kernel_rfl]
  exact loop_ok (envok_ref10_Same N) mixed (Λ := lam_ref10_Same_l2 N) (p := 116) (obs_ok (l := []) (by kernel_rfl) obsNil) (by kernel_rfl) (by intro rec v; kernel_rfl) N
noncomputable def cut_ref10_Same_p1 : Cut := { tms := [2, 3, 48], sh := (.cons (.ptr 2000000 0) (.cons (.ptr 2000001 0) .bool)), objs := [(2000000, [2], .box (.cons (.list T_api_Pair) (.cons (.list .str) (.cons (.list (.int .i64)) (.cons (.list T_api_Sum) (.list T_api_Msg)))))), (2000001, [3], .box (.cons (.list T_api_Pair) (.cons (.list .str) (.cons (.list (.int .i64)) (.cons (.list T_api_Sum) (.list T_api_Msg))))))], sts := [] }
noncomputable def cut_ref10_Same_p1_o0 : Cut := { tms := [4], sh := .bool, objs := [], sts := [] }
noncomputable def cut_ref10_Same_p1_o1 : Cut := { tms := [2, 3], sh := (.cons (.ptr 2000000 0) (.ptr 2000001 0)), objs := [(2000000, [2], .box (.cons (.list T_api_Pair) (.cons (.list .str) (.cons (.list (.int .i64)) (.cons (.list T_api_Sum) (.list T_api_Msg)))))), (2000001, [3], .box (.cons (.list T_api_Pair) (.cons (.list .str) (.cons (.list (.int .i64)) (.cons (.list T_api_Sum) (.list T_api_Msg))))))], sts := [] }
noncomputable def lp_ref10_Same_p1 (N : Nat) : Lp := lpOf cut_ref10_Same_p1 (1, cut_ref10_Same_p1_o0) [(0, cut_ref10_Same_p1_o1)] (fun v => ref10_Same_p1 N v.1.2.2 v.2.1.1 v.2.1.2.1 v.2.1.2.2.1 v.2.1.2.2.2.1 v.2.1.2.2.2.2 v.2.2.1.1 v.2.2.1.2.1 v.2.2.1.2.2.1 v.2.2.1.2.2.2.1 v.2.2.1.2.2.2.2)
noncomputable def lam_ref10_Same_p1 (_ : Nat) : Lps := fun _ => none
theorem lpok_ref10_Same_p1 (N : Nat) (ro : Option Nat) : LpOk Tryz.prog 103 ro (lp_ref10_Same_p1 N) (codeAt c_ref10_Same [true, false, true]) :=
  piece_ok (envok_ref10_Same N) mixed (Λ := lam_ref10_Same_p1 N) (p := 13) (obs_ok (l := []) (by kernel_rfl) obsNil) (by kernel_rfl) (by intro v; kernel_rfl)
noncomputable def cut_ref10_Same_p0 : Cut := { tms := [2, 3], sh := (.cons (.ptr 2000000 0) (.ptr 2000001 0)), objs := [(2000000, [2], .box (.cons (.list T_api_Pair) (.cons (.list .str) (.cons (.list (.int .i64)) (.cons (.list T_api_Sum) (.list T_api_Msg)))))), (2000001, [3], .box (.cons (.list T_api_Pair) (.cons (.list .str) (.cons (.list (.int .i64)) (.cons (.list T_api_Sum) (.list T_api_Msg))))))], sts := [] }
noncomputable def cut_ref10_Same_p0_o0 : Cut := { tms := [4], sh := .bool, objs := [], sts := [] }
noncomputable def lp_ref10_Same_p0 (N : Nat) : Lp := lpOf cut_ref10_Same_p0 (1, cut_ref10_Same_p0_o0) [] (fun v => ref10_Same_p0 N v.2.1.1 v.2.1.2.1 v.2.1.2.2.1 v.2.1.2.2.2.1 v.2.1.2.2.2.2 v.2.2.1.1 v.2.2.1.2.1 v.2.2.1.2.2.1 v.2.2.1.2.2.2.1 v.2.2.1.2.2.2.2)
noncomputable def lam_ref10_Same_p0 (N : Nat) : Lps := fun p => bif Nat.beq p 58 then some (lp_ref10_Same_l2 N) else bif Nat.beq p 122 then some (lp_ref10_Same_l3 N) else bif Nat.beq p 250 then some (lp_ref10_Same_l4 N) else none
theorem lpok_ref10_Same_p0 (N : Nat) (ro : Option Nat) : LpOk Tryz.prog 103 ro (lp_ref10_Same_p0 N) (codeAt c_ref10_Same [true, true]) :=
  piece_ok (envok_ref10_Same N) mixed (Λ := lam_ref10_Same_p0 N) (p := 7) (obs_ok (l := [(lp_ref10_Same_l2 N, (codeAt c_ref10_Same [true, true, false, true, false])), (lp_ref10_Same_l3 N, (codeAt c_ref10_Same [true, true, true, false, true, false])), (lp_ref10_Same_l4 N, (codeAt c_ref10_Same [true, true, true, true, false, true, false]))]) (by kernel_rfl) (obsCons (lpok_ref10_Same_l2 N ro) (obsCons (lpok_ref10_Same_l3 N ro) (obsCons (lpok_ref10_Same_l4 N ro) obsNil)))) (by kernel_rfl) (by intro v; kernel_rfl)
noncomputable def lam_ref10_Same (N : Nat) : Lps := fun p => bif Nat.beq p 7 then some (lp_ref10_Same_p0 N) else bif Nat.beq p 13 then some (lp_ref10_Same_p1 N) else none
noncomputable def ctr_ref10_Same (N : Nat) : Ctr := ctrOf (.cons (.val T_api_Node) (.val T_api_Node)) .bool [] (fun v => ref10_Same N v.1 v.2)
theorem sound_ref10_Same (N : Nat) : SoundF Tryz.prog 18 (fun vs => (ctr_ref10_Same N).run vs some) :=
  fn_sound (envok_ref10_Same N) mixed (Λ := lam_ref10_Same N) (fn := Tryz.f18) (c := c_ref10_Same) Tryz.func18 (by kernel_rfl) (by kernel_rfl) (obs_ok (l := [(lp_ref10_Same_p1 N, (codeAt c_ref10_Same [true, false, true])), (lp_ref10_Same_p0 N, (codeAt c_ref10_Same [true, true]))]) (by kernel_rfl) (obsCons (lpok_ref10_Same_p1 N none) (obsCons (lpok_ref10_Same_p0 N none) obsNil))) (by kernel_rfl) (by intro v; kernel_rfl)
end Go.Proofs.YtpgikdaeicidaaaGreatDoor
