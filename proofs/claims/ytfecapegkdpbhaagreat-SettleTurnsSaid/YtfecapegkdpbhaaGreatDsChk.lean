/- Printed by a program of the session's: what the program's functions compute, and that they do. -/
import Derived.Test.YtfecapegkdpbhaaGreatDsPure
import Derived.Test.YtfecapegkdpbhaaGreatProg
import Derived.KernelRfl
set_option linter.all false
namespace Go.Proofs.YtfecapegkdpbhaaGreat
open Go Go.Dv Ds
set_option maxRecDepth 100000

noncomputable def c_settle_List : Code := match Tryz.f13.body with | some c => c | none => .skip
noncomputable instance : LTab := ⟨fun i => bif Nat.beq i 0 then ⟨#[15], [5], codeAt c_settle_List [true, true, true, false, true, false, false], codeAt c_settle_List [true, true, true, false, true, false, true], 21⟩ else ⟨#[], [], .skip, .skip, 0⟩⟩

noncomputable def tyRows : List (Nat × TI) := [
  (3, ⟨.int .i64, 1, 8, [.int .i64], some (.int .i64)⟩),
  (5, ⟨.int .u8, 1, 1, [.int .u8], some (.int .u8)⟩),
  (9, ⟨.str, 1, 16, [.str], some .str⟩),
  (22, ⟨.slice 62, 1, 24, [.slice], some (.list T_ref04_Raw)⟩),
  (23, ⟨.slice 48, 1, 24, [.slice], some (.list T_ref05_Raw)⟩),
  (25, ⟨.slice 58, 1, 24, [.slice], some (.list T_api_Pair)⟩),
  (27, ⟨.slice 38, 1, 24, [.slice], some (.list T_api_Msg)⟩),
  (31, ⟨.slice 9, 1, 24, [.slice], some (.list .str)⟩),
  (36, ⟨.struct [(0, 9), (1, 9)], 2, 32, [.str, .str], some T_api_Span⟩),
  (38, ⟨.struct [(0, 3), (1, 9), (2, 9), (3, 36), (5, 9), (6, 9), (7, 3)], 8, 112, [.int .i64, .str, .str, .str, .str, .str, .str, .int .i64], some T_api_Msg⟩),
  (48, ⟨.arr 6 5, 6, 6, [.int .u8, .int .u8, .int .u8, .int .u8, .int .u8, .int .u8], some T_ref05_Raw⟩),
  (58, ⟨.struct [(0, 9), (1, 9), (2, 3)], 3, 40, [.str, .str, .int .i64], some T_api_Pair⟩),
  (62, ⟨.arr 3 5, 3, 3, [.int .u8, .int .u8, .int .u8], some T_ref04_Raw⟩),
  (73, ⟨.slice 5, 1, 24, [.slice], some (.list (.int .u8))⟩),
  (77, ⟨.iface, 1, 16, [.iface], none⟩),
  (86, ⟨.slice 27, 1, 24, [.slice], some (.list (.list T_api_Msg))⟩),
  (88, ⟨.slice 36, 1, 24, [.slice], some (.list T_api_Span)⟩),
  (91, ⟨.struct [(0, 3), (1, 9), (2, 9), (3, 36), (5, 9), (6, 9), (7, 3)], 8, 112, [.int .i64, .str, .str, .str, .str, .str, .str, .int .i64], some T_api_Msg⟩),
  (92, ⟨.struct [(0, 3), (1, 9), (2, 9), (3, 36), (5, 9), (6, 9), (7, 3)], 8, 112, [.int .i64, .str, .str, .str, .str, .str, .str, .int .i64], some T_api_Msg⟩),
  (93, ⟨.struct [(0, 3), (1, 9), (2, 9), (3, 36), (5, 9), (6, 9), (7, 3)], 8, 112, [.int .i64, .str, .str, .str, .str, .str, .str, .int .i64], some T_api_Msg⟩),
  (94, ⟨.struct [(0, 3), (1, 9), (2, 9), (3, 36), (5, 9), (6, 9), (7, 3)], 8, 112, [.int .i64, .str, .str, .str, .str, .str, .str, .int .i64], some T_api_Msg⟩),
  (95, ⟨.struct [(0, 3), (1, 9), (2, 9), (3, 36), (5, 9), (6, 9), (7, 3)], 8, 112, [.int .i64, .str, .str, .str, .str, .str, .str, .int .i64], some T_api_Msg⟩),
  (96, ⟨.struct [(0, 3), (1, 9), (2, 9), (3, 36), (5, 9), (6, 9), (7, 3)], 8, 112, [.int .i64, .str, .str, .str, .str, .str, .str, .int .i64], some T_api_Msg⟩),
  (106, ⟨.str, 1, 16, [.str], some .str⟩),
  (111, ⟨.int .u64, 1, 8, [.int .u64], some (.int .u64)⟩),
  (117, ⟨.slice 106, 1, 24, [.slice], some (.list .str)⟩),
  (142, ⟨.slice 25, 1, 24, [.slice], some (.list (.list T_api_Pair))⟩)]
theorem tyRows_ok : (tyRows.all fun r => tiOk Tryz.prog r.1 r.2) = true := by kernel_rfl
theorem mixed : Tryz.prog.follows .mixedOrders = true := by kernel_rfl
noncomputable def eqRows : List (Nat × List Nat) := [(38, [0, 2, 2, 2, 2, 2, 2, 0]), (58, [2, 2, 0])]
theorem eqRows_ok : (eqRows.all fun r => eqB Tryz.prog r.1 r.2) = true := by kernel_rfl
noncomputable def methRows : List (Nat × String × Nat) := [(91, "downspout/msg.apply", 111), (91, "downspout/msg.reads", 113), (91, "downspout/msg.writes", 116), (92, "downspout/msg.apply", 125), (92, "downspout/msg.reads", 127), (92, "downspout/msg.writes", 130), (93, "downspout/msg.apply", 135), (93, "downspout/msg.reads", 137), (93, "downspout/msg.writes", 140), (94, "downspout/msg.apply", 141), (94, "downspout/msg.reads", 143), (94, "downspout/msg.writes", 146), (95, "downspout/msg.apply", 147), (95, "downspout/msg.reads", 151), (95, "downspout/msg.writes", 154), (96, "downspout/msg.apply", 155), (96, "downspout/msg.reads", 157), (96, "downspout/msg.writes", 160)]
theorem methRows_ok : MethOk Tryz.prog methRows := ⟨fun v w => by kernel_rfl, ⟨fun v w => by kernel_rfl, ⟨fun v w => by kernel_rfl, ⟨fun v w => by kernel_rfl, ⟨fun v w => by kernel_rfl, ⟨fun v w => by kernel_rfl, ⟨fun v w => by kernel_rfl, ⟨fun v w => by kernel_rfl, ⟨fun v w => by kernel_rfl, ⟨fun v w => by kernel_rfl, ⟨fun v w => by kernel_rfl, ⟨fun v w => by kernel_rfl, ⟨fun v w => by kernel_rfl, ⟨fun v w => by kernel_rfl, ⟨fun v w => by kernel_rfl, ⟨fun v w => by kernel_rfl, ⟨fun v w => by kernel_rfl, ⟨fun v w => by kernel_rfl, trivial⟩⟩⟩⟩⟩⟩⟩⟩⟩⟩⟩⟩⟩⟩⟩⟩⟩⟩

noncomputable def c_settle_moves : Code := match Tryz.f31.body with | some c => c | none => .skip
noncomputable def tab_settle_moves (_ : Nat) : List (Nat × Ctr) := []
noncomputable def env_settle_moves (N : Nat) : Env := mkEnv tyRows eqRows methRows [] [] (tab_settle_moves N)
theorem envok_settle_moves (N : Nat) : EnvOk Tryz.prog (env_settle_moves N) := mkEnv_ok tyRows_ok eqRows_ok methRows_ok trivial
noncomputable def lam_settle_moves (_ : Nat) : Lps := fun _ => none
noncomputable def ctr_settle_moves (N : Nat) : Ctr := ctrOf (.val T_api_Msg) .bool [] (fun v => settle_moves N v)
theorem sound_settle_moves (N : Nat) : SoundF Tryz.prog 31 (fun vs => (ctr_settle_moves N).run vs some) :=
  fn_sound (envok_settle_moves N) mixed (Λ := lam_settle_moves N) (fn := Tryz.f31) (c := c_settle_moves) Tryz.func31 (by kernel_rfl) (by kernel_rfl) (obs_ok (l := []) (by kernel_rfl) obsNil) (by kernel_rfl) (by intro v; kernel_rfl)

noncomputable def c_settle_settled : Code := match Tryz.f32.body with | some c => c | none => .skip
noncomputable def tab_settle_settled (_ : Nat) : List (Nat × Ctr) := []
noncomputable def env_settle_settled (N : Nat) : Env := mkEnv tyRows eqRows methRows [(endKey, [2, 3])] [] (tab_settle_settled N)
theorem envok_settle_settled (N : Nat) : EnvOk Tryz.prog (env_settle_settled N) := mkEnv_ok tyRows_ok eqRows_ok methRows_ok trivial
noncomputable def lam_settle_settled (_ : Nat) : Lps := fun _ => none
noncomputable def ctr_settle_settled (N : Nat) : Ctr := ctrOf (.cons (.val T_api_Msg) (.list T_api_Pair)) (.clo 51 (.cons (.bx (.cons (.int .i64) (.cons .str (.cons .str (.cons .str (.cons .str (.cons .str (.cons .str (.int .i64)))))))) 0) (.bx (.list T_api_Pair) 0))) [] (fun v => settle_settled N v.1 v.2)
theorem sound_settle_settled (N : Nat) : SoundF Tryz.prog 32 (fun vs => (ctr_settle_settled N).run vs some) :=
  fn_sound (envok_settle_settled N) mixed (Λ := lam_settle_settled N) (fn := Tryz.f32) (c := c_settle_settled) Tryz.func32 (by kernel_rfl) (by kernel_rfl) (obs_ok (l := []) (by kernel_rfl) obsNil) (by kernel_rfl) (by intro v; kernel_rfl)

noncomputable def c_span_Prefix : Code := match Tryz.f52.body with | some c => c | none => .skip
noncomputable def tab_span_Prefix (_ : Nat) : List (Nat × Ctr) := []
noncomputable def env_span_Prefix (N : Nat) : Env := mkEnv tyRows eqRows methRows [] [22] (tab_span_Prefix N)
theorem envok_span_Prefix (N : Nat) : EnvOk Tryz.prog (env_span_Prefix N) := mkEnv_ok tyRows_ok eqRows_ok methRows_ok trivial
noncomputable def cut_span_Prefix_l0 : Cut := { tms := [0, 2, 3], sh := (.cons .str (.cons (.ptr 2000000 0) (.own 2000001))), objs := [(2000000, [2], .box (.cons .str .str)), (2000001, [3], .sl (.int .u8))], sts := [] }
noncomputable def cut_span_Prefix_l0_o0 : Cut := { tms := [0, 2, 3], sh := (.cons .str (.cons (.ptr 2000000 0) (.own 2000001))), objs := [(2000000, [2], .box (.cons .str .str)), (2000001, [3], .sl (.int .u8))], sts := [] }
noncomputable def lp_span_Prefix_l0 (N : Nat) : Lp := lpOf cut_span_Prefix_l0 (2, cut_span_Prefix_l0_o0) [] (fun v => span_Prefix_l0 N N v.1.1 v.2.1.1 v.2.1.2 v.2.2.1)
noncomputable def lam_span_Prefix_l0 (_ : Nat) : Lps := fun _ => none
theorem lpok_span_Prefix_l0 (N : Nat) (ro : Option Nat) : LpOk Tryz.prog 38 ro (lp_span_Prefix_l0 N) (codeAt c_span_Prefix [true, true, false, false]) := by
  rw [show (codeAt c_span_Prefix [true, true, false, false]) = .loop (codeAt c_span_Prefix [true, true, false, false, false]) by kernel_rfl]
  exact loop_ok (envok_span_Prefix N) mixed (Λ := lam_span_Prefix_l0 N) (p := 56) (obs_ok (l := []) (by kernel_rfl) obsNil) (by kernel_rfl) (by intro rec v; kernel_rfl) N
noncomputable def lam_span_Prefix (N : Nat) : Lps := fun p => bif Nat.beq p 28 then some (lp_span_Prefix_l0 N) else none
noncomputable def ctr_span_Prefix (N : Nat) : Ctr := ctrOf .str (.val T_api_Span) [] (fun v => span_Prefix N v)
theorem sound_span_Prefix (N : Nat) : SoundF Tryz.prog 52 (fun vs => (ctr_span_Prefix N).run vs some) :=
  fn_sound (envok_span_Prefix N) mixed (Λ := lam_span_Prefix N) (fn := Tryz.f52) (c := c_span_Prefix) Tryz.func52 (by kernel_rfl) (by kernel_rfl) (obs_ok (l := [(lp_span_Prefix_l0 N, (codeAt c_span_Prefix [true, true, false, false]))]) (by kernel_rfl) (obsCons (lpok_span_Prefix_l0 N none) obsNil)) (by kernel_rfl) (by intro v; kernel_rfl)

noncomputable def tab_settle_List_round0 (_ : Nat) : List (Nat × Ctr) := []
noncomputable def env_settle_List_round0 (N : Nat) : Env := mkEnv tyRows eqRows methRows [] [] (tab_settle_List_round0 N)
theorem envok_settle_List_round0 (N : Nat) : EnvOk Tryz.prog (env_settle_List_round0 N) := mkEnv_ok tyRows_ok eqRows_ok methRows_ok trivial
noncomputable def lam_settle_List_round0 (_ : Nat) : Lps := fun _ => none
noncomputable def cut_settle_List_round0_in : Cut := { tms := [15, 5], sh := (.cons (.agg (.cons (.int .i64) (.cons .str (.cons .str (.cons .str (.cons .str (.cons .str (.cons .str (.int .i64))))))))) (.ptr 5000000 0)), objs := [(5000000, [5], .box (.own 5000001)), (5000001, [5, 0], .sl T_api_Msg)], sts := [] }
noncomputable def cut_settle_List_round0_out0 : Cut := { tms := [], sh := .nil, objs := [(5000000, [5000000], .box (.own 2000001)), (2000001, [5000000, 0], .sl T_api_Msg)], sts := [] }
noncomputable def ctr_settle_List_round0 (N : Nat) : CtrR := ctrR 1 cut_settle_List_round0_in (0, cut_settle_List_round0_out0) [] (fun v => settle_List_round0 N v.1.1.1 v.1.1.2.1 v.1.1.2.2.1 v.1.1.2.2.2.1 v.1.1.2.2.2.2.1 v.1.1.2.2.2.2.2.1 v.1.1.2.2.2.2.2.2.1 v.1.1.2.2.2.2.2.2.2 v.2.2.1)
theorem sound_settle_List_round0 (N : Nat) : SoundR Tryz.prog 0 (ctr_settle_List_round0 N) :=
  round_ok (envok_settle_List_round0 N) mixed (Λa := lam_settle_List_round0 N) (Λb := lam_settle_List_round0 N) (pa := 244) (pb := 245) (by kernel_rfl) (by kernel_rfl) (by kernel_rfl) (by kernel_rfl) (by kernel_rfl) (fun ro => (obs_ok (l := []) (by kernel_rfl) obsNil)) (fun ro => (obs_ok (l := []) (by kernel_rfl) obsNil)) (by kernel_rfl) (by kernel_rfl) (by intro v; kernel_rfl)

noncomputable def c_stringslite_HasPrefix : Code := match Tryz.f90.body with | some c => c | none => .skip
noncomputable def tab_stringslite_HasPrefix (_ : Nat) : List (Nat × Ctr) := []
noncomputable def env_stringslite_HasPrefix (N : Nat) : Env := mkEnv tyRows eqRows methRows [] [] (tab_stringslite_HasPrefix N)
theorem envok_stringslite_HasPrefix (N : Nat) : EnvOk Tryz.prog (env_stringslite_HasPrefix N) := mkEnv_ok tyRows_ok eqRows_ok methRows_ok trivial
noncomputable def lam_stringslite_HasPrefix (_ : Nat) : Lps := fun _ => none
noncomputable def ctr_stringslite_HasPrefix (N : Nat) : Ctr := ctrOf (.cons .str .str) .bool [] (fun v => stringslite_HasPrefix N v.1 v.2)
theorem sound_stringslite_HasPrefix (N : Nat) : SoundF Tryz.prog 90 (fun vs => (ctr_stringslite_HasPrefix N).run vs some) :=
  fn_sound (envok_stringslite_HasPrefix N) mixed (Λ := lam_stringslite_HasPrefix N) (fn := Tryz.f90) (c := c_stringslite_HasPrefix) Tryz.func90 (by kernel_rfl) (by kernel_rfl) (obs_ok (l := []) (by kernel_rfl) obsNil) (by kernel_rfl) (by intro v; kernel_rfl)

noncomputable def c_stringslite_CutPrefix : Code := match Tryz.f83.body with | some c => c | none => .skip
noncomputable def tab_stringslite_CutPrefix (N : Nat) : List (Nat × Ctr) := [(90, ctr_stringslite_HasPrefix N)]
noncomputable def env_stringslite_CutPrefix (N : Nat) : Env := mkEnv tyRows eqRows methRows [] [] (tab_stringslite_CutPrefix N)
theorem envok_stringslite_CutPrefix (N : Nat) : EnvOk Tryz.prog (env_stringslite_CutPrefix N) := mkEnv_ok tyRows_ok eqRows_ok methRows_ok ⟨sound_stringslite_HasPrefix N, trivial⟩
noncomputable def lam_stringslite_CutPrefix (_ : Nat) : Lps := fun _ => none
noncomputable def ctr_stringslite_CutPrefix (N : Nat) : Ctr := ctrOf (.cons .str .str) (.tup (.cons .str .bool)) [] (fun v => stringslite_CutPrefix N v.1 v.2)
theorem sound_stringslite_CutPrefix (N : Nat) : SoundF Tryz.prog 83 (fun vs => (ctr_stringslite_CutPrefix N).run vs some) :=
  fn_sound (envok_stringslite_CutPrefix N) mixed (Λ := lam_stringslite_CutPrefix N) (fn := Tryz.f83) (c := c_stringslite_CutPrefix) Tryz.func83 (by kernel_rfl) (by kernel_rfl) (obs_ok (l := []) (by kernel_rfl) obsNil) (by kernel_rfl) (by intro v; kernel_rfl)

noncomputable def c_strings_CutPrefix : Code := match Tryz.f69.body with | some c => c | none => .skip
noncomputable def tab_strings_CutPrefix (N : Nat) : List (Nat × Ctr) := [(83, ctr_stringslite_CutPrefix N)]
noncomputable def env_strings_CutPrefix (N : Nat) : Env := mkEnv tyRows eqRows methRows [] [] (tab_strings_CutPrefix N)
theorem envok_strings_CutPrefix (N : Nat) : EnvOk Tryz.prog (env_strings_CutPrefix N) := mkEnv_ok tyRows_ok eqRows_ok methRows_ok ⟨sound_stringslite_CutPrefix N, trivial⟩
noncomputable def lam_strings_CutPrefix (_ : Nat) : Lps := fun _ => none
noncomputable def ctr_strings_CutPrefix (N : Nat) : Ctr := ctrOf (.cons .str .str) (.tup (.cons .str .bool)) [] (fun v => strings_CutPrefix N v.1 v.2)
theorem sound_strings_CutPrefix (N : Nat) : SoundF Tryz.prog 69 (fun vs => (ctr_strings_CutPrefix N).run vs some) :=
  fn_sound (envok_strings_CutPrefix N) mixed (Λ := lam_strings_CutPrefix N) (fn := Tryz.f69) (c := c_strings_CutPrefix) Tryz.func69 (by kernel_rfl) (by kernel_rfl) (obs_ok (l := []) (by kernel_rfl) obsNil) (by kernel_rfl) (by intro v; kernel_rfl)

noncomputable def c_span_Moved : Code := match Tryz.f53.body with | some c => c | none => .skip
noncomputable def tab_span_Moved (N : Nat) : List (Nat × Ctr) := [(69, ctr_strings_CutPrefix N)]
noncomputable def env_span_Moved (N : Nat) : Env := mkEnv tyRows eqRows methRows [] [] (tab_span_Moved N)
theorem envok_span_Moved (N : Nat) : EnvOk Tryz.prog (env_span_Moved N) := mkEnv_ok tyRows_ok eqRows_ok methRows_ok ⟨sound_strings_CutPrefix N, trivial⟩
noncomputable def lam_span_Moved (_ : Nat) : Lps := fun _ => none
noncomputable def ctr_span_Moved (N : Nat) : Ctr := ctrOf (.cons .str (.cons .str .str)) (.tup (.cons .str .bool)) [] (fun v => span_Moved N v.1 v.2.1 v.2.2)
theorem sound_span_Moved (N : Nat) : SoundF Tryz.prog 53 (fun vs => (ctr_span_Moved N).run vs some) :=
  fn_sound (envok_span_Moved N) mixed (Λ := lam_span_Moved N) (fn := Tryz.f53) (c := c_span_Moved) Tryz.func53 (by kernel_rfl) (by kernel_rfl) (obs_ok (l := []) (by kernel_rfl) obsNil) (by kernel_rfl) (by intro v; kernel_rfl)

noncomputable def c_settle_settled_c1_m : Code := match Tryz.f51.body with | some c => c | none => .skip
noncomputable def tab_settle_settled_c1_m (N : Nat) : List (Nat × Ctr) := [(52, ctr_span_Prefix N), (53, ctr_span_Moved N)]
noncomputable def tabm_settle_settled_c1_m (_ : Nat) : List (Nat × CtrM) := []
noncomputable def tabr_settle_settled_c1_m (N : Nat) : List (Nat × CtrR) := [(0, ctr_settle_List_round0 N)]
noncomputable def env_settle_settled_c1_m (N : Nat) : Env := mkEnv tyRows eqRows methRows [] [13, 38, 49] (tab_settle_settled_c1_m N) (tabm_settle_settled_c1_m N) (tabr_settle_settled_c1_m N)
theorem envok_settle_settled_c1_m (N : Nat) : EnvOk Tryz.prog (env_settle_settled_c1_m N) := mkEnv_ok tyRows_ok eqRows_ok methRows_ok ⟨sound_span_Prefix N, ⟨sound_span_Moved N, trivial⟩⟩ trivial ⟨sound_settle_List_round0 N, trivial⟩
noncomputable def cut_settle_settled_c1_m_l0 : Cut := { tms := [0, 1, 15, 16, 17], sh := (.cons (.yld 5000000) (.cons (.bx (.cons (.int .i64) (.cons .str (.cons .str (.cons .str (.cons .str (.cons .str (.cons .str (.int .i64)))))))) 0) (.cons (.list T_api_Pair) (.cons (.int .i64) (.int .i64))))), objs := [(5000000, [5000000], .rng 0 (.ptr 5000001 0) 0), (5000001, [5000001], .box (.own 2000002)), (2000002, [5000001, 0], .sl T_api_Msg)], sts := [] }
noncomputable def cut_settle_settled_c1_m_l0_o0 : Cut := { tms := [0, 1], sh := (.cons (.yld 5000000) (.bx (.cons (.int .i64) (.cons .str (.cons .str (.cons .str (.cons .str (.cons .str (.cons .str (.int .i64)))))))) 0)), objs := [(5000000, [5000000], .rng 0 (.ptr 5000001 0) 0), (5000001, [5000001], .box (.own 2000002)), (2000002, [5000001, 0], .sl T_api_Msg)], sts := [] }
noncomputable def lp_settle_settled_c1_m_l0 (N : Nat) : Lp := lpOf cut_settle_settled_c1_m_l0 (2, cut_settle_settled_c1_m_l0_o0) [] (fun v => settle_settled_c1_m_l0 N N v.1.2.1.1 v.1.2.1.2.1 v.1.2.1.2.2.1 v.1.2.1.2.2.2.1 v.1.2.1.2.2.2.2.1 v.1.2.1.2.2.2.2.2.1 v.1.2.1.2.2.2.2.2.2.1 v.1.2.1.2.2.2.2.2.2.2 v.1.2.2.1 v.1.2.2.2.1 v.1.2.2.2.2 v.2.2.2.1)
noncomputable def lam_settle_settled_c1_m_l0 (_ : Nat) : Lps := fun _ => none
theorem lpok_settle_settled_c1_m_l0 (N : Nat) (ro : Option Nat) : LpOk Tryz.prog 50 ro (lp_settle_settled_c1_m_l0 N) (codeAt c_settle_settled_c1_m [true, false, true, false]) := by
  rw [show (codeAt c_settle_settled_c1_m [true, false, true, false]) = .loop (codeAt c_settle_settled_c1_m [true, false, true, false, false]) by kernel_rfl]
  exact loop_ok (envok_settle_settled_c1_m N) mixed (Λ := lam_settle_settled_c1_m_l0 N) (p := 52) (obs_ok (l := []) (by kernel_rfl) obsNil) (by kernel_rfl) (by intro rec v; kernel_rfl) N
noncomputable def lam_settle_settled_c1_m (N : Nat) : Lps := fun p => bif Nat.beq p 26 then some (lp_settle_settled_c1_m_l0 N) else none
noncomputable def cut_settle_settled_c1_m_in : Cut := { tms := [0, 1, 2], sh := (.cons (.yld 5000000) (.cons (.bx (.cons (.int .i64) (.cons .str (.cons .str (.cons .str (.cons .str (.cons .str (.cons .str (.int .i64)))))))) 0) (.bx (.list T_api_Pair) 0))), objs := [(5000000, [0], .rng 0 (.ptr 5000001 0) 0), (5000001, [0, 0], .box (.own 5000002)), (5000002, [0, 0, 0], .sl T_api_Msg)], sts := [] }
noncomputable def cut_settle_settled_c1_m_out0 : Cut := { tms := [0], sh := (.tup .nil), objs := [(5000000, [5000000], .rng 0 (.ptr 5000001 0) 0), (5000001, [5000001], .box (.own 2000002)), (2000002, [5000001, 0], .sl T_api_Msg)], sts := [] }
noncomputable def ctr_settle_settled_c1_m (N : Nat) : CtrM := ctrM cut_settle_settled_c1_m_in cut_settle_settled_c1_m_out0 [] (fun v => settle_settled_c1_m N v.1.2.1.1 v.1.2.1.2.1 v.1.2.1.2.2.1 v.1.2.1.2.2.2.1 v.1.2.1.2.2.2.2.1 v.1.2.1.2.2.2.2.2.1 v.1.2.1.2.2.2.2.2.2.1 v.1.2.1.2.2.2.2.2.2.2 v.1.2.2 v.2.2.2.1)
theorem sound_settle_settled_c1_m (N : Nat) : SoundM Tryz.prog 51 (ctr_settle_settled_c1_m N) :=
  fnM_sound (envok_settle_settled_c1_m N) mixed (Λ := lam_settle_settled_c1_m N) (fn := Tryz.f51) (c := c_settle_settled_c1_m) Tryz.func51 (by kernel_rfl) (by kernel_rfl) (obs_ok (l := [(lp_settle_settled_c1_m_l0 N, (codeAt c_settle_settled_c1_m [true, false, true, false]))]) (by kernel_rfl) (obsCons (lpok_settle_settled_c1_m_l0 N none) obsNil)) (by kernel_rfl) (by intro v; kernel_rfl)

noncomputable def tab_settle_List (N : Nat) : List (Nat × Ctr) := [(31, ctr_settle_moves N), (32, ctr_settle_settled N)]
noncomputable def tabm_settle_List (N : Nat) : List (Nat × CtrM) := [(51, ctr_settle_settled_c1_m N)]
noncomputable def env_settle_List (N : Nat) : Env := mkEnv tyRows eqRows methRows [] [] (tab_settle_List N) (tabm_settle_List N)
theorem envok_settle_List (N : Nat) : EnvOk Tryz.prog (env_settle_List N) := mkEnv_ok tyRows_ok eqRows_ok methRows_ok ⟨sound_settle_moves N, ⟨sound_settle_settled N, trivial⟩⟩ ⟨sound_settle_settled_c1_m N, trivial⟩
noncomputable def cut_settle_List_g0 : Cut := { tms := [5, 14], sh := (.cons (.ptr 2000000 0) (.clo 51 (.cons (.bx (.cons (.int .i64) (.cons .str (.cons .str (.cons .str (.cons .str (.cons .str (.cons .str (.int .i64)))))))) 0) (.bx (.list T_api_Pair) 0)))), objs := [(2000000, [5], .box (.own 2000001)), (2000001, [5, 0], .sl T_api_Msg)], sts := [] }
noncomputable def cut_settle_List_g0_o0 : Cut := { tms := [5], sh := (.ptr 2000000 0), objs := [(2000000, [5], .box (.own 2000001)), (2000001, [5, 0], .sl T_api_Msg)], sts := [] }
noncomputable def lp_settle_List_g0 (N : Nat) : Lp := lpOf cut_settle_List_g0 (0, cut_settle_List_g0_o0) [] (fun v => settle_List_g0 N v.1.2.1.1 v.1.2.1.2.1 v.1.2.1.2.2.1 v.1.2.1.2.2.2.1 v.1.2.1.2.2.2.2.1 v.1.2.1.2.2.2.2.2.1 v.1.2.1.2.2.2.2.2.2.1 v.1.2.1.2.2.2.2.2.2.2 v.1.2.2 v.2.2.1)
theorem lpok_settle_List_g0 (N : Nat) : LpOk Tryz.prog 21 none (lp_settle_List_g0 N) (codeAt c_settle_List [true, true, true, false, true, false]) := by
  rw [show (codeAt c_settle_List [true, true, true, false, true, false]) = .rangeFunc (.tmp 14) (LTab.tab 0).ps (LTab.tab 0).assign (LTab.tab 0).body by kernel_rfl]
  exact rng_ok (envok_settle_List N) (id := 0) (by kernel_rfl) (by intro v; kernel_rfl)
noncomputable def lam_settle_List (N : Nat) : Lps := fun p => bif Nat.beq p 122 then some (lp_settle_List_g0 N) else none
noncomputable def ctr_settle_List (N : Nat) : Ctr := ctrOf (.cons (.val T_api_Msg) (.list T_api_Pair)) (.fresh T_api_Msg) [] (fun v => settle_List N v.1 v.2)
theorem sound_settle_List (N : Nat) : SoundF Tryz.prog 13 (fun vs => (ctr_settle_List N).run vs some) :=
  fn_sound (envok_settle_List N) mixed (Λ := lam_settle_List N) (fn := Tryz.f13) (c := c_settle_List) Tryz.func13 (by kernel_rfl) (by kernel_rfl) (obs_ok (l := [(lp_settle_List_g0 N, (codeAt c_settle_List [true, true, true, false, true, false]))]) (by kernel_rfl) (obsCons (lpok_settle_List_g0 N) obsNil)) (by kernel_rfl) (by intro v; kernel_rfl)

noncomputable def grow55_ren : Go.Shelf.Ren := ⟨fun | 4 => 55 | n => n, fun | 22 => 27 | 25 => 38 | n => n, fun n => n⟩
theorem grow55 : Go.Proofs.Lays8.n4 Tryz.prog grow55_ren := {
  mixed := by kernel_rfl
  f4 := ⟨Tryz.f55.name, by decide, Tryz.func55.trans (congrArg some (by kernel_rfl))⟩
  t0 := Tryz.underlying0
  a0 := Tryz.isAgg0
  z0 := Tryz.sizeOf0
  v0 := Tryz.zeroValue0
  t3 := Tryz.underlying3
  a3 := Tryz.isAgg3
  z3 := Tryz.sizeOf3
  v3 := Tryz.zeroValue3
  t4 := Tryz.underlying4
  a4 := Tryz.isAgg4
  z4 := Tryz.sizeOf4
  v4 := Tryz.zeroValue4
  t9 := Tryz.underlying9
  a9 := Tryz.isAgg9
  z9 := Tryz.sizeOf9
  v9 := Tryz.zeroValue9
  t20 := Tryz.underlying20
  a20 := Tryz.isAgg20
  z20 := Tryz.sizeOf20
  v20 := Tryz.zeroValue20
  t22 := Tryz.underlying27
  a22 := Tryz.isAgg27
  z22 := Tryz.sizeOf27
  v22 := Tryz.zeroValue27
  }
noncomputable def c_slices_Grow_s_api_Msg_api_Msg_nil : Code := match Tryz.f55.body with | some c => c | none => .skip
noncomputable def ctr_slices_Grow_s_api_Msg_api_Msg_nil (_ : Nat) : Ctr := ctrOf (.cons .nils (.int .i64)) (.fresh T_api_Msg) [] (growF T_api_Msg 112)
noncomputable def ti_slices_Grow_s_api_Msg_api_Msg_nil : TI := match findT tyRows 38 with | some t => t | none => ⟨.other, 0, 0, [], none⟩
theorem sound_slices_Grow_s_api_Msg_api_Msg_nil (N : Nat) : SoundF Tryz.prog 55 (fun vs => (ctr_slices_Grow_s_api_Msg_api_Msg_nil N).run vs some) := by
  have e1 : grow55_ren.f 4 = 55 := by kernel_rfl
  have e2 : grow55_ren.t 25 = 38 := by kernel_rfl
  have h := grow_sound grow55 (ei := ti_slices_Grow_s_api_Msg_api_Msg_nil) (ty := T_api_Msg) (fn := Tryz.f55) (c := c_slices_Grow_s_api_Msg_api_Msg_nil) (by rw [e2]; exact findT_ok tyRows_ok 38 _ (by kernel_rfl)) (by kernel_rfl) (by rw [e1]; exact Tryz.func55) (by kernel_rfl) (by kernel_rfl)
  rw [e1, show ti_slices_Grow_s_api_Msg_api_Msg_nil.bytes = 112 by kernel_rfl] at h
  exact h

noncomputable def c_slices_Concat_s_api_Msg_api_Msg : Code := match Tryz.f35.body with | some c => c | none => .skip
noncomputable def tab_slices_Concat_s_api_Msg_api_Msg (N : Nat) : List (Nat × Ctr) := [(55, ctr_slices_Grow_s_api_Msg_api_Msg_nil N)]
noncomputable def env_slices_Concat_s_api_Msg_api_Msg (N : Nat) : Env := mkEnv tyRows eqRows methRows [] [] (tab_slices_Concat_s_api_Msg_api_Msg N)
theorem envok_slices_Concat_s_api_Msg_api_Msg (N : Nat) : EnvOk Tryz.prog (env_slices_Concat_s_api_Msg_api_Msg N) := mkEnv_ok tyRows_ok eqRows_ok methRows_ok ⟨sound_slices_Grow_s_api_Msg_api_Msg_nil N, trivial⟩
noncomputable def cut_slices_Concat_s_api_Msg_api_Msg_l1 : Cut := { tms := [6, 25, 26, 27], sh := (.cons (.own 2000000) (.cons (.list (.list T_api_Msg)) (.cons (.int .i64) (.int .i64)))), objs := [(2000000, [6], .sl T_api_Msg)], sts := [] }
noncomputable def cut_slices_Concat_s_api_Msg_api_Msg_l1_o0 : Cut := { tms := [6], sh := (.own 2000000), objs := [(2000000, [6], .sl T_api_Msg)], sts := [] }
noncomputable def lp_slices_Concat_s_api_Msg_api_Msg_l1 (N : Nat) : Lp := lpOf cut_slices_Concat_s_api_Msg_api_Msg_l1 (4, cut_slices_Concat_s_api_Msg_api_Msg_l1_o0) [] (fun v => slices_Concat_s_api_Msg_api_Msg_l1 N N v.1.2.1 v.1.2.2.1 v.1.2.2.2 v.2.1)
noncomputable def lam_slices_Concat_s_api_Msg_api_Msg_l1 (_ : Nat) : Lps := fun _ => none
theorem lpok_slices_Concat_s_api_Msg_api_Msg_l1 (N : Nat) (ro : Option Nat) : LpOk Tryz.prog 36 ro (lp_slices_Concat_s_api_Msg_api_Msg_l1 N) (codeAt c_slices_Concat_s_api_Msg_api_Msg [true, true, true, true, false, true, false]) := by
  rw [show (codeAt c_slices_Concat_s_api_Msg_api_Msg [true, true, true, true, false, true, false]) = .loop (codeAt c_slices_Concat_s_api_Msg_api_Msg [true, true, true, true, false, true, false, false]) by kernel_rfl]
  exact loop_ok (envok_slices_Concat_s_api_Msg_api_Msg N) mixed (Λ := lam_slices_Concat_s_api_Msg_api_Msg_l1 N) (p := 500) (obs_ok (l := []) (by kernel_rfl) obsNil) (by kernel_rfl) (by intro rec v; kernel_rfl) N
noncomputable def cut_slices_Concat_s_api_Msg_api_Msg_l0 : Cut := { tms := [0, 3, 9, 10, 11], sh := (.cons (.list (.list T_api_Msg)) (.cons (.int .i64) (.cons (.list (.list T_api_Msg)) (.cons (.int .i64) (.int .i64))))), objs := [], sts := [] }
noncomputable def cut_slices_Concat_s_api_Msg_api_Msg_l0_o0 : Cut := { tms := [0, 3], sh := (.cons (.list (.list T_api_Msg)) (.int .i64)), objs := [], sts := [] }
noncomputable def lp_slices_Concat_s_api_Msg_api_Msg_l0 (N : Nat) : Lp := lpOf cut_slices_Concat_s_api_Msg_api_Msg_l0 (2, cut_slices_Concat_s_api_Msg_api_Msg_l0_o0) [] (fun v => slices_Concat_s_api_Msg_api_Msg_l0 N N v.1.1 v.1.2.1 v.1.2.2.1 v.1.2.2.2.1 v.1.2.2.2.2)
noncomputable def lam_slices_Concat_s_api_Msg_api_Msg_l0 (_ : Nat) : Lps := fun _ => none
theorem lpok_slices_Concat_s_api_Msg_api_Msg_l0 (N : Nat) (ro : Option Nat) : LpOk Tryz.prog 36 ro (lp_slices_Concat_s_api_Msg_api_Msg_l0 N) (codeAt c_slices_Concat_s_api_Msg_api_Msg [true, true, false, true, false]) := by
  rw [show (codeAt c_slices_Concat_s_api_Msg_api_Msg [true, true, false, true, false]) = .loop (codeAt c_slices_Concat_s_api_Msg_api_Msg [true, true, false, true, false, false]) by kernel_rfl]
  exact loop_ok (envok_slices_Concat_s_api_Msg_api_Msg N) mixed (Λ := lam_slices_Concat_s_api_Msg_api_Msg_l0 N) (p := 116) (obs_ok (l := []) (by kernel_rfl) obsNil) (by kernel_rfl) (by intro rec v; kernel_rfl) N
noncomputable def lam_slices_Concat_s_api_Msg_api_Msg (N : Nat) : Lps := fun p => bif Nat.beq p 58 then some (lp_slices_Concat_s_api_Msg_api_Msg_l0 N) else bif Nat.beq p 250 then some (lp_slices_Concat_s_api_Msg_api_Msg_l1 N) else none
noncomputable def ctr_slices_Concat_s_api_Msg_api_Msg (N : Nat) : Ctr := ctrOf (.list (.list T_api_Msg)) (.fresh T_api_Msg) [] (fun v => slices_Concat_s_api_Msg_api_Msg N v)
theorem sound_slices_Concat_s_api_Msg_api_Msg (N : Nat) : SoundF Tryz.prog 35 (fun vs => (ctr_slices_Concat_s_api_Msg_api_Msg N).run vs some) :=
  fn_sound (envok_slices_Concat_s_api_Msg_api_Msg N) mixed (Λ := lam_slices_Concat_s_api_Msg_api_Msg N) (fn := Tryz.f35) (c := c_slices_Concat_s_api_Msg_api_Msg) Tryz.func35 (by kernel_rfl) (by kernel_rfl) (obs_ok (l := [(lp_slices_Concat_s_api_Msg_api_Msg_l0 N, (codeAt c_slices_Concat_s_api_Msg_api_Msg [true, true, false, true, false])), (lp_slices_Concat_s_api_Msg_api_Msg_l1 N, (codeAt c_slices_Concat_s_api_Msg_api_Msg [true, true, true, true, false, true, false]))]) (by kernel_rfl) (obsCons (lpok_slices_Concat_s_api_Msg_api_Msg_l0 N none) (obsCons (lpok_slices_Concat_s_api_Msg_api_Msg_l1 N none) obsNil))) (by kernel_rfl) (by intro v; kernel_rfl)

noncomputable def c_settle_Turn : Code := match Tryz.f16.body with | some c => c | none => .skip
noncomputable def tab_settle_Turn (N : Nat) : List (Nat × Ctr) := [(31, ctr_settle_moves N), (13, ctr_settle_List N), (35, ctr_slices_Concat_s_api_Msg_api_Msg N)]
noncomputable def env_settle_Turn (N : Nat) : Env := mkEnv tyRows eqRows methRows [(2000023, [20])] [] (tab_settle_Turn N)
theorem envok_settle_Turn (N : Nat) : EnvOk Tryz.prog (env_settle_Turn N) := mkEnv_ok tyRows_ok eqRows_ok methRows_ok ⟨sound_settle_moves N, ⟨sound_settle_List N, ⟨sound_slices_Concat_s_api_Msg_api_Msg N, trivial⟩⟩⟩
noncomputable def lam_settle_Turn (_ : Nat) : Lps := fun _ => none
noncomputable def ctr_settle_Turn (N : Nat) : Ctr := ctrOf (.cons (.list T_api_Msg) (.list T_api_Pair)) (.tup (.cons (.fresh T_api_Msg) (.int .i64))) [] (fun v => settle_Turn N v.1 v.2)
theorem sound_settle_Turn (N : Nat) : SoundF Tryz.prog 16 (fun vs => (ctr_settle_Turn N).run vs some) :=
  fn_sound (envok_settle_Turn N) mixed (Λ := lam_settle_Turn N) (fn := Tryz.f16) (c := c_settle_Turn) Tryz.func16 (by kernel_rfl) (by kernel_rfl) (obs_ok (l := []) (by kernel_rfl) obsNil) (by kernel_rfl) (by intro v; kernel_rfl)

noncomputable def c_route_moves : Code := match Tryz.f47.body with | some c => c | none => .skip
noncomputable def tab_route_moves (_ : Nat) : List (Nat × Ctr) := []
noncomputable def env_route_moves (N : Nat) : Env := mkEnv tyRows eqRows methRows [] [] (tab_route_moves N)
theorem envok_route_moves (N : Nat) : EnvOk Tryz.prog (env_route_moves N) := mkEnv_ok tyRows_ok eqRows_ok methRows_ok trivial
noncomputable def lam_route_moves (_ : Nat) : Lps := fun _ => none
noncomputable def ctr_route_moves (N : Nat) : Ctr := ctrOf (.val T_api_Msg) .bool [] (fun v => route_moves N v)
theorem sound_route_moves (N : Nat) : SoundF Tryz.prog 47 (fun vs => (ctr_route_moves N).run vs some) :=
  fn_sound (envok_route_moves N) mixed (Λ := lam_route_moves N) (fn := Tryz.f47) (c := c_route_moves) Tryz.func47 (by kernel_rfl) (by kernel_rfl) (obs_ok (l := []) (by kernel_rfl) obsNil) (by kernel_rfl) (by intro v; kernel_rfl)

noncomputable def c_cmp_isNaN_string : Code := match Tryz.f89.body with | some c => c | none => .skip
noncomputable def tab_cmp_isNaN_string (_ : Nat) : List (Nat × Ctr) := []
noncomputable def env_cmp_isNaN_string (N : Nat) : Env := mkEnv tyRows eqRows methRows [] [] (tab_cmp_isNaN_string N)
theorem envok_cmp_isNaN_string (N : Nat) : EnvOk Tryz.prog (env_cmp_isNaN_string N) := mkEnv_ok tyRows_ok eqRows_ok methRows_ok trivial
noncomputable def lam_cmp_isNaN_string (_ : Nat) : Lps := fun _ => none
noncomputable def ctr_cmp_isNaN_string (N : Nat) : Ctr := ctrOf .str .bool [] (fun v => cmp_isNaN_string N v)
theorem sound_cmp_isNaN_string (N : Nat) : SoundF Tryz.prog 89 (fun vs => (ctr_cmp_isNaN_string N).run vs some) :=
  fn_sound (envok_cmp_isNaN_string N) mixed (Λ := lam_cmp_isNaN_string N) (fn := Tryz.f89) (c := c_cmp_isNaN_string) Tryz.func89 (by kernel_rfl) (by kernel_rfl) (obs_ok (l := []) (by kernel_rfl) obsNil) (by kernel_rfl) (by intro v; kernel_rfl)

noncomputable def c_cmp_Less_string : Code := match Tryz.f81.body with | some c => c | none => .skip
noncomputable def tab_cmp_Less_string (N : Nat) : List (Nat × Ctr) := [(89, ctr_cmp_isNaN_string N)]
noncomputable def env_cmp_Less_string (N : Nat) : Env := mkEnv tyRows eqRows methRows [] [] (tab_cmp_Less_string N)
theorem envok_cmp_Less_string (N : Nat) : EnvOk Tryz.prog (env_cmp_Less_string N) := mkEnv_ok tyRows_ok eqRows_ok methRows_ok ⟨sound_cmp_isNaN_string N, trivial⟩
noncomputable def lam_cmp_Less_string (_ : Nat) : Lps := fun _ => none
noncomputable def ctr_cmp_Less_string (N : Nat) : Ctr := ctrOf (.cons .str .str) .bool [] (fun v => cmp_Less_string N v.1 v.2)
theorem sound_cmp_Less_string (N : Nat) : SoundF Tryz.prog 81 (fun vs => (ctr_cmp_Less_string N).run vs some) :=
  fn_sound (envok_cmp_Less_string N) mixed (Λ := lam_cmp_Less_string N) (fn := Tryz.f81) (c := c_cmp_Less_string) Tryz.func81 (by kernel_rfl) (by kernel_rfl) (obs_ok (l := []) (by kernel_rfl) obsNil) (by kernel_rfl) (by intro v; kernel_rfl)

noncomputable def c_slices_isNaN_string : Code := match Tryz.f82.body with | some c => c | none => .skip
noncomputable def tab_slices_isNaN_string (_ : Nat) : List (Nat × Ctr) := []
noncomputable def env_slices_isNaN_string (N : Nat) : Env := mkEnv tyRows eqRows methRows [] [] (tab_slices_isNaN_string N)
theorem envok_slices_isNaN_string (N : Nat) : EnvOk Tryz.prog (env_slices_isNaN_string N) := mkEnv_ok tyRows_ok eqRows_ok methRows_ok trivial
noncomputable def lam_slices_isNaN_string (_ : Nat) : Lps := fun _ => none
noncomputable def ctr_slices_isNaN_string (N : Nat) : Ctr := ctrOf .str .bool [] (fun v => slices_isNaN_string N v)
theorem sound_slices_isNaN_string (N : Nat) : SoundF Tryz.prog 82 (fun vs => (ctr_slices_isNaN_string N).run vs some) :=
  fn_sound (envok_slices_isNaN_string N) mixed (Λ := lam_slices_isNaN_string N) (fn := Tryz.f82) (c := c_slices_isNaN_string) Tryz.func82 (by kernel_rfl) (by kernel_rfl) (obs_ok (l := []) (by kernel_rfl) obsNil) (by kernel_rfl) (by intro v; kernel_rfl)

noncomputable def c_slices_BinarySearch_s_string_string : Code := match Tryz.f68.body with | some c => c | none => .skip
noncomputable def tab_slices_BinarySearch_s_string_string (N : Nat) : List (Nat × Ctr) := [(81, ctr_cmp_Less_string N), (82, ctr_slices_isNaN_string N)]
noncomputable def env_slices_BinarySearch_s_string_string (N : Nat) : Env := mkEnv tyRows eqRows methRows [] [] (tab_slices_BinarySearch_s_string_string N)
theorem envok_slices_BinarySearch_s_string_string (N : Nat) : EnvOk Tryz.prog (env_slices_BinarySearch_s_string_string N) := mkEnv_ok tyRows_ok eqRows_ok methRows_ok ⟨sound_cmp_Less_string N, ⟨sound_slices_isNaN_string N, trivial⟩⟩
noncomputable def cut_slices_BinarySearch_s_string_string_l0 : Cut := { tms := [0, 1, 6, 7, 8], sh := (.cons (.list .str) (.cons .str (.cons (.int .i64) (.cons (.int .i64) (.int .i64))))), objs := [], sts := [] }
noncomputable def cut_slices_BinarySearch_s_string_string_l0_o0 : Cut := { tms := [0, 1, 6, 7], sh := (.cons (.list .str) (.cons .str (.cons (.int .i64) (.int .i64)))), objs := [], sts := [] }
noncomputable def lp_slices_BinarySearch_s_string_string_l0 (N : Nat) : Lp := lpOf cut_slices_BinarySearch_s_string_string_l0 (2, cut_slices_BinarySearch_s_string_string_l0_o0) [] (fun v => slices_BinarySearch_s_string_string_l0 N N v.1.1 v.1.2.1 v.1.2.2.1 v.1.2.2.2.1 v.1.2.2.2.2)
noncomputable def lam_slices_BinarySearch_s_string_string_l0 (_ : Nat) : Lps := fun _ => none
theorem lpok_slices_BinarySearch_s_string_string_l0 (N : Nat) (ro : Option Nat) : LpOk Tryz.prog 54 ro (lp_slices_BinarySearch_s_string_string_l0 N) (codeAt c_slices_BinarySearch_s_string_string [true, true, true, false, false]) := by
  rw [show (codeAt c_slices_BinarySearch_s_string_string [true, true, true, false, false]) = .loop (codeAt c_slices_BinarySearch_s_string_string [true, true, true, false, false, false]) by kernel_rfl]
  exact loop_ok (envok_slices_BinarySearch_s_string_string N) mixed (Λ := lam_slices_BinarySearch_s_string_string_l0 N) (p := 120) (obs_ok (l := []) (by kernel_rfl) obsNil) (by kernel_rfl) (by intro rec v; kernel_rfl) N
noncomputable def lam_slices_BinarySearch_s_string_string (N : Nat) : Lps := fun p => bif Nat.beq p 60 then some (lp_slices_BinarySearch_s_string_string_l0 N) else none
noncomputable def ctr_slices_BinarySearch_s_string_string (N : Nat) : Ctr := ctrOf (.cons (.list .str) .str) (.tup (.cons (.int .i64) .bool)) [] (fun v => slices_BinarySearch_s_string_string N v.1 v.2)
theorem sound_slices_BinarySearch_s_string_string (N : Nat) : SoundF Tryz.prog 68 (fun vs => (ctr_slices_BinarySearch_s_string_string N).run vs some) :=
  fn_sound (envok_slices_BinarySearch_s_string_string N) mixed (Λ := lam_slices_BinarySearch_s_string_string N) (fn := Tryz.f68) (c := c_slices_BinarySearch_s_string_string) Tryz.func68 (by kernel_rfl) (by kernel_rfl) (obs_ok (l := [(lp_slices_BinarySearch_s_string_string_l0 N, (codeAt c_slices_BinarySearch_s_string_string [true, true, true, false, false]))]) (by kernel_rfl) (obsCons (lpok_slices_BinarySearch_s_string_string_l0 N none) obsNil)) (by kernel_rfl) (by intro v; kernel_rfl)

noncomputable def c_route_Kid : Code := match Tryz.f50.body with | some c => c | none => .skip
noncomputable def tab_route_Kid (N : Nat) : List (Nat × Ctr) := [(68, ctr_slices_BinarySearch_s_string_string N)]
noncomputable def env_route_Kid (N : Nat) : Env := mkEnv tyRows eqRows methRows [] [] (tab_route_Kid N)
theorem envok_route_Kid (N : Nat) : EnvOk Tryz.prog (env_route_Kid N) := mkEnv_ok tyRows_ok eqRows_ok methRows_ok ⟨sound_slices_BinarySearch_s_string_string N, trivial⟩
noncomputable def lam_route_Kid (_ : Nat) : Lps := fun _ => none
noncomputable def ctr_route_Kid (N : Nat) : Ctr := ctrOf (.cons .str (.list .str)) (.int .i64) [] (fun v => route_Kid N v.1 v.2)
theorem sound_route_Kid (N : Nat) : SoundF Tryz.prog 50 (fun vs => (ctr_route_Kid N).run vs some) :=
  fn_sound (envok_route_Kid N) mixed (Λ := lam_route_Kid N) (fn := Tryz.f50) (c := c_route_Kid) Tryz.func50 (by kernel_rfl) (by kernel_rfl) (obs_ok (l := []) (by kernel_rfl) obsNil) (by kernel_rfl) (by intro v; kernel_rfl)

noncomputable def c_cmp_isNaN_span_end : Code := match Tryz.f93.body with | some c => c | none => .skip
noncomputable def tab_cmp_isNaN_span_end (_ : Nat) : List (Nat × Ctr) := []
noncomputable def env_cmp_isNaN_span_end (N : Nat) : Env := mkEnv tyRows eqRows methRows [] [] (tab_cmp_isNaN_span_end N)
theorem envok_cmp_isNaN_span_end (N : Nat) : EnvOk Tryz.prog (env_cmp_isNaN_span_end N) := mkEnv_ok tyRows_ok eqRows_ok methRows_ok trivial
noncomputable def lam_cmp_isNaN_span_end (_ : Nat) : Lps := fun _ => none
noncomputable def ctr_cmp_isNaN_span_end (N : Nat) : Ctr := ctrOf .str .bool [] (fun v => cmp_isNaN_span_end N v)
theorem sound_cmp_isNaN_span_end (N : Nat) : SoundF Tryz.prog 93 (fun vs => (ctr_cmp_isNaN_span_end N).run vs some) :=
  fn_sound (envok_cmp_isNaN_span_end N) mixed (Λ := lam_cmp_isNaN_span_end N) (fn := Tryz.f93) (c := c_cmp_isNaN_span_end) Tryz.func93 (by kernel_rfl) (by kernel_rfl) (obs_ok (l := []) (by kernel_rfl) obsNil) (by kernel_rfl) (by intro v; kernel_rfl)

noncomputable def c_cmp_Compare_span_end : Code := match Tryz.f87.body with | some c => c | none => .skip
noncomputable def tab_cmp_Compare_span_end (N : Nat) : List (Nat × Ctr) := [(93, ctr_cmp_isNaN_span_end N)]
noncomputable def env_cmp_Compare_span_end (N : Nat) : Env := mkEnv tyRows eqRows methRows [] [] (tab_cmp_Compare_span_end N)
theorem envok_cmp_Compare_span_end (N : Nat) : EnvOk Tryz.prog (env_cmp_Compare_span_end N) := mkEnv_ok tyRows_ok eqRows_ok methRows_ok ⟨sound_cmp_isNaN_span_end N, trivial⟩
noncomputable def lam_cmp_Compare_span_end (_ : Nat) : Lps := fun _ => none
noncomputable def ctr_cmp_Compare_span_end (N : Nat) : Ctr := ctrOf (.cons .str .str) (.int .i64) [] (fun v => cmp_Compare_span_end N v.1 v.2)
theorem sound_cmp_Compare_span_end (N : Nat) : SoundF Tryz.prog 87 (fun vs => (ctr_cmp_Compare_span_end N).run vs some) :=
  fn_sound (envok_cmp_Compare_span_end N) mixed (Λ := lam_cmp_Compare_span_end N) (fn := Tryz.f87) (c := c_cmp_Compare_span_end) Tryz.func87 (by kernel_rfl) (by kernel_rfl) (obs_ok (l := []) (by kernel_rfl) obsNil) (by kernel_rfl) (by intro v; kernel_rfl)

noncomputable def c_span_end_compare : Code := match Tryz.f78.body with | some c => c | none => .skip
noncomputable def tab_span_end_compare (N : Nat) : List (Nat × Ctr) := [(87, ctr_cmp_Compare_span_end N)]
noncomputable def env_span_end_compare (N : Nat) : Env := mkEnv tyRows eqRows methRows [] [] (tab_span_end_compare N)
theorem envok_span_end_compare (N : Nat) : EnvOk Tryz.prog (env_span_end_compare N) := mkEnv_ok tyRows_ok eqRows_ok methRows_ok ⟨sound_cmp_Compare_span_end N, trivial⟩
noncomputable def lam_span_end_compare (_ : Nat) : Lps := fun _ => none
noncomputable def ctr_span_end_compare (N : Nat) : Ctr := ctrOf (.cons .str .str) (.int .i64) [] (fun v => span_end_compare N v.1 v.2)
theorem sound_span_end_compare (N : Nat) : SoundF Tryz.prog 78 (fun vs => (ctr_span_end_compare N).run vs some) :=
  fn_sound (envok_span_end_compare N) mixed (Λ := lam_span_end_compare N) (fn := Tryz.f78) (c := c_span_end_compare) Tryz.func78 (by kernel_rfl) (by kernel_rfl) (obs_ok (l := []) (by kernel_rfl) obsNil) (by kernel_rfl) (by intro v; kernel_rfl)

noncomputable def c_slices_MinFunc_s_span_end_span_end__span_end_compare : Code := match Tryz.f94.body with | some c => c | none => .skip
noncomputable def tab_slices_MinFunc_s_span_end_span_end__span_end_compare (N : Nat) : List (Nat × Ctr) := [(78, ctr_span_end_compare N)]
noncomputable def env_slices_MinFunc_s_span_end_span_end__span_end_compare (N : Nat) : Env := mkEnv tyRows eqRows methRows [] [] (tab_slices_MinFunc_s_span_end_span_end__span_end_compare N)
theorem envok_slices_MinFunc_s_span_end_span_end__span_end_compare (N : Nat) : EnvOk Tryz.prog (env_slices_MinFunc_s_span_end_span_end__span_end_compare N) := mkEnv_ok tyRows_ok eqRows_ok methRows_ok ⟨sound_span_end_compare N, trivial⟩
noncomputable def cut_slices_MinFunc_s_span_end_span_end__span_end_compare_l0 : Cut := { tms := [0, 1, 5, 6], sh := (.cons (.list .str) (.cons (.clo 78 .nil) (.cons .str (.int .i64)))), objs := [], sts := [] }
noncomputable def cut_slices_MinFunc_s_span_end_span_end__span_end_compare_l0_o0 : Cut := { tms := [5], sh := .str, objs := [], sts := [] }
noncomputable def lp_slices_MinFunc_s_span_end_span_end__span_end_compare_l0 (N : Nat) : Lp := lpOf cut_slices_MinFunc_s_span_end_span_end__span_end_compare_l0 (2, cut_slices_MinFunc_s_span_end_span_end__span_end_compare_l0_o0) [] (fun v => slices_MinFunc_s_span_end_span_end__span_end_compare_l0 N N v.1.1 v.1.2.2.1 v.1.2.2.2)
noncomputable def lam_slices_MinFunc_s_span_end_span_end__span_end_compare_l0 (_ : Nat) : Lps := fun _ => none
theorem lpok_slices_MinFunc_s_span_end_span_end__span_end_compare_l0 (N : Nat) (ro : Option Nat) : LpOk Tryz.prog 33 ro (lp_slices_MinFunc_s_span_end_span_end__span_end_compare_l0 N) (codeAt c_slices_MinFunc_s_span_end_span_end__span_end_compare [true, true, true, false, true, false]) := by
  rw [show (codeAt c_slices_MinFunc_s_span_end_span_end__span_end_compare [true, true, true, false, true, false]) = .loop (codeAt c_slices_MinFunc_s_span_end_span_end__span_end_compare [true, true, true, false, true, false, false]) by kernel_rfl]
  exact loop_ok (envok_slices_MinFunc_s_span_end_span_end__span_end_compare N) mixed (Λ := lam_slices_MinFunc_s_span_end_span_end__span_end_compare_l0 N) (p := 244) (obs_ok (l := []) (by kernel_rfl) obsNil) (by kernel_rfl) (by intro rec v; kernel_rfl) N
noncomputable def lam_slices_MinFunc_s_span_end_span_end__span_end_compare (N : Nat) : Lps := fun p => bif Nat.beq p 122 then some (lp_slices_MinFunc_s_span_end_span_end__span_end_compare_l0 N) else none
noncomputable def ctr_slices_MinFunc_s_span_end_span_end__span_end_compare (N : Nat) : Ctr := ctrOf (.cons (.list .str) (.clo 78 .nil)) .str [] (fun v => slices_MinFunc_s_span_end_span_end__span_end_compare N v.1)
theorem sound_slices_MinFunc_s_span_end_span_end__span_end_compare (N : Nat) : SoundF Tryz.prog 94 (fun vs => (ctr_slices_MinFunc_s_span_end_span_end__span_end_compare N).run vs some) :=
  fn_sound (envok_slices_MinFunc_s_span_end_span_end__span_end_compare N) mixed (Λ := lam_slices_MinFunc_s_span_end_span_end__span_end_compare N) (fn := Tryz.f94) (c := c_slices_MinFunc_s_span_end_span_end__span_end_compare) Tryz.func94 (by kernel_rfl) (by kernel_rfl) (obs_ok (l := [(lp_slices_MinFunc_s_span_end_span_end__span_end_compare_l0 N, (codeAt c_slices_MinFunc_s_span_end_span_end__span_end_compare [true, true, true, false, true, false]))]) (by kernel_rfl) (obsCons (lpok_slices_MinFunc_s_span_end_span_end__span_end_compare_l0 N none) obsNil)) (by kernel_rfl) (by intro v; kernel_rfl)

noncomputable def c_span_least : Code := match Tryz.f88.body with | some c => c | none => .skip
noncomputable def tab_span_least (N : Nat) : List (Nat × Ctr) := [(94, ctr_slices_MinFunc_s_span_end_span_end__span_end_compare N)]
noncomputable def env_span_least (N : Nat) : Env := mkEnv tyRows eqRows methRows [] [] (tab_span_least N)
theorem envok_span_least (N : Nat) : EnvOk Tryz.prog (env_span_least N) := mkEnv_ok tyRows_ok eqRows_ok methRows_ok ⟨sound_slices_MinFunc_s_span_end_span_end__span_end_compare N, trivial⟩
noncomputable def lam_span_least (_ : Nat) : Lps := fun _ => none
noncomputable def ctr_span_least (N : Nat) : Ctr := ctrOf (.list .str) .str [] (fun v => span_least N v)
theorem sound_span_least (N : Nat) : SoundF Tryz.prog 88 (fun vs => (ctr_span_least N).run vs some) :=
  fn_sound (envok_span_least N) mixed (Λ := lam_span_least N) (fn := Tryz.f88) (c := c_span_least) Tryz.func88 (by kernel_rfl) (by kernel_rfl) (obs_ok (l := []) (by kernel_rfl) obsNil) (by kernel_rfl) (by intro v; kernel_rfl)

noncomputable def c_span_Empty : Code := match Tryz.f59.body with | some c => c | none => .skip
noncomputable def tab_span_Empty (_ : Nat) : List (Nat × Ctr) := []
noncomputable def env_span_Empty (N : Nat) : Env := mkEnv tyRows eqRows methRows [] [] (tab_span_Empty N)
theorem envok_span_Empty (N : Nat) : EnvOk Tryz.prog (env_span_Empty N) := mkEnv_ok tyRows_ok eqRows_ok methRows_ok trivial
noncomputable def lam_span_Empty (_ : Nat) : Lps := fun _ => none
noncomputable def ctr_span_Empty (N : Nat) : Ctr := ctrOf (.val T_api_Span) .bool [] (fun v => span_Empty N v)
theorem sound_span_Empty (N : Nat) : SoundF Tryz.prog 59 (fun vs => (ctr_span_Empty N).run vs some) :=
  fn_sound (envok_span_Empty N) mixed (Λ := lam_span_Empty N) (fn := Tryz.f59) (c := c_span_Empty) Tryz.func59 (by kernel_rfl) (by kernel_rfl) (obs_ok (l := []) (by kernel_rfl) obsNil) (by kernel_rfl) (by intro v; kernel_rfl)

noncomputable def c_span_Meet : Code := match Tryz.f80.body with | some c => c | none => .skip
noncomputable def tab_span_Meet (N : Nat) : List (Nat × Ctr) := [(88, ctr_span_least N), (59, ctr_span_Empty N)]
noncomputable def env_span_Meet (N : Nat) : Env := mkEnv tyRows eqRows methRows [] [] (tab_span_Meet N)
theorem envok_span_Meet (N : Nat) : EnvOk Tryz.prog (env_span_Meet N) := mkEnv_ok tyRows_ok eqRows_ok methRows_ok ⟨sound_span_least N, ⟨sound_span_Empty N, trivial⟩⟩
noncomputable def lam_span_Meet (_ : Nat) : Lps := fun _ => none
noncomputable def ctr_span_Meet (N : Nat) : Ctr := ctrOf (.cons (.val T_api_Span) (.val T_api_Span)) (.val T_api_Span) [] (fun v => span_Meet N v.1 v.2)
theorem sound_span_Meet (N : Nat) : SoundF Tryz.prog 80 (fun vs => (ctr_span_Meet N).run vs some) :=
  fn_sound (envok_span_Meet N) mixed (Λ := lam_span_Meet N) (fn := Tryz.f80) (c := c_span_Meet) Tryz.func80 (by kernel_rfl) (by kernel_rfl) (obs_ok (l := []) (by kernel_rfl) obsNil) (by kernel_rfl) (by intro v; kernel_rfl)

noncomputable def c_span_Parts : Code := match Tryz.f67.body with | some c => c | none => .skip
noncomputable def tab_span_Parts (N : Nat) : List (Nat × Ctr) := [(80, ctr_span_Meet N)]
noncomputable def env_span_Parts (N : Nat) : Env := mkEnv tyRows eqRows methRows [] [] (tab_span_Parts N)
theorem envok_span_Parts (N : Nat) : EnvOk Tryz.prog (env_span_Parts N) := mkEnv_ok tyRows_ok eqRows_ok methRows_ok ⟨sound_span_Meet N, trivial⟩
noncomputable def cut_span_Parts_l0 : Cut := { tms := [2, 5, 6, 9, 10, 11], sh := (.cons (.ptr 2000000 0) (.cons (.own 2000001) (.cons .str (.cons (.list .str) (.cons (.int .i64) (.int .i64)))))), objs := [(2000000, [2], .box (.cons .str .str)), (2000001, [5], .sl T_api_Span)], sts := [] }
noncomputable def cut_span_Parts_l0_o0 : Cut := { tms := [2, 5, 6], sh := (.cons (.ptr 2000000 0) (.cons (.own 2000001) .str)), objs := [(2000000, [2], .box (.cons .str .str)), (2000001, [5], .sl T_api_Span)], sts := [] }
noncomputable def lp_span_Parts_l0 (N : Nat) : Lp := lpOf cut_span_Parts_l0 (2, cut_span_Parts_l0_o0) [] (fun v => span_Parts_l0 N N v.1.2.2.1 v.1.2.2.2.1 v.1.2.2.2.2.1 v.1.2.2.2.2.2 v.2.1.1 v.2.1.2 v.2.2.1)
noncomputable def lam_span_Parts_l0 (_ : Nat) : Lps := fun _ => none
theorem lpok_span_Parts_l0 (N : Nat) (ro : Option Nat) : LpOk Tryz.prog 32 ro (lp_span_Parts_l0 N) (codeAt c_span_Parts [true, true, true, false, true, false]) := by
  rw [show (codeAt c_span_Parts [true, true, true, false, true, false]) = .loop (codeAt c_span_Parts [true, true, true, false, true, false, false]) by kernel_rfl]
  exact loop_ok (envok_span_Parts N) mixed (Λ := lam_span_Parts_l0 N) (p := 244) (obs_ok (l := []) (by kernel_rfl) obsNil) (by kernel_rfl) (by intro rec v; kernel_rfl) N
noncomputable def lam_span_Parts (N : Nat) : Lps := fun p => bif Nat.beq p 122 then some (lp_span_Parts_l0 N) else none
noncomputable def ctr_span_Parts (N : Nat) : Ctr := ctrOf (.cons (.val T_api_Span) (.list .str)) (.fresh T_api_Span) [] (fun v => span_Parts N v.1 v.2)
theorem sound_span_Parts (N : Nat) : SoundF Tryz.prog 67 (fun vs => (ctr_span_Parts N).run vs some) :=
  fn_sound (envok_span_Parts N) mixed (Λ := lam_span_Parts N) (fn := Tryz.f67) (c := c_span_Parts) Tryz.func67 (by kernel_rfl) (by kernel_rfl) (obs_ok (l := [(lp_span_Parts_l0 N, (codeAt c_span_Parts [true, true, true, false, true, false]))]) (by kernel_rfl) (obsCons (lpok_span_Parts_l0 N none) obsNil)) (by kernel_rfl) (by intro v; kernel_rfl)

noncomputable def c_route_area : Code := match Tryz.f49.body with | some c => c | none => .skip
noncomputable def tab_route_area (N : Nat) : List (Nat × Ctr) := [(67, ctr_span_Parts N)]
noncomputable def env_route_area (N : Nat) : Env := mkEnv tyRows eqRows methRows [] [] (tab_route_area N)
theorem envok_route_area (N : Nat) : EnvOk Tryz.prog (env_route_area N) := mkEnv_ok tyRows_ok eqRows_ok methRows_ok ⟨sound_span_Parts N, trivial⟩
noncomputable def lam_route_area (_ : Nat) : Lps := fun _ => none
noncomputable def ctr_route_area (N : Nat) : Ctr := ctrOf (.cons (.list .str) (.int .i64)) (.val T_api_Span) [] (fun v => route_area N v.1 v.2)
theorem sound_route_area (N : Nat) : SoundF Tryz.prog 49 (fun vs => (ctr_route_area N).run vs some) :=
  fn_sound (envok_route_area N) mixed (Λ := lam_route_area N) (fn := Tryz.f49) (c := c_route_area) Tryz.func49 (by kernel_rfl) (by kernel_rfl) (obs_ok (l := []) (by kernel_rfl) obsNil) (by kernel_rfl) (by intro v; kernel_rfl)

noncomputable def c_msg_of : Code := match Tryz.f45.body with | some c => c | none => .skip
noncomputable def tab_msg_of (_ : Nat) : List (Nat × Ctr) := []
noncomputable def env_msg_of (N : Nat) : Env := mkEnv tyRows eqRows methRows [] [] (tab_msg_of N)
theorem envok_msg_of (N : Nat) : EnvOk Tryz.prog (env_msg_of N) := mkEnv_ok tyRows_ok eqRows_ok methRows_ok trivial
noncomputable def lam_msg_of (_ : Nat) : Lps := fun _ => none
noncomputable def ctr_msg_of (N : Nat) : Ctr := ctrOf (.val T_api_Msg) (.iface 91 (.val T_api_Msg)) [(.iface 92 (.val T_api_Msg)), (.iface 93 (.val T_api_Msg)), (.iface 94 (.val T_api_Msg)), (.iface 95 (.val T_api_Msg)), (.iface 96 (.val T_api_Msg)), .nili] (fun v => msg_of N v)
theorem sound_msg_of (N : Nat) : SoundF Tryz.prog 45 (fun vs => (ctr_msg_of N).run vs some) :=
  fn_sound (envok_msg_of N) mixed (Λ := lam_msg_of N) (fn := Tryz.f45) (c := c_msg_of) Tryz.func45 (by kernel_rfl) (by kernel_rfl) (obs_ok (l := []) (by kernel_rfl) obsNil) (by kernel_rfl) (by intro v; kernel_rfl)

noncomputable def c_msg_put_reads : Code := match Tryz.f113.body with | some c => c | none => .skip
noncomputable def tab_msg_put_reads (_ : Nat) : List (Nat × Ctr) := []
noncomputable def env_msg_put_reads (N : Nat) : Env := mkEnv tyRows eqRows methRows [] [] (tab_msg_put_reads N)
theorem envok_msg_put_reads (N : Nat) : EnvOk Tryz.prog (env_msg_put_reads N) := mkEnv_ok tyRows_ok eqRows_ok methRows_ok trivial
noncomputable def lam_msg_put_reads (_ : Nat) : Lps := fun _ => none
noncomputable def ctr_msg_put_reads (N : Nat) : Ctr := ctrOf (.val T_api_Msg) (.fresh T_api_Span) [] (fun v => msg_put_reads N v)
theorem sound_msg_put_reads (N : Nat) : SoundF Tryz.prog 113 (fun vs => (ctr_msg_put_reads N).run vs some) :=
  fn_sound (envok_msg_put_reads N) mixed (Λ := lam_msg_put_reads N) (fn := Tryz.f113) (c := c_msg_put_reads) Tryz.func113 (by kernel_rfl) (by kernel_rfl) (obs_ok (l := []) (by kernel_rfl) obsNil) (by kernel_rfl) (by intro v; kernel_rfl)

noncomputable def c_msg_del_reads : Code := match Tryz.f127.body with | some c => c | none => .skip
noncomputable def tab_msg_del_reads (_ : Nat) : List (Nat × Ctr) := []
noncomputable def env_msg_del_reads (N : Nat) : Env := mkEnv tyRows eqRows methRows [] [] (tab_msg_del_reads N)
theorem envok_msg_del_reads (N : Nat) : EnvOk Tryz.prog (env_msg_del_reads N) := mkEnv_ok tyRows_ok eqRows_ok methRows_ok trivial
noncomputable def lam_msg_del_reads (_ : Nat) : Lps := fun _ => none
noncomputable def ctr_msg_del_reads (N : Nat) : Ctr := ctrOf (.val T_api_Msg) (.fresh T_api_Span) [] (fun v => msg_del_reads N v)
theorem sound_msg_del_reads (N : Nat) : SoundF Tryz.prog 127 (fun vs => (ctr_msg_del_reads N).run vs some) :=
  fn_sound (envok_msg_del_reads N) mixed (Λ := lam_msg_del_reads N) (fn := Tryz.f127) (c := c_msg_del_reads) Tryz.func127 (by kernel_rfl) (by kernel_rfl) (obs_ok (l := []) (by kernel_rfl) obsNil) (by kernel_rfl) (by intro v; kernel_rfl)

noncomputable def c_msg_drop_reads : Code := match Tryz.f137.body with | some c => c | none => .skip
noncomputable def tab_msg_drop_reads (_ : Nat) : List (Nat × Ctr) := []
noncomputable def env_msg_drop_reads (N : Nat) : Env := mkEnv tyRows eqRows methRows [] [] (tab_msg_drop_reads N)
theorem envok_msg_drop_reads (N : Nat) : EnvOk Tryz.prog (env_msg_drop_reads N) := mkEnv_ok tyRows_ok eqRows_ok methRows_ok trivial
noncomputable def lam_msg_drop_reads (_ : Nat) : Lps := fun _ => none
noncomputable def ctr_msg_drop_reads (N : Nat) : Ctr := ctrOf (.val T_api_Msg) (.fresh T_api_Span) [] (fun v => msg_drop_reads N v)
theorem sound_msg_drop_reads (N : Nat) : SoundF Tryz.prog 137 (fun vs => (ctr_msg_drop_reads N).run vs some) :=
  fn_sound (envok_msg_drop_reads N) mixed (Λ := lam_msg_drop_reads N) (fn := Tryz.f137) (c := c_msg_drop_reads) Tryz.func137 (by kernel_rfl) (by kernel_rfl) (obs_ok (l := []) (by kernel_rfl) obsNil) (by kernel_rfl) (by intro v; kernel_rfl)

noncomputable def c_msg_move_reads : Code := match Tryz.f143.body with | some c => c | none => .skip
noncomputable def tab_msg_move_reads (N : Nat) : List (Nat × Ctr) := [(52, ctr_span_Prefix N)]
noncomputable def env_msg_move_reads (N : Nat) : Env := mkEnv tyRows eqRows methRows [] [] (tab_msg_move_reads N)
theorem envok_msg_move_reads (N : Nat) : EnvOk Tryz.prog (env_msg_move_reads N) := mkEnv_ok tyRows_ok eqRows_ok methRows_ok ⟨sound_span_Prefix N, trivial⟩
noncomputable def lam_msg_move_reads (_ : Nat) : Lps := fun _ => none
noncomputable def ctr_msg_move_reads (N : Nat) : Ctr := ctrOf (.val T_api_Msg) (.fresh T_api_Span) [] (fun v => msg_move_reads N v)
theorem sound_msg_move_reads (N : Nat) : SoundF Tryz.prog 143 (fun vs => (ctr_msg_move_reads N).run vs some) :=
  fn_sound (envok_msg_move_reads N) mixed (Λ := lam_msg_move_reads N) (fn := Tryz.f143) (c := c_msg_move_reads) Tryz.func143 (by kernel_rfl) (by kernel_rfl) (obs_ok (l := []) (by kernel_rfl) obsNil) (by kernel_rfl) (by intro v; kernel_rfl)

noncomputable def c_msg_clone_reads : Code := match Tryz.f151.body with | some c => c | none => .skip
noncomputable def tab_msg_clone_reads (N : Nat) : List (Nat × Ctr) := [(52, ctr_span_Prefix N)]
noncomputable def env_msg_clone_reads (N : Nat) : Env := mkEnv tyRows eqRows methRows [] [] (tab_msg_clone_reads N)
theorem envok_msg_clone_reads (N : Nat) : EnvOk Tryz.prog (env_msg_clone_reads N) := mkEnv_ok tyRows_ok eqRows_ok methRows_ok ⟨sound_span_Prefix N, trivial⟩
noncomputable def lam_msg_clone_reads (_ : Nat) : Lps := fun _ => none
noncomputable def ctr_msg_clone_reads (N : Nat) : Ctr := ctrOf (.val T_api_Msg) (.fresh T_api_Span) [] (fun v => msg_clone_reads N v)
theorem sound_msg_clone_reads (N : Nat) : SoundF Tryz.prog 151 (fun vs => (ctr_msg_clone_reads N).run vs some) :=
  fn_sound (envok_msg_clone_reads N) mixed (Λ := lam_msg_clone_reads N) (fn := Tryz.f151) (c := c_msg_clone_reads) Tryz.func151 (by kernel_rfl) (by kernel_rfl) (obs_ok (l := []) (by kernel_rfl) obsNil) (by kernel_rfl) (by intro v; kernel_rfl)

noncomputable def c_msg_stamp_reads : Code := match Tryz.f157.body with | some c => c | none => .skip
noncomputable def tab_msg_stamp_reads (_ : Nat) : List (Nat × Ctr) := []
noncomputable def env_msg_stamp_reads (N : Nat) : Env := mkEnv tyRows eqRows methRows [] [] (tab_msg_stamp_reads N)
theorem envok_msg_stamp_reads (N : Nat) : EnvOk Tryz.prog (env_msg_stamp_reads N) := mkEnv_ok tyRows_ok eqRows_ok methRows_ok trivial
noncomputable def lam_msg_stamp_reads (_ : Nat) : Lps := fun _ => none
noncomputable def ctr_msg_stamp_reads (N : Nat) : Ctr := ctrOf (.val T_api_Msg) (.fresh T_api_Span) [] (fun v => msg_stamp_reads N v)
theorem sound_msg_stamp_reads (N : Nat) : SoundF Tryz.prog 157 (fun vs => (ctr_msg_stamp_reads N).run vs some) :=
  fn_sound (envok_msg_stamp_reads N) mixed (Λ := lam_msg_stamp_reads N) (fn := Tryz.f157) (c := c_msg_stamp_reads) Tryz.func157 (by kernel_rfl) (by kernel_rfl) (obs_ok (l := []) (by kernel_rfl) obsNil) (by kernel_rfl) (by intro v; kernel_rfl)

noncomputable def c_msg_Reads : Code := match Tryz.f65.body with | some c => c | none => .skip
noncomputable def tab_msg_Reads (N : Nat) : List (Nat × Ctr) := [(45, ctr_msg_of N), (113, ctr_msg_put_reads N), (127, ctr_msg_del_reads N), (137, ctr_msg_drop_reads N), (143, ctr_msg_move_reads N), (151, ctr_msg_clone_reads N), (157, ctr_msg_stamp_reads N)]
noncomputable def env_msg_Reads (N : Nat) : Env := mkEnv tyRows eqRows methRows [] [] (tab_msg_Reads N)
theorem envok_msg_Reads (N : Nat) : EnvOk Tryz.prog (env_msg_Reads N) := mkEnv_ok tyRows_ok eqRows_ok methRows_ok ⟨sound_msg_of N, ⟨sound_msg_put_reads N, ⟨sound_msg_del_reads N, ⟨sound_msg_drop_reads N, ⟨sound_msg_move_reads N, ⟨sound_msg_clone_reads N, ⟨sound_msg_stamp_reads N, trivial⟩⟩⟩⟩⟩⟩⟩
noncomputable def lam_msg_Reads (_ : Nat) : Lps := fun _ => none
noncomputable def ctr_msg_Reads (N : Nat) : Ctr := ctrOf (.val T_api_Msg) (.fresh T_api_Span) [] (fun v => msg_Reads N v)
theorem sound_msg_Reads (N : Nat) : SoundF Tryz.prog 65 (fun vs => (ctr_msg_Reads N).run vs some) :=
  fn_sound (envok_msg_Reads N) mixed (Λ := lam_msg_Reads N) (fn := Tryz.f65) (c := c_msg_Reads) Tryz.func65 (by kernel_rfl) (by kernel_rfl) (obs_ok (l := []) (by kernel_rfl) obsNil) (by kernel_rfl) (by intro v; kernel_rfl)

noncomputable def c_span_Has : Code := match Tryz.f77.body with | some c => c | none => .skip
noncomputable def tab_span_Has (_ : Nat) : List (Nat × Ctr) := []
noncomputable def env_span_Has (N : Nat) : Env := mkEnv tyRows eqRows methRows [] [] (tab_span_Has N)
theorem envok_span_Has (N : Nat) : EnvOk Tryz.prog (env_span_Has N) := mkEnv_ok tyRows_ok eqRows_ok methRows_ok trivial
noncomputable def lam_span_Has (_ : Nat) : Lps := fun _ => none
noncomputable def ctr_span_Has (N : Nat) : Ctr := ctrOf (.cons (.val T_api_Span) .str) .bool [] (fun v => span_Has N v.1 v.2)
theorem sound_span_Has (N : Nat) : SoundF Tryz.prog 77 (fun vs => (ctr_span_Has N).run vs some) :=
  fn_sound (envok_span_Has N) mixed (Λ := lam_span_Has N) (fn := Tryz.f77) (c := c_span_Has) Tryz.func77 (by kernel_rfl) (by kernel_rfl) (obs_ok (l := []) (by kernel_rfl) obsNil) (by kernel_rfl) (by intro v; kernel_rfl)

noncomputable def c_span_Covers : Code := match Tryz.f63.body with | some c => c | none => .skip
noncomputable def tab_span_Covers (N : Nat) : List (Nat × Ctr) := [(59, ctr_span_Empty N), (77, ctr_span_Has N), (78, ctr_span_end_compare N)]
noncomputable def env_span_Covers (N : Nat) : Env := mkEnv tyRows eqRows methRows [] [] (tab_span_Covers N)
theorem envok_span_Covers (N : Nat) : EnvOk Tryz.prog (env_span_Covers N) := mkEnv_ok tyRows_ok eqRows_ok methRows_ok ⟨sound_span_Empty N, ⟨sound_span_Has N, ⟨sound_span_end_compare N, trivial⟩⟩⟩
noncomputable def lam_span_Covers (_ : Nat) : Lps := fun _ => none
noncomputable def ctr_span_Covers (N : Nat) : Ctr := ctrOf (.cons (.val T_api_Span) (.val T_api_Span)) .bool [] (fun v => span_Covers N v.1 v.2)
theorem sound_span_Covers (N : Nat) : SoundF Tryz.prog 63 (fun vs => (ctr_span_Covers N).run vs some) :=
  fn_sound (envok_span_Covers N) mixed (Λ := lam_span_Covers N) (fn := Tryz.f63) (c := c_span_Covers) Tryz.func63 (by kernel_rfl) (by kernel_rfl) (obs_ok (l := []) (by kernel_rfl) obsNil) (by kernel_rfl) (by intro v; kernel_rfl)

noncomputable def c_route_lies_c1 : Code := match Tryz.f62.body with | some c => c | none => .skip
noncomputable def tab_route_lies_c1 (N : Nat) : List (Nat × Ctr) := [(63, ctr_span_Covers N)]
noncomputable def env_route_lies_c1 (N : Nat) : Env := mkEnv tyRows eqRows methRows [] [] (tab_route_lies_c1 N)
theorem envok_route_lies_c1 (N : Nat) : EnvOk Tryz.prog (env_route_lies_c1 N) := mkEnv_ok tyRows_ok eqRows_ok methRows_ok ⟨sound_span_Covers N, trivial⟩
noncomputable def lam_route_lies_c1 (_ : Nat) : Lps := fun _ => none
noncomputable def ctr_route_lies_c1 (N : Nat) : Ctr := ctrOf (.cons (.val T_api_Span) (.bx (.cons .str .str) 0)) .bool [] (fun v => route_lies_c1 N v.1 v.2.1 v.2.2)
theorem sound_route_lies_c1 (N : Nat) : SoundF Tryz.prog 62 (fun vs => (ctr_route_lies_c1 N).run vs some) :=
  fn_sound (envok_route_lies_c1 N) mixed (Λ := lam_route_lies_c1 N) (fn := Tryz.f62) (c := c_route_lies_c1) Tryz.func62 (by kernel_rfl) (by kernel_rfl) (obs_ok (l := []) (by kernel_rfl) obsNil) (by kernel_rfl) (by intro v; kernel_rfl)

noncomputable def c_slices_IndexFunc_s_api_Span_api_Span__route_lies_c1 : Code := match Tryz.f79.body with | some c => c | none => .skip
noncomputable def tab_slices_IndexFunc_s_api_Span_api_Span__route_lies_c1 (N : Nat) : List (Nat × Ctr) := [(62, ctr_route_lies_c1 N)]
noncomputable def env_slices_IndexFunc_s_api_Span_api_Span__route_lies_c1 (N : Nat) : Env := mkEnv tyRows eqRows methRows [] [] (tab_slices_IndexFunc_s_api_Span_api_Span__route_lies_c1 N)
theorem envok_slices_IndexFunc_s_api_Span_api_Span__route_lies_c1 (N : Nat) : EnvOk Tryz.prog (env_slices_IndexFunc_s_api_Span_api_Span__route_lies_c1 N) := mkEnv_ok tyRows_ok eqRows_ok methRows_ok ⟨sound_route_lies_c1 N, trivial⟩
noncomputable def cut_slices_IndexFunc_s_api_Span_api_Span__route_lies_c1_l0 : Cut := { tms := [0, 1, 7, 8], sh := (.cons (.list T_api_Span) (.cons (.clo 62 (.bx (.cons .str .str) 0)) (.cons (.int .i64) (.int .i64)))), objs := [], sts := [] }
noncomputable def cut_slices_IndexFunc_s_api_Span_api_Span__route_lies_c1_l0_o0 : Cut := { tms := [4], sh := (.int .i64), objs := [], sts := [] }
noncomputable def cut_slices_IndexFunc_s_api_Span_api_Span__route_lies_c1_l0_o1 : Cut := { tms := [], sh := .nil, objs := [], sts := [] }
noncomputable def lp_slices_IndexFunc_s_api_Span_api_Span__route_lies_c1_l0 (N : Nat) : Lp := lpOf cut_slices_IndexFunc_s_api_Span_api_Span__route_lies_c1_l0 (1, cut_slices_IndexFunc_s_api_Span_api_Span__route_lies_c1_l0_o0) [(2, cut_slices_IndexFunc_s_api_Span_api_Span__route_lies_c1_l0_o1)] (fun v => slices_IndexFunc_s_api_Span_api_Span__route_lies_c1_l0 N N v.1.1 v.1.2.1.1 v.1.2.1.2 v.1.2.2.1 v.1.2.2.2)
noncomputable def lam_slices_IndexFunc_s_api_Span_api_Span__route_lies_c1_l0 (_ : Nat) : Lps := fun _ => none
theorem lpok_slices_IndexFunc_s_api_Span_api_Span__route_lies_c1_l0 (N : Nat) (ro : Option Nat) : LpOk Tryz.prog 19 ro (lp_slices_IndexFunc_s_api_Span_api_Span__route_lies_c1_l0 N) (codeAt c_slices_IndexFunc_s_api_Span_api_Span__route_lies_c1 [true, false, true, false]) := by
  rw [show (codeAt c_slices_IndexFunc_s_api_Span_api_Span__route_lies_c1 [true, false, true, false]) = .loop (codeAt c_slices_IndexFunc_s_api_Span_api_Span__route_lies_c1 [true, false, true, false, false]) by kernel_rfl]
  exact loop_ok (envok_slices_IndexFunc_s_api_Span_api_Span__route_lies_c1 N) mixed (Λ := lam_slices_IndexFunc_s_api_Span_api_Span__route_lies_c1_l0 N) (p := 52) (obs_ok (l := []) (by kernel_rfl) obsNil) (by kernel_rfl) (by intro rec v; kernel_rfl) N
noncomputable def lam_slices_IndexFunc_s_api_Span_api_Span__route_lies_c1 (N : Nat) : Lps := fun p => bif Nat.beq p 26 then some (lp_slices_IndexFunc_s_api_Span_api_Span__route_lies_c1_l0 N) else none
noncomputable def ctr_slices_IndexFunc_s_api_Span_api_Span__route_lies_c1 (N : Nat) : Ctr := ctrOf (.cons (.list T_api_Span) (.clo 62 (.bx (.cons .str .str) 0))) (.int .i64) [] (fun v => slices_IndexFunc_s_api_Span_api_Span__route_lies_c1 N v.1 v.2.1 v.2.2)
theorem sound_slices_IndexFunc_s_api_Span_api_Span__route_lies_c1 (N : Nat) : SoundF Tryz.prog 79 (fun vs => (ctr_slices_IndexFunc_s_api_Span_api_Span__route_lies_c1 N).run vs some) :=
  fn_sound (envok_slices_IndexFunc_s_api_Span_api_Span__route_lies_c1 N) mixed (Λ := lam_slices_IndexFunc_s_api_Span_api_Span__route_lies_c1 N) (fn := Tryz.f79) (c := c_slices_IndexFunc_s_api_Span_api_Span__route_lies_c1) Tryz.func79 (by kernel_rfl) (by kernel_rfl) (obs_ok (l := [(lp_slices_IndexFunc_s_api_Span_api_Span__route_lies_c1_l0 N, (codeAt c_slices_IndexFunc_s_api_Span_api_Span__route_lies_c1 [true, false, true, false]))]) (by kernel_rfl) (obsCons (lpok_slices_IndexFunc_s_api_Span_api_Span__route_lies_c1_l0 N none) obsNil)) (by kernel_rfl) (by intro v; kernel_rfl)

noncomputable def c_slices_ContainsFunc_s_api_Span_api_Span__route_lies_c1 : Code := match Tryz.f64.body with | some c => c | none => .skip
noncomputable def tab_slices_ContainsFunc_s_api_Span_api_Span__route_lies_c1 (N : Nat) : List (Nat × Ctr) := [(79, ctr_slices_IndexFunc_s_api_Span_api_Span__route_lies_c1 N)]
noncomputable def env_slices_ContainsFunc_s_api_Span_api_Span__route_lies_c1 (N : Nat) : Env := mkEnv tyRows eqRows methRows [] [] (tab_slices_ContainsFunc_s_api_Span_api_Span__route_lies_c1 N)
theorem envok_slices_ContainsFunc_s_api_Span_api_Span__route_lies_c1 (N : Nat) : EnvOk Tryz.prog (env_slices_ContainsFunc_s_api_Span_api_Span__route_lies_c1 N) := mkEnv_ok tyRows_ok eqRows_ok methRows_ok ⟨sound_slices_IndexFunc_s_api_Span_api_Span__route_lies_c1 N, trivial⟩
noncomputable def lam_slices_ContainsFunc_s_api_Span_api_Span__route_lies_c1 (_ : Nat) : Lps := fun _ => none
noncomputable def ctr_slices_ContainsFunc_s_api_Span_api_Span__route_lies_c1 (N : Nat) : Ctr := ctrOf (.cons (.list T_api_Span) (.clo 62 (.bx (.cons .str .str) 0))) .bool [] (fun v => slices_ContainsFunc_s_api_Span_api_Span__route_lies_c1 N v.1 v.2.1 v.2.2)
theorem sound_slices_ContainsFunc_s_api_Span_api_Span__route_lies_c1 (N : Nat) : SoundF Tryz.prog 64 (fun vs => (ctr_slices_ContainsFunc_s_api_Span_api_Span__route_lies_c1 N).run vs some) :=
  fn_sound (envok_slices_ContainsFunc_s_api_Span_api_Span__route_lies_c1 N) mixed (Λ := lam_slices_ContainsFunc_s_api_Span_api_Span__route_lies_c1 N) (fn := Tryz.f64) (c := c_slices_ContainsFunc_s_api_Span_api_Span__route_lies_c1) Tryz.func64 (by kernel_rfl) (by kernel_rfl) (obs_ok (l := []) (by kernel_rfl) obsNil) (by kernel_rfl) (by intro v; kernel_rfl)

noncomputable def c_span_One : Code := match Tryz.f118.body with | some c => c | none => .skip
noncomputable def tab_span_One (_ : Nat) : List (Nat × Ctr) := []
noncomputable def env_span_One (N : Nat) : Env := mkEnv tyRows eqRows methRows [] [] (tab_span_One N)
theorem envok_span_One (N : Nat) : EnvOk Tryz.prog (env_span_One N) := mkEnv_ok tyRows_ok eqRows_ok methRows_ok trivial
noncomputable def lam_span_One (_ : Nat) : Lps := fun _ => none
noncomputable def ctr_span_One (N : Nat) : Ctr := ctrOf .str (.val T_api_Span) [] (fun v => span_One N v)
theorem sound_span_One (N : Nat) : SoundF Tryz.prog 118 (fun vs => (ctr_span_One N).run vs some) :=
  fn_sound (envok_span_One N) mixed (Λ := lam_span_One N) (fn := Tryz.f118) (c := c_span_One) Tryz.func118 (by kernel_rfl) (by kernel_rfl) (obs_ok (l := []) (by kernel_rfl) obsNil) (by kernel_rfl) (by intro v; kernel_rfl)

noncomputable def c_msg_put_writes : Code := match Tryz.f116.body with | some c => c | none => .skip
noncomputable def tab_msg_put_writes (N : Nat) : List (Nat × Ctr) := [(118, ctr_span_One N)]
noncomputable def env_msg_put_writes (N : Nat) : Env := mkEnv tyRows eqRows methRows [] [] (tab_msg_put_writes N)
theorem envok_msg_put_writes (N : Nat) : EnvOk Tryz.prog (env_msg_put_writes N) := mkEnv_ok tyRows_ok eqRows_ok methRows_ok ⟨sound_span_One N, trivial⟩
noncomputable def lam_msg_put_writes (_ : Nat) : Lps := fun _ => none
noncomputable def ctr_msg_put_writes (N : Nat) : Ctr := ctrOf (.val T_api_Msg) (.fresh T_api_Span) [] (fun v => msg_put_writes N v)
theorem sound_msg_put_writes (N : Nat) : SoundF Tryz.prog 116 (fun vs => (ctr_msg_put_writes N).run vs some) :=
  fn_sound (envok_msg_put_writes N) mixed (Λ := lam_msg_put_writes N) (fn := Tryz.f116) (c := c_msg_put_writes) Tryz.func116 (by kernel_rfl) (by kernel_rfl) (obs_ok (l := []) (by kernel_rfl) obsNil) (by kernel_rfl) (by intro v; kernel_rfl)

noncomputable def c_msg_del_writes : Code := match Tryz.f130.body with | some c => c | none => .skip
noncomputable def tab_msg_del_writes (N : Nat) : List (Nat × Ctr) := [(118, ctr_span_One N)]
noncomputable def env_msg_del_writes (N : Nat) : Env := mkEnv tyRows eqRows methRows [] [] (tab_msg_del_writes N)
theorem envok_msg_del_writes (N : Nat) : EnvOk Tryz.prog (env_msg_del_writes N) := mkEnv_ok tyRows_ok eqRows_ok methRows_ok ⟨sound_span_One N, trivial⟩
noncomputable def lam_msg_del_writes (_ : Nat) : Lps := fun _ => none
noncomputable def ctr_msg_del_writes (N : Nat) : Ctr := ctrOf (.val T_api_Msg) (.fresh T_api_Span) [] (fun v => msg_del_writes N v)
theorem sound_msg_del_writes (N : Nat) : SoundF Tryz.prog 130 (fun vs => (ctr_msg_del_writes N).run vs some) :=
  fn_sound (envok_msg_del_writes N) mixed (Λ := lam_msg_del_writes N) (fn := Tryz.f130) (c := c_msg_del_writes) Tryz.func130 (by kernel_rfl) (by kernel_rfl) (obs_ok (l := []) (by kernel_rfl) obsNil) (by kernel_rfl) (by intro v; kernel_rfl)

noncomputable def c_msg_drop_writes : Code := match Tryz.f140.body with | some c => c | none => .skip
noncomputable def tab_msg_drop_writes (_ : Nat) : List (Nat × Ctr) := []
noncomputable def env_msg_drop_writes (N : Nat) : Env := mkEnv tyRows eqRows methRows [] [] (tab_msg_drop_writes N)
theorem envok_msg_drop_writes (N : Nat) : EnvOk Tryz.prog (env_msg_drop_writes N) := mkEnv_ok tyRows_ok eqRows_ok methRows_ok trivial
noncomputable def lam_msg_drop_writes (_ : Nat) : Lps := fun _ => none
noncomputable def ctr_msg_drop_writes (N : Nat) : Ctr := ctrOf (.val T_api_Msg) (.fresh T_api_Span) [] (fun v => msg_drop_writes N v)
theorem sound_msg_drop_writes (N : Nat) : SoundF Tryz.prog 140 (fun vs => (ctr_msg_drop_writes N).run vs some) :=
  fn_sound (envok_msg_drop_writes N) mixed (Λ := lam_msg_drop_writes N) (fn := Tryz.f140) (c := c_msg_drop_writes) Tryz.func140 (by kernel_rfl) (by kernel_rfl) (obs_ok (l := []) (by kernel_rfl) obsNil) (by kernel_rfl) (by intro v; kernel_rfl)

noncomputable def c_msg_move_writes : Code := match Tryz.f146.body with | some c => c | none => .skip
noncomputable def tab_msg_move_writes (N : Nat) : List (Nat × Ctr) := [(52, ctr_span_Prefix N)]
noncomputable def env_msg_move_writes (N : Nat) : Env := mkEnv tyRows eqRows methRows [] [] (tab_msg_move_writes N)
theorem envok_msg_move_writes (N : Nat) : EnvOk Tryz.prog (env_msg_move_writes N) := mkEnv_ok tyRows_ok eqRows_ok methRows_ok ⟨sound_span_Prefix N, trivial⟩
noncomputable def lam_msg_move_writes (_ : Nat) : Lps := fun _ => none
noncomputable def ctr_msg_move_writes (N : Nat) : Ctr := ctrOf (.val T_api_Msg) (.fresh T_api_Span) [] (fun v => msg_move_writes N v)
theorem sound_msg_move_writes (N : Nat) : SoundF Tryz.prog 146 (fun vs => (ctr_msg_move_writes N).run vs some) :=
  fn_sound (envok_msg_move_writes N) mixed (Λ := lam_msg_move_writes N) (fn := Tryz.f146) (c := c_msg_move_writes) Tryz.func146 (by kernel_rfl) (by kernel_rfl) (obs_ok (l := []) (by kernel_rfl) obsNil) (by kernel_rfl) (by intro v; kernel_rfl)

noncomputable def c_msg_clone_writes : Code := match Tryz.f154.body with | some c => c | none => .skip
noncomputable def tab_msg_clone_writes (N : Nat) : List (Nat × Ctr) := [(52, ctr_span_Prefix N)]
noncomputable def env_msg_clone_writes (N : Nat) : Env := mkEnv tyRows eqRows methRows [] [] (tab_msg_clone_writes N)
theorem envok_msg_clone_writes (N : Nat) : EnvOk Tryz.prog (env_msg_clone_writes N) := mkEnv_ok tyRows_ok eqRows_ok methRows_ok ⟨sound_span_Prefix N, trivial⟩
noncomputable def lam_msg_clone_writes (_ : Nat) : Lps := fun _ => none
noncomputable def ctr_msg_clone_writes (N : Nat) : Ctr := ctrOf (.val T_api_Msg) (.fresh T_api_Span) [] (fun v => msg_clone_writes N v)
theorem sound_msg_clone_writes (N : Nat) : SoundF Tryz.prog 154 (fun vs => (ctr_msg_clone_writes N).run vs some) :=
  fn_sound (envok_msg_clone_writes N) mixed (Λ := lam_msg_clone_writes N) (fn := Tryz.f154) (c := c_msg_clone_writes) Tryz.func154 (by kernel_rfl) (by kernel_rfl) (obs_ok (l := []) (by kernel_rfl) obsNil) (by kernel_rfl) (by intro v; kernel_rfl)

noncomputable def c_msg_stamp_writes : Code := match Tryz.f160.body with | some c => c | none => .skip
noncomputable def tab_msg_stamp_writes (_ : Nat) : List (Nat × Ctr) := []
noncomputable def env_msg_stamp_writes (N : Nat) : Env := mkEnv tyRows eqRows methRows [] [] (tab_msg_stamp_writes N)
theorem envok_msg_stamp_writes (N : Nat) : EnvOk Tryz.prog (env_msg_stamp_writes N) := mkEnv_ok tyRows_ok eqRows_ok methRows_ok trivial
noncomputable def lam_msg_stamp_writes (_ : Nat) : Lps := fun _ => none
noncomputable def ctr_msg_stamp_writes (N : Nat) : Ctr := ctrOf (.val T_api_Msg) (.fresh T_api_Span) [] (fun v => msg_stamp_writes N v)
theorem sound_msg_stamp_writes (N : Nat) : SoundF Tryz.prog 160 (fun vs => (ctr_msg_stamp_writes N).run vs some) :=
  fn_sound (envok_msg_stamp_writes N) mixed (Λ := lam_msg_stamp_writes N) (fn := Tryz.f160) (c := c_msg_stamp_writes) Tryz.func160 (by kernel_rfl) (by kernel_rfl) (obs_ok (l := []) (by kernel_rfl) obsNil) (by kernel_rfl) (by intro v; kernel_rfl)

noncomputable def c_msg_Writes : Code := match Tryz.f66.body with | some c => c | none => .skip
noncomputable def tab_msg_Writes (N : Nat) : List (Nat × Ctr) := [(45, ctr_msg_of N), (116, ctr_msg_put_writes N), (130, ctr_msg_del_writes N), (140, ctr_msg_drop_writes N), (146, ctr_msg_move_writes N), (154, ctr_msg_clone_writes N), (160, ctr_msg_stamp_writes N)]
noncomputable def env_msg_Writes (N : Nat) : Env := mkEnv tyRows eqRows methRows [] [] (tab_msg_Writes N)
theorem envok_msg_Writes (N : Nat) : EnvOk Tryz.prog (env_msg_Writes N) := mkEnv_ok tyRows_ok eqRows_ok methRows_ok ⟨sound_msg_of N, ⟨sound_msg_put_writes N, ⟨sound_msg_del_writes N, ⟨sound_msg_drop_writes N, ⟨sound_msg_move_writes N, ⟨sound_msg_clone_writes N, ⟨sound_msg_stamp_writes N, trivial⟩⟩⟩⟩⟩⟩⟩
noncomputable def lam_msg_Writes (_ : Nat) : Lps := fun _ => none
noncomputable def ctr_msg_Writes (N : Nat) : Ctr := ctrOf (.val T_api_Msg) (.fresh T_api_Span) [] (fun v => msg_Writes N v)
theorem sound_msg_Writes (N : Nat) : SoundF Tryz.prog 66 (fun vs => (ctr_msg_Writes N).run vs some) :=
  fn_sound (envok_msg_Writes N) mixed (Λ := lam_msg_Writes N) (fn := Tryz.f66) (c := c_msg_Writes) Tryz.func66 (by kernel_rfl) (by kernel_rfl) (obs_ok (l := []) (by kernel_rfl) obsNil) (by kernel_rfl) (by intro v; kernel_rfl)

noncomputable def c_route_lies : Code := match Tryz.f48.body with | some c => c | none => .skip
noncomputable def tab_route_lies (N : Nat) : List (Nat × Ctr) := [(65, ctr_msg_Reads N), (64, ctr_slices_ContainsFunc_s_api_Span_api_Span__route_lies_c1 N), (66, ctr_msg_Writes N)]
noncomputable def env_route_lies (N : Nat) : Env := mkEnv tyRows eqRows methRows [] [] (tab_route_lies N)
theorem envok_route_lies (N : Nat) : EnvOk Tryz.prog (env_route_lies N) := mkEnv_ok tyRows_ok eqRows_ok methRows_ok ⟨sound_msg_Reads N, ⟨sound_slices_ContainsFunc_s_api_Span_api_Span__route_lies_c1 N, ⟨sound_msg_Writes N, trivial⟩⟩⟩
noncomputable def lam_route_lies (_ : Nat) : Lps := fun _ => none
noncomputable def ctr_route_lies (N : Nat) : Ctr := ctrOf (.cons (.val T_api_Msg) (.val T_api_Span)) .bool [] (fun v => route_lies N v.1 v.2)
theorem sound_route_lies (N : Nat) : SoundF Tryz.prog 48 (fun vs => (ctr_route_lies N).run vs some) :=
  fn_sound (envok_route_lies N) mixed (Λ := lam_route_lies N) (fn := Tryz.f48) (c := c_route_lies) Tryz.func48 (by kernel_rfl) (by kernel_rfl) (obs_ok (l := []) (by kernel_rfl) obsNil) (by kernel_rfl) (by intro v; kernel_rfl)

noncomputable def c_route_Crosses : Code := match Tryz.f30.body with | some c => c | none => .skip
noncomputable def tab_route_Crosses (N : Nat) : List (Nat × Ctr) := [(47, ctr_route_moves N), (50, ctr_route_Kid N), (49, ctr_route_area N), (48, ctr_route_lies N)]
noncomputable def env_route_Crosses (N : Nat) : Env := mkEnv tyRows eqRows methRows [] [] (tab_route_Crosses N)
theorem envok_route_Crosses (N : Nat) : EnvOk Tryz.prog (env_route_Crosses N) := mkEnv_ok tyRows_ok eqRows_ok methRows_ok ⟨sound_route_moves N, ⟨sound_route_Kid N, ⟨sound_route_area N, ⟨sound_route_lies N, trivial⟩⟩⟩⟩
noncomputable def lam_route_Crosses (_ : Nat) : Lps := fun _ => none
noncomputable def ctr_route_Crosses (N : Nat) : Ctr := ctrOf (.cons (.val T_api_Msg) (.list .str)) .bool [] (fun v => route_Crosses N v.1 v.2)
theorem sound_route_Crosses (N : Nat) : SoundF Tryz.prog 30 (fun vs => (ctr_route_Crosses N).run vs some) :=
  fn_sound (envok_route_Crosses N) mixed (Λ := lam_route_Crosses N) (fn := Tryz.f30) (c := c_route_Crosses) Tryz.func30 (by kernel_rfl) (by kernel_rfl) (obs_ok (l := []) (by kernel_rfl) obsNil) (by kernel_rfl) (by intro v; kernel_rfl)

noncomputable def c_settle_First_c1 : Code := match Tryz.f29.body with | some c => c | none => .skip
noncomputable def tab_settle_First_c1 (N : Nat) : List (Nat × Ctr) := [(30, ctr_route_Crosses N)]
noncomputable def env_settle_First_c1 (N : Nat) : Env := mkEnv tyRows eqRows methRows [] [] (tab_settle_First_c1 N)
theorem envok_settle_First_c1 (N : Nat) : EnvOk Tryz.prog (env_settle_First_c1 N) := mkEnv_ok tyRows_ok eqRows_ok methRows_ok ⟨sound_route_Crosses N, trivial⟩
noncomputable def lam_settle_First_c1 (_ : Nat) : Lps := fun _ => none
noncomputable def ctr_settle_First_c1 (N : Nat) : Ctr := ctrOf (.cons (.val T_api_Msg) (.bx (.list .str) 0)) .bool [] (fun v => settle_First_c1 N v.1 v.2)
theorem sound_settle_First_c1 (N : Nat) : SoundF Tryz.prog 29 (fun vs => (ctr_settle_First_c1 N).run vs some) :=
  fn_sound (envok_settle_First_c1 N) mixed (Λ := lam_settle_First_c1 N) (fn := Tryz.f29) (c := c_settle_First_c1) Tryz.func29 (by kernel_rfl) (by kernel_rfl) (obs_ok (l := []) (by kernel_rfl) obsNil) (by kernel_rfl) (by intro v; kernel_rfl)

noncomputable def c_slices_IndexFunc_s_api_Msg_api_Msg__settle_First_c1 : Code := match Tryz.f28.body with | some c => c | none => .skip
noncomputable def tab_slices_IndexFunc_s_api_Msg_api_Msg__settle_First_c1 (N : Nat) : List (Nat × Ctr) := [(29, ctr_settle_First_c1 N)]
noncomputable def env_slices_IndexFunc_s_api_Msg_api_Msg__settle_First_c1 (N : Nat) : Env := mkEnv tyRows eqRows methRows [] [] (tab_slices_IndexFunc_s_api_Msg_api_Msg__settle_First_c1 N)
theorem envok_slices_IndexFunc_s_api_Msg_api_Msg__settle_First_c1 (N : Nat) : EnvOk Tryz.prog (env_slices_IndexFunc_s_api_Msg_api_Msg__settle_First_c1 N) := mkEnv_ok tyRows_ok eqRows_ok methRows_ok ⟨sound_settle_First_c1 N, trivial⟩
noncomputable def cut_slices_IndexFunc_s_api_Msg_api_Msg__settle_First_c1_l0 : Cut := { tms := [0, 1, 7, 8], sh := (.cons (.list T_api_Msg) (.cons (.clo 29 (.bx (.list .str) 0)) (.cons (.int .i64) (.int .i64)))), objs := [], sts := [] }
noncomputable def cut_slices_IndexFunc_s_api_Msg_api_Msg__settle_First_c1_l0_o0 : Cut := { tms := [4], sh := (.int .i64), objs := [], sts := [] }
noncomputable def cut_slices_IndexFunc_s_api_Msg_api_Msg__settle_First_c1_l0_o1 : Cut := { tms := [], sh := .nil, objs := [], sts := [] }
noncomputable def lp_slices_IndexFunc_s_api_Msg_api_Msg__settle_First_c1_l0 (N : Nat) : Lp := lpOf cut_slices_IndexFunc_s_api_Msg_api_Msg__settle_First_c1_l0 (1, cut_slices_IndexFunc_s_api_Msg_api_Msg__settle_First_c1_l0_o0) [(2, cut_slices_IndexFunc_s_api_Msg_api_Msg__settle_First_c1_l0_o1)] (fun v => slices_IndexFunc_s_api_Msg_api_Msg__settle_First_c1_l0 N N v.1.1 v.1.2.1 v.1.2.2.1 v.1.2.2.2)
noncomputable def lam_slices_IndexFunc_s_api_Msg_api_Msg__settle_First_c1_l0 (_ : Nat) : Lps := fun _ => none
theorem lpok_slices_IndexFunc_s_api_Msg_api_Msg__settle_First_c1_l0 (N : Nat) (ro : Option Nat) : LpOk Tryz.prog 19 ro (lp_slices_IndexFunc_s_api_Msg_api_Msg__settle_First_c1_l0 N) (codeAt c_slices_IndexFunc_s_api_Msg_api_Msg__settle_First_c1 [true, false, true, false]) := by
  rw [show (codeAt c_slices_IndexFunc_s_api_Msg_api_Msg__settle_First_c1 [true, false, true, false]) = .loop (codeAt c_slices_IndexFunc_s_api_Msg_api_Msg__settle_First_c1 [true, false, true, false, false]) by kernel_rfl]
  exact loop_ok (envok_slices_IndexFunc_s_api_Msg_api_Msg__settle_First_c1 N) mixed (Λ := lam_slices_IndexFunc_s_api_Msg_api_Msg__settle_First_c1_l0 N) (p := 52) (obs_ok (l := []) (by kernel_rfl) obsNil) (by kernel_rfl) (by intro rec v; kernel_rfl) N
noncomputable def lam_slices_IndexFunc_s_api_Msg_api_Msg__settle_First_c1 (N : Nat) : Lps := fun p => bif Nat.beq p 26 then some (lp_slices_IndexFunc_s_api_Msg_api_Msg__settle_First_c1_l0 N) else none
noncomputable def ctr_slices_IndexFunc_s_api_Msg_api_Msg__settle_First_c1 (N : Nat) : Ctr := ctrOf (.cons (.list T_api_Msg) (.clo 29 (.bx (.list .str) 0))) (.int .i64) [] (fun v => slices_IndexFunc_s_api_Msg_api_Msg__settle_First_c1 N v.1 v.2)
theorem sound_slices_IndexFunc_s_api_Msg_api_Msg__settle_First_c1 (N : Nat) : SoundF Tryz.prog 28 (fun vs => (ctr_slices_IndexFunc_s_api_Msg_api_Msg__settle_First_c1 N).run vs some) :=
  fn_sound (envok_slices_IndexFunc_s_api_Msg_api_Msg__settle_First_c1 N) mixed (Λ := lam_slices_IndexFunc_s_api_Msg_api_Msg__settle_First_c1 N) (fn := Tryz.f28) (c := c_slices_IndexFunc_s_api_Msg_api_Msg__settle_First_c1) Tryz.func28 (by kernel_rfl) (by kernel_rfl) (obs_ok (l := [(lp_slices_IndexFunc_s_api_Msg_api_Msg__settle_First_c1_l0 N, (codeAt c_slices_IndexFunc_s_api_Msg_api_Msg__settle_First_c1 [true, false, true, false]))]) (by kernel_rfl) (obsCons (lpok_slices_IndexFunc_s_api_Msg_api_Msg__settle_First_c1_l0 N none) obsNil)) (by kernel_rfl) (by intro v; kernel_rfl)

noncomputable def c_settle_First : Code := match Tryz.f10.body with | some c => c | none => .skip
noncomputable def tab_settle_First (N : Nat) : List (Nat × Ctr) := [(28, ctr_slices_IndexFunc_s_api_Msg_api_Msg__settle_First_c1 N)]
noncomputable def env_settle_First (N : Nat) : Env := mkEnv tyRows eqRows methRows [] [] (tab_settle_First N)
theorem envok_settle_First (N : Nat) : EnvOk Tryz.prog (env_settle_First N) := mkEnv_ok tyRows_ok eqRows_ok methRows_ok ⟨sound_slices_IndexFunc_s_api_Msg_api_Msg__settle_First_c1 N, trivial⟩
noncomputable def lam_settle_First (_ : Nat) : Lps := fun _ => none
noncomputable def ctr_settle_First (N : Nat) : Ctr := ctrOf (.cons (.list T_api_Msg) (.list .str)) (.tup (.cons (.int .i64) .bool)) [] (fun v => settle_First N v.1 v.2)
theorem sound_settle_First (N : Nat) : SoundF Tryz.prog 10 (fun vs => (ctr_settle_First N).run vs some) :=
  fn_sound (envok_settle_First N) mixed (Λ := lam_settle_First N) (fn := Tryz.f10) (c := c_settle_First) Tryz.func10 (by kernel_rfl) (by kernel_rfl) (obs_ok (l := []) (by kernel_rfl) obsNil) (by kernel_rfl) (by intro v; kernel_rfl)

noncomputable def c_ref06_Same : Code := match Tryz.f12.body with | some c => c | none => .skip
noncomputable def tab_ref06_Same (_ : Nat) : List (Nat × Ctr) := []
noncomputable def env_ref06_Same (N : Nat) : Env := mkEnv tyRows eqRows methRows [] [] (tab_ref06_Same N)
theorem envok_ref06_Same (N : Nat) : EnvOk Tryz.prog (env_ref06_Same N) := mkEnv_ok tyRows_ok eqRows_ok methRows_ok trivial
noncomputable def cut_ref06_Same_l0 : Cut := { tms := [0, 1, 5], sh := (.cons (.list T_api_Msg) (.cons (.list T_api_Msg) (.int .i64))), objs := [], sts := [] }
noncomputable def cut_ref06_Same_l0_o0 : Cut := { tms := [4], sh := .bool, objs := [], sts := [] }
noncomputable def cut_ref06_Same_l0_o1 : Cut := { tms := [], sh := .nil, objs := [], sts := [] }
noncomputable def lp_ref06_Same_l0 (N : Nat) : Lp := lpOf cut_ref06_Same_l0 (1, cut_ref06_Same_l0_o0) [(2, cut_ref06_Same_l0_o1)] (fun v => ref06_Same_l0 N N v.1.1 v.1.2.1 v.1.2.2)
noncomputable def lam_ref06_Same_l0 (_ : Nat) : Lps := fun _ => none
theorem lpok_ref06_Same_l0 (N : Nat) (ro : Option Nat) : LpOk Tryz.prog 26 ro (lp_ref06_Same_l0 N) (codeAt c_ref06_Same [true, true, false, true, false]) := by
  rw [show (codeAt c_ref06_Same [true, true, false, true, false]) = .loop (codeAt c_ref06_Same [true, true, false, true, false, false]) by kernel_rfl]
  exact loop_ok (envok_ref06_Same N) mixed (Λ := lam_ref06_Same_l0 N) (p := 116) (obs_ok (l := []) (by kernel_rfl) obsNil) (by kernel_rfl) (by intro rec v; kernel_rfl) N
noncomputable def lam_ref06_Same (N : Nat) : Lps := fun p => bif Nat.beq p 58 then some (lp_ref06_Same_l0 N) else none
noncomputable def ctr_ref06_Same (N : Nat) : Ctr := ctrOf (.cons (.list T_api_Msg) (.list T_api_Msg)) .bool [] (fun v => ref06_Same N v.1 v.2)
theorem sound_ref06_Same (N : Nat) : SoundF Tryz.prog 12 (fun vs => (ctr_ref06_Same N).run vs some) :=
  fn_sound (envok_ref06_Same N) mixed (Λ := lam_ref06_Same N) (fn := Tryz.f12) (c := c_ref06_Same) Tryz.func12 (by kernel_rfl) (by kernel_rfl) (obs_ok (l := [(lp_ref06_Same_l0 N, (codeAt c_ref06_Same [true, true, false, true, false]))]) (by kernel_rfl) (obsCons (lpok_ref06_Same_l0 N none) obsNil)) (by kernel_rfl) (by intro v; kernel_rfl)

noncomputable def c_law09_sanity : Code := match Tryz.f7.body with | some c => c | none => .skip
noncomputable def tab_law09_sanity (N : Nat) : List (Nat × Ctr) := [(13, ctr_settle_List N), (16, ctr_settle_Turn N), (10, ctr_settle_First N), (12, ctr_ref06_Same N)]
noncomputable def env_law09_sanity (N : Nat) : Env := mkEnv tyRows eqRows methRows [] [] (tab_law09_sanity N)
theorem envok_law09_sanity (N : Nat) : EnvOk Tryz.prog (env_law09_sanity N) := mkEnv_ok tyRows_ok eqRows_ok methRows_ok ⟨sound_settle_List N, ⟨sound_settle_Turn N, ⟨sound_settle_First N, ⟨sound_ref06_Same N, trivial⟩⟩⟩⟩
noncomputable def cut_law09_sanity_p1 : Cut := { tms := [0], sh := .bool, objs := [], sts := [] }
noncomputable def cut_law09_sanity_p1_o0 : Cut := { tms := [0], sh := .bool, objs := [], sts := [] }
noncomputable def lp_law09_sanity_p1 (N : Nat) : Lp := lpOf cut_law09_sanity_p1 (1, cut_law09_sanity_p1_o0) [] (fun v => law09_sanity_p1 N v.1)
noncomputable def lam_law09_sanity_p1 (_ : Nat) : Lps := fun _ => none
theorem lpok_law09_sanity_p1 (N : Nat) (ro : Option Nat) : LpOk Tryz.prog 105 ro (lp_law09_sanity_p1 N) (codeAt c_law09_sanity [true, true, true, true, true, true, true, true, true, true, true, true, true, true]) :=
  piece_ok (envok_law09_sanity N) mixed (Λ := lam_law09_sanity_p1 N) (p := 32767) (obs_ok (l := []) (by kernel_rfl) obsNil) (by kernel_rfl) (by intro v; kernel_rfl)
noncomputable def cut_law09_sanity_p0 : Cut := { tms := [8, 10, 12, 13, 14, 16, 17], sh := (.cons (.int .i64) (.cons (.int .i64) (.cons (.int .i64) (.cons (.int .i64) (.cons .bool (.cons .bool .bool)))))), objs := [], sts := [] }
noncomputable def cut_law09_sanity_p0_o0 : Cut := { tms := [0], sh := .bool, objs := [], sts := [] }
noncomputable def lp_law09_sanity_p0 (N : Nat) : Lp := lpOf cut_law09_sanity_p0 (1, cut_law09_sanity_p0_o0) [] (fun v => law09_sanity_p0 N v.1.1 v.1.2.1 v.1.2.2.1 v.1.2.2.2.1 v.1.2.2.2.2.1 v.1.2.2.2.2.2.1 v.1.2.2.2.2.2.2)
noncomputable def lam_law09_sanity_p0 (N : Nat) : Lps := fun p => bif Nat.beq p 32767 then some (lp_law09_sanity_p1 N) else none
theorem lpok_law09_sanity_p0 (N : Nat) (ro : Option Nat) : LpOk Tryz.prog 105 ro (lp_law09_sanity_p0 N) (codeAt c_law09_sanity [true, true, true, true, true, true, true, true, true, true, true, true, true]) :=
  piece_ok (envok_law09_sanity N) mixed (Λ := lam_law09_sanity_p0 N) (p := 16383) (obs_ok (l := [(lp_law09_sanity_p1 N, (codeAt c_law09_sanity [true, true, true, true, true, true, true, true, true, true, true, true, true, true]))]) (by kernel_rfl) (obsCons (lpok_law09_sanity_p1 N ro) obsNil)) (by kernel_rfl) (by intro v; kernel_rfl)
noncomputable def lam_law09_sanity (N : Nat) : Lps := fun p => bif Nat.beq p 16383 then some (lp_law09_sanity_p0 N) else none
noncomputable def ctr_law09_sanity (N : Nat) : Ctr := ctrOf .nil .bool [] (fun _ => law09_sanity N)
theorem sound_law09_sanity (N : Nat) : SoundF Tryz.prog 7 (fun vs => (ctr_law09_sanity N).run vs some) :=
  fn_sound (envok_law09_sanity N) mixed (Λ := lam_law09_sanity N) (fn := Tryz.f7) (c := c_law09_sanity) Tryz.func7 (by kernel_rfl) (by kernel_rfl) (obs_ok (l := [(lp_law09_sanity_p0 N, (codeAt c_law09_sanity [true, true, true, true, true, true, true, true, true, true, true, true, true]))]) (by kernel_rfl) (obsCons (lpok_law09_sanity_p0 N none) obsNil)) (by kernel_rfl) (by intro v; kernel_rfl)

noncomputable def c_ref04_Key : Code := match Tryz.f46.body with | some c => c | none => .skip
noncomputable def tab_ref04_Key (_ : Nat) : List (Nat × Ctr) := []
noncomputable def env_ref04_Key (N : Nat) : Env := mkEnv tyRows eqRows methRows [] [] (tab_ref04_Key N)
theorem envok_ref04_Key (N : Nat) : EnvOk Tryz.prog (env_ref04_Key N) := mkEnv_ok tyRows_ok eqRows_ok methRows_ok trivial
noncomputable def lam_ref04_Key (_ : Nat) : Lps := fun _ => none
noncomputable def ctr_ref04_Key (N : Nat) : Ctr := ctrOf (.int .u8) .str [] (fun v => ref04_Key N v)
theorem sound_ref04_Key (N : Nat) : SoundF Tryz.prog 46 (fun vs => (ctr_ref04_Key N).run vs some) :=
  fn_sound (envok_ref04_Key N) mixed (Λ := lam_ref04_Key N) (fn := Tryz.f46) (c := c_ref04_Key) Tryz.func46 (by kernel_rfl) (by kernel_rfl) (obs_ok (l := []) (by kernel_rfl) obsNil) (by kernel_rfl) (by intro v; kernel_rfl)

noncomputable def c_ref04_Pair : Code := match Tryz.f27.body with | some c => c | none => .skip
noncomputable def tab_ref04_Pair (N : Nat) : List (Nat × Ctr) := [(46, ctr_ref04_Key N)]
noncomputable def env_ref04_Pair (N : Nat) : Env := mkEnv tyRows eqRows methRows [] [] (tab_ref04_Pair N)
theorem envok_ref04_Pair (N : Nat) : EnvOk Tryz.prog (env_ref04_Pair N) := mkEnv_ok tyRows_ok eqRows_ok methRows_ok ⟨sound_ref04_Key N, trivial⟩
noncomputable def lam_ref04_Pair (_ : Nat) : Lps := fun _ => none
noncomputable def ctr_ref04_Pair (N : Nat) : Ctr := ctrOf (.val T_ref04_Raw) (.val T_api_Pair) [] (fun v => ref04_Pair N v)
theorem sound_ref04_Pair (N : Nat) : SoundF Tryz.prog 27 (fun vs => (ctr_ref04_Pair N).run vs some) :=
  fn_sound (envok_ref04_Pair N) mixed (Λ := lam_ref04_Pair N) (fn := Tryz.f27) (c := c_ref04_Pair) Tryz.func27 (by kernel_rfl) (by kernel_rfl) (obs_ok (l := []) (by kernel_rfl) obsNil) (by kernel_rfl) (by intro v; kernel_rfl)

noncomputable def c_ref04_Put : Code := match Tryz.f26.body with | some c => c | none => .skip
noncomputable def tab_ref04_Put (_ : Nat) : List (Nat × Ctr) := []
noncomputable def env_ref04_Put (N : Nat) : Env := mkEnv tyRows eqRows methRows [] [] (tab_ref04_Put N)
theorem envok_ref04_Put (N : Nat) : EnvOk Tryz.prog (env_ref04_Put N) := mkEnv_ok tyRows_ok eqRows_ok methRows_ok trivial
noncomputable def cut_ref04_Put_p1 : Cut := { tms := [0, 3, 5, 6, 7], sh := (.cons (.list T_api_Pair) (.cons (.ptr 2000000 0) (.cons (.own 2000001) (.cons .bool (.int .i64))))), objs := [(2000000, [3], .box (.cons .str (.cons .str (.int .i64)))), (2000001, [5], .sl T_api_Pair)], sts := [] }
noncomputable def cut_ref04_Put_p1_o0 : Cut := { tms := [0, 3, 5, 6, 7], sh := (.cons (.list T_api_Pair) (.cons (.ptr 2000000 0) (.cons (.own 2000001) (.cons .bool (.int .i64))))), objs := [(2000000, [3], .box (.cons .str (.cons .str (.int .i64)))), (2000001, [5], .sl T_api_Pair)], sts := [] }
noncomputable def lp_ref04_Put_p1 (N : Nat) : Lp := lpOf cut_ref04_Put_p1 (0, cut_ref04_Put_p1_o0) [] (fun v => ref04_Put_p1 N v.1.1 v.1.2.2.2.1 v.1.2.2.2.2 v.2.1.1 v.2.1.2.1 v.2.1.2.2 v.2.2.1)
noncomputable def lam_ref04_Put_p1 (_ : Nat) : Lps := fun _ => none
theorem lpok_ref04_Put_p1 (N : Nat) (ro : Option Nat) : LpOk Tryz.prog 53 ro (lp_ref04_Put_p1 N) (codeAt c_ref04_Put [true, true, false, true, false, false, true, false, false, true]) :=
  piece_ok (envok_ref04_Put N) mixed (Λ := lam_ref04_Put_p1 N) (p := 1865) (obs_ok (l := []) (by kernel_rfl) obsNil) (by kernel_rfl) (by intro v; kernel_rfl)
noncomputable def cut_ref04_Put_l0 : Cut := { tms := [0, 3, 5, 6, 7], sh := (.cons (.list T_api_Pair) (.cons (.ptr 2000000 0) (.cons (.own 2000001) (.cons .bool (.int .i64))))), objs := [(2000000, [3], .box (.cons .str (.cons .str (.int .i64)))), (2000001, [5], .sl T_api_Pair)], sts := [] }
noncomputable def cut_ref04_Put_l0_o0 : Cut := { tms := [3, 5, 6], sh := (.cons (.ptr 2000000 0) (.cons (.own 2000001) .bool)), objs := [(2000000, [3], .box (.cons .str (.cons .str (.int .i64)))), (2000001, [5], .sl T_api_Pair)], sts := [] }
noncomputable def lp_ref04_Put_l0 (N : Nat) : Lp := lpOf cut_ref04_Put_l0 (2, cut_ref04_Put_l0_o0) [] (fun v => ref04_Put_l0 N N v.1.1 v.1.2.2.2.1 v.1.2.2.2.2 v.2.1.1 v.2.1.2.1 v.2.1.2.2 v.2.2.1)
noncomputable def lam_ref04_Put_l0 (N : Nat) : Lps := fun p => bif Nat.beq p 1865 then some (lp_ref04_Put_p1 N) else none
theorem lpok_ref04_Put_l0 (N : Nat) (ro : Option Nat) : LpOk Tryz.prog 53 ro (lp_ref04_Put_l0 N) (codeAt c_ref04_Put [true, true, false, true, false]) := by
  rw [show (codeAt c_ref04_Put [true, true, false, true, false]) = .loop (codeAt c_ref04_Put [true, true, false, true, false, false]) by kernel_rfl]
  exact loop_ok (envok_ref04_Put N) mixed (Λ := lam_ref04_Put_l0 N) (p := 116) (obs_ok (l := [(lp_ref04_Put_p1 N, (codeAt c_ref04_Put [true, true, false, true, false, false, true, false, false, true]))]) (by kernel_rfl) (obsCons (lpok_ref04_Put_p1 N ro) obsNil)) (by kernel_rfl) (by intro rec v; kernel_rfl) N
noncomputable def lam_ref04_Put (N : Nat) : Lps := fun p => bif Nat.beq p 58 then some (lp_ref04_Put_l0 N) else none
noncomputable def ctr_ref04_Put (N : Nat) : Ctr := ctrOf (.cons (.list T_api_Pair) (.val T_api_Pair)) (.fresh T_api_Pair) [] (fun v => ref04_Put N v.1 v.2)
theorem sound_ref04_Put (N : Nat) : SoundF Tryz.prog 26 (fun vs => (ctr_ref04_Put N).run vs some) :=
  fn_sound (envok_ref04_Put N) mixed (Λ := lam_ref04_Put N) (fn := Tryz.f26) (c := c_ref04_Put) Tryz.func26 (by kernel_rfl) (by kernel_rfl) (obs_ok (l := [(lp_ref04_Put_l0 N, (codeAt c_ref04_Put [true, true, false, true, false]))]) (by kernel_rfl) (obsCons (lpok_ref04_Put_l0 N none) obsNil)) (by kernel_rfl) (by intro v; kernel_rfl)

noncomputable def c_ref04_Made : Code := match Tryz.f8.body with | some c => c | none => .skip
noncomputable def tab_ref04_Made (N : Nat) : List (Nat × Ctr) := [(27, ctr_ref04_Pair N), (26, ctr_ref04_Put N)]
noncomputable def env_ref04_Made (N : Nat) : Env := mkEnv tyRows eqRows methRows [] [] (tab_ref04_Made N)
theorem envok_ref04_Made (N : Nat) : EnvOk Tryz.prog (env_ref04_Made N) := mkEnv_ok tyRows_ok eqRows_ok methRows_ok ⟨sound_ref04_Pair N, ⟨sound_ref04_Put N, trivial⟩⟩
noncomputable def cut_ref04_Made_l0 : Cut := { tms := [0, 3, 4], sh := (.cons (.list T_ref04_Raw) (.cons (.own 2000000) (.int .i64))), objs := [(2000000, [3], .sl T_api_Pair)], sts := [] }
noncomputable def cut_ref04_Made_l0_o0 : Cut := { tms := [3], sh := (.own 2000000), objs := [(2000000, [3], .sl T_api_Pair)], sts := [] }
noncomputable def lp_ref04_Made_l0 (N : Nat) : Lp := lpOf cut_ref04_Made_l0 (2, cut_ref04_Made_l0_o0) [] (fun v => ref04_Made_l0 N N v.1.1 v.1.2.2 v.2.1)
noncomputable def lam_ref04_Made_l0 (_ : Nat) : Lps := fun _ => none
theorem lpok_ref04_Made_l0 (N : Nat) (ro : Option Nat) : LpOk Tryz.prog 24 ro (lp_ref04_Made_l0 N) (codeAt c_ref04_Made [true, true, false, true, false]) := by
  rw [show (codeAt c_ref04_Made [true, true, false, true, false]) = .loop (codeAt c_ref04_Made [true, true, false, true, false, false]) by kernel_rfl]
  exact loop_ok (envok_ref04_Made N) mixed (Λ := lam_ref04_Made_l0 N) (p := 116) (obs_ok (l := []) (by kernel_rfl) obsNil) (by kernel_rfl) (by intro rec v; kernel_rfl) N
noncomputable def lam_ref04_Made (N : Nat) : Lps := fun p => bif Nat.beq p 58 then some (lp_ref04_Made_l0 N) else none
noncomputable def ctr_ref04_Made (N : Nat) : Ctr := ctrOf (.list T_ref04_Raw) (.fresh T_api_Pair) [] (fun v => ref04_Made N v)
theorem sound_ref04_Made (N : Nat) : SoundF Tryz.prog 8 (fun vs => (ctr_ref04_Made N).run vs some) :=
  fn_sound (envok_ref04_Made N) mixed (Λ := lam_ref04_Made N) (fn := Tryz.f8) (c := c_ref04_Made) Tryz.func8 (by kernel_rfl) (by kernel_rfl) (obs_ok (l := [(lp_ref04_Made_l0 N, (codeAt c_ref04_Made [true, true, false, true, false]))]) (by kernel_rfl) (obsCons (lpok_ref04_Made_l0 N none) obsNil)) (by kernel_rfl) (by intro v; kernel_rfl)

noncomputable def c_ref05_Path : Code := match Tryz.f38.body with | some c => c | none => .skip
noncomputable def tab_ref05_Path (_ : Nat) : List (Nat × Ctr) := []
noncomputable def env_ref05_Path (N : Nat) : Env := mkEnv tyRows eqRows methRows [] [] (tab_ref05_Path N)
theorem envok_ref05_Path (N : Nat) : EnvOk Tryz.prog (env_ref05_Path N) := mkEnv_ok tyRows_ok eqRows_ok methRows_ok trivial
noncomputable def lam_ref05_Path (_ : Nat) : Lps := fun _ => none
noncomputable def ctr_ref05_Path (N : Nat) : Ctr := ctrOf (.int .u8) .str [] (fun v => ref05_Path N v)
theorem sound_ref05_Path (N : Nat) : SoundF Tryz.prog 38 (fun vs => (ctr_ref05_Path N).run vs some) :=
  fn_sound (envok_ref05_Path N) mixed (Λ := lam_ref05_Path N) (fn := Tryz.f38) (c := c_ref05_Path) Tryz.func38 (by kernel_rfl) (by kernel_rfl) (obs_ok (l := []) (by kernel_rfl) obsNil) (by kernel_rfl) (by intro v; kernel_rfl)

noncomputable def c_ref05_Key : Code := match Tryz.f37.body with | some c => c | none => .skip
noncomputable def tab_ref05_Key (N : Nat) : List (Nat × Ctr) := [(38, ctr_ref05_Path N)]
noncomputable def env_ref05_Key (N : Nat) : Env := mkEnv tyRows eqRows methRows [] [] (tab_ref05_Key N)
theorem envok_ref05_Key (N : Nat) : EnvOk Tryz.prog (env_ref05_Key N) := mkEnv_ok tyRows_ok eqRows_ok methRows_ok ⟨sound_ref05_Path N, trivial⟩
noncomputable def lam_ref05_Key (_ : Nat) : Lps := fun _ => none
noncomputable def ctr_ref05_Key (N : Nat) : Ctr := ctrOf (.int .u8) .str [] (fun v => ref05_Key N v)
theorem sound_ref05_Key (N : Nat) : SoundF Tryz.prog 37 (fun vs => (ctr_ref05_Key N).run vs some) :=
  fn_sound (envok_ref05_Key N) mixed (Λ := lam_ref05_Key N) (fn := Tryz.f37) (c := c_ref05_Key) Tryz.func37 (by kernel_rfl) (by kernel_rfl) (obs_ok (l := []) (by kernel_rfl) obsNil) (by kernel_rfl) (by intro v; kernel_rfl)

noncomputable def c_ref02_Prefix : Code := match Tryz.f21.body with | some c => c | none => .skip
noncomputable def tab_ref02_Prefix (_ : Nat) : List (Nat × Ctr) := []
noncomputable def env_ref02_Prefix (N : Nat) : Env := mkEnv tyRows eqRows methRows [] [] (tab_ref02_Prefix N)
theorem envok_ref02_Prefix (N : Nat) : EnvOk Tryz.prog (env_ref02_Prefix N) := mkEnv_ok tyRows_ok eqRows_ok methRows_ok trivial
noncomputable def cut_ref02_Prefix_l0 : Cut := { tms := [0, 2, 3], sh := (.cons .str (.cons (.ptr 2000000 0) (.int .i64))), objs := [(2000000, [2], .box (.cons .str .str))], sts := [] }
noncomputable def cut_ref02_Prefix_l0_o0 : Cut := { tms := [0, 2, 3], sh := (.cons .str (.cons (.ptr 2000000 0) (.int .i64))), objs := [(2000000, [2], .box (.cons .str .str))], sts := [] }
noncomputable def lp_ref02_Prefix_l0 (N : Nat) : Lp := lpOf cut_ref02_Prefix_l0 (2, cut_ref02_Prefix_l0_o0) [] (fun v => ref02_Prefix_l0 N N v.1.1 v.1.2.2 v.2.1.1 v.2.1.2)
noncomputable def lam_ref02_Prefix_l0 (_ : Nat) : Lps := fun _ => none
theorem lpok_ref02_Prefix_l0 (N : Nat) (ro : Option Nat) : LpOk Tryz.prog 35 ro (lp_ref02_Prefix_l0 N) (codeAt c_ref02_Prefix [true, true, false, false]) := by
  rw [show (codeAt c_ref02_Prefix [true, true, false, false]) = .loop (codeAt c_ref02_Prefix [true, true, false, false, false]) by kernel_rfl]
  exact loop_ok (envok_ref02_Prefix N) mixed (Λ := lam_ref02_Prefix_l0 N) (p := 56) (obs_ok (l := []) (by kernel_rfl) obsNil) (by kernel_rfl) (by intro rec v; kernel_rfl) N
noncomputable def lam_ref02_Prefix (N : Nat) : Lps := fun p => bif Nat.beq p 28 then some (lp_ref02_Prefix_l0 N) else none
noncomputable def ctr_ref02_Prefix (N : Nat) : Ctr := ctrOf .str (.val T_api_Span) [] (fun v => ref02_Prefix N v)
theorem sound_ref02_Prefix (N : Nat) : SoundF Tryz.prog 21 (fun vs => (ctr_ref02_Prefix N).run vs some) :=
  fn_sound (envok_ref02_Prefix N) mixed (Λ := lam_ref02_Prefix N) (fn := Tryz.f21) (c := c_ref02_Prefix) Tryz.func21 (by kernel_rfl) (by kernel_rfl) (obs_ok (l := [(lp_ref02_Prefix_l0 N, (codeAt c_ref02_Prefix [true, true, false, false]))]) (by kernel_rfl) (obsCons (lpok_ref02_Prefix_l0 N none) obsNil)) (by kernel_rfl) (by intro v; kernel_rfl)

noncomputable def c_ref02_Begins : Code := match Tryz.f40.body with | some c => c | none => .skip
noncomputable def tab_ref02_Begins (_ : Nat) : List (Nat × Ctr) := []
noncomputable def env_ref02_Begins (N : Nat) : Env := mkEnv tyRows eqRows methRows [] [] (tab_ref02_Begins N)
theorem envok_ref02_Begins (N : Nat) : EnvOk Tryz.prog (env_ref02_Begins N) := mkEnv_ok tyRows_ok eqRows_ok methRows_ok trivial
noncomputable def lam_ref02_Begins (_ : Nat) : Lps := fun _ => none
noncomputable def ctr_ref02_Begins (N : Nat) : Ctr := ctrOf (.cons .str .str) .bool [] (fun v => ref02_Begins N v.1 v.2)
theorem sound_ref02_Begins (N : Nat) : SoundF Tryz.prog 40 (fun vs => (ctr_ref02_Begins N).run vs some) :=
  fn_sound (envok_ref02_Begins N) mixed (Λ := lam_ref02_Begins N) (fn := Tryz.f40) (c := c_ref02_Begins) Tryz.func40 (by kernel_rfl) (by kernel_rfl) (obs_ok (l := []) (by kernel_rfl) obsNil) (by kernel_rfl) (by intro v; kernel_rfl)

noncomputable def c_ref05_Value : Code := match Tryz.f41.body with | some c => c | none => .skip
noncomputable def tab_ref05_Value (_ : Nat) : List (Nat × Ctr) := []
noncomputable def env_ref05_Value (N : Nat) : Env := mkEnv tyRows eqRows methRows [] [] (tab_ref05_Value N)
theorem envok_ref05_Value (N : Nat) : EnvOk Tryz.prog (env_ref05_Value N) := mkEnv_ok tyRows_ok eqRows_ok methRows_ok trivial
noncomputable def lam_ref05_Value (_ : Nat) : Lps := fun _ => none
noncomputable def ctr_ref05_Value (N : Nat) : Ctr := ctrOf (.int .u8) .str [] (fun v => ref05_Value N v)
theorem sound_ref05_Value (N : Nat) : SoundF Tryz.prog 41 (fun vs => (ctr_ref05_Value N).run vs some) :=
  fn_sound (envok_ref05_Value N) mixed (Λ := lam_ref05_Value N) (fn := Tryz.f41) (c := c_ref05_Value) Tryz.func41 (by kernel_rfl) (by kernel_rfl) (obs_ok (l := []) (by kernel_rfl) obsNil) (by kernel_rfl) (by intro v; kernel_rfl)

noncomputable def c_ref02_One : Code := match Tryz.f39.body with | some c => c | none => .skip
noncomputable def tab_ref02_One (_ : Nat) : List (Nat × Ctr) := []
noncomputable def env_ref02_One (N : Nat) : Env := mkEnv tyRows eqRows methRows [] [] (tab_ref02_One N)
theorem envok_ref02_One (N : Nat) : EnvOk Tryz.prog (env_ref02_One N) := mkEnv_ok tyRows_ok eqRows_ok methRows_ok trivial
noncomputable def lam_ref02_One (_ : Nat) : Lps := fun _ => none
noncomputable def ctr_ref02_One (N : Nat) : Ctr := ctrOf .str (.val T_api_Span) [] (fun v => ref02_One N v)
theorem sound_ref02_One (N : Nat) : SoundF Tryz.prog 39 (fun vs => (ctr_ref02_One N).run vs some) :=
  fn_sound (envok_ref02_One N) mixed (Λ := lam_ref02_One N) (fn := Tryz.f39) (c := c_ref02_One) Tryz.func39 (by kernel_rfl) (by kernel_rfl) (obs_ok (l := []) (by kernel_rfl) obsNil) (by kernel_rfl) (by intro v; kernel_rfl)

noncomputable def c_ref05_Made : Code := match Tryz.f19.body with | some c => c | none => .skip
noncomputable def tab_ref05_Made (N : Nat) : List (Nat × Ctr) := [(37, ctr_ref05_Key N), (38, ctr_ref05_Path N), (21, ctr_ref02_Prefix N), (40, ctr_ref02_Begins N), (41, ctr_ref05_Value N), (39, ctr_ref02_One N)]
noncomputable def env_ref05_Made (N : Nat) : Env := mkEnv tyRows eqRows methRows [] [] (tab_ref05_Made N)
theorem envok_ref05_Made (N : Nat) : EnvOk Tryz.prog (env_ref05_Made N) := mkEnv_ok tyRows_ok eqRows_ok methRows_ok ⟨sound_ref05_Key N, ⟨sound_ref05_Path N, ⟨sound_ref02_Prefix N, ⟨sound_ref02_Begins N, ⟨sound_ref05_Value N, ⟨sound_ref02_One N, trivial⟩⟩⟩⟩⟩⟩
noncomputable def cut_ref05_Made_p1 : Cut := { tms := [1, 2, 3, 5, 6, 7], sh := (.cons (.ptr 2000000 0) (.cons (.ptr 2000001 0) (.cons .str (.cons (.ptr 2000002 0) (.cons .str .str))))), objs := [(2000000, [1], .box (.cons (.int .u8) (.cons (.int .u8) (.cons (.int .u8) (.cons (.int .u8) (.cons (.int .u8) (.int .u8))))))), (2000001, [2], .box (.cons (.int .i64) (.cons .str (.cons .str (.cons .str (.cons .str (.cons .str (.cons .str (.int .i64))))))))), (2000002, [5], .box (.cons .str .str))], sts := [] }
noncomputable def cut_ref05_Made_p1_o0 : Cut := { tms := [2], sh := (.ptr 2000000 0), objs := [(2000000, [2], .box (.cons (.int .i64) (.cons .str (.cons .str (.cons .str (.cons .str (.cons .str (.cons .str (.int .i64)))))))))], sts := [] }
noncomputable def lp_ref05_Made_p1 (N : Nat) : Lp := lpOf cut_ref05_Made_p1 (1, cut_ref05_Made_p1_o0) [] (fun v => ref05_Made_p1 N v.1.2.2.1 v.1.2.2.2.2.1 v.1.2.2.2.2.2 v.2.1.1 v.2.1.2.1 v.2.1.2.2.1 v.2.1.2.2.2.1 v.2.1.2.2.2.2.1 v.2.1.2.2.2.2.2 v.2.2.1.1 v.2.2.1.2.1 v.2.2.1.2.2.1 v.2.2.1.2.2.2.1 v.2.2.1.2.2.2.2.1 v.2.2.1.2.2.2.2.2.1 v.2.2.1.2.2.2.2.2.2.1 v.2.2.1.2.2.2.2.2.2.2 v.2.2.2.1.1 v.2.2.2.1.2)
noncomputable def lam_ref05_Made_p1 (_ : Nat) : Lps := fun _ => none
theorem lpok_ref05_Made_p1 (N : Nat) (ro : Option Nat) : LpOk Tryz.prog 102 ro (lp_ref05_Made_p1 N) (codeAt c_ref05_Made [true, true, true, true, true, true]) :=
  piece_ok (envok_ref05_Made N) mixed (Λ := lam_ref05_Made_p1 N) (p := 127) (obs_ok (l := []) (by kernel_rfl) obsNil) (by kernel_rfl) (by intro v; kernel_rfl)
noncomputable def cut_ref05_Made_p0 : Cut := { tms := [1, 2, 3, 5], sh := (.cons (.ptr 2000000 0) (.cons (.ptr 2000001 0) (.cons .str (.ptr 2000002 0)))), objs := [(2000000, [1], .box (.cons (.int .u8) (.cons (.int .u8) (.cons (.int .u8) (.cons (.int .u8) (.cons (.int .u8) (.int .u8))))))), (2000001, [2], .box (.cons (.int .i64) (.cons .str (.cons .str (.cons .str (.cons .str (.cons .str (.cons .str (.int .i64))))))))), (2000002, [5], .box (.cons .str .str))], sts := [] }
noncomputable def cut_ref05_Made_p0_o0 : Cut := { tms := [2], sh := (.ptr 2000000 0), objs := [(2000000, [2], .box (.cons (.int .i64) (.cons .str (.cons .str (.cons .str (.cons .str (.cons .str (.cons .str (.int .i64)))))))))], sts := [] }
noncomputable def lp_ref05_Made_p0 (N : Nat) : Lp := lpOf cut_ref05_Made_p0 (1, cut_ref05_Made_p0_o0) [] (fun v => ref05_Made_p0 N v.1.2.2.1 v.2.1.1 v.2.1.2.1 v.2.1.2.2.1 v.2.1.2.2.2.1 v.2.1.2.2.2.2.1 v.2.1.2.2.2.2.2 v.2.2.1.1 v.2.2.1.2.1 v.2.2.1.2.2.1 v.2.2.1.2.2.2.1 v.2.2.1.2.2.2.2.1 v.2.2.1.2.2.2.2.2.1 v.2.2.1.2.2.2.2.2.2.1 v.2.2.1.2.2.2.2.2.2.2 v.2.2.2.1.1 v.2.2.2.1.2)
noncomputable def lam_ref05_Made_p0 (N : Nat) : Lps := fun p => bif Nat.beq p 127 then some (lp_ref05_Made_p1 N) else none
theorem lpok_ref05_Made_p0 (N : Nat) (ro : Option Nat) : LpOk Tryz.prog 102 ro (lp_ref05_Made_p0 N) (codeAt c_ref05_Made [true, true, true, true]) :=
  piece_ok (envok_ref05_Made N) mixed (Λ := lam_ref05_Made_p0 N) (p := 31) (obs_ok (l := [(lp_ref05_Made_p1 N, (codeAt c_ref05_Made [true, true, true, true, true, true]))]) (by kernel_rfl) (obsCons (lpok_ref05_Made_p1 N ro) obsNil)) (by kernel_rfl) (by intro v; kernel_rfl)
noncomputable def lam_ref05_Made (N : Nat) : Lps := fun p => bif Nat.beq p 31 then some (lp_ref05_Made_p0 N) else none
noncomputable def ctr_ref05_Made (N : Nat) : Ctr := ctrOf (.val T_ref05_Raw) (.val T_api_Msg) [] (fun v => ref05_Made N v)
theorem sound_ref05_Made (N : Nat) : SoundF Tryz.prog 19 (fun vs => (ctr_ref05_Made N).run vs some) :=
  fn_sound (envok_ref05_Made N) mixed (Λ := lam_ref05_Made N) (fn := Tryz.f19) (c := c_ref05_Made) Tryz.func19 (by kernel_rfl) (by kernel_rfl) (obs_ok (l := [(lp_ref05_Made_p0 N, (codeAt c_ref05_Made [true, true, true, true]))]) (by kernel_rfl) (obsCons (lpok_ref05_Made_p0 N none) obsNil)) (by kernel_rfl) (by intro v; kernel_rfl)

noncomputable def cmp86_ren : Go.Shelf.Ren := ⟨fun | 213 => 86 | 265 => 92 | n => n, fun n => n, fun n => n⟩
theorem cmp86 : Go.Proofs.Lays.n213 Tryz.prog cmp86_ren := {
  mixed := by kernel_rfl
  f213 := Tryz.func86.trans (congrArg some (by kernel_rfl))
  f265 := Tryz.func92.trans (congrArg some (by kernel_rfl))
  t3 := Tryz.underlying3
  a3 := Tryz.isAgg3
  z3 := Tryz.sizeOf3
  v3 := Tryz.zeroValue3
  t9 := Tryz.underlying9
  a9 := Tryz.isAgg9
  z9 := Tryz.sizeOf9
  v9 := Tryz.zeroValue9
  }
noncomputable def c_bytealg_CompareString : Code := match Tryz.f86.body with | some c => c | none => .skip
noncomputable def ctr_bytealg_CompareString (N : Nat) : Ctr := ctrOf (.cons .str .str) (.int .i64) [] (fun v => bytealg_CompareString N v.1 v.2)
theorem sound_bytealg_CompareString (N : Nat) : SoundF Tryz.prog 86 (fun vs => (ctr_bytealg_CompareString N).run vs some) := by
  have e1 : cmp86_ren.f 213 = 86 := by kernel_rfl
  have h := cmp_sound cmp86 (fn := Tryz.f86) (c := c_bytealg_CompareString) (by rw [e1]; exact Tryz.func86) (by kernel_rfl) (by kernel_rfl)
  rw [e1] at h
  exact h

noncomputable def c_strings_Compare : Code := match Tryz.f76.body with | some c => c | none => .skip
noncomputable def tab_strings_Compare (N : Nat) : List (Nat × Ctr) := [(86, ctr_bytealg_CompareString N)]
noncomputable def env_strings_Compare (N : Nat) : Env := mkEnv tyRows eqRows methRows [] [] (tab_strings_Compare N)
theorem envok_strings_Compare (N : Nat) : EnvOk Tryz.prog (env_strings_Compare N) := mkEnv_ok tyRows_ok eqRows_ok methRows_ok ⟨sound_bytealg_CompareString N, trivial⟩
noncomputable def lam_strings_Compare (_ : Nat) : Lps := fun _ => none
noncomputable def ctr_strings_Compare (N : Nat) : Ctr := ctrOf (.cons .str .str) (.int .i64) [] (fun v => strings_Compare N v.1 v.2)
theorem sound_strings_Compare (N : Nat) : SoundF Tryz.prog 76 (fun vs => (ctr_strings_Compare N).run vs some) :=
  fn_sound (envok_strings_Compare N) mixed (Λ := lam_strings_Compare N) (fn := Tryz.f76) (c := c_strings_Compare) Tryz.func76 (by kernel_rfl) (by kernel_rfl) (obs_ok (l := []) (by kernel_rfl) obsNil) (by kernel_rfl) (by intro v; kernel_rfl)

noncomputable def c_table_place_c1 : Code := match Tryz.f75.body with | some c => c | none => .skip
noncomputable def tab_table_place_c1 (N : Nat) : List (Nat × Ctr) := [(76, ctr_strings_Compare N)]
noncomputable def env_table_place_c1 (N : Nat) : Env := mkEnv tyRows eqRows methRows [] [] (tab_table_place_c1 N)
theorem envok_table_place_c1 (N : Nat) : EnvOk Tryz.prog (env_table_place_c1 N) := mkEnv_ok tyRows_ok eqRows_ok methRows_ok ⟨sound_strings_Compare N, trivial⟩
noncomputable def lam_table_place_c1 (_ : Nat) : Lps := fun _ => none
noncomputable def ctr_table_place_c1 (N : Nat) : Ctr := ctrOf (.cons (.val T_api_Pair) .str) (.int .i64) [] (fun v => table_place_c1 N v.1 v.2)
theorem sound_table_place_c1 (N : Nat) : SoundF Tryz.prog 75 (fun vs => (ctr_table_place_c1 N).run vs some) :=
  fn_sound (envok_table_place_c1 N) mixed (Λ := lam_table_place_c1 N) (fn := Tryz.f75) (c := c_table_place_c1) Tryz.func75 (by kernel_rfl) (by kernel_rfl) (obs_ok (l := []) (by kernel_rfl) obsNil) (by kernel_rfl) (by intro v; kernel_rfl)

noncomputable def c_slices_BinarySearchFunc_s_api_Pair_api_Pair_string__table_place_c1 : Code := match Tryz.f74.body with | some c => c | none => .skip
noncomputable def tab_slices_BinarySearchFunc_s_api_Pair_api_Pair_string__table_place_c1 (N : Nat) : List (Nat × Ctr) := [(75, ctr_table_place_c1 N)]
noncomputable def env_slices_BinarySearchFunc_s_api_Pair_api_Pair_string__table_place_c1 (N : Nat) : Env := mkEnv tyRows eqRows methRows [] [] (tab_slices_BinarySearchFunc_s_api_Pair_api_Pair_string__table_place_c1 N)
theorem envok_slices_BinarySearchFunc_s_api_Pair_api_Pair_string__table_place_c1 (N : Nat) : EnvOk Tryz.prog (env_slices_BinarySearchFunc_s_api_Pair_api_Pair_string__table_place_c1 N) := mkEnv_ok tyRows_ok eqRows_ok methRows_ok ⟨sound_table_place_c1 N, trivial⟩
noncomputable def cut_slices_BinarySearchFunc_s_api_Pair_api_Pair_string__table_place_c1_l0 : Cut := { tms := [0, 1, 2, 8, 9, 10], sh := (.cons (.list T_api_Pair) (.cons .str (.cons (.clo 75 .nil) (.cons (.int .i64) (.cons (.int .i64) (.int .i64)))))), objs := [], sts := [] }
noncomputable def cut_slices_BinarySearchFunc_s_api_Pair_api_Pair_string__table_place_c1_l0_o0 : Cut := { tms := [0, 1, 2, 8, 9], sh := (.cons (.list T_api_Pair) (.cons .str (.cons (.clo 75 .nil) (.cons (.int .i64) (.int .i64))))), objs := [], sts := [] }
noncomputable def lp_slices_BinarySearchFunc_s_api_Pair_api_Pair_string__table_place_c1_l0 (N : Nat) : Lp := lpOf cut_slices_BinarySearchFunc_s_api_Pair_api_Pair_string__table_place_c1_l0 (2, cut_slices_BinarySearchFunc_s_api_Pair_api_Pair_string__table_place_c1_l0_o0) [] (fun v => slices_BinarySearchFunc_s_api_Pair_api_Pair_string__table_place_c1_l0 N N v.1.1 v.1.2.1 v.1.2.2.2.1 v.1.2.2.2.2.1 v.1.2.2.2.2.2)
noncomputable def lam_slices_BinarySearchFunc_s_api_Pair_api_Pair_string__table_place_c1_l0 (_ : Nat) : Lps := fun _ => none
theorem lpok_slices_BinarySearchFunc_s_api_Pair_api_Pair_string__table_place_c1_l0 (N : Nat) (ro : Option Nat) : LpOk Tryz.prog 49 ro (lp_slices_BinarySearchFunc_s_api_Pair_api_Pair_string__table_place_c1_l0 N) (codeAt c_slices_BinarySearchFunc_s_api_Pair_api_Pair_string__table_place_c1 [true, true, true, false, false]) := by
  rw [show (codeAt c_slices_BinarySearchFunc_s_api_Pair_api_Pair_string__table_place_c1 [true, true, true, false, false]) = .loop (codeAt c_slices_BinarySearchFunc_s_api_Pair_api_Pair_string__table_place_c1 [true, true, true, false, false, false]) by kernel_rfl]
  exact loop_ok (envok_slices_BinarySearchFunc_s_api_Pair_api_Pair_string__table_place_c1 N) mixed (Λ := lam_slices_BinarySearchFunc_s_api_Pair_api_Pair_string__table_place_c1_l0 N) (p := 120) (obs_ok (l := []) (by kernel_rfl) obsNil) (by kernel_rfl) (by intro rec v; kernel_rfl) N
noncomputable def lam_slices_BinarySearchFunc_s_api_Pair_api_Pair_string__table_place_c1 (N : Nat) : Lps := fun p => bif Nat.beq p 60 then some (lp_slices_BinarySearchFunc_s_api_Pair_api_Pair_string__table_place_c1_l0 N) else none
noncomputable def ctr_slices_BinarySearchFunc_s_api_Pair_api_Pair_string__table_place_c1 (N : Nat) : Ctr := ctrOf (.cons (.list T_api_Pair) (.cons .str (.clo 75 .nil))) (.tup (.cons (.int .i64) .bool)) [] (fun v => slices_BinarySearchFunc_s_api_Pair_api_Pair_string__table_place_c1 N v.1 v.2.1)
theorem sound_slices_BinarySearchFunc_s_api_Pair_api_Pair_string__table_place_c1 (N : Nat) : SoundF Tryz.prog 74 (fun vs => (ctr_slices_BinarySearchFunc_s_api_Pair_api_Pair_string__table_place_c1 N).run vs some) :=
  fn_sound (envok_slices_BinarySearchFunc_s_api_Pair_api_Pair_string__table_place_c1 N) mixed (Λ := lam_slices_BinarySearchFunc_s_api_Pair_api_Pair_string__table_place_c1 N) (fn := Tryz.f74) (c := c_slices_BinarySearchFunc_s_api_Pair_api_Pair_string__table_place_c1) Tryz.func74 (by kernel_rfl) (by kernel_rfl) (obs_ok (l := [(lp_slices_BinarySearchFunc_s_api_Pair_api_Pair_string__table_place_c1_l0 N, (codeAt c_slices_BinarySearchFunc_s_api_Pair_api_Pair_string__table_place_c1 [true, true, true, false, false]))]) (by kernel_rfl) (obsCons (lpok_slices_BinarySearchFunc_s_api_Pair_api_Pair_string__table_place_c1_l0 N none) obsNil)) (by kernel_rfl) (by intro v; kernel_rfl)

noncomputable def c_table_place : Code := match Tryz.f60.body with | some c => c | none => .skip
noncomputable def tab_table_place (N : Nat) : List (Nat × Ctr) := [(74, ctr_slices_BinarySearchFunc_s_api_Pair_api_Pair_string__table_place_c1 N)]
noncomputable def env_table_place (N : Nat) : Env := mkEnv tyRows eqRows methRows [] [] (tab_table_place N)
theorem envok_table_place (N : Nat) : EnvOk Tryz.prog (env_table_place N) := mkEnv_ok tyRows_ok eqRows_ok methRows_ok ⟨sound_slices_BinarySearchFunc_s_api_Pair_api_Pair_string__table_place_c1 N, trivial⟩
noncomputable def lam_table_place (_ : Nat) : Lps := fun _ => none
noncomputable def ctr_table_place (N : Nat) : Ctr := ctrOf (.cons (.list T_api_Pair) .str) (.tup (.cons (.int .i64) .bool)) [] (fun v => table_place N v.1 v.2)
theorem sound_table_place (N : Nat) : SoundF Tryz.prog 60 (fun vs => (ctr_table_place N).run vs some) :=
  fn_sound (envok_table_place N) mixed (Λ := lam_table_place N) (fn := Tryz.f60) (c := c_table_place) Tryz.func60 (by kernel_rfl) (by kernel_rfl) (obs_ok (l := []) (by kernel_rfl) obsNil) (by kernel_rfl) (by intro v; kernel_rfl)

noncomputable def c_table_bounds : Code := match Tryz.f42.body with | some c => c | none => .skip
noncomputable def tab_table_bounds (N : Nat) : List (Nat × Ctr) := [(59, ctr_span_Empty N), (60, ctr_table_place N)]
noncomputable def env_table_bounds (N : Nat) : Env := mkEnv tyRows eqRows methRows [] [] (tab_table_bounds N)
theorem envok_table_bounds (N : Nat) : EnvOk Tryz.prog (env_table_bounds N) := mkEnv_ok tyRows_ok eqRows_ok methRows_ok ⟨sound_span_Empty N, ⟨sound_table_place N, trivial⟩⟩
noncomputable def lam_table_bounds (_ : Nat) : Lps := fun _ => none
noncomputable def ctr_table_bounds (N : Nat) : Ctr := ctrOf (.cons (.list T_api_Pair) (.val T_api_Span)) (.tup (.cons (.int .i64) (.int .i64))) [] (fun v => table_bounds N v.1 v.2)
theorem sound_table_bounds (N : Nat) : SoundF Tryz.prog 42 (fun vs => (ctr_table_bounds N).run vs some) :=
  fn_sound (envok_table_bounds N) mixed (Λ := lam_table_bounds N) (fn := Tryz.f42) (c := c_table_bounds) Tryz.func42 (by kernel_rfl) (by kernel_rfl) (obs_ok (l := []) (by kernel_rfl) obsNil) (by kernel_rfl) (by intro v; kernel_rfl)

noncomputable def c_table_Range : Code := match Tryz.f20.body with | some c => c | none => .skip
noncomputable def tab_table_Range (N : Nat) : List (Nat × Ctr) := [(42, ctr_table_bounds N)]
noncomputable def env_table_Range (N : Nat) : Env := mkEnv tyRows eqRows methRows [] [] (tab_table_Range N)
theorem envok_table_Range (N : Nat) : EnvOk Tryz.prog (env_table_Range N) := mkEnv_ok tyRows_ok eqRows_ok methRows_ok ⟨sound_table_bounds N, trivial⟩
noncomputable def lam_table_Range (_ : Nat) : Lps := fun _ => none
noncomputable def ctr_table_Range (N : Nat) : Ctr := ctrOf (.cons (.list T_api_Pair) (.val T_api_Span)) (.list T_api_Pair) [] (fun v => table_Range N v.1 v.2)
theorem sound_table_Range (N : Nat) : SoundF Tryz.prog 20 (fun vs => (ctr_table_Range N).run vs some) :=
  fn_sound (envok_table_Range N) mixed (Λ := lam_table_Range N) (fn := Tryz.f20) (c := c_table_Range) Tryz.func20 (by kernel_rfl) (by kernel_rfl) (obs_ok (l := []) (by kernel_rfl) obsNil) (by kernel_rfl) (by intro v; kernel_rfl)

noncomputable def c_ref05_in : Code := match Tryz.f43.body with | some c => c | none => .skip
noncomputable def tab_ref05_in (_ : Nat) : List (Nat × Ctr) := []
noncomputable def env_ref05_in (N : Nat) : Env := mkEnv tyRows eqRows methRows [] [] (tab_ref05_in N)
theorem envok_ref05_in (N : Nat) : EnvOk Tryz.prog (env_ref05_in N) := mkEnv_ok tyRows_ok eqRows_ok methRows_ok trivial
noncomputable def lam_ref05_in (_ : Nat) : Lps := fun _ => none
noncomputable def ctr_ref05_in (N : Nat) : Ctr := ctrOf (.cons (.int .i64) (.cons (.int .i64) (.int .i64))) .bool [] (fun v => ref05_in N v.1 v.2.1 v.2.2)
theorem sound_ref05_in (N : Nat) : SoundF Tryz.prog 43 (fun vs => (ctr_ref05_in N).run vs some) :=
  fn_sound (envok_ref05_in N) mixed (Λ := lam_ref05_in N) (fn := Tryz.f43) (c := c_ref05_in) Tryz.func43 (by kernel_rfl) (by kernel_rfl) (obs_ok (l := []) (by kernel_rfl) obsNil) (by kernel_rfl) (by intro v; kernel_rfl)

noncomputable def c_ref02_Empty : Code := match Tryz.f61.body with | some c => c | none => .skip
noncomputable def tab_ref02_Empty (_ : Nat) : List (Nat × Ctr) := []
noncomputable def env_ref02_Empty (N : Nat) : Env := mkEnv tyRows eqRows methRows [] [] (tab_ref02_Empty N)
theorem envok_ref02_Empty (N : Nat) : EnvOk Tryz.prog (env_ref02_Empty N) := mkEnv_ok tyRows_ok eqRows_ok methRows_ok trivial
noncomputable def lam_ref02_Empty (_ : Nat) : Lps := fun _ => none
noncomputable def ctr_ref02_Empty (N : Nat) : Ctr := ctrOf (.val T_api_Span) .bool [] (fun v => ref02_Empty N v)
theorem sound_ref02_Empty (N : Nat) : SoundF Tryz.prog 61 (fun vs => (ctr_ref02_Empty N).run vs some) :=
  fn_sound (envok_ref02_Empty N) mixed (Λ := lam_ref02_Empty N) (fn := Tryz.f61) (c := c_ref02_Empty) Tryz.func61 (by kernel_rfl) (by kernel_rfl) (obs_ok (l := []) (by kernel_rfl) obsNil) (by kernel_rfl) (by intro v; kernel_rfl)

noncomputable def c_ref05_span : Code := match Tryz.f44.body with | some c => c | none => .skip
noncomputable def tab_ref05_span (N : Nat) : List (Nat × Ctr) := [(61, ctr_ref02_Empty N)]
noncomputable def env_ref05_span (N : Nat) : Env := mkEnv tyRows eqRows methRows [] [] (tab_ref05_span N)
theorem envok_ref05_span (N : Nat) : EnvOk Tryz.prog (env_ref05_span N) := mkEnv_ok tyRows_ok eqRows_ok methRows_ok ⟨sound_ref02_Empty N, trivial⟩
noncomputable def lam_ref05_span (_ : Nat) : Lps := fun _ => none
noncomputable def ctr_ref05_span (N : Nat) : Ctr := ctrOf (.val T_api_Span) .bool [] (fun v => ref05_span N v)
theorem sound_ref05_span (N : Nat) : SoundF Tryz.prog 44 (fun vs => (ctr_ref05_span N).run vs some) :=
  fn_sound (envok_ref05_span N) mixed (Λ := lam_ref05_span N) (fn := Tryz.f44) (c := c_ref05_span) Tryz.func44 (by kernel_rfl) (by kernel_rfl) (obs_ok (l := []) (by kernel_rfl) obsNil) (by kernel_rfl) (by intro v; kernel_rfl)

noncomputable def c_ref05_Valid : Code := match Tryz.f22.body with | some c => c | none => .skip
noncomputable def tab_ref05_Valid (N : Nat) : List (Nat × Ctr) := [(43, ctr_ref05_in N), (44, ctr_ref05_span N), (40, ctr_ref02_Begins N)]
noncomputable def env_ref05_Valid (N : Nat) : Env := mkEnv tyRows eqRows methRows [] [] (tab_ref05_Valid N)
theorem envok_ref05_Valid (N : Nat) : EnvOk Tryz.prog (env_ref05_Valid N) := mkEnv_ok tyRows_ok eqRows_ok methRows_ok ⟨sound_ref05_in N, ⟨sound_ref05_span N, ⟨sound_ref02_Begins N, trivial⟩⟩⟩
noncomputable def cut_ref05_Valid_p0 : Cut := { tms := [1, 4, 14, 66], sh := (.cons (.ptr 2000000 0) (.cons .bool (.cons (.int .i64) .bool))), objs := [(2000000, [1], .box (.cons (.int .i64) (.cons .str (.cons .str (.cons .str (.cons .str (.cons .str (.cons .str (.int .i64)))))))))], sts := [] }
noncomputable def cut_ref05_Valid_p0_o0 : Cut := { tms := [2], sh := .bool, objs := [], sts := [] }
noncomputable def cut_ref05_Valid_p0_o1 : Cut := { tms := [], sh := .nil, objs := [], sts := [] }
noncomputable def lp_ref05_Valid_p0 (N : Nat) : Lp := lpOf cut_ref05_Valid_p0 (1, cut_ref05_Valid_p0_o0) [(0, cut_ref05_Valid_p0_o1)] (fun v => ref05_Valid_p0 N v.1.2.1 v.1.2.2.1 v.1.2.2.2 v.2.1.1 v.2.1.2.1 v.2.1.2.2.1 v.2.1.2.2.2.1 v.2.1.2.2.2.2.1 v.2.1.2.2.2.2.2.1 v.2.1.2.2.2.2.2.2.1 v.2.1.2.2.2.2.2.2.2)
noncomputable def lam_ref05_Valid_p0 (_ : Nat) : Lps := fun _ => none
theorem lpok_ref05_Valid_p0 (N : Nat) (ro : Option Nat) : LpOk Tryz.prog 126 ro (lp_ref05_Valid_p0 N) (codeAt c_ref05_Valid [true, true, false, true, false, true, true, true, true, true, true, true]) :=
  piece_ok (envok_ref05_Valid N) mixed (Λ := lam_ref05_Valid_p0 N) (p := 7551) (obs_ok (l := []) (by kernel_rfl) obsNil) (by kernel_rfl) (by intro v; kernel_rfl)
noncomputable def lam_ref05_Valid (N : Nat) : Lps := fun p => bif Nat.beq p 7551 then some (lp_ref05_Valid_p0 N) else none
noncomputable def ctr_ref05_Valid (N : Nat) : Ctr := ctrOf (.val T_api_Msg) .bool [] (fun v => ref05_Valid N v)
theorem sound_ref05_Valid (N : Nat) : SoundF Tryz.prog 22 (fun vs => (ctr_ref05_Valid N).run vs some) :=
  fn_sound (envok_ref05_Valid N) mixed (Λ := lam_ref05_Valid N) (fn := Tryz.f22) (c := c_ref05_Valid) Tryz.func22 (by kernel_rfl) (by kernel_rfl) (obs_ok (l := [(lp_ref05_Valid_p0 N, (codeAt c_ref05_Valid [true, true, false, true, false, true, true, true, true, true, true, true]))]) (by kernel_rfl) (obsCons (lpok_ref05_Valid_p0 N none) obsNil)) (by kernel_rfl) (by intro v; kernel_rfl)

noncomputable def clone119_ren : Go.Shelf.Ren := ⟨fun | 41 => 119 | n => n, fun | 22 => 25 | 23 => 58 | n => n, fun n => n⟩
theorem clone119 : CloneL Tryz.prog clone119_ren := {
  mixed := by kernel_rfl
  f41 := ⟨Tryz.f119.name, by decide, Tryz.func119.trans (congrArg some (by kernel_rfl))⟩
  t4 := Tryz.underlying4
  a4 := Tryz.isAgg4
  z4 := Tryz.sizeOf4
  v4 := Tryz.zeroValue4
  t22 := Tryz.underlying25
  a22 := Tryz.isAgg25
  z22 := Tryz.sizeOf25
  v22 := Tryz.zeroValue25
  }
noncomputable def c_slices_Clone_s_api_Pair_api_Pair : Code := match Tryz.f119.body with | some c => c | none => .skip
noncomputable def ctr_slices_Clone_s_api_Pair_api_Pair (N : Nat) : Ctr := ctrOf (.list T_api_Pair) (.fresh T_api_Pair) [] (fun v => slices_Clone_s_api_Pair_api_Pair N v)
noncomputable def ti_slices_Clone_s_api_Pair_api_Pair : TI := match findT tyRows 58 with | some t => t | none => ⟨.other, 0, 0, [], none⟩
theorem sound_slices_Clone_s_api_Pair_api_Pair (N : Nat) : SoundF Tryz.prog 119 (fun vs => (ctr_slices_Clone_s_api_Pair_api_Pair N).run vs some) := by
  have e1 : clone119_ren.f 41 = 119 := by kernel_rfl
  have e2 : clone119_ren.t 23 = 58 := by kernel_rfl
  have h := clone_sound clone119 (ei := ti_slices_Clone_s_api_Pair_api_Pair) (ty := T_api_Pair) (fn := Tryz.f119) (c := c_slices_Clone_s_api_Pair_api_Pair) (by rw [e2]; exact findT_ok tyRows_ok 58 _ (by kernel_rfl)) (by kernel_rfl) (by rw [e1]; exact Tryz.func119) (by kernel_rfl) (by kernel_rfl)
  rw [e1, show ti_slices_Clone_s_api_Pair_api_Pair.bytes = 40 by kernel_rfl] at h
  exact h

noncomputable def insert120_ren : Go.Shelf.Ren := ⟨fun | 22 => 120 | 29 => 121 | 30 => 122 | n => n, fun | 24 => 25 | 9 => 58 | n => n, fun n => n⟩
theorem insert120 : InsertL Tryz.prog insert120_ren := {
  mixed := by kernel_rfl
  f22 := ⟨Tryz.f120.name, by decide, Tryz.func120.trans (congrArg some (by kernel_rfl))⟩
  over := ⟨Tryz.f121, Tryz.func121, by kernel_rfl, by kernel_rfl, by kernel_rfl, by kernel_rfl⟩
  t0 := Tryz.underlying0
  a0 := Tryz.isAgg0
  z0 := Tryz.sizeOf0
  v0 := Tryz.zeroValue0
  t3 := Tryz.underlying3
  a3 := Tryz.isAgg3
  z3 := Tryz.sizeOf3
  v3 := Tryz.zeroValue3
  t4 := Tryz.underlying4
  a4 := Tryz.isAgg4
  z4 := Tryz.sizeOf4
  v4 := Tryz.zeroValue4
  t24 := Tryz.underlying25
  a24 := Tryz.isAgg25
  z24 := Tryz.sizeOf25
  v24 := Tryz.zeroValue25
  }
noncomputable def c_slices_Insert_s_api_Pair_api_Pair_m : Code := match Tryz.f120.body with | some c => c | none => .skip
noncomputable def ctr_slices_Insert_s_api_Pair_api_Pair_m (N : Nat) : CtrM := ctrM (insIn T_api_Pair) (insOut T_api_Pair) [] (fun v => slices_Insert_s_api_Pair_api_Pair_m N v.1.2.1 v.2.1 v.2.2.1)
noncomputable def ti_slices_Insert_s_api_Pair_api_Pair_m : TI := match findT tyRows 58 with | some t => t | none => ⟨.other, 0, 0, [], none⟩
theorem sound_slices_Insert_s_api_Pair_api_Pair_m (N : Nat) : SoundM Tryz.prog 120 (ctr_slices_Insert_s_api_Pair_api_Pair_m N) := by
  have e1 : insert120_ren.f 22 = 120 := by kernel_rfl
  have e2 : insert120_ren.t 9 = 58 := by kernel_rfl
  have h := insert_sound insert120 (ei := ti_slices_Insert_s_api_Pair_api_Pair_m) (ty := T_api_Pair) (fn := Tryz.f120) (c := c_slices_Insert_s_api_Pair_api_Pair_m) (by rw [e2]; exact findT_ok tyRows_ok 58 _ (by kernel_rfl)) (by kernel_rfl) (by rw [e1]; exact Tryz.func120) (by kernel_rfl) (by kernel_rfl) (by kernel_rfl)
  rw [e1, show ti_slices_Insert_s_api_Pair_api_Pair_m.bytes = 40 by kernel_rfl] at h
  exact h

noncomputable def c_table_Put : Code := match Tryz.f117.body with | some c => c | none => .skip
noncomputable def tab_table_Put (N : Nat) : List (Nat × Ctr) := [(60, ctr_table_place N), (119, ctr_slices_Clone_s_api_Pair_api_Pair N)]
noncomputable def tabm_table_Put (N : Nat) : List (Nat × CtrM) := [(120, ctr_slices_Insert_s_api_Pair_api_Pair_m N)]
noncomputable def env_table_Put (N : Nat) : Env := mkEnv tyRows eqRows methRows [] [27] (tab_table_Put N) (tabm_table_Put N)
theorem envok_table_Put (N : Nat) : EnvOk Tryz.prog (env_table_Put N) := mkEnv_ok tyRows_ok eqRows_ok methRows_ok ⟨sound_table_place N, ⟨sound_slices_Clone_s_api_Pair_api_Pair N, trivial⟩⟩ ⟨sound_slices_Insert_s_api_Pair_api_Pair_m N, trivial⟩
noncomputable def lam_table_Put (_ : Nat) : Lps := fun _ => none
noncomputable def ctr_table_Put (N : Nat) : Ctr := ctrOf (.cons (.list T_api_Pair) (.val T_api_Pair)) (.fresh T_api_Pair) [] (fun v => table_Put N v.1 v.2)
theorem sound_table_Put (N : Nat) : SoundF Tryz.prog 117 (fun vs => (ctr_table_Put N).run vs some) :=
  fn_sound (envok_table_Put N) mixed (Λ := lam_table_Put N) (fn := Tryz.f117) (c := c_table_Put) Tryz.func117 (by kernel_rfl) (by kernel_rfl) (obs_ok (l := []) (by kernel_rfl) obsNil) (by kernel_rfl) (by intro v; kernel_rfl)

noncomputable def c_msg_put_apply : Code := match Tryz.f111.body with | some c => c | none => .skip
noncomputable def tab_msg_put_apply (N : Nat) : List (Nat × Ctr) := [(117, ctr_table_Put N)]
noncomputable def env_msg_put_apply (N : Nat) : Env := mkEnv tyRows eqRows methRows [] [] (tab_msg_put_apply N)
theorem envok_msg_put_apply (N : Nat) : EnvOk Tryz.prog (env_msg_put_apply N) := mkEnv_ok tyRows_ok eqRows_ok methRows_ok ⟨sound_table_Put N, trivial⟩
noncomputable def lam_msg_put_apply (_ : Nat) : Lps := fun _ => none
noncomputable def ctr_msg_put_apply (N : Nat) : Ctr := ctrOf (.cons (.val T_api_Msg) (.list T_api_Pair)) (.fresh T_api_Pair) [] (fun v => msg_put_apply N v.1 v.2)
theorem sound_msg_put_apply (N : Nat) : SoundF Tryz.prog 111 (fun vs => (ctr_msg_put_apply N).run vs some) :=
  fn_sound (envok_msg_put_apply N) mixed (Λ := lam_msg_put_apply N) (fn := Tryz.f111) (c := c_msg_put_apply) Tryz.func111 (by kernel_rfl) (by kernel_rfl) (obs_ok (l := []) (by kernel_rfl) obsNil) (by kernel_rfl) (by intro v; kernel_rfl)

noncomputable def grow134_ren : Go.Shelf.Ren := ⟨fun | 4 => 134 | n => n, fun | 22 => 25 | 25 => 58 | n => n, fun n => n⟩
theorem grow134 : Go.Proofs.Lays8.n4 Tryz.prog grow134_ren := {
  mixed := by kernel_rfl
  f4 := ⟨Tryz.f134.name, by decide, Tryz.func134.trans (congrArg some (by kernel_rfl))⟩
  t0 := Tryz.underlying0
  a0 := Tryz.isAgg0
  z0 := Tryz.sizeOf0
  v0 := Tryz.zeroValue0
  t3 := Tryz.underlying3
  a3 := Tryz.isAgg3
  z3 := Tryz.sizeOf3
  v3 := Tryz.zeroValue3
  t4 := Tryz.underlying4
  a4 := Tryz.isAgg4
  z4 := Tryz.sizeOf4
  v4 := Tryz.zeroValue4
  t9 := Tryz.underlying9
  a9 := Tryz.isAgg9
  z9 := Tryz.sizeOf9
  v9 := Tryz.zeroValue9
  t20 := Tryz.underlying20
  a20 := Tryz.isAgg20
  z20 := Tryz.sizeOf20
  v20 := Tryz.zeroValue20
  t22 := Tryz.underlying25
  a22 := Tryz.isAgg25
  z22 := Tryz.sizeOf25
  v22 := Tryz.zeroValue25
  }
noncomputable def c_slices_Grow_s_api_Pair_api_Pair_nil : Code := match Tryz.f134.body with | some c => c | none => .skip
noncomputable def ctr_slices_Grow_s_api_Pair_api_Pair_nil (_ : Nat) : Ctr := ctrOf (.cons .nils (.int .i64)) (.fresh T_api_Pair) [] (growF T_api_Pair 40)
noncomputable def ti_slices_Grow_s_api_Pair_api_Pair_nil : TI := match findT tyRows 58 with | some t => t | none => ⟨.other, 0, 0, [], none⟩
theorem sound_slices_Grow_s_api_Pair_api_Pair_nil (N : Nat) : SoundF Tryz.prog 134 (fun vs => (ctr_slices_Grow_s_api_Pair_api_Pair_nil N).run vs some) := by
  have e1 : grow134_ren.f 4 = 134 := by kernel_rfl
  have e2 : grow134_ren.t 25 = 58 := by kernel_rfl
  have h := grow_sound grow134 (ei := ti_slices_Grow_s_api_Pair_api_Pair_nil) (ty := T_api_Pair) (fn := Tryz.f134) (c := c_slices_Grow_s_api_Pair_api_Pair_nil) (by rw [e2]; exact findT_ok tyRows_ok 58 _ (by kernel_rfl)) (by kernel_rfl) (by rw [e1]; exact Tryz.func134) (by kernel_rfl) (by kernel_rfl)
  rw [e1, show ti_slices_Grow_s_api_Pair_api_Pair_nil.bytes = 40 by kernel_rfl] at h
  exact h

noncomputable def c_slices_Concat_s_api_Pair_api_Pair : Code := match Tryz.f133.body with | some c => c | none => .skip
noncomputable def tab_slices_Concat_s_api_Pair_api_Pair (N : Nat) : List (Nat × Ctr) := [(134, ctr_slices_Grow_s_api_Pair_api_Pair_nil N)]
noncomputable def env_slices_Concat_s_api_Pair_api_Pair (N : Nat) : Env := mkEnv tyRows eqRows methRows [] [] (tab_slices_Concat_s_api_Pair_api_Pair N)
theorem envok_slices_Concat_s_api_Pair_api_Pair (N : Nat) : EnvOk Tryz.prog (env_slices_Concat_s_api_Pair_api_Pair N) := mkEnv_ok tyRows_ok eqRows_ok methRows_ok ⟨sound_slices_Grow_s_api_Pair_api_Pair_nil N, trivial⟩
noncomputable def cut_slices_Concat_s_api_Pair_api_Pair_l1 : Cut := { tms := [6, 25, 26, 27], sh := (.cons (.own 2000000) (.cons (.list (.list T_api_Pair)) (.cons (.int .i64) (.int .i64)))), objs := [(2000000, [6], .sl T_api_Pair)], sts := [] }
noncomputable def cut_slices_Concat_s_api_Pair_api_Pair_l1_o0 : Cut := { tms := [6], sh := (.own 2000000), objs := [(2000000, [6], .sl T_api_Pair)], sts := [] }
noncomputable def lp_slices_Concat_s_api_Pair_api_Pair_l1 (N : Nat) : Lp := lpOf cut_slices_Concat_s_api_Pair_api_Pair_l1 (4, cut_slices_Concat_s_api_Pair_api_Pair_l1_o0) [] (fun v => slices_Concat_s_api_Pair_api_Pair_l1 N N v.1.2.1 v.1.2.2.1 v.1.2.2.2 v.2.1)
noncomputable def lam_slices_Concat_s_api_Pair_api_Pair_l1 (_ : Nat) : Lps := fun _ => none
theorem lpok_slices_Concat_s_api_Pair_api_Pair_l1 (N : Nat) (ro : Option Nat) : LpOk Tryz.prog 36 ro (lp_slices_Concat_s_api_Pair_api_Pair_l1 N) (codeAt c_slices_Concat_s_api_Pair_api_Pair [true, true, true, true, false, true, false]) := by
  rw [show (codeAt c_slices_Concat_s_api_Pair_api_Pair [true, true, true, true, false, true, false]) = .loop (codeAt c_slices_Concat_s_api_Pair_api_Pair [true, true, true, true, false, true, false, false]) by kernel_rfl]
  exact loop_ok (envok_slices_Concat_s_api_Pair_api_Pair N) mixed (Λ := lam_slices_Concat_s_api_Pair_api_Pair_l1 N) (p := 500) (obs_ok (l := []) (by kernel_rfl) obsNil) (by kernel_rfl) (by intro rec v; kernel_rfl) N
noncomputable def cut_slices_Concat_s_api_Pair_api_Pair_l0 : Cut := { tms := [0, 3, 9, 10, 11], sh := (.cons (.list (.list T_api_Pair)) (.cons (.int .i64) (.cons (.list (.list T_api_Pair)) (.cons (.int .i64) (.int .i64))))), objs := [], sts := [] }
noncomputable def cut_slices_Concat_s_api_Pair_api_Pair_l0_o0 : Cut := { tms := [0, 3], sh := (.cons (.list (.list T_api_Pair)) (.int .i64)), objs := [], sts := [] }
noncomputable def lp_slices_Concat_s_api_Pair_api_Pair_l0 (N : Nat) : Lp := lpOf cut_slices_Concat_s_api_Pair_api_Pair_l0 (2, cut_slices_Concat_s_api_Pair_api_Pair_l0_o0) [] (fun v => slices_Concat_s_api_Pair_api_Pair_l0 N N v.1.1 v.1.2.1 v.1.2.2.1 v.1.2.2.2.1 v.1.2.2.2.2)
noncomputable def lam_slices_Concat_s_api_Pair_api_Pair_l0 (_ : Nat) : Lps := fun _ => none
theorem lpok_slices_Concat_s_api_Pair_api_Pair_l0 (N : Nat) (ro : Option Nat) : LpOk Tryz.prog 36 ro (lp_slices_Concat_s_api_Pair_api_Pair_l0 N) (codeAt c_slices_Concat_s_api_Pair_api_Pair [true, true, false, true, false]) := by
  rw [show (codeAt c_slices_Concat_s_api_Pair_api_Pair [true, true, false, true, false]) = .loop (codeAt c_slices_Concat_s_api_Pair_api_Pair [true, true, false, true, false, false]) by kernel_rfl]
  exact loop_ok (envok_slices_Concat_s_api_Pair_api_Pair N) mixed (Λ := lam_slices_Concat_s_api_Pair_api_Pair_l0 N) (p := 116) (obs_ok (l := []) (by kernel_rfl) obsNil) (by kernel_rfl) (by intro rec v; kernel_rfl) N
noncomputable def lam_slices_Concat_s_api_Pair_api_Pair (N : Nat) : Lps := fun p => bif Nat.beq p 58 then some (lp_slices_Concat_s_api_Pair_api_Pair_l0 N) else bif Nat.beq p 250 then some (lp_slices_Concat_s_api_Pair_api_Pair_l1 N) else none
noncomputable def ctr_slices_Concat_s_api_Pair_api_Pair (N : Nat) : Ctr := ctrOf (.list (.list T_api_Pair)) (.fresh T_api_Pair) [] (fun v => slices_Concat_s_api_Pair_api_Pair N v)
theorem sound_slices_Concat_s_api_Pair_api_Pair (N : Nat) : SoundF Tryz.prog 133 (fun vs => (ctr_slices_Concat_s_api_Pair_api_Pair N).run vs some) :=
  fn_sound (envok_slices_Concat_s_api_Pair_api_Pair N) mixed (Λ := lam_slices_Concat_s_api_Pair_api_Pair N) (fn := Tryz.f133) (c := c_slices_Concat_s_api_Pair_api_Pair) Tryz.func133 (by kernel_rfl) (by kernel_rfl) (obs_ok (l := [(lp_slices_Concat_s_api_Pair_api_Pair_l0 N, (codeAt c_slices_Concat_s_api_Pair_api_Pair [true, true, false, true, false])), (lp_slices_Concat_s_api_Pair_api_Pair_l1 N, (codeAt c_slices_Concat_s_api_Pair_api_Pair [true, true, true, true, false, true, false]))]) (by kernel_rfl) (obsCons (lpok_slices_Concat_s_api_Pair_api_Pair_l0 N none) (obsCons (lpok_slices_Concat_s_api_Pair_api_Pair_l1 N none) obsNil))) (by kernel_rfl) (by intro v; kernel_rfl)

noncomputable def c_table_Drop : Code := match Tryz.f132.body with | some c => c | none => .skip
noncomputable def tab_table_Drop (N : Nat) : List (Nat × Ctr) := [(42, ctr_table_bounds N), (133, ctr_slices_Concat_s_api_Pair_api_Pair N)]
noncomputable def env_table_Drop (N : Nat) : Env := mkEnv tyRows eqRows methRows [] [] (tab_table_Drop N)
theorem envok_table_Drop (N : Nat) : EnvOk Tryz.prog (env_table_Drop N) := mkEnv_ok tyRows_ok eqRows_ok methRows_ok ⟨sound_table_bounds N, ⟨sound_slices_Concat_s_api_Pair_api_Pair N, trivial⟩⟩
noncomputable def lam_table_Drop (_ : Nat) : Lps := fun _ => none
noncomputable def ctr_table_Drop (N : Nat) : Ctr := ctrOf (.cons (.list T_api_Pair) (.val T_api_Span)) (.fresh T_api_Pair) [] (fun v => table_Drop N v.1 v.2)
theorem sound_table_Drop (N : Nat) : SoundF Tryz.prog 132 (fun vs => (ctr_table_Drop N).run vs some) :=
  fn_sound (envok_table_Drop N) mixed (Λ := lam_table_Drop N) (fn := Tryz.f132) (c := c_table_Drop) Tryz.func132 (by kernel_rfl) (by kernel_rfl) (obs_ok (l := []) (by kernel_rfl) obsNil) (by kernel_rfl) (by intro v; kernel_rfl)

noncomputable def c_table_Del : Code := match Tryz.f131.body with | some c => c | none => .skip
noncomputable def tab_table_Del (N : Nat) : List (Nat × Ctr) := [(118, ctr_span_One N), (132, ctr_table_Drop N)]
noncomputable def env_table_Del (N : Nat) : Env := mkEnv tyRows eqRows methRows [] [] (tab_table_Del N)
theorem envok_table_Del (N : Nat) : EnvOk Tryz.prog (env_table_Del N) := mkEnv_ok tyRows_ok eqRows_ok methRows_ok ⟨sound_span_One N, ⟨sound_table_Drop N, trivial⟩⟩
noncomputable def lam_table_Del (_ : Nat) : Lps := fun _ => none
noncomputable def ctr_table_Del (N : Nat) : Ctr := ctrOf (.cons (.list T_api_Pair) .str) (.fresh T_api_Pair) [] (fun v => table_Del N v.1 v.2)
theorem sound_table_Del (N : Nat) : SoundF Tryz.prog 131 (fun vs => (ctr_table_Del N).run vs some) :=
  fn_sound (envok_table_Del N) mixed (Λ := lam_table_Del N) (fn := Tryz.f131) (c := c_table_Del) Tryz.func131 (by kernel_rfl) (by kernel_rfl) (obs_ok (l := []) (by kernel_rfl) obsNil) (by kernel_rfl) (by intro v; kernel_rfl)

noncomputable def c_msg_del_apply : Code := match Tryz.f125.body with | some c => c | none => .skip
noncomputable def tab_msg_del_apply (N : Nat) : List (Nat × Ctr) := [(131, ctr_table_Del N)]
noncomputable def env_msg_del_apply (N : Nat) : Env := mkEnv tyRows eqRows methRows [] [] (tab_msg_del_apply N)
theorem envok_msg_del_apply (N : Nat) : EnvOk Tryz.prog (env_msg_del_apply N) := mkEnv_ok tyRows_ok eqRows_ok methRows_ok ⟨sound_table_Del N, trivial⟩
noncomputable def lam_msg_del_apply (_ : Nat) : Lps := fun _ => none
noncomputable def ctr_msg_del_apply (N : Nat) : Ctr := ctrOf (.cons (.val T_api_Msg) (.list T_api_Pair)) (.fresh T_api_Pair) [] (fun v => msg_del_apply N v.1 v.2)
theorem sound_msg_del_apply (N : Nat) : SoundF Tryz.prog 125 (fun vs => (ctr_msg_del_apply N).run vs some) :=
  fn_sound (envok_msg_del_apply N) mixed (Λ := lam_msg_del_apply N) (fn := Tryz.f125) (c := c_msg_del_apply) Tryz.func125 (by kernel_rfl) (by kernel_rfl) (obs_ok (l := []) (by kernel_rfl) obsNil) (by kernel_rfl) (by intro v; kernel_rfl)

noncomputable def c_msg_drop_apply : Code := match Tryz.f135.body with | some c => c | none => .skip
noncomputable def tab_msg_drop_apply (N : Nat) : List (Nat × Ctr) := [(132, ctr_table_Drop N)]
noncomputable def env_msg_drop_apply (N : Nat) : Env := mkEnv tyRows eqRows methRows [] [] (tab_msg_drop_apply N)
theorem envok_msg_drop_apply (N : Nat) : EnvOk Tryz.prog (env_msg_drop_apply N) := mkEnv_ok tyRows_ok eqRows_ok methRows_ok ⟨sound_table_Drop N, trivial⟩
noncomputable def lam_msg_drop_apply (_ : Nat) : Lps := fun _ => none
noncomputable def ctr_msg_drop_apply (N : Nat) : Ctr := ctrOf (.cons (.val T_api_Msg) (.list T_api_Pair)) (.fresh T_api_Pair) [] (fun v => msg_drop_apply N v.1 v.2)
theorem sound_msg_drop_apply (N : Nat) : SoundF Tryz.prog 135 (fun vs => (ctr_msg_drop_apply N).run vs some) :=
  fn_sound (envok_msg_drop_apply N) mixed (Λ := lam_msg_drop_apply N) (fn := Tryz.f135) (c := c_msg_drop_apply) Tryz.func135 (by kernel_rfl) (by kernel_rfl) (obs_ok (l := []) (by kernel_rfl) obsNil) (by kernel_rfl) (by intro v; kernel_rfl)

noncomputable def c_msg_moved : Code := match Tryz.f149.body with | some c => c | none => .skip
noncomputable def tab_msg_moved (N : Nat) : List (Nat × Ctr) := [(52, ctr_span_Prefix N), (20, ctr_table_Range N), (119, ctr_slices_Clone_s_api_Pair_api_Pair N), (53, ctr_span_Moved N)]
noncomputable def env_msg_moved (N : Nat) : Env := mkEnv tyRows eqRows methRows [] [] (tab_msg_moved N)
theorem envok_msg_moved (N : Nat) : EnvOk Tryz.prog (env_msg_moved N) := mkEnv_ok tyRows_ok eqRows_ok methRows_ok ⟨sound_span_Prefix N, ⟨sound_table_Range N, ⟨sound_slices_Clone_s_api_Pair_api_Pair N, ⟨sound_span_Moved N, trivial⟩⟩⟩⟩
noncomputable def cut_msg_moved_l0 : Cut := { tms := [1, 2, 7, 15, 16], sh := (.cons .str (.cons .str (.cons (.own 2000000) (.cons (.int .i64) (.int .i64))))), objs := [(2000000, [7], .sl T_api_Pair)], sts := [] }
noncomputable def cut_msg_moved_l0_o0 : Cut := { tms := [7], sh := (.own 2000000), objs := [(2000000, [7], .sl T_api_Pair)], sts := [] }
noncomputable def lp_msg_moved_l0 (N : Nat) : Lp := lpOf cut_msg_moved_l0 (2, cut_msg_moved_l0_o0) [] (fun v => msg_moved_l0 N N v.1.1 v.1.2.1 v.1.2.2.2.1 v.1.2.2.2.2 v.2.1)
noncomputable def lam_msg_moved_l0 (_ : Nat) : Lps := fun _ => none
theorem lpok_msg_moved_l0 (N : Nat) (ro : Option Nat) : LpOk Tryz.prog 36 ro (lp_msg_moved_l0 N) (codeAt c_msg_moved [true, true, false, true, false]) := by
  rw [show (codeAt c_msg_moved [true, true, false, true, false]) = .loop (codeAt c_msg_moved [true, true, false, true, false, false]) by kernel_rfl]
  exact loop_ok (envok_msg_moved N) mixed (Λ := lam_msg_moved_l0 N) (p := 116) (obs_ok (l := []) (by kernel_rfl) obsNil) (by kernel_rfl) (by intro rec v; kernel_rfl) N
noncomputable def lam_msg_moved (N : Nat) : Lps := fun p => bif Nat.beq p 58 then some (lp_msg_moved_l0 N) else none
noncomputable def ctr_msg_moved (N : Nat) : Ctr := ctrOf (.cons (.list T_api_Pair) (.cons .str .str)) (.fresh T_api_Pair) [] (fun v => msg_moved N v.1 v.2.1 v.2.2)
theorem sound_msg_moved (N : Nat) : SoundF Tryz.prog 149 (fun vs => (ctr_msg_moved N).run vs some) :=
  fn_sound (envok_msg_moved N) mixed (Λ := lam_msg_moved N) (fn := Tryz.f149) (c := c_msg_moved) Tryz.func149 (by kernel_rfl) (by kernel_rfl) (obs_ok (l := [(lp_msg_moved_l0 N, (codeAt c_msg_moved [true, true, false, true, false]))]) (by kernel_rfl) (obsCons (lpok_msg_moved_l0 N none) obsNil)) (by kernel_rfl) (by intro v; kernel_rfl)

noncomputable def c_table_Union : Code := match Tryz.f148.body with | some c => c | none => .skip
noncomputable def tab_table_Union (_ : Nat) : List (Nat × Ctr) := []
noncomputable def env_table_Union (N : Nat) : Env := mkEnv tyRows eqRows methRows [] [] (tab_table_Union N)
theorem envok_table_Union (N : Nat) : EnvOk Tryz.prog (env_table_Union N) := mkEnv_ok tyRows_ok eqRows_ok methRows_ok trivial
noncomputable def cut_table_Union_l0 : Cut := { tms := [0, 1, 5], sh := (.cons (.list T_api_Pair) (.cons (.list T_api_Pair) (.own 2000000))), objs := [(2000000, [5], .sl T_api_Pair)], sts := [] }
noncomputable def cut_table_Union_l0_o0 : Cut := { tms := [0, 1, 5], sh := (.cons (.list T_api_Pair) (.cons (.list T_api_Pair) (.own 2000000))), objs := [(2000000, [5], .sl T_api_Pair)], sts := [] }
noncomputable def lp_table_Union_l0 (N : Nat) : Lp := lpOf cut_table_Union_l0 (2, cut_table_Union_l0_o0) [] (fun v => table_Union_l0 N N v.1.1 v.1.2.1 v.2.1)
noncomputable def lam_table_Union_l0 (_ : Nat) : Lps := fun _ => none
theorem lpok_table_Union_l0 (N : Nat) (ro : Option Nat) : LpOk Tryz.prog 64 ro (lp_table_Union_l0 N) (codeAt c_table_Union [true, false, true, true, false, false]) := by
  rw [show (codeAt c_table_Union [true, false, true, true, false, false]) = .loop (codeAt c_table_Union [true, false, true, true, false, false, false]) by kernel_rfl]
  exact loop_ok (envok_table_Union N) mixed (Λ := lam_table_Union_l0 N) (p := 216) (obs_ok (l := []) (by kernel_rfl) obsNil) (by kernel_rfl) (by intro rec v; kernel_rfl) N
noncomputable def lam_table_Union (N : Nat) : Lps := fun p => bif Nat.beq p 108 then some (lp_table_Union_l0 N) else none
noncomputable def ctr_table_Union (N : Nat) : Ctr := ctrOf (.cons (.list T_api_Pair) (.list T_api_Pair)) (.fresh T_api_Pair) [] (fun v => table_Union N v.1 v.2)
theorem sound_table_Union (N : Nat) : SoundF Tryz.prog 148 (fun vs => (ctr_table_Union N).run vs some) :=
  fn_sound (envok_table_Union N) mixed (Λ := lam_table_Union N) (fn := Tryz.f148) (c := c_table_Union) Tryz.func148 (by kernel_rfl) (by kernel_rfl) (obs_ok (l := [(lp_table_Union_l0 N, (codeAt c_table_Union [true, false, true, true, false, false]))]) (by kernel_rfl) (obsCons (lpok_table_Union_l0 N none) obsNil)) (by kernel_rfl) (by intro v; kernel_rfl)

noncomputable def c_msg_clone_apply : Code := match Tryz.f147.body with | some c => c | none => .skip
noncomputable def tab_msg_clone_apply (N : Nat) : List (Nat × Ctr) := [(52, ctr_span_Prefix N), (132, ctr_table_Drop N), (149, ctr_msg_moved N), (148, ctr_table_Union N)]
noncomputable def env_msg_clone_apply (N : Nat) : Env := mkEnv tyRows eqRows methRows [] [] (tab_msg_clone_apply N)
theorem envok_msg_clone_apply (N : Nat) : EnvOk Tryz.prog (env_msg_clone_apply N) := mkEnv_ok tyRows_ok eqRows_ok methRows_ok ⟨sound_span_Prefix N, ⟨sound_table_Drop N, ⟨sound_msg_moved N, ⟨sound_table_Union N, trivial⟩⟩⟩⟩
noncomputable def lam_msg_clone_apply (_ : Nat) : Lps := fun _ => none
noncomputable def ctr_msg_clone_apply (N : Nat) : Ctr := ctrOf (.cons (.val T_api_Msg) (.list T_api_Pair)) (.fresh T_api_Pair) [] (fun v => msg_clone_apply N v.1 v.2)
theorem sound_msg_clone_apply (N : Nat) : SoundF Tryz.prog 147 (fun vs => (ctr_msg_clone_apply N).run vs some) :=
  fn_sound (envok_msg_clone_apply N) mixed (Λ := lam_msg_clone_apply N) (fn := Tryz.f147) (c := c_msg_clone_apply) Tryz.func147 (by kernel_rfl) (by kernel_rfl) (obs_ok (l := []) (by kernel_rfl) obsNil) (by kernel_rfl) (by intro v; kernel_rfl)

noncomputable def c_msg_move_apply : Code := match Tryz.f141.body with | some c => c | none => .skip
noncomputable def tab_msg_move_apply (N : Nat) : List (Nat × Ctr) := [(147, ctr_msg_clone_apply N), (52, ctr_span_Prefix N), (132, ctr_table_Drop N)]
noncomputable def env_msg_move_apply (N : Nat) : Env := mkEnv tyRows eqRows methRows [] [] (tab_msg_move_apply N)
theorem envok_msg_move_apply (N : Nat) : EnvOk Tryz.prog (env_msg_move_apply N) := mkEnv_ok tyRows_ok eqRows_ok methRows_ok ⟨sound_msg_clone_apply N, ⟨sound_span_Prefix N, ⟨sound_table_Drop N, trivial⟩⟩⟩
noncomputable def lam_msg_move_apply (_ : Nat) : Lps := fun _ => none
noncomputable def ctr_msg_move_apply (N : Nat) : Ctr := ctrOf (.cons (.val T_api_Msg) (.list T_api_Pair)) (.fresh T_api_Pair) [] (fun v => msg_move_apply N v.1 v.2)
theorem sound_msg_move_apply (N : Nat) : SoundF Tryz.prog 141 (fun vs => (ctr_msg_move_apply N).run vs some) :=
  fn_sound (envok_msg_move_apply N) mixed (Λ := lam_msg_move_apply N) (fn := Tryz.f141) (c := c_msg_move_apply) Tryz.func141 (by kernel_rfl) (by kernel_rfl) (obs_ok (l := []) (by kernel_rfl) obsNil) (by kernel_rfl) (by intro v; kernel_rfl)

noncomputable def c_msg_stamp_apply : Code := match Tryz.f155.body with | some c => c | none => .skip
noncomputable def tab_msg_stamp_apply (N : Nat) : List (Nat × Ctr) := [(119, ctr_slices_Clone_s_api_Pair_api_Pair N), (77, ctr_span_Has N)]
noncomputable def env_msg_stamp_apply (N : Nat) : Env := mkEnv tyRows eqRows methRows [] [] (tab_msg_stamp_apply N)
theorem envok_msg_stamp_apply (N : Nat) : EnvOk Tryz.prog (env_msg_stamp_apply N) := mkEnv_ok tyRows_ok eqRows_ok methRows_ok ⟨sound_slices_Clone_s_api_Pair_api_Pair N, ⟨sound_span_Has N, trivial⟩⟩
noncomputable def cut_msg_stamp_apply_l0 : Cut := { tms := [2, 5, 10, 11], sh := (.cons (.ptr 2000000 0) (.cons (.own 2000001) (.cons (.int .i64) (.int .i64)))), objs := [(2000000, [2], .box (.cons (.int .i64) (.cons .str (.cons .str (.cons .str (.cons .str (.cons .str (.cons .str (.int .i64))))))))), (2000001, [5], .sl T_api_Pair)], sts := [] }
noncomputable def cut_msg_stamp_apply_l0_o0 : Cut := { tms := [5], sh := (.own 2000000), objs := [(2000000, [5], .sl T_api_Pair)], sts := [] }
noncomputable def lp_msg_stamp_apply_l0 (N : Nat) : Lp := lpOf cut_msg_stamp_apply_l0 (2, cut_msg_stamp_apply_l0_o0) [] (fun v => msg_stamp_apply_l0 N N v.1.2.2.1 v.1.2.2.2 v.2.1.1 v.2.1.2.1 v.2.1.2.2.1 v.2.1.2.2.2.1 v.2.1.2.2.2.2.1 v.2.1.2.2.2.2.2.1 v.2.1.2.2.2.2.2.2.1 v.2.1.2.2.2.2.2.2.2 v.2.2.1)
noncomputable def lam_msg_stamp_apply_l0 (_ : Nat) : Lps := fun _ => none
theorem lpok_msg_stamp_apply_l0 (N : Nat) (ro : Option Nat) : LpOk Tryz.prog 30 ro (lp_msg_stamp_apply_l0 N) (codeAt c_msg_stamp_apply [true, true, false, true, false]) := by
  rw [show (codeAt c_msg_stamp_apply [true, true, false, true, false]) = .loop (codeAt c_msg_stamp_apply [true, true, false, true, false, false]) by kernel_rfl]
  exact loop_ok (envok_msg_stamp_apply N) mixed (Λ := lam_msg_stamp_apply_l0 N) (p := 116) (obs_ok (l := []) (by kernel_rfl) obsNil) (by kernel_rfl) (by intro rec v; kernel_rfl) N
noncomputable def lam_msg_stamp_apply (N : Nat) : Lps := fun p => bif Nat.beq p 58 then some (lp_msg_stamp_apply_l0 N) else none
noncomputable def ctr_msg_stamp_apply (N : Nat) : Ctr := ctrOf (.cons (.val T_api_Msg) (.list T_api_Pair)) (.fresh T_api_Pair) [] (fun v => msg_stamp_apply N v.1 v.2)
theorem sound_msg_stamp_apply (N : Nat) : SoundF Tryz.prog 155 (fun vs => (ctr_msg_stamp_apply N).run vs some) :=
  fn_sound (envok_msg_stamp_apply N) mixed (Λ := lam_msg_stamp_apply N) (fn := Tryz.f155) (c := c_msg_stamp_apply) Tryz.func155 (by kernel_rfl) (by kernel_rfl) (obs_ok (l := [(lp_msg_stamp_apply_l0 N, (codeAt c_msg_stamp_apply [true, true, false, true, false]))]) (by kernel_rfl) (obsCons (lpok_msg_stamp_apply_l0 N none) obsNil)) (by kernel_rfl) (by intro v; kernel_rfl)

noncomputable def c_msg_Apply : Code := match Tryz.f25.body with | some c => c | none => .skip
noncomputable def tab_msg_Apply (N : Nat) : List (Nat × Ctr) := [(45, ctr_msg_of N), (111, ctr_msg_put_apply N), (125, ctr_msg_del_apply N), (135, ctr_msg_drop_apply N), (141, ctr_msg_move_apply N), (147, ctr_msg_clone_apply N), (155, ctr_msg_stamp_apply N)]
noncomputable def env_msg_Apply (N : Nat) : Env := mkEnv tyRows eqRows methRows [(endKey, [12])] [] (tab_msg_Apply N)
theorem envok_msg_Apply (N : Nat) : EnvOk Tryz.prog (env_msg_Apply N) := mkEnv_ok tyRows_ok eqRows_ok methRows_ok ⟨sound_msg_of N, ⟨sound_msg_put_apply N, ⟨sound_msg_del_apply N, ⟨sound_msg_drop_apply N, ⟨sound_msg_move_apply N, ⟨sound_msg_clone_apply N, ⟨sound_msg_stamp_apply N, trivial⟩⟩⟩⟩⟩⟩⟩
noncomputable def lam_msg_Apply (_ : Nat) : Lps := fun _ => none
noncomputable def ctr_msg_Apply (N : Nat) : Ctr := ctrOf (.cons (.list T_api_Pair) (.val T_api_Msg)) (.list T_api_Pair) [] (fun v => msg_Apply N v.1 v.2)
theorem sound_msg_Apply (N : Nat) : SoundF Tryz.prog 25 (fun vs => (ctr_msg_Apply N).run vs some) :=
  fn_sound (envok_msg_Apply N) mixed (Λ := lam_msg_Apply N) (fn := Tryz.f25) (c := c_msg_Apply) Tryz.func25 (by kernel_rfl) (by kernel_rfl) (obs_ok (l := []) (by kernel_rfl) obsNil) (by kernel_rfl) (by intro v; kernel_rfl)

noncomputable def c_msg_All : Code := match Tryz.f24.body with | some c => c | none => .skip
noncomputable def tab_msg_All (N : Nat) : List (Nat × Ctr) := [(25, ctr_msg_Apply N)]
noncomputable def env_msg_All (N : Nat) : Env := mkEnv tyRows eqRows methRows [] [] (tab_msg_All N)
theorem envok_msg_All (N : Nat) : EnvOk Tryz.prog (env_msg_All N) := mkEnv_ok tyRows_ok eqRows_ok methRows_ok ⟨sound_msg_Apply N, trivial⟩
noncomputable def cut_msg_All_l0 : Cut := { tms := [0, 7, 8, 9], sh := (.cons (.list T_api_Pair) (.cons (.list T_api_Msg) (.cons (.int .i64) (.int .i64)))), objs := [], sts := [] }
noncomputable def cut_msg_All_l0_o0 : Cut := { tms := [0], sh := (.list T_api_Pair), objs := [], sts := [] }
noncomputable def lp_msg_All_l0 (N : Nat) : Lp := lpOf cut_msg_All_l0 (2, cut_msg_All_l0_o0) [] (fun v => msg_All_l0 N N v.1.1 v.1.2.1 v.1.2.2.1 v.1.2.2.2)
noncomputable def lam_msg_All_l0 (_ : Nat) : Lps := fun _ => none
theorem lpok_msg_All_l0 (N : Nat) (ro : Option Nat) : LpOk Tryz.prog 18 ro (lp_msg_All_l0 N) (codeAt c_msg_All [true, false, true, false]) := by
  rw [show (codeAt c_msg_All [true, false, true, false]) = .loop (codeAt c_msg_All [true, false, true, false, false]) by kernel_rfl]
  exact loop_ok (envok_msg_All N) mixed (Λ := lam_msg_All_l0 N) (p := 52) (obs_ok (l := []) (by kernel_rfl) obsNil) (by kernel_rfl) (by intro rec v; kernel_rfl) N
noncomputable def lam_msg_All (N : Nat) : Lps := fun p => bif Nat.beq p 26 then some (lp_msg_All_l0 N) else none
noncomputable def ctr_msg_All (N : Nat) : Ctr := ctrOf (.cons (.list T_api_Pair) (.list T_api_Msg)) (.list T_api_Pair) [] (fun v => msg_All N v.1 v.2)
theorem sound_msg_All (N : Nat) : SoundF Tryz.prog 24 (fun vs => (ctr_msg_All N).run vs some) :=
  fn_sound (envok_msg_All N) mixed (Λ := lam_msg_All N) (fn := Tryz.f24) (c := c_msg_All) Tryz.func24 (by kernel_rfl) (by kernel_rfl) (obs_ok (l := [(lp_msg_All_l0 N, (codeAt c_msg_All [true, false, true, false]))]) (by kernel_rfl) (obsCons (lpok_msg_All_l0 N none) obsNil)) (by kernel_rfl) (by intro v; kernel_rfl)

noncomputable def c_ref04_Same : Code := match Tryz.f23.body with | some c => c | none => .skip
noncomputable def tab_ref04_Same (_ : Nat) : List (Nat × Ctr) := []
noncomputable def env_ref04_Same (N : Nat) : Env := mkEnv tyRows eqRows methRows [] [] (tab_ref04_Same N)
theorem envok_ref04_Same (N : Nat) : EnvOk Tryz.prog (env_ref04_Same N) := mkEnv_ok tyRows_ok eqRows_ok methRows_ok trivial
noncomputable def cut_ref04_Same_l0 : Cut := { tms := [0, 1, 5], sh := (.cons (.list T_api_Pair) (.cons (.list T_api_Pair) (.int .i64))), objs := [], sts := [] }
noncomputable def cut_ref04_Same_l0_o0 : Cut := { tms := [4], sh := .bool, objs := [], sts := [] }
noncomputable def cut_ref04_Same_l0_o1 : Cut := { tms := [], sh := .nil, objs := [], sts := [] }
noncomputable def lp_ref04_Same_l0 (N : Nat) : Lp := lpOf cut_ref04_Same_l0 (1, cut_ref04_Same_l0_o0) [(2, cut_ref04_Same_l0_o1)] (fun v => ref04_Same_l0 N N v.1.1 v.1.2.1 v.1.2.2)
noncomputable def lam_ref04_Same_l0 (_ : Nat) : Lps := fun _ => none
theorem lpok_ref04_Same_l0 (N : Nat) (ro : Option Nat) : LpOk Tryz.prog 26 ro (lp_ref04_Same_l0 N) (codeAt c_ref04_Same [true, true, false, true, false]) := by
  rw [show (codeAt c_ref04_Same [true, true, false, true, false]) = .loop (codeAt c_ref04_Same [true, true, false, true, false, false]) by kernel_rfl]
  exact loop_ok (envok_ref04_Same N) mixed (Λ := lam_ref04_Same_l0 N) (p := 116) (obs_ok (l := []) (by kernel_rfl) obsNil) (by kernel_rfl) (by intro rec v; kernel_rfl) N
noncomputable def lam_ref04_Same (N : Nat) : Lps := fun p => bif Nat.beq p 58 then some (lp_ref04_Same_l0 N) else none
noncomputable def ctr_ref04_Same (N : Nat) : Ctr := ctrOf (.cons (.list T_api_Pair) (.list T_api_Pair)) .bool [] (fun v => ref04_Same N v.1 v.2)
theorem sound_ref04_Same (N : Nat) : SoundF Tryz.prog 23 (fun vs => (ctr_ref04_Same N).run vs some) :=
  fn_sound (envok_ref04_Same N) mixed (Λ := lam_ref04_Same N) (fn := Tryz.f23) (c := c_ref04_Same) Tryz.func23 (by kernel_rfl) (by kernel_rfl) (obs_ok (l := [(lp_ref04_Same_l0 N, (codeAt c_ref04_Same [true, true, false, true, false]))]) (by kernel_rfl) (obsCons (lpok_ref04_Same_l0 N none) obsNil)) (by kernel_rfl) (by intro v; kernel_rfl)

noncomputable def c_law09_SettleKeeps : Code := match Tryz.f4.body with | some c => c | none => .skip
noncomputable def tab_law09_SettleKeeps (N : Nat) : List (Nat × Ctr) := [(7, ctr_law09_sanity N), (8, ctr_ref04_Made N), (19, ctr_ref05_Made N), (21, ctr_ref02_Prefix N), (20, ctr_table_Range N), (13, ctr_settle_List N), (22, ctr_ref05_Valid N), (24, ctr_msg_All N), (25, ctr_msg_Apply N), (23, ctr_ref04_Same N)]
noncomputable def env_law09_SettleKeeps (N : Nat) : Env := mkEnv tyRows eqRows methRows [(6, [13]), (13, [2000001])] [] (tab_law09_SettleKeeps N)
theorem envok_law09_SettleKeeps (N : Nat) : EnvOk Tryz.prog (env_law09_SettleKeeps N) := mkEnv_ok tyRows_ok eqRows_ok methRows_ok ⟨sound_law09_sanity N, ⟨sound_ref04_Made N, ⟨sound_ref05_Made N, ⟨sound_ref02_Prefix N, ⟨sound_table_Range N, ⟨sound_settle_List N, ⟨sound_ref05_Valid N, ⟨sound_msg_All N, ⟨sound_msg_Apply N, ⟨sound_ref04_Same N, trivial⟩⟩⟩⟩⟩⟩⟩⟩⟩⟩
noncomputable def cut_law09_SettleKeeps_l1 : Cut := { tms := [5, 6, 7, 9, 10], sh := (.cons .bool (.cons (.list T_api_Pair) (.cons (.ptr 2000000 0) (.cons (.own 2000001) (.int .i64))))), objs := [(2000000, [7], .box (.cons (.int .i64) (.cons .str (.cons .str (.cons .str (.cons .str (.cons .str (.cons .str (.int .i64))))))))), (2000001, [9], .sl T_api_Msg)], sts := [] }
noncomputable def cut_law09_SettleKeeps_l1_o0 : Cut := { tms := [4], sh := .bool, objs := [], sts := [] }
noncomputable def cut_law09_SettleKeeps_l1_o1 : Cut := { tms := [5, 6, 7, 9], sh := (.cons .bool (.cons (.list T_api_Pair) (.cons (.ptr 2000000 0) (.own 2000001)))), objs := [(2000000, [7], .box (.cons (.int .i64) (.cons .str (.cons .str (.cons .str (.cons .str (.cons .str (.cons .str (.int .i64))))))))), (2000001, [9], .sl T_api_Msg)], sts := [] }
noncomputable def lp_law09_SettleKeeps_l1 (N : Nat) : Lp := lpOf cut_law09_SettleKeeps_l1 (1, cut_law09_SettleKeeps_l1_o0) [(2, cut_law09_SettleKeeps_l1_o1)] (fun v => law09_SettleKeeps_l1 N N v.1.1 v.1.2.1 v.1.2.2.2.2 v.2.1.1 v.2.1.2.1 v.2.1.2.2.1 v.2.1.2.2.2.1 v.2.1.2.2.2.2.1 v.2.1.2.2.2.2.2.1 v.2.1.2.2.2.2.2.2.1 v.2.1.2.2.2.2.2.2.2 v.2.2.1)
noncomputable def lam_law09_SettleKeeps_l1 (_ : Nat) : Lps := fun _ => none
theorem lpok_law09_SettleKeeps_l1 (N : Nat) (ro : Option Nat) : LpOk Tryz.prog 55 ro (lp_law09_SettleKeeps_l1 N) (codeAt c_law09_SettleKeeps [true, true, true, true, true, true, true, false, true, false]) := by
  rw [show (codeAt c_law09_SettleKeeps [true, true, true, true, true, true, true, false, true, false]) = .loop (codeAt c_law09_SettleKeeps [true, true, true, true, true, true, true, false, true, false, false]) by kernel_rfl]
  exact loop_ok (envok_law09_SettleKeeps N) mixed (Λ := lam_law09_SettleKeeps_l1 N) (p := 4084) (obs_ok (l := []) (by kernel_rfl) obsNil) (by kernel_rfl) (by intro rec v; kernel_rfl) N
noncomputable def cut_law09_SettleKeeps_p0 : Cut := { tms := [5, 6, 7, 8], sh := (.cons .bool (.cons (.list T_api_Pair) (.cons (.ptr 2000000 0) (.list T_api_Pair)))), objs := [(2000000, [7], .box (.cons (.int .i64) (.cons .str (.cons .str (.cons .str (.cons .str (.cons .str (.cons .str (.int .i64)))))))))], sts := [13, 16] }
noncomputable def cut_law09_SettleKeeps_p0_o0 : Cut := { tms := [4], sh := .bool, objs := [], sts := [] }
noncomputable def lp_law09_SettleKeeps_p0 (N : Nat) : Lp := lpOf cut_law09_SettleKeeps_p0 (1, cut_law09_SettleKeeps_p0_o0) [] (fun v => law09_SettleKeeps_p0 N v.1.1 v.1.2.1 v.1.2.2.2 v.2.1.1 v.2.1.2.1 v.2.1.2.2.1 v.2.1.2.2.2.1 v.2.1.2.2.2.2.1 v.2.1.2.2.2.2.2.1 v.2.1.2.2.2.2.2.2.1 v.2.1.2.2.2.2.2.2.2)
noncomputable def lam_law09_SettleKeeps_p0 (N : Nat) : Lps := fun p => bif Nat.beq p 2042 then some (lp_law09_SettleKeeps_l1 N) else none
theorem lpok_law09_SettleKeeps_p0 (N : Nat) (ro : Option Nat) : LpOk Tryz.prog 55 ro (lp_law09_SettleKeeps_p0 N) (codeAt c_law09_SettleKeeps [true, true, true, true, true, true]) :=
  piece_ok (envok_law09_SettleKeeps N) mixed (Λ := lam_law09_SettleKeeps_p0 N) (p := 127) (obs_ok (l := [(lp_law09_SettleKeeps_l1 N, (codeAt c_law09_SettleKeeps [true, true, true, true, true, true, true, false, true, false]))]) (by kernel_rfl) (obsCons (lpok_law09_SettleKeeps_l1 N ro) obsNil)) (by kernel_rfl) (by intro v; kernel_rfl)
noncomputable def lam_law09_SettleKeeps (N : Nat) : Lps := fun p => bif Nat.beq p 127 then some (lp_law09_SettleKeeps_p0 N) else none
noncomputable def ctr_law09_SettleKeeps (N : Nat) : Ctr := ctrOf (.cons (.list T_ref04_Raw) (.val T_ref05_Raw)) .bool [] (fun v => law09_SettleKeeps N v.1 v.2)
theorem sound_law09_SettleKeeps (N : Nat) : SoundF Tryz.prog 4 (fun vs => (ctr_law09_SettleKeeps N).run vs some) :=
  fn_sound (envok_law09_SettleKeeps N) mixed (Λ := lam_law09_SettleKeeps N) (fn := Tryz.f4) (c := c_law09_SettleKeeps) Tryz.func4 (by kernel_rfl) (by kernel_rfl) (obs_ok (l := [(lp_law09_SettleKeeps_p0 N, (codeAt c_law09_SettleKeeps [true, true, true, true, true, true]))]) (by kernel_rfl) (obsCons (lpok_law09_SettleKeeps_p0 N none) obsNil)) (by kernel_rfl) (by intro v; kernel_rfl)

noncomputable def c_ref05_List : Code := match Tryz.f9.body with | some c => c | none => .skip
noncomputable def tab_ref05_List (N : Nat) : List (Nat × Ctr) := [(19, ctr_ref05_Made N)]
noncomputable def env_ref05_List (N : Nat) : Env := mkEnv tyRows eqRows methRows [] [] (tab_ref05_List N)
theorem envok_ref05_List (N : Nat) : EnvOk Tryz.prog (env_ref05_List N) := mkEnv_ok tyRows_ok eqRows_ok methRows_ok ⟨sound_ref05_Made N, trivial⟩
noncomputable def cut_ref05_List_l0 : Cut := { tms := [0, 1, 5, 6], sh := (.cons (.list T_ref05_Raw) (.cons (.int .i64) (.cons (.own 2000000) (.int .i64)))), objs := [(2000000, [5], .sl T_api_Msg)], sts := [] }
noncomputable def cut_ref05_List_l0_o0 : Cut := { tms := [5], sh := (.own 2000000), objs := [(2000000, [5], .sl T_api_Msg)], sts := [] }
noncomputable def lp_ref05_List_l0 (N : Nat) : Lp := lpOf cut_ref05_List_l0 (2, cut_ref05_List_l0_o0) [] (fun v => ref05_List_l0 N N v.1.1 v.1.2.1 v.1.2.2.2 v.2.1)
noncomputable def lam_ref05_List_l0 (_ : Nat) : Lps := fun _ => none
theorem lpok_ref05_List_l0 (N : Nat) (ro : Option Nat) : LpOk Tryz.prog 28 ro (lp_ref05_List_l0 N) (codeAt c_ref05_List [true, true, false, true, false]) := by
  rw [show (codeAt c_ref05_List [true, true, false, true, false]) = .loop (codeAt c_ref05_List [true, true, false, true, false, false]) by kernel_rfl]
  exact loop_ok (envok_ref05_List N) mixed (Λ := lam_ref05_List_l0 N) (p := 116) (obs_ok (l := []) (by kernel_rfl) obsNil) (by kernel_rfl) (by intro rec v; kernel_rfl) N
noncomputable def lam_ref05_List (N : Nat) : Lps := fun p => bif Nat.beq p 58 then some (lp_ref05_List_l0 N) else none
noncomputable def ctr_ref05_List (N : Nat) : Ctr := ctrOf (.cons (.list T_ref05_Raw) (.int .i64)) (.fresh T_api_Msg) [] (fun v => ref05_List N v.1 v.2)
theorem sound_ref05_List (N : Nat) : SoundF Tryz.prog 9 (fun vs => (ctr_ref05_List N).run vs some) :=
  fn_sound (envok_ref05_List N) mixed (Λ := lam_ref05_List N) (fn := Tryz.f9) (c := c_ref05_List) Tryz.func9 (by kernel_rfl) (by kernel_rfl) (obs_ok (l := [(lp_ref05_List_l0 N, (codeAt c_ref05_List [true, true, false, true, false]))]) (by kernel_rfl) (obsCons (lpok_ref05_List_l0 N none) obsNil)) (by kernel_rfl) (by intro v; kernel_rfl)

noncomputable def c_ref04_Has : Code := match Tryz.f54.body with | some c => c | none => .skip
noncomputable def tab_ref04_Has (_ : Nat) : List (Nat × Ctr) := []
noncomputable def env_ref04_Has (N : Nat) : Env := mkEnv tyRows eqRows methRows [] [] (tab_ref04_Has N)
theorem envok_ref04_Has (N : Nat) : EnvOk Tryz.prog (env_ref04_Has N) := mkEnv_ok tyRows_ok eqRows_ok methRows_ok trivial
noncomputable def lam_ref04_Has (_ : Nat) : Lps := fun _ => none
noncomputable def ctr_ref04_Has (N : Nat) : Ctr := ctrOf (.cons (.val T_api_Span) .str) .bool [] (fun v => ref04_Has N v.1 v.2)
theorem sound_ref04_Has (N : Nat) : SoundF Tryz.prog 54 (fun vs => (ctr_ref04_Has N).run vs some) :=
  fn_sound (envok_ref04_Has N) mixed (Λ := lam_ref04_Has N) (fn := Tryz.f54) (c := c_ref04_Has) Tryz.func54 (by kernel_rfl) (by kernel_rfl) (obs_ok (l := []) (by kernel_rfl) obsNil) (by kernel_rfl) (by intro v; kernel_rfl)

noncomputable def c_ref04_Range : Code := match Tryz.f33.body with | some c => c | none => .skip
noncomputable def tab_ref04_Range (N : Nat) : List (Nat × Ctr) := [(54, ctr_ref04_Has N)]
noncomputable def env_ref04_Range (N : Nat) : Env := mkEnv tyRows eqRows methRows [] [] (tab_ref04_Range N)
theorem envok_ref04_Range (N : Nat) : EnvOk Tryz.prog (env_ref04_Range N) := mkEnv_ok tyRows_ok eqRows_ok methRows_ok ⟨sound_ref04_Has N, trivial⟩
noncomputable def cut_ref04_Range_l0 : Cut := { tms := [0, 3, 5, 6], sh := (.cons (.list T_api_Pair) (.cons (.ptr 2000000 0) (.cons (.own 2000001) (.int .i64)))), objs := [(2000000, [3], .box (.cons .str .str)), (2000001, [5], .sl T_api_Pair)], sts := [] }
noncomputable def cut_ref04_Range_l0_o0 : Cut := { tms := [5], sh := (.own 2000000), objs := [(2000000, [5], .sl T_api_Pair)], sts := [] }
noncomputable def lp_ref04_Range_l0 (N : Nat) : Lp := lpOf cut_ref04_Range_l0 (2, cut_ref04_Range_l0_o0) [] (fun v => ref04_Range_l0 N N v.1.1 v.1.2.2.2 v.2.1.1 v.2.1.2 v.2.2.1)
noncomputable def lam_ref04_Range_l0 (_ : Nat) : Lps := fun _ => none
theorem lpok_ref04_Range_l0 (N : Nat) (ro : Option Nat) : LpOk Tryz.prog 29 ro (lp_ref04_Range_l0 N) (codeAt c_ref04_Range [true, true, false, true, false]) := by
  rw [show (codeAt c_ref04_Range [true, true, false, true, false]) = .loop (codeAt c_ref04_Range [true, true, false, true, false, false]) by kernel_rfl]
  exact loop_ok (envok_ref04_Range N) mixed (Λ := lam_ref04_Range_l0 N) (p := 116) (obs_ok (l := []) (by kernel_rfl) obsNil) (by kernel_rfl) (by intro rec v; kernel_rfl) N
noncomputable def lam_ref04_Range (N : Nat) : Lps := fun p => bif Nat.beq p 58 then some (lp_ref04_Range_l0 N) else none
noncomputable def ctr_ref04_Range (N : Nat) : Ctr := ctrOf (.cons (.list T_api_Pair) (.val T_api_Span)) (.fresh T_api_Pair) [] (fun v => ref04_Range N v.1 v.2)
theorem sound_ref04_Range (N : Nat) : SoundF Tryz.prog 33 (fun vs => (ctr_ref04_Range N).run vs some) :=
  fn_sound (envok_ref04_Range N) mixed (Λ := lam_ref04_Range N) (fn := Tryz.f33) (c := c_ref04_Range) Tryz.func33 (by kernel_rfl) (by kernel_rfl) (obs_ok (l := [(lp_ref04_Range_l0 N, (codeAt c_ref04_Range [true, true, false, true, false]))]) (by kernel_rfl) (obsCons (lpok_ref04_Range_l0 N none) obsNil)) (by kernel_rfl) (by intro v; kernel_rfl)

noncomputable def c_law09_source : Code := match Tryz.f14.body with | some c => c | none => .skip
noncomputable def tab_law09_source (N : Nat) : List (Nat × Ctr) := [(21, ctr_ref02_Prefix N), (33, ctr_ref04_Range N)]
noncomputable def env_law09_source (N : Nat) : Env := mkEnv tyRows eqRows methRows [] [] (tab_law09_source N)
theorem envok_law09_source (N : Nat) : EnvOk Tryz.prog (env_law09_source N) := mkEnv_ok tyRows_ok eqRows_ok methRows_ok ⟨sound_ref02_Prefix N, ⟨sound_ref04_Range N, trivial⟩⟩
noncomputable def lam_law09_source (_ : Nat) : Lps := fun _ => none
noncomputable def ctr_law09_source (N : Nat) : Ctr := ctrOf (.cons (.list T_api_Pair) (.val T_api_Msg)) (.fresh T_api_Pair) [] (fun v => law09_source N v.1 v.2)
theorem sound_law09_source (N : Nat) : SoundF Tryz.prog 14 (fun vs => (ctr_law09_source N).run vs some) :=
  fn_sound (envok_law09_source N) mixed (Λ := lam_law09_source N) (fn := Tryz.f14) (c := c_law09_source) Tryz.func14 (by kernel_rfl) (by kernel_rfl) (obs_ok (l := []) (by kernel_rfl) obsNil) (by kernel_rfl) (by intro v; kernel_rfl)

noncomputable def c_law09_SettleTurns : Code := match Tryz.f5.body with | some c => c | none => .skip
noncomputable def tab_law09_SettleTurns (N : Nat) : List (Nat × Ctr) := [(7, ctr_law09_sanity N), (8, ctr_ref04_Made N), (9, ctr_ref05_List N), (14, ctr_law09_source N), (16, ctr_settle_Turn N), (24, ctr_msg_All N), (23, ctr_ref04_Same N)]
noncomputable def env_law09_SettleTurns (N : Nat) : Env := mkEnv tyRows eqRows methRows [(9, [12, 14, 26])] [] (tab_law09_SettleTurns N)
theorem envok_law09_SettleTurns (N : Nat) : EnvOk Tryz.prog (env_law09_SettleTurns N) := mkEnv_ok tyRows_ok eqRows_ok methRows_ok ⟨sound_law09_sanity N, ⟨sound_ref04_Made N, ⟨sound_ref05_List N, ⟨sound_law09_source N, ⟨sound_settle_Turn N, ⟨sound_msg_All N, ⟨sound_ref04_Same N, trivial⟩⟩⟩⟩⟩⟩⟩
noncomputable def lam_law09_SettleTurns (_ : Nat) : Lps := fun _ => none
noncomputable def ctr_law09_SettleTurns (N : Nat) : Ctr := ctrOf (.cons (.list T_ref04_Raw) (.list T_ref05_Raw)) .bool [] (fun v => law09_SettleTurns N v.1 v.2)
theorem sound_law09_SettleTurns (N : Nat) : SoundF Tryz.prog 5 (fun vs => (ctr_law09_SettleTurns N).run vs some) :=
  fn_sound (envok_law09_SettleTurns N) mixed (Λ := lam_law09_SettleTurns N) (fn := Tryz.f5) (c := c_law09_SettleTurns) Tryz.func5 (by kernel_rfl) (by kernel_rfl) (obs_ok (l := []) (by kernel_rfl) obsNil) (by kernel_rfl) (by intro v; kernel_rfl)

noncomputable def c_law09_SettleRepeats : Code := match Tryz.f6.body with | some c => c | none => .skip
noncomputable def tab_law09_SettleRepeats (N : Nat) : List (Nat × Ctr) := [(7, ctr_law09_sanity N), (8, ctr_ref04_Made N), (9, ctr_ref05_List N), (14, ctr_law09_source N), (13, ctr_settle_List N), (25, ctr_msg_Apply N), (24, ctr_msg_All N), (23, ctr_ref04_Same N)]
noncomputable def env_law09_SettleRepeats (N : Nat) : Env := mkEnv tyRows eqRows methRows [(11, [2000000]), (17, [2000000])] [] (tab_law09_SettleRepeats N)
theorem envok_law09_SettleRepeats (N : Nat) : EnvOk Tryz.prog (env_law09_SettleRepeats N) := mkEnv_ok tyRows_ok eqRows_ok methRows_ok ⟨sound_law09_sanity N, ⟨sound_ref04_Made N, ⟨sound_ref05_List N, ⟨sound_law09_source N, ⟨sound_settle_List N, ⟨sound_msg_Apply N, ⟨sound_msg_All N, ⟨sound_ref04_Same N, trivial⟩⟩⟩⟩⟩⟩⟩⟩
noncomputable def cut_law09_SettleRepeats_l1 : Cut := { tms := [5, 6, 8, 9, 12], sh := (.cons .bool (.cons (.list T_api_Pair) (.cons (.list T_api_Pair) (.cons (.own 2000000) (.int .i64))))), objs := [(2000000, [9], .sl T_api_Msg)], sts := [] }
noncomputable def cut_law09_SettleRepeats_l1_o0 : Cut := { tms := [4], sh := .bool, objs := [], sts := [] }
noncomputable def cut_law09_SettleRepeats_l1_o1 : Cut := { tms := [5, 6, 8, 9], sh := (.cons .bool (.cons (.list T_api_Pair) (.cons (.list T_api_Pair) (.own 2000000)))), objs := [(2000000, [9], .sl T_api_Msg)], sts := [] }
noncomputable def lp_law09_SettleRepeats_l1 (N : Nat) : Lp := lpOf cut_law09_SettleRepeats_l1 (1, cut_law09_SettleRepeats_l1_o0) [(4, cut_law09_SettleRepeats_l1_o1)] (fun v => law09_SettleRepeats_l1 N N v.1.1 v.1.2.1 v.1.2.2.1 v.1.2.2.2.2 v.2.1)
noncomputable def lam_law09_SettleRepeats_l1 (_ : Nat) : Lps := fun _ => none
theorem lpok_law09_SettleRepeats_l1 (N : Nat) (ro : Option Nat) : LpOk Tryz.prog 74 ro (lp_law09_SettleRepeats_l1 N) (codeAt c_law09_SettleRepeats [true, true, true, true, true, true, true, false, true, false]) := by
  rw [show (codeAt c_law09_SettleRepeats [true, true, true, true, true, true, true, false, true, false]) = .loop (codeAt c_law09_SettleRepeats [true, true, true, true, true, true, true, false, true, false, false]) by kernel_rfl]
  exact loop_ok (envok_law09_SettleRepeats N) mixed (Λ := lam_law09_SettleRepeats_l1 N) (p := 4084) (obs_ok (l := []) (by kernel_rfl) obsNil) (by kernel_rfl) (by intro rec v; kernel_rfl) N
noncomputable def cut_law09_SettleRepeats_l0 : Cut := { tms := [5, 6, 7, 8, 9, 10], sh := (.cons .bool (.cons (.list T_api_Pair) (.cons (.own 2000001) (.cons (.list T_api_Pair) (.cons (.own 2000002) (.int .i64)))))), objs := [(2000001, [7], .sl T_api_Msg), (2000002, [9], .sl T_api_Msg)], sts := [15] }
noncomputable def cut_law09_SettleRepeats_l0_o0 : Cut := { tms := [5, 6, 8, 9], sh := (.cons .bool (.cons (.list T_api_Pair) (.cons (.list T_api_Pair) (.own 2000000)))), objs := [(2000000, [9], .sl T_api_Msg)], sts := [] }
noncomputable def lp_law09_SettleRepeats_l0 (N : Nat) : Lp := lpOf cut_law09_SettleRepeats_l0 (2, cut_law09_SettleRepeats_l0_o0) [] (fun v => law09_SettleRepeats_l0 N N v.1.1 v.1.2.1 v.1.2.2.2.1 v.1.2.2.2.2.2 v.2.1 v.2.2.1)
noncomputable def lam_law09_SettleRepeats_l0 (_ : Nat) : Lps := fun _ => none
theorem lpok_law09_SettleRepeats_l0 (N : Nat) (ro : Option Nat) : LpOk Tryz.prog 74 ro (lp_law09_SettleRepeats_l0 N) (codeAt c_law09_SettleRepeats [true, true, true, true, true, true, false, true, false]) := by
  rw [show (codeAt c_law09_SettleRepeats [true, true, true, true, true, true, false, true, false]) = .loop (codeAt c_law09_SettleRepeats [true, true, true, true, true, true, false, true, false, false]) by kernel_rfl]
  exact loop_ok (envok_law09_SettleRepeats N) mixed (Λ := lam_law09_SettleRepeats_l0 N) (p := 2036) (obs_ok (l := []) (by kernel_rfl) obsNil) (by kernel_rfl) (by intro rec v; kernel_rfl) N
noncomputable def lam_law09_SettleRepeats (N : Nat) : Lps := fun p => bif Nat.beq p 1018 then some (lp_law09_SettleRepeats_l0 N) else bif Nat.beq p 2042 then some (lp_law09_SettleRepeats_l1 N) else none
noncomputable def ctr_law09_SettleRepeats (N : Nat) : Ctr := ctrOf (.cons (.list T_ref04_Raw) (.list T_ref05_Raw)) .bool [] (fun v => law09_SettleRepeats N v.1 v.2)
theorem sound_law09_SettleRepeats (N : Nat) : SoundF Tryz.prog 6 (fun vs => (ctr_law09_SettleRepeats N).run vs some) :=
  fn_sound (envok_law09_SettleRepeats N) mixed (Λ := lam_law09_SettleRepeats N) (fn := Tryz.f6) (c := c_law09_SettleRepeats) Tryz.func6 (by kernel_rfl) (by kernel_rfl) (obs_ok (l := [(lp_law09_SettleRepeats_l0 N, (codeAt c_law09_SettleRepeats [true, true, true, true, true, true, false, true, false])), (lp_law09_SettleRepeats_l1 N, (codeAt c_law09_SettleRepeats [true, true, true, true, true, true, true, false, true, false]))]) (by kernel_rfl) (obsCons (lpok_law09_SettleRepeats_l0 N none) (obsCons (lpok_law09_SettleRepeats_l1 N none) obsNil))) (by kernel_rfl) (by intro v; kernel_rfl)

end Go.Proofs.YtfecapegkdpbhaaGreat
