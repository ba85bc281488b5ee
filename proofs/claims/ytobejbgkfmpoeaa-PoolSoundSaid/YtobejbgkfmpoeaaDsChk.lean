/- Printed by a program of the session's: what the program's functions compute, and that they do. -/
import Derived.Test.YtobejbgkfmpoeaaDsPure
import Derived.Test.YtobejbgkfmpoeaaProg
import Derived.KernelRfl
set_option linter.all false
namespace Go.Proofs.Ytobejbgkfmpoeaa
open Go Go.Dv Ds
set_option maxRecDepth 100000

noncomputable instance : LTab := ⟨fun _ => ⟨#[], [], .skip, .skip, 0⟩⟩

noncomputable def tyRows : List (Nat × TI) := [
  (3, ⟨.int .i64, 1, 8, [.int .i64], some (.int .i64)⟩),
  (4, ⟨.bool, 1, 1, [.bool], some .bool⟩),
  (5, ⟨.int .u8, 1, 1, [.int .u8], some (.int .u8)⟩),
  (9, ⟨.str, 1, 16, [.str], some .str⟩),
  (22, ⟨.slice 65, 1, 24, [.slice], some (.list T_ref11_Raw)⟩),
  (23, ⟨.slice 3, 1, 24, [.slice], some (.list (.int .i64))⟩),
  (24, ⟨.arr 3 5, 3, 3, [.int .u8, .int .u8, .int .u8], some T_a3_uint8⟩),
  (26, ⟨.slice 42, 1, 24, [.slice], some (.list T_api_Slot)⟩),
  (28, ⟨.struct [(0, 26)], 1, 24, [.slice], some (.list T_api_Slot)⟩),
  (30, ⟨.struct [(0, 28), (1, 23)], 2, 48, [.slice, .slice], some T_ref11_Held⟩),
  (35, ⟨.slice 93, 1, 24, [.slice], some (.list T_api_Pair)⟩),
  (36, ⟨.slice 9, 1, 24, [.slice], some (.list .str)⟩),
  (37, ⟨.slice 88, 1, 24, [.slice], some (.list T_api_Sum)⟩),
  (38, ⟨.slice 100, 1, 24, [.slice], some (.list T_api_Msg)⟩),
  (40, ⟨.struct [(0, 35), (1, 36), (2, 23), (3, 37), (4, 38)], 5, 120, [.slice, .slice, .slice, .slice, .slice], some T_api_Node⟩),
  (42, ⟨.struct [(0, 4), (1, 4), (2, 3), (3, 40)], 8, 136, [.bool, .bool, .int .i64, .slice, .slice, .slice, .slice, .slice], some T_api_Slot⟩),
  (46, ⟨.int .i64, 1, 8, [.int .i64], some (.int .i64)⟩),
  (55, ⟨.struct [(0, 28), (1, 3), (2, 46)], 3, 40, [.slice, .int .i64, .int .i64], some T_ref11_Added⟩),
  (58, ⟨.slice 60, 1, 24, [.slice], some (.list (.int .i8))⟩),
  (59, ⟨.slice 4, 1, 24, [.slice], some (.list .bool)⟩),
  (60, ⟨.int .i8, 1, 1, [.int .i8], some (.int .i8)⟩),
  (65, ⟨.arr 4 5, 4, 4, [.int .u8, .int .u8, .int .u8, .int .u8], some T_ref11_Raw⟩),
  (73, ⟨.int .i16, 1, 2, [.int .i16], some (.int .i16)⟩),
  (78, ⟨.func, 1, 8, [.func], none⟩),
  (86, ⟨.struct [(0, 3), (1, 3)], 2, 16, [.int .i64, .int .i64], some T_api_Range⟩),
  (88, ⟨.struct [(0, 86), (2, 86)], 4, 32, [.int .i64, .int .i64, .int .i64, .int .i64], some T_api_Sum⟩),
  (93, ⟨.struct [(0, 9), (1, 9), (2, 3)], 3, 40, [.str, .str, .int .i64], some T_api_Pair⟩),
  (96, ⟨.int .u64, 1, 8, [.int .u64], some (.int .u64)⟩),
  (98, ⟨.struct [(0, 9), (1, 9)], 2, 32, [.str, .str], some T_api_Span⟩),
  (100, ⟨.struct [(0, 3), (1, 9), (2, 9), (3, 98), (5, 9), (6, 9), (7, 3)], 8, 112, [.int .i64, .str, .str, .str, .str, .str, .str, .int .i64], some T_api_Msg⟩)]
theorem tyRows_ok : (tyRows.all fun r => tiOk Try.prog r.1 r.2) = true := by kernel_rfl
theorem mixed : Try.prog.follows .mixedOrders = true := by kernel_rfl
noncomputable def eqRows : List (Nat × List Nat) := [(88, [0, 0, 0, 0]), (93, [2, 2, 0]), (100, [0, 2, 2, 2, 2, 2, 2, 0])]
theorem eqRows_ok : (eqRows.all fun r => eqB Try.prog r.1 r.2) = true := by kernel_rfl
noncomputable def methRows : List (Nat × String × Nat) := []
theorem methRows_ok : MethOk Try.prog methRows := trivial

noncomputable def c_pool_used : Code := match Try.f38.body with | some c => c | none => .skip
noncomputable def tab_pool_used (_ : Nat) : List (Nat × Ctr) := []
noncomputable def env_pool_used (N : Nat) : Env := mkEnv tyRows eqRows methRows [] [] (tab_pool_used N)
theorem envok_pool_used (N : Nat) : EnvOk Try.prog (env_pool_used N) := mkEnv_ok tyRows_ok eqRows_ok methRows_ok trivial
noncomputable def lam_pool_used (_ : Nat) : Lps := fun _ => none
noncomputable def ctr_pool_used (N : Nat) : Ctr := ctrOf (.cons (.val (.list T_api_Slot)) (.int .i64)) .bool [] (fun v => pool_used N v.1 v.2)
theorem sound_pool_used (N : Nat) : SoundF Try.prog 38 (fun vs => (ctr_pool_used N).run vs some) :=
  fn_sound (envok_pool_used N) mixed (Λ := lam_pool_used N) (fn := Try.f38) (c := c_pool_used) Try.func38 (by kernel_rfl) (by kernel_rfl) (obs_ok (l := []) (by kernel_rfl) obsNil) (by kernel_rfl) (by intro v; kernel_rfl)

noncomputable def c_pool_Add_c1 : Code := match Try.f55.body with | some c => c | none => .skip
noncomputable def tab_pool_Add_c1 (_ : Nat) : List (Nat × Ctr) := []
noncomputable def env_pool_Add_c1 (N : Nat) : Env := mkEnv tyRows eqRows methRows [] [] (tab_pool_Add_c1 N)
theorem envok_pool_Add_c1 (N : Nat) : EnvOk Try.prog (env_pool_Add_c1 N) := mkEnv_ok tyRows_ok eqRows_ok methRows_ok trivial
noncomputable def lam_pool_Add_c1 (_ : Nat) : Lps := fun _ => none
noncomputable def ctr_pool_Add_c1 (N : Nat) : Ctr := ctrOf (.val T_api_Slot) .bool [] (fun v => pool_Add_c1 N v)
theorem sound_pool_Add_c1 (N : Nat) : SoundF Try.prog 55 (fun vs => (ctr_pool_Add_c1 N).run vs some) :=
  fn_sound (envok_pool_Add_c1 N) mixed (Λ := lam_pool_Add_c1 N) (fn := Try.f55) (c := c_pool_Add_c1) Try.func55 (by kernel_rfl) (by kernel_rfl) (obs_ok (l := []) (by kernel_rfl) obsNil) (by kernel_rfl) (by intro v; kernel_rfl)

noncomputable def c_slices_IndexFunc_s_api_Slot_api_Slot__pool_Add_c1 : Code := match Try.f54.body with | some c => c | none => .skip
noncomputable def tab_slices_IndexFunc_s_api_Slot_api_Slot__pool_Add_c1 (N : Nat) : List (Nat × Ctr) := [(55, ctr_pool_Add_c1 N)]
noncomputable def env_slices_IndexFunc_s_api_Slot_api_Slot__pool_Add_c1 (N : Nat) : Env := mkEnv tyRows eqRows methRows [] [] (tab_slices_IndexFunc_s_api_Slot_api_Slot__pool_Add_c1 N)
theorem envok_slices_IndexFunc_s_api_Slot_api_Slot__pool_Add_c1 (N : Nat) : EnvOk Try.prog (env_slices_IndexFunc_s_api_Slot_api_Slot__pool_Add_c1 N) := mkEnv_ok tyRows_ok eqRows_ok methRows_ok ⟨sound_pool_Add_c1 N, trivial⟩
noncomputable def cut_slices_IndexFunc_s_api_Slot_api_Slot__pool_Add_c1_l0 : Cut := { tms := [0, 1, 7, 8], sh := (.cons (.list T_api_Slot) (.cons (.clo 55 .nil) (.cons (.int .i64) (.int .i64)))), objs := [], sts := [] }
noncomputable def cut_slices_IndexFunc_s_api_Slot_api_Slot__pool_Add_c1_l0_o0 : Cut := { tms := [4], sh := (.int .i64), objs := [], sts := [] }
noncomputable def cut_slices_IndexFunc_s_api_Slot_api_Slot__pool_Add_c1_l0_o1 : Cut := { tms := [], sh := .nil, objs := [], sts := [] }
noncomputable def lp_slices_IndexFunc_s_api_Slot_api_Slot__pool_Add_c1_l0 (N : Nat) : Lp := lpOf cut_slices_IndexFunc_s_api_Slot_api_Slot__pool_Add_c1_l0 (1, cut_slices_IndexFunc_s_api_Slot_api_Slot__pool_Add_c1_l0_o0) [(2, cut_slices_IndexFunc_s_api_Slot_api_Slot__pool_Add_c1_l0_o1)] (fun v => slices_IndexFunc_s_api_Slot_api_Slot__pool_Add_c1_l0 N N v.1.1 v.1.2.2.1 v.1.2.2.2)
noncomputable def lam_slices_IndexFunc_s_api_Slot_api_Slot__pool_Add_c1_l0 (_ : Nat) : Lps := fun _ => none
theorem lpok_slices_IndexFunc_s_api_Slot_api_Slot__pool_Add_c1_l0 (N : Nat) (ro : Option Nat) : LpOk Try.prog 19 ro (lp_slices_IndexFunc_s_api_Slot_api_Slot__pool_Add_c1_l0 N) (codeAt c_slices_IndexFunc_s_api_Slot_api_Slot__pool_Add_c1 [true, false, true, false]) := by
  rw [show (codeAt c_slices_IndexFunc_s_api_Slot_api_Slot__pool_Add_c1 [true, false, true, false]) = .loop (codeAt c_slices_IndexFunc_s_api_Slot_api_Slot__pool_Add_c1 [true, false, true, false, false]) by kernel_rfl]
  exact loop_ok (envok_slices_IndexFunc_s_api_Slot_api_Slot__pool_Add_c1 N) mixed (Λ := lam_slices_IndexFunc_s_api_Slot_api_Slot__pool_Add_c1_l0 N) (p := 52) (obs_ok (l := []) (by kernel_rfl) obsNil) (by kernel_rfl) (by intro rec v; kernel_rfl) N
noncomputable def lam_slices_IndexFunc_s_api_Slot_api_Slot__pool_Add_c1 (N : Nat) : Lps := fun p => bif Nat.beq p 26 then some (lp_slices_IndexFunc_s_api_Slot_api_Slot__pool_Add_c1_l0 N) else none
noncomputable def ctr_slices_IndexFunc_s_api_Slot_api_Slot__pool_Add_c1 (N : Nat) : Ctr := ctrOf (.cons (.list T_api_Slot) (.clo 55 .nil)) (.int .i64) [] (fun v => slices_IndexFunc_s_api_Slot_api_Slot__pool_Add_c1 N v.1)
theorem sound_slices_IndexFunc_s_api_Slot_api_Slot__pool_Add_c1 (N : Nat) : SoundF Try.prog 54 (fun vs => (ctr_slices_IndexFunc_s_api_Slot_api_Slot__pool_Add_c1 N).run vs some) :=
  fn_sound (envok_slices_IndexFunc_s_api_Slot_api_Slot__pool_Add_c1 N) mixed (Λ := lam_slices_IndexFunc_s_api_Slot_api_Slot__pool_Add_c1 N) (fn := Try.f54) (c := c_slices_IndexFunc_s_api_Slot_api_Slot__pool_Add_c1) Try.func54 (by kernel_rfl) (by kernel_rfl) (obs_ok (l := [(lp_slices_IndexFunc_s_api_Slot_api_Slot__pool_Add_c1_l0 N, (codeAt c_slices_IndexFunc_s_api_Slot_api_Slot__pool_Add_c1 [true, false, true, false]))]) (by kernel_rfl) (obsCons (lpok_slices_IndexFunc_s_api_Slot_api_Slot__pool_Add_c1_l0 N none) obsNil)) (by kernel_rfl) (by intro v; kernel_rfl)

noncomputable def c_pool_clone : Code := match Try.f46.body with | some c => c | none => .skip
noncomputable def tab_pool_clone (_ : Nat) : List (Nat × Ctr) := []
noncomputable def env_pool_clone (N : Nat) : Env := mkEnv tyRows eqRows methRows [] [] (tab_pool_clone N)
theorem envok_pool_clone (N : Nat) : EnvOk Try.prog (env_pool_clone N) := mkEnv_ok tyRows_ok eqRows_ok methRows_ok trivial
noncomputable def lam_pool_clone (_ : Nat) : Lps := fun _ => none
noncomputable def ctr_pool_clone (N : Nat) : Ctr := ctrOf (.val (.list T_api_Slot)) (.agg (.fresh T_api_Slot)) [] (fun v => pool_clone N v)
theorem sound_pool_clone (N : Nat) : SoundF Try.prog 46 (fun vs => (ctr_pool_clone N).run vs some) :=
  fn_sound (envok_pool_clone N) mixed (Λ := lam_pool_clone N) (fn := Try.f46) (c := c_pool_clone) Try.func46 (by kernel_rfl) (by kernel_rfl) (obs_ok (l := []) (by kernel_rfl) obsNil) (by kernel_rfl) (by intro v; kernel_rfl)

noncomputable def c_pool_Add : Code := match Try.f49.body with | some c => c | none => .skip
noncomputable def tab_pool_Add (N : Nat) : List (Nat × Ctr) := [(38, ctr_pool_used N), (54, ctr_slices_IndexFunc_s_api_Slot_api_Slot__pool_Add_c1 N), (46, ctr_pool_clone N)]
noncomputable def env_pool_Add (N : Nat) : Env := mkEnv tyRows eqRows methRows [] [] (tab_pool_Add N)
theorem envok_pool_Add (N : Nat) : EnvOk Try.prog (env_pool_Add N) := mkEnv_ok tyRows_ok eqRows_ok methRows_ok ⟨sound_pool_used N, ⟨sound_slices_IndexFunc_s_api_Slot_api_Slot__pool_Add_c1 N, ⟨sound_pool_clone N, trivial⟩⟩⟩
noncomputable def cut_pool_Add_l2 : Cut := { tms := [4, 9, 10, 57, 58, 59], sh := (.cons (.ptr 2000000 0) (.cons (.int .i64) (.cons (.ptr 2000002 0) (.cons (.list (.int .i64)) (.cons (.int .i64) (.int .i64)))))), objs := [(2000000, [4], .box (.own 2000001)), (2000001, [4, 0], .sl T_api_Slot), (2000002, [10], .box (.own 2000003)), (2000003, [10, 0], .sl T_api_Slot)], sts := [] }
noncomputable def cut_pool_Add_l2_o0 : Cut := { tms := [4, 9, 10], sh := (.cons (.ptr 2000000 0) (.cons (.int .i64) (.ptr 2000002 0))), objs := [(2000000, [4], .box (.own 2000001)), (2000001, [4, 0], .sl T_api_Slot), (2000002, [10], .box (.own 2000003)), (2000003, [10, 0], .sl T_api_Slot)], sts := [] }
noncomputable def lp_pool_Add_l2 (N : Nat) : Lp := lpOf cut_pool_Add_l2 (4, cut_pool_Add_l2_o0) [] (fun v => pool_Add_l2 N N v.1.2.1 v.1.2.2.2.1 v.1.2.2.2.2.1 v.1.2.2.2.2.2 v.2.2.1 v.2.2.2.2.1)
noncomputable def lam_pool_Add_l2 (_ : Nat) : Lps := fun _ => none
theorem lpok_pool_Add_l2 (N : Nat) (ro : Option Nat) : LpOk Try.prog 75 ro (lp_pool_Add_l2 N) (codeAt c_pool_Add [true, true, true, true, true, true, true, true, false, true, false]) := by
  rw [show (codeAt c_pool_Add [true, true, true, true, true, true, true, true, false, true, false]) = .loop (codeAt c_pool_Add [true, true, true, true, true, true, true, true, false, true, false, false]) by kernel_rfl]
  exact loop_ok (envok_pool_Add N) mixed (Λ := lam_pool_Add_l2 N) (p := 8180) (obs_ok (l := []) (by kernel_rfl) obsNil) (by kernel_rfl) (by intro rec v; kernel_rfl) N
noncomputable def cut_pool_Add_p1 : Cut := { tms := [2, 3, 4, 9], sh := (.cons (.ptr 2000000 0) (.cons (.ptr 2000001 0) (.cons (.ptr 2000002 0) (.int .i64)))), objs := [(2000000, [2], .box (.list T_api_Slot)), (2000001, [3], .box (.cons (.list T_api_Pair) (.cons (.list .str) (.cons (.list (.int .i64)) (.cons (.list T_api_Sum) (.list T_api_Msg)))))), (2000002, [4], .box (.own 2000003)), (2000003, [4, 0], .sl T_api_Slot)], sts := [] }
noncomputable def cut_pool_Add_p1_o0 : Cut := { tms := [4, 5, 6], sh := (.cons (.ptr 2000000 0) (.cons (.int .i64) (.int .i64))), objs := [(2000000, [4], .box (.list T_api_Slot))], sts := [2000003] }
noncomputable def lp_pool_Add_p1 (N : Nat) : Lp := lpOf cut_pool_Add_p1 (1, cut_pool_Add_p1_o0) [] (fun v => pool_Add_p1 N v.1.2.2.2 v.2.1 v.2.2.1.1 v.2.2.1.2.1 v.2.2.1.2.2.1 v.2.2.1.2.2.2.1 v.2.2.1.2.2.2.2 v.2.2.2.2.1)
noncomputable def lam_pool_Add_p1 (N : Nat) : Lps := fun p => bif Nat.beq p 4090 then some (lp_pool_Add_l2 N) else none
theorem lpok_pool_Add_p1 (N : Nat) (ro : Option Nat) : LpOk Try.prog 75 ro (lp_pool_Add_p1 N) (codeAt c_pool_Add [true, true, true, true]) :=
  piece_ok (envok_pool_Add N) mixed (Λ := lam_pool_Add_p1 N) (p := 31) (obs_ok (l := [(lp_pool_Add_l2 N, (codeAt c_pool_Add [true, true, true, true, true, true, true, true, false, true, false]))]) (by kernel_rfl) (obsCons (lpok_pool_Add_l2 N ro) obsNil)) (by kernel_rfl) (by intro v; kernel_rfl)
noncomputable def cut_pool_Add_l0 : Cut := { tms := [2, 3, 4, 14, 15, 16], sh := (.cons (.ptr 2000000 0) (.cons (.ptr 2000001 0) (.cons (.ptr 2000002 0) (.cons (.list (.int .i64)) (.cons (.int .i64) (.int .i64)))))), objs := [(2000000, [2], .box (.list T_api_Slot)), (2000001, [3], .box (.cons (.list T_api_Pair) (.cons (.list .str) (.cons (.list (.int .i64)) (.cons (.list T_api_Sum) (.list T_api_Msg)))))), (2000002, [4], .box (.own 2000003)), (2000003, [4, 0], .sl T_api_Slot)], sts := [] }
noncomputable def cut_pool_Add_l0_o0 : Cut := { tms := [4, 5, 6], sh := (.cons (.ptr 2000000 0) (.cons (.int .i64) (.int .i64))), objs := [(2000000, [4], .box (.list T_api_Slot))], sts := [] }
noncomputable def cut_pool_Add_l0_o1 : Cut := { tms := [2, 3, 4], sh := (.cons (.ptr 2000000 0) (.cons (.ptr 2000001 0) (.ptr 2000002 0))), objs := [(2000000, [2], .box (.list T_api_Slot)), (2000001, [3], .box (.cons (.list T_api_Pair) (.cons (.list .str) (.cons (.list (.int .i64)) (.cons (.list T_api_Sum) (.list T_api_Msg)))))), (2000002, [4], .box (.own 2000003)), (2000003, [4, 0], .sl T_api_Slot)], sts := [] }
noncomputable def lp_pool_Add_l0 (N : Nat) : Lp := lpOf cut_pool_Add_l0 (1, cut_pool_Add_l0_o0) [(2, cut_pool_Add_l0_o1)] (fun v => pool_Add_l0 N N v.1.2.2.2.1 v.1.2.2.2.2.1 v.1.2.2.2.2.2 v.2.1 v.2.2.1.1 v.2.2.1.2.1 v.2.2.1.2.2.1 v.2.2.1.2.2.2.1 v.2.2.1.2.2.2.2 v.2.2.2.2.1)
noncomputable def lam_pool_Add_l0 (_ : Nat) : Lps := fun _ => none
theorem lpok_pool_Add_l0 (N : Nat) (ro : Option Nat) : LpOk Try.prog 75 ro (lp_pool_Add_l0 N) (codeAt c_pool_Add [true, false, true, false]) := by
  rw [show (codeAt c_pool_Add [true, false, true, false]) = .loop (codeAt c_pool_Add [true, false, true, false, false]) by kernel_rfl]
  exact loop_ok (envok_pool_Add N) mixed (Λ := lam_pool_Add_l0 N) (p := 52) (obs_ok (l := []) (by kernel_rfl) obsNil) (by kernel_rfl) (by intro rec v; kernel_rfl) N
noncomputable def lam_pool_Add (N : Nat) : Lps := fun p => bif Nat.beq p 26 then some (lp_pool_Add_l0 N) else bif Nat.beq p 31 then some (lp_pool_Add_p1 N) else none
noncomputable def ctr_pool_Add (N : Nat) : Ctr := ctrOf (.cons (.val (.list T_api_Slot)) (.val T_api_Node)) (.tup (.cons (.val (.list T_api_Slot)) (.cons (.int .i64) (.int .i64)))) [] (fun v => pool_Add N v.1 v.2)
theorem sound_pool_Add (N : Nat) : SoundF Try.prog 49 (fun vs => (ctr_pool_Add N).run vs some) :=
  fn_sound (envok_pool_Add N) mixed (Λ := lam_pool_Add N) (fn := Try.f49) (c := c_pool_Add) Try.func49 (by kernel_rfl) (by kernel_rfl) (obs_ok (l := [(lp_pool_Add_l0 N, (codeAt c_pool_Add [true, false, true, false])), (lp_pool_Add_p1 N, (codeAt c_pool_Add [true, true, true, true]))]) (by kernel_rfl) (obsCons (lpok_pool_Add_l0 N none) (obsCons (lpok_pool_Add_p1 N none) obsNil))) (by kernel_rfl) (by intro v; kernel_rfl)

noncomputable def c_law11_add : Code := match Try.f23.body with | some c => c | none => .skip
noncomputable def tab_law11_add (N : Nat) : List (Nat × Ctr) := [(49, ctr_pool_Add N)]
noncomputable def env_law11_add (N : Nat) : Env := mkEnv tyRows eqRows methRows [] [] (tab_law11_add N)
theorem envok_law11_add (N : Nat) : EnvOk Try.prog (env_law11_add N) := mkEnv_ok tyRows_ok eqRows_ok methRows_ok ⟨sound_pool_Add N, trivial⟩
noncomputable def lam_law11_add (_ : Nat) : Lps := fun _ => none
noncomputable def ctr_law11_add (N : Nat) : Ctr := ctrOf (.cons (.val (.list T_api_Slot)) (.val T_api_Node)) (.val T_ref11_Added) [] (fun v => law11_add N v.1 v.2)
theorem sound_law11_add (N : Nat) : SoundF Try.prog 23 (fun vs => (ctr_law11_add N).run vs some) :=
  fn_sound (envok_law11_add N) mixed (Λ := lam_law11_add N) (fn := Try.f23) (c := c_law11_add) Try.func23 (by kernel_rfl) (by kernel_rfl) (obs_ok (l := []) (by kernel_rfl) obsNil) (by kernel_rfl) (by intro v; kernel_rfl)

noncomputable def c_pool_Drop : Code := match Try.f19.body with | some c => c | none => .skip
noncomputable def tab_pool_Drop (N : Nat) : List (Nat × Ctr) := [(38, ctr_pool_used N), (46, ctr_pool_clone N)]
noncomputable def env_pool_Drop (N : Nat) : Env := mkEnv tyRows eqRows methRows [(endKey, [2000003])] [32] (tab_pool_Drop N)
theorem envok_pool_Drop (N : Nat) : EnvOk Try.prog (env_pool_Drop N) := mkEnv_ok tyRows_ok eqRows_ok methRows_ok ⟨sound_pool_used N, ⟨sound_pool_clone N, trivial⟩⟩
noncomputable def cut_pool_Drop_l0 : Cut := { tms := [4, 6, 7], sh := (.cons (.ptr 2000000 0) (.cons (.ptr 2000002 0) (.own 2000004))), objs := [(2000000, [4], .box (.own 2000001)), (2000001, [4, 0], .sl T_api_Slot), (2000002, [6], .box (.own 2000003)), (2000003, [6, 0], .sl T_api_Slot), (2000004, [7], .sl (.int .i64))], sts := [] }
noncomputable def cut_pool_Drop_l0_o0 : Cut := { tms := [4, 6], sh := (.cons (.ptr 2000000 0) (.ptr 2000002 0)), objs := [(2000000, [4], .box (.own 2000001)), (2000001, [4, 0], .sl T_api_Slot), (2000002, [6], .box (.own 2000003)), (2000003, [6, 0], .sl T_api_Slot)], sts := [] }
noncomputable def lp_pool_Drop_l0 (N : Nat) : Lp := lpOf cut_pool_Drop_l0 (2, cut_pool_Drop_l0_o0) [] (fun v => pool_Drop_l0 N N v.2.2.1 v.2.2.2.2.1 v.2.2.2.2.2.1)
noncomputable def lam_pool_Drop_l0 (_ : Nat) : Lps := fun _ => none
theorem lpok_pool_Drop_l0 (N : Nat) (ro : Option Nat) : LpOk Try.prog 60 ro (lp_pool_Drop_l0 N) (codeAt c_pool_Drop [true, true, true, false, true, false]) := by
  rw [show (codeAt c_pool_Drop [true, true, true, false, true, false]) = .loop (codeAt c_pool_Drop [true, true, true, false, true, false, false]) by kernel_rfl]
  exact loop_ok (envok_pool_Drop N) mixed (Λ := lam_pool_Drop_l0 N) (p := 244) (obs_ok (l := []) (by kernel_rfl) obsNil) (by kernel_rfl) (by intro rec v; kernel_rfl) N
noncomputable def lam_pool_Drop (N : Nat) : Lps := fun p => bif Nat.beq p 122 then some (lp_pool_Drop_l0 N) else none
noncomputable def ctr_pool_Drop (N : Nat) : Ctr := ctrOf (.cons (.val (.list T_api_Slot)) (.int .i64)) (.tup (.cons (.val (.list T_api_Slot)) (.int .i64))) [] (fun v => pool_Drop N v.1 v.2)
theorem sound_pool_Drop (N : Nat) : SoundF Try.prog 19 (fun vs => (ctr_pool_Drop N).run vs some) :=
  fn_sound (envok_pool_Drop N) mixed (Λ := lam_pool_Drop N) (fn := Try.f19) (c := c_pool_Drop) Try.func19 (by kernel_rfl) (by kernel_rfl) (obs_ok (l := [(lp_pool_Drop_l0 N, (codeAt c_pool_Drop [true, true, true, false, true, false]))]) (by kernel_rfl) (obsCons (lpok_pool_Drop_l0 N none) obsNil)) (by kernel_rfl) (by intro v; kernel_rfl)

noncomputable def c_pool_Get : Code := match Try.f21.body with | some c => c | none => .skip
noncomputable def tab_pool_Get (N : Nat) : List (Nat × Ctr) := [(38, ctr_pool_used N)]
noncomputable def env_pool_Get (N : Nat) : Env := mkEnv tyRows eqRows methRows [] [] (tab_pool_Get N)
theorem envok_pool_Get (N : Nat) : EnvOk Try.prog (env_pool_Get N) := mkEnv_ok tyRows_ok eqRows_ok methRows_ok ⟨sound_pool_used N, trivial⟩
noncomputable def lam_pool_Get (_ : Nat) : Lps := fun _ => none
noncomputable def ctr_pool_Get (N : Nat) : Ctr := ctrOf (.cons (.val (.list T_api_Slot)) (.int .i64)) (.tup (.cons (.val T_api_Node) (.int .i64))) [] (fun v => pool_Get N v.1 v.2)
theorem sound_pool_Get (N : Nat) : SoundF Try.prog 21 (fun vs => (ctr_pool_Get N).run vs some) :=
  fn_sound (envok_pool_Get N) mixed (Λ := lam_pool_Get N) (fn := Try.f21) (c := c_pool_Get) Try.func21 (by kernel_rfl) (by kernel_rfl) (obs_ok (l := []) (by kernel_rfl) obsNil) (by kernel_rfl) (by intro v; kernel_rfl)

noncomputable def c_law11_refs : Code := match Try.f36.body with | some c => c | none => .skip
noncomputable def tab_law11_refs (_ : Nat) : List (Nat × Ctr) := []
noncomputable def env_law11_refs (N : Nat) : Env := mkEnv tyRows eqRows methRows [] [] (tab_law11_refs N)
theorem envok_law11_refs (N : Nat) : EnvOk Try.prog (env_law11_refs N) := mkEnv_ok tyRows_ok eqRows_ok methRows_ok trivial
noncomputable def cut_law11_refs_l0 : Cut := { tms := [1, 3, 4], sh := (.cons (.ptr 2000000 0) (.cons (.own 2000001) (.int .i64))), objs := [(2000000, [1], .box (.list T_api_Slot)), (2000001, [3], .sl (.int .i64))], sts := [] }
noncomputable def cut_law11_refs_l0_o0 : Cut := { tms := [3], sh := (.own 2000000), objs := [(2000000, [3], .sl (.int .i64))], sts := [] }
noncomputable def lp_law11_refs_l0 (N : Nat) : Lp := lpOf cut_law11_refs_l0 (2, cut_law11_refs_l0_o0) [] (fun v => law11_refs_l0 N N v.1.2.2 v.2.1 v.2.2.1)
noncomputable def lam_law11_refs_l0 (_ : Nat) : Lps := fun _ => none
theorem lpok_law11_refs_l0 (N : Nat) (ro : Option Nat) : LpOk Try.prog 23 ro (lp_law11_refs_l0 N) (codeAt c_law11_refs [true, true, false, true, false]) := by
  rw [show (codeAt c_law11_refs [true, true, false, true, false]) = .loop (codeAt c_law11_refs [true, true, false, true, false, false]) by kernel_rfl]
  exact loop_ok (envok_law11_refs N) mixed (Λ := lam_law11_refs_l0 N) (p := 116) (obs_ok (l := []) (by kernel_rfl) obsNil) (by kernel_rfl) (by intro rec v; kernel_rfl) N
noncomputable def lam_law11_refs (N : Nat) : Lps := fun p => bif Nat.beq p 58 then some (lp_law11_refs_l0 N) else none
noncomputable def ctr_law11_refs (N : Nat) : Ctr := ctrOf (.val (.list T_api_Slot)) (.fresh (.int .i64)) [] (fun v => law11_refs N v)
theorem sound_law11_refs (N : Nat) : SoundF Try.prog 36 (fun vs => (ctr_law11_refs N).run vs some) :=
  fn_sound (envok_law11_refs N) mixed (Λ := lam_law11_refs N) (fn := Try.f36) (c := c_law11_refs) Try.func36 (by kernel_rfl) (by kernel_rfl) (obs_ok (l := [(lp_law11_refs_l0 N, (codeAt c_law11_refs [true, true, false, true, false]))]) (by kernel_rfl) (obsCons (lpok_law11_refs_l0 N none) obsNil)) (by kernel_rfl) (by intro v; kernel_rfl)

noncomputable def c_ref11_Ints : Code := match Try.f16.body with | some c => c | none => .skip
noncomputable def tab_ref11_Ints (_ : Nat) : List (Nat × Ctr) := []
noncomputable def env_ref11_Ints (N : Nat) : Env := mkEnv tyRows eqRows methRows [] [] (tab_ref11_Ints N)
theorem envok_ref11_Ints (N : Nat) : EnvOk Try.prog (env_ref11_Ints N) := mkEnv_ok tyRows_ok eqRows_ok methRows_ok trivial
noncomputable def cut_ref11_Ints_l0 : Cut := { tms := [0, 1, 5], sh := (.cons (.list (.int .i64)) (.cons (.list (.int .i64)) (.int .i64))), objs := [], sts := [] }
noncomputable def cut_ref11_Ints_l0_o0 : Cut := { tms := [4], sh := .bool, objs := [], sts := [] }
noncomputable def cut_ref11_Ints_l0_o1 : Cut := { tms := [], sh := .nil, objs := [], sts := [] }
noncomputable def lp_ref11_Ints_l0 (N : Nat) : Lp := lpOf cut_ref11_Ints_l0 (1, cut_ref11_Ints_l0_o0) [(2, cut_ref11_Ints_l0_o1)] (fun v => ref11_Ints_l0 N N v.1.1 v.1.2.1 v.1.2.2)
noncomputable def lam_ref11_Ints_l0 (_ : Nat) : Lps := fun _ => none
theorem lpok_ref11_Ints_l0 (N : Nat) (ro : Option Nat) : LpOk Try.prog 26 ro (lp_ref11_Ints_l0 N) (codeAt c_ref11_Ints [true, true, false, true, false]) := by
  rw [show (codeAt c_ref11_Ints [true, true, false, true, false]) = .loop (codeAt c_ref11_Ints [true, true, false, true, false, false]) by kernel_rfl]
  exact loop_ok (envok_ref11_Ints N) mixed (Λ := lam_ref11_Ints_l0 N) (p := 116) (obs_ok (l := []) (by kernel_rfl) obsNil) (by kernel_rfl) (by intro rec v; kernel_rfl) N
noncomputable def lam_ref11_Ints (N : Nat) : Lps := fun p => bif Nat.beq p 58 then some (lp_ref11_Ints_l0 N) else none
noncomputable def ctr_ref11_Ints (N : Nat) : Ctr := ctrOf (.cons (.list (.int .i64)) (.list (.int .i64))) .bool [] (fun v => ref11_Ints N v.1 v.2)
theorem sound_ref11_Ints (N : Nat) : SoundF Try.prog 16 (fun vs => (ctr_ref11_Ints N).run vs some) :=
  fn_sound (envok_ref11_Ints N) mixed (Λ := lam_ref11_Ints N) (fn := Try.f16) (c := c_ref11_Ints) Try.func16 (by kernel_rfl) (by kernel_rfl) (obs_ok (l := [(lp_ref11_Ints_l0 N, (codeAt c_ref11_Ints [true, true, false, true, false]))]) (by kernel_rfl) (obsCons (lpok_ref11_Ints_l0 N none) obsNil)) (by kernel_rfl) (by intro v; kernel_rfl)

noncomputable def c_pool_Live : Code := match Try.f20.body with | some c => c | none => .skip
noncomputable def tab_pool_Live (_ : Nat) : List (Nat × Ctr) := []
noncomputable def env_pool_Live (N : Nat) : Env := mkEnv tyRows eqRows methRows [] [] (tab_pool_Live N)
theorem envok_pool_Live (N : Nat) : EnvOk Try.prog (env_pool_Live N) := mkEnv_ok tyRows_ok eqRows_ok methRows_ok trivial
noncomputable def cut_pool_Live_l0 : Cut := { tms := [3, 7, 8, 9], sh := (.cons (.int .i64) (.cons (.list T_api_Slot) (.cons (.int .i64) (.int .i64)))), objs := [], sts := [] }
noncomputable def cut_pool_Live_l0_o0 : Cut := { tms := [3], sh := (.int .i64), objs := [], sts := [] }
noncomputable def lp_pool_Live_l0 (N : Nat) : Lp := lpOf cut_pool_Live_l0 (2, cut_pool_Live_l0_o0) [] (fun v => pool_Live_l0 N N v.1.1 v.1.2.1 v.1.2.2.1 v.1.2.2.2)
noncomputable def lam_pool_Live_l0 (_ : Nat) : Lps := fun _ => none
theorem lpok_pool_Live_l0 (N : Nat) (ro : Option Nat) : LpOk Try.prog 19 ro (lp_pool_Live_l0 N) (codeAt c_pool_Live [true, true, false, true, false]) := by
  rw [show (codeAt c_pool_Live [true, true, false, true, false]) = .loop (codeAt c_pool_Live [true, true, false, true, false, false]) by kernel_rfl]
  exact loop_ok (envok_pool_Live N) mixed (Λ := lam_pool_Live_l0 N) (p := 116) (obs_ok (l := []) (by kernel_rfl) obsNil) (by kernel_rfl) (by intro rec v; kernel_rfl) N
noncomputable def lam_pool_Live (N : Nat) : Lps := fun p => bif Nat.beq p 58 then some (lp_pool_Live_l0 N) else none
noncomputable def ctr_pool_Live (N : Nat) : Ctr := ctrOf (.val (.list T_api_Slot)) (.int .i64) [] (fun v => pool_Live N v)
theorem sound_pool_Live (N : Nat) : SoundF Try.prog 20 (fun vs => (ctr_pool_Live N).run vs some) :=
  fn_sound (envok_pool_Live N) mixed (Λ := lam_pool_Live N) (fn := Try.f20) (c := c_pool_Live) Try.func20 (by kernel_rfl) (by kernel_rfl) (obs_ok (l := [(lp_pool_Live_l0 N, (codeAt c_pool_Live [true, true, false, true, false]))]) (by kernel_rfl) (obsCons (lpok_pool_Live_l0 N none) obsNil)) (by kernel_rfl) (by intro v; kernel_rfl)

noncomputable def c_ref05_Same : Code := match Try.f47.body with | some c => c | none => .skip
noncomputable def tab_ref05_Same (_ : Nat) : List (Nat × Ctr) := []
noncomputable def env_ref05_Same (N : Nat) : Env := mkEnv tyRows eqRows methRows [] [] (tab_ref05_Same N)
theorem envok_ref05_Same (N : Nat) : EnvOk Try.prog (env_ref05_Same N) := mkEnv_ok tyRows_ok eqRows_ok methRows_ok trivial
noncomputable def cut_ref05_Same_l0 : Cut := { tms := [0, 1, 5], sh := (.cons (.list T_api_Pair) (.cons (.list T_api_Pair) (.int .i64))), objs := [], sts := [] }
noncomputable def cut_ref05_Same_l0_o0 : Cut := { tms := [4], sh := .bool, objs := [], sts := [] }
noncomputable def cut_ref05_Same_l0_o1 : Cut := { tms := [], sh := .nil, objs := [], sts := [] }
noncomputable def lp_ref05_Same_l0 (N : Nat) : Lp := lpOf cut_ref05_Same_l0 (1, cut_ref05_Same_l0_o0) [(2, cut_ref05_Same_l0_o1)] (fun v => ref05_Same_l0 N N v.1.1 v.1.2.1 v.1.2.2)
noncomputable def lam_ref05_Same_l0 (_ : Nat) : Lps := fun _ => none
theorem lpok_ref05_Same_l0 (N : Nat) (ro : Option Nat) : LpOk Try.prog 26 ro (lp_ref05_Same_l0 N) (codeAt c_ref05_Same [true, true, false, true, false]) := by
  rw [show (codeAt c_ref05_Same [true, true, false, true, false]) = .loop (codeAt c_ref05_Same [true, true, false, true, false, false]) by kernel_rfl]
  exact loop_ok (envok_ref05_Same N) mixed (Λ := lam_ref05_Same_l0 N) (p := 116) (obs_ok (l := []) (by kernel_rfl) obsNil) (by kernel_rfl) (by intro rec v; kernel_rfl) N
noncomputable def lam_ref05_Same (N : Nat) : Lps := fun p => bif Nat.beq p 58 then some (lp_ref05_Same_l0 N) else none
noncomputable def ctr_ref05_Same (N : Nat) : Ctr := ctrOf (.cons (.list T_api_Pair) (.list T_api_Pair)) .bool [] (fun v => ref05_Same N v.1 v.2)
theorem sound_ref05_Same (N : Nat) : SoundF Try.prog 47 (fun vs => (ctr_ref05_Same N).run vs some) :=
  fn_sound (envok_ref05_Same N) mixed (Λ := lam_ref05_Same N) (fn := Try.f47) (c := c_ref05_Same) Try.func47 (by kernel_rfl) (by kernel_rfl) (obs_ok (l := [(lp_ref05_Same_l0 N, (codeAt c_ref05_Same [true, true, false, true, false]))]) (by kernel_rfl) (obsCons (lpok_ref05_Same_l0 N none) obsNil)) (by kernel_rfl) (by intro v; kernel_rfl)

noncomputable def c_ref05_SameMsgs : Code := match Try.f48.body with | some c => c | none => .skip
noncomputable def tab_ref05_SameMsgs (_ : Nat) : List (Nat × Ctr) := []
noncomputable def env_ref05_SameMsgs (N : Nat) : Env := mkEnv tyRows eqRows methRows [] [] (tab_ref05_SameMsgs N)
theorem envok_ref05_SameMsgs (N : Nat) : EnvOk Try.prog (env_ref05_SameMsgs N) := mkEnv_ok tyRows_ok eqRows_ok methRows_ok trivial
noncomputable def cut_ref05_SameMsgs_l0 : Cut := { tms := [0, 1, 5], sh := (.cons (.list T_api_Msg) (.cons (.list T_api_Msg) (.int .i64))), objs := [], sts := [] }
noncomputable def cut_ref05_SameMsgs_l0_o0 : Cut := { tms := [4], sh := .bool, objs := [], sts := [] }
noncomputable def cut_ref05_SameMsgs_l0_o1 : Cut := { tms := [], sh := .nil, objs := [], sts := [] }
noncomputable def lp_ref05_SameMsgs_l0 (N : Nat) : Lp := lpOf cut_ref05_SameMsgs_l0 (1, cut_ref05_SameMsgs_l0_o0) [(2, cut_ref05_SameMsgs_l0_o1)] (fun v => ref05_SameMsgs_l0 N N v.1.1 v.1.2.1 v.1.2.2)
noncomputable def lam_ref05_SameMsgs_l0 (_ : Nat) : Lps := fun _ => none
theorem lpok_ref05_SameMsgs_l0 (N : Nat) (ro : Option Nat) : LpOk Try.prog 26 ro (lp_ref05_SameMsgs_l0 N) (codeAt c_ref05_SameMsgs [true, true, false, true, false]) := by
  rw [show (codeAt c_ref05_SameMsgs [true, true, false, true, false]) = .loop (codeAt c_ref05_SameMsgs [true, true, false, true, false, false]) by kernel_rfl]
  exact loop_ok (envok_ref05_SameMsgs N) mixed (Λ := lam_ref05_SameMsgs_l0 N) (p := 116) (obs_ok (l := []) (by kernel_rfl) obsNil) (by kernel_rfl) (by intro rec v; kernel_rfl) N
noncomputable def lam_ref05_SameMsgs (N : Nat) : Lps := fun p => bif Nat.beq p 58 then some (lp_ref05_SameMsgs_l0 N) else none
noncomputable def ctr_ref05_SameMsgs (N : Nat) : Ctr := ctrOf (.cons (.list T_api_Msg) (.list T_api_Msg)) .bool [] (fun v => ref05_SameMsgs N v.1 v.2)
theorem sound_ref05_SameMsgs (N : Nat) : SoundF Try.prog 48 (fun vs => (ctr_ref05_SameMsgs N).run vs some) :=
  fn_sound (envok_ref05_SameMsgs N) mixed (Λ := lam_ref05_SameMsgs N) (fn := Try.f48) (c := c_ref05_SameMsgs) Try.func48 (by kernel_rfl) (by kernel_rfl) (obs_ok (l := [(lp_ref05_SameMsgs_l0 N, (codeAt c_ref05_SameMsgs [true, true, false, true, false]))]) (by kernel_rfl) (obsCons (lpok_ref05_SameMsgs_l0 N none) obsNil)) (by kernel_rfl) (by intro v; kernel_rfl)

noncomputable def c_ref11_SameNode : Code := match Try.f22.body with | some c => c | none => .skip
noncomputable def tab_ref11_SameNode (N : Nat) : List (Nat × Ctr) := [(47, ctr_ref05_Same N), (16, ctr_ref11_Ints N), (48, ctr_ref05_SameMsgs N)]
noncomputable def env_ref11_SameNode (N : Nat) : Env := mkEnv tyRows eqRows methRows [] [] (tab_ref11_SameNode N)
theorem envok_ref11_SameNode (N : Nat) : EnvOk Try.prog (env_ref11_SameNode N) := mkEnv_ok tyRows_ok eqRows_ok methRows_ok ⟨sound_ref05_Same N, ⟨sound_ref11_Ints N, ⟨sound_ref05_SameMsgs N, trivial⟩⟩⟩
noncomputable def cut_ref11_SameNode_l3 : Cut := { tms := [2, 3, 6], sh := (.cons (.ptr 2000000 0) (.cons (.ptr 2000001 0) (.int .i64))), objs := [(2000000, [2], .box (.cons (.list T_api_Pair) (.cons (.list .str) (.cons (.list (.int .i64)) (.cons (.list T_api_Sum) (.list T_api_Msg)))))), (2000001, [3], .box (.cons (.list T_api_Pair) (.cons (.list .str) (.cons (.list (.int .i64)) (.cons (.list T_api_Sum) (.list T_api_Msg))))))], sts := [] }
noncomputable def cut_ref11_SameNode_l3_o0 : Cut := { tms := [4], sh := .bool, objs := [], sts := [] }
noncomputable def cut_ref11_SameNode_l3_o1 : Cut := { tms := [], sh := .nil, objs := [], sts := [] }
noncomputable def lp_ref11_SameNode_l3 (N : Nat) : Lp := lpOf cut_ref11_SameNode_l3 (1, cut_ref11_SameNode_l3_o0) [(4, cut_ref11_SameNode_l3_o1)] (fun v => ref11_SameNode_l3 N N v.1.2.2 v.2.1.1 v.2.1.2.1 v.2.1.2.2.1 v.2.1.2.2.2.1 v.2.1.2.2.2.2 v.2.2.1.1 v.2.2.1.2.1 v.2.2.1.2.2.1 v.2.2.1.2.2.2.1 v.2.2.1.2.2.2.2)
noncomputable def lam_ref11_SameNode_l3 (_ : Nat) : Lps := fun _ => none
theorem lpok_ref11_SameNode_l3 (N : Nat) (ro : Option Nat) : LpOk Try.prog 83 ro (lp_ref11_SameNode_l3 N) (codeAt c_ref11_SameNode [true, true, true, false, true, false]) := by
  rw [show (codeAt c_ref11_SameNode [true, true, true, false, true, false]) = .loop (codeAt c_ref11_SameNode [true, true, true, false, true, false, false]) by kernel_rfl]
  exact loop_ok (envok_ref11_SameNode N) mixed (Λ := lam_ref11_SameNode_l3 N) (p := 244) (obs_ok (l := []) (by kernel_rfl) obsNil) (by kernel_rfl) (by intro rec v; kernel_rfl) N
noncomputable def cut_ref11_SameNode_l2 : Cut := { tms := [2, 3, 5], sh := (.cons (.ptr 2000000 0) (.cons (.ptr 2000001 0) (.int .i64))), objs := [(2000000, [2], .box (.cons (.list T_api_Pair) (.cons (.list .str) (.cons (.list (.int .i64)) (.cons (.list T_api_Sum) (.list T_api_Msg)))))), (2000001, [3], .box (.cons (.list T_api_Pair) (.cons (.list .str) (.cons (.list (.int .i64)) (.cons (.list T_api_Sum) (.list T_api_Msg))))))], sts := [] }
noncomputable def cut_ref11_SameNode_l2_o0 : Cut := { tms := [4], sh := .bool, objs := [], sts := [] }
noncomputable def cut_ref11_SameNode_l2_o1 : Cut := { tms := [2, 3], sh := (.cons (.ptr 2000000 0) (.ptr 2000001 0)), objs := [(2000000, [2], .box (.cons (.list T_api_Pair) (.cons (.list .str) (.cons (.list (.int .i64)) (.cons (.list T_api_Sum) (.list T_api_Msg)))))), (2000001, [3], .box (.cons (.list T_api_Pair) (.cons (.list .str) (.cons (.list (.int .i64)) (.cons (.list T_api_Sum) (.list T_api_Msg))))))], sts := [] }
noncomputable def lp_ref11_SameNode_l2 (N : Nat) : Lp := lpOf cut_ref11_SameNode_l2 (1, cut_ref11_SameNode_l2_o0) [(2, cut_ref11_SameNode_l2_o1)] (fun v => ref11_SameNode_l2 N N v.1.2.2 v.2.1.1 v.2.1.2.1 v.2.1.2.2.1 v.2.1.2.2.2.1 v.2.1.2.2.2.2 v.2.2.1.1 v.2.2.1.2.1 v.2.2.1.2.2.1 v.2.2.1.2.2.2.1 v.2.2.1.2.2.2.2)
noncomputable def lam_ref11_SameNode_l2 (_ : Nat) : Lps := fun _ => none
theorem lpok_ref11_SameNode_l2 (N : Nat) (ro : Option Nat) : LpOk Try.prog 83 ro (lp_ref11_SameNode_l2 N) (codeAt c_ref11_SameNode [true, true, false, true, false]) := by
  rw [show (codeAt c_ref11_SameNode [true, true, false, true, false]) = .loop (codeAt c_ref11_SameNode [true, true, false, true, false, false]) by kernel_rfl]
  exact loop_ok (envok_ref11_SameNode N) mixed (Λ := lam_ref11_SameNode_l2 N) (p := 116) (obs_ok (l := []) (by kernel_rfl) obsNil) (by kernel_rfl) (by intro rec v; kernel_rfl) N
noncomputable def cut_ref11_SameNode_p1 : Cut := { tms := [2, 3, 46], sh := (.cons (.ptr 2000000 0) (.cons (.ptr 2000001 0) .bool)), objs := [(2000000, [2], .box (.cons (.list T_api_Pair) (.cons (.list .str) (.cons (.list (.int .i64)) (.cons (.list T_api_Sum) (.list T_api_Msg)))))), (2000001, [3], .box (.cons (.list T_api_Pair) (.cons (.list .str) (.cons (.list (.int .i64)) (.cons (.list T_api_Sum) (.list T_api_Msg))))))], sts := [] }
noncomputable def cut_ref11_SameNode_p1_o0 : Cut := { tms := [4], sh := .bool, objs := [], sts := [] }
noncomputable def cut_ref11_SameNode_p1_o1 : Cut := { tms := [2, 3], sh := (.cons (.ptr 2000000 0) (.ptr 2000001 0)), objs := [(2000000, [2], .box (.cons (.list T_api_Pair) (.cons (.list .str) (.cons (.list (.int .i64)) (.cons (.list T_api_Sum) (.list T_api_Msg)))))), (2000001, [3], .box (.cons (.list T_api_Pair) (.cons (.list .str) (.cons (.list (.int .i64)) (.cons (.list T_api_Sum) (.list T_api_Msg))))))], sts := [] }
noncomputable def lp_ref11_SameNode_p1 (N : Nat) : Lp := lpOf cut_ref11_SameNode_p1 (1, cut_ref11_SameNode_p1_o0) [(0, cut_ref11_SameNode_p1_o1)] (fun v => ref11_SameNode_p1 N v.1.2.2 v.2.1.1 v.2.1.2.1 v.2.1.2.2.1 v.2.1.2.2.2.1 v.2.1.2.2.2.2 v.2.2.1.1 v.2.2.1.2.1 v.2.2.1.2.2.1 v.2.2.1.2.2.2.1 v.2.2.1.2.2.2.2)
noncomputable def lam_ref11_SameNode_p1 (_ : Nat) : Lps := fun _ => none
theorem lpok_ref11_SameNode_p1 (N : Nat) (ro : Option Nat) : LpOk Try.prog 83 ro (lp_ref11_SameNode_p1 N) (codeAt c_ref11_SameNode [true, false, true]) :=
  piece_ok (envok_ref11_SameNode N) mixed (Λ := lam_ref11_SameNode_p1 N) (p := 13) (obs_ok (l := []) (by kernel_rfl) obsNil) (by kernel_rfl) (by intro v; kernel_rfl)
noncomputable def cut_ref11_SameNode_p0 : Cut := { tms := [2, 3], sh := (.cons (.ptr 2000000 0) (.ptr 2000001 0)), objs := [(2000000, [2], .box (.cons (.list T_api_Pair) (.cons (.list .str) (.cons (.list (.int .i64)) (.cons (.list T_api_Sum) (.list T_api_Msg)))))), (2000001, [3], .box (.cons (.list T_api_Pair) (.cons (.list .str) (.cons (.list (.int .i64)) (.cons (.list T_api_Sum) (.list T_api_Msg))))))], sts := [] }
noncomputable def cut_ref11_SameNode_p0_o0 : Cut := { tms := [4], sh := .bool, objs := [], sts := [] }
noncomputable def lp_ref11_SameNode_p0 (N : Nat) : Lp := lpOf cut_ref11_SameNode_p0 (1, cut_ref11_SameNode_p0_o0) [] (fun v => ref11_SameNode_p0 N v.2.1.1 v.2.1.2.1 v.2.1.2.2.1 v.2.1.2.2.2.1 v.2.1.2.2.2.2 v.2.2.1.1 v.2.2.1.2.1 v.2.2.1.2.2.1 v.2.2.1.2.2.2.1 v.2.2.1.2.2.2.2)
noncomputable def lam_ref11_SameNode_p0 (N : Nat) : Lps := fun p => bif Nat.beq p 58 then some (lp_ref11_SameNode_l2 N) else bif Nat.beq p 122 then some (lp_ref11_SameNode_l3 N) else none
theorem lpok_ref11_SameNode_p0 (N : Nat) (ro : Option Nat) : LpOk Try.prog 83 ro (lp_ref11_SameNode_p0 N) (codeAt c_ref11_SameNode [true, true]) :=
  piece_ok (envok_ref11_SameNode N) mixed (Λ := lam_ref11_SameNode_p0 N) (p := 7) (obs_ok (l := [(lp_ref11_SameNode_l2 N, (codeAt c_ref11_SameNode [true, true, false, true, false])), (lp_ref11_SameNode_l3 N, (codeAt c_ref11_SameNode [true, true, true, false, true, false]))]) (by kernel_rfl) (obsCons (lpok_ref11_SameNode_l2 N ro) (obsCons (lpok_ref11_SameNode_l3 N ro) obsNil))) (by kernel_rfl) (by intro v; kernel_rfl)
noncomputable def lam_ref11_SameNode (N : Nat) : Lps := fun p => bif Nat.beq p 7 then some (lp_ref11_SameNode_p0 N) else bif Nat.beq p 13 then some (lp_ref11_SameNode_p1 N) else none
noncomputable def ctr_ref11_SameNode (N : Nat) : Ctr := ctrOf (.cons (.val T_api_Node) (.val T_api_Node)) .bool [] (fun v => ref11_SameNode N v.1 v.2)
theorem sound_ref11_SameNode (N : Nat) : SoundF Try.prog 22 (fun vs => (ctr_ref11_SameNode N).run vs some) :=
  fn_sound (envok_ref11_SameNode N) mixed (Λ := lam_ref11_SameNode N) (fn := Try.f22) (c := c_ref11_SameNode) Try.func22 (by kernel_rfl) (by kernel_rfl) (obs_ok (l := [(lp_ref11_SameNode_p1 N, (codeAt c_ref11_SameNode [true, false, true])), (lp_ref11_SameNode_p0 N, (codeAt c_ref11_SameNode [true, true]))]) (by kernel_rfl) (obsCons (lpok_ref11_SameNode_p1 N none) (obsCons (lpok_ref11_SameNode_p0 N none) obsNil))) (by kernel_rfl) (by intro v; kernel_rfl)

noncomputable def c_ref11_Same : Code := match Try.f33.body with | some c => c | none => .skip
noncomputable def tab_ref11_Same (N : Nat) : List (Nat × Ctr) := [(22, ctr_ref11_SameNode N)]
noncomputable def env_ref11_Same (N : Nat) : Env := mkEnv tyRows eqRows methRows [] [] (tab_ref11_Same N)
theorem envok_ref11_Same (N : Nat) : EnvOk Try.prog (env_ref11_Same N) := mkEnv_ok tyRows_ok eqRows_ok methRows_ok ⟨sound_ref11_SameNode N, trivial⟩
noncomputable def cut_ref11_Same_l0 : Cut := { tms := [2, 3, 5], sh := (.cons (.ptr 2000000 0) (.cons (.ptr 2000001 0) (.int .i64))), objs := [(2000000, [2], .box (.list T_api_Slot)), (2000001, [3], .box (.list T_api_Slot))], sts := [] }
noncomputable def cut_ref11_Same_l0_o0 : Cut := { tms := [4], sh := .bool, objs := [], sts := [] }
noncomputable def cut_ref11_Same_l0_o1 : Cut := { tms := [], sh := .nil, objs := [], sts := [] }
noncomputable def lp_ref11_Same_l0 (N : Nat) : Lp := lpOf cut_ref11_Same_l0 (1, cut_ref11_Same_l0_o0) [(2, cut_ref11_Same_l0_o1)] (fun v => ref11_Same_l0 N N v.1.2.2 v.2.1 v.2.2.1)
noncomputable def lam_ref11_Same_l0 (_ : Nat) : Lps := fun _ => none
theorem lpok_ref11_Same_l0 (N : Nat) (ro : Option Nat) : LpOk Try.prog 59 ro (lp_ref11_Same_l0 N) (codeAt c_ref11_Same [true, true, false, true, false]) := by
  rw [show (codeAt c_ref11_Same [true, true, false, true, false]) = .loop (codeAt c_ref11_Same [true, true, false, true, false, false]) by kernel_rfl]
  exact loop_ok (envok_ref11_Same N) mixed (Λ := lam_ref11_Same_l0 N) (p := 116) (obs_ok (l := []) (by kernel_rfl) obsNil) (by kernel_rfl) (by intro rec v; kernel_rfl) N
noncomputable def lam_ref11_Same (N : Nat) : Lps := fun p => bif Nat.beq p 58 then some (lp_ref11_Same_l0 N) else none
noncomputable def ctr_ref11_Same (N : Nat) : Ctr := ctrOf (.cons (.val (.list T_api_Slot)) (.val (.list T_api_Slot))) .bool [] (fun v => ref11_Same N v.1 v.2)
theorem sound_ref11_Same (N : Nat) : SoundF Try.prog 33 (fun vs => (ctr_ref11_Same N).run vs some) :=
  fn_sound (envok_ref11_Same N) mixed (Λ := lam_ref11_Same N) (fn := Try.f33) (c := c_ref11_Same) Try.func33 (by kernel_rfl) (by kernel_rfl) (obs_ok (l := [(lp_ref11_Same_l0 N, (codeAt c_ref11_Same [true, true, false, true, false]))]) (by kernel_rfl) (obsCons (lpok_ref11_Same_l0 N none) obsNil)) (by kernel_rfl) (by intro v; kernel_rfl)

noncomputable def c_pool_Sound_c1_m : Code := match Try.f37.body with | some c => c | none => .skip
noncomputable def tab_pool_Sound_c1_m (N : Nat) : List (Nat × Ctr) := [(38, ctr_pool_used N)]
noncomputable def env_pool_Sound_c1_m (N : Nat) : Env := mkEnv tyRows eqRows methRows [] [] (tab_pool_Sound_c1_m N)
theorem envok_pool_Sound_c1_m (N : Nat) : EnvOk Try.prog (env_pool_Sound_c1_m N) := mkEnv_ok tyRows_ok eqRows_ok methRows_ok ⟨sound_pool_used N, trivial⟩
noncomputable def cut_pool_Sound_c1_m_l0 : Cut := { tms := [1, 2, 7, 8, 9], sh := (.cons (.ptr 5000000 0) (.cons (.ptr 5000001 0) (.cons (.list (.int .i64)) (.cons (.int .i64) (.int .i64))))), objs := [(5000000, [5000000], .box (.list T_api_Slot)), (5000001, [5000001], .box (.own 5000002)), (5000002, [5000002], .sl (.int .i64))], sts := [] }
noncomputable def cut_pool_Sound_c1_m_l0_o0 : Cut := { tms := [4], sh := .bool, objs := [(5000000, [5000000], .box (.list T_api_Slot)), (5000001, [5000001], .box (.own 5000002)), (5000002, [5000002], .sl (.int .i64))], sts := [] }
noncomputable def cut_pool_Sound_c1_m_l0_o1 : Cut := { tms := [], sh := .nil, objs := [(5000000, [5000000], .box (.list T_api_Slot)), (5000001, [5000001], .box (.own 5000002)), (5000002, [5000002], .sl (.int .i64))], sts := [] }
noncomputable def lp_pool_Sound_c1_m_l0 (N : Nat) : Lp := lpOf cut_pool_Sound_c1_m_l0 (1, cut_pool_Sound_c1_m_l0_o0) [(2, cut_pool_Sound_c1_m_l0_o1)] (fun v => pool_Sound_c1_m_l0 N N v.1.2.2.1 v.1.2.2.2.1 v.1.2.2.2.2 v.2.1 v.2.2.2.1)
noncomputable def lam_pool_Sound_c1_m_l0 (_ : Nat) : Lps := fun _ => none
theorem lpok_pool_Sound_c1_m_l0 (N : Nat) (ro : Option Nat) : LpOk Try.prog 24 ro (lp_pool_Sound_c1_m_l0 N) (codeAt c_pool_Sound_c1_m [true, false, true, false]) := by
  rw [show (codeAt c_pool_Sound_c1_m [true, false, true, false]) = .loop (codeAt c_pool_Sound_c1_m [true, false, true, false, false]) by kernel_rfl]
  exact loop_ok (envok_pool_Sound_c1_m N) mixed (Λ := lam_pool_Sound_c1_m_l0 N) (p := 52) (obs_ok (l := []) (by kernel_rfl) obsNil) (by kernel_rfl) (by intro rec v; kernel_rfl) N
noncomputable def lam_pool_Sound_c1_m (N : Nat) : Lps := fun p => bif Nat.beq p 26 then some (lp_pool_Sound_c1_m_l0 N) else none
noncomputable def cut_pool_Sound_c1_m_in : Cut := { tms := [0, 1, 2], sh := (.cons (.list (.int .i64)) (.cons (.ptr 5000000 0) (.ptr 5000001 0))), objs := [(5000000, [1], .box (.list T_api_Slot)), (5000001, [2], .box (.own 5000002)), (5000002, [2, 0], .sl (.int .i64))], sts := [] }
noncomputable def cut_pool_Sound_c1_m_out0 : Cut := { tms := [0], sh := .bool, objs := [(5000000, [5000000], .box (.list T_api_Slot)), (5000001, [5000001], .box (.own 5000002)), (5000002, [5000002], .sl (.int .i64))], sts := [] }
noncomputable def ctr_pool_Sound_c1_m (N : Nat) : CtrM := ctrM cut_pool_Sound_c1_m_in cut_pool_Sound_c1_m_out0 [] (fun v => pool_Sound_c1_m N v.1.1 v.2.1 v.2.2.2.1)
theorem sound_pool_Sound_c1_m (N : Nat) : SoundM Try.prog 37 (ctr_pool_Sound_c1_m N) :=
  fnM_sound (envok_pool_Sound_c1_m N) mixed (Λ := lam_pool_Sound_c1_m N) (fn := Try.f37) (c := c_pool_Sound_c1_m) Try.func37 (by kernel_rfl) (by kernel_rfl) (obs_ok (l := [(lp_pool_Sound_c1_m_l0 N, (codeAt c_pool_Sound_c1_m [true, false, true, false]))]) (by kernel_rfl) (obsCons (lpok_pool_Sound_c1_m_l0 N none) obsNil)) (by kernel_rfl) (by intro v; kernel_rfl)

noncomputable def c_pool_Sound_c2_m : Code := match Try.f40.body with | some c => c | none => .skip
noncomputable def tab_pool_Sound_c2_m (_ : Nat) : List (Nat × Ctr) := []
noncomputable def env_pool_Sound_c2_m (N : Nat) : Env := mkEnv tyRows eqRows methRows [] [] (tab_pool_Sound_c2_m N)
theorem envok_pool_Sound_c2_m (N : Nat) : EnvOk Try.prog (env_pool_Sound_c2_m N) := mkEnv_ok tyRows_ok eqRows_ok methRows_ok trivial
noncomputable def lam_pool_Sound_c2_m (_ : Nat) : Lps := fun _ => none
noncomputable def cut_pool_Sound_c2_m_in : Cut := { tms := [0, 1], sh := (.cons (.int .i64) (.ptr 5000000 0)), objs := [(5000000, [1], .box (.int .i64))], sts := [] }
noncomputable def cut_pool_Sound_c2_m_out0 : Cut := { tms := [0], sh := (.tup .nil), objs := [(5000000, [5000000], .box (.int .i64))], sts := [] }
noncomputable def ctr_pool_Sound_c2_m (N : Nat) : CtrM := ctrM cut_pool_Sound_c2_m_in cut_pool_Sound_c2_m_out0 [] (fun v => pool_Sound_c2_m N v.1.1 v.2.1)
theorem sound_pool_Sound_c2_m (N : Nat) : SoundM Try.prog 40 (ctr_pool_Sound_c2_m N) :=
  fnM_sound (envok_pool_Sound_c2_m N) mixed (Λ := lam_pool_Sound_c2_m N) (fn := Try.f40) (c := c_pool_Sound_c2_m) Try.func40 (by kernel_rfl) (by kernel_rfl) (obs_ok (l := []) (by kernel_rfl) obsNil) (by kernel_rfl) (by intro v; kernel_rfl)

noncomputable def c_pool_visit_c1_m_a : Code := match Try.f51.body with | some c => c | none => .skip
noncomputable def cut_pool_visit_c1_m_a_in : Cut := { tms := [0, 1, 2, 3, 4, 5], sh := (.cons (.int .i64) (.cons (.ptr 5000000 0) (.cons (.ptr 5000001 0) (.cons (.ptr 5000003 0) (.cons (.ptr 5000004 0) (.ptr 5000005 0)))))), objs := [(5000000, [1], .box (.list T_api_Slot)), (5000001, [2], .box (.own 5000002)), (5000002, [2, 0], .sl (.int .i64)), (5000003, [3], .box .bool), (5000004, [4], .box (.clo 51 (.cons (.ptr 5000000 0) (.cons (.ptr 5000001 0) (.cons (.ptr 5000003 0) (.cons (.ptr 5000004 0) (.ptr 5000005 0))))))), (5000005, [4, 0, 4], .box (.clo 40 (.ptr 5000006 0))), (5000006, [4, 0, 4, 0, 0], .box (.int .i64))], sts := [] }
noncomputable def cut_pool_visit_c1_m_a_out0 : Cut := { tms := [0], sh := (.tup .nil), objs := [(5000000, [5000000], .box (.list T_api_Slot)), (5000001, [5000001], .box (.own 5000002)), (5000002, [5000002], .sl (.int .i64)), (5000003, [5000003], .box .bool), (5000004, [5000004], .box (.clo 51 (.cons (.ptr 5000000 0) (.cons (.ptr 5000001 0) (.cons (.ptr 5000003 0) (.cons (.ptr 5000004 0) (.ptr 5000005 0))))))), (5000005, [5000005], .box (.clo 40 (.ptr 5000006 0))), (5000006, [5000006], .box (.int .i64))], sts := [] }
noncomputable def ctrS_pool_visit_c1_m_a (self : Int → (List V_api_Slot) → (List Int) → Bool → Int → Option ((Unit × ((List V_api_Slot) × (Unit × ((List Int) × (Bool × ((Unit × (Unit × (Unit × (Unit × Unit)))) × (Unit × (Int × Unit)))))))))) : CtrM := ctrM cut_pool_visit_c1_m_a_in cut_pool_visit_c1_m_a_out0 [] (fun v => self v.1.1 v.2.1 v.2.2.2.1 v.2.2.2.2.1 v.2.2.2.2.2.2.2.1)
noncomputable def tab_pool_visit_c1_m_a (N : Nat) (self : Int → (List V_api_Slot) → (List Int) → Bool → Int → Option ((Unit × ((List V_api_Slot) × (Unit × ((List Int) × (Bool × ((Unit × (Unit × (Unit × (Unit × Unit)))) × (Unit × (Int × Unit)))))))))) : List (Nat × Ctr) := [(38, ctr_pool_used N)]
noncomputable def tabm_pool_visit_c1_m_a (N : Nat) (self : Int → (List V_api_Slot) → (List Int) → Bool → Int → Option ((Unit × ((List V_api_Slot) × (Unit × ((List Int) × (Bool × ((Unit × (Unit × (Unit × (Unit × Unit)))) × (Unit × (Int × Unit)))))))))) : List (Nat × CtrM) := [(51, ctrS_pool_visit_c1_m_a self), (40, ctr_pool_Sound_c2_m N)]
noncomputable def env_pool_visit_c1_m_a (N : Nat) (self : Int → (List V_api_Slot) → (List Int) → Bool → Int → Option ((Unit × ((List V_api_Slot) × (Unit × ((List Int) × (Bool × ((Unit × (Unit × (Unit × (Unit × Unit)))) × (Unit × (Int × Unit)))))))))) : Env := mkEnv tyRows eqRows methRows [] [42, 49] (tab_pool_visit_c1_m_a N self) (tabm_pool_visit_c1_m_a N self)
theorem envok_pool_visit_c1_m_a (N : Nat) (self : Int → (List V_api_Slot) → (List Int) → Bool → Int → Option ((Unit × ((List V_api_Slot) × (Unit × ((List Int) × (Bool × ((Unit × (Unit × (Unit × (Unit × Unit)))) × (Unit × (Int × Unit)))))))))) (hs : SoundM Try.prog 51 (ctrS_pool_visit_c1_m_a self)) : EnvOk Try.prog (env_pool_visit_c1_m_a N self) := mkEnv_ok tyRows_ok eqRows_ok methRows_ok ⟨sound_pool_used N, trivial⟩ ⟨hs, ⟨sound_pool_Sound_c2_m N, trivial⟩⟩
noncomputable def cut_pool_visit_c1_m_a_l0 : Cut := { tms := [0, 2, 4, 5, 34, 35, 36], sh := (.cons (.int .i64) (.cons (.ptr 5000001 0) (.cons (.ptr 5000004 0) (.cons (.ptr 5000005 0) (.cons (.list (.int .i64)) (.cons (.int .i64) (.int .i64))))))), objs := [(5000001, [5000001], .box (.own 5000002)), (5000002, [5000002], .sl (.int .i64)), (5000004, [5000004], .box (.clo 51 (.cons (.ptr 5000000 0) (.cons (.ptr 5000001 0) (.cons (.ptr 5000003 0) (.cons (.ptr 5000004 0) (.ptr 5000005 0))))))), (5000000, [5000000], .box (.list T_api_Slot)), (5000003, [5000003], .box .bool), (5000005, [5000005], .box (.clo 40 (.ptr 5000006 0))), (5000006, [5000006], .box (.int .i64))], sts := [] }
noncomputable def cut_pool_visit_c1_m_a_l0_o0 : Cut := { tms := [0, 2, 5], sh := (.cons (.int .i64) (.cons (.ptr 5000001 0) (.ptr 5000005 0))), objs := [(5000001, [5000001], .box (.own 5000002)), (5000002, [5000002], .sl (.int .i64)), (5000005, [5000005], .box (.clo 40 (.ptr 5000006 0))), (5000006, [5000006], .box (.int .i64)), (5000000, [5000000], .box (.list T_api_Slot)), (5000003, [5000003], .box .bool), (5000004, [5000004], .box (.clo 51 (.cons (.ptr 5000000 0) (.cons (.ptr 5000001 0) (.cons (.ptr 5000003 0) (.cons (.ptr 5000004 0) (.ptr 5000005 0)))))))], sts := [] }
noncomputable def lp_pool_visit_c1_m_a_l0 (N : Nat) (self : Int → (List V_api_Slot) → (List Int) → Bool → Int → Option ((Unit × ((List V_api_Slot) × (Unit × ((List Int) × (Bool × ((Unit × (Unit × (Unit × (Unit × Unit)))) × (Unit × (Int × Unit)))))))))) : Lp := lpOf cut_pool_visit_c1_m_a_l0 (2, cut_pool_visit_c1_m_a_l0_o0) [] (fun v => pool_visit_c1_m_a_l0 N self N v.1.1 v.1.2.2.2.2.1 v.1.2.2.2.2.2.1 v.1.2.2.2.2.2.2 v.2.2.1 v.2.2.2.2.1 v.2.2.2.2.2.1 v.2.2.2.2.2.2.2.1)
noncomputable def lam_pool_visit_c1_m_a_l0 (_ : Nat) (_ : Int → (List V_api_Slot) → (List Int) → Bool → Int → Option ((Unit × ((List V_api_Slot) × (Unit × ((List Int) × (Bool × ((Unit × (Unit × (Unit × (Unit × Unit)))) × (Unit × (Int × Unit)))))))))) : Lps := fun _ => none
theorem lpok_pool_visit_c1_m_a_l0 (N : Nat) (self : Int → (List V_api_Slot) → (List Int) → Bool → Int → Option ((Unit × ((List V_api_Slot) × (Unit × ((List Int) × (Bool × ((Unit × (Unit × (Unit × (Unit × Unit)))) × (Unit × (Int × Unit)))))))))) (hs : SoundM Try.prog 51 (ctrS_pool_visit_c1_m_a self)) (ro : Option Nat) : LpOk Try.prog 50 ro (lp_pool_visit_c1_m_a_l0 N self) (codeAt c_pool_visit_c1_m_a [true, true, true, false, true, false]) := by
  rw [show (codeAt c_pool_visit_c1_m_a [true, true, true, false, true, false]) = .loop (codeAt c_pool_visit_c1_m_a [true, true, true, false, true, false, false]) by kernel_rfl]
  exact loop_ok (envok_pool_visit_c1_m_a N self hs) mixed (Λ := lam_pool_visit_c1_m_a_l0 N self) (p := 244) (obs_ok (l := []) (by kernel_rfl) obsNil) (by kernel_rfl) (by intro rec v; kernel_rfl) N
noncomputable def lam_pool_visit_c1_m_a (N : Nat) (self : Int → (List V_api_Slot) → (List Int) → Bool → Int → Option ((Unit × ((List V_api_Slot) × (Unit × ((List Int) × (Bool × ((Unit × (Unit × (Unit × (Unit × Unit)))) × (Unit × (Int × Unit)))))))))) : Lps := fun p => bif Nat.beq p 122 then some (lp_pool_visit_c1_m_a_l0 N self) else none
theorem soundS_pool_visit_c1_m_a (N : Nat) (self : Int → (List V_api_Slot) → (List Int) → Bool → Int → Option ((Unit × ((List V_api_Slot) × (Unit × ((List Int) × (Bool × ((Unit × (Unit × (Unit × (Unit × Unit)))) × (Unit × (Int × Unit)))))))))) (hs : SoundM Try.prog 51 (ctrS_pool_visit_c1_m_a self)) : SoundM Try.prog 51 (ctrS_pool_visit_c1_m_a (pool_visit_c1_m_a_step N self)) :=
  fnM_sound (envok_pool_visit_c1_m_a N self hs) mixed (Λ := lam_pool_visit_c1_m_a N self) (fn := Try.f51) (c := c_pool_visit_c1_m_a) Try.func51 (by kernel_rfl) (by kernel_rfl) (obs_ok (l := [(lp_pool_visit_c1_m_a_l0 N self, (codeAt c_pool_visit_c1_m_a [true, true, true, false, true, false]))]) (by kernel_rfl) (obsCons (lpok_pool_visit_c1_m_a_l0 N self hs none) obsNil)) (by kernel_rfl) (by intro v; kernel_rfl)
theorem soundN_pool_visit_c1_m_a (N : Nat) : ∀ n, SoundM Try.prog 51 (ctrS_pool_visit_c1_m_a (pool_visit_c1_m_a_fuel N n))
  | 0 => ctrM_none fun _ => rfl
  | n + 1 => soundS_pool_visit_c1_m_a N (pool_visit_c1_m_a_fuel N n) (soundN_pool_visit_c1_m_a N n)
noncomputable def ctr_pool_visit_c1_m_a (N : Nat) : CtrM := ctrS_pool_visit_c1_m_a (pool_visit_c1_m_a N)
theorem sound_pool_visit_c1_m_a (N : Nat) : SoundM Try.prog 51 (ctr_pool_visit_c1_m_a N) := soundN_pool_visit_c1_m_a N N

noncomputable def c_pool_visit_m__pool_Sound_c2 : Code := match Try.f39.body with | some c => c | none => .skip
noncomputable def tab_pool_visit_m__pool_Sound_c2 (_ : Nat) : List (Nat × Ctr) := []
noncomputable def tabm_pool_visit_m__pool_Sound_c2 (N : Nat) : List (Nat × CtrM) := [(51, ctr_pool_visit_c1_m_a N)]
noncomputable def env_pool_visit_m__pool_Sound_c2 (N : Nat) : Env := mkEnv tyRows eqRows methRows [] [25] (tab_pool_visit_m__pool_Sound_c2 N) (tabm_pool_visit_m__pool_Sound_c2 N)
theorem envok_pool_visit_m__pool_Sound_c2 (N : Nat) : EnvOk Try.prog (env_pool_visit_m__pool_Sound_c2 N) := mkEnv_ok tyRows_ok eqRows_ok methRows_ok trivial ⟨sound_pool_visit_c1_m_a N, trivial⟩
noncomputable def cut_pool_visit_m__pool_Sound_c2_l0 : Cut := { tms := [8, 9, 17, 18, 19], sh := (.cons (.ptr 2000000 0) (.cons (.ptr 2000001 0) (.cons (.list (.int .i64)) (.cons (.int .i64) (.int .i64))))), objs := [(2000000, [8], .box .bool), (2000001, [9], .box (.clo 51 (.cons (.ptr 2000002 0) (.cons (.ptr 2000003 0) (.cons (.ptr 2000000 0) (.cons (.ptr 2000001 0) (.ptr 2000005 0))))))), (2000002, [9, 0, 0], .box (.list T_api_Slot)), (2000003, [9, 0, 1], .box (.own 2000004)), (2000004, [9, 0, 1, 0], .sl (.int .i64)), (2000005, [9, 0, 4], .box (.clo 40 (.ptr 5000000 0))), (5000000, [5000000], .box (.int .i64))], sts := [] }
noncomputable def cut_pool_visit_m__pool_Sound_c2_l0_o0 : Cut := { tms := [8], sh := (.ptr 2000000 0), objs := [(2000000, [8], .box .bool), (5000000, [5000000], .box (.int .i64))], sts := [] }
noncomputable def lp_pool_visit_m__pool_Sound_c2_l0 (N : Nat) : Lp := lpOf cut_pool_visit_m__pool_Sound_c2_l0 (2, cut_pool_visit_m__pool_Sound_c2_l0_o0) [] (fun v => pool_visit_m__pool_Sound_c2_l0 N N v.1.2.2.1 v.1.2.2.2.1 v.1.2.2.2.2 v.2.1 v.2.2.2.1 v.2.2.2.2.2.1 v.2.2.2.2.2.2.2.1)
noncomputable def lam_pool_visit_m__pool_Sound_c2_l0 (_ : Nat) : Lps := fun _ => none
theorem lpok_pool_visit_m__pool_Sound_c2_l0 (N : Nat) (ro : Option Nat) : LpOk Try.prog 28 ro (lp_pool_visit_m__pool_Sound_c2_l0 N) (codeAt c_pool_visit_m__pool_Sound_c2 [true, true, true, true, true, false, true, false]) := by
  rw [show (codeAt c_pool_visit_m__pool_Sound_c2 [true, true, true, true, true, false, true, false]) = .loop (codeAt c_pool_visit_m__pool_Sound_c2 [true, true, true, true, true, false, true, false, false]) by kernel_rfl]
  exact loop_ok (envok_pool_visit_m__pool_Sound_c2 N) mixed (Λ := lam_pool_visit_m__pool_Sound_c2_l0 N) (p := 1012) (obs_ok (l := []) (by kernel_rfl) obsNil) (by kernel_rfl) (by intro rec v; kernel_rfl) N
noncomputable def lam_pool_visit_m__pool_Sound_c2 (N : Nat) : Lps := fun p => bif Nat.beq p 506 then some (lp_pool_visit_m__pool_Sound_c2_l0 N) else none
noncomputable def cut_pool_visit_m__pool_Sound_c2_in : Cut := { tms := [0, 1, 2], sh := (.cons (.val (.list T_api_Slot)) (.cons (.list (.int .i64)) (.clo 40 (.ptr 5000000 0)))), objs := [(5000000, [2, 0], .box (.int .i64))], sts := [] }
noncomputable def cut_pool_visit_m__pool_Sound_c2_out0 : Cut := { tms := [0], sh := .bool, objs := [(5000000, [5000000], .box (.int .i64))], sts := [] }
noncomputable def ctr_pool_visit_m__pool_Sound_c2 (N : Nat) : CtrM := ctrM cut_pool_visit_m__pool_Sound_c2_in cut_pool_visit_m__pool_Sound_c2_out0 [] (fun v => pool_visit_m__pool_Sound_c2 N v.1.1 v.1.2.1 v.2.1)
theorem sound_pool_visit_m__pool_Sound_c2 (N : Nat) : SoundM Try.prog 39 (ctr_pool_visit_m__pool_Sound_c2 N) :=
  fnM_sound (envok_pool_visit_m__pool_Sound_c2 N) mixed (Λ := lam_pool_visit_m__pool_Sound_c2 N) (fn := Try.f39) (c := c_pool_visit_m__pool_Sound_c2) Try.func39 (by kernel_rfl) (by kernel_rfl) (obs_ok (l := [(lp_pool_visit_m__pool_Sound_c2_l0 N, (codeAt c_pool_visit_m__pool_Sound_c2 [true, true, true, true, true, false, true, false]))]) (by kernel_rfl) (obsCons (lpok_pool_visit_m__pool_Sound_c2_l0 N none) obsNil)) (by kernel_rfl) (by intro v; kernel_rfl)

noncomputable def c_pool_empty : Code := match Try.f41.body with | some c => c | none => .skip
noncomputable def tab_pool_empty (_ : Nat) : List (Nat × Ctr) := []
noncomputable def env_pool_empty (N : Nat) : Env := mkEnv tyRows eqRows methRows [] [] (tab_pool_empty N)
theorem envok_pool_empty (N : Nat) : EnvOk Try.prog (env_pool_empty N) := mkEnv_ok tyRows_ok eqRows_ok methRows_ok trivial
noncomputable def lam_pool_empty (_ : Nat) : Lps := fun _ => none
noncomputable def ctr_pool_empty (N : Nat) : Ctr := ctrOf (.val T_api_Slot) .bool [] (fun v => pool_empty N v)
theorem sound_pool_empty (N : Nat) : SoundF Try.prog 41 (fun vs => (ctr_pool_empty N).run vs some) :=
  fn_sound (envok_pool_empty N) mixed (Λ := lam_pool_empty N) (fn := Try.f41) (c := c_pool_empty) Try.func41 (by kernel_rfl) (by kernel_rfl) (obs_ok (l := []) (by kernel_rfl) obsNil) (by kernel_rfl) (by intro v; kernel_rfl)

noncomputable def c_pool_Sound : Code := match Try.f13.body with | some c => c | none => .skip
noncomputable def tab_pool_Sound (N : Nat) : List (Nat × Ctr) := [(20, ctr_pool_Live N), (41, ctr_pool_empty N)]
noncomputable def tabm_pool_Sound (N : Nat) : List (Nat × CtrM) := [(37, ctr_pool_Sound_c1_m N), (39, ctr_pool_visit_m__pool_Sound_c2 N)]
noncomputable def env_pool_Sound (N : Nat) : Env := mkEnv tyRows eqRows methRows [] [19, 24, 46] (tab_pool_Sound N) (tabm_pool_Sound N)
theorem envok_pool_Sound (N : Nat) : EnvOk Try.prog (env_pool_Sound N) := mkEnv_ok tyRows_ok eqRows_ok methRows_ok ⟨sound_pool_Live N, ⟨sound_pool_empty N, trivial⟩⟩ ⟨sound_pool_Sound_c1_m N, ⟨sound_pool_visit_m__pool_Sound_c2 N, trivial⟩⟩
noncomputable def cut_pool_Sound_l1 : Cut := { tms := [5, 61, 62, 63], sh := (.cons (.ptr 2000000 0) (.cons (.list T_api_Slot) (.cons (.int .i64) (.int .i64)))), objs := [(2000000, [5], .box (.own 2000001)), (2000001, [5, 0], .sl (.int .i64))], sts := [] }
noncomputable def cut_pool_Sound_l1_o0 : Cut := { tms := [4], sh := .bool, objs := [], sts := [] }
noncomputable def cut_pool_Sound_l1_o1 : Cut := { tms := [], sh := .nil, objs := [], sts := [] }
noncomputable def lp_pool_Sound_l1 (N : Nat) : Lp := lpOf cut_pool_Sound_l1 (1, cut_pool_Sound_l1_o0) [(4, cut_pool_Sound_l1_o1)] (fun v => pool_Sound_l1 N N v.1.2.1 v.1.2.2.1 v.1.2.2.2 v.2.2.1)
noncomputable def lam_pool_Sound_l1 (_ : Nat) : Lps := fun _ => none
theorem lpok_pool_Sound_l1 (N : Nat) (ro : Option Nat) : LpOk Try.prog 76 ro (lp_pool_Sound_l1 N) (codeAt c_pool_Sound [true, true, true, true, true, true, true, false, true, false]) := by
  rw [show (codeAt c_pool_Sound [true, true, true, true, true, true, true, false, true, false]) = .loop (codeAt c_pool_Sound [true, true, true, true, true, true, true, false, true, false, false]) by kernel_rfl]
  exact loop_ok (envok_pool_Sound N) mixed (Λ := lam_pool_Sound_l1 N) (p := 4084) (obs_ok (l := []) (by kernel_rfl) obsNil) (by kernel_rfl) (by intro rec v; kernel_rfl) N
noncomputable def cut_pool_Sound_l0 : Cut := { tms := [2, 5, 6, 33, 34, 35], sh := (.cons (.ptr 2000000 0) (.cons (.ptr 2000001 0) (.cons (.clo 37 (.cons (.ptr 2000000 0) (.ptr 2000001 0))) (.cons (.list T_api_Slot) (.cons (.int .i64) (.int .i64)))))), objs := [(2000000, [2], .box (.list T_api_Slot)), (2000001, [5], .box (.own 2000002)), (2000002, [5, 0], .sl (.int .i64))], sts := [] }
noncomputable def cut_pool_Sound_l0_o0 : Cut := { tms := [4], sh := .bool, objs := [], sts := [] }
noncomputable def cut_pool_Sound_l0_o1 : Cut := { tms := [2, 5], sh := (.cons (.ptr 2000000 0) (.ptr 2000001 0)), objs := [(2000000, [2], .box (.list T_api_Slot)), (2000001, [5], .box (.own 2000002)), (2000002, [5, 0], .sl (.int .i64))], sts := [] }
noncomputable def lp_pool_Sound_l0 (N : Nat) : Lp := lpOf cut_pool_Sound_l0 (1, cut_pool_Sound_l0_o0) [(2, cut_pool_Sound_l0_o1)] (fun v => pool_Sound_l0 N N v.1.2.2.2.1 v.1.2.2.2.2.1 v.1.2.2.2.2.2 v.2.1 v.2.2.2.1)
noncomputable def lam_pool_Sound_l0 (_ : Nat) : Lps := fun _ => none
theorem lpok_pool_Sound_l0 (N : Nat) (ro : Option Nat) : LpOk Try.prog 76 ro (lp_pool_Sound_l0 N) (codeAt c_pool_Sound [true, true, true, true, true, true, false, true, false]) := by
  rw [show (codeAt c_pool_Sound [true, true, true, true, true, true, false, true, false]) = .loop (codeAt c_pool_Sound [true, true, true, true, true, true, false, true, false, false]) by kernel_rfl]
  exact loop_ok (envok_pool_Sound N) mixed (Λ := lam_pool_Sound_l0 N) (p := 2036) (obs_ok (l := []) (by kernel_rfl) obsNil) (by kernel_rfl) (by intro rec v; kernel_rfl) N
noncomputable def lam_pool_Sound (N : Nat) : Lps := fun p => bif Nat.beq p 1018 then some (lp_pool_Sound_l0 N) else bif Nat.beq p 2042 then some (lp_pool_Sound_l1 N) else none
noncomputable def ctr_pool_Sound (N : Nat) : Ctr := ctrOf (.cons (.val (.list T_api_Slot)) (.list (.int .i64))) .bool [] (fun v => pool_Sound N v.1 v.2)
theorem sound_pool_Sound (N : Nat) : SoundF Try.prog 13 (fun vs => (ctr_pool_Sound N).run vs some) :=
  fn_sound (envok_pool_Sound N) mixed (Λ := lam_pool_Sound N) (fn := Try.f13) (c := c_pool_Sound) Try.func13 (by kernel_rfl) (by kernel_rfl) (obs_ok (l := [(lp_pool_Sound_l0 N, (codeAt c_pool_Sound [true, true, true, true, true, true, false, true, false])), (lp_pool_Sound_l1 N, (codeAt c_pool_Sound [true, true, true, true, true, true, true, false, true, false]))]) (by kernel_rfl) (obsCons (lpok_pool_Sound_l0 N none) (obsCons (lpok_pool_Sound_l1 N none) obsNil))) (by kernel_rfl) (by intro v; kernel_rfl)

noncomputable def c_pool_Reach_c1_m : Code := match Try.f44.body with | some c => c | none => .skip
noncomputable def tab_pool_Reach_c1_m (_ : Nat) : List (Nat × Ctr) := []
noncomputable def env_pool_Reach_c1_m (N : Nat) : Env := mkEnv tyRows eqRows methRows [] [] (tab_pool_Reach_c1_m N)
theorem envok_pool_Reach_c1_m (N : Nat) : EnvOk Try.prog (env_pool_Reach_c1_m N) := mkEnv_ok tyRows_ok eqRows_ok methRows_ok trivial
noncomputable def lam_pool_Reach_c1_m (_ : Nat) : Lps := fun _ => none
noncomputable def cut_pool_Reach_c1_m_in : Cut := { tms := [0, 1], sh := (.cons (.int .i64) (.ptr 5000000 0)), objs := [(5000000, [1], .box (.own 5000001)), (5000001, [1, 0], .sl (.int .i64))], sts := [] }
noncomputable def cut_pool_Reach_c1_m_out0 : Cut := { tms := [0], sh := (.tup .nil), objs := [(5000000, [5000000], .box (.own 2000001)), (2000001, [5000000, 0], .sl (.int .i64))], sts := [] }
noncomputable def ctr_pool_Reach_c1_m (N : Nat) : CtrM := ctrM cut_pool_Reach_c1_m_in cut_pool_Reach_c1_m_out0 [] (fun v => pool_Reach_c1_m N v.1.1 v.2.2.1)
theorem sound_pool_Reach_c1_m (N : Nat) : SoundM Try.prog 44 (ctr_pool_Reach_c1_m N) :=
  fnM_sound (envok_pool_Reach_c1_m N) mixed (Λ := lam_pool_Reach_c1_m N) (fn := Try.f44) (c := c_pool_Reach_c1_m) Try.func44 (by kernel_rfl) (by kernel_rfl) (obs_ok (l := []) (by kernel_rfl) obsNil) (by kernel_rfl) (by intro v; kernel_rfl)

noncomputable def c_pool_visit_c1_m_b : Code := match Try.f51.body with | some c => c | none => .skip
noncomputable def cut_pool_visit_c1_m_b_in : Cut := { tms := [0, 1, 2, 3, 4, 5], sh := (.cons (.int .i64) (.cons (.ptr 5000000 0) (.cons (.ptr 5000001 0) (.cons (.ptr 5000003 0) (.cons (.ptr 5000004 0) (.ptr 5000005 0)))))), objs := [(5000000, [1], .box (.list T_api_Slot)), (5000001, [2], .box (.own 5000002)), (5000002, [2, 0], .sl (.int .i64)), (5000003, [3], .box .bool), (5000004, [4], .box (.clo 51 (.cons (.ptr 5000000 0) (.cons (.ptr 5000001 0) (.cons (.ptr 5000003 0) (.cons (.ptr 5000004 0) (.ptr 5000005 0))))))), (5000005, [4, 0, 4], .box (.clo 44 (.ptr 5000006 0))), (5000006, [4, 0, 4, 0, 0], .box (.own 5000007)), (5000007, [4, 0, 4, 0, 0, 0], .sl (.int .i64))], sts := [] }
noncomputable def cut_pool_visit_c1_m_b_out0 : Cut := { tms := [0], sh := (.tup .nil), objs := [(5000000, [5000000], .box (.list T_api_Slot)), (5000001, [5000001], .box (.own 5000002)), (5000002, [5000002], .sl (.int .i64)), (5000003, [5000003], .box .bool), (5000004, [5000004], .box (.clo 51 (.cons (.ptr 5000000 0) (.cons (.ptr 5000001 0) (.cons (.ptr 5000003 0) (.cons (.ptr 5000004 0) (.ptr 5000005 0))))))), (5000005, [5000005], .box (.clo 44 (.ptr 5000006 0))), (5000006, [5000006], .box (.own 2000007)), (2000007, [5000006, 0], .sl (.int .i64))], sts := [] }
noncomputable def ctrS_pool_visit_c1_m_b (self : Int → (List V_api_Slot) → (List Int) → Bool → (List Int) → Option ((Unit × ((List V_api_Slot) × (Unit × ((List Int) × (Bool × ((Unit × (Unit × (Unit × (Unit × Unit)))) × (Unit × (Unit × ((List Int) × Unit))))))))))) : CtrM := ctrM cut_pool_visit_c1_m_b_in cut_pool_visit_c1_m_b_out0 [] (fun v => self v.1.1 v.2.1 v.2.2.2.1 v.2.2.2.2.1 v.2.2.2.2.2.2.2.2.1)
noncomputable def tab_pool_visit_c1_m_b (N : Nat) (self : Int → (List V_api_Slot) → (List Int) → Bool → (List Int) → Option ((Unit × ((List V_api_Slot) × (Unit × ((List Int) × (Bool × ((Unit × (Unit × (Unit × (Unit × Unit)))) × (Unit × (Unit × ((List Int) × Unit))))))))))) : List (Nat × Ctr) := [(38, ctr_pool_used N)]
noncomputable def tabm_pool_visit_c1_m_b (N : Nat) (self : Int → (List V_api_Slot) → (List Int) → Bool → (List Int) → Option ((Unit × ((List V_api_Slot) × (Unit × ((List Int) × (Bool × ((Unit × (Unit × (Unit × (Unit × Unit)))) × (Unit × (Unit × ((List Int) × Unit))))))))))) : List (Nat × CtrM) := [(51, ctrS_pool_visit_c1_m_b self), (44, ctr_pool_Reach_c1_m N)]
noncomputable def env_pool_visit_c1_m_b (N : Nat) (self : Int → (List V_api_Slot) → (List Int) → Bool → (List Int) → Option ((Unit × ((List V_api_Slot) × (Unit × ((List Int) × (Bool × ((Unit × (Unit × (Unit × (Unit × Unit)))) × (Unit × (Unit × ((List Int) × Unit))))))))))) : Env := mkEnv tyRows eqRows methRows [] [42, 49] (tab_pool_visit_c1_m_b N self) (tabm_pool_visit_c1_m_b N self)
theorem envok_pool_visit_c1_m_b (N : Nat) (self : Int → (List V_api_Slot) → (List Int) → Bool → (List Int) → Option ((Unit × ((List V_api_Slot) × (Unit × ((List Int) × (Bool × ((Unit × (Unit × (Unit × (Unit × Unit)))) × (Unit × (Unit × ((List Int) × Unit))))))))))) (hs : SoundM Try.prog 51 (ctrS_pool_visit_c1_m_b self)) : EnvOk Try.prog (env_pool_visit_c1_m_b N self) := mkEnv_ok tyRows_ok eqRows_ok methRows_ok ⟨sound_pool_used N, trivial⟩ ⟨hs, ⟨sound_pool_Reach_c1_m N, trivial⟩⟩
noncomputable def cut_pool_visit_c1_m_b_l0 : Cut := { tms := [0, 2, 4, 5, 34, 35, 36], sh := (.cons (.int .i64) (.cons (.ptr 5000001 0) (.cons (.ptr 5000004 0) (.cons (.ptr 5000005 0) (.cons (.list (.int .i64)) (.cons (.int .i64) (.int .i64))))))), objs := [(5000001, [5000001], .box (.own 5000002)), (5000002, [5000002], .sl (.int .i64)), (5000004, [5000004], .box (.clo 51 (.cons (.ptr 5000000 0) (.cons (.ptr 5000001 0) (.cons (.ptr 5000003 0) (.cons (.ptr 5000004 0) (.ptr 5000005 0))))))), (5000000, [5000000], .box (.list T_api_Slot)), (5000003, [5000003], .box .bool), (5000005, [5000005], .box (.clo 44 (.ptr 5000006 0))), (5000006, [5000006], .box (.own 2000007)), (2000007, [5000006, 0], .sl (.int .i64))], sts := [] }
noncomputable def cut_pool_visit_c1_m_b_l0_o0 : Cut := { tms := [0, 2, 5], sh := (.cons (.int .i64) (.cons (.ptr 5000001 0) (.ptr 5000005 0))), objs := [(5000001, [5000001], .box (.own 5000002)), (5000002, [5000002], .sl (.int .i64)), (5000005, [5000005], .box (.clo 44 (.ptr 5000006 0))), (5000006, [5000006], .box (.own 2000004)), (2000004, [5000006, 0], .sl (.int .i64)), (5000000, [5000000], .box (.list T_api_Slot)), (5000003, [5000003], .box .bool), (5000004, [5000004], .box (.clo 51 (.cons (.ptr 5000000 0) (.cons (.ptr 5000001 0) (.cons (.ptr 5000003 0) (.cons (.ptr 5000004 0) (.ptr 5000005 0)))))))], sts := [] }
noncomputable def lp_pool_visit_c1_m_b_l0 (N : Nat) (self : Int → (List V_api_Slot) → (List Int) → Bool → (List Int) → Option ((Unit × ((List V_api_Slot) × (Unit × ((List Int) × (Bool × ((Unit × (Unit × (Unit × (Unit × Unit)))) × (Unit × (Unit × ((List Int) × Unit))))))))))) : Lp := lpOf cut_pool_visit_c1_m_b_l0 (2, cut_pool_visit_c1_m_b_l0_o0) [] (fun v => pool_visit_c1_m_b_l0 N self N v.1.1 v.1.2.2.2.2.1 v.1.2.2.2.2.2.1 v.1.2.2.2.2.2.2 v.2.2.1 v.2.2.2.2.1 v.2.2.2.2.2.1 v.2.2.2.2.2.2.2.2.1)
noncomputable def lam_pool_visit_c1_m_b_l0 (_ : Nat) (_ : Int → (List V_api_Slot) → (List Int) → Bool → (List Int) → Option ((Unit × ((List V_api_Slot) × (Unit × ((List Int) × (Bool × ((Unit × (Unit × (Unit × (Unit × Unit)))) × (Unit × (Unit × ((List Int) × Unit))))))))))) : Lps := fun _ => none
theorem lpok_pool_visit_c1_m_b_l0 (N : Nat) (self : Int → (List V_api_Slot) → (List Int) → Bool → (List Int) → Option ((Unit × ((List V_api_Slot) × (Unit × ((List Int) × (Bool × ((Unit × (Unit × (Unit × (Unit × Unit)))) × (Unit × (Unit × ((List Int) × Unit))))))))))) (hs : SoundM Try.prog 51 (ctrS_pool_visit_c1_m_b self)) (ro : Option Nat) : LpOk Try.prog 50 ro (lp_pool_visit_c1_m_b_l0 N self) (codeAt c_pool_visit_c1_m_b [true, true, true, false, true, false]) := by
  rw [show (codeAt c_pool_visit_c1_m_b [true, true, true, false, true, false]) = .loop (codeAt c_pool_visit_c1_m_b [true, true, true, false, true, false, false]) by kernel_rfl]
  exact loop_ok (envok_pool_visit_c1_m_b N self hs) mixed (Λ := lam_pool_visit_c1_m_b_l0 N self) (p := 244) (obs_ok (l := []) (by kernel_rfl) obsNil) (by kernel_rfl) (by intro rec v; kernel_rfl) N
noncomputable def lam_pool_visit_c1_m_b (N : Nat) (self : Int → (List V_api_Slot) → (List Int) → Bool → (List Int) → Option ((Unit × ((List V_api_Slot) × (Unit × ((List Int) × (Bool × ((Unit × (Unit × (Unit × (Unit × Unit)))) × (Unit × (Unit × ((List Int) × Unit))))))))))) : Lps := fun p => bif Nat.beq p 122 then some (lp_pool_visit_c1_m_b_l0 N self) else none
theorem soundS_pool_visit_c1_m_b (N : Nat) (self : Int → (List V_api_Slot) → (List Int) → Bool → (List Int) → Option ((Unit × ((List V_api_Slot) × (Unit × ((List Int) × (Bool × ((Unit × (Unit × (Unit × (Unit × Unit)))) × (Unit × (Unit × ((List Int) × Unit))))))))))) (hs : SoundM Try.prog 51 (ctrS_pool_visit_c1_m_b self)) : SoundM Try.prog 51 (ctrS_pool_visit_c1_m_b (pool_visit_c1_m_b_step N self)) :=
  fnM_sound (envok_pool_visit_c1_m_b N self hs) mixed (Λ := lam_pool_visit_c1_m_b N self) (fn := Try.f51) (c := c_pool_visit_c1_m_b) Try.func51 (by kernel_rfl) (by kernel_rfl) (obs_ok (l := [(lp_pool_visit_c1_m_b_l0 N self, (codeAt c_pool_visit_c1_m_b [true, true, true, false, true, false]))]) (by kernel_rfl) (obsCons (lpok_pool_visit_c1_m_b_l0 N self hs none) obsNil)) (by kernel_rfl) (by intro v; kernel_rfl)
theorem soundN_pool_visit_c1_m_b (N : Nat) : ∀ n, SoundM Try.prog 51 (ctrS_pool_visit_c1_m_b (pool_visit_c1_m_b_fuel N n))
  | 0 => ctrM_none fun _ => rfl
  | n + 1 => soundS_pool_visit_c1_m_b N (pool_visit_c1_m_b_fuel N n) (soundN_pool_visit_c1_m_b N n)
noncomputable def ctr_pool_visit_c1_m_b (N : Nat) : CtrM := ctrS_pool_visit_c1_m_b (pool_visit_c1_m_b N)
theorem sound_pool_visit_c1_m_b (N : Nat) : SoundM Try.prog 51 (ctr_pool_visit_c1_m_b N) := soundN_pool_visit_c1_m_b N N

noncomputable def c_pool_visit_m__pool_Reach_c1 : Code := match Try.f39.body with | some c => c | none => .skip
noncomputable def tab_pool_visit_m__pool_Reach_c1 (_ : Nat) : List (Nat × Ctr) := []
noncomputable def tabm_pool_visit_m__pool_Reach_c1 (N : Nat) : List (Nat × CtrM) := [(51, ctr_pool_visit_c1_m_b N)]
noncomputable def env_pool_visit_m__pool_Reach_c1 (N : Nat) : Env := mkEnv tyRows eqRows methRows [] [25] (tab_pool_visit_m__pool_Reach_c1 N) (tabm_pool_visit_m__pool_Reach_c1 N)
theorem envok_pool_visit_m__pool_Reach_c1 (N : Nat) : EnvOk Try.prog (env_pool_visit_m__pool_Reach_c1 N) := mkEnv_ok tyRows_ok eqRows_ok methRows_ok trivial ⟨sound_pool_visit_c1_m_b N, trivial⟩
noncomputable def cut_pool_visit_m__pool_Reach_c1_l0 : Cut := { tms := [8, 9, 17, 18, 19], sh := (.cons (.ptr 2000000 0) (.cons (.ptr 2000001 0) (.cons (.list (.int .i64)) (.cons (.int .i64) (.int .i64))))), objs := [(2000000, [8], .box .bool), (2000001, [9], .box (.clo 51 (.cons (.ptr 2000002 0) (.cons (.ptr 2000003 0) (.cons (.ptr 2000000 0) (.cons (.ptr 2000001 0) (.ptr 2000005 0))))))), (2000002, [9, 0, 0], .box (.list T_api_Slot)), (2000003, [9, 0, 1], .box (.own 2000004)), (2000004, [9, 0, 1, 0], .sl (.int .i64)), (2000005, [9, 0, 4], .box (.clo 44 (.ptr 5000000 0))), (5000000, [5000000], .box (.own 2000007)), (2000007, [5000000, 0], .sl (.int .i64))], sts := [] }
noncomputable def cut_pool_visit_m__pool_Reach_c1_l0_o0 : Cut := { tms := [8], sh := (.ptr 2000000 0), objs := [(2000000, [8], .box .bool), (5000000, [5000000], .box (.own 2000002)), (2000002, [5000000, 0], .sl (.int .i64))], sts := [] }
noncomputable def lp_pool_visit_m__pool_Reach_c1_l0 (N : Nat) : Lp := lpOf cut_pool_visit_m__pool_Reach_c1_l0 (2, cut_pool_visit_m__pool_Reach_c1_l0_o0) [] (fun v => pool_visit_m__pool_Reach_c1_l0 N N v.1.2.2.1 v.1.2.2.2.1 v.1.2.2.2.2 v.2.1 v.2.2.2.1 v.2.2.2.2.2.1 v.2.2.2.2.2.2.2.2.1)
noncomputable def lam_pool_visit_m__pool_Reach_c1_l0 (_ : Nat) : Lps := fun _ => none
theorem lpok_pool_visit_m__pool_Reach_c1_l0 (N : Nat) (ro : Option Nat) : LpOk Try.prog 28 ro (lp_pool_visit_m__pool_Reach_c1_l0 N) (codeAt c_pool_visit_m__pool_Reach_c1 [true, true, true, true, true, false, true, false]) := by
  rw [show (codeAt c_pool_visit_m__pool_Reach_c1 [true, true, true, true, true, false, true, false]) = .loop (codeAt c_pool_visit_m__pool_Reach_c1 [true, true, true, true, true, false, true, false, false]) by kernel_rfl]
  exact loop_ok (envok_pool_visit_m__pool_Reach_c1 N) mixed (Λ := lam_pool_visit_m__pool_Reach_c1_l0 N) (p := 1012) (obs_ok (l := []) (by kernel_rfl) obsNil) (by kernel_rfl) (by intro rec v; kernel_rfl) N
noncomputable def lam_pool_visit_m__pool_Reach_c1 (N : Nat) : Lps := fun p => bif Nat.beq p 506 then some (lp_pool_visit_m__pool_Reach_c1_l0 N) else none
noncomputable def cut_pool_visit_m__pool_Reach_c1_in : Cut := { tms := [0, 1, 2], sh := (.cons (.val (.list T_api_Slot)) (.cons (.list (.int .i64)) (.clo 44 (.ptr 5000000 0)))), objs := [(5000000, [2, 0], .box (.own 5000001)), (5000001, [2, 0, 0], .sl (.int .i64))], sts := [] }
noncomputable def cut_pool_visit_m__pool_Reach_c1_out0 : Cut := { tms := [0], sh := .bool, objs := [(5000000, [5000000], .box (.own 2000001)), (2000001, [5000000, 0], .sl (.int .i64))], sts := [] }
noncomputable def ctr_pool_visit_m__pool_Reach_c1 (N : Nat) : CtrM := ctrM cut_pool_visit_m__pool_Reach_c1_in cut_pool_visit_m__pool_Reach_c1_out0 [] (fun v => pool_visit_m__pool_Reach_c1 N v.1.1 v.1.2.1 v.2.2.1)
theorem sound_pool_visit_m__pool_Reach_c1 (N : Nat) : SoundM Try.prog 39 (ctr_pool_visit_m__pool_Reach_c1 N) :=
  fnM_sound (envok_pool_visit_m__pool_Reach_c1 N) mixed (Λ := lam_pool_visit_m__pool_Reach_c1 N) (fn := Try.f39) (c := c_pool_visit_m__pool_Reach_c1) Try.func39 (by kernel_rfl) (by kernel_rfl) (obs_ok (l := [(lp_pool_visit_m__pool_Reach_c1_l0 N, (codeAt c_pool_visit_m__pool_Reach_c1 [true, true, true, true, true, false, true, false]))]) (by kernel_rfl) (obsCons (lpok_pool_visit_m__pool_Reach_c1_l0 N none) obsNil)) (by kernel_rfl) (by intro v; kernel_rfl)

noncomputable def lay_slices_Sort_s_int_int_m_ren : Go.Shelf.Ren := ⟨fun | 189 => 45 | 125 => 53 | 257 => 52 | 128 => 66 | 129 => 67 | 294 => 57 | 295 => 58 | 296 => 59 | 297 => 60 | 298 => 61 | 299 => 62 | 216 => 63 | 300 => 64 | 301 => 65 | 328 => 68 | 329 => 69 | 330 => 70 | 331 => 71 | 332 => 72 | 215 => 73 | 343 => 74 | n => n, fun | 28 => 23 | 3 => 3 | 46 => 96 | 0 => 0 | 51 => 112 | 53 => 114 | 4 => 4 | 183 => 104 | 182 => 103 | 131 => 109 | 5 => 5 | 9 => 9 | 218 => 115 | 222 => 119 | 228 => 122 | 229 => 123 | n => n, fun n => n⟩
theorem lay_slices_Sort_s_int_int_m : Go.Proofs.Lays.n189 Try.prog lay_slices_Sort_s_int_int_m_ren := {
  mixed := by kernel_rfl
  f125 := Try.func53.trans (congrArg some (by kernel_rfl))
  f128 := Try.func66.trans (congrArg some (by kernel_rfl))
  f129 := Try.func67.trans (congrArg some (by kernel_rfl))
  f189 := Try.func45.trans (congrArg some (by kernel_rfl))
  f215 := Try.func73.trans (congrArg some (by kernel_rfl))
  f216 := Try.func63.trans (congrArg some (by kernel_rfl))
  f257 := Try.func52.trans (congrArg some (by kernel_rfl))
  f294 := Try.func57.trans (congrArg some (by kernel_rfl))
  f295 := Try.func58.trans (congrArg some (by kernel_rfl))
  f296 := Try.func59.trans (congrArg some (by kernel_rfl))
  f297 := Try.func60.trans (congrArg some (by kernel_rfl))
  f298 := Try.func61.trans (congrArg some (by kernel_rfl))
  f299 := Try.func62.trans (congrArg some (by kernel_rfl))
  f300 := Try.func64.trans (congrArg some (by kernel_rfl))
  f301 := Try.func65.trans (congrArg some (by kernel_rfl))
  f328 := Try.func68.trans (congrArg some (by kernel_rfl))
  f329 := Try.func69.trans (congrArg some (by kernel_rfl))
  f330 := Try.func70.trans (congrArg some (by kernel_rfl))
  f331 := Try.func71.trans (congrArg some (by kernel_rfl))
  f332 := Try.func72.trans (congrArg some (by kernel_rfl))
  f343 := Try.func74.trans (congrArg some (by kernel_rfl))
  t0 := Try.underlying0
  a0 := Try.isAgg0
  z0 := Try.sizeOf0
  v0 := Try.zeroValue0
  t3 := Try.underlying3
  a3 := Try.isAgg3
  z3 := Try.sizeOf3
  v3 := Try.zeroValue3
  t4 := Try.underlying4
  a4 := Try.isAgg4
  z4 := Try.sizeOf4
  v4 := Try.zeroValue4
  t5 := Try.underlying5
  a5 := Try.isAgg5
  z5 := Try.sizeOf5
  v5 := Try.zeroValue5
  t9 := Try.underlying9
  a9 := Try.isAgg9
  z9 := Try.sizeOf9
  v9 := Try.zeroValue9
  t28 := Try.underlying23
  a28 := Try.isAgg23
  z28 := Try.sizeOf23
  v28 := Try.zeroValue23
  t46 := Try.underlying96
  a46 := Try.isAgg96
  z46 := Try.sizeOf96
  v46 := Try.zeroValue96
  t51 := Try.underlying112
  a51 := Try.isAgg112
  z51 := Try.sizeOf112
  v51 := Try.zeroValue112
  t53 := Try.underlying114
  a53 := Try.isAgg114
  z53 := Try.sizeOf114
  v53 := Try.zeroValue114
  t131 := Try.underlying109
  a131 := Try.isAgg109
  z131 := Try.sizeOf109
  v131 := Try.zeroValue109
  t182 := Try.underlying103
  a182 := Try.isAgg103
  z182 := Try.sizeOf103
  v182 := Try.zeroValue103
  t183 := Try.underlying104
  a183 := Try.isAgg104
  z183 := Try.sizeOf104
  v183 := Try.zeroValue104
  t218 := Try.underlying115
  a218 := Try.isAgg115
  z218 := Try.sizeOf115
  v218 := Try.zeroValue115
  t222 := Try.underlying119
  a222 := Try.isAgg119
  z222 := Try.sizeOf119
  v222 := Try.zeroValue119
  t228 := Try.underlying122
  a228 := Try.isAgg122
  z228 := Try.sizeOf122
  v228 := Try.zeroValue122
  t229 := Try.underlying123
  a229 := Try.isAgg123
  z229 := Try.sizeOf123
  v229 := Try.zeroValue123
  }
noncomputable def c_slices_Sort_s_int_int_m : Code := match Try.f45.body with | some c => c | none => .skip
noncomputable def ctr_slices_Sort_s_int_int_m (N : Nat) : CtrM := ctrM sortIn sortOut [] (fun v => slices_Sort_s_int_int_m N v.2.1)
theorem sound_slices_Sort_s_int_int_m (N : Nat) : SoundM Try.prog 45 (ctr_slices_Sort_s_int_int_m N) := by
  have e1 : lay_slices_Sort_s_int_int_m_ren.f 189 = 45 := by kernel_rfl
  have h := sort_sound lay_slices_Sort_s_int_int_m (fn := Try.f45) (c := c_slices_Sort_s_int_int_m) (by rw [e1]; exact Try.func45) (by kernel_rfl) (by kernel_rfl)
  rw [e1] at h
  exact h

noncomputable def c_pool_Reach : Code := match Try.f17.body with | some c => c | none => .skip
noncomputable def tab_pool_Reach (_ : Nat) : List (Nat × Ctr) := []
noncomputable def tabm_pool_Reach (N : Nat) : List (Nat × CtrM) := [(39, ctr_pool_visit_m__pool_Reach_c1 N), (45, ctr_slices_Sort_s_int_int_m N)]
noncomputable def env_pool_Reach (N : Nat) : Env := mkEnv tyRows eqRows methRows [] [9, 11] (tab_pool_Reach N) (tabm_pool_Reach N)
theorem envok_pool_Reach (N : Nat) : EnvOk Try.prog (env_pool_Reach N) := mkEnv_ok tyRows_ok eqRows_ok methRows_ok trivial ⟨sound_pool_visit_m__pool_Reach_c1 N, ⟨sound_slices_Sort_s_int_int_m N, trivial⟩⟩
noncomputable def lam_pool_Reach (_ : Nat) : Lps := fun _ => none
noncomputable def ctr_pool_Reach (N : Nat) : Ctr := ctrOf (.cons (.val (.list T_api_Slot)) (.list (.int .i64))) (.fresh (.int .i64)) [] (fun v => pool_Reach N v.1 v.2)
theorem sound_pool_Reach (N : Nat) : SoundF Try.prog 17 (fun vs => (ctr_pool_Reach N).run vs some) :=
  fn_sound (envok_pool_Reach N) mixed (Λ := lam_pool_Reach N) (fn := Try.f17) (c := c_pool_Reach) Try.func17 (by kernel_rfl) (by kernel_rfl) (obs_ok (l := []) (by kernel_rfl) obsNil) (by kernel_rfl) (by intro v; kernel_rfl)

noncomputable def c_law11_sanity : Code := match Try.f11.body with | some c => c | none => .skip
noncomputable def tab_law11_sanity (N : Nat) : List (Nat × Ctr) := [(23, ctr_law11_add N), (19, ctr_pool_Drop N), (21, ctr_pool_Get N), (36, ctr_law11_refs N), (16, ctr_ref11_Ints N), (20, ctr_pool_Live N), (33, ctr_ref11_Same N), (13, ctr_pool_Sound N), (17, ctr_pool_Reach N)]
noncomputable def env_law11_sanity (N : Nat) : Env := mkEnv tyRows eqRows methRows [(2000026, [24]), (2000080, [78]), (2000090, [88])] [] (tab_law11_sanity N)
theorem envok_law11_sanity (N : Nat) : EnvOk Try.prog (env_law11_sanity N) := mkEnv_ok tyRows_ok eqRows_ok methRows_ok ⟨sound_law11_add N, ⟨sound_pool_Drop N, ⟨sound_pool_Get N, ⟨sound_law11_refs N, ⟨sound_ref11_Ints N, ⟨sound_pool_Live N, ⟨sound_ref11_Same N, ⟨sound_pool_Sound N, ⟨sound_pool_Reach N, trivial⟩⟩⟩⟩⟩⟩⟩⟩⟩
noncomputable def cut_law11_sanity_p2 : Cut := { tms := [0], sh := .bool, objs := [], sts := [] }
noncomputable def cut_law11_sanity_p2_o0 : Cut := { tms := [0], sh := .bool, objs := [], sts := [] }
noncomputable def lp_law11_sanity_p2 (N : Nat) : Lp := lpOf cut_law11_sanity_p2 (1, cut_law11_sanity_p2_o0) [] (fun v => law11_sanity_p2 N v.1)
noncomputable def lam_law11_sanity_p2 (_ : Nat) : Lps := fun _ => none
theorem lpok_law11_sanity_p2 (N : Nat) (ro : Option Nat) : LpOk Try.prog 157 ro (lp_law11_sanity_p2 N) (codeAt c_law11_sanity [true, true, true, true, true, true, true, true, true, true, true, true]) :=
  piece_ok (envok_law11_sanity N) mixed (Λ := lam_law11_sanity_p2 N) (p := 8191) (obs_ok (l := []) (by kernel_rfl) obsNil) (by kernel_rfl) (by intro v; kernel_rfl)
noncomputable def cut_law11_sanity_p1 : Cut := { tms := [3, 59], sh := (.cons (.ptr 2000000 0) .bool), objs := [(2000000, [3], .box (.cons (.list T_api_Slot) (.cons (.int .i64) (.int .i64))))], sts := [] }
noncomputable def cut_law11_sanity_p1_o0 : Cut := { tms := [0], sh := .bool, objs := [], sts := [] }
noncomputable def cut_law11_sanity_p1_o1 : Cut := { tms := [3], sh := (.ptr 2000000 0), objs := [(2000000, [3], .box (.cons (.list T_api_Slot) (.cons (.int .i64) (.int .i64))))], sts := [] }
noncomputable def lp_law11_sanity_p1 (N : Nat) : Lp := lpOf cut_law11_sanity_p1 (1, cut_law11_sanity_p1_o0) [(0, cut_law11_sanity_p1_o1)] (fun v => law11_sanity_p1 N v.1.2 v.2.1.1 v.2.1.2.1 v.2.1.2.2)
noncomputable def lam_law11_sanity_p1 (_ : Nat) : Lps := fun _ => none
theorem lpok_law11_sanity_p1 (N : Nat) (ro : Option Nat) : LpOk Try.prog 157 ro (lp_law11_sanity_p1 N) (codeAt c_law11_sanity [true, true, true, true, false, true]) :=
  piece_ok (envok_law11_sanity N) mixed (Λ := lam_law11_sanity_p1 N) (p := 125) (obs_ok (l := []) (by kernel_rfl) obsNil) (by kernel_rfl) (by intro v; kernel_rfl)
noncomputable def cut_law11_sanity_p0 : Cut := { tms := [3], sh := (.ptr 2000000 0), objs := [(2000000, [3], .box (.cons (.list T_api_Slot) (.cons (.int .i64) (.int .i64))))], sts := [] }
noncomputable def cut_law11_sanity_p0_o0 : Cut := { tms := [0], sh := .bool, objs := [], sts := [] }
noncomputable def lp_law11_sanity_p0 (N : Nat) : Lp := lpOf cut_law11_sanity_p0 (1, cut_law11_sanity_p0_o0) [] (fun v => law11_sanity_p0 N v.2.1.1 v.2.1.2.1 v.2.1.2.2)
noncomputable def lam_law11_sanity_p0 (N : Nat) : Lps := fun p => bif Nat.beq p 8191 then some (lp_law11_sanity_p2 N) else none
theorem lpok_law11_sanity_p0 (N : Nat) (ro : Option Nat) : LpOk Try.prog 157 ro (lp_law11_sanity_p0 N) (codeAt c_law11_sanity [true, true, true, true, true]) :=
  piece_ok (envok_law11_sanity N) mixed (Λ := lam_law11_sanity_p0 N) (p := 63) (obs_ok (l := [(lp_law11_sanity_p2 N, (codeAt c_law11_sanity [true, true, true, true, true, true, true, true, true, true, true, true]))]) (by kernel_rfl) (obsCons (lpok_law11_sanity_p2 N ro) obsNil)) (by kernel_rfl) (by intro v; kernel_rfl)
noncomputable def lam_law11_sanity (N : Nat) : Lps := fun p => bif Nat.beq p 63 then some (lp_law11_sanity_p0 N) else bif Nat.beq p 125 then some (lp_law11_sanity_p1 N) else none
noncomputable def ctr_law11_sanity (N : Nat) : Ctr := ctrOf .nil .bool [] (fun _ => law11_sanity N)
theorem sound_law11_sanity (N : Nat) : SoundF Try.prog 11 (fun vs => (ctr_law11_sanity N).run vs some) :=
  fn_sound (envok_law11_sanity N) mixed (Λ := lam_law11_sanity N) (fn := Try.f11) (c := c_law11_sanity) Try.func11 (by kernel_rfl) (by kernel_rfl) (obs_ok (l := [(lp_law11_sanity_p1 N, (codeAt c_law11_sanity [true, true, true, true, false, true])), (lp_law11_sanity_p0 N, (codeAt c_law11_sanity [true, true, true, true, true]))]) (by kernel_rfl) (obsCons (lpok_law11_sanity_p1 N none) (obsCons (lpok_law11_sanity_p0 N none) obsNil))) (by kernel_rfl) (by intro v; kernel_rfl)

noncomputable def c_ref05_Path : Code := match Try.f56.body with | some c => c | none => .skip
noncomputable def tab_ref05_Path (_ : Nat) : List (Nat × Ctr) := []
noncomputable def env_ref05_Path (N : Nat) : Env := mkEnv tyRows eqRows methRows [] [] (tab_ref05_Path N)
theorem envok_ref05_Path (N : Nat) : EnvOk Try.prog (env_ref05_Path N) := mkEnv_ok tyRows_ok eqRows_ok methRows_ok trivial
noncomputable def lam_ref05_Path (_ : Nat) : Lps := fun _ => none
noncomputable def ctr_ref05_Path (N : Nat) : Ctr := ctrOf (.int .u8) .str [] (fun v => ref05_Path N v)
theorem sound_ref05_Path (N : Nat) : SoundF Try.prog 56 (fun vs => (ctr_ref05_Path N).run vs some) :=
  fn_sound (envok_ref05_Path N) mixed (Λ := lam_ref05_Path N) (fn := Try.f56) (c := c_ref05_Path) Try.func56 (by kernel_rfl) (by kernel_rfl) (obs_ok (l := []) (by kernel_rfl) obsNil) (by kernel_rfl) (by intro v; kernel_rfl)

noncomputable def c_ref05_Key : Code := match Try.f50.body with | some c => c | none => .skip
noncomputable def tab_ref05_Key (N : Nat) : List (Nat × Ctr) := [(56, ctr_ref05_Path N)]
noncomputable def env_ref05_Key (N : Nat) : Env := mkEnv tyRows eqRows methRows [] [] (tab_ref05_Key N)
theorem envok_ref05_Key (N : Nat) : EnvOk Try.prog (env_ref05_Key N) := mkEnv_ok tyRows_ok eqRows_ok methRows_ok ⟨sound_ref05_Path N, trivial⟩
noncomputable def lam_ref05_Key (_ : Nat) : Lps := fun _ => none
noncomputable def ctr_ref05_Key (N : Nat) : Ctr := ctrOf (.int .u8) .str [] (fun v => ref05_Key N v)
theorem sound_ref05_Key (N : Nat) : SoundF Try.prog 50 (fun vs => (ctr_ref05_Key N).run vs some) :=
  fn_sound (envok_ref05_Key N) mixed (Λ := lam_ref05_Key N) (fn := Try.f50) (c := c_ref05_Key) Try.func50 (by kernel_rfl) (by kernel_rfl) (obs_ok (l := []) (by kernel_rfl) obsNil) (by kernel_rfl) (by intro v; kernel_rfl)

noncomputable def c_ref11_Node : Code := match Try.f26.body with | some c => c | none => .skip
noncomputable def tab_ref11_Node (N : Nat) : List (Nat × Ctr) := [(50, ctr_ref05_Key N)]
noncomputable def env_ref11_Node (N : Nat) : Env := mkEnv tyRows eqRows methRows [(endKey, [2000007, 2000008, 2000009, 2000010, 2000011])] [] (tab_ref11_Node N)
theorem envok_ref11_Node (N : Nat) : EnvOk Try.prog (env_ref11_Node N) := mkEnv_ok tyRows_ok eqRows_ok methRows_ok ⟨sound_ref05_Key N, trivial⟩
noncomputable def cut_ref11_Node_p2 : Cut := { tms := [1, 2, 4, 5, 6, 32], sh := (.cons (.list (.int .i64)) (.cons (.ptr 2000000 0) (.cons (.ptr 2000001 0) (.cons (.ptr 2000007 0) (.cons (.int .i64) .bool))))), objs := [(2000000, [2], .box (.cons (.int .u8) (.cons (.int .u8) (.cons (.int .u8) (.int .u8))))), (2000001, [4], .box (.cons (.own 2000002) (.cons (.own 2000003) (.cons (.own 2000004) (.cons (.own 2000005) (.own 2000006)))))), (2000002, [4, 0], .sl T_api_Pair), (2000003, [4, 1], .sl .str), (2000004, [4, 2], .sl (.int .i64)), (2000005, [4, 3], .sl T_api_Sum), (2000006, [4, 4], .sl T_api_Msg), (2000007, [5], .box (.cons (.own 2000008) (.cons (.own 2000009) (.cons (.own 2000010) (.cons (.own 2000011) (.own 2000012)))))), (2000008, [5, 0], .sl T_api_Pair), (2000009, [5, 1], .sl .str), (2000010, [5, 2], .sl (.int .i64)), (2000011, [5, 3], .sl T_api_Sum), (2000012, [5, 4], .sl T_api_Msg)], sts := [] }
noncomputable def cut_ref11_Node_p2_o0 : Cut := { tms := [1, 2, 4, 5, 6], sh := (.cons (.list (.int .i64)) (.cons (.ptr 2000000 0) (.cons (.ptr 2000001 0) (.cons (.ptr 2000007 0) (.int .i64))))), objs := [(2000000, [2], .box (.cons (.int .u8) (.cons (.int .u8) (.cons (.int .u8) (.int .u8))))), (2000001, [4], .box (.cons (.own 2000002) (.cons (.own 2000003) (.cons (.own 2000004) (.cons (.own 2000005) (.own 2000006)))))), (2000002, [4, 0], .sl T_api_Pair), (2000003, [4, 1], .sl .str), (2000004, [4, 2], .sl (.int .i64)), (2000005, [4, 3], .sl T_api_Sum), (2000006, [4, 4], .sl T_api_Msg), (2000007, [5], .box (.cons (.own 2000008) (.cons (.own 2000009) (.cons (.own 2000010) (.cons (.own 2000011) (.own 2000012)))))), (2000008, [5, 0], .sl T_api_Pair), (2000009, [5, 1], .sl .str), (2000010, [5, 2], .sl (.int .i64)), (2000011, [5, 3], .sl T_api_Sum), (2000012, [5, 4], .sl T_api_Msg)], sts := [] }
noncomputable def lp_ref11_Node_p2 (N : Nat) : Lp := lpOf cut_ref11_Node_p2 (0, cut_ref11_Node_p2_o0) [] (fun v => ref11_Node_p2 N v.1.1 v.1.2.2.2.2.1 v.1.2.2.2.2.2 v.2.1.1 v.2.1.2.1 v.2.1.2.2.1 v.2.1.2.2.2 v.2.2.2.1 v.2.2.2.2.1 v.2.2.2.2.2.1 v.2.2.2.2.2.2.1 v.2.2.2.2.2.2.2.1 v.2.2.2.2.2.2.2.2.2.1 v.2.2.2.2.2.2.2.2.2.2.1 v.2.2.2.2.2.2.2.2.2.2.2.1 v.2.2.2.2.2.2.2.2.2.2.2.2.1 v.2.2.2.2.2.2.2.2.2.2.2.2.2.1)
noncomputable def lam_ref11_Node_p2 (_ : Nat) : Lps := fun _ => none
theorem lpok_ref11_Node_p2 (N : Nat) (ro : Option Nat) : LpOk Try.prog 55 ro (lp_ref11_Node_p2 N) (codeAt c_ref11_Node [true, true, false, true, false, false, true, false, false, true]) :=
  piece_ok (envok_ref11_Node N) mixed (Λ := lam_ref11_Node_p2 N) (p := 1865) (obs_ok (l := []) (by kernel_rfl) obsNil) (by kernel_rfl) (by intro v; kernel_rfl)
noncomputable def cut_ref11_Node_p1 : Cut := { tms := [1, 2, 4, 5, 6], sh := (.cons (.list (.int .i64)) (.cons (.ptr 2000000 0) (.cons (.ptr 2000001 0) (.cons (.ptr 2000007 0) (.int .i64))))), objs := [(2000000, [2], .box (.cons (.int .u8) (.cons (.int .u8) (.cons (.int .u8) (.int .u8))))), (2000001, [4], .box (.cons (.own 2000002) (.cons (.own 2000003) (.cons (.own 2000004) (.cons (.own 2000005) (.own 2000006)))))), (2000002, [4, 0], .sl T_api_Pair), (2000003, [4, 1], .sl .str), (2000004, [4, 2], .sl (.int .i64)), (2000005, [4, 3], .sl T_api_Sum), (2000006, [4, 4], .sl T_api_Msg), (2000007, [5], .box (.cons (.own 2000008) (.cons (.own 2000009) (.cons (.own 2000010) (.cons (.own 2000011) (.own 2000012)))))), (2000008, [5, 0], .sl T_api_Pair), (2000009, [5, 1], .sl .str), (2000010, [5, 2], .sl (.int .i64)), (2000011, [5, 3], .sl T_api_Sum), (2000012, [5, 4], .sl T_api_Msg)], sts := [] }
noncomputable def cut_ref11_Node_p1_o0 : Cut := { tms := [1, 2, 4, 5, 6], sh := (.cons (.list (.int .i64)) (.cons (.ptr 2000000 0) (.cons (.ptr 2000001 0) (.cons (.ptr 2000007 0) (.int .i64))))), objs := [(2000000, [2], .box (.cons (.int .u8) (.cons (.int .u8) (.cons (.int .u8) (.int .u8))))), (2000001, [4], .box (.cons (.own 2000002) (.cons (.own 2000003) (.cons (.own 2000004) (.cons (.own 2000005) (.own 2000006)))))), (2000002, [4, 0], .sl T_api_Pair), (2000003, [4, 1], .sl .str), (2000004, [4, 2], .sl (.int .i64)), (2000005, [4, 3], .sl T_api_Sum), (2000006, [4, 4], .sl T_api_Msg), (2000007, [5], .box (.cons (.own 2000008) (.cons (.own 2000009) (.cons (.own 2000010) (.cons (.own 2000011) (.own 2000012)))))), (2000008, [5, 0], .sl T_api_Pair), (2000009, [5, 1], .sl .str), (2000010, [5, 2], .sl (.int .i64)), (2000011, [5, 3], .sl T_api_Sum), (2000012, [5, 4], .sl T_api_Msg)], sts := [] }
noncomputable def lp_ref11_Node_p1 (N : Nat) : Lp := lpOf cut_ref11_Node_p1 (0, cut_ref11_Node_p1_o0) [] (fun v => ref11_Node_p1 N v.1.1 v.1.2.2.2.2 v.2.1.1 v.2.1.2.1 v.2.1.2.2.1 v.2.1.2.2.2 v.2.2.2.1 v.2.2.2.2.1 v.2.2.2.2.2.1 v.2.2.2.2.2.2.1 v.2.2.2.2.2.2.2.1 v.2.2.2.2.2.2.2.2.2.1 v.2.2.2.2.2.2.2.2.2.2.1 v.2.2.2.2.2.2.2.2.2.2.2.1 v.2.2.2.2.2.2.2.2.2.2.2.2.1 v.2.2.2.2.2.2.2.2.2.2.2.2.2.1)
noncomputable def lam_ref11_Node_p1 (_ : Nat) : Lps := fun _ => none
theorem lpok_ref11_Node_p1 (N : Nat) (ro : Option Nat) : LpOk Try.prog 55 ro (lp_ref11_Node_p1 N) (codeAt c_ref11_Node [true, true, false, true, false, false, true, true]) :=
  piece_ok (envok_ref11_Node N) mixed (Λ := lam_ref11_Node_p1 N) (p := 467) (obs_ok (l := []) (by kernel_rfl) obsNil) (by kernel_rfl) (by intro v; kernel_rfl)
noncomputable def cut_ref11_Node_l0 : Cut := { tms := [1, 2, 4, 5, 6], sh := (.cons (.list (.int .i64)) (.cons (.ptr 2000000 0) (.cons (.ptr 2000001 0) (.cons (.ptr 2000007 0) (.int .i64))))), objs := [(2000000, [2], .box (.cons (.int .u8) (.cons (.int .u8) (.cons (.int .u8) (.int .u8))))), (2000001, [4], .box (.cons (.own 2000002) (.cons (.own 2000003) (.cons (.own 2000004) (.cons (.own 2000005) (.own 2000006)))))), (2000002, [4, 0], .sl T_api_Pair), (2000003, [4, 1], .sl .str), (2000004, [4, 2], .sl (.int .i64)), (2000005, [4, 3], .sl T_api_Sum), (2000006, [4, 4], .sl T_api_Msg), (2000007, [5], .box (.cons (.own 2000008) (.cons (.own 2000009) (.cons (.own 2000010) (.cons (.own 2000011) (.own 2000012)))))), (2000008, [5, 0], .sl T_api_Pair), (2000009, [5, 1], .sl .str), (2000010, [5, 2], .sl (.int .i64)), (2000011, [5, 3], .sl T_api_Sum), (2000012, [5, 4], .sl T_api_Msg)], sts := [] }
noncomputable def cut_ref11_Node_l0_o0 : Cut := { tms := [4, 5], sh := (.cons (.ptr 2000000 0) (.ptr 2000006 0)), objs := [(2000000, [4], .box (.cons (.own 2000001) (.cons (.own 2000002) (.cons (.own 2000003) (.cons (.own 2000004) (.own 2000005)))))), (2000001, [4, 0], .sl T_api_Pair), (2000002, [4, 1], .sl .str), (2000003, [4, 2], .sl (.int .i64)), (2000004, [4, 3], .sl T_api_Sum), (2000005, [4, 4], .sl T_api_Msg), (2000006, [5], .box (.cons (.own 2000007) (.cons (.own 2000008) (.cons (.own 2000009) (.cons (.own 2000010) (.own 2000011)))))), (2000007, [5, 0], .sl T_api_Pair), (2000008, [5, 1], .sl .str), (2000009, [5, 2], .sl (.int .i64)), (2000010, [5, 3], .sl T_api_Sum), (2000011, [5, 4], .sl T_api_Msg)], sts := [] }
noncomputable def lp_ref11_Node_l0 (N : Nat) : Lp := lpOf cut_ref11_Node_l0 (2, cut_ref11_Node_l0_o0) [] (fun v => ref11_Node_l0 N N v.1.1 v.1.2.2.2.2 v.2.1.1 v.2.1.2.1 v.2.1.2.2.1 v.2.1.2.2.2 v.2.2.2.1 v.2.2.2.2.1 v.2.2.2.2.2.1 v.2.2.2.2.2.2.1 v.2.2.2.2.2.2.2.1 v.2.2.2.2.2.2.2.2.2.1 v.2.2.2.2.2.2.2.2.2.2.1 v.2.2.2.2.2.2.2.2.2.2.2.1 v.2.2.2.2.2.2.2.2.2.2.2.2.1 v.2.2.2.2.2.2.2.2.2.2.2.2.2.1)
noncomputable def lam_ref11_Node_l0 (N : Nat) : Lps := fun p => bif Nat.beq p 467 then some (lp_ref11_Node_p1 N) else bif Nat.beq p 1865 then some (lp_ref11_Node_p2 N) else none
theorem lpok_ref11_Node_l0 (N : Nat) (ro : Option Nat) : LpOk Try.prog 55 ro (lp_ref11_Node_l0 N) (codeAt c_ref11_Node [true, true, false, true, false]) := by
  rw [show (codeAt c_ref11_Node [true, true, false, true, false]) = .loop (codeAt c_ref11_Node [true, true, false, true, false, false]) by kernel_rfl]
  exact loop_ok (envok_ref11_Node N) mixed (Λ := lam_ref11_Node_l0 N) (p := 116) (obs_ok (l := [(lp_ref11_Node_p2 N, (codeAt c_ref11_Node [true, true, false, true, false, false, true, false, false, true])), (lp_ref11_Node_p1 N, (codeAt c_ref11_Node [true, true, false, true, false, false, true, true]))]) (by kernel_rfl) (obsCons (lpok_ref11_Node_p2 N ro) (obsCons (lpok_ref11_Node_p1 N ro) obsNil))) (by kernel_rfl) (by intro rec v; kernel_rfl) N
noncomputable def lam_ref11_Node (N : Nat) : Lps := fun p => bif Nat.beq p 58 then some (lp_ref11_Node_l0 N) else none
noncomputable def ctr_ref11_Node (N : Nat) : Ctr := ctrOf (.cons (.val T_ref11_Raw) (.list (.int .i64))) (.val T_api_Node) [] (fun v => ref11_Node N v.1 v.2)
theorem sound_ref11_Node (N : Nat) : SoundF Try.prog 26 (fun vs => (ctr_ref11_Node N).run vs some) :=
  fn_sound (envok_ref11_Node N) mixed (Λ := lam_ref11_Node N) (fn := Try.f26) (c := c_ref11_Node) Try.func26 (by kernel_rfl) (by kernel_rfl) (obs_ok (l := [(lp_ref11_Node_l0 N, (codeAt c_ref11_Node [true, true, false, true, false]))]) (by kernel_rfl) (obsCons (lpok_ref11_Node_l0 N none) obsNil)) (by kernel_rfl) (by intro v; kernel_rfl)

noncomputable def c_ref11_Used : Code := match Try.f24.body with | some c => c | none => .skip
noncomputable def tab_ref11_Used (_ : Nat) : List (Nat × Ctr) := []
noncomputable def env_ref11_Used (N : Nat) : Env := mkEnv tyRows eqRows methRows [] [] (tab_ref11_Used N)
theorem envok_ref11_Used (N : Nat) : EnvOk Try.prog (env_ref11_Used N) := mkEnv_ok tyRows_ok eqRows_ok methRows_ok trivial
noncomputable def lam_ref11_Used (_ : Nat) : Lps := fun _ => none
noncomputable def ctr_ref11_Used (N : Nat) : Ctr := ctrOf (.cons (.val (.list T_api_Slot)) (.int .i64)) .bool [] (fun v => ref11_Used N v.1 v.2)
theorem sound_ref11_Used (N : Nat) : SoundF Try.prog 24 (fun vs => (ctr_ref11_Used N).run vs some) :=
  fn_sound (envok_ref11_Used N) mixed (Λ := lam_ref11_Used N) (fn := Try.f24) (c := c_ref11_Used) Try.func24 (by kernel_rfl) (by kernel_rfl) (obs_ok (l := []) (by kernel_rfl) obsNil) (by kernel_rfl) (by intro v; kernel_rfl)

noncomputable def c_ref11_Copied : Code := match Try.f15.body with | some c => c | none => .skip
noncomputable def tab_ref11_Copied (_ : Nat) : List (Nat × Ctr) := []
noncomputable def env_ref11_Copied (N : Nat) : Env := mkEnv tyRows eqRows methRows [] [] (tab_ref11_Copied N)
theorem envok_ref11_Copied (N : Nat) : EnvOk Try.prog (env_ref11_Copied N) := mkEnv_ok tyRows_ok eqRows_ok methRows_ok trivial
noncomputable def lam_ref11_Copied (_ : Nat) : Lps := fun _ => none
noncomputable def ctr_ref11_Copied (N : Nat) : Ctr := ctrOf (.val (.list T_api_Slot)) (.agg (.fresh T_api_Slot)) [] (fun v => ref11_Copied N v)
theorem sound_ref11_Copied (N : Nat) : SoundF Try.prog 15 (fun vs => (ctr_ref11_Copied N).run vs some) :=
  fn_sound (envok_ref11_Copied N) mixed (Λ := lam_ref11_Copied N) (fn := Try.f15) (c := c_ref11_Copied) Try.func15 (by kernel_rfl) (by kernel_rfl) (obs_ok (l := []) (by kernel_rfl) obsNil) (by kernel_rfl) (by intro v; kernel_rfl)

noncomputable def c_ref11_Add : Code := match Try.f28.body with | some c => c | none => .skip
noncomputable def tab_ref11_Add (N : Nat) : List (Nat × Ctr) := [(24, ctr_ref11_Used N), (15, ctr_ref11_Copied N)]
noncomputable def env_ref11_Add (N : Nat) : Env := mkEnv tyRows eqRows methRows [(endKey, [2000003])] [] (tab_ref11_Add N)
theorem envok_ref11_Add (N : Nat) : EnvOk Try.prog (env_ref11_Add N) := mkEnv_ok tyRows_ok eqRows_ok methRows_ok ⟨sound_ref11_Used N, ⟨sound_ref11_Copied N, trivial⟩⟩
noncomputable def cut_ref11_Add_l2 : Cut := { tms := [3, 4, 6, 7, 8], sh := (.cons (.ptr 2000000 0) (.cons (.ptr 2000001 0) (.cons (.int .i64) (.cons (.ptr 2000003 0) (.int .i64))))), objs := [(2000000, [3], .box (.cons (.list T_api_Pair) (.cons (.list .str) (.cons (.list (.int .i64)) (.cons (.list T_api_Sum) (.list T_api_Msg)))))), (2000001, [4], .box (.cons (.own 2000002) (.cons (.int .i64) (.int .i64)))), (2000002, [4, 0], .sl T_api_Slot), (2000003, [7], .box (.own 2000004)), (2000004, [7, 0], .sl T_api_Slot)], sts := [] }
noncomputable def cut_ref11_Add_l2_o0 : Cut := { tms := [4, 6, 7], sh := (.cons (.ptr 2000000 0) (.cons (.int .i64) (.ptr 2000002 0))), objs := [(2000000, [4], .box (.cons (.own 2000001) (.cons (.int .i64) (.int .i64)))), (2000001, [4, 0], .sl T_api_Slot), (2000002, [7], .box (.own 2000003)), (2000003, [7, 0], .sl T_api_Slot)], sts := [] }
noncomputable def lp_ref11_Add_l2 (N : Nat) : Lp := lpOf cut_ref11_Add_l2 (6, cut_ref11_Add_l2_o0) [] (fun v => ref11_Add_l2 N N v.1.2.2.1 v.1.2.2.2.2 v.2.1.1 v.2.1.2.1 v.2.1.2.2.1 v.2.1.2.2.2.1 v.2.1.2.2.2.2 v.2.2.1.2.1 v.2.2.1.2.2 v.2.2.2.1 v.2.2.2.2.2.1)
noncomputable def lam_ref11_Add_l2 (_ : Nat) : Lps := fun _ => none
theorem lpok_ref11_Add_l2 (N : Nat) (ro : Option Nat) : LpOk Try.prog 87 ro (lp_ref11_Add_l2 N) (codeAt c_ref11_Add [true, true, true, true, true, true, true, true, false, true, false]) := by
  rw [show (codeAt c_ref11_Add [true, true, true, true, true, true, true, true, false, true, false]) = .loop (codeAt c_ref11_Add [true, true, true, true, true, true, true, true, false, true, false, false]) by kernel_rfl]
  exact loop_ok (envok_ref11_Add N) mixed (Λ := lam_ref11_Add_l2 N) (p := 8180) (obs_ok (l := []) (by kernel_rfl) obsNil) (by kernel_rfl) (by intro rec v; kernel_rfl) N
noncomputable def cut_ref11_Add_l1 : Cut := { tms := [2, 3, 4, 6], sh := (.cons (.ptr 2000000 0) (.cons (.ptr 2000001 0) (.cons (.ptr 2000002 0) (.int .i64)))), objs := [(2000000, [2], .box (.list T_api_Slot)), (2000001, [3], .box (.cons (.list T_api_Pair) (.cons (.list .str) (.cons (.list (.int .i64)) (.cons (.list T_api_Sum) (.list T_api_Msg)))))), (2000002, [4], .box (.cons (.own 2000003) (.cons (.int .i64) (.int .i64)))), (2000003, [4, 0], .sl T_api_Slot)], sts := [] }
noncomputable def cut_ref11_Add_l1_o0 : Cut := { tms := [2, 3, 4, 6], sh := (.cons (.ptr 2000000 0) (.cons (.ptr 2000001 0) (.cons (.ptr 2000002 0) (.int .i64)))), objs := [(2000000, [2], .box (.list T_api_Slot)), (2000001, [3], .box (.cons (.list T_api_Pair) (.cons (.list .str) (.cons (.list (.int .i64)) (.cons (.list T_api_Sum) (.list T_api_Msg)))))), (2000002, [4], .box (.cons (.own 2000003) (.cons (.int .i64) (.int .i64)))), (2000003, [4, 0], .sl T_api_Slot)], sts := [] }
noncomputable def lp_ref11_Add_l1 (N : Nat) : Lp := lpOf cut_ref11_Add_l1 (4, cut_ref11_Add_l1_o0) [] (fun v => ref11_Add_l1 N N v.1.2.2.2 v.2.1 v.2.2.1.1 v.2.2.1.2.1 v.2.2.1.2.2.1 v.2.2.1.2.2.2.1 v.2.2.1.2.2.2.2 v.2.2.2.1.2.1 v.2.2.2.1.2.2 v.2.2.2.2.1)
noncomputable def lam_ref11_Add_l1 (_ : Nat) : Lps := fun _ => none
theorem lpok_ref11_Add_l1 (N : Nat) (ro : Option Nat) : LpOk Try.prog 87 ro (lp_ref11_Add_l1 N) (codeAt c_ref11_Add [true, true, true, false, false]) := by
  rw [show (codeAt c_ref11_Add [true, true, true, false, false]) = .loop (codeAt c_ref11_Add [true, true, true, false, false, false]) by kernel_rfl]
  exact loop_ok (envok_ref11_Add N) mixed (Λ := lam_ref11_Add_l1 N) (p := 120) (obs_ok (l := []) (by kernel_rfl) obsNil) (by kernel_rfl) (by intro rec v; kernel_rfl) N
noncomputable def cut_ref11_Add_l0 : Cut := { tms := [2, 3, 4, 5], sh := (.cons (.ptr 2000000 0) (.cons (.ptr 2000001 0) (.cons (.ptr 2000002 0) (.int .i64)))), objs := [(2000000, [2], .box (.list T_api_Slot)), (2000001, [3], .box (.cons (.list T_api_Pair) (.cons (.list .str) (.cons (.list (.int .i64)) (.cons (.list T_api_Sum) (.list T_api_Msg)))))), (2000002, [4], .box (.cons (.own 2000003) (.cons (.int .i64) (.int .i64)))), (2000003, [4, 0], .sl T_api_Slot)], sts := [] }
noncomputable def cut_ref11_Add_l0_o0 : Cut := { tms := [4], sh := (.ptr 2000000 0), objs := [(2000000, [4], .box (.cons (.list T_api_Slot) (.cons (.int .i64) (.int .i64))))], sts := [] }
noncomputable def cut_ref11_Add_l0_o1 : Cut := { tms := [2, 3, 4], sh := (.cons (.ptr 2000000 0) (.cons (.ptr 2000001 0) (.ptr 2000002 0))), objs := [(2000000, [2], .box (.list T_api_Slot)), (2000001, [3], .box (.cons (.list T_api_Pair) (.cons (.list .str) (.cons (.list (.int .i64)) (.cons (.list T_api_Sum) (.list T_api_Msg)))))), (2000002, [4], .box (.cons (.own 2000003) (.cons (.int .i64) (.int .i64)))), (2000003, [4, 0], .sl T_api_Slot)], sts := [] }
noncomputable def lp_ref11_Add_l0 (N : Nat) : Lp := lpOf cut_ref11_Add_l0 (1, cut_ref11_Add_l0_o0) [(2, cut_ref11_Add_l0_o1)] (fun v => ref11_Add_l0 N N v.1.2.2.2 v.2.1 v.2.2.1.1 v.2.2.1.2.1 v.2.2.1.2.2.1 v.2.2.1.2.2.2.1 v.2.2.1.2.2.2.2 v.2.2.2.1.2.1 v.2.2.2.1.2.2 v.2.2.2.2.1)
noncomputable def lam_ref11_Add_l0 (_ : Nat) : Lps := fun _ => none
theorem lpok_ref11_Add_l0 (N : Nat) (ro : Option Nat) : LpOk Try.prog 87 ro (lp_ref11_Add_l0 N) (codeAt c_ref11_Add [true, false, true, false]) := by
  rw [show (codeAt c_ref11_Add [true, false, true, false]) = .loop (codeAt c_ref11_Add [true, false, true, false, false]) by kernel_rfl]
  exact loop_ok (envok_ref11_Add N) mixed (Λ := lam_ref11_Add_l0 N) (p := 52) (obs_ok (l := []) (by kernel_rfl) obsNil) (by kernel_rfl) (by intro rec v; kernel_rfl) N
noncomputable def lam_ref11_Add (N : Nat) : Lps := fun p => bif Nat.beq p 26 then some (lp_ref11_Add_l0 N) else bif Nat.beq p 60 then some (lp_ref11_Add_l1 N) else bif Nat.beq p 4090 then some (lp_ref11_Add_l2 N) else none
noncomputable def ctr_ref11_Add (N : Nat) : Ctr := ctrOf (.cons (.val (.list T_api_Slot)) (.val T_api_Node)) (.val T_ref11_Added) [] (fun v => ref11_Add N v.1 v.2)
theorem sound_ref11_Add (N : Nat) : SoundF Try.prog 28 (fun vs => (ctr_ref11_Add N).run vs some) :=
  fn_sound (envok_ref11_Add N) mixed (Λ := lam_ref11_Add N) (fn := Try.f28) (c := c_ref11_Add) Try.func28 (by kernel_rfl) (by kernel_rfl) (obs_ok (l := [(lp_ref11_Add_l0 N, (codeAt c_ref11_Add [true, false, true, false])), (lp_ref11_Add_l1 N, (codeAt c_ref11_Add [true, true, true, false, false])), (lp_ref11_Add_l2 N, (codeAt c_ref11_Add [true, true, true, true, true, true, true, true, false, true, false]))]) (by kernel_rfl) (obsCons (lpok_ref11_Add_l0 N none) (obsCons (lpok_ref11_Add_l1 N none) (obsCons (lpok_ref11_Add_l2 N none) obsNil)))) (by kernel_rfl) (by intro v; kernel_rfl)

noncomputable def c_ref11_Hold : Code := match Try.f32.body with | some c => c | none => .skip
noncomputable def tab_ref11_Hold (N : Nat) : List (Nat × Ctr) := [(24, ctr_ref11_Used N), (15, ctr_ref11_Copied N)]
noncomputable def env_ref11_Hold (N : Nat) : Env := mkEnv tyRows eqRows methRows [(endKey, [13])] [] (tab_ref11_Hold N)
theorem envok_ref11_Hold (N : Nat) : EnvOk Try.prog (env_ref11_Hold N) := mkEnv_ok tyRows_ok eqRows_ok methRows_ok ⟨sound_ref11_Used N, ⟨sound_ref11_Copied N, trivial⟩⟩
noncomputable def lam_ref11_Hold (_ : Nat) : Lps := fun _ => none
noncomputable def ctr_ref11_Hold (N : Nat) : Ctr := ctrOf (.cons (.val (.list T_api_Slot)) (.int .i64)) (.tup (.cons (.val (.list T_api_Slot)) (.int .i64))) [] (fun v => ref11_Hold N v.1 v.2)
theorem sound_ref11_Hold (N : Nat) : SoundF Try.prog 32 (fun vs => (ctr_ref11_Hold N).run vs some) :=
  fn_sound (envok_ref11_Hold N) mixed (Λ := lam_ref11_Hold N) (fn := Try.f32) (c := c_ref11_Hold) Try.func32 (by kernel_rfl) (by kernel_rfl) (obs_ok (l := []) (by kernel_rfl) obsNil) (by kernel_rfl) (by intro v; kernel_rfl)

noncomputable def c_ref11_Drop : Code := match Try.f34.body with | some c => c | none => .skip
noncomputable def tab_ref11_Drop (N : Nat) : List (Nat × Ctr) := [(24, ctr_ref11_Used N), (15, ctr_ref11_Copied N)]
noncomputable def env_ref11_Drop (N : Nat) : Env := mkEnv tyRows eqRows methRows [(endKey, [2000003]), (6, [2000004])] [] (tab_ref11_Drop N)
theorem envok_ref11_Drop (N : Nat) : EnvOk Try.prog (env_ref11_Drop N) := mkEnv_ok tyRows_ok eqRows_ok methRows_ok ⟨sound_ref11_Used N, ⟨sound_ref11_Copied N, trivial⟩⟩
noncomputable def cut_ref11_Drop_l0 : Cut := { tms := [4, 6, 7], sh := (.cons (.ptr 2000000 0) (.cons (.ptr 2000002 0) (.list (.int .i64)))), objs := [(2000000, [4], .box (.own 2000001)), (2000001, [4, 0], .sl T_api_Slot), (2000002, [6], .box (.own 2000003)), (2000003, [6, 0], .sl T_api_Slot)], sts := [17, 56] }
noncomputable def cut_ref11_Drop_l0_o0 : Cut := { tms := [4, 6], sh := (.cons (.ptr 2000000 0) (.ptr 2000002 0)), objs := [(2000000, [4], .box (.own 2000001)), (2000001, [4, 0], .sl T_api_Slot), (2000002, [6], .box (.own 2000003)), (2000003, [6, 0], .sl T_api_Slot)], sts := [] }
noncomputable def lp_ref11_Drop_l0 (N : Nat) : Lp := lpOf cut_ref11_Drop_l0 (2, cut_ref11_Drop_l0_o0) [] (fun v => ref11_Drop_l0 N N v.1.2.2 v.2.2.1 v.2.2.2.2.1)
noncomputable def lam_ref11_Drop_l0 (_ : Nat) : Lps := fun _ => none
theorem lpok_ref11_Drop_l0 (N : Nat) (ro : Option Nat) : LpOk Try.prog 63 ro (lp_ref11_Drop_l0 N) (codeAt c_ref11_Drop [true, true, true, false, false]) := by
  rw [show (codeAt c_ref11_Drop [true, true, true, false, false]) = .loop (codeAt c_ref11_Drop [true, true, true, false, false, false]) by kernel_rfl]
  exact loop_ok (envok_ref11_Drop N) mixed (Λ := lam_ref11_Drop_l0 N) (p := 120) (obs_ok (l := []) (by kernel_rfl) obsNil) (by kernel_rfl) (by intro rec v; kernel_rfl) N
noncomputable def lam_ref11_Drop (N : Nat) : Lps := fun p => bif Nat.beq p 60 then some (lp_ref11_Drop_l0 N) else none
noncomputable def ctr_ref11_Drop (N : Nat) : Ctr := ctrOf (.cons (.val (.list T_api_Slot)) (.int .i64)) (.tup (.cons (.val (.list T_api_Slot)) (.int .i64))) [] (fun v => ref11_Drop N v.1 v.2)
theorem sound_ref11_Drop (N : Nat) : SoundF Try.prog 34 (fun vs => (ctr_ref11_Drop N).run vs some) :=
  fn_sound (envok_ref11_Drop N) mixed (Λ := lam_ref11_Drop N) (fn := Try.f34) (c := c_ref11_Drop) Try.func34 (by kernel_rfl) (by kernel_rfl) (obs_ok (l := [(lp_ref11_Drop_l0 N, (codeAt c_ref11_Drop [true, true, true, false, false]))]) (by kernel_rfl) (obsCons (lpok_ref11_Drop_l0 N none) obsNil)) (by kernel_rfl) (by intro v; kernel_rfl)

noncomputable def c_ref11_Step : Code := match Try.f35.body with | some c => c | none => .skip
noncomputable def tab_ref11_Step (N : Nat) : List (Nat × Ctr) := [(26, ctr_ref11_Node N), (28, ctr_ref11_Add N), (32, ctr_ref11_Hold N), (34, ctr_ref11_Drop N)]
noncomputable def env_ref11_Step (N : Nat) : Env := mkEnv tyRows eqRows methRows [(endKey, [38, 2000001])] [] (tab_ref11_Step N)
theorem envok_ref11_Step (N : Nat) : EnvOk Try.prog (env_ref11_Step N) := mkEnv_ok tyRows_ok eqRows_ok methRows_ok ⟨sound_ref11_Node N, ⟨sound_ref11_Add N, ⟨sound_ref11_Hold N, ⟨sound_ref11_Drop N, trivial⟩⟩⟩⟩
noncomputable def cut_ref11_Step_p0 : Cut := { tms := [2, 3, 4], sh := (.cons (.ptr 2000000 0) (.cons (.ptr 2000001 0) (.ptr 2000002 0))), objs := [(2000000, [2], .box (.cons (.list T_api_Slot) (.list (.int .i64)))), (2000001, [3], .box (.cons (.int .u8) (.cons (.int .u8) (.cons (.int .u8) (.int .u8))))), (2000002, [4], .box (.cons (.own 2000003) (.own 2000004))), (2000003, [4, 0], .sl T_api_Slot), (2000004, [4, 1], .sl (.int .i64))], sts := [] }
noncomputable def cut_ref11_Step_p0_o0 : Cut := { tms := [4], sh := (.ptr 2000000 0), objs := [(2000000, [4], .box (.cons (.list T_api_Slot) (.own 2000001))), (2000001, [4, 1], .sl (.int .i64))], sts := [] }
noncomputable def lp_ref11_Step_p0 (N : Nat) : Lp := lpOf cut_ref11_Step_p0 (1, cut_ref11_Step_p0_o0) [] (fun v => ref11_Step_p0 N v.2.1.1 v.2.1.2 v.2.2.1.1 v.2.2.1.2.1 v.2.2.1.2.2.1 v.2.2.1.2.2.2 v.2.2.2.2.1 v.2.2.2.2.2.1)
noncomputable def lam_ref11_Step_p0 (_ : Nat) : Lps := fun _ => none
theorem lpok_ref11_Step_p0 (N : Nat) (ro : Option Nat) : LpOk Try.prog 93 ro (lp_ref11_Step_p0 N) (codeAt c_ref11_Step [true, true]) :=
  piece_ok (envok_ref11_Step N) mixed (Λ := lam_ref11_Step_p0 N) (p := 7) (obs_ok (l := []) (by kernel_rfl) obsNil) (by kernel_rfl) (by intro v; kernel_rfl)
noncomputable def lam_ref11_Step (N : Nat) : Lps := fun p => bif Nat.beq p 7 then some (lp_ref11_Step_p0 N) else none
noncomputable def ctr_ref11_Step (N : Nat) : Ctr := ctrOf (.cons (.val T_ref11_Held) (.val T_ref11_Raw)) (.val T_ref11_Held) [] (fun v => ref11_Step N v.1 v.2)
theorem sound_ref11_Step (N : Nat) : SoundF Try.prog 35 (fun vs => (ctr_ref11_Step N).run vs some) :=
  fn_sound (envok_ref11_Step N) mixed (Λ := lam_ref11_Step N) (fn := Try.f35) (c := c_ref11_Step) Try.func35 (by kernel_rfl) (by kernel_rfl) (obs_ok (l := [(lp_ref11_Step_p0 N, (codeAt c_ref11_Step [true, true]))]) (by kernel_rfl) (obsCons (lpok_ref11_Step_p0 N none) obsNil)) (by kernel_rfl) (by intro v; kernel_rfl)

noncomputable def c_ref11_Play : Code := match Try.f12.body with | some c => c | none => .skip
noncomputable def tab_ref11_Play (N : Nat) : List (Nat × Ctr) := [(35, ctr_ref11_Step N)]
noncomputable def env_ref11_Play (N : Nat) : Env := mkEnv tyRows eqRows methRows [(5, [2000004, 2000005])] [] (tab_ref11_Play N)
theorem envok_ref11_Play (N : Nat) : EnvOk Try.prog (env_ref11_Play N) := mkEnv_ok tyRows_ok eqRows_ok methRows_ok ⟨sound_ref11_Step N, trivial⟩
noncomputable def cut_ref11_Play_l0 : Cut := { tms := [0, 1, 4, 5, 6], sh := (.cons (.list T_ref11_Raw) (.cons (.int .i64) (.cons (.ptr 2000000 0) (.cons (.ptr 2000003 0) (.int .i64))))), objs := [(2000000, [4], .box (.cons (.own 2000001) (.own 2000002))), (2000001, [4, 0], .sl T_api_Slot), (2000002, [4, 1], .sl (.int .i64)), (2000003, [5], .box (.cons (.list T_api_Slot) (.list (.int .i64))))], sts := [] }
noncomputable def cut_ref11_Play_l0_o0 : Cut := { tms := [4, 5], sh := (.cons (.ptr 2000000 0) (.ptr 2000003 0)), objs := [(2000000, [4], .box (.cons (.own 2000001) (.own 2000002))), (2000001, [4, 0], .sl T_api_Slot), (2000002, [4, 1], .sl (.int .i64)), (2000003, [5], .box (.cons (.list T_api_Slot) (.list (.int .i64))))], sts := [] }
noncomputable def lp_ref11_Play_l0 (N : Nat) : Lp := lpOf cut_ref11_Play_l0 (2, cut_ref11_Play_l0_o0) [] (fun v => ref11_Play_l0 N N v.1.1 v.1.2.1 v.1.2.2.2.2 v.2.2.1 v.2.2.2.1 v.2.2.2.2.1.1 v.2.2.2.2.1.2)
noncomputable def lam_ref11_Play_l0 (_ : Nat) : Lps := fun _ => none
theorem lpok_ref11_Play_l0 (N : Nat) (ro : Option Nat) : LpOk Try.prog 26 ro (lp_ref11_Play_l0 N) (codeAt c_ref11_Play [true, true, false, true, false]) := by
  rw [show (codeAt c_ref11_Play [true, true, false, true, false]) = .loop (codeAt c_ref11_Play [true, true, false, true, false, false]) by kernel_rfl]
  exact loop_ok (envok_ref11_Play N) mixed (Λ := lam_ref11_Play_l0 N) (p := 116) (obs_ok (l := []) (by kernel_rfl) obsNil) (by kernel_rfl) (by intro rec v; kernel_rfl) N
noncomputable def lam_ref11_Play (N : Nat) : Lps := fun p => bif Nat.beq p 58 then some (lp_ref11_Play_l0 N) else none
noncomputable def ctr_ref11_Play (N : Nat) : Ctr := ctrOf (.cons (.list T_ref11_Raw) (.int .i64)) (.val T_ref11_Held) [] (fun v => ref11_Play N v.1 v.2)
theorem sound_ref11_Play (N : Nat) : SoundF Try.prog 12 (fun vs => (ctr_ref11_Play N).run vs some) :=
  fn_sound (envok_ref11_Play N) mixed (Λ := lam_ref11_Play N) (fn := Try.f12) (c := c_ref11_Play) Try.func12 (by kernel_rfl) (by kernel_rfl) (obs_ok (l := [(lp_ref11_Play_l0 N, (codeAt c_ref11_Play [true, true, false, true, false]))]) (by kernel_rfl) (obsCons (lpok_ref11_Play_l0 N none) obsNil)) (by kernel_rfl) (by intro v; kernel_rfl)

noncomputable def c_ref11_Counts : Code := match Try.f42.body with | some c => c | none => .skip
noncomputable def tab_ref11_Counts (N : Nat) : List (Nat × Ctr) := [(24, ctr_ref11_Used N)]
noncomputable def env_ref11_Counts (N : Nat) : Env := mkEnv tyRows eqRows methRows [] [] (tab_ref11_Counts N)
theorem envok_ref11_Counts (N : Nat) : EnvOk Try.prog (env_ref11_Counts N) := mkEnv_ok tyRows_ok eqRows_ok methRows_ok ⟨sound_ref11_Used N, trivial⟩
noncomputable def cut_ref11_Counts_l1 : Cut := { tms := [2, 6, 7, 8, 10], sh := (.cons (.ptr 2000000 0) (.cons (.own 2000001) (.cons (.own 2000002) (.cons .bool (.int .i64))))), objs := [(2000000, [2], .box (.list T_api_Slot)), (2000001, [6], .sl (.int .i64)), (2000002, [7], .sl (.int .i64))], sts := [] }
noncomputable def cut_ref11_Counts_l1_o0 : Cut := { tms := [6, 8], sh := (.cons (.own 2000000) .bool), objs := [(2000000, [6], .sl (.int .i64))], sts := [] }
noncomputable def lp_ref11_Counts_l1 (N : Nat) : Lp := lpOf cut_ref11_Counts_l1 (4, cut_ref11_Counts_l1_o0) [] (fun v => ref11_Counts_l1 N N v.1.2.2.2.1 v.1.2.2.2.2 v.2.1 v.2.2.1 v.2.2.2.1)
noncomputable def lam_ref11_Counts_l1 (_ : Nat) : Lps := fun _ => none
theorem lpok_ref11_Counts_l1 (N : Nat) (ro : Option Nat) : LpOk Try.prog 64 ro (lp_ref11_Counts_l1 N) (codeAt c_ref11_Counts [true, true, true, false, true, false]) := by
  rw [show (codeAt c_ref11_Counts [true, true, true, false, true, false]) = .loop (codeAt c_ref11_Counts [true, true, true, false, true, false, false]) by kernel_rfl]
  exact loop_ok (envok_ref11_Counts N) mixed (Λ := lam_ref11_Counts_l1 N) (p := 244) (obs_ok (l := []) (by kernel_rfl) obsNil) (by kernel_rfl) (by intro rec v; kernel_rfl) N
noncomputable def cut_ref11_Counts_l0 : Cut := { tms := [2, 6, 7, 8, 9], sh := (.cons (.ptr 2000000 0) (.cons (.own 2000001) (.cons (.own 2000002) (.cons .bool (.int .i64))))), objs := [(2000000, [2], .box (.list T_api_Slot)), (2000001, [6], .sl (.int .i64)), (2000002, [7], .sl (.int .i64))], sts := [] }
noncomputable def cut_ref11_Counts_l0_o0 : Cut := { tms := [2, 6, 7, 8], sh := (.cons (.ptr 2000000 0) (.cons (.own 2000001) (.cons (.own 2000002) .bool))), objs := [(2000000, [2], .box (.list T_api_Slot)), (2000001, [6], .sl (.int .i64)), (2000002, [7], .sl (.int .i64))], sts := [] }
noncomputable def lp_ref11_Counts_l0 (N : Nat) : Lp := lpOf cut_ref11_Counts_l0 (2, cut_ref11_Counts_l0_o0) [] (fun v => ref11_Counts_l0 N N v.1.2.2.2.1 v.1.2.2.2.2 v.2.1 v.2.2.1 v.2.2.2.1)
noncomputable def lam_ref11_Counts_l0 (_ : Nat) : Lps := fun _ => none
theorem lpok_ref11_Counts_l0 (N : Nat) (ro : Option Nat) : LpOk Try.prog 64 ro (lp_ref11_Counts_l0 N) (codeAt c_ref11_Counts [true, true, false, true, false]) := by
  rw [show (codeAt c_ref11_Counts [true, true, false, true, false]) = .loop (codeAt c_ref11_Counts [true, true, false, true, false, false]) by kernel_rfl]
  exact loop_ok (envok_ref11_Counts N) mixed (Λ := lam_ref11_Counts_l0 N) (p := 116) (obs_ok (l := []) (by kernel_rfl) obsNil) (by kernel_rfl) (by intro rec v; kernel_rfl) N
noncomputable def lam_ref11_Counts (N : Nat) : Lps := fun p => bif Nat.beq p 58 then some (lp_ref11_Counts_l0 N) else bif Nat.beq p 122 then some (lp_ref11_Counts_l1 N) else none
noncomputable def ctr_ref11_Counts (N : Nat) : Ctr := ctrOf (.cons (.val (.list T_api_Slot)) (.list (.int .i64))) (.tup (.cons (.fresh (.int .i64)) .bool)) [] (fun v => ref11_Counts N v.1 v.2)
theorem sound_ref11_Counts (N : Nat) : SoundF Try.prog 42 (fun vs => (ctr_ref11_Counts N).run vs some) :=
  fn_sound (envok_ref11_Counts N) mixed (Λ := lam_ref11_Counts N) (fn := Try.f42) (c := c_ref11_Counts) Try.func42 (by kernel_rfl) (by kernel_rfl) (obs_ok (l := [(lp_ref11_Counts_l0 N, (codeAt c_ref11_Counts [true, true, false, true, false])), (lp_ref11_Counts_l1 N, (codeAt c_ref11_Counts [true, true, true, false, true, false]))]) (by kernel_rfl) (obsCons (lpok_ref11_Counts_l0 N none) (obsCons (lpok_ref11_Counts_l1 N none) obsNil))) (by kernel_rfl) (by intro v; kernel_rfl)

noncomputable def c_ref11_Reach : Code := match Try.f18.body with | some c => c | none => .skip
noncomputable def tab_ref11_Reach (N : Nat) : List (Nat × Ctr) := [(24, ctr_ref11_Used N)]
noncomputable def env_ref11_Reach (N : Nat) : Env := mkEnv tyRows eqRows methRows [(5, [2000002])] [] (tab_ref11_Reach N)
theorem envok_ref11_Reach (N : Nat) : EnvOk Try.prog (env_ref11_Reach N) := mkEnv_ok tyRows_ok eqRows_ok methRows_ok ⟨sound_ref11_Used N, trivial⟩
noncomputable def cut_ref11_Reach_l1 : Cut := { tms := [5, 8, 9], sh := (.cons (.own 2000000) (.cons (.own 2000001) (.int .i64))), objs := [(2000000, [5], .sl .bool), (2000001, [8], .sl (.int .i64))], sts := [] }
noncomputable def cut_ref11_Reach_l1_o0 : Cut := { tms := [8], sh := (.own 2000000), objs := [(2000000, [8], .sl (.int .i64))], sts := [] }
noncomputable def lp_ref11_Reach_l1 (N : Nat) : Lp := lpOf cut_ref11_Reach_l1 (4, cut_ref11_Reach_l1_o0) [] (fun v => ref11_Reach_l1 N N v.1.2.2 v.2.1 v.2.2.1)
noncomputable def lam_ref11_Reach_l1 (_ : Nat) : Lps := fun _ => none
theorem lpok_ref11_Reach_l1 (N : Nat) (ro : Option Nat) : LpOk Try.prog 65 ro (lp_ref11_Reach_l1 N) (codeAt c_ref11_Reach [true, true, true, true, true, false, true, false]) := by
  rw [show (codeAt c_ref11_Reach [true, true, true, true, true, false, true, false]) = .loop (codeAt c_ref11_Reach [true, true, true, true, true, false, true, false, false]) by kernel_rfl]
  exact loop_ok (envok_ref11_Reach N) mixed (Λ := lam_ref11_Reach_l1 N) (p := 1012) (obs_ok (l := []) (by kernel_rfl) obsNil) (by kernel_rfl) (by intro rec v; kernel_rfl) N
noncomputable def cut_ref11_Reach_l0 : Cut := { tms := [2, 5, 6], sh := (.cons (.ptr 2000000 0) (.cons (.own 2000001) (.list (.int .i64)))), objs := [(2000000, [2], .box (.list T_api_Slot)), (2000001, [5], .sl .bool)], sts := [16, 48] }
noncomputable def cut_ref11_Reach_l0_o0 : Cut := { tms := [5], sh := (.own 2000000), objs := [(2000000, [5], .sl .bool)], sts := [] }
noncomputable def lp_ref11_Reach_l0 (N : Nat) : Lp := lpOf cut_ref11_Reach_l0 (2, cut_ref11_Reach_l0_o0) [] (fun v => ref11_Reach_l0 N N v.1.2.2 v.2.1 v.2.2.1)
noncomputable def lam_ref11_Reach_l0 (_ : Nat) : Lps := fun _ => none
theorem lpok_ref11_Reach_l0 (N : Nat) (ro : Option Nat) : LpOk Try.prog 65 ro (lp_ref11_Reach_l0 N) (codeAt c_ref11_Reach [true, true, true, false, false]) := by
  rw [show (codeAt c_ref11_Reach [true, true, true, false, false]) = .loop (codeAt c_ref11_Reach [true, true, true, false, false, false]) by kernel_rfl]
  exact loop_ok (envok_ref11_Reach N) mixed (Λ := lam_ref11_Reach_l0 N) (p := 120) (obs_ok (l := []) (by kernel_rfl) obsNil) (by kernel_rfl) (by intro rec v; kernel_rfl) N
noncomputable def lam_ref11_Reach (N : Nat) : Lps := fun p => bif Nat.beq p 60 then some (lp_ref11_Reach_l0 N) else bif Nat.beq p 506 then some (lp_ref11_Reach_l1 N) else none
noncomputable def ctr_ref11_Reach (N : Nat) : Ctr := ctrOf (.cons (.val (.list T_api_Slot)) (.list (.int .i64))) (.fresh (.int .i64)) [] (fun v => ref11_Reach N v.1 v.2)
theorem sound_ref11_Reach (N : Nat) : SoundF Try.prog 18 (fun vs => (ctr_ref11_Reach N).run vs some) :=
  fn_sound (envok_ref11_Reach N) mixed (Λ := lam_ref11_Reach N) (fn := Try.f18) (c := c_ref11_Reach) Try.func18 (by kernel_rfl) (by kernel_rfl) (obs_ok (l := [(lp_ref11_Reach_l0 N, (codeAt c_ref11_Reach [true, true, true, false, false])), (lp_ref11_Reach_l1 N, (codeAt c_ref11_Reach [true, true, true, true, true, false, true, false]))]) (by kernel_rfl) (obsCons (lpok_ref11_Reach_l0 N none) (obsCons (lpok_ref11_Reach_l1 N none) obsNil))) (by kernel_rfl) (by intro v; kernel_rfl)

noncomputable def c_ref11_zero : Code := match Try.f43.body with | some c => c | none => .skip
noncomputable def tab_ref11_zero (_ : Nat) : List (Nat × Ctr) := []
noncomputable def env_ref11_zero (N : Nat) : Env := mkEnv tyRows eqRows methRows [] [] (tab_ref11_zero N)
theorem envok_ref11_zero (N : Nat) : EnvOk Try.prog (env_ref11_zero N) := mkEnv_ok tyRows_ok eqRows_ok methRows_ok trivial
noncomputable def lam_ref11_zero (_ : Nat) : Lps := fun _ => none
noncomputable def ctr_ref11_zero (N : Nat) : Ctr := ctrOf (.val T_api_Slot) .bool [] (fun v => ref11_zero N v)
theorem sound_ref11_zero (N : Nat) : SoundF Try.prog 43 (fun vs => (ctr_ref11_zero N).run vs some) :=
  fn_sound (envok_ref11_zero N) mixed (Λ := lam_ref11_zero N) (fn := Try.f43) (c := c_ref11_zero) Try.func43 (by kernel_rfl) (by kernel_rfl) (obs_ok (l := []) (by kernel_rfl) obsNil) (by kernel_rfl) (by intro v; kernel_rfl)

noncomputable def c_ref11_Has : Code := match Try.f25.body with | some c => c | none => .skip
noncomputable def tab_ref11_Has (_ : Nat) : List (Nat × Ctr) := []
noncomputable def env_ref11_Has (N : Nat) : Env := mkEnv tyRows eqRows methRows [] [] (tab_ref11_Has N)
theorem envok_ref11_Has (N : Nat) : EnvOk Try.prog (env_ref11_Has N) := mkEnv_ok tyRows_ok eqRows_ok methRows_ok trivial
noncomputable def cut_ref11_Has_l0 : Cut := { tms := [0, 1, 5], sh := (.cons (.list (.int .i64)) (.cons (.int .i64) (.int .i64))), objs := [], sts := [] }
noncomputable def cut_ref11_Has_l0_o0 : Cut := { tms := [4], sh := .bool, objs := [], sts := [] }
noncomputable def cut_ref11_Has_l0_o1 : Cut := { tms := [], sh := .nil, objs := [], sts := [] }
noncomputable def lp_ref11_Has_l0 (N : Nat) : Lp := lpOf cut_ref11_Has_l0 (1, cut_ref11_Has_l0_o0) [(2, cut_ref11_Has_l0_o1)] (fun v => ref11_Has_l0 N N v.1.1 v.1.2.1 v.1.2.2)
noncomputable def lam_ref11_Has_l0 (_ : Nat) : Lps := fun _ => none
theorem lpok_ref11_Has_l0 (N : Nat) (ro : Option Nat) : LpOk Try.prog 18 ro (lp_ref11_Has_l0 N) (codeAt c_ref11_Has [true, false, true, false]) := by
  rw [show (codeAt c_ref11_Has [true, false, true, false]) = .loop (codeAt c_ref11_Has [true, false, true, false, false]) by kernel_rfl]
  exact loop_ok (envok_ref11_Has N) mixed (Λ := lam_ref11_Has_l0 N) (p := 52) (obs_ok (l := []) (by kernel_rfl) obsNil) (by kernel_rfl) (by intro rec v; kernel_rfl) N
noncomputable def lam_ref11_Has (N : Nat) : Lps := fun p => bif Nat.beq p 26 then some (lp_ref11_Has_l0 N) else none
noncomputable def ctr_ref11_Has (N : Nat) : Ctr := ctrOf (.cons (.list (.int .i64)) (.int .i64)) .bool [] (fun v => ref11_Has N v.1 v.2)
theorem sound_ref11_Has (N : Nat) : SoundF Try.prog 25 (fun vs => (ctr_ref11_Has N).run vs some) :=
  fn_sound (envok_ref11_Has N) mixed (Λ := lam_ref11_Has N) (fn := Try.f25) (c := c_ref11_Has) Try.func25 (by kernel_rfl) (by kernel_rfl) (obs_ok (l := [(lp_ref11_Has_l0 N, (codeAt c_ref11_Has [true, false, true, false]))]) (by kernel_rfl) (obsCons (lpok_ref11_Has_l0 N none) obsNil)) (by kernel_rfl) (by intro v; kernel_rfl)

noncomputable def c_ref11_Sound : Code := match Try.f14.body with | some c => c | none => .skip
noncomputable def tab_ref11_Sound (N : Nat) : List (Nat × Ctr) := [(42, ctr_ref11_Counts N), (18, ctr_ref11_Reach N), (43, ctr_ref11_zero N), (25, ctr_ref11_Has N)]
noncomputable def env_ref11_Sound (N : Nat) : Env := mkEnv tyRows eqRows methRows [] [] (tab_ref11_Sound N)
theorem envok_ref11_Sound (N : Nat) : EnvOk Try.prog (env_ref11_Sound N) := mkEnv_ok tyRows_ok eqRows_ok methRows_ok ⟨sound_ref11_Counts N, ⟨sound_ref11_Reach N, ⟨sound_ref11_zero N, ⟨sound_ref11_Has N, trivial⟩⟩⟩⟩
noncomputable def cut_ref11_Sound_p1 : Cut := { tms := [2, 5, 7, 8], sh := (.cons (.ptr 2000000 0) (.cons (.own 2000001) (.cons (.own 2000002) (.int .i64)))), objs := [(2000000, [2], .box (.list T_api_Slot)), (2000001, [5], .sl (.int .i64)), (2000002, [7], .sl (.int .i64))], sts := [] }
noncomputable def cut_ref11_Sound_p1_o0 : Cut := { tms := [2, 5, 6, 7, 8], sh := (.cons (.ptr 2000000 0) (.cons (.own 2000001) (.cons .bool (.cons (.own 2000002) (.int .i64))))), objs := [(2000000, [2], .box (.list T_api_Slot)), (2000001, [5], .sl (.int .i64)), (2000002, [7], .sl (.int .i64))], sts := [] }
noncomputable def lp_ref11_Sound_p1 (N : Nat) : Lp := lpOf cut_ref11_Sound_p1 (0, cut_ref11_Sound_p1_o0) [] (fun v => ref11_Sound_p1 N v.1.2.2.2 v.2.1 v.2.2.1 v.2.2.2.1)
noncomputable def lam_ref11_Sound_p1 (_ : Nat) : Lps := fun _ => none
theorem lpok_ref11_Sound_p1 (N : Nat) (ro : Option Nat) : LpOk Try.prog 62 ro (lp_ref11_Sound_p1 N) (codeAt c_ref11_Sound [true, true, true, false, true, false, false, true]) :=
  piece_ok (envok_ref11_Sound N) mixed (Λ := lam_ref11_Sound_p1 N) (p := 489) (obs_ok (l := []) (by kernel_rfl) obsNil) (by kernel_rfl) (by intro v; kernel_rfl)
noncomputable def cut_ref11_Sound_l0 : Cut := { tms := [2, 5, 6, 7, 8], sh := (.cons (.ptr 2000000 0) (.cons (.own 2000001) (.cons .bool (.cons (.own 2000002) (.int .i64))))), objs := [(2000000, [2], .box (.list T_api_Slot)), (2000001, [5], .sl (.int .i64)), (2000002, [7], .sl (.int .i64))], sts := [] }
noncomputable def cut_ref11_Sound_l0_o0 : Cut := { tms := [6], sh := .bool, objs := [], sts := [] }
noncomputable def lp_ref11_Sound_l0 (N : Nat) : Lp := lpOf cut_ref11_Sound_l0 (2, cut_ref11_Sound_l0_o0) [] (fun v => ref11_Sound_l0 N N v.1.2.2.1 v.1.2.2.2.2 v.2.1 v.2.2.1 v.2.2.2.1)
noncomputable def lam_ref11_Sound_l0 (N : Nat) : Lps := fun p => bif Nat.beq p 489 then some (lp_ref11_Sound_p1 N) else none
theorem lpok_ref11_Sound_l0 (N : Nat) (ro : Option Nat) : LpOk Try.prog 62 ro (lp_ref11_Sound_l0 N) (codeAt c_ref11_Sound [true, true, true, false, true, false]) := by
  rw [show (codeAt c_ref11_Sound [true, true, true, false, true, false]) = .loop (codeAt c_ref11_Sound [true, true, true, false, true, false, false]) by kernel_rfl]
  exact loop_ok (envok_ref11_Sound N) mixed (Λ := lam_ref11_Sound_l0 N) (p := 244) (obs_ok (l := [(lp_ref11_Sound_p1 N, (codeAt c_ref11_Sound [true, true, true, false, true, false, false, true]))]) (by kernel_rfl) (obsCons (lpok_ref11_Sound_p1 N ro) obsNil)) (by kernel_rfl) (by intro rec v; kernel_rfl) N
noncomputable def lam_ref11_Sound (N : Nat) : Lps := fun p => bif Nat.beq p 122 then some (lp_ref11_Sound_l0 N) else none
noncomputable def ctr_ref11_Sound (N : Nat) : Ctr := ctrOf (.cons (.val (.list T_api_Slot)) (.list (.int .i64))) .bool [] (fun v => ref11_Sound N v.1 v.2)
theorem sound_ref11_Sound (N : Nat) : SoundF Try.prog 14 (fun vs => (ctr_ref11_Sound N).run vs some) :=
  fn_sound (envok_ref11_Sound N) mixed (Λ := lam_ref11_Sound N) (fn := Try.f14) (c := c_ref11_Sound) Try.func14 (by kernel_rfl) (by kernel_rfl) (obs_ok (l := [(lp_ref11_Sound_l0 N, (codeAt c_ref11_Sound [true, true, true, false, true, false]))]) (by kernel_rfl) (obsCons (lpok_ref11_Sound_l0 N none) obsNil)) (by kernel_rfl) (by intro v; kernel_rfl)

noncomputable def c_law11_PoolSound : Code := match Try.f3.body with | some c => c | none => .skip
noncomputable def tab_law11_PoolSound (N : Nat) : List (Nat × Ctr) := [(11, ctr_law11_sanity N), (12, ctr_ref11_Play N), (13, ctr_pool_Sound N), (14, ctr_ref11_Sound N), (15, ctr_ref11_Copied N), (17, ctr_pool_Reach N), (18, ctr_ref11_Reach N), (16, ctr_ref11_Ints N)]
noncomputable def env_law11_PoolSound (N : Nat) : Env := mkEnv tyRows eqRows methRows [(2000103, [102])] [] (tab_law11_PoolSound N)
theorem envok_law11_PoolSound (N : Nat) : EnvOk Try.prog (env_law11_PoolSound N) := mkEnv_ok tyRows_ok eqRows_ok methRows_ok ⟨sound_law11_sanity N, ⟨sound_ref11_Play N, ⟨sound_pool_Sound N, ⟨sound_ref11_Sound N, ⟨sound_ref11_Copied N, ⟨sound_pool_Reach N, ⟨sound_ref11_Reach N, ⟨sound_ref11_Ints N, trivial⟩⟩⟩⟩⟩⟩⟩⟩
noncomputable def cut_law11_PoolSound_p1 : Cut := { tms := [7, 8, 9], sh := (.cons .bool (.cons (.ptr 2000000 0) (.ptr 2000001 0))), objs := [(2000000, [8], .box (.cons (.list T_api_Slot) (.list (.int .i64)))), (2000001, [9], .box (.own 2000002)), (2000002, [9, 0], .sl T_api_Slot)], sts := [] }
noncomputable def cut_law11_PoolSound_p1_o0 : Cut := { tms := [6], sh := .bool, objs := [], sts := [] }
noncomputable def lp_law11_PoolSound_p1 (N : Nat) : Lp := lpOf cut_law11_PoolSound_p1 (1, cut_law11_PoolSound_p1_o0) [] (fun v => law11_PoolSound_p1 N v.1.1 v.2.1.1 v.2.1.2 v.2.2.2.1)
noncomputable def lam_law11_PoolSound_p1 (_ : Nat) : Lps := fun _ => none
theorem lpok_law11_PoolSound_p1 (N : Nat) (ro : Option Nat) : LpOk Try.prog 134 ro (lp_law11_PoolSound_p1 N) (codeAt c_law11_PoolSound [true, true, true, true, true, true, true, true, true]) :=
  piece_ok (envok_law11_PoolSound N) mixed (Λ := lam_law11_PoolSound_p1 N) (p := 1023) (obs_ok (l := []) (by kernel_rfl) obsNil) (by kernel_rfl) (by intro v; kernel_rfl)
noncomputable def cut_law11_PoolSound_p0 : Cut := { tms := [5, 7, 8], sh := (.cons (.ptr 2000000 0) (.cons .bool (.ptr 2000001 0))), objs := [(2000000, [5], .box (.cons (.int .u8) (.cons (.int .u8) (.int .u8)))), (2000001, [8], .box (.cons (.list T_api_Slot) (.list (.int .i64))))], sts := [] }
noncomputable def cut_law11_PoolSound_p0_o0 : Cut := { tms := [6], sh := .bool, objs := [], sts := [] }
noncomputable def lp_law11_PoolSound_p0 (N : Nat) : Lp := lpOf cut_law11_PoolSound_p0 (1, cut_law11_PoolSound_p0_o0) [] (fun v => law11_PoolSound_p0 N v.1.2.1 v.2.1.1 v.2.1.2.1 v.2.1.2.2 v.2.2.1.1 v.2.2.1.2)
noncomputable def lam_law11_PoolSound_p0 (N : Nat) : Lps := fun p => bif Nat.beq p 1023 then some (lp_law11_PoolSound_p1 N) else none
theorem lpok_law11_PoolSound_p0 (N : Nat) (ro : Option Nat) : LpOk Try.prog 134 ro (lp_law11_PoolSound_p0 N) (codeAt c_law11_PoolSound [true, true, true, true, true]) :=
  piece_ok (envok_law11_PoolSound N) mixed (Λ := lam_law11_PoolSound_p0 N) (p := 63) (obs_ok (l := [(lp_law11_PoolSound_p1 N, (codeAt c_law11_PoolSound [true, true, true, true, true, true, true, true, true]))]) (by kernel_rfl) (obsCons (lpok_law11_PoolSound_p1 N ro) obsNil)) (by kernel_rfl) (by intro v; kernel_rfl)
noncomputable def lam_law11_PoolSound (N : Nat) : Lps := fun p => bif Nat.beq p 63 then some (lp_law11_PoolSound_p0 N) else none
noncomputable def ctr_law11_PoolSound (N : Nat) : Ctr := ctrOf (.cons (.list T_ref11_Raw) (.cons (.list (.int .i64)) (.val T_a3_uint8))) .bool [] (fun v => law11_PoolSound N v.1 v.2.1 v.2.2)
theorem sound_law11_PoolSound (N : Nat) : SoundF Try.prog 3 (fun vs => (ctr_law11_PoolSound N).run vs some) :=
  fn_sound (envok_law11_PoolSound N) mixed (Λ := lam_law11_PoolSound N) (fn := Try.f3) (c := c_law11_PoolSound) Try.func3 (by kernel_rfl) (by kernel_rfl) (obs_ok (l := [(lp_law11_PoolSound_p0 N, (codeAt c_law11_PoolSound [true, true, true, true, true]))]) (by kernel_rfl) (obsCons (lpok_law11_PoolSound_p0 N none) obsNil)) (by kernel_rfl) (by intro v; kernel_rfl)

noncomputable def c_law11_PoolShares : Code := match Try.f4.body with | some c => c | none => .skip
noncomputable def tab_law11_PoolShares (N : Nat) : List (Nat × Ctr) := [(11, ctr_law11_sanity N), (12, ctr_ref11_Play N), (19, ctr_pool_Drop N), (17, ctr_pool_Reach N), (16, ctr_ref11_Ints N), (20, ctr_pool_Live N), (14, ctr_ref11_Sound N), (21, ctr_pool_Get N), (22, ctr_ref11_SameNode N)]
noncomputable def env_law11_PoolShares (N : Nat) : Env := mkEnv tyRows eqRows methRows [] [] (tab_law11_PoolShares N)
theorem envok_law11_PoolShares (N : Nat) : EnvOk Try.prog (env_law11_PoolShares N) := mkEnv_ok tyRows_ok eqRows_ok methRows_ok ⟨sound_law11_sanity N, ⟨sound_ref11_Play N, ⟨sound_pool_Drop N, ⟨sound_pool_Reach N, ⟨sound_ref11_Ints N, ⟨sound_pool_Live N, ⟨sound_ref11_Sound N, ⟨sound_pool_Get N, ⟨sound_ref11_SameNode N, trivial⟩⟩⟩⟩⟩⟩⟩⟩⟩
noncomputable def cut_law11_PoolShares_l1 : Cut := { tms := [5, 6, 9, 14, 15], sh := (.cons .bool (.cons (.ptr 2000000 0) (.cons (.ptr 2000001 0) (.cons (.own 2000002) (.int .i64))))), objs := [(2000000, [6], .box (.cons (.list T_api_Slot) (.list (.int .i64)))), (2000001, [9], .box (.list T_api_Slot)), (2000002, [14], .sl (.int .i64))], sts := [] }
noncomputable def cut_law11_PoolShares_l1_o0 : Cut := { tms := [4], sh := .bool, objs := [], sts := [] }
noncomputable def cut_law11_PoolShares_l1_o1 : Cut := { tms := [5], sh := .bool, objs := [], sts := [] }
noncomputable def lp_law11_PoolShares_l1 (N : Nat) : Lp := lpOf cut_law11_PoolShares_l1 (1, cut_law11_PoolShares_l1_o0) [(4, cut_law11_PoolShares_l1_o1)] (fun v => law11_PoolShares_l1 N N v.1.1 v.1.2.2.2.2 v.2.1.1 v.2.1.2 v.2.2.1 v.2.2.2.1)
noncomputable def lam_law11_PoolShares_l1 (_ : Nat) : Lps := fun _ => none
theorem lpok_law11_PoolShares_l1 (N : Nat) (ro : Option Nat) : LpOk Try.prog 129 ro (lp_law11_PoolShares_l1 N) (codeAt c_law11_PoolShares [true, true, true, true, true, true, true, true, true, false, true, false]) := by
  rw [show (codeAt c_law11_PoolShares [true, true, true, true, true, true, true, true, true, false, true, false]) = .loop (codeAt c_law11_PoolShares [true, true, true, true, true, true, true, true, true, false, true, false, false]) by kernel_rfl]
  exact loop_ok (envok_law11_PoolShares N) mixed (Λ := lam_law11_PoolShares_l1 N) (p := 16372) (obs_ok (l := []) (by kernel_rfl) obsNil) (by kernel_rfl) (by intro rec v; kernel_rfl) N
noncomputable def cut_law11_PoolShares_l0 : Cut := { tms := [5, 6, 7, 8, 9, 10], sh := (.cons .bool (.cons (.ptr 2000000 0) (.cons (.int .i64) (.cons (.int .i64) (.cons (.ptr 2000001 0) (.int .i64)))))), objs := [(2000000, [6], .box (.cons (.list T_api_Slot) (.list (.int .i64)))), (2000001, [9], .box (.list T_api_Slot))], sts := [] }
noncomputable def cut_law11_PoolShares_l0_o0 : Cut := { tms := [4], sh := .bool, objs := [], sts := [] }
noncomputable def cut_law11_PoolShares_l0_o1 : Cut := { tms := [5, 6, 8, 9], sh := (.cons .bool (.cons (.ptr 2000000 0) (.cons (.int .i64) (.ptr 2000001 0)))), objs := [(2000000, [6], .box (.cons (.list T_api_Slot) (.list (.int .i64)))), (2000001, [9], .box (.list T_api_Slot))], sts := [] }
noncomputable def lp_law11_PoolShares_l0 (N : Nat) : Lp := lpOf cut_law11_PoolShares_l0 (1, cut_law11_PoolShares_l0_o0) [(2, cut_law11_PoolShares_l0_o1)] (fun v => law11_PoolShares_l0 N N v.1.1 v.1.2.2.1 v.1.2.2.2.1 v.1.2.2.2.2.2 v.2.1.1 v.2.1.2 v.2.2.1)
noncomputable def lam_law11_PoolShares_l0 (_ : Nat) : Lps := fun _ => none
theorem lpok_law11_PoolShares_l0 (N : Nat) (ro : Option Nat) : LpOk Try.prog 129 ro (lp_law11_PoolShares_l0 N) (codeAt c_law11_PoolShares [true, true, true, true, true, true, false, true, false]) := by
  rw [show (codeAt c_law11_PoolShares [true, true, true, true, true, true, false, true, false]) = .loop (codeAt c_law11_PoolShares [true, true, true, true, true, true, false, true, false, false]) by kernel_rfl]
  exact loop_ok (envok_law11_PoolShares N) mixed (Λ := lam_law11_PoolShares_l0 N) (p := 2036) (obs_ok (l := []) (by kernel_rfl) obsNil) (by kernel_rfl) (by intro rec v; kernel_rfl) N
noncomputable def lam_law11_PoolShares (N : Nat) : Lps := fun p => bif Nat.beq p 1018 then some (lp_law11_PoolShares_l0 N) else bif Nat.beq p 8186 then some (lp_law11_PoolShares_l1 N) else none
noncomputable def ctr_law11_PoolShares (N : Nat) : Ctr := ctrOf (.cons (.list T_ref11_Raw) (.int .u8)) .bool [] (fun v => law11_PoolShares N v.1 v.2)
theorem sound_law11_PoolShares (N : Nat) : SoundF Try.prog 4 (fun vs => (ctr_law11_PoolShares N).run vs some) :=
  fn_sound (envok_law11_PoolShares N) mixed (Λ := lam_law11_PoolShares N) (fn := Try.f4) (c := c_law11_PoolShares) Try.func4 (by kernel_rfl) (by kernel_rfl) (obs_ok (l := [(lp_law11_PoolShares_l0 N, (codeAt c_law11_PoolShares [true, true, true, true, true, true, false, true, false])), (lp_law11_PoolShares_l1 N, (codeAt c_law11_PoolShares [true, true, true, true, true, true, true, true, true, false, true, false]))]) (by kernel_rfl) (obsCons (lpok_law11_PoolShares_l0 N none) (obsCons (lpok_law11_PoolShares_l1 N none) obsNil))) (by kernel_rfl) (by intro v; kernel_rfl)

noncomputable def c_law11_PoolFrees : Code := match Try.f5.body with | some c => c | none => .skip
noncomputable def tab_law11_PoolFrees (N : Nat) : List (Nat × Ctr) := [(11, ctr_law11_sanity N), (12, ctr_ref11_Play N), (19, ctr_pool_Drop N), (20, ctr_pool_Live N), (14, ctr_ref11_Sound N), (23, ctr_law11_add N)]
noncomputable def env_law11_PoolFrees (N : Nat) : Env := mkEnv tyRows eqRows methRows [] [] (tab_law11_PoolFrees N)
theorem envok_law11_PoolFrees (N : Nat) : EnvOk Try.prog (env_law11_PoolFrees N) := mkEnv_ok tyRows_ok eqRows_ok methRows_ok ⟨sound_law11_sanity N, ⟨sound_ref11_Play N, ⟨sound_pool_Drop N, ⟨sound_pool_Live N, ⟨sound_ref11_Sound N, ⟨sound_law11_add N, trivial⟩⟩⟩⟩⟩⟩
noncomputable def cut_law11_PoolFrees_l1 : Cut := { tms := [5, 7, 12], sh := (.cons .bool (.cons (.ptr 2000000 0) (.int .i64))), objs := [(2000000, [7], .box (.list T_api_Slot))], sts := [] }
noncomputable def cut_law11_PoolFrees_l1_o0 : Cut := { tms := [4], sh := .bool, objs := [], sts := [] }
noncomputable def cut_law11_PoolFrees_l1_o1 : Cut := { tms := [5], sh := .bool, objs := [], sts := [] }
noncomputable def lp_law11_PoolFrees_l1 (N : Nat) : Lp := lpOf cut_law11_PoolFrees_l1 (1, cut_law11_PoolFrees_l1_o0) [(4, cut_law11_PoolFrees_l1_o1)] (fun v => law11_PoolFrees_l1 N N v.1.1 v.1.2.2 v.2.1)
noncomputable def lam_law11_PoolFrees_l1 (_ : Nat) : Lps := fun _ => none
theorem lpok_law11_PoolFrees_l1 (N : Nat) (ro : Option Nat) : LpOk Try.prog 88 ro (lp_law11_PoolFrees_l1 N) (codeAt c_law11_PoolFrees [true, true, true, true, true, true, false, true, false]) := by
  rw [show (codeAt c_law11_PoolFrees [true, true, true, true, true, true, false, true, false]) = .loop (codeAt c_law11_PoolFrees [true, true, true, true, true, true, false, true, false, false]) by kernel_rfl]
  exact loop_ok (envok_law11_PoolFrees N) mixed (Λ := lam_law11_PoolFrees_l1 N) (p := 2036) (obs_ok (l := []) (by kernel_rfl) obsNil) (by kernel_rfl) (by intro rec v; kernel_rfl) N
noncomputable def cut_law11_PoolFrees_l0 : Cut := { tms := [1, 5, 6, 7, 8], sh := (.cons .bool (.cons .bool (.cons (.ptr 2000000 0) (.cons (.ptr 2000001 0) (.int .i64))))), objs := [(2000000, [6], .box (.cons (.list T_api_Slot) (.list (.int .i64)))), (2000001, [7], .box (.list T_api_Slot))], sts := [] }
noncomputable def cut_law11_PoolFrees_l0_o0 : Cut := { tms := [4], sh := .bool, objs := [], sts := [] }
noncomputable def cut_law11_PoolFrees_l0_o1 : Cut := { tms := [5, 6, 7], sh := (.cons .bool (.cons (.ptr 2000000 0) (.ptr 2000001 0))), objs := [(2000000, [6], .box (.cons (.list T_api_Slot) (.list (.int .i64)))), (2000001, [7], .box (.list T_api_Slot))], sts := [] }
noncomputable def lp_law11_PoolFrees_l0 (N : Nat) : Lp := lpOf cut_law11_PoolFrees_l0 (1, cut_law11_PoolFrees_l0_o0) [(2, cut_law11_PoolFrees_l0_o1)] (fun v => law11_PoolFrees_l0 N N v.1.1 v.1.2.1 v.1.2.2.2.2 v.2.1.1 v.2.1.2 v.2.2.1)
noncomputable def lam_law11_PoolFrees_l0 (_ : Nat) : Lps := fun _ => none
theorem lpok_law11_PoolFrees_l0 (N : Nat) (ro : Option Nat) : LpOk Try.prog 88 ro (lp_law11_PoolFrees_l0 N) (codeAt c_law11_PoolFrees [true, true, true, true, false, true, false]) := by
  rw [show (codeAt c_law11_PoolFrees [true, true, true, true, false, true, false]) = .loop (codeAt c_law11_PoolFrees [true, true, true, true, false, true, false, false]) by kernel_rfl]
  exact loop_ok (envok_law11_PoolFrees N) mixed (Λ := lam_law11_PoolFrees_l0 N) (p := 500) (obs_ok (l := []) (by kernel_rfl) obsNil) (by kernel_rfl) (by intro rec v; kernel_rfl) N
noncomputable def lam_law11_PoolFrees (N : Nat) : Lps := fun p => bif Nat.beq p 250 then some (lp_law11_PoolFrees_l0 N) else bif Nat.beq p 1018 then some (lp_law11_PoolFrees_l1 N) else none
noncomputable def ctr_law11_PoolFrees (N : Nat) : Ctr := ctrOf (.cons (.list T_ref11_Raw) .bool) .bool [] (fun v => law11_PoolFrees N v.1 v.2)
theorem sound_law11_PoolFrees (N : Nat) : SoundF Try.prog 5 (fun vs => (ctr_law11_PoolFrees N).run vs some) :=
  fn_sound (envok_law11_PoolFrees N) mixed (Λ := lam_law11_PoolFrees N) (fn := Try.f5) (c := c_law11_PoolFrees) Try.func5 (by kernel_rfl) (by kernel_rfl) (obs_ok (l := [(lp_law11_PoolFrees_l0 N, (codeAt c_law11_PoolFrees [true, true, true, true, false, true, false])), (lp_law11_PoolFrees_l1 N, (codeAt c_law11_PoolFrees [true, true, true, true, true, true, false, true, false]))]) (by kernel_rfl) (obsCons (lpok_law11_PoolFrees_l0 N none) (obsCons (lpok_law11_PoolFrees_l1 N none) obsNil))) (by kernel_rfl) (by intro v; kernel_rfl)

noncomputable def c_law11_PoolReaches : Code := match Try.f6.body with | some c => c | none => .skip
noncomputable def tab_law11_PoolReaches (N : Nat) : List (Nat × Ctr) := [(11, ctr_law11_sanity N), (12, ctr_ref11_Play N), (17, ctr_pool_Reach N), (24, ctr_ref11_Used N), (25, ctr_ref11_Has N)]
noncomputable def env_law11_PoolReaches (N : Nat) : Env := mkEnv tyRows eqRows methRows [] [] (tab_law11_PoolReaches N)
theorem envok_law11_PoolReaches (N : Nat) : EnvOk Try.prog (env_law11_PoolReaches N) := mkEnv_ok tyRows_ok eqRows_ok methRows_ok ⟨sound_law11_sanity N, ⟨sound_ref11_Play N, ⟨sound_pool_Reach N, ⟨sound_ref11_Used N, ⟨sound_ref11_Has N, trivial⟩⟩⟩⟩⟩
noncomputable def cut_law11_PoolReaches_l3 : Cut := { tms := [5, 6, 8, 12, 13, 14], sh := (.cons .bool (.cons (.ptr 2000000 0) (.cons (.own 2000001) (.cons (.own 2000002) (.cons (.int .i64) (.int .i64)))))), objs := [(2000000, [6], .box (.cons (.list T_api_Slot) (.list (.int .i64)))), (2000001, [8], .sl .bool), (2000002, [12], .sl (.int .i64))], sts := [] }
noncomputable def cut_law11_PoolReaches_l3_o0 : Cut := { tms := [4], sh := .bool, objs := [], sts := [] }
noncomputable def cut_law11_PoolReaches_l3_o1 : Cut := { tms := [5, 6, 8, 12, 13], sh := (.cons .bool (.cons (.ptr 2000000 0) (.cons (.own 2000001) (.cons (.own 2000002) (.int .i64))))), objs := [(2000000, [6], .box (.cons (.list T_api_Slot) (.list (.int .i64)))), (2000001, [8], .sl .bool), (2000002, [12], .sl (.int .i64))], sts := [] }
noncomputable def lp_law11_PoolReaches_l3 (N : Nat) : Lp := lpOf cut_law11_PoolReaches_l3 (1, cut_law11_PoolReaches_l3_o0) [(8, cut_law11_PoolReaches_l3_o1)] (fun v => law11_PoolReaches_l3 N N v.1.1 v.1.2.2.2.2.1 v.1.2.2.2.2.2 v.2.1.1 v.2.1.2 v.2.2.1 v.2.2.2.1)
noncomputable def lam_law11_PoolReaches_l3 (_ : Nat) : Lps := fun _ => none
theorem lpok_law11_PoolReaches_l3 (N : Nat) (ro : Option Nat) : LpOk Try.prog 138 ro (lp_law11_PoolReaches_l3 N) (codeAt c_law11_PoolReaches [true, true, true, true, true, true, true, false, true, false, false, true, false, false, true, true, false]) := by
  rw [show (codeAt c_law11_PoolReaches [true, true, true, true, true, true, true, false, true, false, false, true, false, false, true, true, false]) = .loop (codeAt c_law11_PoolReaches [true, true, true, true, true, true, true, false, true, false, false, true, false, false, true, true, false, false]) by kernel_rfl]
  exact loop_ok (envok_law11_PoolReaches N) mixed (Λ := lam_law11_PoolReaches_l3 N) (p := 522828) (obs_ok (l := []) (by kernel_rfl) obsNil) (by kernel_rfl) (by intro rec v; kernel_rfl) N
noncomputable def cut_law11_PoolReaches_l2 : Cut := { tms := [1, 5, 6, 7, 8, 9, 10, 11], sh := (.cons (.list (.int .i8)) (.cons .bool (.cons (.ptr 2000000 0) (.cons (.own 2000001) (.cons (.own 2000002) (.cons (.int .i64) (.cons (.own 2000003) (.int .i64)))))))), objs := [(2000000, [6], .box (.cons (.list T_api_Slot) (.list (.int .i64)))), (2000001, [7], .sl (.int .i64)), (2000002, [8], .sl .bool), (2000003, [10], .sl (.int .i64))], sts := [] }
noncomputable def cut_law11_PoolReaches_l2_o0 : Cut := { tms := [4], sh := .bool, objs := [], sts := [] }
noncomputable def cut_law11_PoolReaches_l2_o1 : Cut := { tms := [1, 5, 6, 7, 8, 9], sh := (.cons (.list (.int .i8)) (.cons .bool (.cons (.ptr 2000000 0) (.cons (.own 2000001) (.cons (.own 2000002) (.int .i64)))))), objs := [(2000000, [6], .box (.cons (.list T_api_Slot) (.list (.int .i64)))), (2000001, [7], .sl (.int .i64)), (2000002, [8], .sl .bool)], sts := [] }
noncomputable def lp_law11_PoolReaches_l2 (N : Nat) : Lp := lpOf cut_law11_PoolReaches_l2 (1, cut_law11_PoolReaches_l2_o0) [(4, cut_law11_PoolReaches_l2_o1)] (fun v => law11_PoolReaches_l2 N N v.1.1 v.1.2.1 v.1.2.2.2.2.2.1 v.1.2.2.2.2.2.2.2 v.2.1.1 v.2.1.2 v.2.2.1 v.2.2.2.1 v.2.2.2.2.1)
noncomputable def lam_law11_PoolReaches_l2 (_ : Nat) : Lps := fun _ => none
theorem lpok_law11_PoolReaches_l2 (N : Nat) (ro : Option Nat) : LpOk Try.prog 138 ro (lp_law11_PoolReaches_l2 N) (codeAt c_law11_PoolReaches [true, true, true, true, true, false, true, false, false, true, false, false, true, true, true, false]) := by
  rw [show (codeAt c_law11_PoolReaches [true, true, true, true, true, false, true, false, false, true, false, false, true, true, true, false]) = .loop (codeAt c_law11_PoolReaches [true, true, true, true, true, false, true, false, false, true, false, false, true, true, true, false, false]) by kernel_rfl]
  exact loop_ok (envok_law11_PoolReaches N) mixed (Λ := lam_law11_PoolReaches_l2 N) (p := 259228) (obs_ok (l := []) (by kernel_rfl) obsNil) (by kernel_rfl) (by intro rec v; kernel_rfl) N
noncomputable def cut_law11_PoolReaches_l1 : Cut := { tms := [5, 6, 8, 12, 13], sh := (.cons .bool (.cons (.ptr 2000000 0) (.cons (.own 2000001) (.cons (.own 2000002) (.int .i64))))), objs := [(2000000, [6], .box (.cons (.list T_api_Slot) (.list (.int .i64)))), (2000001, [8], .sl .bool), (2000002, [12], .sl (.int .i64))], sts := [] }
noncomputable def cut_law11_PoolReaches_l1_o0 : Cut := { tms := [4], sh := .bool, objs := [], sts := [] }
noncomputable def cut_law11_PoolReaches_l1_o1 : Cut := { tms := [5, 6, 8, 12], sh := (.cons .bool (.cons (.ptr 2000000 0) (.cons (.own 2000001) (.own 2000002)))), objs := [(2000000, [6], .box (.cons (.list T_api_Slot) (.list (.int .i64)))), (2000001, [8], .sl .bool), (2000002, [12], .sl (.int .i64))], sts := [] }
noncomputable def lp_law11_PoolReaches_l1 (N : Nat) : Lp := lpOf cut_law11_PoolReaches_l1 (1, cut_law11_PoolReaches_l1_o0) [(6, cut_law11_PoolReaches_l1_o1)] (fun v => law11_PoolReaches_l1 N N v.1.1 v.1.2.2.2.2 v.2.1.1 v.2.1.2 v.2.2.1 v.2.2.2.1)
noncomputable def lam_law11_PoolReaches_l1 (N : Nat) : Lps := fun p => bif Nat.beq p 261414 then some (lp_law11_PoolReaches_l3 N) else none
theorem lpok_law11_PoolReaches_l1 (N : Nat) (ro : Option Nat) : LpOk Try.prog 138 ro (lp_law11_PoolReaches_l1 N) (codeAt c_law11_PoolReaches [true, true, true, true, true, true, true, false, true, false]) := by
  rw [show (codeAt c_law11_PoolReaches [true, true, true, true, true, true, true, false, true, false]) = .loop (codeAt c_law11_PoolReaches [true, true, true, true, true, true, true, false, true, false, false]) by kernel_rfl]
  exact loop_ok (envok_law11_PoolReaches N) mixed (Λ := lam_law11_PoolReaches_l1 N) (p := 4084) (obs_ok (l := [(lp_law11_PoolReaches_l3 N, (codeAt c_law11_PoolReaches [true, true, true, true, true, true, true, false, true, false, false, true, false, false, true, true, false]))]) (by kernel_rfl) (obsCons (lpok_law11_PoolReaches_l3 N ro) obsNil)) (by kernel_rfl) (by intro rec v; kernel_rfl) N
noncomputable def cut_law11_PoolReaches_l0 : Cut := { tms := [1, 5, 6, 7, 8, 9], sh := (.cons (.list (.int .i8)) (.cons .bool (.cons (.ptr 2000000 0) (.cons (.own 2000001) (.cons (.own 2000002) (.int .i64)))))), objs := [(2000000, [6], .box (.cons (.list T_api_Slot) (.list (.int .i64)))), (2000001, [7], .sl (.int .i64)), (2000002, [8], .sl .bool)], sts := [] }
noncomputable def cut_law11_PoolReaches_l0_o0 : Cut := { tms := [4], sh := .bool, objs := [], sts := [] }
noncomputable def cut_law11_PoolReaches_l0_o1 : Cut := { tms := [5, 6, 7, 8], sh := (.cons .bool (.cons (.ptr 2000000 0) (.cons (.own 2000001) (.own 2000002)))), objs := [(2000000, [6], .box (.cons (.list T_api_Slot) (.list (.int .i64)))), (2000001, [7], .sl (.int .i64)), (2000002, [8], .sl .bool)], sts := [] }
noncomputable def lp_law11_PoolReaches_l0 (N : Nat) : Lp := lpOf cut_law11_PoolReaches_l0 (1, cut_law11_PoolReaches_l0_o0) [(2, cut_law11_PoolReaches_l0_o1)] (fun v => law11_PoolReaches_l0 N N v.1.1 v.1.2.1 v.1.2.2.2.2.2 v.2.1.1 v.2.1.2 v.2.2.1 v.2.2.2.1)
noncomputable def lam_law11_PoolReaches_l0 (N : Nat) : Lps := fun p => bif Nat.beq p 129614 then some (lp_law11_PoolReaches_l2 N) else none
theorem lpok_law11_PoolReaches_l0 (N : Nat) (ro : Option Nat) : LpOk Try.prog 138 ro (lp_law11_PoolReaches_l0 N) (codeAt c_law11_PoolReaches [true, true, true, true, true, false, true, false]) := by
  rw [show (codeAt c_law11_PoolReaches [true, true, true, true, true, false, true, false]) = .loop (codeAt c_law11_PoolReaches [true, true, true, true, true, false, true, false, false]) by kernel_rfl]
  exact loop_ok (envok_law11_PoolReaches N) mixed (Λ := lam_law11_PoolReaches_l0 N) (p := 1012) (obs_ok (l := [(lp_law11_PoolReaches_l2 N, (codeAt c_law11_PoolReaches [true, true, true, true, true, false, true, false, false, true, false, false, true, true, true, false]))]) (by kernel_rfl) (obsCons (lpok_law11_PoolReaches_l2 N ro) obsNil)) (by kernel_rfl) (by intro rec v; kernel_rfl) N
noncomputable def lam_law11_PoolReaches (N : Nat) : Lps := fun p => bif Nat.beq p 506 then some (lp_law11_PoolReaches_l0 N) else bif Nat.beq p 2042 then some (lp_law11_PoolReaches_l1 N) else none
noncomputable def ctr_law11_PoolReaches (N : Nat) : Ctr := ctrOf (.cons (.list T_ref11_Raw) (.list (.int .i8))) .bool [] (fun v => law11_PoolReaches N v.1 v.2)
theorem sound_law11_PoolReaches (N : Nat) : SoundF Try.prog 6 (fun vs => (ctr_law11_PoolReaches N).run vs some) :=
  fn_sound (envok_law11_PoolReaches N) mixed (Λ := lam_law11_PoolReaches N) (fn := Try.f6) (c := c_law11_PoolReaches) Try.func6 (by kernel_rfl) (by kernel_rfl) (obs_ok (l := [(lp_law11_PoolReaches_l0 N, (codeAt c_law11_PoolReaches [true, true, true, true, true, false, true, false])), (lp_law11_PoolReaches_l1 N, (codeAt c_law11_PoolReaches [true, true, true, true, true, true, true, false, true, false]))]) (by kernel_rfl) (obsCons (lpok_law11_PoolReaches_l0 N none) (obsCons (lpok_law11_PoolReaches_l1 N none) obsNil))) (by kernel_rfl) (by intro v; kernel_rfl)

noncomputable def c_law11_same : Code := match Try.f27.body with | some c => c | none => .skip
noncomputable def tab_law11_same (N : Nat) : List (Nat × Ctr) := [(33, ctr_ref11_Same N)]
noncomputable def env_law11_same (N : Nat) : Env := mkEnv tyRows eqRows methRows [] [] (tab_law11_same N)
theorem envok_law11_same (N : Nat) : EnvOk Try.prog (env_law11_same N) := mkEnv_ok tyRows_ok eqRows_ok methRows_ok ⟨sound_ref11_Same N, trivial⟩
noncomputable def lam_law11_same (_ : Nat) : Lps := fun _ => none
noncomputable def ctr_law11_same (N : Nat) : Ctr := ctrOf (.cons (.val T_ref11_Added) (.val T_ref11_Added)) .bool [] (fun v => law11_same N v.1 v.2)
theorem sound_law11_same (N : Nat) : SoundF Try.prog 27 (fun vs => (ctr_law11_same N).run vs some) :=
  fn_sound (envok_law11_same N) mixed (Λ := lam_law11_same N) (fn := Try.f27) (c := c_law11_same) Try.func27 (by kernel_rfl) (by kernel_rfl) (obs_ok (l := []) (by kernel_rfl) obsNil) (by kernel_rfl) (by intro v; kernel_rfl)

noncomputable def c_ref11_Live : Code := match Try.f29.body with | some c => c | none => .skip
noncomputable def tab_ref11_Live (_ : Nat) : List (Nat × Ctr) := []
noncomputable def env_ref11_Live (N : Nat) : Env := mkEnv tyRows eqRows methRows [] [] (tab_ref11_Live N)
theorem envok_ref11_Live (N : Nat) : EnvOk Try.prog (env_ref11_Live N) := mkEnv_ok tyRows_ok eqRows_ok methRows_ok trivial
noncomputable def cut_ref11_Live_l0 : Cut := { tms := [1, 3, 4], sh := (.cons (.ptr 2000000 0) (.cons (.int .i64) (.int .i64))), objs := [(2000000, [1], .box (.list T_api_Slot))], sts := [] }
noncomputable def cut_ref11_Live_l0_o0 : Cut := { tms := [3], sh := (.int .i64), objs := [], sts := [] }
noncomputable def lp_ref11_Live_l0 (N : Nat) : Lp := lpOf cut_ref11_Live_l0 (2, cut_ref11_Live_l0_o0) [] (fun v => ref11_Live_l0 N N v.1.2.1 v.1.2.2 v.2.1)
noncomputable def lam_ref11_Live_l0 (_ : Nat) : Lps := fun _ => none
theorem lpok_ref11_Live_l0 (N : Nat) (ro : Option Nat) : LpOk Try.prog 21 ro (lp_ref11_Live_l0 N) (codeAt c_ref11_Live [true, true, false, true, false]) := by
  rw [show (codeAt c_ref11_Live [true, true, false, true, false]) = .loop (codeAt c_ref11_Live [true, true, false, true, false, false]) by kernel_rfl]
  exact loop_ok (envok_ref11_Live N) mixed (Λ := lam_ref11_Live_l0 N) (p := 116) (obs_ok (l := []) (by kernel_rfl) obsNil) (by kernel_rfl) (by intro rec v; kernel_rfl) N
noncomputable def lam_ref11_Live (N : Nat) : Lps := fun p => bif Nat.beq p 58 then some (lp_ref11_Live_l0 N) else none
noncomputable def ctr_ref11_Live (N : Nat) : Ctr := ctrOf (.val (.list T_api_Slot)) (.int .i64) [] (fun v => ref11_Live N v)
theorem sound_ref11_Live (N : Nat) : SoundF Try.prog 29 (fun vs => (ctr_ref11_Live N).run vs some) :=
  fn_sound (envok_ref11_Live N) mixed (Λ := lam_ref11_Live N) (fn := Try.f29) (c := c_ref11_Live) Try.func29 (by kernel_rfl) (by kernel_rfl) (obs_ok (l := [(lp_ref11_Live_l0 N, (codeAt c_ref11_Live [true, true, false, true, false]))]) (by kernel_rfl) (obsCons (lpok_ref11_Live_l0 N none) obsNil)) (by kernel_rfl) (by intro v; kernel_rfl)

noncomputable def c_ref11_Get : Code := match Try.f30.body with | some c => c | none => .skip
noncomputable def tab_ref11_Get (N : Nat) : List (Nat × Ctr) := [(24, ctr_ref11_Used N)]
noncomputable def env_ref11_Get (N : Nat) : Env := mkEnv tyRows eqRows methRows [] [] (tab_ref11_Get N)
theorem envok_ref11_Get (N : Nat) : EnvOk Try.prog (env_ref11_Get N) := mkEnv_ok tyRows_ok eqRows_ok methRows_ok ⟨sound_ref11_Used N, trivial⟩
noncomputable def lam_ref11_Get (_ : Nat) : Lps := fun _ => none
noncomputable def ctr_ref11_Get (N : Nat) : Ctr := ctrOf (.cons (.val (.list T_api_Slot)) (.int .i64)) (.tup (.cons (.val T_api_Node) (.int .i64))) [] (fun v => ref11_Get N v.1 v.2)
theorem sound_ref11_Get (N : Nat) : SoundF Try.prog 30 (fun vs => (ctr_ref11_Get N).run vs some) :=
  fn_sound (envok_ref11_Get N) mixed (Λ := lam_ref11_Get N) (fn := Try.f30) (c := c_ref11_Get) Try.func30 (by kernel_rfl) (by kernel_rfl) (obs_ok (l := []) (by kernel_rfl) obsNil) (by kernel_rfl) (by intro v; kernel_rfl)

noncomputable def c_pool_Hold : Code := match Try.f31.body with | some c => c | none => .skip
noncomputable def tab_pool_Hold (N : Nat) : List (Nat × Ctr) := [(38, ctr_pool_used N), (46, ctr_pool_clone N)]
noncomputable def env_pool_Hold (N : Nat) : Env := mkEnv tyRows eqRows methRows [(endKey, [13])] [] (tab_pool_Hold N)
theorem envok_pool_Hold (N : Nat) : EnvOk Try.prog (env_pool_Hold N) := mkEnv_ok tyRows_ok eqRows_ok methRows_ok ⟨sound_pool_used N, ⟨sound_pool_clone N, trivial⟩⟩
noncomputable def lam_pool_Hold (_ : Nat) : Lps := fun _ => none
noncomputable def ctr_pool_Hold (N : Nat) : Ctr := ctrOf (.cons (.val (.list T_api_Slot)) (.int .i64)) (.tup (.cons (.val (.list T_api_Slot)) (.int .i64))) [] (fun v => pool_Hold N v.1 v.2)
theorem sound_pool_Hold (N : Nat) : SoundF Try.prog 31 (fun vs => (ctr_pool_Hold N).run vs some) :=
  fn_sound (envok_pool_Hold N) mixed (Λ := lam_pool_Hold N) (fn := Try.f31) (c := c_pool_Hold) Try.func31 (by kernel_rfl) (by kernel_rfl) (obs_ok (l := []) (by kernel_rfl) obsNil) (by kernel_rfl) (by intro v; kernel_rfl)

noncomputable def c_law11_PoolMatchesReference : Code := match Try.f7.body with | some c => c | none => .skip
noncomputable def tab_law11_PoolMatchesReference (N : Nat) : List (Nat × Ctr) := [(11, ctr_law11_sanity N), (12, ctr_ref11_Play N), (26, ctr_ref11_Node N), (23, ctr_law11_add N), (28, ctr_ref11_Add N), (27, ctr_law11_same N), (20, ctr_pool_Live N), (29, ctr_ref11_Live N), (21, ctr_pool_Get N), (30, ctr_ref11_Get N), (31, ctr_pool_Hold N), (32, ctr_ref11_Hold N), (22, ctr_ref11_SameNode N), (33, ctr_ref11_Same N), (17, ctr_pool_Reach N), (18, ctr_ref11_Reach N), (16, ctr_ref11_Ints N), (19, ctr_pool_Drop N), (34, ctr_ref11_Drop N)]
noncomputable def env_law11_PoolMatchesReference (N : Nat) : Env := mkEnv tyRows eqRows methRows [] [] (tab_law11_PoolMatchesReference N)
theorem envok_law11_PoolMatchesReference (N : Nat) : EnvOk Try.prog (env_law11_PoolMatchesReference N) := mkEnv_ok tyRows_ok eqRows_ok methRows_ok ⟨sound_law11_sanity N, ⟨sound_ref11_Play N, ⟨sound_ref11_Node N, ⟨sound_law11_add N, ⟨sound_ref11_Add N, ⟨sound_law11_same N, ⟨sound_pool_Live N, ⟨sound_ref11_Live N, ⟨sound_pool_Get N, ⟨sound_ref11_Get N, ⟨sound_pool_Hold N, ⟨sound_ref11_Hold N, ⟨sound_ref11_SameNode N, ⟨sound_ref11_Same N, ⟨sound_pool_Reach N, ⟨sound_ref11_Reach N, ⟨sound_ref11_Ints N, ⟨sound_pool_Drop N, ⟨sound_ref11_Drop N, trivial⟩⟩⟩⟩⟩⟩⟩⟩⟩⟩⟩⟩⟩⟩⟩⟩⟩⟩⟩
noncomputable def cut_law11_PoolMatchesReference_p4 : Cut := { tms := [2, 7, 8, 10, 127], sh := (.cons (.int .i8) (.cons .bool (.cons (.ptr 2000000 0) (.cons (.int .i64) .bool)))), objs := [(2000000, [8], .box (.cons (.list T_api_Slot) (.list (.int .i64))))], sts := [] }
noncomputable def cut_law11_PoolMatchesReference_p4_o0 : Cut := { tms := [6], sh := .bool, objs := [], sts := [] }
noncomputable def cut_law11_PoolMatchesReference_p4_o1 : Cut := { tms := [2, 7, 8, 10], sh := (.cons (.int .i8) (.cons .bool (.cons (.ptr 2000000 0) (.int .i64)))), objs := [(2000000, [8], .box (.cons (.list T_api_Slot) (.list (.int .i64))))], sts := [] }
noncomputable def lp_law11_PoolMatchesReference_p4 (N : Nat) : Lp := lpOf cut_law11_PoolMatchesReference_p4 (1, cut_law11_PoolMatchesReference_p4_o0) [(0, cut_law11_PoolMatchesReference_p4_o1)] (fun v => law11_PoolMatchesReference_p4 N v.1.1 v.1.2.1 v.1.2.2.2.1 v.1.2.2.2.2 v.2.1.1 v.2.1.2)
noncomputable def lam_law11_PoolMatchesReference_p4 (_ : Nat) : Lps := fun _ => none
theorem lpok_law11_PoolMatchesReference_p4 (N : Nat) (ro : Option Nat) : LpOk Try.prog 167 ro (lp_law11_PoolMatchesReference_p4 N) (codeAt c_law11_PoolMatchesReference [true, true, true, true, true, false, true, false, false, true, false, false, true, true, true, true, true, true, true]) :=
  piece_ok (envok_law11_PoolMatchesReference N) mixed (Λ := lam_law11_PoolMatchesReference_p4 N) (p := 1036927) (obs_ok (l := []) (by kernel_rfl) obsNil) (by kernel_rfl) (by intro v; kernel_rfl)
noncomputable def cut_law11_PoolMatchesReference_p3 : Cut := { tms := [2, 7, 8, 10, 11], sh := (.cons (.int .i8) (.cons .bool (.cons (.ptr 2000000 0) (.cons (.int .i64) (.int .i64))))), objs := [(2000000, [8], .box (.cons (.list T_api_Slot) (.list (.int .i64))))], sts := [] }
noncomputable def cut_law11_PoolMatchesReference_p3_o0 : Cut := { tms := [6], sh := .bool, objs := [], sts := [] }
noncomputable def cut_law11_PoolMatchesReference_p3_o1 : Cut := { tms := [2, 7, 8, 10], sh := (.cons (.int .i8) (.cons .bool (.cons (.ptr 2000000 0) (.int .i64)))), objs := [(2000000, [8], .box (.cons (.list T_api_Slot) (.list (.int .i64))))], sts := [] }
noncomputable def lp_law11_PoolMatchesReference_p3 (N : Nat) : Lp := lpOf cut_law11_PoolMatchesReference_p3 (1, cut_law11_PoolMatchesReference_p3_o0) [(0, cut_law11_PoolMatchesReference_p3_o1)] (fun v => law11_PoolMatchesReference_p3 N v.1.1 v.1.2.1 v.1.2.2.2.1 v.1.2.2.2.2 v.2.1.1 v.2.1.2)
noncomputable def lam_law11_PoolMatchesReference_p3 (N : Nat) : Lps := fun p => bif Nat.beq p 1036927 then some (lp_law11_PoolMatchesReference_p4 N) else none
theorem lpok_law11_PoolMatchesReference_p3 (N : Nat) (ro : Option Nat) : LpOk Try.prog 167 ro (lp_law11_PoolMatchesReference_p3 N) (codeAt c_law11_PoolMatchesReference [true, true, true, true, true, false, true, false, false, true, false, false, true, true]) :=
  piece_ok (envok_law11_PoolMatchesReference N) mixed (Λ := lam_law11_PoolMatchesReference_p3 N) (p := 32403) (obs_ok (l := [(lp_law11_PoolMatchesReference_p4 N, (codeAt c_law11_PoolMatchesReference [true, true, true, true, true, false, true, false, false, true, false, false, true, true, true, true, true, true, true]))]) (by kernel_rfl) (obsCons (lpok_law11_PoolMatchesReference_p4 N ro) obsNil)) (by kernel_rfl) (by intro v; kernel_rfl)
noncomputable def cut_law11_PoolMatchesReference_p2 : Cut := { tms := [2, 7, 8, 10], sh := (.cons (.int .i8) (.cons .bool (.cons (.ptr 2000000 0) (.int .i64)))), objs := [(2000000, [8], .box (.cons (.list T_api_Slot) (.list (.int .i64))))], sts := [] }
noncomputable def cut_law11_PoolMatchesReference_p2_o0 : Cut := { tms := [2, 7, 8, 10], sh := (.cons (.int .i8) (.cons .bool (.cons (.ptr 2000000 0) (.int .i64)))), objs := [(2000000, [8], .box (.cons (.list T_api_Slot) (.list (.int .i64))))], sts := [] }
noncomputable def lp_law11_PoolMatchesReference_p2 (N : Nat) : Lp := lpOf cut_law11_PoolMatchesReference_p2 (0, cut_law11_PoolMatchesReference_p2_o0) [] (fun v => law11_PoolMatchesReference_p2 N v.1.1 v.1.2.1 v.1.2.2.2 v.2.1.1 v.2.1.2)
noncomputable def lam_law11_PoolMatchesReference_p2 (_ : Nat) : Lps := fun _ => none
theorem lpok_law11_PoolMatchesReference_p2 (N : Nat) (ro : Option Nat) : LpOk Try.prog 167 ro (lp_law11_PoolMatchesReference_p2 N) (codeAt c_law11_PoolMatchesReference [true, true, true, true, true, false, true, false, false, true, true]) :=
  piece_ok (envok_law11_PoolMatchesReference N) mixed (Λ := lam_law11_PoolMatchesReference_p2 N) (p := 4051) (obs_ok (l := []) (by kernel_rfl) obsNil) (by kernel_rfl) (by intro v; kernel_rfl)
noncomputable def cut_law11_PoolMatchesReference_l1 : Cut := { tms := [7, 8, 20], sh := (.cons .bool (.cons (.ptr 2000000 0) (.int .i64))), objs := [(2000000, [8], .box (.cons (.list T_api_Slot) (.list (.int .i64))))], sts := [] }
noncomputable def cut_law11_PoolMatchesReference_l1_o0 : Cut := { tms := [6], sh := .bool, objs := [], sts := [] }
noncomputable def cut_law11_PoolMatchesReference_l1_o1 : Cut := { tms := [7], sh := .bool, objs := [], sts := [] }
noncomputable def lp_law11_PoolMatchesReference_l1 (N : Nat) : Lp := lpOf cut_law11_PoolMatchesReference_l1 (1, cut_law11_PoolMatchesReference_l1_o0) [(4, cut_law11_PoolMatchesReference_l1_o1)] (fun v => law11_PoolMatchesReference_l1 N N v.1.1 v.1.2.2 v.2.1.1 v.2.1.2)
noncomputable def lam_law11_PoolMatchesReference_l1 (_ : Nat) : Lps := fun _ => none
theorem lpok_law11_PoolMatchesReference_l1 (N : Nat) (ro : Option Nat) : LpOk Try.prog 167 ro (lp_law11_PoolMatchesReference_l1 N) (codeAt c_law11_PoolMatchesReference [true, true, true, true, true, true, false, true, false]) := by
  rw [show (codeAt c_law11_PoolMatchesReference [true, true, true, true, true, true, false, true, false]) = .loop (codeAt c_law11_PoolMatchesReference [true, true, true, true, true, true, false, true, false, false]) by kernel_rfl]
  exact loop_ok (envok_law11_PoolMatchesReference N) mixed (Λ := lam_law11_PoolMatchesReference_l1 N) (p := 2036) (obs_ok (l := []) (by kernel_rfl) obsNil) (by kernel_rfl) (by intro rec v; kernel_rfl) N
noncomputable def cut_law11_PoolMatchesReference_l0 : Cut := { tms := [2, 7, 8, 10], sh := (.cons (.int .i8) (.cons .bool (.cons (.ptr 2000000 0) (.int .i64)))), objs := [(2000000, [8], .box (.cons (.list T_api_Slot) (.list (.int .i64))))], sts := [] }
noncomputable def cut_law11_PoolMatchesReference_l0_o0 : Cut := { tms := [6], sh := .bool, objs := [], sts := [] }
noncomputable def cut_law11_PoolMatchesReference_l0_o1 : Cut := { tms := [7, 8], sh := (.cons .bool (.ptr 2000000 0)), objs := [(2000000, [8], .box (.cons (.list T_api_Slot) (.list (.int .i64))))], sts := [] }
noncomputable def lp_law11_PoolMatchesReference_l0 (N : Nat) : Lp := lpOf cut_law11_PoolMatchesReference_l0 (1, cut_law11_PoolMatchesReference_l0_o0) [(2, cut_law11_PoolMatchesReference_l0_o1)] (fun v => law11_PoolMatchesReference_l0 N N v.1.1 v.1.2.1 v.1.2.2.2 v.2.1.1 v.2.1.2)
noncomputable def lam_law11_PoolMatchesReference_l0 (N : Nat) : Lps := fun p => bif Nat.beq p 4051 then some (lp_law11_PoolMatchesReference_p2 N) else bif Nat.beq p 32403 then some (lp_law11_PoolMatchesReference_p3 N) else none
theorem lpok_law11_PoolMatchesReference_l0 (N : Nat) (ro : Option Nat) : LpOk Try.prog 167 ro (lp_law11_PoolMatchesReference_l0 N) (codeAt c_law11_PoolMatchesReference [true, true, true, true, true, false, true, false]) := by
  rw [show (codeAt c_law11_PoolMatchesReference [true, true, true, true, true, false, true, false]) = .loop (codeAt c_law11_PoolMatchesReference [true, true, true, true, true, false, true, false, false]) by kernel_rfl]
  exact loop_ok (envok_law11_PoolMatchesReference N) mixed (Λ := lam_law11_PoolMatchesReference_l0 N) (p := 1012) (obs_ok (l := [(lp_law11_PoolMatchesReference_p3 N, (codeAt c_law11_PoolMatchesReference [true, true, true, true, true, false, true, false, false, true, false, false, true, true])), (lp_law11_PoolMatchesReference_p2 N, (codeAt c_law11_PoolMatchesReference [true, true, true, true, true, false, true, false, false, true, true]))]) (by kernel_rfl) (obsCons (lpok_law11_PoolMatchesReference_p3 N ro) (obsCons (lpok_law11_PoolMatchesReference_p2 N ro) obsNil))) (by kernel_rfl) (by intro rec v; kernel_rfl) N
noncomputable def lam_law11_PoolMatchesReference (N : Nat) : Lps := fun p => bif Nat.beq p 506 then some (lp_law11_PoolMatchesReference_l0 N) else bif Nat.beq p 1018 then some (lp_law11_PoolMatchesReference_l1 N) else none
noncomputable def ctr_law11_PoolMatchesReference (N : Nat) : Ctr := ctrOf (.cons (.list T_ref11_Raw) (.cons (.val T_ref11_Raw) (.int .i8))) .bool [] (fun v => law11_PoolMatchesReference N v.1 v.2.1 v.2.2)
theorem sound_law11_PoolMatchesReference (N : Nat) : SoundF Try.prog 7 (fun vs => (ctr_law11_PoolMatchesReference N).run vs some) :=
  fn_sound (envok_law11_PoolMatchesReference N) mixed (Λ := lam_law11_PoolMatchesReference N) (fn := Try.f7) (c := c_law11_PoolMatchesReference) Try.func7 (by kernel_rfl) (by kernel_rfl) (obs_ok (l := [(lp_law11_PoolMatchesReference_l0 N, (codeAt c_law11_PoolMatchesReference [true, true, true, true, true, false, true, false])), (lp_law11_PoolMatchesReference_l1 N, (codeAt c_law11_PoolMatchesReference [true, true, true, true, true, true, false, true, false]))]) (by kernel_rfl) (obsCons (lpok_law11_PoolMatchesReference_l0 N none) (obsCons (lpok_law11_PoolMatchesReference_l1 N none) obsNil))) (by kernel_rfl) (by intro v; kernel_rfl)

noncomputable def c_law11_PoolKeeps : Code := match Try.f8.body with | some c => c | none => .skip
noncomputable def tab_law11_PoolKeeps (N : Nat) : List (Nat × Ctr) := [(11, ctr_law11_sanity N), (35, ctr_ref11_Step N), (26, ctr_ref11_Node N), (23, ctr_law11_add N), (31, ctr_pool_Hold N), (19, ctr_pool_Drop N), (14, ctr_ref11_Sound N)]
noncomputable def env_law11_PoolKeeps (N : Nat) : Env := mkEnv tyRows eqRows methRows [(6, [2000001, 2000002])] [] (tab_law11_PoolKeeps N)
theorem envok_law11_PoolKeeps (N : Nat) : EnvOk Try.prog (env_law11_PoolKeeps N) := mkEnv_ok tyRows_ok eqRows_ok methRows_ok ⟨sound_law11_sanity N, ⟨sound_ref11_Step N, ⟨sound_ref11_Node N, ⟨sound_law11_add N, ⟨sound_pool_Hold N, ⟨sound_pool_Drop N, ⟨sound_ref11_Sound N, trivial⟩⟩⟩⟩⟩⟩⟩
noncomputable def cut_law11_PoolKeeps_p2 : Cut := { tms := [0, 3, 4, 5, 6, 7, 43], sh := (.cons (.list T_ref11_Raw) (.cons .bool (.cons (.ptr 2000000 0) (.cons (.int .i64) (.cons (.ptr 2000001 0) (.cons (.ptr 2000002 0) .bool)))))), objs := [(2000000, [4], .box (.cons (.list T_api_Slot) (.list (.int .i64)))), (2000001, [6], .box (.cons (.list T_api_Slot) (.list (.int .i64)))), (2000002, [7], .box (.list T_api_Slot))], sts := [] }
noncomputable def cut_law11_PoolKeeps_p2_o0 : Cut := { tms := [2], sh := .bool, objs := [], sts := [] }
noncomputable def cut_law11_PoolKeeps_p2_o1 : Cut := { tms := [0, 3, 4, 5, 6, 7], sh := (.cons (.list T_ref11_Raw) (.cons .bool (.cons (.ptr 2000000 0) (.cons (.int .i64) (.cons (.ptr 2000001 0) (.ptr 2000002 0)))))), objs := [(2000000, [4], .box (.cons (.list T_api_Slot) (.list (.int .i64)))), (2000001, [6], .box (.cons (.list T_api_Slot) (.list (.int .i64)))), (2000002, [7], .box (.list T_api_Slot))], sts := [] }
noncomputable def lp_law11_PoolKeeps_p2 (N : Nat) : Lp := lpOf cut_law11_PoolKeeps_p2 (1, cut_law11_PoolKeeps_p2_o0) [(0, cut_law11_PoolKeeps_p2_o1)] (fun v => law11_PoolKeeps_p2 N v.1.1 v.1.2.1 v.1.2.2.2.1 v.1.2.2.2.2.2.2 v.2.1.1 v.2.1.2 v.2.2.1.1 v.2.2.1.2 v.2.2.2.1)
noncomputable def lam_law11_PoolKeeps_p2 (_ : Nat) : Lps := fun _ => none
theorem lpok_law11_PoolKeeps_p2 (N : Nat) (ro : Option Nat) : LpOk Try.prog 125 ro (lp_law11_PoolKeeps_p2 N) (codeAt c_law11_PoolKeeps [true, true, true, false, true, false, false, true, false, false, true, true, false, true]) :=
  piece_ok (envok_law11_PoolKeeps N) mixed (Λ := lam_law11_PoolKeeps_p2 N) (p := 31309) (obs_ok (l := []) (by kernel_rfl) obsNil) (by kernel_rfl) (by intro v; kernel_rfl)
noncomputable def cut_law11_PoolKeeps_p1 : Cut := { tms := [0, 3, 4, 5, 6, 7], sh := (.cons (.list T_ref11_Raw) (.cons .bool (.cons (.ptr 2000000 0) (.cons (.int .i64) (.cons (.ptr 2000001 0) (.ptr 2000002 0)))))), objs := [(2000000, [4], .box (.cons (.list T_api_Slot) (.list (.int .i64)))), (2000001, [6], .box (.cons (.list T_api_Slot) (.list (.int .i64)))), (2000002, [7], .box (.list T_api_Slot))], sts := [] }
noncomputable def cut_law11_PoolKeeps_p1_o0 : Cut := { tms := [2], sh := .bool, objs := [], sts := [] }
noncomputable def cut_law11_PoolKeeps_p1_o1 : Cut := { tms := [0, 3, 4, 5], sh := (.cons (.list T_ref11_Raw) (.cons .bool (.cons (.ptr 2000000 0) (.int .i64)))), objs := [(2000000, [4], .box (.cons (.list T_api_Slot) (.list (.int .i64))))], sts := [] }
noncomputable def lp_law11_PoolKeeps_p1 (N : Nat) : Lp := lpOf cut_law11_PoolKeeps_p1 (1, cut_law11_PoolKeeps_p1_o0) [(0, cut_law11_PoolKeeps_p1_o1)] (fun v => law11_PoolKeeps_p1 N v.1.1 v.1.2.1 v.1.2.2.2.1 v.2.1.1 v.2.1.2 v.2.2.1.1 v.2.2.1.2 v.2.2.2.1)
noncomputable def lam_law11_PoolKeeps_p1 (_ : Nat) : Lps := fun _ => none
theorem lpok_law11_PoolKeeps_p1 (N : Nat) (ro : Option Nat) : LpOk Try.prog 125 ro (lp_law11_PoolKeeps_p1 N) (codeAt c_law11_PoolKeeps [true, true, true, false, true, false, false, true, false, false, true, true, true]) :=
  piece_ok (envok_law11_PoolKeeps N) mixed (Λ := lam_law11_PoolKeeps_p1 N) (p := 15655) (obs_ok (l := []) (by kernel_rfl) obsNil) (by kernel_rfl) (by intro v; kernel_rfl)
noncomputable def cut_law11_PoolKeeps_l0 : Cut := { tms := [0, 3, 4, 5], sh := (.cons (.list T_ref11_Raw) (.cons .bool (.cons (.ptr 2000000 0) (.int .i64)))), objs := [(2000000, [4], .box (.cons (.list T_api_Slot) (.list (.int .i64))))], sts := [] }
noncomputable def cut_law11_PoolKeeps_l0_o0 : Cut := { tms := [2], sh := .bool, objs := [], sts := [] }
noncomputable def cut_law11_PoolKeeps_l0_o1 : Cut := { tms := [3], sh := .bool, objs := [], sts := [] }
noncomputable def lp_law11_PoolKeeps_l0 (N : Nat) : Lp := lpOf cut_law11_PoolKeeps_l0 (1, cut_law11_PoolKeeps_l0_o0) [(2, cut_law11_PoolKeeps_l0_o1)] (fun v => law11_PoolKeeps_l0 N N v.1.1 v.1.2.1 v.1.2.2.2 v.2.1.1 v.2.1.2)
noncomputable def lam_law11_PoolKeeps_l0 (N : Nat) : Lps := fun p => bif Nat.beq p 15655 then some (lp_law11_PoolKeeps_p1 N) else bif Nat.beq p 31309 then some (lp_law11_PoolKeeps_p2 N) else none
theorem lpok_law11_PoolKeeps_l0 (N : Nat) (ro : Option Nat) : LpOk Try.prog 125 ro (lp_law11_PoolKeeps_l0 N) (codeAt c_law11_PoolKeeps [true, true, true, false, true, false]) := by
  rw [show (codeAt c_law11_PoolKeeps [true, true, true, false, true, false]) = .loop (codeAt c_law11_PoolKeeps [true, true, true, false, true, false, false]) by kernel_rfl]
  exact loop_ok (envok_law11_PoolKeeps N) mixed (Λ := lam_law11_PoolKeeps_l0 N) (p := 244) (obs_ok (l := [(lp_law11_PoolKeeps_p2 N, (codeAt c_law11_PoolKeeps [true, true, true, false, true, false, false, true, false, false, true, true, false, true])), (lp_law11_PoolKeeps_p1 N, (codeAt c_law11_PoolKeeps [true, true, true, false, true, false, false, true, false, false, true, true, true]))]) (by kernel_rfl) (obsCons (lpok_law11_PoolKeeps_p2 N ro) (obsCons (lpok_law11_PoolKeeps_p1 N ro) obsNil))) (by kernel_rfl) (by intro rec v; kernel_rfl) N
noncomputable def lam_law11_PoolKeeps (N : Nat) : Lps := fun p => bif Nat.beq p 122 then some (lp_law11_PoolKeeps_l0 N) else none
noncomputable def ctr_law11_PoolKeeps (N : Nat) : Ctr := ctrOf (.list T_ref11_Raw) .bool [] (fun v => law11_PoolKeeps N v)
theorem sound_law11_PoolKeeps (N : Nat) : SoundF Try.prog 8 (fun vs => (ctr_law11_PoolKeeps N).run vs some) :=
  fn_sound (envok_law11_PoolKeeps N) mixed (Λ := lam_law11_PoolKeeps N) (fn := Try.f8) (c := c_law11_PoolKeeps) Try.func8 (by kernel_rfl) (by kernel_rfl) (obs_ok (l := [(lp_law11_PoolKeeps_l0 N, (codeAt c_law11_PoolKeeps [true, true, true, false, true, false]))]) (by kernel_rfl) (obsCons (lpok_law11_PoolKeeps_l0 N none) obsNil)) (by kernel_rfl) (by intro v; kernel_rfl)

noncomputable def c_law11_PoolSlots : Code := match Try.f9.body with | some c => c | none => .skip
noncomputable def tab_law11_PoolSlots (N : Nat) : List (Nat × Ctr) := [(11, ctr_law11_sanity N), (12, ctr_ref11_Play N), (26, ctr_ref11_Node N), (23, ctr_law11_add N), (21, ctr_pool_Get N), (22, ctr_ref11_SameNode N), (31, ctr_pool_Hold N), (19, ctr_pool_Drop N), (33, ctr_ref11_Same N)]
noncomputable def env_law11_PoolSlots (N : Nat) : Env := mkEnv tyRows eqRows methRows [] [] (tab_law11_PoolSlots N)
theorem envok_law11_PoolSlots (N : Nat) : EnvOk Try.prog (env_law11_PoolSlots N) := mkEnv_ok tyRows_ok eqRows_ok methRows_ok ⟨sound_law11_sanity N, ⟨sound_ref11_Play N, ⟨sound_ref11_Node N, ⟨sound_law11_add N, ⟨sound_pool_Get N, ⟨sound_ref11_SameNode N, ⟨sound_pool_Hold N, ⟨sound_pool_Drop N, ⟨sound_ref11_Same N, trivial⟩⟩⟩⟩⟩⟩⟩⟩⟩
noncomputable def cut_law11_PoolSlots_l4 : Cut := { tms := [2, 7, 8, 9, 10, 11, 12, 13], sh := (.cons (.int .u8) (.cons .bool (.cons (.ptr 2000000 0) (.cons (.ptr 2000001 0) (.cons (.ptr 2000002 0) (.cons (.int .i64) (.cons (.int .i64) (.int .i64)))))))), objs := [(2000000, [8], .box (.cons (.list T_api_Slot) (.list (.int .i64)))), (2000001, [9], .box (.cons (.list T_api_Pair) (.cons (.list .str) (.cons (.list (.int .i64)) (.cons (.list T_api_Sum) (.list T_api_Msg)))))), (2000002, [10], .box (.cons (.list T_api_Slot) (.cons (.int .i64) (.int .i64))))], sts := [] }
noncomputable def cut_law11_PoolSlots_l4_o0 : Cut := { tms := [2, 7, 8, 9, 10, 11, 12], sh := (.cons (.int .u8) (.cons .bool (.cons (.ptr 2000000 0) (.cons (.ptr 2000001 0) (.cons (.ptr 2000002 0) (.cons (.int .i64) (.int .i64))))))), objs := [(2000000, [8], .box (.cons (.list T_api_Slot) (.list (.int .i64)))), (2000001, [9], .box (.cons (.list T_api_Pair) (.cons (.list .str) (.cons (.list (.int .i64)) (.cons (.list T_api_Sum) (.list T_api_Msg)))))), (2000002, [10], .box (.cons (.list T_api_Slot) (.cons (.int .i64) (.int .i64))))], sts := [] }
noncomputable def lp_law11_PoolSlots_l4 (N : Nat) : Lp := lpOf cut_law11_PoolSlots_l4 (4, cut_law11_PoolSlots_l4_o0) [] (fun v => law11_PoolSlots_l4 N N v.1.1 v.1.2.1 v.1.2.2.2.2.2.1 v.1.2.2.2.2.2.2.1 v.1.2.2.2.2.2.2.2 v.2.1.1 v.2.1.2 v.2.2.1.1 v.2.2.1.2.1 v.2.2.1.2.2.1 v.2.2.1.2.2.2.1 v.2.2.1.2.2.2.2 v.2.2.2.1.1 v.2.2.2.1.2.1 v.2.2.2.1.2.2)
noncomputable def lam_law11_PoolSlots_l4 (_ : Nat) : Lps := fun _ => none
theorem lpok_law11_PoolSlots_l4 (N : Nat) (ro : Option Nat) : LpOk Try.prog 209 ro (lp_law11_PoolSlots_l4 N) (codeAt c_law11_PoolSlots [true, true, true, true, true, true, false, true, false, false, true, false, false, true, false, true, false]) := by
  rw [show (codeAt c_law11_PoolSlots [true, true, true, true, true, true, false, true, false, false, true, false, false, true, false, true, false]) = .loop (codeAt c_law11_PoolSlots [true, true, true, true, true, true, false, true, false, false, true, false, false, true, false, true, false, false]) by kernel_rfl]
  exact loop_ok (envok_law11_PoolSlots N) mixed (Λ := lam_law11_PoolSlots_l4 N) (p := 521364) (obs_ok (l := []) (by kernel_rfl) obsNil) (by kernel_rfl) (by intro rec v; kernel_rfl) N
noncomputable def cut_law11_PoolSlots_p3 : Cut := { tms := [2, 7, 8], sh := (.cons (.int .u8) (.cons .bool (.ptr 2000000 0))), objs := [(2000000, [8], .box (.cons (.list T_api_Slot) (.list (.int .i64))))], sts := [] }
noncomputable def cut_law11_PoolSlots_p3_o0 : Cut := { tms := [6], sh := .bool, objs := [], sts := [] }
noncomputable def lp_law11_PoolSlots_p3 (N : Nat) : Lp := lpOf cut_law11_PoolSlots_p3 (1, cut_law11_PoolSlots_p3_o0) [] (fun v => law11_PoolSlots_p3 N v.1.1 v.1.2.1 v.2.1.1 v.2.1.2)
noncomputable def lam_law11_PoolSlots_p3 (_ : Nat) : Lps := fun _ => none
theorem lpok_law11_PoolSlots_p3 (N : Nat) (ro : Option Nat) : LpOk Try.prog 209 ro (lp_law11_PoolSlots_p3 N) (codeAt c_law11_PoolSlots [true, true, true, true, true, true, true, true, true]) :=
  piece_ok (envok_law11_PoolSlots N) mixed (Λ := lam_law11_PoolSlots_p3 N) (p := 1023) (obs_ok (l := []) (by kernel_rfl) obsNil) (by kernel_rfl) (by intro v; kernel_rfl)
noncomputable def cut_law11_PoolSlots_l2 : Cut := { tms := [2, 7, 8, 9, 10, 11], sh := (.cons (.int .u8) (.cons .bool (.cons (.ptr 2000000 0) (.cons (.ptr 2000001 0) (.cons (.ptr 2000002 0) (.int .i64)))))), objs := [(2000000, [8], .box (.cons (.list T_api_Slot) (.list (.int .i64)))), (2000001, [9], .box (.cons (.list T_api_Pair) (.cons (.list .str) (.cons (.list (.int .i64)) (.cons (.list T_api_Sum) (.list T_api_Msg)))))), (2000002, [10], .box (.cons (.list T_api_Slot) (.cons (.int .i64) (.int .i64))))], sts := [] }
noncomputable def cut_law11_PoolSlots_l2_o0 : Cut := { tms := [6], sh := .bool, objs := [], sts := [] }
noncomputable def cut_law11_PoolSlots_l2_o1 : Cut := { tms := [2, 7, 8, 9, 10], sh := (.cons (.int .u8) (.cons .bool (.cons (.ptr 2000000 0) (.cons (.ptr 2000001 0) (.ptr 2000002 0))))), objs := [(2000000, [8], .box (.cons (.list T_api_Slot) (.list (.int .i64)))), (2000001, [9], .box (.cons (.list T_api_Pair) (.cons (.list .str) (.cons (.list (.int .i64)) (.cons (.list T_api_Sum) (.list T_api_Msg)))))), (2000002, [10], .box (.cons (.list T_api_Slot) (.cons (.int .i64) (.int .i64))))], sts := [] }
noncomputable def lp_law11_PoolSlots_l2 (N : Nat) : Lp := lpOf cut_law11_PoolSlots_l2 (1, cut_law11_PoolSlots_l2_o0) [(2, cut_law11_PoolSlots_l2_o1)] (fun v => law11_PoolSlots_l2 N N v.1.1 v.1.2.1 v.1.2.2.2.2.2 v.2.1.1 v.2.1.2 v.2.2.1.1 v.2.2.1.2.1 v.2.2.1.2.2.1 v.2.2.1.2.2.2.1 v.2.2.1.2.2.2.2 v.2.2.2.1.1 v.2.2.2.1.2.1 v.2.2.2.1.2.2)
noncomputable def lam_law11_PoolSlots_l2 (N : Nat) : Lps := fun p => bif Nat.beq p 260682 then some (lp_law11_PoolSlots_l4 N) else none
theorem lpok_law11_PoolSlots_l2 (N : Nat) (ro : Option Nat) : LpOk Try.prog 209 ro (lp_law11_PoolSlots_l2 N) (codeAt c_law11_PoolSlots [true, true, true, true, true, true, false, true, false]) := by
  rw [show (codeAt c_law11_PoolSlots [true, true, true, true, true, true, false, true, false]) = .loop (codeAt c_law11_PoolSlots [true, true, true, true, true, true, false, true, false, false]) by kernel_rfl]
  exact loop_ok (envok_law11_PoolSlots N) mixed (Λ := lam_law11_PoolSlots_l2 N) (p := 2036) (obs_ok (l := [(lp_law11_PoolSlots_l4 N, (codeAt c_law11_PoolSlots [true, true, true, true, true, true, false, true, false, false, true, false, false, true, false, true, false]))]) (by kernel_rfl) (obsCons (lpok_law11_PoolSlots_l4 N ro) obsNil)) (by kernel_rfl) (by intro rec v; kernel_rfl) N
noncomputable def cut_law11_PoolSlots_p1 : Cut := { tms := [2, 7, 8, 9, 10, 71], sh := (.cons (.int .u8) (.cons .bool (.cons (.ptr 2000000 0) (.cons (.ptr 2000001 0) (.cons (.ptr 2000002 0) .bool))))), objs := [(2000000, [8], .box (.cons (.list T_api_Slot) (.list (.int .i64)))), (2000001, [9], .box (.cons (.list T_api_Pair) (.cons (.list .str) (.cons (.list (.int .i64)) (.cons (.list T_api_Sum) (.list T_api_Msg)))))), (2000002, [10], .box (.cons (.list T_api_Slot) (.cons (.int .i64) (.int .i64))))], sts := [] }
noncomputable def cut_law11_PoolSlots_p1_o0 : Cut := { tms := [6], sh := .bool, objs := [], sts := [] }
noncomputable def cut_law11_PoolSlots_p1_o1 : Cut := { tms := [2, 7, 8, 9, 10], sh := (.cons (.int .u8) (.cons .bool (.cons (.ptr 2000000 0) (.cons (.ptr 2000001 0) (.ptr 2000002 0))))), objs := [(2000000, [8], .box (.cons (.list T_api_Slot) (.list (.int .i64)))), (2000001, [9], .box (.cons (.list T_api_Pair) (.cons (.list .str) (.cons (.list (.int .i64)) (.cons (.list T_api_Sum) (.list T_api_Msg)))))), (2000002, [10], .box (.cons (.list T_api_Slot) (.cons (.int .i64) (.int .i64))))], sts := [] }
noncomputable def lp_law11_PoolSlots_p1 (N : Nat) : Lp := lpOf cut_law11_PoolSlots_p1 (1, cut_law11_PoolSlots_p1_o0) [(0, cut_law11_PoolSlots_p1_o1)] (fun v => law11_PoolSlots_p1 N v.1.1 v.1.2.1 v.1.2.2.2.2.2 v.2.1.1 v.2.1.2 v.2.2.1.1 v.2.2.1.2.1 v.2.2.1.2.2.1 v.2.2.1.2.2.2.1 v.2.2.1.2.2.2.2 v.2.2.2.1.1 v.2.2.2.1.2.1 v.2.2.2.1.2.2)
noncomputable def lam_law11_PoolSlots_p1 (_ : Nat) : Lps := fun _ => none
theorem lpok_law11_PoolSlots_p1 (N : Nat) (ro : Option Nat) : LpOk Try.prog 209 ro (lp_law11_PoolSlots_p1 N) (codeAt c_law11_PoolSlots [true, true, true, true, true, false, true]) :=
  piece_ok (envok_law11_PoolSlots N) mixed (Λ := lam_law11_PoolSlots_p1 N) (p := 253) (obs_ok (l := []) (by kernel_rfl) obsNil) (by kernel_rfl) (by intro v; kernel_rfl)
noncomputable def cut_law11_PoolSlots_p0 : Cut := { tms := [2, 7, 8, 9, 10], sh := (.cons (.int .u8) (.cons .bool (.cons (.ptr 2000000 0) (.cons (.ptr 2000001 0) (.ptr 2000002 0))))), objs := [(2000000, [8], .box (.cons (.list T_api_Slot) (.list (.int .i64)))), (2000001, [9], .box (.cons (.list T_api_Pair) (.cons (.list .str) (.cons (.list (.int .i64)) (.cons (.list T_api_Sum) (.list T_api_Msg)))))), (2000002, [10], .box (.cons (.list T_api_Slot) (.cons (.int .i64) (.int .i64))))], sts := [] }
noncomputable def cut_law11_PoolSlots_p0_o0 : Cut := { tms := [6], sh := .bool, objs := [], sts := [] }
noncomputable def lp_law11_PoolSlots_p0 (N : Nat) : Lp := lpOf cut_law11_PoolSlots_p0 (1, cut_law11_PoolSlots_p0_o0) [] (fun v => law11_PoolSlots_p0 N v.1.1 v.1.2.1 v.2.1.1 v.2.1.2 v.2.2.1.1 v.2.2.1.2.1 v.2.2.1.2.2.1 v.2.2.1.2.2.2.1 v.2.2.1.2.2.2.2 v.2.2.2.1.1 v.2.2.2.1.2.1 v.2.2.2.1.2.2)
noncomputable def lam_law11_PoolSlots_p0 (N : Nat) : Lps := fun p => bif Nat.beq p 1018 then some (lp_law11_PoolSlots_l2 N) else bif Nat.beq p 1023 then some (lp_law11_PoolSlots_p3 N) else none
theorem lpok_law11_PoolSlots_p0 (N : Nat) (ro : Option Nat) : LpOk Try.prog 209 ro (lp_law11_PoolSlots_p0 N) (codeAt c_law11_PoolSlots [true, true, true, true, true, true]) :=
  piece_ok (envok_law11_PoolSlots N) mixed (Λ := lam_law11_PoolSlots_p0 N) (p := 127) (obs_ok (l := [(lp_law11_PoolSlots_l2 N, (codeAt c_law11_PoolSlots [true, true, true, true, true, true, false, true, false])), (lp_law11_PoolSlots_p3 N, (codeAt c_law11_PoolSlots [true, true, true, true, true, true, true, true, true]))]) (by kernel_rfl) (obsCons (lpok_law11_PoolSlots_l2 N ro) (obsCons (lpok_law11_PoolSlots_p3 N ro) obsNil))) (by kernel_rfl) (by intro v; kernel_rfl)
noncomputable def lam_law11_PoolSlots (N : Nat) : Lps := fun p => bif Nat.beq p 127 then some (lp_law11_PoolSlots_p0 N) else bif Nat.beq p 253 then some (lp_law11_PoolSlots_p1 N) else none
noncomputable def ctr_law11_PoolSlots (N : Nat) : Ctr := ctrOf (.cons (.list T_ref11_Raw) (.cons (.val T_ref11_Raw) (.int .u8))) .bool [] (fun v => law11_PoolSlots N v.1 v.2.1 v.2.2)
theorem sound_law11_PoolSlots (N : Nat) : SoundF Try.prog 9 (fun vs => (ctr_law11_PoolSlots N).run vs some) :=
  fn_sound (envok_law11_PoolSlots N) mixed (Λ := lam_law11_PoolSlots N) (fn := Try.f9) (c := c_law11_PoolSlots) Try.func9 (by kernel_rfl) (by kernel_rfl) (obs_ok (l := [(lp_law11_PoolSlots_p1 N, (codeAt c_law11_PoolSlots [true, true, true, true, true, false, true])), (lp_law11_PoolSlots_p0 N, (codeAt c_law11_PoolSlots [true, true, true, true, true, true]))]) (by kernel_rfl) (obsCons (lpok_law11_PoolSlots_p1 N none) (obsCons (lpok_law11_PoolSlots_p0 N none) obsNil))) (by kernel_rfl) (by intro v; kernel_rfl)

noncomputable def c_law11_PoolRefuses : Code := match Try.f10.body with | some c => c | none => .skip
noncomputable def tab_law11_PoolRefuses (N : Nat) : List (Nat × Ctr) := [(11, ctr_law11_sanity N), (12, ctr_ref11_Play N), (24, ctr_ref11_Used N), (23, ctr_law11_add N), (21, ctr_pool_Get N), (31, ctr_pool_Hold N), (19, ctr_pool_Drop N), (33, ctr_ref11_Same N)]
noncomputable def env_law11_PoolRefuses (N : Nat) : Env := mkEnv tyRows eqRows methRows [(18, [2000001]), (2000041, [39]), (2000144, [142])] [] (tab_law11_PoolRefuses N)
theorem envok_law11_PoolRefuses (N : Nat) : EnvOk Try.prog (env_law11_PoolRefuses N) := mkEnv_ok tyRows_ok eqRows_ok methRows_ok ⟨sound_law11_sanity N, ⟨sound_ref11_Play N, ⟨sound_ref11_Used N, ⟨sound_law11_add N, ⟨sound_pool_Get N, ⟨sound_pool_Hold N, ⟨sound_pool_Drop N, ⟨sound_ref11_Same N, trivial⟩⟩⟩⟩⟩⟩⟩⟩
noncomputable def cut_law11_PoolRefuses_l3 : Cut := { tms := [7, 17, 18], sh := (.cons .bool (.cons (.ptr 2000000 0) (.int .i64))), objs := [(2000000, [17], .box (.own 2000001)), (2000001, [17, 0], .sl T_api_Slot)], sts := [] }
noncomputable def cut_law11_PoolRefuses_l3_o0 : Cut := { tms := [7, 17], sh := (.cons .bool (.ptr 2000000 0)), objs := [(2000000, [17], .box (.own 2000001)), (2000001, [17, 0], .sl T_api_Slot)], sts := [] }
noncomputable def lp_law11_PoolRefuses_l3 (N : Nat) : Lp := lpOf cut_law11_PoolRefuses_l3 (2, cut_law11_PoolRefuses_l3_o0) [] (fun v => law11_PoolRefuses_l3 N N v.1.1 v.1.2.2 v.2.2.1)
noncomputable def lam_law11_PoolRefuses_l3 (_ : Nat) : Lps := fun _ => none
theorem lpok_law11_PoolRefuses_l3 (N : Nat) (ro : Option Nat) : LpOk Try.prog 151 ro (lp_law11_PoolRefuses_l3 N) (codeAt c_law11_PoolRefuses [true, true, true, true, true, true, true, true, true, true, true, false, true, false]) := by
  rw [show (codeAt c_law11_PoolRefuses [true, true, true, true, true, true, true, true, true, true, true, false, true, false]) = .loop (codeAt c_law11_PoolRefuses [true, true, true, true, true, true, true, true, true, true, true, false, true, false, false]) by kernel_rfl]
  exact loop_ok (envok_law11_PoolRefuses N) mixed (Λ := lam_law11_PoolRefuses_l3 N) (p := 65524) (obs_ok (l := []) (by kernel_rfl) obsNil) (by kernel_rfl) (by intro rec v; kernel_rfl) N
noncomputable def cut_law11_PoolRefuses_p2 : Cut := { tms := [2, 7, 104], sh := (.cons .bool (.cons .bool .bool)), objs := [], sts := [] }
noncomputable def cut_law11_PoolRefuses_p2_o0 : Cut := { tms := [6], sh := .bool, objs := [], sts := [] }
noncomputable def cut_law11_PoolRefuses_p2_o1 : Cut := { tms := [2, 7], sh := (.cons .bool .bool), objs := [], sts := [] }
noncomputable def lp_law11_PoolRefuses_p2 (N : Nat) : Lp := lpOf cut_law11_PoolRefuses_p2 (1, cut_law11_PoolRefuses_p2_o0) [(0, cut_law11_PoolRefuses_p2_o1)] (fun v => law11_PoolRefuses_p2 N v.1.1 v.1.2.1 v.1.2.2)
noncomputable def lam_law11_PoolRefuses_p2 (_ : Nat) : Lps := fun _ => none
theorem lpok_law11_PoolRefuses_p2 (N : Nat) (ro : Option Nat) : LpOk Try.prog 151 ro (lp_law11_PoolRefuses_p2 N) (codeAt c_law11_PoolRefuses [true, true, true, true, true, true, true, true, false, true]) :=
  piece_ok (envok_law11_PoolRefuses N) mixed (Λ := lam_law11_PoolRefuses_p2 N) (p := 2045) (obs_ok (l := []) (by kernel_rfl) obsNil) (by kernel_rfl) (by intro v; kernel_rfl)
noncomputable def cut_law11_PoolRefuses_p1 : Cut := { tms := [2, 7], sh := (.cons .bool .bool), objs := [], sts := [] }
noncomputable def cut_law11_PoolRefuses_p1_o0 : Cut := { tms := [6], sh := .bool, objs := [], sts := [] }
noncomputable def lp_law11_PoolRefuses_p1 (N : Nat) : Lp := lpOf cut_law11_PoolRefuses_p1 (1, cut_law11_PoolRefuses_p1_o0) [] (fun v => law11_PoolRefuses_p1 N v.1.1 v.1.2)
noncomputable def lam_law11_PoolRefuses_p1 (N : Nat) : Lps := fun p => bif Nat.beq p 32762 then some (lp_law11_PoolRefuses_l3 N) else none
theorem lpok_law11_PoolRefuses_p1 (N : Nat) (ro : Option Nat) : LpOk Try.prog 151 ro (lp_law11_PoolRefuses_p1 N) (codeAt c_law11_PoolRefuses [true, true, true, true, true, true, true, true, true]) :=
  piece_ok (envok_law11_PoolRefuses N) mixed (Λ := lam_law11_PoolRefuses_p1 N) (p := 1023) (obs_ok (l := [(lp_law11_PoolRefuses_l3 N, (codeAt c_law11_PoolRefuses [true, true, true, true, true, true, true, true, true, true, true, false, true, false]))]) (by kernel_rfl) (obsCons (lpok_law11_PoolRefuses_l3 N ro) obsNil)) (by kernel_rfl) (by intro v; kernel_rfl)
noncomputable def cut_law11_PoolRefuses_p0 : Cut := { tms := [2, 7, 8, 9], sh := (.cons .bool (.cons .bool (.cons (.ptr 2000000 0) (.int .i64)))), objs := [(2000000, [8], .box (.cons (.list T_api_Slot) (.list (.int .i64))))], sts := [] }
noncomputable def cut_law11_PoolRefuses_p0_o0 : Cut := { tms := [6], sh := .bool, objs := [], sts := [] }
noncomputable def lp_law11_PoolRefuses_p0 (N : Nat) : Lp := lpOf cut_law11_PoolRefuses_p0 (1, cut_law11_PoolRefuses_p0_o0) [] (fun v => law11_PoolRefuses_p0 N v.1.1 v.1.2.1 v.1.2.2.2 v.2.1.1 v.2.1.2)
noncomputable def lam_law11_PoolRefuses_p0 (N : Nat) : Lps := fun p => bif Nat.beq p 1023 then some (lp_law11_PoolRefuses_p1 N) else bif Nat.beq p 2045 then some (lp_law11_PoolRefuses_p2 N) else none
theorem lpok_law11_PoolRefuses_p0 (N : Nat) (ro : Option Nat) : LpOk Try.prog 151 ro (lp_law11_PoolRefuses_p0 N) (codeAt c_law11_PoolRefuses [true, true, true, true]) :=
  piece_ok (envok_law11_PoolRefuses N) mixed (Λ := lam_law11_PoolRefuses_p0 N) (p := 31) (obs_ok (l := [(lp_law11_PoolRefuses_p2 N, (codeAt c_law11_PoolRefuses [true, true, true, true, true, true, true, true, false, true])), (lp_law11_PoolRefuses_p1 N, (codeAt c_law11_PoolRefuses [true, true, true, true, true, true, true, true, true]))]) (by kernel_rfl) (obsCons (lpok_law11_PoolRefuses_p2 N ro) (obsCons (lpok_law11_PoolRefuses_p1 N ro) obsNil))) (by kernel_rfl) (by intro v; kernel_rfl)
noncomputable def lam_law11_PoolRefuses (N : Nat) : Lps := fun p => bif Nat.beq p 31 then some (lp_law11_PoolRefuses_p0 N) else none
noncomputable def ctr_law11_PoolRefuses (N : Nat) : Ctr := ctrOf (.cons (.list T_ref11_Raw) (.cons (.int .i16) .bool)) .bool [] (fun v => law11_PoolRefuses N v.1 v.2.1 v.2.2)
theorem sound_law11_PoolRefuses (N : Nat) : SoundF Try.prog 10 (fun vs => (ctr_law11_PoolRefuses N).run vs some) :=
  fn_sound (envok_law11_PoolRefuses N) mixed (Λ := lam_law11_PoolRefuses N) (fn := Try.f10) (c := c_law11_PoolRefuses) Try.func10 (by kernel_rfl) (by kernel_rfl) (obs_ok (l := [(lp_law11_PoolRefuses_p0 N, (codeAt c_law11_PoolRefuses [true, true, true, true]))]) (by kernel_rfl) (obsCons (lpok_law11_PoolRefuses_p0 N none) obsNil)) (by kernel_rfl) (by intro v; kernel_rfl)

end Go.Proofs.Ytobejbgkfmpoeaa
