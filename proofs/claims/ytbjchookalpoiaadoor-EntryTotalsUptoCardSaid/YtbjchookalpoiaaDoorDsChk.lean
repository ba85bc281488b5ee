/- Printed by a program of the session's: what the program's functions compute, and that they do. -/
import Derived.Test.YtbjchookalpoiaaDoorDsPure
import Derived.Test.YtbjchookalpoiaaDoorProg
import Derived.KernelRfl
set_option linter.all false
namespace Go.Proofs.YtbjchookalpoiaaDoor
open Go Go.Dv Ds
set_option maxRecDepth 100000

noncomputable instance : LTab := ⟨fun _ => ⟨#[], [], .skip, .skip, 0⟩⟩

noncomputable def tyRows : List (Nat × TI) := [
  (3, ⟨.int .i64, 1, 8, [.int .i64], some (.int .i64)⟩),
  (5, ⟨.int .u8, 1, 1, [.int .u8], some (.int .u8)⟩),
  (9, ⟨.str, 1, 16, [.str], some .str⟩),
  (23, ⟨.struct [(0, 3), (1, 3), (2, 3), (3, 3), (4, 3), (5, 9)], 6, 56, [.int .i64, .int .i64, .int .i64, .int .i64, .int .i64, .str], some T_api_Entry⟩),
  (24, ⟨.slice 27, 1, 24, [.slice], some (.list T_api_Pair)⟩),
  (27, ⟨.struct [(0, 9), (1, 9), (2, 3)], 3, 40, [.str, .str, .int .i64], some T_api_Pair⟩),
  (29, ⟨.struct [(0, 3), (1, 3)], 2, 16, [.int .i64, .int .i64], some T_api_Use⟩),
  (43, ⟨.slice 5, 1, 24, [.slice], some (.list (.int .u8))⟩),
  (47, ⟨.struct [(0, 9), (1, 3), (2, 3), (3, 9)], 4, 48, [.str, .int .i64, .int .i64, .str], some T_api_Place⟩),
  (58, ⟨.func, 1, 8, [.func], none⟩),
  (59, ⟨.func, 1, 8, [.func], none⟩),
  (61, ⟨.struct [(0, 58), (1, 59)], 2, 16, [.func, .func], none⟩),
  (62, ⟨.ptr, 1, 8, [.ptr], none⟩),
  (63, ⟨.arr 5 62, 5, 40, [.ptr, .ptr, .ptr, .ptr, .ptr], none⟩),
  (77, ⟨.struct [(0, 9)], 1, 16, [.str], some .str⟩),
  (79, ⟨.struct [(0, 77), (1, 47)], 5, 64, [.str, .str, .int .i64, .int .i64, .str], some T_path_place⟩)]
theorem tyRows_ok : (tyRows.all fun r => tiOk Tryd.prog r.1 r.2) = true := by kernel_rfl
theorem mixed : Tryd.prog.follows .mixedOrders = true := by kernel_rfl
noncomputable def eqRows : List (Nat × List Nat) := [(23, [0, 0, 0, 0, 0, 2]), (29, [0, 0]), (47, [2, 0, 0, 2])]
theorem eqRows_ok : (eqRows.all fun r => eqB Tryd.prog r.1 r.2) = true := by kernel_rfl
noncomputable def methRows : List (Nat × String × Nat) := []
theorem methRows_ok : MethOk Tryd.prog methRows := trivial

noncomputable def c_entry_Valid_c1 : Code := match Tryd.f29.body with | some c => c | none => .skip
noncomputable def tab_entry_Valid_c1 (_ : Nat) : List (Nat × Ctr) := []
noncomputable def env_entry_Valid_c1 (N : Nat) : Env := mkEnv tyRows eqRows methRows [] [] (tab_entry_Valid_c1 N)
theorem envok_entry_Valid_c1 (N : Nat) : EnvOk Tryd.prog (env_entry_Valid_c1 N) := mkEnv_ok tyRows_ok eqRows_ok methRows_ok trivial
noncomputable def lam_entry_Valid_c1 (_ : Nat) : Lps := fun _ => none
noncomputable def ctr_entry_Valid_c1 (N : Nat) : Ctr := ctrOf (.cons (.int .i64) (.int .i64)) .bool [] (fun v => entry_Valid_c1 N v.1 v.2)
theorem sound_entry_Valid_c1 (N : Nat) : SoundF Tryd.prog 29 (fun vs => (ctr_entry_Valid_c1 N).run vs some) :=
  fn_sound (envok_entry_Valid_c1 N) mixed (Λ := lam_entry_Valid_c1 N) (fn := Tryd.f29) (c := c_entry_Valid_c1) Tryd.func29 (by kernel_rfl) (by kernel_rfl) (obs_ok (l := []) (by kernel_rfl) obsNil) (by kernel_rfl) (by intro v; kernel_rfl)

noncomputable def c_entry_Valid_c2 : Code := match Tryd.f30.body with | some c => c | none => .skip
noncomputable def tab_entry_Valid_c2 (_ : Nat) : List (Nat × Ctr) := []
noncomputable def env_entry_Valid_c2 (N : Nat) : Env := mkEnv tyRows eqRows methRows [] [] (tab_entry_Valid_c2 N)
theorem envok_entry_Valid_c2 (N : Nat) : EnvOk Tryd.prog (env_entry_Valid_c2 N) := mkEnv_ok tyRows_ok eqRows_ok methRows_ok trivial
noncomputable def lam_entry_Valid_c2 (_ : Nat) : Lps := fun _ => none
noncomputable def ctr_entry_Valid_c2 (N : Nat) : Ctr := ctrOf (.int .i32) .bool [] (fun v => entry_Valid_c2 N v)
theorem sound_entry_Valid_c2 (N : Nat) : SoundF Tryd.prog 30 (fun vs => (ctr_entry_Valid_c2 N).run vs some) :=
  fn_sound (envok_entry_Valid_c2 N) mixed (Λ := lam_entry_Valid_c2 N) (fn := Tryd.f30) (c := c_entry_Valid_c2) Tryd.func30 (by kernel_rfl) (by kernel_rfl) (obs_ok (l := []) (by kernel_rfl) obsNil) (by kernel_rfl) (by intro v; kernel_rfl)

noncomputable def lay_strings_indexFunc__entry_Valid_c2_ren : Go.Shelf.Ren := ⟨fun | 315 => 57 | n => n, fun | 9 => 9 | 40 => 69 | 4 => 4 | 3 => 3 | 0 => 0 | 21 => 21 | n => n, fun n => n⟩
theorem lay_strings_indexFunc__entry_Valid_c2 : Go.Proofs.Lays.n315 Tryd.prog lay_strings_indexFunc__entry_Valid_c2_ren := {
  mixed := by kernel_rfl
  f315 := Tryd.func57.trans (congrArg some (by kernel_rfl))
  t0 := Tryd.underlying0
  a0 := Tryd.isAgg0
  z0 := Tryd.sizeOf0
  v0 := Tryd.zeroValue0
  t3 := Tryd.underlying3
  a3 := Tryd.isAgg3
  z3 := Tryd.sizeOf3
  v3 := Tryd.zeroValue3
  t4 := Tryd.underlying4
  a4 := Tryd.isAgg4
  z4 := Tryd.sizeOf4
  v4 := Tryd.zeroValue4
  t9 := Tryd.underlying9
  a9 := Tryd.isAgg9
  z9 := Tryd.sizeOf9
  v9 := Tryd.zeroValue9
  t21 := Tryd.underlying21
  a21 := Tryd.isAgg21
  z21 := Tryd.sizeOf21
  v21 := Tryd.zeroValue21
  t40 := Tryd.underlying69
  a40 := Tryd.isAgg69
  z40 := Tryd.sizeOf69
  v40 := Tryd.zeroValue69
  }
theorem tot_strings_indexFunc__entry_Valid_c2 (N : Nat) (r : Nat) : (entry_Valid_c2 N (r : Int)).isSome = true := by
  simp only [entry_Valid_c2, Bool.cond_eq_ite]
  (repeat' split) <;> rfl
noncomputable def c_strings_indexFunc__entry_Valid_c2 : Code := match Tryd.f57.body with | some c => c | none => .skip
noncomputable def cg_strings_indexFunc__entry_Valid_c2 : Code := match Tryd.f30.body with | some c => c | none => .skip
noncomputable def ctr_strings_indexFunc__entry_Valid_c2 (N : Nat) : Ctr := ctrOf (.cons .str (.cons (.clo 30 .nil) .bool)) (.int .i64) [] (fun v => strings_indexFunc__entry_Valid_c2 N v.1 v.2.2)
theorem sound_strings_indexFunc__entry_Valid_c2 (N : Nat) : SoundF Tryd.prog 57 (fun vs => (ctr_strings_indexFunc__entry_Valid_c2 N).run vs some) := by
  have e1 : lay_strings_indexFunc__entry_Valid_c2_ren.f 315 = 57 := by kernel_rfl
  have h := idxfunc_sound lay_strings_indexFunc__entry_Valid_c2 (g := 30) (F := entry_Valid_c2 N) (sound_entry_Valid_c2 N) (tot_strings_indexFunc__entry_Valid_c2 N) (fg := Tryd.f30) (cg := cg_strings_indexFunc__entry_Valid_c2) Tryd.func30 (by kernel_rfl) (by kernel_rfl) (fn := Tryd.f57) (c := c_strings_indexFunc__entry_Valid_c2) (by rw [e1]; exact Tryd.func57) (by kernel_rfl) (by kernel_rfl)
  rw [e1] at h
  exact h

noncomputable def c_strings_IndexFunc__entry_Valid_c2 : Code := match Tryd.f48.body with | some c => c | none => .skip
noncomputable def tab_strings_IndexFunc__entry_Valid_c2 (N : Nat) : List (Nat × Ctr) := [(57, ctr_strings_indexFunc__entry_Valid_c2 N)]
noncomputable def env_strings_IndexFunc__entry_Valid_c2 (N : Nat) : Env := mkEnv tyRows eqRows methRows [] [] (tab_strings_IndexFunc__entry_Valid_c2 N)
theorem envok_strings_IndexFunc__entry_Valid_c2 (N : Nat) : EnvOk Tryd.prog (env_strings_IndexFunc__entry_Valid_c2 N) := mkEnv_ok tyRows_ok eqRows_ok methRows_ok ⟨sound_strings_indexFunc__entry_Valid_c2 N, trivial⟩
noncomputable def lam_strings_IndexFunc__entry_Valid_c2 (_ : Nat) : Lps := fun _ => none
noncomputable def ctr_strings_IndexFunc__entry_Valid_c2 (N : Nat) : Ctr := ctrOf (.cons .str (.clo 30 .nil)) (.int .i64) [] (fun v => strings_IndexFunc__entry_Valid_c2 N v.1)
theorem sound_strings_IndexFunc__entry_Valid_c2 (N : Nat) : SoundF Tryd.prog 48 (fun vs => (ctr_strings_IndexFunc__entry_Valid_c2 N).run vs some) :=
  fn_sound (envok_strings_IndexFunc__entry_Valid_c2 N) mixed (Λ := lam_strings_IndexFunc__entry_Valid_c2 N) (fn := Tryd.f48) (c := c_strings_IndexFunc__entry_Valid_c2) Tryd.func48 (by kernel_rfl) (by kernel_rfl) (obs_ok (l := []) (by kernel_rfl) obsNil) (by kernel_rfl) (by intro v; kernel_rfl)

noncomputable def c_strings_ContainsFunc__entry_Valid_c2 : Code := match Tryd.f31.body with | some c => c | none => .skip
noncomputable def tab_strings_ContainsFunc__entry_Valid_c2 (N : Nat) : List (Nat × Ctr) := [(48, ctr_strings_IndexFunc__entry_Valid_c2 N)]
noncomputable def env_strings_ContainsFunc__entry_Valid_c2 (N : Nat) : Env := mkEnv tyRows eqRows methRows [] [] (tab_strings_ContainsFunc__entry_Valid_c2 N)
theorem envok_strings_ContainsFunc__entry_Valid_c2 (N : Nat) : EnvOk Tryd.prog (env_strings_ContainsFunc__entry_Valid_c2 N) := mkEnv_ok tyRows_ok eqRows_ok methRows_ok ⟨sound_strings_IndexFunc__entry_Valid_c2 N, trivial⟩
noncomputable def lam_strings_ContainsFunc__entry_Valid_c2 (_ : Nat) : Lps := fun _ => none
noncomputable def ctr_strings_ContainsFunc__entry_Valid_c2 (N : Nat) : Ctr := ctrOf (.cons .str (.clo 30 .nil)) .bool [] (fun v => strings_ContainsFunc__entry_Valid_c2 N v.1)
theorem sound_strings_ContainsFunc__entry_Valid_c2 (N : Nat) : SoundF Tryd.prog 31 (fun vs => (ctr_strings_ContainsFunc__entry_Valid_c2 N).run vs some) :=
  fn_sound (envok_strings_ContainsFunc__entry_Valid_c2 N) mixed (Λ := lam_strings_ContainsFunc__entry_Valid_c2 N) (fn := Tryd.f31) (c := c_strings_ContainsFunc__entry_Valid_c2) Tryd.func31 (by kernel_rfl) (by kernel_rfl) (obs_ok (l := []) (by kernel_rfl) obsNil) (by kernel_rfl) (by intro v; kernel_rfl)

noncomputable def c_entry_Valid : Code := match Tryd.f17.body with | some c => c | none => .skip
noncomputable def tab_entry_Valid (N : Nat) : List (Nat × Ctr) := [(29, ctr_entry_Valid_c1 N), (31, ctr_strings_ContainsFunc__entry_Valid_c2 N)]
noncomputable def env_entry_Valid (N : Nat) : Env := mkEnv tyRows eqRows methRows [] [] (tab_entry_Valid N)
theorem envok_entry_Valid (N : Nat) : EnvOk Tryd.prog (env_entry_Valid N) := mkEnv_ok tyRows_ok eqRows_ok methRows_ok ⟨sound_entry_Valid_c1 N, ⟨sound_strings_ContainsFunc__entry_Valid_c2 N, trivial⟩⟩
noncomputable def cut_entry_Valid_p0 : Cut := { tms := [1, 3, 4, 5], sh := (.cons (.ptr 2000000 0) (.cons (.clo 29 .nil) (.cons .bool (.ptr 2000001 0)))), objs := [(2000000, [1], .box (.cons (.int .i64) (.cons (.int .i64) (.cons (.int .i64) (.cons (.int .i64) (.cons (.int .i64) .str)))))), (2000001, [5], .box (.cons (.int .i64) (.cons (.int .i64) (.cons (.int .i64) (.cons (.int .i64) (.cons (.int .i64) .str))))))], sts := [] }
noncomputable def cut_entry_Valid_p0_o0 : Cut := { tms := [2], sh := .bool, objs := [], sts := [] }
noncomputable def lp_entry_Valid_p0 (N : Nat) : Lp := lpOf cut_entry_Valid_p0 (1, cut_entry_Valid_p0_o0) [] (fun v => entry_Valid_p0 N v.1.2.2.1 v.2.1.1 v.2.1.2.1 v.2.1.2.2.1 v.2.1.2.2.2.1 v.2.1.2.2.2.2.1 v.2.1.2.2.2.2.2 v.2.2.1.1 v.2.2.1.2.1 v.2.2.1.2.2.1 v.2.2.1.2.2.2.1 v.2.2.1.2.2.2.2.1 v.2.2.1.2.2.2.2.2)
noncomputable def lam_entry_Valid_p0 (_ : Nat) : Lps := fun _ => none
theorem lpok_entry_Valid_p0 (N : Nat) (ro : Option Nat) : LpOk Tryd.prog 76 ro (lp_entry_Valid_p0 N) (codeAt c_entry_Valid [true, true, true, true, true]) :=
  piece_ok (envok_entry_Valid N) mixed (Λ := lam_entry_Valid_p0 N) (p := 63) (obs_ok (l := []) (by kernel_rfl) obsNil) (by kernel_rfl) (by intro v; kernel_rfl)
noncomputable def lam_entry_Valid (N : Nat) : Lps := fun p => bif Nat.beq p 63 then some (lp_entry_Valid_p0 N) else none
noncomputable def ctr_entry_Valid (N : Nat) : Ctr := ctrOf (.val T_api_Entry) .bool [] (fun v => entry_Valid N v)
theorem sound_entry_Valid (N : Nat) : SoundF Tryd.prog 17 (fun vs => (ctr_entry_Valid N).run vs some) :=
  fn_sound (envok_entry_Valid N) mixed (Λ := lam_entry_Valid N) (fn := Tryd.f17) (c := c_entry_Valid) Tryd.func17 (by kernel_rfl) (by kernel_rfl) (obs_ok (l := [(lp_entry_Valid_p0 N, (codeAt c_entry_Valid [true, true, true, true, true]))]) (by kernel_rfl) (obsCons (lpok_entry_Valid_p0 N none) obsNil)) (by kernel_rfl) (by intro v; kernel_rfl)

noncomputable def c_entry_kinds : Code := match Tryd.f26.body with | some c => c | none => .skip
noncomputable def tab_entry_kinds (_ : Nat) : List (Nat × Ctr) := []
noncomputable def env_entry_kinds (N : Nat) : Env := mkEnv tyRows eqRows methRows [(endKey, [2, 4, 6, 8])] [] (tab_entry_kinds N)
theorem envok_entry_kinds (N : Nat) : EnvOk Tryd.prog (env_entry_kinds N) := mkEnv_ok tyRows_ok eqRows_ok methRows_ok trivial
noncomputable def lam_entry_kinds (_ : Nat) : Lps := fun _ => none
noncomputable def ctr_entry_kinds (N : Nat) : Ctr := ctrOf .nil (.agg (.cons .nilp (.cons (.bx (.cons (.clo 38 .nil) (.clo 39 .nil)) 0) (.cons (.bx (.cons (.clo 40 .nil) (.clo 42 .nil)) 0) (.cons (.bx (.cons (.clo 44 .nil) (.clo 45 .nil)) 0) (.bx (.cons (.clo 46 .nil) (.clo 47 .nil)) 0)))))) [] (fun _ => entry_kinds N)
theorem sound_entry_kinds (N : Nat) : SoundF Tryd.prog 26 (fun vs => (ctr_entry_kinds N).run vs some) :=
  fn_sound (envok_entry_kinds N) mixed (Λ := lam_entry_kinds N) (fn := Tryd.f26) (c := c_entry_kinds) Tryd.func26 (by kernel_rfl) (by kernel_rfl) (obs_ok (l := []) (by kernel_rfl) obsNil) (by kernel_rfl) (by intro v; kernel_rfl)

noncomputable def c_entry_number : Code := match Tryd.f41.body with | some c => c | none => .skip
noncomputable def tab_entry_number (_ : Nat) : List (Nat × Ctr) := []
noncomputable def env_entry_number (N : Nat) : Env := mkEnv tyRows eqRows methRows [] [] (tab_entry_number N)
theorem envok_entry_number (N : Nat) : EnvOk Tryd.prog (env_entry_number N) := mkEnv_ok tyRows_ok eqRows_ok methRows_ok trivial
noncomputable def cut_entry_number_l0 : Cut := { tms := [0, 1, 5, 10, 11], sh := (.cons (.int .i64) (.cons (.int .i64) (.cons (.own 2000000) (.cons (.int .i64) (.int .i64))))), objs := [(2000000, [5], .sl (.int .u8))], sts := [] }
noncomputable def cut_entry_number_l0_o0 : Cut := { tms := [5], sh := (.own 2000000), objs := [(2000000, [5], .sl (.int .u8))], sts := [] }
noncomputable def lp_entry_number_l0 (N : Nat) : Lp := lpOf cut_entry_number_l0 (2, cut_entry_number_l0_o0) [] (fun v => entry_number_l0 N N v.1.1 v.1.2.1 v.1.2.2.2.1 v.1.2.2.2.2 v.2.1)
noncomputable def lam_entry_number_l0 (_ : Nat) : Lps := fun _ => none
theorem lpok_entry_number_l0 (N : Nat) (ro : Option Nat) : LpOk Tryd.prog 28 ro (lp_entry_number_l0 N) (codeAt c_entry_number [true, true, false, true, false]) := by
  rw [show (codeAt c_entry_number [true, true, false, true, false]) = .loop (codeAt c_entry_number [true, true, false, true, false, false]) by kernel_rfl]
  exact loop_ok (envok_entry_number N) mixed (Λ := lam_entry_number_l0 N) (p := 116) (obs_ok (l := []) (by kernel_rfl) obsNil) (by kernel_rfl) (by intro rec v; kernel_rfl) N
noncomputable def lam_entry_number (N : Nat) : Lps := fun p => bif Nat.beq p 58 then some (lp_entry_number_l0 N) else none
noncomputable def ctr_entry_number (N : Nat) : Ctr := ctrOf (.cons (.int .i64) (.int .i64)) .str [] (fun v => entry_number N v.1 v.2)
theorem sound_entry_number (N : Nat) : SoundF Tryd.prog 41 (fun vs => (ctr_entry_number N).run vs some) :=
  fn_sound (envok_entry_number N) mixed (Λ := lam_entry_number N) (fn := Tryd.f41) (c := c_entry_number) Tryd.func41 (by kernel_rfl) (by kernel_rfl) (obs_ok (l := [(lp_entry_number_l0 N, (codeAt c_entry_number [true, true, false, true, false]))]) (by kernel_rfl) (obsCons (lpok_entry_number_l0 N none) obsNil)) (by kernel_rfl) (by intro v; kernel_rfl)

noncomputable def c_entry_kinds_c7 : Code := match Tryd.f46.body with | some c => c | none => .skip
noncomputable def tab_entry_kinds_c7 (N : Nat) : List (Nat × Ctr) := [(41, ctr_entry_number N)]
noncomputable def env_entry_kinds_c7 (N : Nat) : Env := mkEnv tyRows eqRows methRows [] [] (tab_entry_kinds_c7 N)
theorem envok_entry_kinds_c7 (N : Nat) : EnvOk Tryd.prog (env_entry_kinds_c7 N) := mkEnv_ok tyRows_ok eqRows_ok methRows_ok ⟨sound_entry_number N, trivial⟩
noncomputable def lam_entry_kinds_c7 (_ : Nat) : Lps := fun _ => none
noncomputable def ctr_entry_kinds_c7 (N : Nat) : Ctr := ctrOf (.val T_api_Entry) .str [] (fun v => entry_kinds_c7 N v)
theorem sound_entry_kinds_c7 (N : Nat) : SoundF Tryd.prog 46 (fun vs => (ctr_entry_kinds_c7 N).run vs some) :=
  fn_sound (envok_entry_kinds_c7 N) mixed (Λ := lam_entry_kinds_c7 N) (fn := Tryd.f46) (c := c_entry_kinds_c7) Tryd.func46 (by kernel_rfl) (by kernel_rfl) (obs_ok (l := []) (by kernel_rfl) obsNil) (by kernel_rfl) (by intro v; kernel_rfl)

noncomputable def c_entry_kinds_c5 : Code := match Tryd.f44.body with | some c => c | none => .skip
noncomputable def tab_entry_kinds_c5 (_ : Nat) : List (Nat × Ctr) := []
noncomputable def env_entry_kinds_c5 (N : Nat) : Env := mkEnv tyRows eqRows methRows [] [] (tab_entry_kinds_c5 N)
theorem envok_entry_kinds_c5 (N : Nat) : EnvOk Tryd.prog (env_entry_kinds_c5 N) := mkEnv_ok tyRows_ok eqRows_ok methRows_ok trivial
noncomputable def lam_entry_kinds_c5 (_ : Nat) : Lps := fun _ => none
noncomputable def ctr_entry_kinds_c5 (N : Nat) : Ctr := ctrOf (.val T_api_Entry) .str [] (fun v => entry_kinds_c5 N v)
theorem sound_entry_kinds_c5 (N : Nat) : SoundF Tryd.prog 44 (fun vs => (ctr_entry_kinds_c5 N).run vs some) :=
  fn_sound (envok_entry_kinds_c5 N) mixed (Λ := lam_entry_kinds_c5 N) (fn := Tryd.f44) (c := c_entry_kinds_c5) Tryd.func44 (by kernel_rfl) (by kernel_rfl) (obs_ok (l := []) (by kernel_rfl) obsNil) (by kernel_rfl) (by intro v; kernel_rfl)

noncomputable def c_entry_kinds_c3 : Code := match Tryd.f40.body with | some c => c | none => .skip
noncomputable def tab_entry_kinds_c3 (N : Nat) : List (Nat × Ctr) := [(41, ctr_entry_number N)]
noncomputable def env_entry_kinds_c3 (N : Nat) : Env := mkEnv tyRows eqRows methRows [] [] (tab_entry_kinds_c3 N)
theorem envok_entry_kinds_c3 (N : Nat) : EnvOk Tryd.prog (env_entry_kinds_c3 N) := mkEnv_ok tyRows_ok eqRows_ok methRows_ok ⟨sound_entry_number N, trivial⟩
noncomputable def lam_entry_kinds_c3 (_ : Nat) : Lps := fun _ => none
noncomputable def ctr_entry_kinds_c3 (N : Nat) : Ctr := ctrOf (.val T_api_Entry) .str [] (fun v => entry_kinds_c3 N v)
theorem sound_entry_kinds_c3 (N : Nat) : SoundF Tryd.prog 40 (fun vs => (ctr_entry_kinds_c3 N).run vs some) :=
  fn_sound (envok_entry_kinds_c3 N) mixed (Λ := lam_entry_kinds_c3 N) (fn := Tryd.f40) (c := c_entry_kinds_c3) Tryd.func40 (by kernel_rfl) (by kernel_rfl) (obs_ok (l := []) (by kernel_rfl) obsNil) (by kernel_rfl) (by intro v; kernel_rfl)

noncomputable def c_entry_kinds_c1 : Code := match Tryd.f38.body with | some c => c | none => .skip
noncomputable def tab_entry_kinds_c1 (_ : Nat) : List (Nat × Ctr) := []
noncomputable def env_entry_kinds_c1 (N : Nat) : Env := mkEnv tyRows eqRows methRows [] [] (tab_entry_kinds_c1 N)
theorem envok_entry_kinds_c1 (N : Nat) : EnvOk Tryd.prog (env_entry_kinds_c1 N) := mkEnv_ok tyRows_ok eqRows_ok methRows_ok trivial
noncomputable def lam_entry_kinds_c1 (_ : Nat) : Lps := fun _ => none
noncomputable def ctr_entry_kinds_c1 (N : Nat) : Ctr := ctrOf (.val T_api_Entry) .str [] (fun v => entry_kinds_c1 N v)
theorem sound_entry_kinds_c1 (N : Nat) : SoundF Tryd.prog 38 (fun vs => (ctr_entry_kinds_c1 N).run vs some) :=
  fn_sound (envok_entry_kinds_c1 N) mixed (Λ := lam_entry_kinds_c1 N) (fn := Tryd.f38) (c := c_entry_kinds_c1) Tryd.func38 (by kernel_rfl) (by kernel_rfl) (obs_ok (l := []) (by kernel_rfl) obsNil) (by kernel_rfl) (by intro v; kernel_rfl)

noncomputable def c_entry_Encode : Code := match Tryd.f13.body with | some c => c | none => .skip
noncomputable def tab_entry_Encode (N : Nat) : List (Nat × Ctr) := [(17, ctr_entry_Valid N), (26, ctr_entry_kinds N), (46, ctr_entry_kinds_c7 N), (44, ctr_entry_kinds_c5 N), (40, ctr_entry_kinds_c3 N), (38, ctr_entry_kinds_c1 N)]
noncomputable def env_entry_Encode (N : Nat) : Env := mkEnv tyRows eqRows methRows [] [] (tab_entry_Encode N)
theorem envok_entry_Encode (N : Nat) : EnvOk Tryd.prog (env_entry_Encode N) := mkEnv_ok tyRows_ok eqRows_ok methRows_ok ⟨sound_entry_Valid N, ⟨sound_entry_kinds N, ⟨sound_entry_kinds_c7 N, ⟨sound_entry_kinds_c5 N, ⟨sound_entry_kinds_c3 N, ⟨sound_entry_kinds_c1 N, trivial⟩⟩⟩⟩⟩⟩
noncomputable def lam_entry_Encode (_ : Nat) : Lps := fun _ => none
noncomputable def ctr_entry_Encode (N : Nat) : Ctr := ctrOf (.val T_api_Entry) (.tup (.cons .str (.int .i64))) [] (fun v => entry_Encode N v)
theorem sound_entry_Encode (N : Nat) : SoundF Tryd.prog 13 (fun vs => (ctr_entry_Encode N).run vs some) :=
  fn_sound (envok_entry_Encode N) mixed (Λ := lam_entry_Encode N) (fn := Tryd.f13) (c := c_entry_Encode) Tryd.func13 (by kernel_rfl) (by kernel_rfl) (obs_ok (l := []) (by kernel_rfl) obsNil) (by kernel_rfl) (by intro v; kernel_rfl)

noncomputable def c_entry_value : Code := match Tryd.f43.body with | some c => c | none => .skip
noncomputable def tab_entry_value (_ : Nat) : List (Nat × Ctr) := []
noncomputable def env_entry_value (N : Nat) : Env := mkEnv tyRows eqRows methRows [] [] (tab_entry_value N)
theorem envok_entry_value (N : Nat) : EnvOk Tryd.prog (env_entry_value N) := mkEnv_ok tyRows_ok eqRows_ok methRows_ok trivial
noncomputable def cut_entry_value_l0 : Cut := { tms := [0, 3, 6, 7], sh := (.cons .str (.cons (.int .i64) (.cons (.int .i64) (.int .i64)))), objs := [], sts := [] }
noncomputable def cut_entry_value_l0_o0 : Cut := { tms := [3], sh := (.int .i64), objs := [], sts := [] }
noncomputable def lp_entry_value_l0 (N : Nat) : Lp := lpOf cut_entry_value_l0 (2, cut_entry_value_l0_o0) [] (fun v => entry_value_l0 N N v.1.1 v.1.2.1 v.1.2.2.1 v.1.2.2.2)
noncomputable def lam_entry_value_l0 (_ : Nat) : Lps := fun _ => none
theorem lpok_entry_value_l0 (N : Nat) (ro : Option Nat) : LpOk Tryd.prog 19 ro (lp_entry_value_l0 N) (codeAt c_entry_value [true, true, false, true, false]) := by
  rw [show (codeAt c_entry_value [true, true, false, true, false]) = .loop (codeAt c_entry_value [true, true, false, true, false, false]) by kernel_rfl]
  exact loop_ok (envok_entry_value N) mixed (Λ := lam_entry_value_l0 N) (p := 116) (obs_ok (l := []) (by kernel_rfl) obsNil) (by kernel_rfl) (by intro rec v; kernel_rfl) N
noncomputable def lam_entry_value (N : Nat) : Lps := fun p => bif Nat.beq p 58 then some (lp_entry_value_l0 N) else none
noncomputable def ctr_entry_value (N : Nat) : Ctr := ctrOf .str (.int .i64) [] (fun v => entry_value N v)
theorem sound_entry_value (N : Nat) : SoundF Tryd.prog 43 (fun vs => (ctr_entry_value N).run vs some) :=
  fn_sound (envok_entry_value N) mixed (Λ := lam_entry_value N) (fn := Tryd.f43) (c := c_entry_value) Tryd.func43 (by kernel_rfl) (by kernel_rfl) (obs_ok (l := [(lp_entry_value_l0 N, (codeAt c_entry_value [true, true, false, true, false]))]) (by kernel_rfl) (obsCons (lpok_entry_value_l0 N none) obsNil)) (by kernel_rfl) (by intro v; kernel_rfl)

noncomputable def c_entry_kinds_c8_m : Code := match Tryd.f47.body with | some c => c | none => .skip
noncomputable def tab_entry_kinds_c8_m (N : Nat) : List (Nat × Ctr) := [(43, ctr_entry_value N)]
noncomputable def env_entry_kinds_c8_m (N : Nat) : Env := mkEnv tyRows eqRows methRows [] [] (tab_entry_kinds_c8_m N)
theorem envok_entry_kinds_c8_m (N : Nat) : EnvOk Tryd.prog (env_entry_kinds_c8_m N) := mkEnv_ok tyRows_ok eqRows_ok methRows_ok ⟨sound_entry_value N, trivial⟩
noncomputable def lam_entry_kinds_c8_m (_ : Nat) : Lps := fun _ => none
noncomputable def cut_entry_kinds_c8_m_in : Cut := { tms := [0, 1], sh := (.cons (.ptr 5000000 0) .str), objs := [(5000000, [0], .box (.cons (.int .i64) (.cons (.int .i64) (.cons (.int .i64) (.cons (.int .i64) (.cons (.int .i64) .str))))))], sts := [] }
noncomputable def cut_entry_kinds_c8_m_out0 : Cut := { tms := [0], sh := .bool, objs := [(5000000, [5000000], .box (.cons (.int .i64) (.cons (.int .i64) (.cons (.int .i64) (.cons (.int .i64) (.cons (.int .i64) .str))))))], sts := [] }
noncomputable def ctr_entry_kinds_c8_m (N : Nat) : CtrM := ctrM cut_entry_kinds_c8_m_in cut_entry_kinds_c8_m_out0 [] (fun v => entry_kinds_c8_m N v.1.2 v.2.1.1 v.2.1.2.1 v.2.1.2.2.1 v.2.1.2.2.2.1 v.2.1.2.2.2.2.1 v.2.1.2.2.2.2.2)
theorem sound_entry_kinds_c8_m (N : Nat) : SoundM Tryd.prog 47 (ctr_entry_kinds_c8_m N) :=
  fnM_sound (envok_entry_kinds_c8_m N) mixed (Λ := lam_entry_kinds_c8_m N) (fn := Tryd.f47) (c := c_entry_kinds_c8_m) Tryd.func47 (by kernel_rfl) (by kernel_rfl) (obs_ok (l := []) (by kernel_rfl) obsNil) (by kernel_rfl) (by intro v; kernel_rfl)

noncomputable def c_entry_kinds_c6_m : Code := match Tryd.f45.body with | some c => c | none => .skip
noncomputable def tab_entry_kinds_c6_m (_ : Nat) : List (Nat × Ctr) := []
noncomputable def env_entry_kinds_c6_m (N : Nat) : Env := mkEnv tyRows eqRows methRows [] [] (tab_entry_kinds_c6_m N)
theorem envok_entry_kinds_c6_m (N : Nat) : EnvOk Tryd.prog (env_entry_kinds_c6_m N) := mkEnv_ok tyRows_ok eqRows_ok methRows_ok trivial
noncomputable def lam_entry_kinds_c6_m (_ : Nat) : Lps := fun _ => none
noncomputable def cut_entry_kinds_c6_m_in : Cut := { tms := [0, 1], sh := (.cons (.ptr 5000000 0) .str), objs := [(5000000, [0], .box (.cons (.int .i64) (.cons (.int .i64) (.cons (.int .i64) (.cons (.int .i64) (.cons (.int .i64) .str))))))], sts := [] }
noncomputable def cut_entry_kinds_c6_m_out0 : Cut := { tms := [0], sh := .bool, objs := [(5000000, [5000000], .box (.cons (.int .i64) (.cons (.int .i64) (.cons (.int .i64) (.cons (.int .i64) (.cons (.int .i64) .str))))))], sts := [] }
noncomputable def ctr_entry_kinds_c6_m (N : Nat) : CtrM := ctrM cut_entry_kinds_c6_m_in cut_entry_kinds_c6_m_out0 [] (fun v => entry_kinds_c6_m N v.1.2 v.2.1.1 v.2.1.2.1 v.2.1.2.2.1 v.2.1.2.2.2.1 v.2.1.2.2.2.2.1 v.2.1.2.2.2.2.2)
theorem sound_entry_kinds_c6_m (N : Nat) : SoundM Tryd.prog 45 (ctr_entry_kinds_c6_m N) :=
  fnM_sound (envok_entry_kinds_c6_m N) mixed (Λ := lam_entry_kinds_c6_m N) (fn := Tryd.f45) (c := c_entry_kinds_c6_m) Tryd.func45 (by kernel_rfl) (by kernel_rfl) (obs_ok (l := []) (by kernel_rfl) obsNil) (by kernel_rfl) (by intro v; kernel_rfl)

noncomputable def c_entry_kinds_c4_m : Code := match Tryd.f42.body with | some c => c | none => .skip
noncomputable def tab_entry_kinds_c4_m (N : Nat) : List (Nat × Ctr) := [(43, ctr_entry_value N)]
noncomputable def env_entry_kinds_c4_m (N : Nat) : Env := mkEnv tyRows eqRows methRows [] [] (tab_entry_kinds_c4_m N)
theorem envok_entry_kinds_c4_m (N : Nat) : EnvOk Tryd.prog (env_entry_kinds_c4_m N) := mkEnv_ok tyRows_ok eqRows_ok methRows_ok ⟨sound_entry_value N, trivial⟩
noncomputable def lam_entry_kinds_c4_m (_ : Nat) : Lps := fun _ => none
noncomputable def cut_entry_kinds_c4_m_in : Cut := { tms := [0, 1], sh := (.cons (.ptr 5000000 0) .str), objs := [(5000000, [0], .box (.cons (.int .i64) (.cons (.int .i64) (.cons (.int .i64) (.cons (.int .i64) (.cons (.int .i64) .str))))))], sts := [] }
noncomputable def cut_entry_kinds_c4_m_out0 : Cut := { tms := [0], sh := .bool, objs := [(5000000, [5000000], .box (.cons (.int .i64) (.cons (.int .i64) (.cons (.int .i64) (.cons (.int .i64) (.cons (.int .i64) .str))))))], sts := [] }
noncomputable def ctr_entry_kinds_c4_m (N : Nat) : CtrM := ctrM cut_entry_kinds_c4_m_in cut_entry_kinds_c4_m_out0 [] (fun v => entry_kinds_c4_m N v.1.2 v.2.1.1 v.2.1.2.1 v.2.1.2.2.1 v.2.1.2.2.2.1 v.2.1.2.2.2.2.1 v.2.1.2.2.2.2.2)
theorem sound_entry_kinds_c4_m (N : Nat) : SoundM Tryd.prog 42 (ctr_entry_kinds_c4_m N) :=
  fnM_sound (envok_entry_kinds_c4_m N) mixed (Λ := lam_entry_kinds_c4_m N) (fn := Tryd.f42) (c := c_entry_kinds_c4_m) Tryd.func42 (by kernel_rfl) (by kernel_rfl) (obs_ok (l := []) (by kernel_rfl) obsNil) (by kernel_rfl) (by intro v; kernel_rfl)

noncomputable def c_entry_kinds_c2_m : Code := match Tryd.f39.body with | some c => c | none => .skip
noncomputable def tab_entry_kinds_c2_m (_ : Nat) : List (Nat × Ctr) := []
noncomputable def env_entry_kinds_c2_m (N : Nat) : Env := mkEnv tyRows eqRows methRows [] [] (tab_entry_kinds_c2_m N)
theorem envok_entry_kinds_c2_m (N : Nat) : EnvOk Tryd.prog (env_entry_kinds_c2_m N) := mkEnv_ok tyRows_ok eqRows_ok methRows_ok trivial
noncomputable def lam_entry_kinds_c2_m (_ : Nat) : Lps := fun _ => none
noncomputable def cut_entry_kinds_c2_m_in : Cut := { tms := [0, 1], sh := (.cons (.ptr 5000000 0) .str), objs := [(5000000, [0], .box (.cons (.int .i64) (.cons (.int .i64) (.cons (.int .i64) (.cons (.int .i64) (.cons (.int .i64) .str))))))], sts := [] }
noncomputable def cut_entry_kinds_c2_m_out0 : Cut := { tms := [0], sh := .bool, objs := [(5000000, [5000000], .box (.cons (.int .i64) (.cons (.int .i64) (.cons (.int .i64) (.cons (.int .i64) (.cons (.int .i64) .str))))))], sts := [] }
noncomputable def ctr_entry_kinds_c2_m (N : Nat) : CtrM := ctrM cut_entry_kinds_c2_m_in cut_entry_kinds_c2_m_out0 [] (fun v => entry_kinds_c2_m N v.1.2 v.2.1.1 v.2.1.2.1 v.2.1.2.2.1 v.2.1.2.2.2.1 v.2.1.2.2.2.2.1 v.2.1.2.2.2.2.2)
theorem sound_entry_kinds_c2_m (N : Nat) : SoundM Tryd.prog 39 (ctr_entry_kinds_c2_m N) :=
  fnM_sound (envok_entry_kinds_c2_m N) mixed (Λ := lam_entry_kinds_c2_m N) (fn := Tryd.f39) (c := c_entry_kinds_c2_m) Tryd.func39 (by kernel_rfl) (by kernel_rfl) (obs_ok (l := []) (by kernel_rfl) obsNil) (by kernel_rfl) (by intro v; kernel_rfl)

noncomputable def c_entry_Decode : Code := match Tryd.f15.body with | some c => c | none => .skip
noncomputable def tab_entry_Decode (N : Nat) : List (Nat × Ctr) := [(26, ctr_entry_kinds N), (17, ctr_entry_Valid N)]
noncomputable def tabm_entry_Decode (N : Nat) : List (Nat × CtrM) := [(47, ctr_entry_kinds_c8_m N), (45, ctr_entry_kinds_c6_m N), (42, ctr_entry_kinds_c4_m N), (39, ctr_entry_kinds_c2_m N)]
noncomputable def env_entry_Decode (N : Nat) : Env := mkEnv tyRows eqRows methRows [] [34] (tab_entry_Decode N) (tabm_entry_Decode N)
theorem envok_entry_Decode (N : Nat) : EnvOk Tryd.prog (env_entry_Decode N) := mkEnv_ok tyRows_ok eqRows_ok methRows_ok ⟨sound_entry_kinds N, ⟨sound_entry_Valid N, trivial⟩⟩ ⟨sound_entry_kinds_c8_m N, ⟨sound_entry_kinds_c6_m N, ⟨sound_entry_kinds_c4_m N, ⟨sound_entry_kinds_c2_m N, trivial⟩⟩⟩⟩
noncomputable def cut_entry_Decode_p0 : Cut := { tms := [2, 4, 41], sh := (.cons (.ptr 2000000 0) (.cons (.ptr 2000001 0) .bool)), objs := [(2000000, [2], .box (.cons (.int .i64) (.cons (.int .i64) (.cons (.int .i64) (.cons (.int .i64) (.cons (.int .i64) .str)))))), (2000001, [4], .box (.cons (.int .i64) (.cons (.int .i64) (.cons (.int .i64) (.cons (.int .i64) (.cons (.int .i64) .str))))))], sts := [] }
noncomputable def cut_entry_Decode_p0_o0 : Cut := { tms := [2, 3], sh := (.cons (.ptr 2000000 0) (.int .i64)), objs := [(2000000, [2], .box (.cons (.int .i64) (.cons (.int .i64) (.cons (.int .i64) (.cons (.int .i64) (.cons (.int .i64) .str))))))], sts := [] }
noncomputable def cut_entry_Decode_p0_o1 : Cut := { tms := [2, 4], sh := (.cons (.ptr 2000000 0) (.ptr 2000001 0)), objs := [(2000000, [2], .box (.cons (.int .i64) (.cons (.int .i64) (.cons (.int .i64) (.cons (.int .i64) (.cons (.int .i64) .str)))))), (2000001, [4], .box (.cons (.int .i64) (.cons (.int .i64) (.cons (.int .i64) (.cons (.int .i64) (.cons (.int .i64) .str))))))], sts := [] }
noncomputable def lp_entry_Decode_p0 (N : Nat) : Lp := lpOf cut_entry_Decode_p0 (1, cut_entry_Decode_p0_o0) [(0, cut_entry_Decode_p0_o1)] (fun v => entry_Decode_p0 N v.1.2.2 v.2.1.1 v.2.1.2.1 v.2.1.2.2.1 v.2.1.2.2.2.1 v.2.1.2.2.2.2.1 v.2.1.2.2.2.2.2 v.2.2.1.1 v.2.2.1.2.1 v.2.2.1.2.2.1 v.2.2.1.2.2.2.1 v.2.2.1.2.2.2.2.1 v.2.2.1.2.2.2.2.2)
noncomputable def lam_entry_Decode_p0 (_ : Nat) : Lps := fun _ => none
theorem lpok_entry_Decode_p0 (N : Nat) (ro : Option Nat) : LpOk Tryd.prog 44 ro (lp_entry_Decode_p0 N) (codeAt c_entry_Decode [true, true, true, false, true]) :=
  piece_ok (envok_entry_Decode N) mixed (Λ := lam_entry_Decode_p0 N) (p := 61) (obs_ok (l := []) (by kernel_rfl) obsNil) (by kernel_rfl) (by intro v; kernel_rfl)
noncomputable def lam_entry_Decode (N : Nat) : Lps := fun p => bif Nat.beq p 61 then some (lp_entry_Decode_p0 N) else none
noncomputable def ctr_entry_Decode (N : Nat) : Ctr := ctrOf .str (.tup (.cons (.val T_api_Entry) (.int .i64))) [] (fun v => entry_Decode N v)
theorem sound_entry_Decode (N : Nat) : SoundF Tryd.prog 15 (fun vs => (ctr_entry_Decode N).run vs some) :=
  fn_sound (envok_entry_Decode N) mixed (Λ := lam_entry_Decode N) (fn := Tryd.f15) (c := c_entry_Decode) Tryd.func15 (by kernel_rfl) (by kernel_rfl) (obs_ok (l := [(lp_entry_Decode_p0 N, (codeAt c_entry_Decode [true, true, true, false, true]))]) (by kernel_rfl) (obsCons (lpok_entry_Decode_p0 N none) obsNil)) (by kernel_rfl) (by intro v; kernel_rfl)

noncomputable def c_stringslite_HasPrefix : Code := match Tryd.f64.body with | some c => c | none => .skip
noncomputable def tab_stringslite_HasPrefix (_ : Nat) : List (Nat × Ctr) := []
noncomputable def env_stringslite_HasPrefix (N : Nat) : Env := mkEnv tyRows eqRows methRows [] [] (tab_stringslite_HasPrefix N)
theorem envok_stringslite_HasPrefix (N : Nat) : EnvOk Tryd.prog (env_stringslite_HasPrefix N) := mkEnv_ok tyRows_ok eqRows_ok methRows_ok trivial
noncomputable def lam_stringslite_HasPrefix (_ : Nat) : Lps := fun _ => none
noncomputable def ctr_stringslite_HasPrefix (N : Nat) : Ctr := ctrOf (.cons .str .str) .bool [] (fun v => stringslite_HasPrefix N v.1 v.2)
theorem sound_stringslite_HasPrefix (N : Nat) : SoundF Tryd.prog 64 (fun vs => (ctr_stringslite_HasPrefix N).run vs some) :=
  fn_sound (envok_stringslite_HasPrefix N) mixed (Λ := lam_stringslite_HasPrefix N) (fn := Tryd.f64) (c := c_stringslite_HasPrefix) Tryd.func64 (by kernel_rfl) (by kernel_rfl) (obs_ok (l := []) (by kernel_rfl) obsNil) (by kernel_rfl) (by intro v; kernel_rfl)

noncomputable def c_stringslite_CutPrefix : Code := match Tryd.f59.body with | some c => c | none => .skip
noncomputable def tab_stringslite_CutPrefix (N : Nat) : List (Nat × Ctr) := [(64, ctr_stringslite_HasPrefix N)]
noncomputable def env_stringslite_CutPrefix (N : Nat) : Env := mkEnv tyRows eqRows methRows [] [] (tab_stringslite_CutPrefix N)
theorem envok_stringslite_CutPrefix (N : Nat) : EnvOk Tryd.prog (env_stringslite_CutPrefix N) := mkEnv_ok tyRows_ok eqRows_ok methRows_ok ⟨sound_stringslite_HasPrefix N, trivial⟩
noncomputable def lam_stringslite_CutPrefix (_ : Nat) : Lps := fun _ => none
noncomputable def ctr_stringslite_CutPrefix (N : Nat) : Ctr := ctrOf (.cons .str .str) (.tup (.cons .str .bool)) [] (fun v => stringslite_CutPrefix N v.1 v.2)
theorem sound_stringslite_CutPrefix (N : Nat) : SoundF Tryd.prog 59 (fun vs => (ctr_stringslite_CutPrefix N).run vs some) :=
  fn_sound (envok_stringslite_CutPrefix N) mixed (Λ := lam_stringslite_CutPrefix N) (fn := Tryd.f59) (c := c_stringslite_CutPrefix) Tryd.func59 (by kernel_rfl) (by kernel_rfl) (obs_ok (l := []) (by kernel_rfl) obsNil) (by kernel_rfl) (by intro v; kernel_rfl)

noncomputable def c_strings_CutPrefix : Code := match Tryd.f52.body with | some c => c | none => .skip
noncomputable def tab_strings_CutPrefix (N : Nat) : List (Nat × Ctr) := [(59, ctr_stringslite_CutPrefix N)]
noncomputable def env_strings_CutPrefix (N : Nat) : Env := mkEnv tyRows eqRows methRows [] [] (tab_strings_CutPrefix N)
theorem envok_strings_CutPrefix (N : Nat) : EnvOk Tryd.prog (env_strings_CutPrefix N) := mkEnv_ok tyRows_ok eqRows_ok methRows_ok ⟨sound_stringslite_CutPrefix N, trivial⟩
noncomputable def lam_strings_CutPrefix (_ : Nat) : Lps := fun _ => none
noncomputable def ctr_strings_CutPrefix (N : Nat) : Ctr := ctrOf (.cons .str .str) (.tup (.cons .str .bool)) [] (fun v => strings_CutPrefix N v.1 v.2)
theorem sound_strings_CutPrefix (N : Nat) : SoundF Tryd.prog 52 (fun vs => (ctr_strings_CutPrefix N).run vs some) :=
  fn_sound (envok_strings_CutPrefix N) mixed (Λ := lam_strings_CutPrefix N) (fn := Tryd.f52) (c := c_strings_CutPrefix) Tryd.func52 (by kernel_rfl) (by kernel_rfl) (obs_ok (l := []) (by kernel_rfl) obsNil) (by kernel_rfl) (by intro v; kernel_rfl)

noncomputable def lay_strings_IndexAny_ren : Go.Shelf.Ren := ⟨fun | 153 => 60 | 152 => 65 | 226 => 66 | 227 => 67 | 228 => 68 | 137 => 76 | 119 => 77 | 224 => 78 | 225 => 79 | 217 => 84 | 266 => 88 | n => n, fun | 9 => 9 | 3 => 3 | 4 => 4 | 5 => 5 | 21 => 21 | 117 => 100 | 116 => 99 | 0 => 0 | 46 => 73 | 124 => 105 | n => n, fun n => n⟩
theorem lay_strings_IndexAny : Go.Proofs.Lays.n153 Tryd.prog lay_strings_IndexAny_ren := {
  mixed := by kernel_rfl
  f119 := Tryd.func77.trans (congrArg some (by kernel_rfl))
  f137 := Tryd.func76.trans (congrArg some (by kernel_rfl))
  f152 := Tryd.func65.trans (congrArg some (by kernel_rfl))
  f153 := Tryd.func60.trans (congrArg some (by kernel_rfl))
  f217 := Tryd.func84.trans (congrArg some (by kernel_rfl))
  f224 := Tryd.func78.trans (congrArg some (by kernel_rfl))
  f225 := Tryd.func79.trans (congrArg some (by kernel_rfl))
  f226 := Tryd.func66.trans (congrArg some (by kernel_rfl))
  f227 := Tryd.func67.trans (congrArg some (by kernel_rfl))
  f228 := Tryd.func68.trans (congrArg some (by kernel_rfl))
  f266 := Tryd.func88.trans (congrArg some (by kernel_rfl))
  t0 := Tryd.underlying0
  a0 := Tryd.isAgg0
  z0 := Tryd.sizeOf0
  v0 := Tryd.zeroValue0
  t3 := Tryd.underlying3
  a3 := Tryd.isAgg3
  z3 := Tryd.sizeOf3
  v3 := Tryd.zeroValue3
  t4 := Tryd.underlying4
  a4 := Tryd.isAgg4
  z4 := Tryd.sizeOf4
  v4 := Tryd.zeroValue4
  t5 := Tryd.underlying5
  a5 := Tryd.isAgg5
  z5 := Tryd.sizeOf5
  v5 := Tryd.zeroValue5
  t9 := Tryd.underlying9
  a9 := Tryd.isAgg9
  z9 := Tryd.sizeOf9
  v9 := Tryd.zeroValue9
  t21 := Tryd.underlying21
  a21 := Tryd.isAgg21
  z21 := Tryd.sizeOf21
  v21 := Tryd.zeroValue21
  t46 := Tryd.underlying73
  a46 := Tryd.isAgg73
  z46 := Tryd.sizeOf73
  v46 := Tryd.zeroValue73
  t116 := Tryd.underlying99
  a116 := Tryd.isAgg99
  z116 := Tryd.sizeOf99
  t117 := Tryd.underlying100
  a117 := Tryd.isAgg100
  z117 := Tryd.sizeOf100
  v117 := Tryd.zeroValue100
  t124 := Tryd.underlying105
  a124 := Tryd.isAgg105
  z124 := Tryd.sizeOf105
  v124 := Tryd.zeroValue105
  }
noncomputable def c_strings_IndexAny : Code := match Tryd.f60.body with | some c => c | none => .skip
noncomputable def ctr_strings_IndexAny (N : Nat) : Ctr := ctrOf (.cons .str .str) (.int .i64) [] (fun v => strings_IndexAny N v.1 v.2)
theorem sound_strings_IndexAny (N : Nat) : SoundF Tryd.prog 60 (fun vs => (ctr_strings_IndexAny N).run vs some) := by
  have e1 : lay_strings_IndexAny_ren.f 153 = 60 := by kernel_rfl
  have h := any_sound lay_strings_IndexAny (by kernel_rfl) (fn := Tryd.f60) (c := c_strings_IndexAny) (by rw [e1]; exact Tryd.func60) (by kernel_rfl) (by kernel_rfl)
  rw [e1] at h
  exact h

noncomputable def c_path_rest_upTo_m : Code := match Tryd.f53.body with | some c => c | none => .skip
noncomputable def tab_path_rest_upTo_m (N : Nat) : List (Nat × Ctr) := [(60, ctr_strings_IndexAny N)]
noncomputable def env_path_rest_upTo_m (N : Nat) : Env := mkEnv tyRows eqRows methRows [] [] (tab_path_rest_upTo_m N)
theorem envok_path_rest_upTo_m (N : Nat) : EnvOk Tryd.prog (env_path_rest_upTo_m N) := mkEnv_ok tyRows_ok eqRows_ok methRows_ok ⟨sound_strings_IndexAny N, trivial⟩
noncomputable def lam_path_rest_upTo_m (_ : Nat) : Lps := fun _ => none
noncomputable def cut_path_rest_upTo_m_in : Cut := { tms := [0], sh := (.ptr 5000000 0), objs := [(5000000, [0], .box (.cons .str (.cons .str (.cons (.int .i64) (.cons (.int .i64) .str)))))], sts := [] }
noncomputable def cut_path_rest_upTo_m_out0 : Cut := { tms := [0], sh := (.tup (.cons .str (.int .u8))), objs := [(5000000, [5000000], .box (.cons .str (.cons .str (.cons (.int .i64) (.cons (.int .i64) .str)))))], sts := [] }
noncomputable def ctr_path_rest_upTo_m (N : Nat) : CtrM := ctrM cut_path_rest_upTo_m_in cut_path_rest_upTo_m_out0 [] (fun v => path_rest_upTo_m N v.2.1.1 v.2.1.2.1 v.2.1.2.2.1 v.2.1.2.2.2.1 v.2.1.2.2.2.2)
theorem sound_path_rest_upTo_m (N : Nat) : SoundM Tryd.prog 53 (ctr_path_rest_upTo_m N) :=
  fnM_sound (envok_path_rest_upTo_m N) mixed (Λ := lam_path_rest_upTo_m N) (fn := Tryd.f53) (c := c_path_rest_upTo_m) Tryd.func53 (by kernel_rfl) (by kernel_rfl) (obs_ok (l := []) (by kernel_rfl) obsNil) (by kernel_rfl) (by intro v; kernel_rfl)

noncomputable def c_path_place_read_m : Code := match Tryd.f35.body with | some c => c | none => .skip
noncomputable def tab_path_place_read_m (N : Nat) : List (Nat × Ctr) := [(52, ctr_strings_CutPrefix N)]
noncomputable def tabm_path_place_read_m (N : Nat) : List (Nat × CtrM) := [(53, ctr_path_rest_upTo_m N)]
noncomputable def env_path_place_read_m (N : Nat) : Env := mkEnv tyRows eqRows methRows [] [24] (tab_path_place_read_m N) (tabm_path_place_read_m N)
theorem envok_path_place_read_m (N : Nat) : EnvOk Tryd.prog (env_path_place_read_m N) := mkEnv_ok tyRows_ok eqRows_ok methRows_ok ⟨sound_strings_CutPrefix N, trivial⟩ ⟨sound_path_rest_upTo_m N, trivial⟩
noncomputable def cut_path_place_read_m_p0 : Cut := { tms := [0, 5, 38], sh := (.cons (.ptr 5000000 0) (.cons (.int .u8) .bool)), objs := [(5000000, [5000000], .box (.cons .str (.cons .str (.cons (.int .i64) (.cons (.int .i64) .str)))))], sts := [] }
noncomputable def cut_path_place_read_m_p0_o0 : Cut := { tms := [], sh := .nil, objs := [(5000000, [5000000], .box (.cons .str (.cons .str (.cons (.int .i64) (.cons (.int .i64) .str)))))], sts := [] }
noncomputable def lp_path_place_read_m_p0 (N : Nat) : Lp := lpOf cut_path_place_read_m_p0 (0, cut_path_place_read_m_p0_o0) [] (fun v => path_place_read_m_p0 N v.1.2.1 v.1.2.2 v.2.1.1 v.2.1.2.1 v.2.1.2.2.1 v.2.1.2.2.2.1 v.2.1.2.2.2.2)
noncomputable def lam_path_place_read_m_p0 (_ : Nat) : Lps := fun _ => none
theorem lpok_path_place_read_m_p0 (N : Nat) (ro : Option Nat) : LpOk Tryd.prog 92 ro (lp_path_place_read_m_p0 N) (codeAt c_path_place_read_m [true, true, true, true, false, true]) :=
  piece_ok (envok_path_place_read_m N) mixed (Λ := lam_path_place_read_m_p0 N) (p := 125) (obs_ok (l := []) (by kernel_rfl) obsNil) (by kernel_rfl) (by intro v; kernel_rfl)
noncomputable def lam_path_place_read_m (N : Nat) : Lps := fun p => bif Nat.beq p 125 then some (lp_path_place_read_m_p0 N) else none
noncomputable def cut_path_place_read_m_in : Cut := { tms := [0], sh := (.ptr 5000000 0), objs := [(5000000, [0], .box (.cons .str (.cons .str (.cons (.int .i64) (.cons (.int .i64) .str)))))], sts := [] }
noncomputable def cut_path_place_read_m_out0 : Cut := { tms := [0], sh := (.tup .nil), objs := [(5000000, [5000000], .box (.cons .str (.cons .str (.cons (.int .i64) (.cons (.int .i64) .str)))))], sts := [] }
noncomputable def ctr_path_place_read_m (N : Nat) : CtrM := ctrM cut_path_place_read_m_in cut_path_place_read_m_out0 [] (fun v => path_place_read_m N v.2.1.1 v.2.1.2.1 v.2.1.2.2.1 v.2.1.2.2.2.1 v.2.1.2.2.2.2)
theorem sound_path_place_read_m (N : Nat) : SoundM Tryd.prog 35 (ctr_path_place_read_m N) :=
  fnM_sound (envok_path_place_read_m N) mixed (Λ := lam_path_place_read_m N) (fn := Tryd.f35) (c := c_path_place_read_m) Tryd.func35 (by kernel_rfl) (by kernel_rfl) (obs_ok (l := [(lp_path_place_read_m_p0 N, (codeAt c_path_place_read_m [true, true, true, true, false, true]))]) (by kernel_rfl) (obsCons (lpok_path_place_read_m_p0 N none) obsNil)) (by kernel_rfl) (by intro v; kernel_rfl)

noncomputable def lay_stringslite_IndexByte_ren : Go.Shelf.Ren := ⟨fun | 217 => 84 | 266 => 88 | n => n, fun | 9 => 9 | 5 => 5 | 3 => 3 | n => n, fun n => n⟩
theorem lay_stringslite_IndexByte : Go.Proofs.Lays.n217 Tryd.prog lay_stringslite_IndexByte_ren := {
  mixed := by kernel_rfl
  f217 := Tryd.func84.trans (congrArg some (by kernel_rfl))
  f266 := Tryd.func88.trans (congrArg some (by kernel_rfl))
  t3 := Tryd.underlying3
  a3 := Tryd.isAgg3
  z3 := Tryd.sizeOf3
  v3 := Tryd.zeroValue3
  t5 := Tryd.underlying5
  a5 := Tryd.isAgg5
  z5 := Tryd.sizeOf5
  v5 := Tryd.zeroValue5
  t9 := Tryd.underlying9
  a9 := Tryd.isAgg9
  z9 := Tryd.sizeOf9
  v9 := Tryd.zeroValue9
  }
noncomputable def c_stringslite_IndexByte : Code := match Tryd.f84.body with | some c => c | none => .skip
noncomputable def ctr_stringslite_IndexByte (N : Nat) : Ctr := ctrOf (.cons .str (.int .u8)) (.int .i64) [] (fun v => stringslite_IndexByte N v.1 v.2)
theorem sound_stringslite_IndexByte (N : Nat) : SoundF Tryd.prog 84 (fun vs => (ctr_stringslite_IndexByte N).run vs some) := by
  have e1 : lay_stringslite_IndexByte_ren.f 217 = 84 := by kernel_rfl
  have h := idxb_sound lay_stringslite_IndexByte (fn := Tryd.f84) (c := c_stringslite_IndexByte) (by rw [e1]; exact Tryd.func84) (by kernel_rfl) (by kernel_rfl)
  rw [e1] at h
  exact h

noncomputable def c_stringslite_Index : Code := match Tryd.f80.body with | some c => c | none => .skip
noncomputable def tab_stringslite_Index (N : Nat) : List (Nat × Ctr) := [(84, ctr_stringslite_IndexByte N)]
noncomputable def env_stringslite_Index (N : Nat) : Env := mkEnv tyRows eqRows methRows [] [] (tab_stringslite_Index N)
theorem envok_stringslite_Index (N : Nat) : EnvOk Tryd.prog (env_stringslite_Index N) := mkEnv_ok tyRows_ok eqRows_ok methRows_ok ⟨sound_stringslite_IndexByte N, trivial⟩
noncomputable def lam_stringslite_Index (_ : Nat) : Lps := fun _ => none
noncomputable def ctr_stringslite_Index (N : Nat) : Ctr := ctrOf (.cons .str .str) (.int .i64) [] (fun v => stringslite_Index N v.1 v.2)
theorem sound_stringslite_Index (N : Nat) : SoundF Tryd.prog 80 (fun vs => (ctr_stringslite_Index N).run vs some) :=
  fn_sound (envok_stringslite_Index N) mixed (Λ := lam_stringslite_Index N) (fn := Tryd.f80) (c := c_stringslite_Index) Tryd.func80 (by kernel_rfl) (by kernel_rfl) (obs_ok (l := []) (by kernel_rfl) obsNil) (by kernel_rfl) (by intro v; kernel_rfl)

noncomputable def c_stringslite_Cut : Code := match Tryd.f69.body with | some c => c | none => .skip
noncomputable def tab_stringslite_Cut (N : Nat) : List (Nat × Ctr) := [(80, ctr_stringslite_Index N)]
noncomputable def env_stringslite_Cut (N : Nat) : Env := mkEnv tyRows eqRows methRows [] [] (tab_stringslite_Cut N)
theorem envok_stringslite_Cut (N : Nat) : EnvOk Tryd.prog (env_stringslite_Cut N) := mkEnv_ok tyRows_ok eqRows_ok methRows_ok ⟨sound_stringslite_Index N, trivial⟩
noncomputable def lam_stringslite_Cut (_ : Nat) : Lps := fun _ => none
noncomputable def ctr_stringslite_Cut (N : Nat) : Ctr := ctrOf (.cons .str .str) (.tup (.cons .str (.cons .str .bool))) [] (fun v => stringslite_Cut N v.1 v.2)
theorem sound_stringslite_Cut (N : Nat) : SoundF Tryd.prog 69 (fun vs => (ctr_stringslite_Cut N).run vs some) :=
  fn_sound (envok_stringslite_Cut N) mixed (Λ := lam_stringslite_Cut N) (fn := Tryd.f69) (c := c_stringslite_Cut) Tryd.func69 (by kernel_rfl) (by kernel_rfl) (obs_ok (l := []) (by kernel_rfl) obsNil) (by kernel_rfl) (by intro v; kernel_rfl)

noncomputable def c_strings_Cut : Code := match Tryd.f61.body with | some c => c | none => .skip
noncomputable def tab_strings_Cut (N : Nat) : List (Nat × Ctr) := [(69, ctr_stringslite_Cut N)]
noncomputable def env_strings_Cut (N : Nat) : Env := mkEnv tyRows eqRows methRows [] [] (tab_strings_Cut N)
theorem envok_strings_Cut (N : Nat) : EnvOk Tryd.prog (env_strings_Cut N) := mkEnv_ok tyRows_ok eqRows_ok methRows_ok ⟨sound_stringslite_Cut N, trivial⟩
noncomputable def lam_strings_Cut (_ : Nat) : Lps := fun _ => none
noncomputable def ctr_strings_Cut (N : Nat) : Ctr := ctrOf (.cons .str .str) (.tup (.cons .str (.cons .str .bool))) [] (fun v => strings_Cut N v.1 v.2)
theorem sound_strings_Cut (N : Nat) : SoundF Tryd.prog 61 (fun vs => (ctr_strings_Cut N).run vs some) :=
  fn_sound (envok_strings_Cut N) mixed (Λ := lam_strings_Cut N) (fn := Tryd.f61) (c := c_strings_Cut) Tryd.func61 (by kernel_rfl) (by kernel_rfl) (obs_ok (l := []) (by kernel_rfl) obsNil) (by kernel_rfl) (by intro v; kernel_rfl)

noncomputable def c_path_isName_c1 : Code := match Tryd.f63.body with | some c => c | none => .skip
noncomputable def tab_path_isName_c1 (_ : Nat) : List (Nat × Ctr) := []
noncomputable def env_path_isName_c1 (N : Nat) : Env := mkEnv tyRows eqRows methRows [] [] (tab_path_isName_c1 N)
theorem envok_path_isName_c1 (N : Nat) : EnvOk Tryd.prog (env_path_isName_c1 N) := mkEnv_ok tyRows_ok eqRows_ok methRows_ok trivial
noncomputable def lam_path_isName_c1 (_ : Nat) : Lps := fun _ => none
noncomputable def ctr_path_isName_c1 (N : Nat) : Ctr := ctrOf (.int .i32) .bool [] (fun v => path_isName_c1 N v)
theorem sound_path_isName_c1 (N : Nat) : SoundF Tryd.prog 63 (fun vs => (ctr_path_isName_c1 N).run vs some) :=
  fn_sound (envok_path_isName_c1 N) mixed (Λ := lam_path_isName_c1 N) (fn := Tryd.f63) (c := c_path_isName_c1) Tryd.func63 (by kernel_rfl) (by kernel_rfl) (obs_ok (l := []) (by kernel_rfl) obsNil) (by kernel_rfl) (by intro v; kernel_rfl)

noncomputable def lay_strings_indexFunc__path_isName_c1_ren : Go.Shelf.Ren := ⟨fun | 315 => 57 | n => n, fun | 9 => 9 | 40 => 69 | 4 => 4 | 3 => 3 | 0 => 0 | 21 => 21 | n => n, fun n => n⟩
theorem lay_strings_indexFunc__path_isName_c1 : Go.Proofs.Lays.n315 Tryd.prog lay_strings_indexFunc__path_isName_c1_ren := {
  mixed := by kernel_rfl
  f315 := Tryd.func57.trans (congrArg some (by kernel_rfl))
  t0 := Tryd.underlying0
  a0 := Tryd.isAgg0
  z0 := Tryd.sizeOf0
  v0 := Tryd.zeroValue0
  t3 := Tryd.underlying3
  a3 := Tryd.isAgg3
  z3 := Tryd.sizeOf3
  v3 := Tryd.zeroValue3
  t4 := Tryd.underlying4
  a4 := Tryd.isAgg4
  z4 := Tryd.sizeOf4
  v4 := Tryd.zeroValue4
  t9 := Tryd.underlying9
  a9 := Tryd.isAgg9
  z9 := Tryd.sizeOf9
  v9 := Tryd.zeroValue9
  t21 := Tryd.underlying21
  a21 := Tryd.isAgg21
  z21 := Tryd.sizeOf21
  v21 := Tryd.zeroValue21
  t40 := Tryd.underlying69
  a40 := Tryd.isAgg69
  z40 := Tryd.sizeOf69
  v40 := Tryd.zeroValue69
  }
theorem tot_strings_indexFunc__path_isName_c1 (N : Nat) (r : Nat) : (path_isName_c1 N (r : Int)).isSome = true := by
  simp only [path_isName_c1, Bool.cond_eq_ite]
  (repeat' split) <;> rfl
noncomputable def c_strings_indexFunc__path_isName_c1 : Code := match Tryd.f57.body with | some c => c | none => .skip
noncomputable def cg_strings_indexFunc__path_isName_c1 : Code := match Tryd.f63.body with | some c => c | none => .skip
noncomputable def ctr_strings_indexFunc__path_isName_c1 (N : Nat) : Ctr := ctrOf (.cons .str (.cons (.clo 63 .nil) .bool)) (.int .i64) [] (fun v => strings_indexFunc__path_isName_c1 N v.1 v.2.2)
theorem sound_strings_indexFunc__path_isName_c1 (N : Nat) : SoundF Tryd.prog 57 (fun vs => (ctr_strings_indexFunc__path_isName_c1 N).run vs some) := by
  have e1 : lay_strings_indexFunc__path_isName_c1_ren.f 315 = 57 := by kernel_rfl
  have h := idxfunc_sound lay_strings_indexFunc__path_isName_c1 (g := 63) (F := path_isName_c1 N) (sound_path_isName_c1 N) (tot_strings_indexFunc__path_isName_c1 N) (fg := Tryd.f63) (cg := cg_strings_indexFunc__path_isName_c1) Tryd.func63 (by kernel_rfl) (by kernel_rfl) (fn := Tryd.f57) (c := c_strings_indexFunc__path_isName_c1) (by rw [e1]; exact Tryd.func57) (by kernel_rfl) (by kernel_rfl)
  rw [e1] at h
  exact h

noncomputable def c_strings_IndexFunc__path_isName_c1 : Code := match Tryd.f48.body with | some c => c | none => .skip
noncomputable def tab_strings_IndexFunc__path_isName_c1 (N : Nat) : List (Nat × Ctr) := [(57, ctr_strings_indexFunc__path_isName_c1 N)]
noncomputable def env_strings_IndexFunc__path_isName_c1 (N : Nat) : Env := mkEnv tyRows eqRows methRows [] [] (tab_strings_IndexFunc__path_isName_c1 N)
theorem envok_strings_IndexFunc__path_isName_c1 (N : Nat) : EnvOk Tryd.prog (env_strings_IndexFunc__path_isName_c1 N) := mkEnv_ok tyRows_ok eqRows_ok methRows_ok ⟨sound_strings_indexFunc__path_isName_c1 N, trivial⟩
noncomputable def lam_strings_IndexFunc__path_isName_c1 (_ : Nat) : Lps := fun _ => none
noncomputable def ctr_strings_IndexFunc__path_isName_c1 (N : Nat) : Ctr := ctrOf (.cons .str (.clo 63 .nil)) (.int .i64) [] (fun v => strings_IndexFunc__path_isName_c1 N v.1)
theorem sound_strings_IndexFunc__path_isName_c1 (N : Nat) : SoundF Tryd.prog 48 (fun vs => (ctr_strings_IndexFunc__path_isName_c1 N).run vs some) :=
  fn_sound (envok_strings_IndexFunc__path_isName_c1 N) mixed (Λ := lam_strings_IndexFunc__path_isName_c1 N) (fn := Tryd.f48) (c := c_strings_IndexFunc__path_isName_c1) Tryd.func48 (by kernel_rfl) (by kernel_rfl) (obs_ok (l := []) (by kernel_rfl) obsNil) (by kernel_rfl) (by intro v; kernel_rfl)

noncomputable def c_path_isName : Code := match Tryd.f56.body with | some c => c | none => .skip
noncomputable def tab_path_isName (N : Nat) : List (Nat × Ctr) := [(48, ctr_strings_IndexFunc__path_isName_c1 N)]
noncomputable def env_path_isName (N : Nat) : Env := mkEnv tyRows eqRows methRows [] [] (tab_path_isName N)
theorem envok_path_isName (N : Nat) : EnvOk Tryd.prog (env_path_isName N) := mkEnv_ok tyRows_ok eqRows_ok methRows_ok ⟨sound_strings_IndexFunc__path_isName_c1 N, trivial⟩
noncomputable def lam_path_isName (_ : Nat) : Lps := fun _ => none
noncomputable def ctr_path_isName (N : Nat) : Ctr := ctrOf .str .bool [] (fun v => path_isName N v)
theorem sound_path_isName (N : Nat) : SoundF Tryd.prog 56 (fun vs => (ctr_path_isName N).run vs some) :=
  fn_sound (envok_path_isName N) mixed (Λ := lam_path_isName N) (fn := Tryd.f56) (c := c_path_isName) Tryd.func56 (by kernel_rfl) (by kernel_rfl) (obs_ok (l := []) (by kernel_rfl) obsNil) (by kernel_rfl) (by intro v; kernel_rfl)

noncomputable def c_path_Valid : Code := match Tryd.f54.body with | some c => c | none => .skip
noncomputable def tab_path_Valid (N : Nat) : List (Nat × Ctr) := [(61, ctr_strings_Cut N), (56, ctr_path_isName N)]
noncomputable def env_path_Valid (N : Nat) : Env := mkEnv tyRows eqRows methRows [] [] (tab_path_Valid N)
theorem envok_path_Valid (N : Nat) : EnvOk Tryd.prog (env_path_Valid N) := mkEnv_ok tyRows_ok eqRows_ok methRows_ok ⟨sound_strings_Cut N, ⟨sound_path_isName N, trivial⟩⟩
noncomputable def cut_path_Valid_l0 : Cut := { tms := [0], sh := .str, objs := [], sts := [] }
noncomputable def cut_path_Valid_l0_o0 : Cut := { tms := [2], sh := .bool, objs := [], sts := [] }
noncomputable def cut_path_Valid_l0_o1 : Cut := { tms := [], sh := .nil, objs := [], sts := [] }
noncomputable def lp_path_Valid_l0 (N : Nat) : Lp := lpOf cut_path_Valid_l0 (1, cut_path_Valid_l0_o0) [(2, cut_path_Valid_l0_o1)] (fun v => path_Valid_l0 N N v.1)
noncomputable def lam_path_Valid_l0 (_ : Nat) : Lps := fun _ => none
theorem lpok_path_Valid_l0 (N : Nat) (ro : Option Nat) : LpOk Tryd.prog 22 ro (lp_path_Valid_l0 N) (codeAt c_path_Valid [true, false, false]) := by
  rw [show (codeAt c_path_Valid [true, false, false]) = .loop (codeAt c_path_Valid [true, false, false, false]) by kernel_rfl]
  exact loop_ok (envok_path_Valid N) mixed (Λ := lam_path_Valid_l0 N) (p := 24) (obs_ok (l := []) (by kernel_rfl) obsNil) (by kernel_rfl) (by intro rec v; kernel_rfl) N
noncomputable def lam_path_Valid (N : Nat) : Lps := fun p => bif Nat.beq p 12 then some (lp_path_Valid_l0 N) else none
noncomputable def ctr_path_Valid (N : Nat) : Ctr := ctrOf .str .bool [] (fun v => path_Valid N v)
theorem sound_path_Valid (N : Nat) : SoundF Tryd.prog 54 (fun vs => (ctr_path_Valid N).run vs some) :=
  fn_sound (envok_path_Valid N) mixed (Λ := lam_path_Valid N) (fn := Tryd.f54) (c := c_path_Valid) Tryd.func54 (by kernel_rfl) (by kernel_rfl) (obs_ok (l := [(lp_path_Valid_l0 N, (codeAt c_path_Valid [true, false, false]))]) (by kernel_rfl) (obsCons (lpok_path_Valid_l0 N none) obsNil)) (by kernel_rfl) (by intro v; kernel_rfl)

noncomputable def lay_strings_Trim_ren : Go.Shelf.Ren := ⟨fun | 160 => 62 | 232 => 71 | 231 => 70 | 227 => 67 | 234 => 73 | 233 => 72 | 236 => 75 | 235 => 74 | 228 => 68 | 271 => 83 | 151 => 82 | 197 => 81 | 120 => 87 | 152 => 65 | 260 => 86 | 137 => 76 | 119 => 77 | 224 => 78 | 225 => 79 | 217 => 84 | 266 => 88 | n => n, fun | 9 => 9 | 4 => 4 | 3 => 3 | 5 => 5 | 117 => 100 | 116 => 99 | 0 => 0 | 124 => 105 | 21 => 21 | 105 => 108 | 46 => 73 | 119 => 114 | 139 => 117 | 138 => 116 | n => n, fun | 3 => 1 | 4 => 2 | n => n⟩
theorem lay_strings_Trim : Go.Proofs.Lays.n160 Tryd.prog lay_strings_Trim_ren := {
  mixed := by kernel_rfl
  f119 := Tryd.func77.trans (congrArg some (by kernel_rfl))
  f120 := Tryd.func87.trans (congrArg some (by kernel_rfl))
  f137 := Tryd.func76.trans (congrArg some (by kernel_rfl))
  f151 := Tryd.func82.trans (congrArg some (by kernel_rfl))
  f152 := Tryd.func65.trans (congrArg some (by kernel_rfl))
  f160 := Tryd.func62.trans (congrArg some (by kernel_rfl))
  f197 := Tryd.func81.trans (congrArg some (by kernel_rfl))
  f217 := Tryd.func84.trans (congrArg some (by kernel_rfl))
  f224 := Tryd.func78.trans (congrArg some (by kernel_rfl))
  f225 := Tryd.func79.trans (congrArg some (by kernel_rfl))
  f227 := Tryd.func67.trans (congrArg some (by kernel_rfl))
  f228 := Tryd.func68.trans (congrArg some (by kernel_rfl))
  f231 := Tryd.func70.trans (congrArg some (by kernel_rfl))
  f232 := Tryd.func71.trans (congrArg some (by kernel_rfl))
  f233 := Tryd.func72.trans (congrArg some (by kernel_rfl))
  f234 := Tryd.func73.trans (congrArg some (by kernel_rfl))
  f235 := Tryd.func74.trans (congrArg some (by kernel_rfl))
  f236 := Tryd.func75.trans (congrArg some (by kernel_rfl))
  f260 := Tryd.func86.trans (congrArg some (by kernel_rfl))
  f266 := Tryd.func88.trans (congrArg some (by kernel_rfl))
  f271 := Tryd.func83.trans (congrArg some (by kernel_rfl))
  t0 := Tryd.underlying0
  a0 := Tryd.isAgg0
  z0 := Tryd.sizeOf0
  v0 := Tryd.zeroValue0
  t3 := Tryd.underlying3
  a3 := Tryd.isAgg3
  z3 := Tryd.sizeOf3
  v3 := Tryd.zeroValue3
  t4 := Tryd.underlying4
  a4 := Tryd.isAgg4
  z4 := Tryd.sizeOf4
  v4 := Tryd.zeroValue4
  t5 := Tryd.underlying5
  a5 := Tryd.isAgg5
  z5 := Tryd.sizeOf5
  v5 := Tryd.zeroValue5
  t9 := Tryd.underlying9
  a9 := Tryd.isAgg9
  z9 := Tryd.sizeOf9
  v9 := Tryd.zeroValue9
  t21 := Tryd.underlying21
  a21 := Tryd.isAgg21
  z21 := Tryd.sizeOf21
  v21 := Tryd.zeroValue21
  t46 := Tryd.underlying73
  a46 := Tryd.isAgg73
  z46 := Tryd.sizeOf73
  v46 := Tryd.zeroValue73
  t105 := Tryd.underlying108
  a105 := Tryd.isAgg108
  z105 := Tryd.sizeOf108
  v105 := Tryd.zeroValue108
  t116 := Tryd.underlying99
  a116 := Tryd.isAgg99
  z116 := Tryd.sizeOf99
  t117 := Tryd.underlying100
  a117 := Tryd.isAgg100
  z117 := Tryd.sizeOf100
  v117 := Tryd.zeroValue100
  t119 := Tryd.underlying114
  a119 := Tryd.isAgg114
  z119 := Tryd.sizeOf114
  t124 := Tryd.underlying105
  a124 := Tryd.isAgg105
  z124 := Tryd.sizeOf105
  v124 := Tryd.zeroValue105
  t138 := Tryd.underlying116
  a138 := Tryd.isAgg116
  z138 := Tryd.sizeOf116
  v138 := Tryd.zeroValue116
  t139 := Tryd.underlying117
  a139 := Tryd.isAgg117
  z139 := Tryd.sizeOf117
  v139 := Tryd.zeroValue117
  g3 := by kernel_rfl
  g4 := by kernel_rfl
  }
noncomputable def c_strings_Trim : Code := match Tryd.f62.body with | some c => c | none => .skip
noncomputable def ctr_strings_Trim (N : Nat) : Ctr := ctrOf (.cons .str .str) .str [] (fun v => strings_Trim N v.1 v.2)
theorem sound_strings_Trim (N : Nat) : SoundF Tryd.prog 62 (fun vs => (ctr_strings_Trim N).run vs some) := by
  have e1 : lay_strings_Trim_ren.f 160 = 62 := by kernel_rfl
  have h := trim_sound lay_strings_Trim (by kernel_rfl) (fn := Tryd.f62) (c := c_strings_Trim) (by rw [e1]; exact Tryd.func62) (by kernel_rfl) (by kernel_rfl)
  rw [e1] at h
  exact h

noncomputable def c_path_isBody : Code := match Tryd.f55.body with | some c => c | none => .skip
noncomputable def tab_path_isBody (N : Nat) : List (Nat × Ctr) := [(62, ctr_strings_Trim N)]
noncomputable def env_path_isBody (N : Nat) : Env := mkEnv tyRows eqRows methRows [] [] (tab_path_isBody N)
theorem envok_path_isBody (N : Nat) : EnvOk Tryd.prog (env_path_isBody N) := mkEnv_ok tyRows_ok eqRows_ok methRows_ok ⟨sound_strings_Trim N, trivial⟩
noncomputable def cut_path_isBody_p0 : Cut := { tms := [0], sh := .str, objs := [], sts := [] }
noncomputable def cut_path_isBody_p0_o0 : Cut := { tms := [2], sh := .bool, objs := [], sts := [] }
noncomputable def lp_path_isBody_p0 (N : Nat) : Lp := lpOf cut_path_isBody_p0 (1, cut_path_isBody_p0_o0) [] (fun v => path_isBody_p0 N v.1)
noncomputable def lam_path_isBody_p0 (_ : Nat) : Lps := fun _ => none
theorem lpok_path_isBody_p0 (N : Nat) (ro : Option Nat) : LpOk Tryd.prog 25 ro (lp_path_isBody_p0 N) (codeAt c_path_isBody [true, true]) :=
  piece_ok (envok_path_isBody N) mixed (Λ := lam_path_isBody_p0 N) (p := 7) (obs_ok (l := []) (by kernel_rfl) obsNil) (by kernel_rfl) (by intro v; kernel_rfl)
noncomputable def lam_path_isBody (N : Nat) : Lps := fun p => bif Nat.beq p 7 then some (lp_path_isBody_p0 N) else none
noncomputable def ctr_path_isBody (N : Nat) : Ctr := ctrOf .str .bool [] (fun v => path_isBody N v)
theorem sound_path_isBody (N : Nat) : SoundF Tryd.prog 55 (fun vs => (ctr_path_isBody N).run vs some) :=
  fn_sound (envok_path_isBody N) mixed (Λ := lam_path_isBody N) (fn := Tryd.f55) (c := c_path_isBody) Tryd.func55 (by kernel_rfl) (by kernel_rfl) (obs_ok (l := [(lp_path_isBody_p0 N, (codeAt c_path_isBody [true, true]))]) (by kernel_rfl) (obsCons (lpok_path_isBody_p0 N none) obsNil)) (by kernel_rfl) (by intro v; kernel_rfl)

noncomputable def c_path_Key : Code := match Tryd.f36.body with | some c => c | none => .skip
noncomputable def tab_path_Key (N : Nat) : List (Nat × Ctr) := [(54, ctr_path_Valid N), (56, ctr_path_isName N), (55, ctr_path_isBody N)]
noncomputable def env_path_Key (N : Nat) : Env := mkEnv tyRows eqRows methRows [] [] (tab_path_Key N)
theorem envok_path_Key (N : Nat) : EnvOk Tryd.prog (env_path_Key N) := mkEnv_ok tyRows_ok eqRows_ok methRows_ok ⟨sound_path_Valid N, ⟨sound_path_isName N, ⟨sound_path_isBody N, trivial⟩⟩⟩
noncomputable def cut_path_Key_p3 : Cut := { tms := [1, 4, 66], sh := (.cons (.ptr 2000000 0) (.cons (.ptr 2000001 0) .bool)), objs := [(2000000, [1], .box (.cons .str (.cons (.int .i64) (.cons (.int .i64) .str)))), (2000001, [4], .box (.cons .str (.cons (.int .i64) (.cons (.int .i64) .str))))], sts := [] }
noncomputable def cut_path_Key_p3_o0 : Cut := { tms := [2, 3], sh := (.cons .str (.int .i64)), objs := [], sts := [] }
noncomputable def cut_path_Key_p3_o1 : Cut := { tms := [], sh := .nil, objs := [], sts := [] }
noncomputable def lp_path_Key_p3 (N : Nat) : Lp := lpOf cut_path_Key_p3 (1, cut_path_Key_p3_o0) [(0, cut_path_Key_p3_o1)] (fun v => path_Key_p3 N v.1.2.2 v.2.1.1 v.2.1.2.1 v.2.1.2.2.1 v.2.1.2.2.2 v.2.2.1.1 v.2.2.1.2.1 v.2.2.1.2.2.1 v.2.2.1.2.2.2)
noncomputable def lam_path_Key_p3 (_ : Nat) : Lps := fun _ => none
theorem lpok_path_Key_p3 (N : Nat) (ro : Option Nat) : LpOk Tryd.prog 99 ro (lp_path_Key_p3 N) (codeAt c_path_Key [true, true, false, true, false, false, true, true, true, true, true]) :=
  piece_ok (envok_path_Key N) mixed (Λ := lam_path_Key_p3 N) (p := 3743) (obs_ok (l := []) (by kernel_rfl) obsNil) (by kernel_rfl) (by intro v; kernel_rfl)
noncomputable def cut_path_Key_p2 : Cut := { tms := [1, 4, 35], sh := (.cons (.ptr 2000000 0) (.cons (.ptr 2000001 0) .bool)), objs := [(2000000, [1], .box (.cons .str (.cons (.int .i64) (.cons (.int .i64) .str)))), (2000001, [4], .box (.cons .str (.cons (.int .i64) (.cons (.int .i64) .str))))], sts := [] }
noncomputable def cut_path_Key_p2_o0 : Cut := { tms := [2, 3], sh := (.cons .str (.int .i64)), objs := [], sts := [] }
noncomputable def cut_path_Key_p2_o1 : Cut := { tms := [], sh := .nil, objs := [], sts := [] }
noncomputable def lp_path_Key_p2 (N : Nat) : Lp := lpOf cut_path_Key_p2 (1, cut_path_Key_p2_o0) [(0, cut_path_Key_p2_o1)] (fun v => path_Key_p2 N v.1.2.2 v.2.1.1 v.2.1.2.1 v.2.1.2.2.1 v.2.1.2.2.2 v.2.2.1.1 v.2.2.1.2.1 v.2.2.1.2.2.1 v.2.2.1.2.2.2)
noncomputable def lam_path_Key_p2 (N : Nat) : Lps := fun p => bif Nat.beq p 3743 then some (lp_path_Key_p3 N) else none
theorem lpok_path_Key_p2 (N : Nat) (ro : Option Nat) : LpOk Tryd.prog 99 ro (lp_path_Key_p2 N) (codeAt c_path_Key [true, true, false, true, false, false, true, true, true]) :=
  piece_ok (envok_path_Key N) mixed (Λ := lam_path_Key_p2 N) (p := 935) (obs_ok (l := [(lp_path_Key_p3 N, (codeAt c_path_Key [true, true, false, true, false, false, true, true, true, true, true]))]) (by kernel_rfl) (obsCons (lpok_path_Key_p3 N ro) obsNil)) (by kernel_rfl) (by intro v; kernel_rfl)
noncomputable def cut_path_Key_p1 : Cut := { tms := [1, 4, 22], sh := (.cons (.ptr 2000000 0) (.cons (.ptr 2000001 0) .bool)), objs := [(2000000, [1], .box (.cons .str (.cons (.int .i64) (.cons (.int .i64) .str)))), (2000001, [4], .box (.cons .str (.cons (.int .i64) (.cons (.int .i64) .str))))], sts := [] }
noncomputable def cut_path_Key_p1_o0 : Cut := { tms := [2, 3], sh := (.cons .str (.int .i64)), objs := [], sts := [] }
noncomputable def cut_path_Key_p1_o1 : Cut := { tms := [], sh := .nil, objs := [], sts := [] }
noncomputable def lp_path_Key_p1 (N : Nat) : Lp := lpOf cut_path_Key_p1 (1, cut_path_Key_p1_o0) [(0, cut_path_Key_p1_o1)] (fun v => path_Key_p1 N v.1.2.2 v.2.1.1 v.2.1.2.1 v.2.1.2.2.1 v.2.1.2.2.2 v.2.2.1.1 v.2.2.1.2.1 v.2.2.1.2.2.1 v.2.2.1.2.2.2)
noncomputable def lam_path_Key_p1 (N : Nat) : Lps := fun p => bif Nat.beq p 935 then some (lp_path_Key_p2 N) else none
theorem lpok_path_Key_p1 (N : Nat) (ro : Option Nat) : LpOk Tryd.prog 99 ro (lp_path_Key_p1 N) (codeAt c_path_Key [true, true, false, true]) :=
  piece_ok (envok_path_Key N) mixed (Λ := lam_path_Key_p1 N) (p := 29) (obs_ok (l := [(lp_path_Key_p2 N, (codeAt c_path_Key [true, true, false, true, false, false, true, true, true]))]) (by kernel_rfl) (obsCons (lpok_path_Key_p2 N ro) obsNil)) (by kernel_rfl) (by intro v; kernel_rfl)
noncomputable def cut_path_Key_p0 : Cut := { tms := [], sh := .nil, objs := [], sts := [] }
noncomputable def cut_path_Key_p0_o0 : Cut := { tms := [2, 3], sh := (.cons .str (.int .i64)), objs := [], sts := [] }
noncomputable def lp_path_Key_p0 (N : Nat) : Lp := lpOf cut_path_Key_p0 (1, cut_path_Key_p0_o0) [] (fun _ => path_Key_p0 N)
noncomputable def lam_path_Key_p0 (_ : Nat) : Lps := fun _ => none
theorem lpok_path_Key_p0 (N : Nat) (ro : Option Nat) : LpOk Tryd.prog 99 ro (lp_path_Key_p0 N) (codeAt c_path_Key [true, true, true]) :=
  piece_ok (envok_path_Key N) mixed (Λ := lam_path_Key_p0 N) (p := 15) (obs_ok (l := []) (by kernel_rfl) obsNil) (by kernel_rfl) (by intro v; kernel_rfl)
noncomputable def lam_path_Key (N : Nat) : Lps := fun p => bif Nat.beq p 15 then some (lp_path_Key_p0 N) else bif Nat.beq p 29 then some (lp_path_Key_p1 N) else none
noncomputable def ctr_path_Key (N : Nat) : Ctr := ctrOf (.val T_api_Place) (.tup (.cons .str (.int .i64))) [] (fun v => path_Key N v)
theorem sound_path_Key (N : Nat) : SoundF Tryd.prog 36 (fun vs => (ctr_path_Key N).run vs some) :=
  fn_sound (envok_path_Key N) mixed (Λ := lam_path_Key N) (fn := Tryd.f36) (c := c_path_Key) Tryd.func36 (by kernel_rfl) (by kernel_rfl) (obs_ok (l := [(lp_path_Key_p1 N, (codeAt c_path_Key [true, true, false, true])), (lp_path_Key_p0 N, (codeAt c_path_Key [true, true, true]))]) (by kernel_rfl) (obsCons (lpok_path_Key_p1 N none) (obsCons (lpok_path_Key_p0 N none) obsNil))) (by kernel_rfl) (by intro v; kernel_rfl)

noncomputable def c_path_Place : Code := match Tryd.f24.body with | some c => c | none => .skip
noncomputable def tab_path_Place (N : Nat) : List (Nat × Ctr) := [(36, ctr_path_Key N)]
noncomputable def tabm_path_Place (N : Nat) : List (Nat × CtrM) := [(35, ctr_path_place_read_m N)]
noncomputable def env_path_Place (N : Nat) : Env := mkEnv tyRows eqRows methRows [] [12] (tab_path_Place N) (tabm_path_Place N)
theorem envok_path_Place (N : Nat) : EnvOk Tryd.prog (env_path_Place N) := mkEnv_ok tyRows_ok eqRows_ok methRows_ok ⟨sound_path_Key N, trivial⟩ ⟨sound_path_place_read_m N, trivial⟩
noncomputable def lam_path_Place (_ : Nat) : Lps := fun _ => none
noncomputable def ctr_path_Place (N : Nat) : Ctr := ctrOf .str (.tup (.cons (.val T_api_Place) (.int .i64))) [] (fun v => path_Place N v)
theorem sound_path_Place (N : Nat) : SoundF Tryd.prog 24 (fun vs => (ctr_path_Place N).run vs some) :=
  fn_sound (envok_path_Place N) mixed (Λ := lam_path_Place N) (fn := Tryd.f24) (c := c_path_Place) Tryd.func24 (by kernel_rfl) (by kernel_rfl) (obs_ok (l := []) (by kernel_rfl) obsNil) (by kernel_rfl) (by intro v; kernel_rfl)

noncomputable def c_entry_Charge : Code := match Tryd.f11.body with | some c => c | none => .skip
noncomputable def tab_entry_Charge (N : Nat) : List (Nat × Ctr) := [(24, ctr_path_Place N)]
noncomputable def env_entry_Charge (N : Nat) : Env := mkEnv tyRows eqRows methRows [] [] (tab_entry_Charge N)
theorem envok_entry_Charge (N : Nat) : EnvOk Tryd.prog (env_entry_Charge N) := mkEnv_ok tyRows_ok eqRows_ok methRows_ok ⟨sound_path_Place N, trivial⟩
noncomputable def lam_entry_Charge (_ : Nat) : Lps := fun _ => none
noncomputable def ctr_entry_Charge (N : Nat) : Ctr := ctrOf (.val T_api_Pair) (.val T_api_Use) [] (fun v => entry_Charge N v)
theorem sound_entry_Charge (N : Nat) : SoundF Tryd.prog 11 (fun vs => (ctr_entry_Charge N).run vs some) :=
  fn_sound (envok_entry_Charge N) mixed (Λ := lam_entry_Charge N) (fn := Tryd.f11) (c := c_entry_Charge) Tryd.func11 (by kernel_rfl) (by kernel_rfl) (obs_ok (l := []) (by kernel_rfl) obsNil) (by kernel_rfl) (by intro v; kernel_rfl)

noncomputable def c_entry_Total : Code := match Tryd.f19.body with | some c => c | none => .skip
noncomputable def tab_entry_Total (N : Nat) : List (Nat × Ctr) := [(11, ctr_entry_Charge N)]
noncomputable def env_entry_Total (N : Nat) : Env := mkEnv tyRows eqRows methRows [] [] (tab_entry_Total N)
theorem envok_entry_Total (N : Nat) : EnvOk Tryd.prog (env_entry_Total N) := mkEnv_ok tyRows_ok eqRows_ok methRows_ok ⟨sound_entry_Charge N, trivial⟩
noncomputable def cut_entry_Total_l0 : Cut := { tms := [2, 3, 7, 8, 9], sh := (.cons (.ptr 2000000 0) (.cons (.ptr 2000001 0) (.cons (.list T_api_Pair) (.cons (.int .i64) (.int .i64))))), objs := [(2000000, [2], .box (.cons (.int .i64) (.int .i64))), (2000001, [3], .box (.cons (.int .i64) (.int .i64)))], sts := [] }
noncomputable def cut_entry_Total_l0_o0 : Cut := { tms := [2, 3], sh := (.cons (.ptr 2000000 0) (.ptr 2000001 0)), objs := [(2000000, [2], .box (.cons (.int .i64) (.int .i64))), (2000001, [3], .box (.cons (.int .i64) (.int .i64)))], sts := [] }
noncomputable def lp_entry_Total_l0 (N : Nat) : Lp := lpOf cut_entry_Total_l0 (2, cut_entry_Total_l0_o0) [] (fun v => entry_Total_l0 N N v.1.2.2.1 v.1.2.2.2.1 v.1.2.2.2.2 v.2.1.1 v.2.1.2 v.2.2.1.1 v.2.2.1.2)
noncomputable def lam_entry_Total_l0 (_ : Nat) : Lps := fun _ => none
theorem lpok_entry_Total_l0 (N : Nat) (ro : Option Nat) : LpOk Tryd.prog 29 ro (lp_entry_Total_l0 N) (codeAt c_entry_Total [true, true, false, true, false]) := by
  rw [show (codeAt c_entry_Total [true, true, false, true, false]) = .loop (codeAt c_entry_Total [true, true, false, true, false, false]) by kernel_rfl]
  exact loop_ok (envok_entry_Total N) mixed (Λ := lam_entry_Total_l0 N) (p := 116) (obs_ok (l := []) (by kernel_rfl) obsNil) (by kernel_rfl) (by intro rec v; kernel_rfl) N
noncomputable def lam_entry_Total (N : Nat) : Lps := fun p => bif Nat.beq p 58 then some (lp_entry_Total_l0 N) else none
noncomputable def ctr_entry_Total (N : Nat) : Ctr := ctrOf (.list T_api_Pair) (.val T_api_Use) [] (fun v => entry_Total N v)
theorem sound_entry_Total (N : Nat) : SoundF Tryd.prog 19 (fun vs => (ctr_entry_Total N).run vs some) :=
  fn_sound (envok_entry_Total N) mixed (Λ := lam_entry_Total N) (fn := Tryd.f19) (c := c_entry_Total) Tryd.func19 (by kernel_rfl) (by kernel_rfl) (obs_ok (l := [(lp_entry_Total_l0 N, (codeAt c_entry_Total [true, true, false, true, false]))]) (by kernel_rfl) (obsCons (lpok_entry_Total_l0 N none) obsNil)) (by kernel_rfl) (by intro v; kernel_rfl)

noncomputable def c_law03_sanity : Code := match Tryd.f10.body with | some c => c | none => .skip
noncomputable def tab_law03_sanity (N : Nat) : List (Nat × Ctr) := [(13, ctr_entry_Encode N), (15, ctr_entry_Decode N), (11, ctr_entry_Charge N), (19, ctr_entry_Total N), (17, ctr_entry_Valid N)]
noncomputable def env_law03_sanity (N : Nat) : Env := mkEnv tyRows eqRows methRows [] [] (tab_law03_sanity N)
theorem envok_law03_sanity (N : Nat) : EnvOk Tryd.prog (env_law03_sanity N) := mkEnv_ok tyRows_ok eqRows_ok methRows_ok ⟨sound_entry_Encode N, ⟨sound_entry_Decode N, ⟨sound_entry_Charge N, ⟨sound_entry_Total N, ⟨sound_entry_Valid N, trivial⟩⟩⟩⟩⟩
noncomputable def cut_law03_sanity_p1 : Cut := { tms := [3, 11, 12], sh := (.cons (.ptr 2000000 0) (.cons .bool .bool)), objs := [(2000000, [3], .box (.cons (.int .i64) (.cons (.int .i64) (.cons (.int .i64) (.cons (.int .i64) (.cons (.int .i64) .str))))))], sts := [] }
noncomputable def cut_law03_sanity_p1_o0 : Cut := { tms := [0], sh := .bool, objs := [], sts := [] }
noncomputable def lp_law03_sanity_p1 (N : Nat) : Lp := lpOf cut_law03_sanity_p1 (1, cut_law03_sanity_p1_o0) [] (fun v => law03_sanity_p1 N v.1.2.1 v.1.2.2 v.2.1.1 v.2.1.2.1 v.2.1.2.2.1 v.2.1.2.2.2.1 v.2.1.2.2.2.2.1 v.2.1.2.2.2.2.2)
noncomputable def lam_law03_sanity_p1 (_ : Nat) : Lps := fun _ => none
theorem lpok_law03_sanity_p1 (N : Nat) (ro : Option Nat) : LpOk Tryd.prog 96 ro (lp_law03_sanity_p1 N) (codeAt c_law03_sanity [true, true, true, true, true, true, true, true]) :=
  piece_ok (envok_law03_sanity N) mixed (Λ := lam_law03_sanity_p1 N) (p := 511) (obs_ok (l := []) (by kernel_rfl) obsNil) (by kernel_rfl) (by intro v; kernel_rfl)
noncomputable def cut_law03_sanity_p0 : Cut := { tms := [3, 11], sh := (.cons (.ptr 2000000 0) .bool), objs := [(2000000, [3], .box (.cons (.int .i64) (.cons (.int .i64) (.cons (.int .i64) (.cons (.int .i64) (.cons (.int .i64) .str))))))], sts := [] }
noncomputable def cut_law03_sanity_p0_o0 : Cut := { tms := [0], sh := .bool, objs := [], sts := [] }
noncomputable def lp_law03_sanity_p0 (N : Nat) : Lp := lpOf cut_law03_sanity_p0 (1, cut_law03_sanity_p0_o0) [] (fun v => law03_sanity_p0 N v.1.2 v.2.1.1 v.2.1.2.1 v.2.1.2.2.1 v.2.1.2.2.2.1 v.2.1.2.2.2.2.1 v.2.1.2.2.2.2.2)
noncomputable def lam_law03_sanity_p0 (N : Nat) : Lps := fun p => bif Nat.beq p 511 then some (lp_law03_sanity_p1 N) else none
theorem lpok_law03_sanity_p0 (N : Nat) (ro : Option Nat) : LpOk Tryd.prog 96 ro (lp_law03_sanity_p0 N) (codeAt c_law03_sanity [true, true, true, true, true, true, true]) :=
  piece_ok (envok_law03_sanity N) mixed (Λ := lam_law03_sanity_p0 N) (p := 255) (obs_ok (l := [(lp_law03_sanity_p1 N, (codeAt c_law03_sanity [true, true, true, true, true, true, true, true]))]) (by kernel_rfl) (obsCons (lpok_law03_sanity_p1 N ro) obsNil)) (by kernel_rfl) (by intro v; kernel_rfl)
noncomputable def lam_law03_sanity (N : Nat) : Lps := fun p => bif Nat.beq p 255 then some (lp_law03_sanity_p0 N) else none
noncomputable def ctr_law03_sanity (N : Nat) : Ctr := ctrOf .nil .bool [] (fun _ => law03_sanity N)
theorem sound_law03_sanity (N : Nat) : SoundF Tryd.prog 10 (fun vs => (ctr_law03_sanity N).run vs some) :=
  fn_sound (envok_law03_sanity N) mixed (Λ := lam_law03_sanity N) (fn := Tryd.f10) (c := c_law03_sanity) Tryd.func10 (by kernel_rfl) (by kernel_rfl) (obs_ok (l := [(lp_law03_sanity_p0 N, (codeAt c_law03_sanity [true, true, true, true, true, true, true]))]) (by kernel_rfl) (obsCons (lpok_law03_sanity_p0 N none) obsNil)) (by kernel_rfl) (by intro v; kernel_rfl)

noncomputable def c_law03_EntryTotals : Code := match Tryd.f7.body with | some c => c | none => .skip
noncomputable def tab_law03_EntryTotals (N : Nat) : List (Nat × Ctr) := [(10, ctr_law03_sanity N), (19, ctr_entry_Total N), (11, ctr_entry_Charge N)]
noncomputable def env_law03_EntryTotals (N : Nat) : Env := mkEnv tyRows eqRows methRows [] [] (tab_law03_EntryTotals N)
theorem envok_law03_EntryTotals (N : Nat) : EnvOk Tryd.prog (env_law03_EntryTotals N) := mkEnv_ok tyRows_ok eqRows_ok methRows_ok ⟨sound_law03_sanity N, ⟨sound_entry_Total N, ⟨sound_entry_Charge N, trivial⟩⟩⟩
noncomputable def cut_law03_EntryTotals_p5 : Cut := { tms := [5, 6, 7, 10, 11, 12, 13, 113], sh := (.cons .bool (.cons (.own 2000000) (.cons (.own 2000001) (.cons (.ptr 2000002 0) (.cons (.ptr 2000003 0) (.cons (.int .i64) (.cons (.ptr 2000004 0) .bool))))))), objs := [(2000000, [6], .sl T_api_Pair), (2000001, [7], .sl T_api_Pair), (2000002, [10], .box (.cons (.int .i64) (.int .i64))), (2000003, [11], .box (.cons (.int .i64) (.int .i64))), (2000004, [13], .box (.cons (.int .i64) (.int .i64)))], sts := [] }
noncomputable def cut_law03_EntryTotals_p5_o0 : Cut := { tms := [4], sh := .bool, objs := [], sts := [] }
noncomputable def cut_law03_EntryTotals_p5_o1 : Cut := { tms := [5, 6, 7, 10, 11, 12, 13], sh := (.cons .bool (.cons (.own 2000000) (.cons (.own 2000001) (.cons (.ptr 2000002 0) (.cons (.ptr 2000003 0) (.cons (.int .i64) (.ptr 2000004 0))))))), objs := [(2000000, [6], .sl T_api_Pair), (2000001, [7], .sl T_api_Pair), (2000002, [10], .box (.cons (.int .i64) (.int .i64))), (2000003, [11], .box (.cons (.int .i64) (.int .i64))), (2000004, [13], .box (.cons (.int .i64) (.int .i64)))], sts := [] }
noncomputable def lp_law03_EntryTotals_p5 (N : Nat) : Lp := lpOf cut_law03_EntryTotals_p5 (1, cut_law03_EntryTotals_p5_o0) [(0, cut_law03_EntryTotals_p5_o1)] (fun v => law03_EntryTotals_p5 N v.1.1 v.1.2.2.2.2.2.1 v.1.2.2.2.2.2.2.2 v.2.1 v.2.2.1 v.2.2.2.1.1 v.2.2.2.1.2 v.2.2.2.2.1.1 v.2.2.2.2.1.2 v.2.2.2.2.2.1.1 v.2.2.2.2.2.1.2)
noncomputable def lam_law03_EntryTotals_p5 (_ : Nat) : Lps := fun _ => none
theorem lpok_law03_EntryTotals_p5 (N : Nat) (ro : Option Nat) : LpOk Tryd.prog 144 ro (lp_law03_EntryTotals_p5 N) (codeAt c_law03_EntryTotals [true, true, true, true, true, true, true, true, true, true, true, false, true, false, false, true, false, false, true, true, false, true]) :=
  piece_ok (envok_law03_EntryTotals N) mixed (Λ := lam_law03_EntryTotals_p5 N) (p := 8387149) (obs_ok (l := []) (by kernel_rfl) obsNil) (by kernel_rfl) (by intro v; kernel_rfl)
noncomputable def cut_law03_EntryTotals_p4 : Cut := { tms := [5, 6, 7, 10, 11, 12, 13], sh := (.cons .bool (.cons (.own 2000000) (.cons (.own 2000001) (.cons (.ptr 2000002 0) (.cons (.ptr 2000003 0) (.cons (.int .i64) (.ptr 2000004 0))))))), objs := [(2000000, [6], .sl T_api_Pair), (2000001, [7], .sl T_api_Pair), (2000002, [10], .box (.cons (.int .i64) (.int .i64))), (2000003, [11], .box (.cons (.int .i64) (.int .i64))), (2000004, [13], .box (.cons (.int .i64) (.int .i64)))], sts := [] }
noncomputable def cut_law03_EntryTotals_p4_o0 : Cut := { tms := [5, 6, 7, 10, 11, 12], sh := (.cons .bool (.cons (.own 2000000) (.cons (.own 2000001) (.cons (.ptr 2000002 0) (.cons (.ptr 2000003 0) (.int .i64)))))), objs := [(2000000, [6], .sl T_api_Pair), (2000001, [7], .sl T_api_Pair), (2000002, [10], .box (.cons (.int .i64) (.int .i64))), (2000003, [11], .box (.cons (.int .i64) (.int .i64)))], sts := [] }
noncomputable def lp_law03_EntryTotals_p4 (N : Nat) : Lp := lpOf cut_law03_EntryTotals_p4 (0, cut_law03_EntryTotals_p4_o0) [] (fun v => law03_EntryTotals_p4 N v.1.1 v.1.2.2.2.2.2.1 v.2.1 v.2.2.1 v.2.2.2.1.1 v.2.2.2.1.2 v.2.2.2.2.1.1 v.2.2.2.2.1.2 v.2.2.2.2.2.1.1 v.2.2.2.2.2.1.2)
noncomputable def lam_law03_EntryTotals_p4 (_ : Nat) : Lps := fun _ => none
theorem lpok_law03_EntryTotals_p4 (N : Nat) (ro : Option Nat) : LpOk Tryd.prog 144 ro (lp_law03_EntryTotals_p4 N) (codeAt c_law03_EntryTotals [true, true, true, true, true, true, true, true, true, true, true, false, true, false, false, true, false, false, true, true, true]) :=
  piece_ok (envok_law03_EntryTotals N) mixed (Λ := lam_law03_EntryTotals_p4 N) (p := 4193575) (obs_ok (l := []) (by kernel_rfl) obsNil) (by kernel_rfl) (by intro v; kernel_rfl)
noncomputable def cut_law03_EntryTotals_p3 : Cut := { tms := [5, 6, 7, 10, 11, 12], sh := (.cons .bool (.cons (.own 2000000) (.cons (.own 2000001) (.cons (.ptr 2000002 0) (.cons (.ptr 2000003 0) (.int .i64)))))), objs := [(2000000, [6], .sl T_api_Pair), (2000001, [7], .sl T_api_Pair), (2000002, [10], .box (.cons (.int .i64) (.int .i64))), (2000003, [11], .box (.cons (.int .i64) (.int .i64)))], sts := [] }
noncomputable def cut_law03_EntryTotals_p3_o0 : Cut := { tms := [4], sh := .bool, objs := [], sts := [] }
noncomputable def cut_law03_EntryTotals_p3_o1 : Cut := { tms := [5, 6, 7, 10, 11, 12], sh := (.cons .bool (.cons (.own 2000000) (.cons (.own 2000001) (.cons (.ptr 2000002 0) (.cons (.ptr 2000003 0) (.int .i64)))))), objs := [(2000000, [6], .sl T_api_Pair), (2000001, [7], .sl T_api_Pair), (2000002, [10], .box (.cons (.int .i64) (.int .i64))), (2000003, [11], .box (.cons (.int .i64) (.int .i64)))], sts := [] }
noncomputable def lp_law03_EntryTotals_p3 (N : Nat) : Lp := lpOf cut_law03_EntryTotals_p3 (1, cut_law03_EntryTotals_p3_o0) [(0, cut_law03_EntryTotals_p3_o1)] (fun v => law03_EntryTotals_p3 N v.1.1 v.1.2.2.2.2.2 v.2.1 v.2.2.1 v.2.2.2.1.1 v.2.2.2.1.2 v.2.2.2.2.1.1 v.2.2.2.2.1.2)
noncomputable def lam_law03_EntryTotals_p3 (N : Nat) : Lps := fun p => bif Nat.beq p 4193575 then some (lp_law03_EntryTotals_p4 N) else bif Nat.beq p 8387149 then some (lp_law03_EntryTotals_p5 N) else none
theorem lpok_law03_EntryTotals_p3 (N : Nat) (ro : Option Nat) : LpOk Tryd.prog 144 ro (lp_law03_EntryTotals_p3 N) (codeAt c_law03_EntryTotals [true, true, true, true, true, true, true, true, true, true, true, false, true, false, false, true, false, false, true]) :=
  piece_ok (envok_law03_EntryTotals N) mixed (Λ := lam_law03_EntryTotals_p3 N) (p := 1048393) (obs_ok (l := [(lp_law03_EntryTotals_p5 N, (codeAt c_law03_EntryTotals [true, true, true, true, true, true, true, true, true, true, true, false, true, false, false, true, false, false, true, true, false, true])), (lp_law03_EntryTotals_p4 N, (codeAt c_law03_EntryTotals [true, true, true, true, true, true, true, true, true, true, true, false, true, false, false, true, false, false, true, true, true]))]) (by kernel_rfl) (obsCons (lpok_law03_EntryTotals_p5 N ro) (obsCons (lpok_law03_EntryTotals_p4 N ro) obsNil))) (by kernel_rfl) (by intro v; kernel_rfl)
noncomputable def cut_law03_EntryTotals_p2 : Cut := { tms := [5, 6, 7, 10, 11, 12], sh := (.cons .bool (.cons (.own 2000000) (.cons (.own 2000001) (.cons (.ptr 2000002 0) (.cons (.ptr 2000003 0) (.int .i64)))))), objs := [(2000000, [6], .sl T_api_Pair), (2000001, [7], .sl T_api_Pair), (2000002, [10], .box (.cons (.int .i64) (.int .i64))), (2000003, [11], .box (.cons (.int .i64) (.int .i64)))], sts := [] }
noncomputable def cut_law03_EntryTotals_p2_o0 : Cut := { tms := [5, 6, 7, 10, 11, 12], sh := (.cons .bool (.cons (.own 2000000) (.cons (.own 2000001) (.cons (.ptr 2000002 0) (.cons (.ptr 2000003 0) (.int .i64)))))), objs := [(2000000, [6], .sl T_api_Pair), (2000001, [7], .sl T_api_Pair), (2000002, [10], .box (.cons (.int .i64) (.int .i64))), (2000003, [11], .box (.cons (.int .i64) (.int .i64)))], sts := [] }
noncomputable def lp_law03_EntryTotals_p2 (N : Nat) : Lp := lpOf cut_law03_EntryTotals_p2 (0, cut_law03_EntryTotals_p2_o0) [] (fun v => law03_EntryTotals_p2 N v.1.1 v.1.2.2.2.2.2 v.2.1 v.2.2.1 v.2.2.2.1.1 v.2.2.2.1.2 v.2.2.2.2.1.1 v.2.2.2.2.1.2)
noncomputable def lam_law03_EntryTotals_p2 (_ : Nat) : Lps := fun _ => none
theorem lpok_law03_EntryTotals_p2 (N : Nat) (ro : Option Nat) : LpOk Tryd.prog 144 ro (lp_law03_EntryTotals_p2 N) (codeAt c_law03_EntryTotals [true, true, true, true, true, true, true, true, true, true, true, false, true, false, false, true, true]) :=
  piece_ok (envok_law03_EntryTotals N) mixed (Λ := lam_law03_EntryTotals_p2 N) (p := 262099) (obs_ok (l := []) (by kernel_rfl) obsNil) (by kernel_rfl) (by intro v; kernel_rfl)
noncomputable def cut_law03_EntryTotals_l1 : Cut := { tms := [5, 6, 7, 10, 11, 12], sh := (.cons .bool (.cons (.own 2000000) (.cons (.own 2000001) (.cons (.ptr 2000002 0) (.cons (.ptr 2000003 0) (.int .i64)))))), objs := [(2000000, [6], .sl T_api_Pair), (2000001, [7], .sl T_api_Pair), (2000002, [10], .box (.cons (.int .i64) (.int .i64))), (2000003, [11], .box (.cons (.int .i64) (.int .i64)))], sts := [] }
noncomputable def cut_law03_EntryTotals_l1_o0 : Cut := { tms := [4], sh := .bool, objs := [], sts := [] }
noncomputable def cut_law03_EntryTotals_l1_o1 : Cut := { tms := [5, 6, 7, 10, 11], sh := (.cons .bool (.cons (.own 2000000) (.cons (.own 2000001) (.cons (.ptr 2000002 0) (.ptr 2000003 0))))), objs := [(2000000, [6], .sl T_api_Pair), (2000001, [7], .sl T_api_Pair), (2000002, [10], .box (.cons (.int .i64) (.int .i64))), (2000003, [11], .box (.cons (.int .i64) (.int .i64)))], sts := [] }
noncomputable def lp_law03_EntryTotals_l1 (N : Nat) : Lp := lpOf cut_law03_EntryTotals_l1 (1, cut_law03_EntryTotals_l1_o0) [(2, cut_law03_EntryTotals_l1_o1)] (fun v => law03_EntryTotals_l1 N N v.1.1 v.1.2.2.2.2.2 v.2.1 v.2.2.1 v.2.2.2.1.1 v.2.2.2.1.2 v.2.2.2.2.1.1 v.2.2.2.2.1.2)
noncomputable def lam_law03_EntryTotals_l1 (N : Nat) : Lps := fun p => bif Nat.beq p 262099 then some (lp_law03_EntryTotals_p2 N) else bif Nat.beq p 1048393 then some (lp_law03_EntryTotals_p3 N) else none
theorem lpok_law03_EntryTotals_l1 (N : Nat) (ro : Option Nat) : LpOk Tryd.prog 144 ro (lp_law03_EntryTotals_l1 N) (codeAt c_law03_EntryTotals [true, true, true, true, true, true, true, true, true, true, true, false, true, false]) := by
  rw [show (codeAt c_law03_EntryTotals [true, true, true, true, true, true, true, true, true, true, true, false, true, false]) = .loop (codeAt c_law03_EntryTotals [true, true, true, true, true, true, true, true, true, true, true, false, true, false, false]) by kernel_rfl]
  exact loop_ok (envok_law03_EntryTotals N) mixed (Λ := lam_law03_EntryTotals_l1 N) (p := 65524) (obs_ok (l := [(lp_law03_EntryTotals_p3 N, (codeAt c_law03_EntryTotals [true, true, true, true, true, true, true, true, true, true, true, false, true, false, false, true, false, false, true])), (lp_law03_EntryTotals_p2 N, (codeAt c_law03_EntryTotals [true, true, true, true, true, true, true, true, true, true, true, false, true, false, false, true, true]))]) (by kernel_rfl) (obsCons (lpok_law03_EntryTotals_p3 N ro) (obsCons (lpok_law03_EntryTotals_p2 N ro) obsNil))) (by kernel_rfl) (by intro rec v; kernel_rfl) N
noncomputable def cut_law03_EntryTotals_p0 : Cut := { tms := [0, 1, 5], sh := (.cons (.list T_api_Pair) (.cons (.list T_api_Pair) .bool)), objs := [], sts := [] }
noncomputable def cut_law03_EntryTotals_p0_o0 : Cut := { tms := [4], sh := .bool, objs := [], sts := [] }
noncomputable def lp_law03_EntryTotals_p0 (N : Nat) : Lp := lpOf cut_law03_EntryTotals_p0 (1, cut_law03_EntryTotals_p0_o0) [] (fun v => law03_EntryTotals_p0 N v.1.1 v.1.2.1 v.1.2.2)
noncomputable def lam_law03_EntryTotals_p0 (N : Nat) : Lps := fun p => bif Nat.beq p 32762 then some (lp_law03_EntryTotals_l1 N) else none
theorem lpok_law03_EntryTotals_p0 (N : Nat) (ro : Option Nat) : LpOk Tryd.prog 144 ro (lp_law03_EntryTotals_p0 N) (codeAt c_law03_EntryTotals [true, true, true]) :=
  piece_ok (envok_law03_EntryTotals N) mixed (Λ := lam_law03_EntryTotals_p0 N) (p := 15) (obs_ok (l := [(lp_law03_EntryTotals_l1 N, (codeAt c_law03_EntryTotals [true, true, true, true, true, true, true, true, true, true, true, false, true, false]))]) (by kernel_rfl) (obsCons (lpok_law03_EntryTotals_l1 N ro) obsNil)) (by kernel_rfl) (by intro v; kernel_rfl)
noncomputable def lam_law03_EntryTotals (N : Nat) : Lps := fun p => bif Nat.beq p 15 then some (lp_law03_EntryTotals_p0 N) else none
noncomputable def ctr_law03_EntryTotals (N : Nat) : Ctr := ctrOf (.cons (.list T_api_Pair) (.list T_api_Pair)) .bool [] (fun v => law03_EntryTotals N v.1 v.2)
theorem sound_law03_EntryTotals (N : Nat) : SoundF Tryd.prog 7 (fun vs => (ctr_law03_EntryTotals N).run vs some) :=
  fn_sound (envok_law03_EntryTotals N) mixed (Λ := lam_law03_EntryTotals N) (fn := Tryd.f7) (c := c_law03_EntryTotals) Tryd.func7 (by kernel_rfl) (by kernel_rfl) (obs_ok (l := [(lp_law03_EntryTotals_p0 N, (codeAt c_law03_EntryTotals [true, true, true]))]) (by kernel_rfl) (obsCons (lpok_law03_EntryTotals_p0 N none) obsNil)) (by kernel_rfl) (by intro v; kernel_rfl)

end Go.Proofs.YtbjchookalpoiaaDoor
