/- Printed by a program of the session's: what the program's functions compute, and that they do. -/
import Derived.Test.YtmffojmbfphidaaDoorDsPure
import Derived.Test.YtmffojmbfphidaaDoorProg
import Derived.KernelRfl
set_option linter.all false
namespace Go.Proofs.YtmffojmbfphidaaDoor
open Go Go.Dv Ds
set_option maxRecDepth 100000

noncomputable instance : LTab := ⟨fun _ => ⟨#[], [], .skip, .skip, 0⟩⟩

noncomputable def tyRows : List (Nat × TI) := [
  (3, ⟨.int .i64, 1, 8, [.int .i64], some (.int .i64)⟩),
  (4, ⟨.bool, 1, 1, [.bool], some .bool⟩),
  (5, ⟨.int .u8, 1, 1, [.int .u8], some (.int .u8)⟩),
  (9, ⟨.str, 1, 16, [.str], some .str⟩),
  (21, ⟨.int .i32, 1, 4, [.int .i32], some (.int .i32)⟩),
  (22, ⟨.slice 5, 1, 24, [.slice], some (.list (.int .u8))⟩),
  (23, ⟨.arr 2 5, 2, 2, [.int .u8, .int .u8], some T_a2_uint8⟩),
  (26, ⟨.arr 4 9, 4, 64, [.str, .str, .str, .str], some T_a4_string⟩),
  (27, ⟨.int .i64, 1, 8, [.int .i64], some (.int .i64)⟩),
  (32, ⟨.struct [(0, 9), (1, 3), (2, 3), (3, 9)], 4, 48, [.str, .int .i64, .int .i64, .str], some T_api_Place⟩),
  (37, ⟨.struct [(0, 9), (1, 9), (2, 27)], 3, 40, [.str, .str, .int .i64], some T_ref01_Parts⟩),
  (42, ⟨.int .u16, 1, 2, [.int .u16], some (.int .u16)⟩),
  (44, ⟨.struct [(0, 22), (1, 5), (2, 42)], 3, 32, [.slice, .int .u8, .int .u16], some T_ref01_Raw⟩),
  (45, ⟨.int .i16, 1, 2, [.int .i16], some (.int .i16)⟩),
  (46, ⟨.arr 3 45, 3, 6, [.int .i16, .int .i16, .int .i16], some T_a3_int16⟩),
  (48, ⟨.arr 2 32, 8, 96, [.str, .int .i64, .int .i64, .str, .str, .int .i64, .int .i64, .str], some T_a2_api_Place⟩),
  (50, ⟨.arr 3 9, 3, 48, [.str, .str, .str], some T_a3_string⟩),
  (53, ⟨.arr 3 22, 3, 72, [.slice, .slice, .slice], some T_a3_s_uint8⟩),
  (56, ⟨.arr 4 42, 4, 8, [.int .u16, .int .u16, .int .u16, .int .u16], some T_a4_uint16⟩),
  (59, ⟨.arr 2 21, 2, 8, [.int .i32, .int .i32], some T_a2_int32⟩),
  (61, ⟨.int .u32, 1, 4, [.int .u32], some (.int .u32)⟩),
  (63, ⟨.arr 2 22, 2, 48, [.slice, .slice], some T_a2_s_uint8⟩),
  (69, ⟨.struct [(0, 9)], 1, 16, [.str], some .str⟩),
  (71, ⟨.struct [(0, 69), (1, 32)], 5, 64, [.str, .str, .int .i64, .int .i64, .str], some T_path_place⟩),
  (75, ⟨.slice 9, 1, 24, [.slice], some (.list .str)⟩)]
theorem tyRows_ok : (tyRows.all fun r => tiOk Tryd.prog r.1 r.2) = true := by kernel_rfl
theorem mixed : Tryd.prog.follows .mixedOrders = true := by kernel_rfl
noncomputable def eqRows : List (Nat × List Nat) := [(32, [2, 0, 0, 2]), (37, [2, 2, 0])]
theorem eqRows_ok : (eqRows.all fun r => eqB Tryd.prog r.1 r.2) = true := by kernel_rfl
noncomputable def methRows : List (Nat × String × Nat) := []
theorem methRows_ok : MethOk Tryd.prog methRows := trivial

noncomputable def c_stringslite_HasPrefix : Code := match Tryd.f52.body with | some c => c | none => .skip
noncomputable def tab_stringslite_HasPrefix (_ : Nat) : List (Nat × Ctr) := []
noncomputable def env_stringslite_HasPrefix (N : Nat) : Env := mkEnv tyRows eqRows methRows [] [] (tab_stringslite_HasPrefix N)
theorem envok_stringslite_HasPrefix (N : Nat) : EnvOk Tryd.prog (env_stringslite_HasPrefix N) := mkEnv_ok tyRows_ok eqRows_ok methRows_ok trivial
noncomputable def lam_stringslite_HasPrefix (_ : Nat) : Lps := fun _ => none
noncomputable def ctr_stringslite_HasPrefix (N : Nat) : Ctr := ctrOf (.cons .str .str) .bool [] (fun v => stringslite_HasPrefix N v.1 v.2)
theorem sound_stringslite_HasPrefix (N : Nat) : SoundF Tryd.prog 52 (fun vs => (ctr_stringslite_HasPrefix N).run vs some) :=
  fn_sound (envok_stringslite_HasPrefix N) mixed (Λ := lam_stringslite_HasPrefix N) (fn := Tryd.f52) (c := c_stringslite_HasPrefix) Tryd.func52 (by kernel_rfl) (by kernel_rfl) (obs_ok (l := []) (by kernel_rfl) obsNil) (by kernel_rfl) (by intro v; kernel_rfl)

noncomputable def c_stringslite_CutPrefix : Code := match Tryd.f46.body with | some c => c | none => .skip
noncomputable def tab_stringslite_CutPrefix (N : Nat) : List (Nat × Ctr) := [(52, ctr_stringslite_HasPrefix N)]
noncomputable def env_stringslite_CutPrefix (N : Nat) : Env := mkEnv tyRows eqRows methRows [] [] (tab_stringslite_CutPrefix N)
theorem envok_stringslite_CutPrefix (N : Nat) : EnvOk Tryd.prog (env_stringslite_CutPrefix N) := mkEnv_ok tyRows_ok eqRows_ok methRows_ok ⟨sound_stringslite_HasPrefix N, trivial⟩
noncomputable def lam_stringslite_CutPrefix (_ : Nat) : Lps := fun _ => none
noncomputable def ctr_stringslite_CutPrefix (N : Nat) : Ctr := ctrOf (.cons .str .str) (.tup (.cons .str .bool)) [] (fun v => stringslite_CutPrefix N v.1 v.2)
theorem sound_stringslite_CutPrefix (N : Nat) : SoundF Tryd.prog 46 (fun vs => (ctr_stringslite_CutPrefix N).run vs some) :=
  fn_sound (envok_stringslite_CutPrefix N) mixed (Λ := lam_stringslite_CutPrefix N) (fn := Tryd.f46) (c := c_stringslite_CutPrefix) Tryd.func46 (by kernel_rfl) (by kernel_rfl) (obs_ok (l := []) (by kernel_rfl) obsNil) (by kernel_rfl) (by intro v; kernel_rfl)

noncomputable def c_strings_CutPrefix : Code := match Tryd.f33.body with | some c => c | none => .skip
noncomputable def tab_strings_CutPrefix (N : Nat) : List (Nat × Ctr) := [(46, ctr_stringslite_CutPrefix N)]
noncomputable def env_strings_CutPrefix (N : Nat) : Env := mkEnv tyRows eqRows methRows [] [] (tab_strings_CutPrefix N)
theorem envok_strings_CutPrefix (N : Nat) : EnvOk Tryd.prog (env_strings_CutPrefix N) := mkEnv_ok tyRows_ok eqRows_ok methRows_ok ⟨sound_stringslite_CutPrefix N, trivial⟩
noncomputable def lam_strings_CutPrefix (_ : Nat) : Lps := fun _ => none
noncomputable def ctr_strings_CutPrefix (N : Nat) : Ctr := ctrOf (.cons .str .str) (.tup (.cons .str .bool)) [] (fun v => strings_CutPrefix N v.1 v.2)
theorem sound_strings_CutPrefix (N : Nat) : SoundF Tryd.prog 33 (fun vs => (ctr_strings_CutPrefix N).run vs some) :=
  fn_sound (envok_strings_CutPrefix N) mixed (Λ := lam_strings_CutPrefix N) (fn := Tryd.f33) (c := c_strings_CutPrefix) Tryd.func33 (by kernel_rfl) (by kernel_rfl) (obs_ok (l := []) (by kernel_rfl) obsNil) (by kernel_rfl) (by intro v; kernel_rfl)

noncomputable def lay_stringslite_IndexByte_ren : Go.Shelf.Ren := ⟨fun | 217 => 71 | 266 => 80 | n => n, fun | 9 => 9 | 5 => 5 | 3 => 3 | n => n, fun n => n⟩
theorem lay_stringslite_IndexByte : Go.Proofs.Lays.n217 Tryd.prog lay_stringslite_IndexByte_ren := {
  mixed := by kernel_rfl
  f217 := Tryd.func71.trans (congrArg some (by kernel_rfl))
  f266 := Tryd.func80.trans (congrArg some (by kernel_rfl))
  t3 := Tryd.underlying3
  a3 := Tryd.isAgg3
  z3 := Tryd.sizeOf3
  v3 := Tryd.zeroValue3
  t5 := Tryd.underlying5
  a5 := Tryd.isAgg5
  z5 := Tryd.sizeOf5
  v5 := Tryd.zeroValue5
  t9 := Tryd.underlying9
  a9 := Tryd.isAgg9
  z9 := Tryd.sizeOf9
  v9 := Tryd.zeroValue9
  }
noncomputable def c_stringslite_IndexByte : Code := match Tryd.f71.body with | some c => c | none => .skip
noncomputable def ctr_stringslite_IndexByte (N : Nat) : Ctr := ctrOf (.cons .str (.int .u8)) (.int .i64) [] (fun v => stringslite_IndexByte N v.1 v.2)
theorem sound_stringslite_IndexByte (N : Nat) : SoundF Tryd.prog 71 (fun vs => (ctr_stringslite_IndexByte N).run vs some) := by
  have e1 : lay_stringslite_IndexByte_ren.f 217 = 71 := by kernel_rfl
  have h := idxb_sound lay_stringslite_IndexByte (fn := Tryd.f71) (c := c_stringslite_IndexByte) (by rw [e1]; exact Tryd.func71) (by kernel_rfl) (by kernel_rfl)
  rw [e1] at h
  exact h

noncomputable def c_stringslite_Index : Code := match Tryd.f58.body with | some c => c | none => .skip
noncomputable def tab_stringslite_Index (N : Nat) : List (Nat × Ctr) := [(71, ctr_stringslite_IndexByte N)]
noncomputable def env_stringslite_Index (N : Nat) : Env := mkEnv tyRows eqRows methRows [] [] (tab_stringslite_Index N)
theorem envok_stringslite_Index (N : Nat) : EnvOk Tryd.prog (env_stringslite_Index N) := mkEnv_ok tyRows_ok eqRows_ok methRows_ok ⟨sound_stringslite_IndexByte N, trivial⟩
noncomputable def lam_stringslite_Index (_ : Nat) : Lps := fun _ => none
noncomputable def ctr_stringslite_Index (N : Nat) : Ctr := ctrOf (.cons .str .str) (.int .i64) [] (fun v => stringslite_Index N v.1 v.2)
theorem sound_stringslite_Index (N : Nat) : SoundF Tryd.prog 58 (fun vs => (ctr_stringslite_Index N).run vs some) :=
  fn_sound (envok_stringslite_Index N) mixed (Λ := lam_stringslite_Index N) (fn := Tryd.f58) (c := c_stringslite_Index) Tryd.func58 (by kernel_rfl) (by kernel_rfl) (obs_ok (l := []) (by kernel_rfl) obsNil) (by kernel_rfl) (by intro v; kernel_rfl)

noncomputable def c_stringslite_Cut : Code := match Tryd.f50.body with | some c => c | none => .skip
noncomputable def tab_stringslite_Cut (N : Nat) : List (Nat × Ctr) := [(58, ctr_stringslite_Index N)]
noncomputable def env_stringslite_Cut (N : Nat) : Env := mkEnv tyRows eqRows methRows [] [] (tab_stringslite_Cut N)
theorem envok_stringslite_Cut (N : Nat) : EnvOk Tryd.prog (env_stringslite_Cut N) := mkEnv_ok tyRows_ok eqRows_ok methRows_ok ⟨sound_stringslite_Index N, trivial⟩
noncomputable def lam_stringslite_Cut (_ : Nat) : Lps := fun _ => none
noncomputable def ctr_stringslite_Cut (N : Nat) : Ctr := ctrOf (.cons .str .str) (.tup (.cons .str (.cons .str .bool))) [] (fun v => stringslite_Cut N v.1 v.2)
theorem sound_stringslite_Cut (N : Nat) : SoundF Tryd.prog 50 (fun vs => (ctr_stringslite_Cut N).run vs some) :=
  fn_sound (envok_stringslite_Cut N) mixed (Λ := lam_stringslite_Cut N) (fn := Tryd.f50) (c := c_stringslite_Cut) Tryd.func50 (by kernel_rfl) (by kernel_rfl) (obs_ok (l := []) (by kernel_rfl) obsNil) (by kernel_rfl) (by intro v; kernel_rfl)

noncomputable def c_strings_Cut : Code := match Tryd.f38.body with | some c => c | none => .skip
noncomputable def tab_strings_Cut (N : Nat) : List (Nat × Ctr) := [(50, ctr_stringslite_Cut N)]
noncomputable def env_strings_Cut (N : Nat) : Env := mkEnv tyRows eqRows methRows [] [] (tab_strings_Cut N)
theorem envok_strings_Cut (N : Nat) : EnvOk Tryd.prog (env_strings_Cut N) := mkEnv_ok tyRows_ok eqRows_ok methRows_ok ⟨sound_stringslite_Cut N, trivial⟩
noncomputable def lam_strings_Cut (_ : Nat) : Lps := fun _ => none
noncomputable def ctr_strings_Cut (N : Nat) : Ctr := ctrOf (.cons .str .str) (.tup (.cons .str (.cons .str .bool))) [] (fun v => strings_Cut N v.1 v.2)
theorem sound_strings_Cut (N : Nat) : SoundF Tryd.prog 38 (fun vs => (ctr_strings_Cut N).run vs some) :=
  fn_sound (envok_strings_Cut N) mixed (Λ := lam_strings_Cut N) (fn := Tryd.f38) (c := c_strings_Cut) Tryd.func38 (by kernel_rfl) (by kernel_rfl) (obs_ok (l := []) (by kernel_rfl) obsNil) (by kernel_rfl) (by intro v; kernel_rfl)

noncomputable def c_path_isName_c1 : Code := match Tryd.f48.body with | some c => c | none => .skip
noncomputable def tab_path_isName_c1 (_ : Nat) : List (Nat × Ctr) := []
noncomputable def env_path_isName_c1 (N : Nat) : Env := mkEnv tyRows eqRows methRows [] [] (tab_path_isName_c1 N)
theorem envok_path_isName_c1 (N : Nat) : EnvOk Tryd.prog (env_path_isName_c1 N) := mkEnv_ok tyRows_ok eqRows_ok methRows_ok trivial
noncomputable def lam_path_isName_c1 (_ : Nat) : Lps := fun _ => none
noncomputable def ctr_path_isName_c1 (N : Nat) : Ctr := ctrOf (.int .i32) .bool [] (fun v => path_isName_c1 N v)
theorem sound_path_isName_c1 (N : Nat) : SoundF Tryd.prog 48 (fun vs => (ctr_path_isName_c1 N).run vs some) :=
  fn_sound (envok_path_isName_c1 N) mixed (Λ := lam_path_isName_c1 N) (fn := Tryd.f48) (c := c_path_isName_c1) Tryd.func48 (by kernel_rfl) (by kernel_rfl) (obs_ok (l := []) (by kernel_rfl) obsNil) (by kernel_rfl) (by intro v; kernel_rfl)

noncomputable def lay_strings_indexFunc__path_isName_c1_ren : Go.Shelf.Ren := ⟨fun | 315 => 56 | n => n, fun | 9 => 9 | 40 => 84 | 4 => 4 | 3 => 3 | 0 => 0 | 21 => 21 | n => n, fun n => n⟩
theorem lay_strings_indexFunc__path_isName_c1 : Go.Proofs.Lays.n315 Tryd.prog lay_strings_indexFunc__path_isName_c1_ren := {
  mixed := by kernel_rfl
  f315 := Tryd.func56.trans (congrArg some (by kernel_rfl))
  t0 := Tryd.underlying0
  a0 := Tryd.isAgg0
  z0 := Tryd.sizeOf0
  v0 := Tryd.zeroValue0
  t3 := Tryd.underlying3
  a3 := Tryd.isAgg3
  z3 := Tryd.sizeOf3
  v3 := Tryd.zeroValue3
  t4 := Tryd.underlying4
  a4 := Tryd.isAgg4
  z4 := Tryd.sizeOf4
  v4 := Tryd.zeroValue4
  t9 := Tryd.underlying9
  a9 := Tryd.isAgg9
  z9 := Tryd.sizeOf9
  v9 := Tryd.zeroValue9
  t21 := Tryd.underlying21
  a21 := Tryd.isAgg21
  z21 := Tryd.sizeOf21
  v21 := Tryd.zeroValue21
  t40 := Tryd.underlying84
  a40 := Tryd.isAgg84
  z40 := Tryd.sizeOf84
  v40 := Tryd.zeroValue84
  }
theorem tot_strings_indexFunc__path_isName_c1 (N : Nat) (r : Nat) : (path_isName_c1 N (r : Int)).isSome = true := by
  simp only [path_isName_c1, Bool.cond_eq_ite]
  (repeat' split) <;> rfl
noncomputable def c_strings_indexFunc__path_isName_c1 : Code := match Tryd.f56.body with | some c => c | none => .skip
noncomputable def cg_strings_indexFunc__path_isName_c1 : Code := match Tryd.f48.body with | some c => c | none => .skip
noncomputable def ctr_strings_indexFunc__path_isName_c1 (N : Nat) : Ctr := ctrOf (.cons .str (.cons (.clo 48 .nil) .bool)) (.int .i64) [] (fun v => strings_indexFunc__path_isName_c1 N v.1 v.2.2)
theorem sound_strings_indexFunc__path_isName_c1 (N : Nat) : SoundF Tryd.prog 56 (fun vs => (ctr_strings_indexFunc__path_isName_c1 N).run vs some) := by
  have e1 : lay_strings_indexFunc__path_isName_c1_ren.f 315 = 56 := by kernel_rfl
  have h := idxfunc_sound lay_strings_indexFunc__path_isName_c1 (g := 48) (F := path_isName_c1 N) (sound_path_isName_c1 N) (tot_strings_indexFunc__path_isName_c1 N) (fg := Tryd.f48) (cg := cg_strings_indexFunc__path_isName_c1) Tryd.func48 (by kernel_rfl) (by kernel_rfl) (fn := Tryd.f56) (c := c_strings_indexFunc__path_isName_c1) (by rw [e1]; exact Tryd.func56) (by kernel_rfl) (by kernel_rfl)
  rw [e1] at h
  exact h

noncomputable def c_strings_IndexFunc__path_isName_c1 : Code := match Tryd.f47.body with | some c => c | none => .skip
noncomputable def tab_strings_IndexFunc__path_isName_c1 (N : Nat) : List (Nat × Ctr) := [(56, ctr_strings_indexFunc__path_isName_c1 N)]
noncomputable def env_strings_IndexFunc__path_isName_c1 (N : Nat) : Env := mkEnv tyRows eqRows methRows [] [] (tab_strings_IndexFunc__path_isName_c1 N)
theorem envok_strings_IndexFunc__path_isName_c1 (N : Nat) : EnvOk Tryd.prog (env_strings_IndexFunc__path_isName_c1 N) := mkEnv_ok tyRows_ok eqRows_ok methRows_ok ⟨sound_strings_indexFunc__path_isName_c1 N, trivial⟩
noncomputable def lam_strings_IndexFunc__path_isName_c1 (_ : Nat) : Lps := fun _ => none
noncomputable def ctr_strings_IndexFunc__path_isName_c1 (N : Nat) : Ctr := ctrOf (.cons .str (.clo 48 .nil)) (.int .i64) [] (fun v => strings_IndexFunc__path_isName_c1 N v.1)
theorem sound_strings_IndexFunc__path_isName_c1 (N : Nat) : SoundF Tryd.prog 47 (fun vs => (ctr_strings_IndexFunc__path_isName_c1 N).run vs some) :=
  fn_sound (envok_strings_IndexFunc__path_isName_c1 N) mixed (Λ := lam_strings_IndexFunc__path_isName_c1 N) (fn := Tryd.f47) (c := c_strings_IndexFunc__path_isName_c1) Tryd.func47 (by kernel_rfl) (by kernel_rfl) (obs_ok (l := []) (by kernel_rfl) obsNil) (by kernel_rfl) (by intro v; kernel_rfl)

noncomputable def c_path_isName : Code := match Tryd.f34.body with | some c => c | none => .skip
noncomputable def tab_path_isName (N : Nat) : List (Nat × Ctr) := [(47, ctr_strings_IndexFunc__path_isName_c1 N)]
noncomputable def env_path_isName (N : Nat) : Env := mkEnv tyRows eqRows methRows [] [] (tab_path_isName N)
theorem envok_path_isName (N : Nat) : EnvOk Tryd.prog (env_path_isName N) := mkEnv_ok tyRows_ok eqRows_ok methRows_ok ⟨sound_strings_IndexFunc__path_isName_c1 N, trivial⟩
noncomputable def lam_path_isName (_ : Nat) : Lps := fun _ => none
noncomputable def ctr_path_isName (N : Nat) : Ctr := ctrOf .str .bool [] (fun v => path_isName N v)
theorem sound_path_isName (N : Nat) : SoundF Tryd.prog 34 (fun vs => (ctr_path_isName N).run vs some) :=
  fn_sound (envok_path_isName N) mixed (Λ := lam_path_isName N) (fn := Tryd.f34) (c := c_path_isName) Tryd.func34 (by kernel_rfl) (by kernel_rfl) (obs_ok (l := []) (by kernel_rfl) obsNil) (by kernel_rfl) (by intro v; kernel_rfl)

noncomputable def c_path_Valid : Code := match Tryd.f20.body with | some c => c | none => .skip
noncomputable def tab_path_Valid (N : Nat) : List (Nat × Ctr) := [(38, ctr_strings_Cut N), (34, ctr_path_isName N)]
noncomputable def env_path_Valid (N : Nat) : Env := mkEnv tyRows eqRows methRows [] [] (tab_path_Valid N)
theorem envok_path_Valid (N : Nat) : EnvOk Tryd.prog (env_path_Valid N) := mkEnv_ok tyRows_ok eqRows_ok methRows_ok ⟨sound_strings_Cut N, ⟨sound_path_isName N, trivial⟩⟩
noncomputable def cut_path_Valid_l0 : Cut := { tms := [0], sh := .str, objs := [], sts := [] }
noncomputable def cut_path_Valid_l0_o0 : Cut := { tms := [2], sh := .bool, objs := [], sts := [] }
noncomputable def cut_path_Valid_l0_o1 : Cut := { tms := [], sh := .nil, objs := [], sts := [] }
noncomputable def lp_path_Valid_l0 (N : Nat) : Lp := lpOf cut_path_Valid_l0 (1, cut_path_Valid_l0_o0) [(2, cut_path_Valid_l0_o1)] (fun v => path_Valid_l0 N N v.1)
noncomputable def lam_path_Valid_l0 (_ : Nat) : Lps := fun _ => none
theorem lpok_path_Valid_l0 (N : Nat) (ro : Option Nat) : LpOk Tryd.prog 22 ro (lp_path_Valid_l0 N) (codeAt c_path_Valid [true, false, false]) := by
  rw [show (codeAt c_path_Valid [true, false, false]) = .loop (codeAt c_path_Valid [true, false, false, false]) by kernel_rfl]
  exact loop_ok (envok_path_Valid N) mixed (Λ := lam_path_Valid_l0 N) (p := 24) (obs_ok (l := []) (by kernel_rfl) obsNil) (by kernel_rfl) (by intro rec v; kernel_rfl) N
noncomputable def lam_path_Valid (N : Nat) : Lps := fun p => bif Nat.beq p 12 then some (lp_path_Valid_l0 N) else none
noncomputable def ctr_path_Valid (N : Nat) : Ctr := ctrOf .str .bool [] (fun v => path_Valid N v)
theorem sound_path_Valid (N : Nat) : SoundF Tryd.prog 20 (fun vs => (ctr_path_Valid N).run vs some) :=
  fn_sound (envok_path_Valid N) mixed (Λ := lam_path_Valid N) (fn := Tryd.f20) (c := c_path_Valid) Tryd.func20 (by kernel_rfl) (by kernel_rfl) (obs_ok (l := [(lp_path_Valid_l0 N, (codeAt c_path_Valid [true, false, false]))]) (by kernel_rfl) (obsCons (lpok_path_Valid_l0 N none) obsNil)) (by kernel_rfl) (by intro v; kernel_rfl)

noncomputable def c_path_Parse : Code := match Tryd.f14.body with | some c => c | none => .skip
noncomputable def tab_path_Parse (N : Nat) : List (Nat × Ctr) := [(33, ctr_strings_CutPrefix N), (20, ctr_path_Valid N)]
noncomputable def env_path_Parse (N : Nat) : Env := mkEnv tyRows eqRows methRows [] [] (tab_path_Parse N)
theorem envok_path_Parse (N : Nat) : EnvOk Tryd.prog (env_path_Parse N) := mkEnv_ok tyRows_ok eqRows_ok methRows_ok ⟨sound_strings_CutPrefix N, ⟨sound_path_Valid N, trivial⟩⟩
noncomputable def lam_path_Parse (_ : Nat) : Lps := fun _ => none
noncomputable def ctr_path_Parse (N : Nat) : Ctr := ctrOf .str (.tup (.cons .str (.int .i64))) [] (fun v => path_Parse N v)
theorem sound_path_Parse (N : Nat) : SoundF Tryd.prog 14 (fun vs => (ctr_path_Parse N).run vs some) :=
  fn_sound (envok_path_Parse N) mixed (Λ := lam_path_Parse N) (fn := Tryd.f14) (c := c_path_Parse) Tryd.func14 (by kernel_rfl) (by kernel_rfl) (obs_ok (l := []) (by kernel_rfl) obsNil) (by kernel_rfl) (by intro v; kernel_rfl)

noncomputable def c_path_Join : Code := match Tryd.f16.body with | some c => c | none => .skip
noncomputable def tab_path_Join (N : Nat) : List (Nat × Ctr) := [(20, ctr_path_Valid N), (34, ctr_path_isName N)]
noncomputable def env_path_Join (N : Nat) : Env := mkEnv tyRows eqRows methRows [] [] (tab_path_Join N)
theorem envok_path_Join (N : Nat) : EnvOk Tryd.prog (env_path_Join N) := mkEnv_ok tyRows_ok eqRows_ok methRows_ok ⟨sound_path_Valid N, ⟨sound_path_isName N, trivial⟩⟩
noncomputable def lam_path_Join (_ : Nat) : Lps := fun _ => none
noncomputable def ctr_path_Join (N : Nat) : Ctr := ctrOf (.cons .str .str) (.tup (.cons .str (.int .i64))) [] (fun v => path_Join N v.1 v.2)
theorem sound_path_Join (N : Nat) : SoundF Tryd.prog 16 (fun vs => (ctr_path_Join N).run vs some) :=
  fn_sound (envok_path_Join N) mixed (Λ := lam_path_Join N) (fn := Tryd.f16) (c := c_path_Join) Tryd.func16 (by kernel_rfl) (by kernel_rfl) (obs_ok (l := []) (by kernel_rfl) obsNil) (by kernel_rfl) (by intro v; kernel_rfl)

noncomputable def lay_strings_Trim_ren : Go.Shelf.Ren := ⟨fun | 160 => 54 | 232 => 62 | 231 => 61 | 227 => 63 | 234 => 65 | 233 => 64 | 236 => 67 | 235 => 66 | 228 => 70 | 271 => 77 | 151 => 76 | 197 => 75 | 120 => 83 | 152 => 68 | 260 => 82 | 137 => 78 | 119 => 79 | 224 => 73 | 225 => 72 | 217 => 71 | 266 => 80 | n => n, fun | 9 => 9 | 4 => 4 | 3 => 3 | 5 => 5 | 117 => 94 | 116 => 93 | 0 => 0 | 124 => 97 | 21 => 21 | 105 => 102 | 46 => 81 | 119 => 107 | 139 => 110 | 138 => 109 | n => n, fun | 3 => 1 | 4 => 2 | n => n⟩
theorem lay_strings_Trim : Go.Proofs.Lays.n160 Tryd.prog lay_strings_Trim_ren := {
  mixed := by kernel_rfl
  f119 := Tryd.func79.trans (congrArg some (by kernel_rfl))
  f120 := Tryd.func83.trans (congrArg some (by kernel_rfl))
  f137 := Tryd.func78.trans (congrArg some (by kernel_rfl))
  f151 := Tryd.func76.trans (congrArg some (by kernel_rfl))
  f152 := Tryd.func68.trans (congrArg some (by kernel_rfl))
  f160 := Tryd.func54.trans (congrArg some (by kernel_rfl))
  f197 := Tryd.func75.trans (congrArg some (by kernel_rfl))
  f217 := Tryd.func71.trans (congrArg some (by kernel_rfl))
  f224 := Tryd.func73.trans (congrArg some (by kernel_rfl))
  f225 := Tryd.func72.trans (congrArg some (by kernel_rfl))
  f227 := Tryd.func63.trans (congrArg some (by kernel_rfl))
  f228 := Tryd.func70.trans (congrArg some (by kernel_rfl))
  f231 := Tryd.func61.trans (congrArg some (by kernel_rfl))
  f232 := Tryd.func62.trans (congrArg some (by kernel_rfl))
  f233 := Tryd.func64.trans (congrArg some (by kernel_rfl))
  f234 := Tryd.func65.trans (congrArg some (by kernel_rfl))
  f235 := Tryd.func66.trans (congrArg some (by kernel_rfl))
  f236 := Tryd.func67.trans (congrArg some (by kernel_rfl))
  f260 := Tryd.func82.trans (congrArg some (by kernel_rfl))
  f266 := Tryd.func80.trans (congrArg some (by kernel_rfl))
  f271 := Tryd.func77.trans (congrArg some (by kernel_rfl))
  t0 := Tryd.underlying0
  a0 := Tryd.isAgg0
  z0 := Tryd.sizeOf0
  v0 := Tryd.zeroValue0
  t3 := Tryd.underlying3
  a3 := Tryd.isAgg3
  z3 := Tryd.sizeOf3
  v3 := Tryd.zeroValue3
  t4 := Tryd.underlying4
  a4 := Tryd.isAgg4
  z4 := Tryd.sizeOf4
  v4 := Tryd.zeroValue4
  t5 := Tryd.underlying5
  a5 := Tryd.isAgg5
  z5 := Tryd.sizeOf5
  v5 := Tryd.zeroValue5
  t9 := Tryd.underlying9
  a9 := Tryd.isAgg9
  z9 := Tryd.sizeOf9
  v9 := Tryd.zeroValue9
  t21 := Tryd.underlying21
  a21 := Tryd.isAgg21
  z21 := Tryd.sizeOf21
  v21 := Tryd.zeroValue21
  t46 := Tryd.underlying81
  a46 := Tryd.isAgg81
  z46 := Tryd.sizeOf81
  v46 := Tryd.zeroValue81
  t105 := Tryd.underlying102
  a105 := Tryd.isAgg102
  z105 := Tryd.sizeOf102
  v105 := Tryd.zeroValue102
  t116 := Tryd.underlying93
  a116 := Tryd.isAgg93
  z116 := Tryd.sizeOf93
  t117 := Tryd.underlying94
  a117 := Tryd.isAgg94
  z117 := Tryd.sizeOf94
  v117 := Tryd.zeroValue94
  t119 := Tryd.underlying107
  a119 := Tryd.isAgg107
  z119 := Tryd.sizeOf107
  t124 := Tryd.underlying97
  a124 := Tryd.isAgg97
  z124 := Tryd.sizeOf97
  v124 := Tryd.zeroValue97
  t138 := Tryd.underlying109
  a138 := Tryd.isAgg109
  z138 := Tryd.sizeOf109
  v138 := Tryd.zeroValue109
  t139 := Tryd.underlying110
  a139 := Tryd.isAgg110
  z139 := Tryd.sizeOf110
  v139 := Tryd.zeroValue110
  g3 := by kernel_rfl
  g4 := by kernel_rfl
  }
noncomputable def c_strings_Trim : Code := match Tryd.f54.body with | some c => c | none => .skip
noncomputable def ctr_strings_Trim (N : Nat) : Ctr := ctrOf (.cons .str .str) .str [] (fun v => strings_Trim N v.1 v.2)
theorem sound_strings_Trim (N : Nat) : SoundF Tryd.prog 54 (fun vs => (ctr_strings_Trim N).run vs some) := by
  have e1 : lay_strings_Trim_ren.f 160 = 54 := by kernel_rfl
  have h := trim_sound lay_strings_Trim (by kernel_rfl) (fn := Tryd.f54) (c := c_strings_Trim) (by rw [e1]; exact Tryd.func54) (by kernel_rfl) (by kernel_rfl)
  rw [e1] at h
  exact h

noncomputable def c_path_isBody : Code := match Tryd.f44.body with | some c => c | none => .skip
noncomputable def tab_path_isBody (N : Nat) : List (Nat × Ctr) := [(54, ctr_strings_Trim N)]
noncomputable def env_path_isBody (N : Nat) : Env := mkEnv tyRows eqRows methRows [] [] (tab_path_isBody N)
theorem envok_path_isBody (N : Nat) : EnvOk Tryd.prog (env_path_isBody N) := mkEnv_ok tyRows_ok eqRows_ok methRows_ok ⟨sound_strings_Trim N, trivial⟩
noncomputable def cut_path_isBody_p0 : Cut := { tms := [0], sh := .str, objs := [], sts := [] }
noncomputable def cut_path_isBody_p0_o0 : Cut := { tms := [2], sh := .bool, objs := [], sts := [] }
noncomputable def lp_path_isBody_p0 (N : Nat) : Lp := lpOf cut_path_isBody_p0 (1, cut_path_isBody_p0_o0) [] (fun v => path_isBody_p0 N v.1)
noncomputable def lam_path_isBody_p0 (_ : Nat) : Lps := fun _ => none
theorem lpok_path_isBody_p0 (N : Nat) (ro : Option Nat) : LpOk Tryd.prog 25 ro (lp_path_isBody_p0 N) (codeAt c_path_isBody [true, true]) :=
  piece_ok (envok_path_isBody N) mixed (Λ := lam_path_isBody_p0 N) (p := 7) (obs_ok (l := []) (by kernel_rfl) obsNil) (by kernel_rfl) (by intro v; kernel_rfl)
noncomputable def lam_path_isBody (N : Nat) : Lps := fun p => bif Nat.beq p 7 then some (lp_path_isBody_p0 N) else none
noncomputable def ctr_path_isBody (N : Nat) : Ctr := ctrOf .str .bool [] (fun v => path_isBody N v)
theorem sound_path_isBody (N : Nat) : SoundF Tryd.prog 44 (fun vs => (ctr_path_isBody N).run vs some) :=
  fn_sound (envok_path_isBody N) mixed (Λ := lam_path_isBody N) (fn := Tryd.f44) (c := c_path_isBody) Tryd.func44 (by kernel_rfl) (by kernel_rfl) (obs_ok (l := [(lp_path_isBody_p0 N, (codeAt c_path_isBody [true, true]))]) (by kernel_rfl) (obsCons (lpok_path_isBody_p0 N none) obsNil)) (by kernel_rfl) (by intro v; kernel_rfl)

noncomputable def c_path_Key : Code := match Tryd.f29.body with | some c => c | none => .skip
noncomputable def tab_path_Key (N : Nat) : List (Nat × Ctr) := [(20, ctr_path_Valid N), (34, ctr_path_isName N), (44, ctr_path_isBody N)]
noncomputable def env_path_Key (N : Nat) : Env := mkEnv tyRows eqRows methRows [] [] (tab_path_Key N)
theorem envok_path_Key (N : Nat) : EnvOk Tryd.prog (env_path_Key N) := mkEnv_ok tyRows_ok eqRows_ok methRows_ok ⟨sound_path_Valid N, ⟨sound_path_isName N, ⟨sound_path_isBody N, trivial⟩⟩⟩
noncomputable def cut_path_Key_p3 : Cut := { tms := [1, 4, 66], sh := (.cons (.ptr 2000000 0) (.cons (.ptr 2000001 0) .bool)), objs := [(2000000, [1], .box (.cons .str (.cons (.int .i64) (.cons (.int .i64) .str)))), (2000001, [4], .box (.cons .str (.cons (.int .i64) (.cons (.int .i64) .str))))], sts := [] }
noncomputable def cut_path_Key_p3_o0 : Cut := { tms := [2, 3], sh := (.cons .str (.int .i64)), objs := [], sts := [] }
noncomputable def cut_path_Key_p3_o1 : Cut := { tms := [], sh := .nil, objs := [], sts := [] }
noncomputable def lp_path_Key_p3 (N : Nat) : Lp := lpOf cut_path_Key_p3 (1, cut_path_Key_p3_o0) [(0, cut_path_Key_p3_o1)] (fun v => path_Key_p3 N v.1.2.2 v.2.1.1 v.2.1.2.1 v.2.1.2.2.1 v.2.1.2.2.2 v.2.2.1.1 v.2.2.1.2.1 v.2.2.1.2.2.1 v.2.2.1.2.2.2)
noncomputable def lam_path_Key_p3 (_ : Nat) : Lps := fun _ => none
theorem lpok_path_Key_p3 (N : Nat) (ro : Option Nat) : LpOk Tryd.prog 99 ro (lp_path_Key_p3 N) (codeAt c_path_Key [true, true, false, true, false, false, true, true, true, true, true]) :=
  piece_ok (envok_path_Key N) mixed (Λ := lam_path_Key_p3 N) (p := 3743) (obs_ok (l := []) (by kernel_rfl) obsNil) (by kernel_rfl) (by intro v; kernel_rfl)
noncomputable def cut_path_Key_p2 : Cut := { tms := [1, 4, 35], sh := (.cons (.ptr 2000000 0) (.cons (.ptr 2000001 0) .bool)), objs := [(2000000, [1], .box (.cons .str (.cons (.int .i64) (.cons (.int .i64) .str)))), (2000001, [4], .box (.cons .str (.cons (.int .i64) (.cons (.int .i64) .str))))], sts := [] }
noncomputable def cut_path_Key_p2_o0 : Cut := { tms := [2, 3], sh := (.cons .str (.int .i64)), objs := [], sts := [] }
noncomputable def cut_path_Key_p2_o1 : Cut := { tms := [], sh := .nil, objs := [], sts := [] }
noncomputable def lp_path_Key_p2 (N : Nat) : Lp := lpOf cut_path_Key_p2 (1, cut_path_Key_p2_o0) [(0, cut_path_Key_p2_o1)] (fun v => path_Key_p2 N v.1.2.2 v.2.1.1 v.2.1.2.1 v.2.1.2.2.1 v.2.1.2.2.2 v.2.2.1.1 v.2.2.1.2.1 v.2.2.1.2.2.1 v.2.2.1.2.2.2)
noncomputable def lam_path_Key_p2 (N : Nat) : Lps := fun p => bif Nat.beq p 3743 then some (lp_path_Key_p3 N) else none
theorem lpok_path_Key_p2 (N : Nat) (ro : Option Nat) : LpOk Tryd.prog 99 ro (lp_path_Key_p2 N) (codeAt c_path_Key [true, true, false, true, false, false, true, true, true]) :=
  piece_ok (envok_path_Key N) mixed (Λ := lam_path_Key_p2 N) (p := 935) (obs_ok (l := [(lp_path_Key_p3 N, (codeAt c_path_Key [true, true, false, true, false, false, true, true, true, true, true]))]) (by kernel_rfl) (obsCons (lpok_path_Key_p3 N ro) obsNil)) (by kernel_rfl) (by intro v; kernel_rfl)
noncomputable def cut_path_Key_p1 : Cut := { tms := [1, 4, 22], sh := (.cons (.ptr 2000000 0) (.cons (.ptr 2000001 0) .bool)), objs := [(2000000, [1], .box (.cons .str (.cons (.int .i64) (.cons (.int .i64) .str)))), (2000001, [4], .box (.cons .str (.cons (.int .i64) (.cons (.int .i64) .str))))], sts := [] }
noncomputable def cut_path_Key_p1_o0 : Cut := { tms := [2, 3], sh := (.cons .str (.int .i64)), objs := [], sts := [] }
noncomputable def cut_path_Key_p1_o1 : Cut := { tms := [], sh := .nil, objs := [], sts := [] }
noncomputable def lp_path_Key_p1 (N : Nat) : Lp := lpOf cut_path_Key_p1 (1, cut_path_Key_p1_o0) [(0, cut_path_Key_p1_o1)] (fun v => path_Key_p1 N v.1.2.2 v.2.1.1 v.2.1.2.1 v.2.1.2.2.1 v.2.1.2.2.2 v.2.2.1.1 v.2.2.1.2.1 v.2.2.1.2.2.1 v.2.2.1.2.2.2)
noncomputable def lam_path_Key_p1 (N : Nat) : Lps := fun p => bif Nat.beq p 935 then some (lp_path_Key_p2 N) else none
theorem lpok_path_Key_p1 (N : Nat) (ro : Option Nat) : LpOk Tryd.prog 99 ro (lp_path_Key_p1 N) (codeAt c_path_Key [true, true, false, true]) :=
  piece_ok (envok_path_Key N) mixed (Λ := lam_path_Key_p1 N) (p := 29) (obs_ok (l := [(lp_path_Key_p2 N, (codeAt c_path_Key [true, true, false, true, false, false, true, true, true]))]) (by kernel_rfl) (obsCons (lpok_path_Key_p2 N ro) obsNil)) (by kernel_rfl) (by intro v; kernel_rfl)
noncomputable def cut_path_Key_p0 : Cut := { tms := [], sh := .nil, objs := [], sts := [] }
noncomputable def cut_path_Key_p0_o0 : Cut := { tms := [2, 3], sh := (.cons .str (.int .i64)), objs := [], sts := [] }
noncomputable def lp_path_Key_p0 (N : Nat) : Lp := lpOf cut_path_Key_p0 (1, cut_path_Key_p0_o0) [] (fun _ => path_Key_p0 N)
noncomputable def lam_path_Key_p0 (_ : Nat) : Lps := fun _ => none
theorem lpok_path_Key_p0 (N : Nat) (ro : Option Nat) : LpOk Tryd.prog 99 ro (lp_path_Key_p0 N) (codeAt c_path_Key [true, true, true]) :=
  piece_ok (envok_path_Key N) mixed (Λ := lam_path_Key_p0 N) (p := 15) (obs_ok (l := []) (by kernel_rfl) obsNil) (by kernel_rfl) (by intro v; kernel_rfl)
noncomputable def lam_path_Key (N : Nat) : Lps := fun p => bif Nat.beq p 15 then some (lp_path_Key_p0 N) else bif Nat.beq p 29 then some (lp_path_Key_p1 N) else none
noncomputable def ctr_path_Key (N : Nat) : Ctr := ctrOf (.val T_api_Place) (.tup (.cons .str (.int .i64))) [] (fun v => path_Key N v)
theorem sound_path_Key (N : Nat) : SoundF Tryd.prog 29 (fun vs => (ctr_path_Key N).run vs some) :=
  fn_sound (envok_path_Key N) mixed (Λ := lam_path_Key N) (fn := Tryd.f29) (c := c_path_Key) Tryd.func29 (by kernel_rfl) (by kernel_rfl) (obs_ok (l := [(lp_path_Key_p1 N, (codeAt c_path_Key [true, true, false, true])), (lp_path_Key_p0 N, (codeAt c_path_Key [true, true, true]))]) (by kernel_rfl) (obsCons (lpok_path_Key_p1 N none) (obsCons (lpok_path_Key_p0 N none) obsNil))) (by kernel_rfl) (by intro v; kernel_rfl)

noncomputable def c_path_Body : Code := match Tryd.f32.body with | some c => c | none => .skip
noncomputable def tab_path_Body (_ : Nat) : List (Nat × Ctr) := []
noncomputable def env_path_Body (N : Nat) : Env := mkEnv tyRows eqRows methRows [] [] (tab_path_Body N)
theorem envok_path_Body (N : Nat) : EnvOk Tryd.prog (env_path_Body N) := mkEnv_ok tyRows_ok eqRows_ok methRows_ok trivial
noncomputable def cut_path_Body_l0 : Cut := { tms := [0, 3, 4], sh := (.cons (.int .i64) (.cons (.own 2000000) (.int .i64))), objs := [(2000000, [3], .sl (.int .u8))], sts := [] }
noncomputable def cut_path_Body_l0_o0 : Cut := { tms := [3], sh := (.own 2000000), objs := [(2000000, [3], .sl (.int .u8))], sts := [] }
noncomputable def lp_path_Body_l0 (N : Nat) : Lp := lpOf cut_path_Body_l0 (2, cut_path_Body_l0_o0) [] (fun v => path_Body_l0 N N v.1.1 v.1.2.2 v.2.1)
noncomputable def lam_path_Body_l0 (_ : Nat) : Lps := fun _ => none
theorem lpok_path_Body_l0 (N : Nat) (ro : Option Nat) : LpOk Tryd.prog 28 ro (lp_path_Body_l0 N) (codeAt c_path_Body [true, true, true, false, true, false]) := by
  rw [show (codeAt c_path_Body [true, true, true, false, true, false]) = .loop (codeAt c_path_Body [true, true, true, false, true, false, false]) by kernel_rfl]
  exact loop_ok (envok_path_Body N) mixed (Λ := lam_path_Body_l0 N) (p := 244) (obs_ok (l := []) (by kernel_rfl) obsNil) (by kernel_rfl) (by intro rec v; kernel_rfl) N
noncomputable def lam_path_Body (N : Nat) : Lps := fun p => bif Nat.beq p 122 then some (lp_path_Body_l0 N) else none
noncomputable def ctr_path_Body (N : Nat) : Ctr := ctrOf (.int .i64) .str [] (fun v => path_Body N v)
theorem sound_path_Body (N : Nat) : SoundF Tryd.prog 32 (fun vs => (ctr_path_Body N).run vs some) :=
  fn_sound (envok_path_Body N) mixed (Λ := lam_path_Body N) (fn := Tryd.f32) (c := c_path_Body) Tryd.func32 (by kernel_rfl) (by kernel_rfl) (obs_ok (l := [(lp_path_Body_l0 N, (codeAt c_path_Body [true, true, true, false, true, false]))]) (by kernel_rfl) (obsCons (lpok_path_Body_l0 N none) obsNil)) (by kernel_rfl) (by intro v; kernel_rfl)

noncomputable def lay_strings_IndexAny_ren : Go.Shelf.Ren := ⟨fun | 153 => 57 | 152 => 68 | 226 => 69 | 227 => 63 | 228 => 70 | 137 => 78 | 119 => 79 | 224 => 73 | 225 => 72 | 217 => 71 | 266 => 80 | n => n, fun | 9 => 9 | 3 => 3 | 4 => 4 | 5 => 5 | 21 => 21 | 117 => 94 | 116 => 93 | 0 => 0 | 46 => 81 | 124 => 97 | n => n, fun n => n⟩
theorem lay_strings_IndexAny : Go.Proofs.Lays.n153 Tryd.prog lay_strings_IndexAny_ren := {
  mixed := by kernel_rfl
  f119 := Tryd.func79.trans (congrArg some (by kernel_rfl))
  f137 := Tryd.func78.trans (congrArg some (by kernel_rfl))
  f152 := Tryd.func68.trans (congrArg some (by kernel_rfl))
  f153 := Tryd.func57.trans (congrArg some (by kernel_rfl))
  f217 := Tryd.func71.trans (congrArg some (by kernel_rfl))
  f224 := Tryd.func73.trans (congrArg some (by kernel_rfl))
  f225 := Tryd.func72.trans (congrArg some (by kernel_rfl))
  f226 := Tryd.func69.trans (congrArg some (by kernel_rfl))
  f227 := Tryd.func63.trans (congrArg some (by kernel_rfl))
  f228 := Tryd.func70.trans (congrArg some (by kernel_rfl))
  f266 := Tryd.func80.trans (congrArg some (by kernel_rfl))
  t0 := Tryd.underlying0
  a0 := Tryd.isAgg0
  z0 := Tryd.sizeOf0
  v0 := Tryd.zeroValue0
  t3 := Tryd.underlying3
  a3 := Tryd.isAgg3
  z3 := Tryd.sizeOf3
  v3 := Tryd.zeroValue3
  t4 := Tryd.underlying4
  a4 := Tryd.isAgg4
  z4 := Tryd.sizeOf4
  v4 := Tryd.zeroValue4
  t5 := Tryd.underlying5
  a5 := Tryd.isAgg5
  z5 := Tryd.sizeOf5
  v5 := Tryd.zeroValue5
  t9 := Tryd.underlying9
  a9 := Tryd.isAgg9
  z9 := Tryd.sizeOf9
  v9 := Tryd.zeroValue9
  t21 := Tryd.underlying21
  a21 := Tryd.isAgg21
  z21 := Tryd.sizeOf21
  v21 := Tryd.zeroValue21
  t46 := Tryd.underlying81
  a46 := Tryd.isAgg81
  z46 := Tryd.sizeOf81
  v46 := Tryd.zeroValue81
  t116 := Tryd.underlying93
  a116 := Tryd.isAgg93
  z116 := Tryd.sizeOf93
  t117 := Tryd.underlying94
  a117 := Tryd.isAgg94
  z117 := Tryd.sizeOf94
  v117 := Tryd.zeroValue94
  t124 := Tryd.underlying97
  a124 := Tryd.isAgg97
  z124 := Tryd.sizeOf97
  v124 := Tryd.zeroValue97
  }
noncomputable def c_strings_IndexAny : Code := match Tryd.f57.body with | some c => c | none => .skip
noncomputable def ctr_strings_IndexAny (N : Nat) : Ctr := ctrOf (.cons .str .str) (.int .i64) [] (fun v => strings_IndexAny N v.1 v.2)
theorem sound_strings_IndexAny (N : Nat) : SoundF Tryd.prog 57 (fun vs => (ctr_strings_IndexAny N).run vs some) := by
  have e1 : lay_strings_IndexAny_ren.f 153 = 57 := by kernel_rfl
  have h := any_sound lay_strings_IndexAny (by kernel_rfl) (fn := Tryd.f57) (c := c_strings_IndexAny) (by rw [e1]; exact Tryd.func57) (by kernel_rfl) (by kernel_rfl)
  rw [e1] at h
  exact h

noncomputable def c_path_rest_upTo_m : Code := match Tryd.f49.body with | some c => c | none => .skip
noncomputable def tab_path_rest_upTo_m (N : Nat) : List (Nat × Ctr) := [(57, ctr_strings_IndexAny N)]
noncomputable def env_path_rest_upTo_m (N : Nat) : Env := mkEnv tyRows eqRows methRows [] [] (tab_path_rest_upTo_m N)
theorem envok_path_rest_upTo_m (N : Nat) : EnvOk Tryd.prog (env_path_rest_upTo_m N) := mkEnv_ok tyRows_ok eqRows_ok methRows_ok ⟨sound_strings_IndexAny N, trivial⟩
noncomputable def lam_path_rest_upTo_m (_ : Nat) : Lps := fun _ => none
noncomputable def cut_path_rest_upTo_m_in : Cut := { tms := [0], sh := (.ptr 5000000 0), objs := [(5000000, [0], .box (.cons .str (.cons .str (.cons (.int .i64) (.cons (.int .i64) .str)))))], sts := [] }
noncomputable def cut_path_rest_upTo_m_out0 : Cut := { tms := [0], sh := (.tup (.cons .str (.int .u8))), objs := [(5000000, [5000000], .box (.cons .str (.cons .str (.cons (.int .i64) (.cons (.int .i64) .str)))))], sts := [] }
noncomputable def ctr_path_rest_upTo_m (N : Nat) : CtrM := ctrM cut_path_rest_upTo_m_in cut_path_rest_upTo_m_out0 [] (fun v => path_rest_upTo_m N v.2.1.1 v.2.1.2.1 v.2.1.2.2.1 v.2.1.2.2.2.1 v.2.1.2.2.2.2)
theorem sound_path_rest_upTo_m (N : Nat) : SoundM Tryd.prog 49 (ctr_path_rest_upTo_m N) :=
  fnM_sound (envok_path_rest_upTo_m N) mixed (Λ := lam_path_rest_upTo_m N) (fn := Tryd.f49) (c := c_path_rest_upTo_m) Tryd.func49 (by kernel_rfl) (by kernel_rfl) (obs_ok (l := []) (by kernel_rfl) obsNil) (by kernel_rfl) (by intro v; kernel_rfl)

noncomputable def c_path_place_read_m : Code := match Tryd.f36.body with | some c => c | none => .skip
noncomputable def tab_path_place_read_m (N : Nat) : List (Nat × Ctr) := [(33, ctr_strings_CutPrefix N)]
noncomputable def tabm_path_place_read_m (N : Nat) : List (Nat × CtrM) := [(49, ctr_path_rest_upTo_m N)]
noncomputable def env_path_place_read_m (N : Nat) : Env := mkEnv tyRows eqRows methRows [] [24] (tab_path_place_read_m N) (tabm_path_place_read_m N)
theorem envok_path_place_read_m (N : Nat) : EnvOk Tryd.prog (env_path_place_read_m N) := mkEnv_ok tyRows_ok eqRows_ok methRows_ok ⟨sound_strings_CutPrefix N, trivial⟩ ⟨sound_path_rest_upTo_m N, trivial⟩
noncomputable def cut_path_place_read_m_p0 : Cut := { tms := [0, 5, 38], sh := (.cons (.ptr 5000000 0) (.cons (.int .u8) .bool)), objs := [(5000000, [5000000], .box (.cons .str (.cons .str (.cons (.int .i64) (.cons (.int .i64) .str)))))], sts := [] }
noncomputable def cut_path_place_read_m_p0_o0 : Cut := { tms := [], sh := .nil, objs := [(5000000, [5000000], .box (.cons .str (.cons .str (.cons (.int .i64) (.cons (.int .i64) .str)))))], sts := [] }
noncomputable def lp_path_place_read_m_p0 (N : Nat) : Lp := lpOf cut_path_place_read_m_p0 (0, cut_path_place_read_m_p0_o0) [] (fun v => path_place_read_m_p0 N v.1.2.1 v.1.2.2 v.2.1.1 v.2.1.2.1 v.2.1.2.2.1 v.2.1.2.2.2.1 v.2.1.2.2.2.2)
noncomputable def lam_path_place_read_m_p0 (_ : Nat) : Lps := fun _ => none
theorem lpok_path_place_read_m_p0 (N : Nat) (ro : Option Nat) : LpOk Tryd.prog 92 ro (lp_path_place_read_m_p0 N) (codeAt c_path_place_read_m [true, true, true, true, false, true]) :=
  piece_ok (envok_path_place_read_m N) mixed (Λ := lam_path_place_read_m_p0 N) (p := 125) (obs_ok (l := []) (by kernel_rfl) obsNil) (by kernel_rfl) (by intro v; kernel_rfl)
noncomputable def lam_path_place_read_m (N : Nat) : Lps := fun p => bif Nat.beq p 125 then some (lp_path_place_read_m_p0 N) else none
noncomputable def cut_path_place_read_m_in : Cut := { tms := [0], sh := (.ptr 5000000 0), objs := [(5000000, [0], .box (.cons .str (.cons .str (.cons (.int .i64) (.cons (.int .i64) .str)))))], sts := [] }
noncomputable def cut_path_place_read_m_out0 : Cut := { tms := [0], sh := (.tup .nil), objs := [(5000000, [5000000], .box (.cons .str (.cons .str (.cons (.int .i64) (.cons (.int .i64) .str)))))], sts := [] }
noncomputable def ctr_path_place_read_m (N : Nat) : CtrM := ctrM cut_path_place_read_m_in cut_path_place_read_m_out0 [] (fun v => path_place_read_m N v.2.1.1 v.2.1.2.1 v.2.1.2.2.1 v.2.1.2.2.2.1 v.2.1.2.2.2.2)
theorem sound_path_place_read_m (N : Nat) : SoundM Tryd.prog 36 (ctr_path_place_read_m N) :=
  fnM_sound (envok_path_place_read_m N) mixed (Λ := lam_path_place_read_m N) (fn := Tryd.f36) (c := c_path_place_read_m) Tryd.func36 (by kernel_rfl) (by kernel_rfl) (obs_ok (l := [(lp_path_place_read_m_p0 N, (codeAt c_path_place_read_m [true, true, true, true, false, true]))]) (by kernel_rfl) (obsCons (lpok_path_place_read_m_p0 N none) obsNil)) (by kernel_rfl) (by intro v; kernel_rfl)

noncomputable def c_path_Place : Code := match Tryd.f18.body with | some c => c | none => .skip
noncomputable def tab_path_Place (N : Nat) : List (Nat × Ctr) := [(29, ctr_path_Key N)]
noncomputable def tabm_path_Place (N : Nat) : List (Nat × CtrM) := [(36, ctr_path_place_read_m N)]
noncomputable def env_path_Place (N : Nat) : Env := mkEnv tyRows eqRows methRows [] [12] (tab_path_Place N) (tabm_path_Place N)
theorem envok_path_Place (N : Nat) : EnvOk Tryd.prog (env_path_Place N) := mkEnv_ok tyRows_ok eqRows_ok methRows_ok ⟨sound_path_Key N, trivial⟩ ⟨sound_path_place_read_m N, trivial⟩
noncomputable def lam_path_Place (_ : Nat) : Lps := fun _ => none
noncomputable def ctr_path_Place (N : Nat) : Ctr := ctrOf .str (.tup (.cons (.val T_api_Place) (.int .i64))) [] (fun v => path_Place N v)
theorem sound_path_Place (N : Nat) : SoundF Tryd.prog 18 (fun vs => (ctr_path_Place N).run vs some) :=
  fn_sound (envok_path_Place N) mixed (Λ := lam_path_Place N) (fn := Tryd.f18) (c := c_path_Place) Tryd.func18 (by kernel_rfl) (by kernel_rfl) (obs_ok (l := []) (by kernel_rfl) obsNil) (by kernel_rfl) (by intro v; kernel_rfl)

noncomputable def c_stringslite_HasSuffix : Code := match Tryd.f60.body with | some c => c | none => .skip
noncomputable def tab_stringslite_HasSuffix (_ : Nat) : List (Nat × Ctr) := []
noncomputable def env_stringslite_HasSuffix (N : Nat) : Env := mkEnv tyRows eqRows methRows [] [] (tab_stringslite_HasSuffix N)
theorem envok_stringslite_HasSuffix (N : Nat) : EnvOk Tryd.prog (env_stringslite_HasSuffix N) := mkEnv_ok tyRows_ok eqRows_ok methRows_ok trivial
noncomputable def lam_stringslite_HasSuffix (_ : Nat) : Lps := fun _ => none
noncomputable def ctr_stringslite_HasSuffix (N : Nat) : Ctr := ctrOf (.cons .str .str) .bool [] (fun v => stringslite_HasSuffix N v.1 v.2)
theorem sound_stringslite_HasSuffix (N : Nat) : SoundF Tryd.prog 60 (fun vs => (ctr_stringslite_HasSuffix N).run vs some) :=
  fn_sound (envok_stringslite_HasSuffix N) mixed (Λ := lam_stringslite_HasSuffix N) (fn := Tryd.f60) (c := c_stringslite_HasSuffix) Tryd.func60 (by kernel_rfl) (by kernel_rfl) (obs_ok (l := []) (by kernel_rfl) obsNil) (by kernel_rfl) (by intro v; kernel_rfl)

noncomputable def c_stringslite_TrimSuffix : Code := match Tryd.f53.body with | some c => c | none => .skip
noncomputable def tab_stringslite_TrimSuffix (N : Nat) : List (Nat × Ctr) := [(60, ctr_stringslite_HasSuffix N)]
noncomputable def env_stringslite_TrimSuffix (N : Nat) : Env := mkEnv tyRows eqRows methRows [] [] (tab_stringslite_TrimSuffix N)
theorem envok_stringslite_TrimSuffix (N : Nat) : EnvOk Tryd.prog (env_stringslite_TrimSuffix N) := mkEnv_ok tyRows_ok eqRows_ok methRows_ok ⟨sound_stringslite_HasSuffix N, trivial⟩
noncomputable def lam_stringslite_TrimSuffix (_ : Nat) : Lps := fun _ => none
noncomputable def ctr_stringslite_TrimSuffix (N : Nat) : Ctr := ctrOf (.cons .str .str) .str [] (fun v => stringslite_TrimSuffix N v.1 v.2)
theorem sound_stringslite_TrimSuffix (N : Nat) : SoundF Tryd.prog 53 (fun vs => (ctr_stringslite_TrimSuffix N).run vs some) :=
  fn_sound (envok_stringslite_TrimSuffix N) mixed (Λ := lam_stringslite_TrimSuffix N) (fn := Tryd.f53) (c := c_stringslite_TrimSuffix) Tryd.func53 (by kernel_rfl) (by kernel_rfl) (obs_ok (l := []) (by kernel_rfl) obsNil) (by kernel_rfl) (by intro v; kernel_rfl)

noncomputable def c_strings_TrimSuffix : Code := match Tryd.f42.body with | some c => c | none => .skip
noncomputable def tab_strings_TrimSuffix (N : Nat) : List (Nat × Ctr) := [(53, ctr_stringslite_TrimSuffix N)]
noncomputable def env_strings_TrimSuffix (N : Nat) : Env := mkEnv tyRows eqRows methRows [] [] (tab_strings_TrimSuffix N)
theorem envok_strings_TrimSuffix (N : Nat) : EnvOk Tryd.prog (env_strings_TrimSuffix N) := mkEnv_ok tyRows_ok eqRows_ok methRows_ok ⟨sound_stringslite_TrimSuffix N, trivial⟩
noncomputable def lam_strings_TrimSuffix (_ : Nat) : Lps := fun _ => none
noncomputable def ctr_strings_TrimSuffix (N : Nat) : Ctr := ctrOf (.cons .str .str) .str [] (fun v => strings_TrimSuffix N v.1 v.2)
theorem sound_strings_TrimSuffix (N : Nat) : SoundF Tryd.prog 42 (fun vs => (ctr_strings_TrimSuffix N).run vs some) :=
  fn_sound (envok_strings_TrimSuffix N) mixed (Λ := lam_strings_TrimSuffix N) (fn := Tryd.f42) (c := c_strings_TrimSuffix) Tryd.func42 (by kernel_rfl) (by kernel_rfl) (obs_ok (l := []) (by kernel_rfl) obsNil) (by kernel_rfl) (by intro v; kernel_rfl)

noncomputable def c_path_Text : Code := match Tryd.f26.body with | some c => c | none => .skip
noncomputable def tab_path_Text (N : Nat) : List (Nat × Ctr) := [(42, ctr_strings_TrimSuffix N)]
noncomputable def env_path_Text (N : Nat) : Env := mkEnv tyRows eqRows methRows [] [] (tab_path_Text N)
theorem envok_path_Text (N : Nat) : EnvOk Tryd.prog (env_path_Text N) := mkEnv_ok tyRows_ok eqRows_ok methRows_ok ⟨sound_strings_TrimSuffix N, trivial⟩
noncomputable def lam_path_Text (_ : Nat) : Lps := fun _ => none
noncomputable def ctr_path_Text (N : Nat) : Ctr := ctrOf .str .str [] (fun v => path_Text N v)
theorem sound_path_Text (N : Nat) : SoundF Tryd.prog 26 (fun vs => (ctr_path_Text N).run vs some) :=
  fn_sound (envok_path_Text N) mixed (Λ := lam_path_Text N) (fn := Tryd.f26) (c := c_path_Text) Tryd.func26 (by kernel_rfl) (by kernel_rfl) (obs_ok (l := []) (by kernel_rfl) obsNil) (by kernel_rfl) (by intro v; kernel_rfl)

noncomputable def c_bytealg_LastIndexByteString : Code := match Tryd.f59.body with | some c => c | none => .skip
noncomputable def tab_bytealg_LastIndexByteString (_ : Nat) : List (Nat × Ctr) := []
noncomputable def env_bytealg_LastIndexByteString (N : Nat) : Env := mkEnv tyRows eqRows methRows [] [] (tab_bytealg_LastIndexByteString N)
theorem envok_bytealg_LastIndexByteString (N : Nat) : EnvOk Tryd.prog (env_bytealg_LastIndexByteString N) := mkEnv_ok tyRows_ok eqRows_ok methRows_ok trivial
noncomputable def cut_bytealg_LastIndexByteString_l0 : Cut := { tms := [0, 1, 5], sh := (.cons .str (.cons (.int .u8) (.int .i64))), objs := [], sts := [] }
noncomputable def cut_bytealg_LastIndexByteString_l0_o0 : Cut := { tms := [4], sh := (.int .i64), objs := [], sts := [] }
noncomputable def cut_bytealg_LastIndexByteString_l0_o1 : Cut := { tms := [], sh := .nil, objs := [], sts := [] }
noncomputable def lp_bytealg_LastIndexByteString_l0 (N : Nat) : Lp := lpOf cut_bytealg_LastIndexByteString_l0 (1, cut_bytealg_LastIndexByteString_l0_o0) [(2, cut_bytealg_LastIndexByteString_l0_o1)] (fun v => bytealg_LastIndexByteString_l0 N N v.1.1 v.1.2.1 v.1.2.2)
noncomputable def lam_bytealg_LastIndexByteString_l0 (_ : Nat) : Lps := fun _ => none
theorem lpok_bytealg_LastIndexByteString_l0 (N : Nat) (ro : Option Nat) : LpOk Tryd.prog 19 ro (lp_bytealg_LastIndexByteString_l0 N) (codeAt c_bytealg_LastIndexByteString [true, false, true, false]) := by
  rw [show (codeAt c_bytealg_LastIndexByteString [true, false, true, false]) = .loop (codeAt c_bytealg_LastIndexByteString [true, false, true, false, false]) by kernel_rfl]
  exact loop_ok (envok_bytealg_LastIndexByteString N) mixed (Λ := lam_bytealg_LastIndexByteString_l0 N) (p := 52) (obs_ok (l := []) (by kernel_rfl) obsNil) (by kernel_rfl) (by intro rec v; kernel_rfl) N
noncomputable def lam_bytealg_LastIndexByteString (N : Nat) : Lps := fun p => bif Nat.beq p 26 then some (lp_bytealg_LastIndexByteString_l0 N) else none
noncomputable def ctr_bytealg_LastIndexByteString (N : Nat) : Ctr := ctrOf (.cons .str (.int .u8)) (.int .i64) [] (fun v => bytealg_LastIndexByteString N v.1 v.2)
theorem sound_bytealg_LastIndexByteString (N : Nat) : SoundF Tryd.prog 59 (fun vs => (ctr_bytealg_LastIndexByteString N).run vs some) :=
  fn_sound (envok_bytealg_LastIndexByteString N) mixed (Λ := lam_bytealg_LastIndexByteString N) (fn := Tryd.f59) (c := c_bytealg_LastIndexByteString) Tryd.func59 (by kernel_rfl) (by kernel_rfl) (obs_ok (l := [(lp_bytealg_LastIndexByteString_l0 N, (codeAt c_bytealg_LastIndexByteString [true, false, true, false]))]) (by kernel_rfl) (obsCons (lpok_bytealg_LastIndexByteString_l0 N none) obsNil)) (by kernel_rfl) (by intro v; kernel_rfl)

noncomputable def c_strings_LastIndexByte : Code := match Tryd.f51.body with | some c => c | none => .skip
noncomputable def tab_strings_LastIndexByte (N : Nat) : List (Nat × Ctr) := [(59, ctr_bytealg_LastIndexByteString N)]
noncomputable def env_strings_LastIndexByte (N : Nat) : Env := mkEnv tyRows eqRows methRows [] [] (tab_strings_LastIndexByte N)
theorem envok_strings_LastIndexByte (N : Nat) : EnvOk Tryd.prog (env_strings_LastIndexByte N) := mkEnv_ok tyRows_ok eqRows_ok methRows_ok ⟨sound_bytealg_LastIndexByteString N, trivial⟩
noncomputable def lam_strings_LastIndexByte (_ : Nat) : Lps := fun _ => none
noncomputable def ctr_strings_LastIndexByte (N : Nat) : Ctr := ctrOf (.cons .str (.int .u8)) (.int .i64) [] (fun v => strings_LastIndexByte N v.1 v.2)
theorem sound_strings_LastIndexByte (N : Nat) : SoundF Tryd.prog 51 (fun vs => (ctr_strings_LastIndexByte N).run vs some) :=
  fn_sound (envok_strings_LastIndexByte N) mixed (Λ := lam_strings_LastIndexByte N) (fn := Tryd.f51) (c := c_strings_LastIndexByte) Tryd.func51 (by kernel_rfl) (by kernel_rfl) (obs_ok (l := []) (by kernel_rfl) obsNil) (by kernel_rfl) (by intro v; kernel_rfl)

noncomputable def c_path_Split : Code := match Tryd.f40.body with | some c => c | none => .skip
noncomputable def tab_path_Split (N : Nat) : List (Nat × Ctr) := [(20, ctr_path_Valid N), (51, ctr_strings_LastIndexByte N)]
noncomputable def env_path_Split (N : Nat) : Env := mkEnv tyRows eqRows methRows [] [] (tab_path_Split N)
theorem envok_path_Split (N : Nat) : EnvOk Tryd.prog (env_path_Split N) := mkEnv_ok tyRows_ok eqRows_ok methRows_ok ⟨sound_path_Valid N, ⟨sound_strings_LastIndexByte N, trivial⟩⟩
noncomputable def lam_path_Split (_ : Nat) : Lps := fun _ => none
noncomputable def ctr_path_Split (N : Nat) : Ctr := ctrOf .str (.tup (.cons .str (.cons .str (.int .i64)))) [] (fun v => path_Split N v)
theorem sound_path_Split (N : Nat) : SoundF Tryd.prog 40 (fun vs => (ctr_path_Split N).run vs some) :=
  fn_sound (envok_path_Split N) mixed (Λ := lam_path_Split N) (fn := Tryd.f40) (c := c_path_Split) Tryd.func40 (by kernel_rfl) (by kernel_rfl) (obs_ok (l := []) (by kernel_rfl) obsNil) (by kernel_rfl) (by intro v; kernel_rfl)

noncomputable def c_law01_split : Code := match Tryd.f22.body with | some c => c | none => .skip
noncomputable def tab_law01_split (N : Nat) : List (Nat × Ctr) := [(40, ctr_path_Split N)]
noncomputable def env_law01_split (N : Nat) : Env := mkEnv tyRows eqRows methRows [] [] (tab_law01_split N)
theorem envok_law01_split (N : Nat) : EnvOk Tryd.prog (env_law01_split N) := mkEnv_ok tyRows_ok eqRows_ok methRows_ok ⟨sound_path_Split N, trivial⟩
noncomputable def lam_law01_split (_ : Nat) : Lps := fun _ => none
noncomputable def ctr_law01_split (N : Nat) : Ctr := ctrOf .str (.val T_ref01_Parts) [] (fun v => law01_split N v)
theorem sound_law01_split (N : Nat) : SoundF Tryd.prog 22 (fun vs => (ctr_law01_split N).run vs some) :=
  fn_sound (envok_law01_split N) mixed (Λ := lam_law01_split N) (fn := Tryd.f22) (c := c_law01_split) Tryd.func22 (by kernel_rfl) (by kernel_rfl) (obs_ok (l := []) (by kernel_rfl) obsNil) (by kernel_rfl) (by intro v; kernel_rfl)

noncomputable def c_strings_HasPrefix : Code := match Tryd.f41.body with | some c => c | none => .skip
noncomputable def tab_strings_HasPrefix (N : Nat) : List (Nat × Ctr) := [(52, ctr_stringslite_HasPrefix N)]
noncomputable def env_strings_HasPrefix (N : Nat) : Env := mkEnv tyRows eqRows methRows [] [] (tab_strings_HasPrefix N)
theorem envok_strings_HasPrefix (N : Nat) : EnvOk Tryd.prog (env_strings_HasPrefix N) := mkEnv_ok tyRows_ok eqRows_ok methRows_ok ⟨sound_stringslite_HasPrefix N, trivial⟩
noncomputable def lam_strings_HasPrefix (_ : Nat) : Lps := fun _ => none
noncomputable def ctr_strings_HasPrefix (N : Nat) : Ctr := ctrOf (.cons .str .str) .bool [] (fun v => strings_HasPrefix N v.1 v.2)
theorem sound_strings_HasPrefix (N : Nat) : SoundF Tryd.prog 41 (fun vs => (ctr_strings_HasPrefix N).run vs some) :=
  fn_sound (envok_strings_HasPrefix N) mixed (Λ := lam_strings_HasPrefix N) (fn := Tryd.f41) (c := c_strings_HasPrefix) Tryd.func41 (by kernel_rfl) (by kernel_rfl) (obs_ok (l := []) (by kernel_rfl) obsNil) (by kernel_rfl) (by intro v; kernel_rfl)

noncomputable def c_path_Under : Code := match Tryd.f24.body with | some c => c | none => .skip
noncomputable def tab_path_Under (N : Nat) : List (Nat × Ctr) := [(41, ctr_strings_HasPrefix N)]
noncomputable def env_path_Under (N : Nat) : Env := mkEnv tyRows eqRows methRows [] [] (tab_path_Under N)
theorem envok_path_Under (N : Nat) : EnvOk Tryd.prog (env_path_Under N) := mkEnv_ok tyRows_ok eqRows_ok methRows_ok ⟨sound_strings_HasPrefix N, trivial⟩
noncomputable def lam_path_Under (_ : Nat) : Lps := fun _ => none
noncomputable def ctr_path_Under (N : Nat) : Ctr := ctrOf (.cons .str .str) .bool [] (fun v => path_Under N v.1 v.2)
theorem sound_path_Under (N : Nat) : SoundF Tryd.prog 24 (fun vs => (ctr_path_Under N).run vs some) :=
  fn_sound (envok_path_Under N) mixed (Λ := lam_path_Under N) (fn := Tryd.f24) (c := c_path_Under) Tryd.func24 (by kernel_rfl) (by kernel_rfl) (obs_ok (l := []) (by kernel_rfl) obsNil) (by kernel_rfl) (by intro v; kernel_rfl)

noncomputable def c_law01_sanity : Code := match Tryd.f12.body with | some c => c | none => .skip
noncomputable def tab_law01_sanity (N : Nat) : List (Nat × Ctr) := [(14, ctr_path_Parse N), (16, ctr_path_Join N), (29, ctr_path_Key N), (32, ctr_path_Body N), (18, ctr_path_Place N), (26, ctr_path_Text N), (22, ctr_law01_split N), (24, ctr_path_Under N), (20, ctr_path_Valid N)]
noncomputable def env_law01_sanity (N : Nat) : Env := mkEnv tyRows eqRows methRows [] [] (tab_law01_sanity N)
theorem envok_law01_sanity (N : Nat) : EnvOk Tryd.prog (env_law01_sanity N) := mkEnv_ok tyRows_ok eqRows_ok methRows_ok ⟨sound_path_Parse N, ⟨sound_path_Join N, ⟨sound_path_Key N, ⟨sound_path_Body N, ⟨sound_path_Place N, ⟨sound_path_Text N, ⟨sound_law01_split N, ⟨sound_path_Under N, ⟨sound_path_Valid N, trivial⟩⟩⟩⟩⟩⟩⟩⟩⟩
noncomputable def cut_law01_sanity_p2 : Cut := { tms := [0], sh := .bool, objs := [], sts := [] }
noncomputable def cut_law01_sanity_p2_o0 : Cut := { tms := [0], sh := .bool, objs := [], sts := [] }
noncomputable def lp_law01_sanity_p2 (N : Nat) : Lp := lpOf cut_law01_sanity_p2 (1, cut_law01_sanity_p2_o0) [] (fun v => law01_sanity_p2 N v.1)
noncomputable def lam_law01_sanity_p2 (_ : Nat) : Lps := fun _ => none
theorem lpok_law01_sanity_p2 (N : Nat) (ro : Option Nat) : LpOk Tryd.prog 134 ro (lp_law01_sanity_p2 N) (codeAt c_law01_sanity [true, true, true, true, true, true, true, true, true, true, true, true]) :=
  piece_ok (envok_law01_sanity N) mixed (Λ := lam_law01_sanity_p2 N) (p := 8191) (obs_ok (l := []) (by kernel_rfl) obsNil) (by kernel_rfl) (by intro v; kernel_rfl)
noncomputable def cut_law01_sanity_p1 : Cut := { tms := [10, 17, 18], sh := (.cons (.int .i64) (.cons .bool .bool)), objs := [], sts := [] }
noncomputable def cut_law01_sanity_p1_o0 : Cut := { tms := [0], sh := .bool, objs := [], sts := [] }
noncomputable def lp_law01_sanity_p1 (N : Nat) : Lp := lpOf cut_law01_sanity_p1 (1, cut_law01_sanity_p1_o0) [] (fun v => law01_sanity_p1 N v.1.1 v.1.2.1 v.1.2.2)
noncomputable def lam_law01_sanity_p1 (N : Nat) : Lps := fun p => bif Nat.beq p 8191 then some (lp_law01_sanity_p2 N) else none
theorem lpok_law01_sanity_p1 (N : Nat) (ro : Option Nat) : LpOk Tryd.prog 134 ro (lp_law01_sanity_p1 N) (codeAt c_law01_sanity [true, true, true, true, true, true, true, true, true, true, true]) :=
  piece_ok (envok_law01_sanity N) mixed (Λ := lam_law01_sanity_p1 N) (p := 4095) (obs_ok (l := [(lp_law01_sanity_p2 N, (codeAt c_law01_sanity [true, true, true, true, true, true, true, true, true, true, true, true]))]) (by kernel_rfl) (obsCons (lpok_law01_sanity_p2 N ro) obsNil)) (by kernel_rfl) (by intro v; kernel_rfl)
noncomputable def cut_law01_sanity_p0 : Cut := { tms := [10, 11, 12, 13, 14, 16, 17], sh := (.cons (.int .i64) (.cons .str (.cons (.int .i64) (.cons .str (.cons (.int .i64) (.cons (.int .i64) .bool)))))), objs := [], sts := [] }
noncomputable def cut_law01_sanity_p0_o0 : Cut := { tms := [0], sh := .bool, objs := [], sts := [] }
noncomputable def lp_law01_sanity_p0 (N : Nat) : Lp := lpOf cut_law01_sanity_p0 (1, cut_law01_sanity_p0_o0) [] (fun v => law01_sanity_p0 N v.1.1 v.1.2.1 v.1.2.2.1 v.1.2.2.2.1 v.1.2.2.2.2.1 v.1.2.2.2.2.2.1 v.1.2.2.2.2.2.2)
noncomputable def lam_law01_sanity_p0 (N : Nat) : Lps := fun p => bif Nat.beq p 4095 then some (lp_law01_sanity_p1 N) else none
theorem lpok_law01_sanity_p0 (N : Nat) (ro : Option Nat) : LpOk Tryd.prog 134 ro (lp_law01_sanity_p0 N) (codeAt c_law01_sanity [true, true, true, true, true, true, true, true, true, true]) :=
  piece_ok (envok_law01_sanity N) mixed (Λ := lam_law01_sanity_p0 N) (p := 2047) (obs_ok (l := [(lp_law01_sanity_p1 N, (codeAt c_law01_sanity [true, true, true, true, true, true, true, true, true, true, true]))]) (by kernel_rfl) (obsCons (lpok_law01_sanity_p1 N ro) obsNil)) (by kernel_rfl) (by intro v; kernel_rfl)
noncomputable def lam_law01_sanity (N : Nat) : Lps := fun p => bif Nat.beq p 2047 then some (lp_law01_sanity_p0 N) else none
noncomputable def ctr_law01_sanity (N : Nat) : Ctr := ctrOf .nil .bool [] (fun _ => law01_sanity N)
theorem sound_law01_sanity (N : Nat) : SoundF Tryd.prog 12 (fun vs => (ctr_law01_sanity N).run vs some) :=
  fn_sound (envok_law01_sanity N) mixed (Λ := lam_law01_sanity N) (fn := Tryd.f12) (c := c_law01_sanity) Tryd.func12 (by kernel_rfl) (by kernel_rfl) (obs_ok (l := [(lp_law01_sanity_p0 N, (codeAt c_law01_sanity [true, true, true, true, true, true, true, true, true, true]))]) (by kernel_rfl) (obsCons (lpok_law01_sanity_p0 N none) obsNil)) (by kernel_rfl) (by intro v; kernel_rfl)

noncomputable def c_ref01_Call : Code := match Tryd.f31.body with | some c => c | none => .skip
noncomputable def tab_ref01_Call (_ : Nat) : List (Nat × Ctr) := []
noncomputable def env_ref01_Call (N : Nat) : Env := mkEnv tyRows eqRows methRows [] [] (tab_ref01_Call N)
theorem envok_ref01_Call (N : Nat) : EnvOk Tryd.prog (env_ref01_Call N) := mkEnv_ok tyRows_ok eqRows_ok methRows_ok trivial
noncomputable def lam_ref01_Call (_ : Nat) : Lps := fun _ => none
noncomputable def ctr_ref01_Call (N : Nat) : Ctr := ctrOf (.int .u8) .str [] (fun v => ref01_Call N v)
theorem sound_ref01_Call (N : Nat) : SoundF Tryd.prog 31 (fun vs => (ctr_ref01_Call N).run vs some) :=
  fn_sound (envok_ref01_Call N) mixed (Λ := lam_ref01_Call N) (fn := Tryd.f31) (c := c_ref01_Call) Tryd.func31 (by kernel_rfl) (by kernel_rfl) (obs_ok (l := []) (by kernel_rfl) obsNil) (by kernel_rfl) (by intro v; kernel_rfl)

noncomputable def c_ref01_Made : Code := match Tryd.f13.body with | some c => c | none => .skip
noncomputable def tab_ref01_Made (N : Nat) : List (Nat × Ctr) := [(31, ctr_ref01_Call N)]
noncomputable def env_ref01_Made (N : Nat) : Env := mkEnv tyRows eqRows methRows [] [] (tab_ref01_Made N)
theorem envok_ref01_Made (N : Nat) : EnvOk Tryd.prog (env_ref01_Made N) := mkEnv_ok tyRows_ok eqRows_ok methRows_ok ⟨sound_ref01_Call N, trivial⟩
noncomputable def cut_ref01_Made_l0 : Cut := { tms := [0, 3, 4], sh := (.cons (.list (.int .u8)) (.cons .str (.int .i64))), objs := [], sts := [] }
noncomputable def cut_ref01_Made_l0_o0 : Cut := { tms := [3], sh := .str, objs := [], sts := [] }
noncomputable def lp_ref01_Made_l0 (N : Nat) : Lp := lpOf cut_ref01_Made_l0 (2, cut_ref01_Made_l0_o0) [] (fun v => ref01_Made_l0 N N v.1.1 v.1.2.1 v.1.2.2)
noncomputable def lam_ref01_Made_l0 (_ : Nat) : Lps := fun _ => none
theorem lpok_ref01_Made_l0 (N : Nat) (ro : Option Nat) : LpOk Tryd.prog 24 ro (lp_ref01_Made_l0 N) (codeAt c_ref01_Made [true, true, false, true, false]) := by
  rw [show (codeAt c_ref01_Made [true, true, false, true, false]) = .loop (codeAt c_ref01_Made [true, true, false, true, false, false]) by kernel_rfl]
  exact loop_ok (envok_ref01_Made N) mixed (Λ := lam_ref01_Made_l0 N) (p := 116) (obs_ok (l := []) (by kernel_rfl) obsNil) (by kernel_rfl) (by intro rec v; kernel_rfl) N
noncomputable def lam_ref01_Made (N : Nat) : Lps := fun p => bif Nat.beq p 58 then some (lp_ref01_Made_l0 N) else none
noncomputable def ctr_ref01_Made (N : Nat) : Ctr := ctrOf (.list (.int .u8)) .str [] (fun v => ref01_Made N v)
theorem sound_ref01_Made (N : Nat) : SoundF Tryd.prog 13 (fun vs => (ctr_ref01_Made N).run vs some) :=
  fn_sound (envok_ref01_Made N) mixed (Λ := lam_ref01_Made N) (fn := Tryd.f13) (c := c_ref01_Made) Tryd.func13 (by kernel_rfl) (by kernel_rfl) (obs_ok (l := [(lp_ref01_Made_l0 N, (codeAt c_ref01_Made [true, true, false, true, false]))]) (by kernel_rfl) (obsCons (lpok_ref01_Made_l0 N none) obsNil)) (by kernel_rfl) (by intro v; kernel_rfl)

noncomputable def c_ref01_Names : Code := match Tryd.f39.body with | some c => c | none => .skip
noncomputable def tab_ref01_Names (_ : Nat) : List (Nat × Ctr) := []
noncomputable def env_ref01_Names (N : Nat) : Env := mkEnv tyRows eqRows methRows [] [] (tab_ref01_Names N)
theorem envok_ref01_Names (N : Nat) : EnvOk Tryd.prog (env_ref01_Names N) := mkEnv_ok tyRows_ok eqRows_ok methRows_ok trivial
noncomputable def cut_ref01_Names_l0 : Cut := { tms := [0, 4, 5, 6], sh := (.cons .str (.cons (.own 2000000) (.cons .str (.int .i64)))), objs := [(2000000, [4], .sl .str)], sts := [] }
noncomputable def cut_ref01_Names_l0_o0 : Cut := { tms := [4, 5], sh := (.cons (.own 2000000) .str), objs := [(2000000, [4], .sl .str)], sts := [] }
noncomputable def lp_ref01_Names_l0 (N : Nat) : Lp := lpOf cut_ref01_Names_l0 (2, cut_ref01_Names_l0_o0) [] (fun v => ref01_Names_l0 N N v.1.1 v.1.2.2.1 v.1.2.2.2 v.2.1)
noncomputable def lam_ref01_Names_l0 (_ : Nat) : Lps := fun _ => none
theorem lpok_ref01_Names_l0 (N : Nat) (ro : Option Nat) : LpOk Tryd.prog 32 ro (lp_ref01_Names_l0 N) (codeAt c_ref01_Names [true, true, false, true, false]) := by
  rw [show (codeAt c_ref01_Names [true, true, false, true, false]) = .loop (codeAt c_ref01_Names [true, true, false, true, false, false]) by kernel_rfl]
  exact loop_ok (envok_ref01_Names N) mixed (Λ := lam_ref01_Names_l0 N) (p := 116) (obs_ok (l := []) (by kernel_rfl) obsNil) (by kernel_rfl) (by intro rec v; kernel_rfl) N
noncomputable def lam_ref01_Names (N : Nat) : Lps := fun p => bif Nat.beq p 58 then some (lp_ref01_Names_l0 N) else none
noncomputable def ctr_ref01_Names (N : Nat) : Ctr := ctrOf .str (.tup (.cons (.fresh .str) .bool)) [] (fun v => ref01_Names N v)
theorem sound_ref01_Names (N : Nat) : SoundF Tryd.prog 39 (fun vs => (ctr_ref01_Names N).run vs some) :=
  fn_sound (envok_ref01_Names N) mixed (Λ := lam_ref01_Names N) (fn := Tryd.f39) (c := c_ref01_Names) Tryd.func39 (by kernel_rfl) (by kernel_rfl) (obs_ok (l := [(lp_ref01_Names_l0 N, (codeAt c_ref01_Names [true, true, false, true, false]))]) (by kernel_rfl) (obsCons (lpok_ref01_Names_l0 N none) obsNil)) (by kernel_rfl) (by intro v; kernel_rfl)

noncomputable def c_ref01_Name : Code := match Tryd.f35.body with | some c => c | none => .skip
noncomputable def tab_ref01_Name (_ : Nat) : List (Nat × Ctr) := []
noncomputable def env_ref01_Name (N : Nat) : Env := mkEnv tyRows eqRows methRows [] [] (tab_ref01_Name N)
theorem envok_ref01_Name (N : Nat) : EnvOk Tryd.prog (env_ref01_Name N) := mkEnv_ok tyRows_ok eqRows_ok methRows_ok trivial
noncomputable def cut_ref01_Name_l0 : Cut := { tms := [0, 3], sh := (.cons .str (.int .i64)), objs := [], sts := [] }
noncomputable def cut_ref01_Name_l0_o0 : Cut := { tms := [2], sh := .bool, objs := [], sts := [] }
noncomputable def cut_ref01_Name_l0_o1 : Cut := { tms := [], sh := .nil, objs := [], sts := [] }
noncomputable def lp_ref01_Name_l0 (N : Nat) : Lp := lpOf cut_ref01_Name_l0 (1, cut_ref01_Name_l0_o0) [(2, cut_ref01_Name_l0_o1)] (fun v => ref01_Name_l0 N N v.1.1 v.1.2)
noncomputable def lam_ref01_Name_l0 (_ : Nat) : Lps := fun _ => none
theorem lpok_ref01_Name_l0 (N : Nat) (ro : Option Nat) : LpOk Tryd.prog 42 ro (lp_ref01_Name_l0 N) (codeAt c_ref01_Name [true, true, false, true, false]) := by
  rw [show (codeAt c_ref01_Name [true, true, false, true, false]) = .loop (codeAt c_ref01_Name [true, true, false, true, false, false]) by kernel_rfl]
  exact loop_ok (envok_ref01_Name N) mixed (Λ := lam_ref01_Name_l0 N) (p := 116) (obs_ok (l := []) (by kernel_rfl) obsNil) (by kernel_rfl) (by intro rec v; kernel_rfl) N
noncomputable def lam_ref01_Name (N : Nat) : Lps := fun p => bif Nat.beq p 58 then some (lp_ref01_Name_l0 N) else none
noncomputable def ctr_ref01_Name (N : Nat) : Ctr := ctrOf .str .bool [] (fun v => ref01_Name N v)
theorem sound_ref01_Name (N : Nat) : SoundF Tryd.prog 35 (fun vs => (ctr_ref01_Name N).run vs some) :=
  fn_sound (envok_ref01_Name N) mixed (Λ := lam_ref01_Name N) (fn := Tryd.f35) (c := c_ref01_Name) Tryd.func35 (by kernel_rfl) (by kernel_rfl) (obs_ok (l := [(lp_ref01_Name_l0 N, (codeAt c_ref01_Name [true, true, false, true, false]))]) (by kernel_rfl) (obsCons (lpok_ref01_Name_l0 N none) obsNil)) (by kernel_rfl) (by intro v; kernel_rfl)

noncomputable def c_ref01_Valid : Code := match Tryd.f21.body with | some c => c | none => .skip
noncomputable def tab_ref01_Valid (N : Nat) : List (Nat × Ctr) := [(39, ctr_ref01_Names N), (35, ctr_ref01_Name N)]
noncomputable def env_ref01_Valid (N : Nat) : Env := mkEnv tyRows eqRows methRows [] [] (tab_ref01_Valid N)
theorem envok_ref01_Valid (N : Nat) : EnvOk Tryd.prog (env_ref01_Valid N) := mkEnv_ok tyRows_ok eqRows_ok methRows_ok ⟨sound_ref01_Names N, ⟨sound_ref01_Name N, trivial⟩⟩
noncomputable def cut_ref01_Valid_l0 : Cut := { tms := [3, 4, 5], sh := (.cons (.own 2000000) (.cons .bool (.int .i64))), objs := [(2000000, [3], .sl .str)], sts := [] }
noncomputable def cut_ref01_Valid_l0_o0 : Cut := { tms := [2], sh := .bool, objs := [], sts := [] }
noncomputable def cut_ref01_Valid_l0_o1 : Cut := { tms := [4], sh := .bool, objs := [], sts := [] }
noncomputable def lp_ref01_Valid_l0 (N : Nat) : Lp := lpOf cut_ref01_Valid_l0 (1, cut_ref01_Valid_l0_o0) [(2, cut_ref01_Valid_l0_o1)] (fun v => ref01_Valid_l0 N N v.1.2.1 v.1.2.2 v.2.1)
noncomputable def lam_ref01_Valid_l0 (_ : Nat) : Lps := fun _ => none
theorem lpok_ref01_Valid_l0 (N : Nat) (ro : Option Nat) : LpOk Tryd.prog 24 ro (lp_ref01_Valid_l0 N) (codeAt c_ref01_Valid [true, true, false, true, false]) := by
  rw [show (codeAt c_ref01_Valid [true, true, false, true, false]) = .loop (codeAt c_ref01_Valid [true, true, false, true, false, false]) by kernel_rfl]
  exact loop_ok (envok_ref01_Valid N) mixed (Λ := lam_ref01_Valid_l0 N) (p := 116) (obs_ok (l := []) (by kernel_rfl) obsNil) (by kernel_rfl) (by intro rec v; kernel_rfl) N
noncomputable def lam_ref01_Valid (N : Nat) : Lps := fun p => bif Nat.beq p 58 then some (lp_ref01_Valid_l0 N) else none
noncomputable def ctr_ref01_Valid (N : Nat) : Ctr := ctrOf .str .bool [] (fun v => ref01_Valid N v)
theorem sound_ref01_Valid (N : Nat) : SoundF Tryd.prog 21 (fun vs => (ctr_ref01_Valid N).run vs some) :=
  fn_sound (envok_ref01_Valid N) mixed (Λ := lam_ref01_Valid N) (fn := Tryd.f21) (c := c_ref01_Valid) Tryd.func21 (by kernel_rfl) (by kernel_rfl) (obs_ok (l := [(lp_ref01_Valid_l0 N, (codeAt c_ref01_Valid [true, true, false, true, false]))]) (by kernel_rfl) (obsCons (lpok_ref01_Valid_l0 N none) obsNil)) (by kernel_rfl) (by intro v; kernel_rfl)

noncomputable def c_ref01_Parse : Code := match Tryd.f15.body with | some c => c | none => .skip
noncomputable def tab_ref01_Parse (N : Nat) : List (Nat × Ctr) := [(21, ctr_ref01_Valid N)]
noncomputable def env_ref01_Parse (N : Nat) : Env := mkEnv tyRows eqRows methRows [] [] (tab_ref01_Parse N)
theorem envok_ref01_Parse (N : Nat) : EnvOk Tryd.prog (env_ref01_Parse N) := mkEnv_ok tyRows_ok eqRows_ok methRows_ok ⟨sound_ref01_Valid N, trivial⟩
noncomputable def cut_ref01_Parse_p1 : Cut := { tms := [0, 33], sh := (.cons .str .bool), objs := [], sts := [] }
noncomputable def cut_ref01_Parse_p1_o0 : Cut := { tms := [2, 3], sh := (.cons .str (.int .i64)), objs := [], sts := [] }
noncomputable def cut_ref01_Parse_p1_o1 : Cut := { tms := [0], sh := .str, objs := [], sts := [] }
noncomputable def lp_ref01_Parse_p1 (N : Nat) : Lp := lpOf cut_ref01_Parse_p1 (1, cut_ref01_Parse_p1_o0) [(0, cut_ref01_Parse_p1_o1)] (fun v => ref01_Parse_p1 N v.1.1 v.1.2)
noncomputable def lam_ref01_Parse_p1 (_ : Nat) : Lps := fun _ => none
theorem lpok_ref01_Parse_p1 (N : Nat) (ro : Option Nat) : LpOk Tryd.prog 37 ro (lp_ref01_Parse_p1 N) (codeAt c_ref01_Parse [true, true, false, true]) :=
  piece_ok (envok_ref01_Parse N) mixed (Λ := lam_ref01_Parse_p1 N) (p := 29) (obs_ok (l := []) (by kernel_rfl) obsNil) (by kernel_rfl) (by intro v; kernel_rfl)
noncomputable def cut_ref01_Parse_p0 : Cut := { tms := [0], sh := .str, objs := [], sts := [] }
noncomputable def cut_ref01_Parse_p0_o0 : Cut := { tms := [2, 3], sh := (.cons .str (.int .i64)), objs := [], sts := [] }
noncomputable def lp_ref01_Parse_p0 (N : Nat) : Lp := lpOf cut_ref01_Parse_p0 (1, cut_ref01_Parse_p0_o0) [] (fun v => ref01_Parse_p0 N v.1)
noncomputable def lam_ref01_Parse_p0 (_ : Nat) : Lps := fun _ => none
theorem lpok_ref01_Parse_p0 (N : Nat) (ro : Option Nat) : LpOk Tryd.prog 37 ro (lp_ref01_Parse_p0 N) (codeAt c_ref01_Parse [true, true, true]) :=
  piece_ok (envok_ref01_Parse N) mixed (Λ := lam_ref01_Parse_p0 N) (p := 15) (obs_ok (l := []) (by kernel_rfl) obsNil) (by kernel_rfl) (by intro v; kernel_rfl)
noncomputable def lam_ref01_Parse (N : Nat) : Lps := fun p => bif Nat.beq p 15 then some (lp_ref01_Parse_p0 N) else bif Nat.beq p 29 then some (lp_ref01_Parse_p1 N) else none
noncomputable def ctr_ref01_Parse (N : Nat) : Ctr := ctrOf .str (.tup (.cons .str (.int .i64))) [] (fun v => ref01_Parse N v)
theorem sound_ref01_Parse (N : Nat) : SoundF Tryd.prog 15 (fun vs => (ctr_ref01_Parse N).run vs some) :=
  fn_sound (envok_ref01_Parse N) mixed (Λ := lam_ref01_Parse N) (fn := Tryd.f15) (c := c_ref01_Parse) Tryd.func15 (by kernel_rfl) (by kernel_rfl) (obs_ok (l := [(lp_ref01_Parse_p1 N, (codeAt c_ref01_Parse [true, true, false, true])), (lp_ref01_Parse_p0 N, (codeAt c_ref01_Parse [true, true, true]))]) (by kernel_rfl) (obsCons (lpok_ref01_Parse_p1 N none) (obsCons (lpok_ref01_Parse_p0 N none) obsNil))) (by kernel_rfl) (by intro v; kernel_rfl)

noncomputable def c_ref01_Join : Code := match Tryd.f17.body with | some c => c | none => .skip
noncomputable def tab_ref01_Join (N : Nat) : List (Nat × Ctr) := [(21, ctr_ref01_Valid N), (35, ctr_ref01_Name N)]
noncomputable def env_ref01_Join (N : Nat) : Env := mkEnv tyRows eqRows methRows [] [] (tab_ref01_Join N)
theorem envok_ref01_Join (N : Nat) : EnvOk Tryd.prog (env_ref01_Join N) := mkEnv_ok tyRows_ok eqRows_ok methRows_ok ⟨sound_ref01_Valid N, ⟨sound_ref01_Name N, trivial⟩⟩
noncomputable def lam_ref01_Join (_ : Nat) : Lps := fun _ => none
noncomputable def ctr_ref01_Join (N : Nat) : Ctr := ctrOf (.cons .str .str) (.tup (.cons .str (.int .i64))) [] (fun v => ref01_Join N v.1 v.2)
theorem sound_ref01_Join (N : Nat) : SoundF Tryd.prog 17 (fun vs => (ctr_ref01_Join N).run vs some) :=
  fn_sound (envok_ref01_Join N) mixed (Λ := lam_ref01_Join N) (fn := Tryd.f17) (c := c_ref01_Join) Tryd.func17 (by kernel_rfl) (by kernel_rfl) (obs_ok (l := []) (by kernel_rfl) obsNil) (by kernel_rfl) (by intro v; kernel_rfl)

noncomputable def c_ref01_guess : Code := match Tryd.f37.body with | some c => c | none => .skip
noncomputable def tab_ref01_guess (_ : Nat) : List (Nat × Ctr) := []
noncomputable def env_ref01_guess (N : Nat) : Env := mkEnv tyRows eqRows methRows [] [] (tab_ref01_guess N)
theorem envok_ref01_guess (N : Nat) : EnvOk Tryd.prog (env_ref01_guess N) := mkEnv_ok tyRows_ok eqRows_ok methRows_ok trivial
noncomputable def cut_ref01_guess_p0 : Cut := { tms := [0, 1, 4, 5, 6], sh := (.cons .str (.cons (.int .i64) (.cons (.ptr 2000000 0) (.cons (.ptr 2000001 0) .str)))), objs := [(2000000, [4], .box (.cons .str (.cons (.int .i64) (.cons (.int .i64) .str)))), (2000001, [5], .box (.cons .str (.cons (.int .i64) (.cons (.int .i64) .str))))], sts := [] }
noncomputable def cut_ref01_guess_p0_o0 : Cut := { tms := [4], sh := (.ptr 2000000 0), objs := [(2000000, [4], .box (.cons .str (.cons (.int .i64) (.cons (.int .i64) .str))))], sts := [] }
noncomputable def lp_ref01_guess_p0 (N : Nat) : Lp := lpOf cut_ref01_guess_p0 (1, cut_ref01_guess_p0_o0) [] (fun v => ref01_guess_p0 N v.1.1 v.1.2.1 v.1.2.2.2.2 v.2.1.1 v.2.1.2.1 v.2.1.2.2.1 v.2.1.2.2.2 v.2.2.1.1 v.2.2.1.2.1 v.2.2.1.2.2.1 v.2.2.1.2.2.2)
noncomputable def lam_ref01_guess_p0 (_ : Nat) : Lps := fun _ => none
theorem lpok_ref01_guess_p0 (N : Nat) (ro : Option Nat) : LpOk Tryd.prog 59 ro (lp_ref01_guess_p0 N) (codeAt c_ref01_guess [true, true, true, true]) :=
  piece_ok (envok_ref01_guess N) mixed (Λ := lam_ref01_guess_p0 N) (p := 31) (obs_ok (l := []) (by kernel_rfl) obsNil) (by kernel_rfl) (by intro v; kernel_rfl)
noncomputable def lam_ref01_guess (N : Nat) : Lps := fun p => bif Nat.beq p 31 then some (lp_ref01_guess_p0 N) else none
noncomputable def ctr_ref01_guess (N : Nat) : Ctr := ctrOf (.cons .str (.int .i64)) (.val T_api_Place) [] (fun v => ref01_guess N v.1 v.2)
theorem sound_ref01_guess (N : Nat) : SoundF Tryd.prog 37 (fun vs => (ctr_ref01_guess N).run vs some) :=
  fn_sound (envok_ref01_guess N) mixed (Λ := lam_ref01_guess N) (fn := Tryd.f37) (c := c_ref01_guess) Tryd.func37 (by kernel_rfl) (by kernel_rfl) (obs_ok (l := [(lp_ref01_guess_p0 N, (codeAt c_ref01_guess [true, true, true, true]))]) (by kernel_rfl) (obsCons (lpok_ref01_guess_p0 N none) obsNil)) (by kernel_rfl) (by intro v; kernel_rfl)

noncomputable def c_ref01_Body : Code := match Tryd.f43.body with | some c => c | none => .skip
noncomputable def tab_ref01_Body (_ : Nat) : List (Nat × Ctr) := []
noncomputable def env_ref01_Body (N : Nat) : Env := mkEnv tyRows eqRows methRows [] [] (tab_ref01_Body N)
theorem envok_ref01_Body (N : Nat) : EnvOk Tryd.prog (env_ref01_Body N) := mkEnv_ok tyRows_ok eqRows_ok methRows_ok trivial
noncomputable def cut_ref01_Body_l0 : Cut := { tms := [0, 3, 4], sh := (.cons (.int .i64) (.cons .str (.int .i64))), objs := [], sts := [] }
noncomputable def cut_ref01_Body_l0_o0 : Cut := { tms := [3], sh := .str, objs := [], sts := [] }
noncomputable def lp_ref01_Body_l0 (N : Nat) : Lp := lpOf cut_ref01_Body_l0 (2, cut_ref01_Body_l0_o0) [] (fun v => ref01_Body_l0 N N v.1.1 v.1.2.1 v.1.2.2)
noncomputable def lam_ref01_Body_l0 (_ : Nat) : Lps := fun _ => none
theorem lpok_ref01_Body_l0 (N : Nat) (ro : Option Nat) : LpOk Tryd.prog 29 ro (lp_ref01_Body_l0 N) (codeAt c_ref01_Body [true, true, true, false, true, false]) := by
  rw [show (codeAt c_ref01_Body [true, true, true, false, true, false]) = .loop (codeAt c_ref01_Body [true, true, true, false, true, false, false]) by kernel_rfl]
  exact loop_ok (envok_ref01_Body N) mixed (Λ := lam_ref01_Body_l0 N) (p := 244) (obs_ok (l := []) (by kernel_rfl) obsNil) (by kernel_rfl) (by intro rec v; kernel_rfl) N
noncomputable def lam_ref01_Body (N : Nat) : Lps := fun p => bif Nat.beq p 122 then some (lp_ref01_Body_l0 N) else none
noncomputable def ctr_ref01_Body (N : Nat) : Ctr := ctrOf (.int .i64) .str [] (fun v => ref01_Body N v)
theorem sound_ref01_Body (N : Nat) : SoundF Tryd.prog 43 (fun vs => (ctr_ref01_Body N).run vs some) :=
  fn_sound (envok_ref01_Body N) mixed (Λ := lam_ref01_Body N) (fn := Tryd.f43) (c := c_ref01_Body) Tryd.func43 (by kernel_rfl) (by kernel_rfl) (obs_ok (l := [(lp_ref01_Body_l0 N, (codeAt c_ref01_Body [true, true, true, false, true, false]))]) (by kernel_rfl) (obsCons (lpok_ref01_Body_l0 N none) obsNil)) (by kernel_rfl) (by intro v; kernel_rfl)

noncomputable def c_ref01_IsBody : Code := match Tryd.f55.body with | some c => c | none => .skip
noncomputable def tab_ref01_IsBody (N : Nat) : List (Nat × Ctr) := [(43, ctr_ref01_Body N)]
noncomputable def env_ref01_IsBody (N : Nat) : Env := mkEnv tyRows eqRows methRows [] [] (tab_ref01_IsBody N)
theorem envok_ref01_IsBody (N : Nat) : EnvOk Tryd.prog (env_ref01_IsBody N) := mkEnv_ok tyRows_ok eqRows_ok methRows_ok ⟨sound_ref01_Body N, trivial⟩
noncomputable def cut_ref01_IsBody_l0 : Cut := { tms := [0, 3, 4], sh := (.cons .str (.cons (.int .i64) (.int .i64))), objs := [], sts := [] }
noncomputable def cut_ref01_IsBody_l0_o0 : Cut := { tms := [0, 3], sh := (.cons .str (.int .i64)), objs := [], sts := [] }
noncomputable def lp_ref01_IsBody_l0 (N : Nat) : Lp := lpOf cut_ref01_IsBody_l0 (2, cut_ref01_IsBody_l0_o0) [] (fun v => ref01_IsBody_l0 N N v.1.1 v.1.2.1 v.1.2.2)
noncomputable def lam_ref01_IsBody_l0 (_ : Nat) : Lps := fun _ => none
theorem lpok_ref01_IsBody_l0 (N : Nat) (ro : Option Nat) : LpOk Tryd.prog 38 ro (lp_ref01_IsBody_l0 N) (codeAt c_ref01_IsBody [true, true, true, false, true, false]) := by
  rw [show (codeAt c_ref01_IsBody [true, true, true, false, true, false]) = .loop (codeAt c_ref01_IsBody [true, true, true, false, true, false, false]) by kernel_rfl]
  exact loop_ok (envok_ref01_IsBody N) mixed (Λ := lam_ref01_IsBody_l0 N) (p := 244) (obs_ok (l := []) (by kernel_rfl) obsNil) (by kernel_rfl) (by intro rec v; kernel_rfl) N
noncomputable def lam_ref01_IsBody (N : Nat) : Lps := fun p => bif Nat.beq p 122 then some (lp_ref01_IsBody_l0 N) else none
noncomputable def ctr_ref01_IsBody (N : Nat) : Ctr := ctrOf .str .bool [] (fun v => ref01_IsBody N v)
theorem sound_ref01_IsBody (N : Nat) : SoundF Tryd.prog 55 (fun vs => (ctr_ref01_IsBody N).run vs some) :=
  fn_sound (envok_ref01_IsBody N) mixed (Λ := lam_ref01_IsBody N) (fn := Tryd.f55) (c := c_ref01_IsBody) Tryd.func55 (by kernel_rfl) (by kernel_rfl) (obs_ok (l := [(lp_ref01_IsBody_l0 N, (codeAt c_ref01_IsBody [true, true, true, false, true, false]))]) (by kernel_rfl) (obsCons (lpok_ref01_IsBody_l0 N none) obsNil)) (by kernel_rfl) (by intro v; kernel_rfl)

noncomputable def c_ref01_right : Code := match Tryd.f45.body with | some c => c | none => .skip
noncomputable def tab_ref01_right (N : Nat) : List (Nat × Ctr) := [(21, ctr_ref01_Valid N), (55, ctr_ref01_IsBody N), (35, ctr_ref01_Name N)]
noncomputable def env_ref01_right (N : Nat) : Env := mkEnv tyRows eqRows methRows [] [] (tab_ref01_right N)
theorem envok_ref01_right (N : Nat) : EnvOk Tryd.prog (env_ref01_right N) := mkEnv_ok tyRows_ok eqRows_ok methRows_ok ⟨sound_ref01_Valid N, ⟨sound_ref01_IsBody N, ⟨sound_ref01_Name N, trivial⟩⟩⟩
noncomputable def cut_ref01_right_p1 : Cut := { tms := [1, 32], sh := (.cons (.ptr 2000000 0) .bool), objs := [(2000000, [1], .box (.cons .str (.cons (.int .i64) (.cons (.int .i64) .str))))], sts := [] }
noncomputable def cut_ref01_right_p1_o0 : Cut := { tms := [2], sh := .bool, objs := [], sts := [] }
noncomputable def cut_ref01_right_p1_o1 : Cut := { tms := [1], sh := (.ptr 2000000 0), objs := [(2000000, [1], .box (.cons .str (.cons (.int .i64) (.cons (.int .i64) .str))))], sts := [] }
noncomputable def lp_ref01_right_p1 (N : Nat) : Lp := lpOf cut_ref01_right_p1 (1, cut_ref01_right_p1_o0) [(0, cut_ref01_right_p1_o1)] (fun v => ref01_right_p1 N v.1.2 v.2.1.1 v.2.1.2.1 v.2.1.2.2.1 v.2.1.2.2.2)
noncomputable def lam_ref01_right_p1 (_ : Nat) : Lps := fun _ => none
theorem lpok_ref01_right_p1 (N : Nat) (ro : Option Nat) : LpOk Tryd.prog 60 ro (lp_ref01_right_p1 N) (codeAt c_ref01_right [true, false, true]) :=
  piece_ok (envok_ref01_right N) mixed (Λ := lam_ref01_right_p1 N) (p := 13) (obs_ok (l := []) (by kernel_rfl) obsNil) (by kernel_rfl) (by intro v; kernel_rfl)
noncomputable def cut_ref01_right_p0 : Cut := { tms := [1], sh := (.ptr 2000000 0), objs := [(2000000, [1], .box (.cons .str (.cons (.int .i64) (.cons (.int .i64) .str))))], sts := [] }
noncomputable def cut_ref01_right_p0_o0 : Cut := { tms := [2], sh := .bool, objs := [], sts := [] }
noncomputable def lp_ref01_right_p0 (N : Nat) : Lp := lpOf cut_ref01_right_p0 (1, cut_ref01_right_p0_o0) [] (fun v => ref01_right_p0 N v.2.1.1 v.2.1.2.1 v.2.1.2.2.1 v.2.1.2.2.2)
noncomputable def lam_ref01_right_p0 (_ : Nat) : Lps := fun _ => none
theorem lpok_ref01_right_p0 (N : Nat) (ro : Option Nat) : LpOk Tryd.prog 60 ro (lp_ref01_right_p0 N) (codeAt c_ref01_right [true, true]) :=
  piece_ok (envok_ref01_right N) mixed (Λ := lam_ref01_right_p0 N) (p := 7) (obs_ok (l := []) (by kernel_rfl) obsNil) (by kernel_rfl) (by intro v; kernel_rfl)
noncomputable def lam_ref01_right (N : Nat) : Lps := fun p => bif Nat.beq p 7 then some (lp_ref01_right_p0 N) else bif Nat.beq p 13 then some (lp_ref01_right_p1 N) else none
noncomputable def ctr_ref01_right (N : Nat) : Ctr := ctrOf (.val T_api_Place) .bool [] (fun v => ref01_right N v)
theorem sound_ref01_right (N : Nat) : SoundF Tryd.prog 45 (fun vs => (ctr_ref01_right N).run vs some) :=
  fn_sound (envok_ref01_right N) mixed (Λ := lam_ref01_right N) (fn := Tryd.f45) (c := c_ref01_right) Tryd.func45 (by kernel_rfl) (by kernel_rfl) (obs_ok (l := [(lp_ref01_right_p1 N, (codeAt c_ref01_right [true, false, true])), (lp_ref01_right_p0 N, (codeAt c_ref01_right [true, true]))]) (by kernel_rfl) (obsCons (lpok_ref01_right_p1 N none) (obsCons (lpok_ref01_right_p0 N none) obsNil))) (by kernel_rfl) (by intro v; kernel_rfl)

noncomputable def c_ref01_Key : Code := match Tryd.f30.body with | some c => c | none => .skip
noncomputable def tab_ref01_Key (N : Nat) : List (Nat × Ctr) := [(45, ctr_ref01_right N)]
noncomputable def env_ref01_Key (N : Nat) : Env := mkEnv tyRows eqRows methRows [] [] (tab_ref01_Key N)
theorem envok_ref01_Key (N : Nat) : EnvOk Tryd.prog (env_ref01_Key N) := mkEnv_ok tyRows_ok eqRows_ok methRows_ok ⟨sound_ref01_right N, trivial⟩
noncomputable def lam_ref01_Key (_ : Nat) : Lps := fun _ => none
noncomputable def ctr_ref01_Key (N : Nat) : Ctr := ctrOf (.val T_api_Place) (.tup (.cons .str (.int .i64))) [] (fun v => ref01_Key N v)
theorem sound_ref01_Key (N : Nat) : SoundF Tryd.prog 30 (fun vs => (ctr_ref01_Key N).run vs some) :=
  fn_sound (envok_ref01_Key N) mixed (Λ := lam_ref01_Key N) (fn := Tryd.f30) (c := c_ref01_Key) Tryd.func30 (by kernel_rfl) (by kernel_rfl) (obs_ok (l := []) (by kernel_rfl) obsNil) (by kernel_rfl) (by intro v; kernel_rfl)

noncomputable def c_ref01_Place : Code := match Tryd.f19.body with | some c => c | none => .skip
noncomputable def tab_ref01_Place (N : Nat) : List (Nat × Ctr) := [(37, ctr_ref01_guess N), (30, ctr_ref01_Key N)]
noncomputable def env_ref01_Place (N : Nat) : Env := mkEnv tyRows eqRows methRows [] [] (tab_ref01_Place N)
theorem envok_ref01_Place (N : Nat) : EnvOk Tryd.prog (env_ref01_Place N) := mkEnv_ok tyRows_ok eqRows_ok methRows_ok ⟨sound_ref01_guess N, ⟨sound_ref01_Key N, trivial⟩⟩
noncomputable def cut_ref01_Place_l0 : Cut := { tms := [0, 2, 4], sh := (.cons .str (.cons (.ptr 2000000 0) (.int .i64))), objs := [(2000000, [2], .box (.cons .str (.cons (.int .i64) (.cons (.int .i64) .str))))], sts := [] }
noncomputable def cut_ref01_Place_l0_o0 : Cut := { tms := [2, 3], sh := (.cons (.ptr 2000000 0) (.int .i64)), objs := [(2000000, [2], .box (.cons .str (.cons (.int .i64) (.cons (.int .i64) .str))))], sts := [] }
noncomputable def cut_ref01_Place_l0_o1 : Cut := { tms := [2], sh := (.ptr 2000000 0), objs := [(2000000, [2], .box (.cons .str (.cons (.int .i64) (.cons (.int .i64) .str))))], sts := [] }
noncomputable def lp_ref01_Place_l0 (N : Nat) : Lp := lpOf cut_ref01_Place_l0 (1, cut_ref01_Place_l0_o0) [(2, cut_ref01_Place_l0_o1)] (fun v => ref01_Place_l0 N N v.1.1 v.1.2.2 v.2.1.1 v.2.1.2.1 v.2.1.2.2.1 v.2.1.2.2.2)
noncomputable def lam_ref01_Place_l0 (_ : Nat) : Lps := fun _ => none
theorem lpok_ref01_Place_l0 (N : Nat) (ro : Option Nat) : LpOk Tryd.prog 41 ro (lp_ref01_Place_l0 N) (codeAt c_ref01_Place [true, false, true, false]) := by
  rw [show (codeAt c_ref01_Place [true, false, true, false]) = .loop (codeAt c_ref01_Place [true, false, true, false, false]) by kernel_rfl]
  exact loop_ok (envok_ref01_Place N) mixed (Λ := lam_ref01_Place_l0 N) (p := 52) (obs_ok (l := []) (by kernel_rfl) obsNil) (by kernel_rfl) (by intro rec v; kernel_rfl) N
noncomputable def lam_ref01_Place (N : Nat) : Lps := fun p => bif Nat.beq p 26 then some (lp_ref01_Place_l0 N) else none
noncomputable def ctr_ref01_Place (N : Nat) : Ctr := ctrOf .str (.tup (.cons (.val T_api_Place) (.int .i64))) [] (fun v => ref01_Place N v)
theorem sound_ref01_Place (N : Nat) : SoundF Tryd.prog 19 (fun vs => (ctr_ref01_Place N).run vs some) :=
  fn_sound (envok_ref01_Place N) mixed (Λ := lam_ref01_Place N) (fn := Tryd.f19) (c := c_ref01_Place) Tryd.func19 (by kernel_rfl) (by kernel_rfl) (obs_ok (l := [(lp_ref01_Place_l0 N, (codeAt c_ref01_Place [true, false, true, false]))]) (by kernel_rfl) (obsCons (lpok_ref01_Place_l0 N none) obsNil)) (by kernel_rfl) (by intro v; kernel_rfl)

noncomputable def c_ref01_Split : Code := match Tryd.f23.body with | some c => c | none => .skip
noncomputable def tab_ref01_Split (N : Nat) : List (Nat × Ctr) := [(21, ctr_ref01_Valid N), (39, ctr_ref01_Names N)]
noncomputable def env_ref01_Split (N : Nat) : Env := mkEnv tyRows eqRows methRows [] [] (tab_ref01_Split N)
theorem envok_ref01_Split (N : Nat) : EnvOk Tryd.prog (env_ref01_Split N) := mkEnv_ok tyRows_ok eqRows_ok methRows_ok ⟨sound_ref01_Valid N, ⟨sound_ref01_Names N, trivial⟩⟩
noncomputable def lam_ref01_Split (_ : Nat) : Lps := fun _ => none
noncomputable def ctr_ref01_Split (N : Nat) : Ctr := ctrOf .str (.val T_ref01_Parts) [] (fun v => ref01_Split N v)
theorem sound_ref01_Split (N : Nat) : SoundF Tryd.prog 23 (fun vs => (ctr_ref01_Split N).run vs some) :=
  fn_sound (envok_ref01_Split N) mixed (Λ := lam_ref01_Split N) (fn := Tryd.f23) (c := c_ref01_Split) Tryd.func23 (by kernel_rfl) (by kernel_rfl) (obs_ok (l := []) (by kernel_rfl) obsNil) (by kernel_rfl) (by intro v; kernel_rfl)

noncomputable def c_ref01_Under : Code := match Tryd.f25.body with | some c => c | none => .skip
noncomputable def tab_ref01_Under (_ : Nat) : List (Nat × Ctr) := []
noncomputable def env_ref01_Under (N : Nat) : Env := mkEnv tyRows eqRows methRows [] [] (tab_ref01_Under N)
theorem envok_ref01_Under (N : Nat) : EnvOk Tryd.prog (env_ref01_Under N) := mkEnv_ok tyRows_ok eqRows_ok methRows_ok trivial
noncomputable def lam_ref01_Under (_ : Nat) : Lps := fun _ => none
noncomputable def ctr_ref01_Under (N : Nat) : Ctr := ctrOf (.cons .str .str) .bool [] (fun v => ref01_Under N v.1 v.2)
theorem sound_ref01_Under (N : Nat) : SoundF Tryd.prog 25 (fun vs => (ctr_ref01_Under N).run vs some) :=
  fn_sound (envok_ref01_Under N) mixed (Λ := lam_ref01_Under N) (fn := Tryd.f25) (c := c_ref01_Under) Tryd.func25 (by kernel_rfl) (by kernel_rfl) (obs_ok (l := []) (by kernel_rfl) obsNil) (by kernel_rfl) (by intro v; kernel_rfl)

noncomputable def c_ref01_Text : Code := match Tryd.f27.body with | some c => c | none => .skip
noncomputable def tab_ref01_Text (_ : Nat) : List (Nat × Ctr) := []
noncomputable def env_ref01_Text (N : Nat) : Env := mkEnv tyRows eqRows methRows [] [] (tab_ref01_Text N)
theorem envok_ref01_Text (N : Nat) : EnvOk Tryd.prog (env_ref01_Text N) := mkEnv_ok tyRows_ok eqRows_ok methRows_ok trivial
noncomputable def lam_ref01_Text (_ : Nat) : Lps := fun _ => none
noncomputable def ctr_ref01_Text (N : Nat) : Ctr := ctrOf .str .str [] (fun v => ref01_Text N v)
theorem sound_ref01_Text (N : Nat) : SoundF Tryd.prog 27 (fun vs => (ctr_ref01_Text N).run vs some) :=
  fn_sound (envok_ref01_Text N) mixed (Λ := lam_ref01_Text N) (fn := Tryd.f27) (c := c_ref01_Text) Tryd.func27 (by kernel_rfl) (by kernel_rfl) (obs_ok (l := []) (by kernel_rfl) obsNil) (by kernel_rfl) (by intro v; kernel_rfl)

noncomputable def c_law01_PathMatchesReference : Code := match Tryd.f3.body with | some c => c | none => .skip
noncomputable def tab_law01_PathMatchesReference (N : Nat) : List (Nat × Ctr) := [(12, ctr_law01_sanity N), (13, ctr_ref01_Made N), (14, ctr_path_Parse N), (15, ctr_ref01_Parse N), (16, ctr_path_Join N), (17, ctr_ref01_Join N), (18, ctr_path_Place N), (19, ctr_ref01_Place N), (20, ctr_path_Valid N), (21, ctr_ref01_Valid N), (22, ctr_law01_split N), (23, ctr_ref01_Split N), (24, ctr_path_Under N), (25, ctr_ref01_Under N), (26, ctr_path_Text N), (27, ctr_ref01_Text N)]
noncomputable def env_law01_PathMatchesReference (N : Nat) : Env := mkEnv tyRows eqRows methRows [] [] (tab_law01_PathMatchesReference N)
theorem envok_law01_PathMatchesReference (N : Nat) : EnvOk Tryd.prog (env_law01_PathMatchesReference N) := mkEnv_ok tyRows_ok eqRows_ok methRows_ok ⟨sound_law01_sanity N, ⟨sound_ref01_Made N, ⟨sound_path_Parse N, ⟨sound_ref01_Parse N, ⟨sound_path_Join N, ⟨sound_ref01_Join N, ⟨sound_path_Place N, ⟨sound_ref01_Place N, ⟨sound_path_Valid N, ⟨sound_ref01_Valid N, ⟨sound_law01_split N, ⟨sound_ref01_Split N, ⟨sound_path_Under N, ⟨sound_ref01_Under N, ⟨sound_path_Text N, ⟨sound_ref01_Text N, trivial⟩⟩⟩⟩⟩⟩⟩⟩⟩⟩⟩⟩⟩⟩⟩⟩
noncomputable def cut_law01_PathMatchesReference_p5 : Cut := { tms := [1, 7, 8, 11, 12, 173], sh := (.cons .str (.cons .bool (.cons .str (.cons (.ptr 2000000 0) (.cons (.int .i64) .bool))))), objs := [(2000000, [11], .box (.cons .str (.cons .str (.cons .str .str))))], sts := [] }
noncomputable def cut_law01_PathMatchesReference_p5_o0 : Cut := { tms := [6], sh := .bool, objs := [], sts := [] }
noncomputable def cut_law01_PathMatchesReference_p5_o1 : Cut := { tms := [1, 7, 8, 11, 12], sh := (.cons .str (.cons .bool (.cons .str (.cons (.ptr 2000000 0) (.int .i64))))), objs := [(2000000, [11], .box (.cons .str (.cons .str (.cons .str .str))))], sts := [] }
noncomputable def lp_law01_PathMatchesReference_p5 (N : Nat) : Lp := lpOf cut_law01_PathMatchesReference_p5 (1, cut_law01_PathMatchesReference_p5_o0) [(0, cut_law01_PathMatchesReference_p5_o1)] (fun v => law01_PathMatchesReference_p5 N v.1.1 v.1.2.1 v.1.2.2.1 v.1.2.2.2.2.1 v.1.2.2.2.2.2 v.2.1.1 v.2.1.2.1 v.2.1.2.2.1 v.2.1.2.2.2)
noncomputable def lam_law01_PathMatchesReference_p5 (_ : Nat) : Lps := fun _ => none
theorem lpok_law01_PathMatchesReference_p5 (N : Nat) (ro : Option Nat) : LpOk Tryd.prog 182 ro (lp_law01_PathMatchesReference_p5 N) (codeAt c_law01_PathMatchesReference [true, true, true, true, true, true, true, false, true, false, false, true, false, false, true, true, true, true, true, true, true]) :=
  piece_ok (envok_law01_PathMatchesReference N) mixed (Λ := lam_law01_PathMatchesReference_p5 N) (p := 4182655) (obs_ok (l := []) (by kernel_rfl) obsNil) (by kernel_rfl) (by intro v; kernel_rfl)
noncomputable def cut_law01_PathMatchesReference_s4 : Cut := { tms := [1, 7, 8, 11, 12, 13, 14, 15, 16, 17, 18, 19, 20, 21, 22, 23, 24], sh := (.cons .str (.cons .bool (.cons .str (.cons (.ptr 2000000 0) (.cons (.int .i64) (.cons .str (.cons (.int .i64) (.cons .str (.cons (.int .i64) (.cons .str (.cons (.int .i64) (.cons .str (.cons (.int .i64) (.cons (.ptr 2000001 0) (.cons (.int .i64) (.cons (.ptr 2000002 0) (.int .i64))))))))))))))))), objs := [(2000000, [11], .box (.cons .str (.cons .str (.cons .str .str)))), (2000001, [21], .box (.cons .str (.cons (.int .i64) (.cons (.int .i64) .str)))), (2000002, [23], .box (.cons .str (.cons (.int .i64) (.cons (.int .i64) .str))))], sts := [] }
noncomputable def cut_law01_PathMatchesReference_s4_o0 : Cut := { tms := [1, 7, 8, 11, 12, 173], sh := (.cons .str (.cons .bool (.cons .str (.cons (.ptr 2000000 0) (.cons (.int .i64) .bool))))), objs := [(2000000, [11], .box (.cons .str (.cons .str (.cons .str .str))))], sts := [] }
noncomputable def lp_law01_PathMatchesReference_s4 (N : Nat) : Lp := lpOf cut_law01_PathMatchesReference_s4 (0, cut_law01_PathMatchesReference_s4_o0) [] (fun v => law01_PathMatchesReference_s4 N v.1.1 v.1.2.1 v.1.2.2.1 v.1.2.2.2.2.1 v.1.2.2.2.2.2.1 v.1.2.2.2.2.2.2.1 v.1.2.2.2.2.2.2.2.1 v.1.2.2.2.2.2.2.2.2.1 v.1.2.2.2.2.2.2.2.2.2.1 v.1.2.2.2.2.2.2.2.2.2.2.1 v.1.2.2.2.2.2.2.2.2.2.2.2.1 v.1.2.2.2.2.2.2.2.2.2.2.2.2.1 v.1.2.2.2.2.2.2.2.2.2.2.2.2.2.2.1 v.1.2.2.2.2.2.2.2.2.2.2.2.2.2.2.2.2 v.2.1.1 v.2.1.2.1 v.2.1.2.2.1 v.2.1.2.2.2 v.2.2.1.1 v.2.2.1.2.1 v.2.2.1.2.2.1 v.2.2.1.2.2.2 v.2.2.2.1.1 v.2.2.2.1.2.1 v.2.2.2.1.2.2.1 v.2.2.2.1.2.2.2)
noncomputable def lam_law01_PathMatchesReference_s4 (_ : Nat) : Lps := fun _ => none
theorem lpok_law01_PathMatchesReference_s4 (N : Nat) (ro : Option Nat) : LpOk Tryd.prog 182 ro (lp_law01_PathMatchesReference_s4 N) (codeAt c_law01_PathMatchesReference [true, true, true, true, true, true, true, false, true, false, false, true, false, false, true, true, true, true, true, true, false]) := by
  refine piece_okS (envok_law01_PathMatchesReference N) mixed (Λ := lam_law01_PathMatchesReference_s4 N) (p := 4182654) (obs_ok (l := []) (by kernel_rfl) obsNil) (by kernel_rfl) ?_
  intro v t h
  obtain ⟨⟨b0, ⟨b1, ⟨b2, ⟨_, ⟨b3, ⟨b4, ⟨b5, ⟨b6, ⟨b7, ⟨b8, ⟨b9, ⟨b10, ⟨b11, ⟨_, ⟨b12, ⟨_, b13⟩⟩⟩⟩⟩⟩⟩⟩⟩⟩⟩⟩⟩⟩⟩⟩, ⟨⟨b14, ⟨b15, ⟨b16, b17⟩⟩⟩, ⟨⟨b18, ⟨b19, ⟨b20, b21⟩⟩⟩, ⟨⟨b22, ⟨b23, ⟨b24, b25⟩⟩⟩, _⟩⟩⟩⟩ := v
  replace h : law01_PathMatchesReference_s4 N b0 b1 b2 b3 b4 b5 b6 b7 b8 b9 b10 b11 b12 b13 b14 b15 b16 b17 b18 b19 b20 b21 b22 b23 b24 b25 = some t := h
  unfold law01_PathMatchesReference_s4 at h
  cases e3 : eqi b3 (3 : Int)
  case true =>
    rw [e3] at h; replace h : law01_PathMatchesReference_s4_3 N b0 b1 b2 b4 b5 b6 b7 b8 b9 b10 b11 b12 b13 b14 b15 b16 b17 b18 b19 b20 b21 b22 b23 b24 b25 = some t := h
    have e := eq_of_beq e3; subst e; refine Eq.trans ?_ h; kernel_rfl
  rw [e3, cond_false] at h
  cases e2 : eqi b3 (2 : Int)
  case true =>
    rw [e2] at h; replace h : law01_PathMatchesReference_s4_2 N b0 b1 b2 b4 b5 b6 b7 b8 b9 b10 b11 b12 b13 b14 b15 b16 b17 b18 b19 b20 b21 b22 b23 b24 b25 = some t := h
    have e := eq_of_beq e2; subst e; refine Eq.trans ?_ h; kernel_rfl
  rw [e2, cond_false] at h
  cases e1 : eqi b3 (1 : Int)
  case true =>
    rw [e1] at h; replace h : law01_PathMatchesReference_s4_1 N b0 b1 b2 b4 b5 b6 b7 b8 b9 b10 b11 b12 b13 b14 b15 b16 b17 b18 b19 b20 b21 b22 b23 b24 b25 = some t := h
    have e := eq_of_beq e1; subst e; refine Eq.trans ?_ h; kernel_rfl
  rw [e1, cond_false] at h
  cases e0 : eqi b3 (0 : Int)
  case true =>
    rw [e0] at h; replace h : law01_PathMatchesReference_s4_0 N b0 b1 b2 b4 b5 b6 b7 b8 b9 b10 b11 b12 b13 b14 b15 b16 b17 b18 b19 b20 b21 b22 b23 b24 b25 = some t := h
    have e := eq_of_beq e0; subst e; refine Eq.trans ?_ h; kernel_rfl
  rw [e0, cond_false] at h
  cases h
noncomputable def cut_law01_PathMatchesReference_p3 : Cut := { tms := [1, 7, 8, 11, 12, 13, 14, 15, 16, 17, 18, 19, 20], sh := (.cons .str (.cons .bool (.cons .str (.cons (.ptr 2000000 0) (.cons (.int .i64) (.cons .str (.cons (.int .i64) (.cons .str (.cons (.int .i64) (.cons .str (.cons (.int .i64) (.cons .str (.int .i64))))))))))))), objs := [(2000000, [11], .box (.cons .str (.cons .str (.cons .str .str))))], sts := [] }
noncomputable def cut_law01_PathMatchesReference_p3_o0 : Cut := { tms := [6], sh := .bool, objs := [], sts := [] }
noncomputable def cut_law01_PathMatchesReference_p3_o1 : Cut := { tms := [1, 7, 8, 11, 12], sh := (.cons .str (.cons .bool (.cons .str (.cons (.ptr 2000000 0) (.int .i64))))), objs := [(2000000, [11], .box (.cons .str (.cons .str (.cons .str .str))))], sts := [] }
noncomputable def lp_law01_PathMatchesReference_p3 (N : Nat) : Lp := lpOf cut_law01_PathMatchesReference_p3 (1, cut_law01_PathMatchesReference_p3_o0) [(0, cut_law01_PathMatchesReference_p3_o1)] (fun v => law01_PathMatchesReference_p3 N v.1.1 v.1.2.1 v.1.2.2.1 v.1.2.2.2.2.1 v.1.2.2.2.2.2.1 v.1.2.2.2.2.2.2.1 v.1.2.2.2.2.2.2.2.1 v.1.2.2.2.2.2.2.2.2.1 v.1.2.2.2.2.2.2.2.2.2.1 v.1.2.2.2.2.2.2.2.2.2.2.1 v.1.2.2.2.2.2.2.2.2.2.2.2.1 v.1.2.2.2.2.2.2.2.2.2.2.2.2 v.2.1.1 v.2.1.2.1 v.2.1.2.2.1 v.2.1.2.2.2)
noncomputable def lam_law01_PathMatchesReference_p3 (N : Nat) : Lps := fun p => bif Nat.beq p 4182654 then some (lp_law01_PathMatchesReference_s4 N) else bif Nat.beq p 4182655 then some (lp_law01_PathMatchesReference_p5 N) else none
theorem lpok_law01_PathMatchesReference_p3 (N : Nat) (ro : Option Nat) : LpOk Tryd.prog 182 ro (lp_law01_PathMatchesReference_p3 N) (codeAt c_law01_PathMatchesReference [true, true, true, true, true, true, true, false, true, false, false, true, false, false, true, true, true, true]) :=
  piece_ok (envok_law01_PathMatchesReference N) mixed (Λ := lam_law01_PathMatchesReference_p3 N) (p := 522831) (obs_ok (l := [(lp_law01_PathMatchesReference_s4 N, (codeAt c_law01_PathMatchesReference [true, true, true, true, true, true, true, false, true, false, false, true, false, false, true, true, true, true, true, true, false])), (lp_law01_PathMatchesReference_p5 N, (codeAt c_law01_PathMatchesReference [true, true, true, true, true, true, true, false, true, false, false, true, false, false, true, true, true, true, true, true, true]))]) (by kernel_rfl) (obsCons (lpok_law01_PathMatchesReference_s4 N ro) (obsCons (lpok_law01_PathMatchesReference_p5 N ro) obsNil))) (by kernel_rfl) (by intro v; kernel_rfl)
noncomputable def cut_law01_PathMatchesReference_p2 : Cut := { tms := [1, 7, 8, 11, 12, 13, 14, 15, 16], sh := (.cons .str (.cons .bool (.cons .str (.cons (.ptr 2000000 0) (.cons (.int .i64) (.cons .str (.cons (.int .i64) (.cons .str (.int .i64))))))))), objs := [(2000000, [11], .box (.cons .str (.cons .str (.cons .str .str))))], sts := [] }
noncomputable def cut_law01_PathMatchesReference_p2_o0 : Cut := { tms := [6], sh := .bool, objs := [], sts := [] }
noncomputable def cut_law01_PathMatchesReference_p2_o1 : Cut := { tms := [1, 7, 8, 11, 12], sh := (.cons .str (.cons .bool (.cons .str (.cons (.ptr 2000000 0) (.int .i64))))), objs := [(2000000, [11], .box (.cons .str (.cons .str (.cons .str .str))))], sts := [] }
noncomputable def lp_law01_PathMatchesReference_p2 (N : Nat) : Lp := lpOf cut_law01_PathMatchesReference_p2 (1, cut_law01_PathMatchesReference_p2_o0) [(0, cut_law01_PathMatchesReference_p2_o1)] (fun v => law01_PathMatchesReference_p2 N v.1.1 v.1.2.1 v.1.2.2.1 v.1.2.2.2.2.1 v.1.2.2.2.2.2.1 v.1.2.2.2.2.2.2.1 v.1.2.2.2.2.2.2.2.1 v.1.2.2.2.2.2.2.2.2 v.2.1.1 v.2.1.2.1 v.2.1.2.2.1 v.2.1.2.2.2)
noncomputable def lam_law01_PathMatchesReference_p2 (N : Nat) : Lps := fun p => bif Nat.beq p 522831 then some (lp_law01_PathMatchesReference_p3 N) else none
theorem lpok_law01_PathMatchesReference_p2 (N : Nat) (ro : Option Nat) : LpOk Tryd.prog 182 ro (lp_law01_PathMatchesReference_p2 N) (codeAt c_law01_PathMatchesReference [true, true, true, true, true, true, true, false, true, false, false, true, false, false, true, true]) :=
  piece_ok (envok_law01_PathMatchesReference N) mixed (Λ := lam_law01_PathMatchesReference_p2 N) (p := 130707) (obs_ok (l := [(lp_law01_PathMatchesReference_p3 N, (codeAt c_law01_PathMatchesReference [true, true, true, true, true, true, true, false, true, false, false, true, false, false, true, true, true, true]))]) (by kernel_rfl) (obsCons (lpok_law01_PathMatchesReference_p3 N ro) obsNil)) (by kernel_rfl) (by intro v; kernel_rfl)
noncomputable def cut_law01_PathMatchesReference_p1 : Cut := { tms := [1, 7, 8, 11, 12], sh := (.cons .str (.cons .bool (.cons .str (.cons (.ptr 2000000 0) (.int .i64))))), objs := [(2000000, [11], .box (.cons .str (.cons .str (.cons .str .str))))], sts := [] }
noncomputable def cut_law01_PathMatchesReference_p1_o0 : Cut := { tms := [1, 7, 8, 11, 12], sh := (.cons .str (.cons .bool (.cons .str (.cons (.ptr 2000000 0) (.int .i64))))), objs := [(2000000, [11], .box (.cons .str (.cons .str (.cons .str .str))))], sts := [] }
noncomputable def lp_law01_PathMatchesReference_p1 (N : Nat) : Lp := lpOf cut_law01_PathMatchesReference_p1 (0, cut_law01_PathMatchesReference_p1_o0) [] (fun v => law01_PathMatchesReference_p1 N v.1.1 v.1.2.1 v.1.2.2.1 v.1.2.2.2.2 v.2.1.1 v.2.1.2.1 v.2.1.2.2.1 v.2.1.2.2.2)
noncomputable def lam_law01_PathMatchesReference_p1 (_ : Nat) : Lps := fun _ => none
theorem lpok_law01_PathMatchesReference_p1 (N : Nat) (ro : Option Nat) : LpOk Tryd.prog 182 ro (lp_law01_PathMatchesReference_p1 N) (codeAt c_law01_PathMatchesReference [true, true, true, true, true, true, true, false, true, false, false, true, true]) :=
  piece_ok (envok_law01_PathMatchesReference N) mixed (Λ := lam_law01_PathMatchesReference_p1 N) (p := 16339) (obs_ok (l := []) (by kernel_rfl) obsNil) (by kernel_rfl) (by intro v; kernel_rfl)
noncomputable def cut_law01_PathMatchesReference_l0 : Cut := { tms := [1, 7, 8, 11, 12], sh := (.cons .str (.cons .bool (.cons .str (.cons (.ptr 2000000 0) (.int .i64))))), objs := [(2000000, [11], .box (.cons .str (.cons .str (.cons .str .str))))], sts := [] }
noncomputable def cut_law01_PathMatchesReference_l0_o0 : Cut := { tms := [6], sh := .bool, objs := [], sts := [] }
noncomputable def cut_law01_PathMatchesReference_l0_o1 : Cut := { tms := [7, 8], sh := (.cons .bool .str), objs := [], sts := [] }
noncomputable def lp_law01_PathMatchesReference_l0 (N : Nat) : Lp := lpOf cut_law01_PathMatchesReference_l0 (1, cut_law01_PathMatchesReference_l0_o0) [(2, cut_law01_PathMatchesReference_l0_o1)] (fun v => law01_PathMatchesReference_l0 N N v.1.1 v.1.2.1 v.1.2.2.1 v.1.2.2.2.2 v.2.1.1 v.2.1.2.1 v.2.1.2.2.1 v.2.1.2.2.2)
noncomputable def lam_law01_PathMatchesReference_l0 (N : Nat) : Lps := fun p => bif Nat.beq p 16339 then some (lp_law01_PathMatchesReference_p1 N) else bif Nat.beq p 130707 then some (lp_law01_PathMatchesReference_p2 N) else none
theorem lpok_law01_PathMatchesReference_l0 (N : Nat) (ro : Option Nat) : LpOk Tryd.prog 182 ro (lp_law01_PathMatchesReference_l0 N) (codeAt c_law01_PathMatchesReference [true, true, true, true, true, true, true, false, true, false]) := by
  rw [show (codeAt c_law01_PathMatchesReference [true, true, true, true, true, true, true, false, true, false]) = .loop (codeAt c_law01_PathMatchesReference [true, true, true, true, true, true, true, false, true, false, false]) by kernel_rfl]
  exact loop_ok (envok_law01_PathMatchesReference N) mixed (Λ := lam_law01_PathMatchesReference_l0 N) (p := 4084) (obs_ok (l := [(lp_law01_PathMatchesReference_p2 N, (codeAt c_law01_PathMatchesReference [true, true, true, true, true, true, true, false, true, false, false, true, false, false, true, true])), (lp_law01_PathMatchesReference_p1 N, (codeAt c_law01_PathMatchesReference [true, true, true, true, true, true, true, false, true, false, false, true, true]))]) (by kernel_rfl) (obsCons (lpok_law01_PathMatchesReference_p2 N ro) (obsCons (lpok_law01_PathMatchesReference_p1 N ro) obsNil))) (by kernel_rfl) (by intro rec v; kernel_rfl) N
noncomputable def lam_law01_PathMatchesReference (N : Nat) : Lps := fun p => bif Nat.beq p 2042 then some (lp_law01_PathMatchesReference_l0 N) else none
noncomputable def ctr_law01_PathMatchesReference (N : Nat) : Ctr := ctrOf (.cons (.list (.int .u8)) (.cons .str (.val T_a2_uint8))) .bool [] (fun v => law01_PathMatchesReference N v.1 v.2.1 v.2.2)
theorem sound_law01_PathMatchesReference (N : Nat) : SoundF Tryd.prog 3 (fun vs => (ctr_law01_PathMatchesReference N).run vs some) :=
  fn_sound (envok_law01_PathMatchesReference N) mixed (Λ := lam_law01_PathMatchesReference N) (fn := Tryd.f3) (c := c_law01_PathMatchesReference) Tryd.func3 (by kernel_rfl) (by kernel_rfl) (obs_ok (l := [(lp_law01_PathMatchesReference_l0 N, (codeAt c_law01_PathMatchesReference [true, true, true, true, true, true, true, false, true, false]))]) (by kernel_rfl) (obsCons (lpok_law01_PathMatchesReference_l0 N none) obsNil)) (by kernel_rfl) (by intro v; kernel_rfl)

noncomputable def c_ref01_MadePlace : Code := match Tryd.f28.body with | some c => c | none => .skip
noncomputable def tab_ref01_MadePlace (N : Nat) : List (Nat × Ctr) := [(13, ctr_ref01_Made N), (43, ctr_ref01_Body N), (31, ctr_ref01_Call N)]
noncomputable def env_ref01_MadePlace (N : Nat) : Env := mkEnv tyRows eqRows methRows [] [] (tab_ref01_MadePlace N)
theorem envok_ref01_MadePlace (N : Nat) : EnvOk Tryd.prog (env_ref01_MadePlace N) := mkEnv_ok tyRows_ok eqRows_ok methRows_ok ⟨sound_ref01_Made N, ⟨sound_ref01_Body N, ⟨sound_ref01_Call N, trivial⟩⟩⟩
noncomputable def cut_ref01_MadePlace_p0 : Cut := { tms := [1, 2, 3], sh := (.cons (.ptr 2000000 0) (.cons (.ptr 2000001 0) (.ptr 2000002 0))), objs := [(2000000, [1], .box (.cons (.list (.int .u8)) (.cons (.int .u8) (.int .u16)))), (2000001, [2], .box (.cons .str (.cons (.int .i64) (.cons (.int .i64) .str)))), (2000002, [3], .box (.cons .str (.cons (.int .i64) (.cons (.int .i64) .str))))], sts := [] }
noncomputable def cut_ref01_MadePlace_p0_o0 : Cut := { tms := [2], sh := (.ptr 2000000 0), objs := [(2000000, [2], .box (.cons .str (.cons (.int .i64) (.cons (.int .i64) .str))))], sts := [] }
noncomputable def lp_ref01_MadePlace_p0 (N : Nat) : Lp := lpOf cut_ref01_MadePlace_p0 (1, cut_ref01_MadePlace_p0_o0) [] (fun v => ref01_MadePlace_p0 N v.2.1.1 v.2.1.2.1 v.2.1.2.2 v.2.2.1.1 v.2.2.1.2.1 v.2.2.1.2.2.1 v.2.2.1.2.2.2 v.2.2.2.1.1 v.2.2.2.1.2.1 v.2.2.2.1.2.2.1 v.2.2.2.1.2.2.2)
noncomputable def lam_ref01_MadePlace_p0 (_ : Nat) : Lps := fun _ => none
theorem lpok_ref01_MadePlace_p0 (N : Nat) (ro : Option Nat) : LpOk Tryd.prog 45 ro (lp_ref01_MadePlace_p0 N) (codeAt c_ref01_MadePlace [true, true, true]) :=
  piece_ok (envok_ref01_MadePlace N) mixed (Λ := lam_ref01_MadePlace_p0 N) (p := 15) (obs_ok (l := []) (by kernel_rfl) obsNil) (by kernel_rfl) (by intro v; kernel_rfl)
noncomputable def lam_ref01_MadePlace (N : Nat) : Lps := fun p => bif Nat.beq p 15 then some (lp_ref01_MadePlace_p0 N) else none
noncomputable def ctr_ref01_MadePlace (N : Nat) : Ctr := ctrOf (.val T_ref01_Raw) (.val T_api_Place) [] (fun v => ref01_MadePlace N v)
theorem sound_ref01_MadePlace (N : Nat) : SoundF Tryd.prog 28 (fun vs => (ctr_ref01_MadePlace N).run vs some) :=
  fn_sound (envok_ref01_MadePlace N) mixed (Λ := lam_ref01_MadePlace N) (fn := Tryd.f28) (c := c_ref01_MadePlace) Tryd.func28 (by kernel_rfl) (by kernel_rfl) (obs_ok (l := [(lp_ref01_MadePlace_p0 N, (codeAt c_ref01_MadePlace [true, true, true]))]) (by kernel_rfl) (obsCons (lpok_ref01_MadePlace_p0 N none) obsNil)) (by kernel_rfl) (by intro v; kernel_rfl)

noncomputable def c_law01_PathPlaces : Code := match Tryd.f4.body with | some c => c | none => .skip
noncomputable def tab_law01_PathPlaces (N : Nat) : List (Nat × Ctr) := [(12, ctr_law01_sanity N), (28, ctr_ref01_MadePlace N), (29, ctr_path_Key N), (30, ctr_ref01_Key N), (18, ctr_path_Place N), (19, ctr_ref01_Place N)]
noncomputable def env_law01_PathPlaces (N : Nat) : Env := mkEnv tyRows eqRows methRows [] [] (tab_law01_PathPlaces N)
theorem envok_law01_PathPlaces (N : Nat) : EnvOk Tryd.prog (env_law01_PathPlaces N) := mkEnv_ok tyRows_ok eqRows_ok methRows_ok ⟨sound_law01_sanity N, ⟨sound_ref01_MadePlace N, ⟨sound_path_Key N, ⟨sound_ref01_Key N, ⟨sound_path_Place N, ⟨sound_ref01_Place N, trivial⟩⟩⟩⟩⟩⟩
noncomputable def cut_law01_PathPlaces_p5 : Cut := { tms := [7, 18, 19, 20, 21], sh := (.cons .bool (.cons (.ptr 2000000 0) (.cons (.int .i64) (.cons (.ptr 2000001 0) (.int .i64))))), objs := [(2000000, [18], .box (.cons .str (.cons .str .str))), (2000001, [20], .box (.cons .str (.cons (.int .i64) (.cons (.int .i64) .str))))], sts := [] }
noncomputable def cut_law01_PathPlaces_p5_o0 : Cut := { tms := [6], sh := .bool, objs := [], sts := [] }
noncomputable def cut_law01_PathPlaces_p5_o1 : Cut := { tms := [7, 18, 19], sh := (.cons .bool (.cons (.ptr 2000000 0) (.int .i64))), objs := [(2000000, [18], .box (.cons .str (.cons .str .str)))], sts := [] }
noncomputable def lp_law01_PathPlaces_p5 (N : Nat) : Lp := lpOf cut_law01_PathPlaces_p5 (1, cut_law01_PathPlaces_p5_o0) [(0, cut_law01_PathPlaces_p5_o1)] (fun v => law01_PathPlaces_p5 N v.1.1 v.1.2.2.1 v.1.2.2.2.2 v.2.1.1 v.2.1.2.1 v.2.1.2.2 v.2.2.1.1 v.2.2.1.2.1 v.2.2.1.2.2.1 v.2.2.1.2.2.2)
noncomputable def lam_law01_PathPlaces_p5 (_ : Nat) : Lps := fun _ => none
theorem lpok_law01_PathPlaces_p5 (N : Nat) (ro : Option Nat) : LpOk Tryd.prog 157 ro (lp_law01_PathPlaces_p5 N) (codeAt c_law01_PathPlaces [true, true, true, true, true, true, true, true, true, true, false, true, false, false, true, false, false, true]) :=
  piece_ok (envok_law01_PathPlaces N) mixed (Λ := lam_law01_PathPlaces_p5 N) (p := 524105) (obs_ok (l := []) (by kernel_rfl) obsNil) (by kernel_rfl) (by intro v; kernel_rfl)
noncomputable def cut_law01_PathPlaces_p4 : Cut := { tms := [7, 18, 19], sh := (.cons .bool (.cons (.ptr 2000000 0) (.int .i64))), objs := [(2000000, [18], .box (.cons .str (.cons .str .str)))], sts := [] }
noncomputable def cut_law01_PathPlaces_p4_o0 : Cut := { tms := [7, 18, 19], sh := (.cons .bool (.cons (.ptr 2000000 0) (.int .i64))), objs := [(2000000, [18], .box (.cons .str (.cons .str .str)))], sts := [] }
noncomputable def lp_law01_PathPlaces_p4 (N : Nat) : Lp := lpOf cut_law01_PathPlaces_p4 (0, cut_law01_PathPlaces_p4_o0) [] (fun v => law01_PathPlaces_p4 N v.1.1 v.1.2.2 v.2.1.1 v.2.1.2.1 v.2.1.2.2)
noncomputable def lam_law01_PathPlaces_p4 (_ : Nat) : Lps := fun _ => none
theorem lpok_law01_PathPlaces_p4 (N : Nat) (ro : Option Nat) : LpOk Tryd.prog 157 ro (lp_law01_PathPlaces_p4 N) (codeAt c_law01_PathPlaces [true, true, true, true, true, true, true, true, true, true, false, true, false, false, true, true]) :=
  piece_ok (envok_law01_PathPlaces N) mixed (Λ := lam_law01_PathPlaces_p4 N) (p := 131027) (obs_ok (l := []) (by kernel_rfl) obsNil) (by kernel_rfl) (by intro v; kernel_rfl)
noncomputable def cut_law01_PathPlaces_l3 : Cut := { tms := [7, 18, 19], sh := (.cons .bool (.cons (.ptr 2000000 0) (.int .i64))), objs := [(2000000, [18], .box (.cons .str (.cons .str .str)))], sts := [] }
noncomputable def cut_law01_PathPlaces_l3_o0 : Cut := { tms := [6], sh := .bool, objs := [], sts := [] }
noncomputable def cut_law01_PathPlaces_l3_o1 : Cut := { tms := [7], sh := .bool, objs := [], sts := [] }
noncomputable def lp_law01_PathPlaces_l3 (N : Nat) : Lp := lpOf cut_law01_PathPlaces_l3 (1, cut_law01_PathPlaces_l3_o0) [(5, cut_law01_PathPlaces_l3_o1)] (fun v => law01_PathPlaces_l3 N N v.1.1 v.1.2.2 v.2.1.1 v.2.1.2.1 v.2.1.2.2)
noncomputable def lam_law01_PathPlaces_l3 (N : Nat) : Lps := fun p => bif Nat.beq p 131027 then some (lp_law01_PathPlaces_p4 N) else bif Nat.beq p 524105 then some (lp_law01_PathPlaces_p5 N) else none
theorem lpok_law01_PathPlaces_l3 (N : Nat) (ro : Option Nat) : LpOk Tryd.prog 157 ro (lp_law01_PathPlaces_l3 N) (codeAt c_law01_PathPlaces [true, true, true, true, true, true, true, true, true, true, false, true, false]) := by
  rw [show (codeAt c_law01_PathPlaces [true, true, true, true, true, true, true, true, true, true, false, true, false]) = .loop (codeAt c_law01_PathPlaces [true, true, true, true, true, true, true, true, true, true, false, true, false, false]) by kernel_rfl]
  exact loop_ok (envok_law01_PathPlaces N) mixed (Λ := lam_law01_PathPlaces_l3 N) (p := 32756) (obs_ok (l := [(lp_law01_PathPlaces_p5 N, (codeAt c_law01_PathPlaces [true, true, true, true, true, true, true, true, true, true, false, true, false, false, true, false, false, true])), (lp_law01_PathPlaces_p4 N, (codeAt c_law01_PathPlaces [true, true, true, true, true, true, true, true, true, true, false, true, false, false, true, true]))]) (by kernel_rfl) (obsCons (lpok_law01_PathPlaces_p5 N ro) (obsCons (lpok_law01_PathPlaces_p4 N ro) obsNil))) (by kernel_rfl) (by intro rec v; kernel_rfl) N
noncomputable def cut_law01_PathPlaces_l2 : Cut := { tms := [3, 4, 5, 7, 9, 10], sh := (.cons (.ptr 2000000 0) (.cons (.ptr 2000001 0) (.cons (.ptr 2000002 0) (.cons .bool (.cons (.ptr 2000003 0) (.int .i64)))))), objs := [(2000000, [3], .box (.cons .str (.cons (.int .i64) (.cons (.int .i64) .str)))), (2000001, [4], .box (.cons (.list (.int .u8)) (.cons (.int .u8) (.int .u16)))), (2000002, [5], .box (.cons (.int .i16) (.cons (.int .i16) (.int .i16)))), (2000003, [9], .box (.cons .str (.cons (.int .i64) (.cons (.int .i64) (.cons .str (.cons .str (.cons (.int .i64) (.cons (.int .i64) .str))))))))], sts := [] }
noncomputable def cut_law01_PathPlaces_l2_o0 : Cut := { tms := [6], sh := .bool, objs := [], sts := [] }
noncomputable def cut_law01_PathPlaces_l2_o1 : Cut := { tms := [3, 4, 5, 7], sh := (.cons (.ptr 2000000 0) (.cons (.ptr 2000001 0) (.cons (.ptr 2000002 0) .bool))), objs := [(2000000, [3], .box (.cons .str (.cons (.int .i64) (.cons (.int .i64) .str)))), (2000001, [4], .box (.cons (.list (.int .u8)) (.cons (.int .u8) (.int .u16)))), (2000002, [5], .box (.cons (.int .i16) (.cons (.int .i16) (.int .i16))))], sts := [] }
noncomputable def lp_law01_PathPlaces_l2 (N : Nat) : Lp := lpOf cut_law01_PathPlaces_l2 (1, cut_law01_PathPlaces_l2_o0) [(3, cut_law01_PathPlaces_l2_o1)] (fun v => law01_PathPlaces_l2 N N v.1.2.2.2.1 v.1.2.2.2.2.2 v.2.1.1 v.2.1.2.1 v.2.1.2.2.1 v.2.1.2.2.2 v.2.2.1.1 v.2.2.1.2.1 v.2.2.1.2.2 v.2.2.2.1.1 v.2.2.2.1.2.1 v.2.2.2.1.2.2 v.2.2.2.2.1.1 v.2.2.2.2.1.2.1 v.2.2.2.2.1.2.2.1 v.2.2.2.2.1.2.2.2.1 v.2.2.2.2.1.2.2.2.2.1 v.2.2.2.2.1.2.2.2.2.2.1 v.2.2.2.2.1.2.2.2.2.2.2.1 v.2.2.2.2.1.2.2.2.2.2.2.2)
noncomputable def lam_law01_PathPlaces_l2 (_ : Nat) : Lps := fun _ => none
theorem lpok_law01_PathPlaces_l2 (N : Nat) (ro : Option Nat) : LpOk Tryd.prog 157 ro (lp_law01_PathPlaces_l2 N) (codeAt c_law01_PathPlaces [true, true, true, true, true, true, false, true, false]) := by
  rw [show (codeAt c_law01_PathPlaces [true, true, true, true, true, true, false, true, false]) = .loop (codeAt c_law01_PathPlaces [true, true, true, true, true, true, false, true, false, false]) by kernel_rfl]
  exact loop_ok (envok_law01_PathPlaces N) mixed (Λ := lam_law01_PathPlaces_l2 N) (p := 2036) (obs_ok (l := []) (by kernel_rfl) obsNil) (by kernel_rfl) (by intro rec v; kernel_rfl) N
noncomputable def cut_law01_PathPlaces_p1 : Cut := { tms := [3, 4, 5, 7, 8], sh := (.cons (.ptr 2000000 0) (.cons (.ptr 2000001 0) (.cons (.ptr 2000002 0) (.cons .bool (.ptr 2000003 0))))), objs := [(2000000, [3], .box (.cons .str (.cons (.int .i64) (.cons (.int .i64) .str)))), (2000001, [4], .box (.cons (.list (.int .u8)) (.cons (.int .u8) (.int .u16)))), (2000002, [5], .box (.cons (.int .i16) (.cons (.int .i16) (.int .i16)))), (2000003, [8], .box (.cons .str (.cons (.int .i64) (.cons (.int .i64) .str))))], sts := [] }
noncomputable def cut_law01_PathPlaces_p1_o0 : Cut := { tms := [6], sh := .bool, objs := [], sts := [] }
noncomputable def lp_law01_PathPlaces_p1 (N : Nat) : Lp := lpOf cut_law01_PathPlaces_p1 (1, cut_law01_PathPlaces_p1_o0) [] (fun v => law01_PathPlaces_p1 N v.1.2.2.2.1 v.2.1.1 v.2.1.2.1 v.2.1.2.2.1 v.2.1.2.2.2 v.2.2.1.1 v.2.2.1.2.1 v.2.2.1.2.2 v.2.2.2.1.1 v.2.2.2.1.2.1 v.2.2.2.1.2.2 v.2.2.2.2.1.1 v.2.2.2.2.1.2.1 v.2.2.2.2.1.2.2.1 v.2.2.2.2.1.2.2.2)
noncomputable def lam_law01_PathPlaces_p1 (N : Nat) : Lps := fun p => bif Nat.beq p 1018 then some (lp_law01_PathPlaces_l2 N) else bif Nat.beq p 16378 then some (lp_law01_PathPlaces_l3 N) else none
theorem lpok_law01_PathPlaces_p1 (N : Nat) (ro : Option Nat) : LpOk Tryd.prog 157 ro (lp_law01_PathPlaces_p1 N) (codeAt c_law01_PathPlaces [true, true, true, true, true]) :=
  piece_ok (envok_law01_PathPlaces N) mixed (Λ := lam_law01_PathPlaces_p1 N) (p := 63) (obs_ok (l := [(lp_law01_PathPlaces_l2 N, (codeAt c_law01_PathPlaces [true, true, true, true, true, true, false, true, false])), (lp_law01_PathPlaces_l3 N, (codeAt c_law01_PathPlaces [true, true, true, true, true, true, true, true, true, true, false, true, false]))]) (by kernel_rfl) (obsCons (lpok_law01_PathPlaces_l2 N ro) (obsCons (lpok_law01_PathPlaces_l3 N ro) obsNil))) (by kernel_rfl) (by intro v; kernel_rfl)
noncomputable def cut_law01_PathPlaces_p0 : Cut := { tms := [3, 4, 5, 7], sh := (.cons (.ptr 2000000 0) (.cons (.ptr 2000001 0) (.cons (.ptr 2000002 0) .bool))), objs := [(2000000, [3], .box (.cons .str (.cons (.int .i64) (.cons (.int .i64) .str)))), (2000001, [4], .box (.cons (.list (.int .u8)) (.cons (.int .u8) (.int .u16)))), (2000002, [5], .box (.cons (.int .i16) (.cons (.int .i16) (.int .i16))))], sts := [] }
noncomputable def cut_law01_PathPlaces_p0_o0 : Cut := { tms := [6], sh := .bool, objs := [], sts := [] }
noncomputable def lp_law01_PathPlaces_p0 (N : Nat) : Lp := lpOf cut_law01_PathPlaces_p0 (1, cut_law01_PathPlaces_p0_o0) [] (fun v => law01_PathPlaces_p0 N v.1.2.2.2 v.2.1.1 v.2.1.2.1 v.2.1.2.2.1 v.2.1.2.2.2 v.2.2.1.1 v.2.2.1.2.1 v.2.2.1.2.2 v.2.2.2.1.1 v.2.2.2.1.2.1 v.2.2.2.1.2.2)
noncomputable def lam_law01_PathPlaces_p0 (N : Nat) : Lps := fun p => bif Nat.beq p 63 then some (lp_law01_PathPlaces_p1 N) else none
theorem lpok_law01_PathPlaces_p0 (N : Nat) (ro : Option Nat) : LpOk Tryd.prog 157 ro (lp_law01_PathPlaces_p0 N) (codeAt c_law01_PathPlaces [true, true, true]) :=
  piece_ok (envok_law01_PathPlaces N) mixed (Λ := lam_law01_PathPlaces_p0 N) (p := 15) (obs_ok (l := [(lp_law01_PathPlaces_p1 N, (codeAt c_law01_PathPlaces [true, true, true, true, true]))]) (by kernel_rfl) (obsCons (lpok_law01_PathPlaces_p1 N ro) obsNil)) (by kernel_rfl) (by intro v; kernel_rfl)
noncomputable def lam_law01_PathPlaces (N : Nat) : Lps := fun p => bif Nat.beq p 15 then some (lp_law01_PathPlaces_p0 N) else none
noncomputable def ctr_law01_PathPlaces (N : Nat) : Ctr := ctrOf (.cons (.val T_api_Place) (.cons (.val T_ref01_Raw) (.val T_a3_int16))) .bool [] (fun v => law01_PathPlaces N v.1 v.2.1 v.2.2)
theorem sound_law01_PathPlaces (N : Nat) : SoundF Tryd.prog 4 (fun vs => (ctr_law01_PathPlaces N).run vs some) :=
  fn_sound (envok_law01_PathPlaces N) mixed (Λ := lam_law01_PathPlaces N) (fn := Tryd.f4) (c := c_law01_PathPlaces) Tryd.func4 (by kernel_rfl) (by kernel_rfl) (obs_ok (l := [(lp_law01_PathPlaces_p0 N, (codeAt c_law01_PathPlaces [true, true, true]))]) (by kernel_rfl) (obsCons (lpok_law01_PathPlaces_p0 N none) obsNil)) (by kernel_rfl) (by intro v; kernel_rfl)

noncomputable def c_law01_PathTyped : Code := match Tryd.f5.body with | some c => c | none => .skip
noncomputable def tab_law01_PathTyped (N : Nat) : List (Nat × Ctr) := [(12, ctr_law01_sanity N), (13, ctr_ref01_Made N), (26, ctr_path_Text N), (14, ctr_path_Parse N), (20, ctr_path_Valid N)]
noncomputable def env_law01_PathTyped (N : Nat) : Env := mkEnv tyRows eqRows methRows [] [] (tab_law01_PathTyped N)
theorem envok_law01_PathTyped (N : Nat) : EnvOk Tryd.prog (env_law01_PathTyped N) := mkEnv_ok tyRows_ok eqRows_ok methRows_ok ⟨sound_law01_sanity N, ⟨sound_ref01_Made N, ⟨sound_path_Text N, ⟨sound_path_Parse N, ⟨sound_path_Valid N, trivial⟩⟩⟩⟩⟩
noncomputable def lam_law01_PathTyped (_ : Nat) : Lps := fun _ => none
noncomputable def ctr_law01_PathTyped (N : Nat) : Ctr := ctrOf (.cons (.list (.int .u8)) .str) .bool [] (fun v => law01_PathTyped N v.1 v.2)
theorem sound_law01_PathTyped (N : Nat) : SoundF Tryd.prog 5 (fun vs => (ctr_law01_PathTyped N).run vs some) :=
  fn_sound (envok_law01_PathTyped N) mixed (Λ := lam_law01_PathTyped N) (fn := Tryd.f5) (c := c_law01_PathTyped) Tryd.func5 (by kernel_rfl) (by kernel_rfl) (obs_ok (l := []) (by kernel_rfl) obsNil) (by kernel_rfl) (by intro v; kernel_rfl)

noncomputable def c_law01_PathJoins : Code := match Tryd.f6.body with | some c => c | none => .skip
noncomputable def tab_law01_PathJoins (N : Nat) : List (Nat × Ctr) := [(12, ctr_law01_sanity N), (13, ctr_ref01_Made N), (16, ctr_path_Join N), (20, ctr_path_Valid N), (22, ctr_law01_split N), (24, ctr_path_Under N)]
noncomputable def env_law01_PathJoins (N : Nat) : Env := mkEnv tyRows eqRows methRows [] [] (tab_law01_PathJoins N)
theorem envok_law01_PathJoins (N : Nat) : EnvOk Tryd.prog (env_law01_PathJoins N) := mkEnv_ok tyRows_ok eqRows_ok methRows_ok ⟨sound_law01_sanity N, ⟨sound_ref01_Made N, ⟨sound_path_Join N, ⟨sound_path_Valid N, ⟨sound_law01_split N, ⟨sound_path_Under N, trivial⟩⟩⟩⟩⟩⟩
noncomputable def cut_law01_PathJoins_p0 : Cut := { tms := [5, 6], sh := (.cons .bool .str), objs := [], sts := [] }
noncomputable def cut_law01_PathJoins_p0_o0 : Cut := { tms := [4], sh := .bool, objs := [], sts := [] }
noncomputable def lp_law01_PathJoins_p0 (N : Nat) : Lp := lpOf cut_law01_PathJoins_p0 (1, cut_law01_PathJoins_p0_o0) [] (fun v => law01_PathJoins_p0 N v.1.1 v.1.2)
noncomputable def lam_law01_PathJoins_p0 (_ : Nat) : Lps := fun _ => none
theorem lpok_law01_PathJoins_p0 (N : Nat) (ro : Option Nat) : LpOk Tryd.prog 93 ro (lp_law01_PathJoins_p0 N) (codeAt c_law01_PathJoins [true, true, true, true, true, true]) :=
  piece_ok (envok_law01_PathJoins N) mixed (Λ := lam_law01_PathJoins_p0 N) (p := 127) (obs_ok (l := []) (by kernel_rfl) obsNil) (by kernel_rfl) (by intro v; kernel_rfl)
noncomputable def lam_law01_PathJoins (N : Nat) : Lps := fun p => bif Nat.beq p 127 then some (lp_law01_PathJoins_p0 N) else none
noncomputable def ctr_law01_PathJoins (N : Nat) : Ctr := ctrOf (.cons (.list (.int .u8)) .str) .bool [] (fun v => law01_PathJoins N v.1 v.2)
theorem sound_law01_PathJoins (N : Nat) : SoundF Tryd.prog 6 (fun vs => (ctr_law01_PathJoins N).run vs some) :=
  fn_sound (envok_law01_PathJoins N) mixed (Λ := lam_law01_PathJoins N) (fn := Tryd.f6) (c := c_law01_PathJoins) Tryd.func6 (by kernel_rfl) (by kernel_rfl) (obs_ok (l := [(lp_law01_PathJoins_p0 N, (codeAt c_law01_PathJoins [true, true, true, true, true, true]))]) (by kernel_rfl) (obsCons (lpok_law01_PathJoins_p0 N none) obsNil)) (by kernel_rfl) (by intro v; kernel_rfl)

noncomputable def c_law01_PathBelow : Code := match Tryd.f7.body with | some c => c | none => .skip
noncomputable def tab_law01_PathBelow (N : Nat) : List (Nat × Ctr) := [(12, ctr_law01_sanity N), (13, ctr_ref01_Made N), (24, ctr_path_Under N)]
noncomputable def env_law01_PathBelow (N : Nat) : Env := mkEnv tyRows eqRows methRows [] [] (tab_law01_PathBelow N)
theorem envok_law01_PathBelow (N : Nat) : EnvOk Tryd.prog (env_law01_PathBelow N) := mkEnv_ok tyRows_ok eqRows_ok methRows_ok ⟨sound_law01_sanity N, ⟨sound_ref01_Made N, ⟨sound_path_Under N, trivial⟩⟩⟩
noncomputable def cut_law01_PathBelow_p2 : Cut := { tms := [5, 6, 7, 8], sh := (.cons .bool (.cons .str (.cons .str .str))), objs := [], sts := [] }
noncomputable def cut_law01_PathBelow_p2_o0 : Cut := { tms := [4], sh := .bool, objs := [], sts := [] }
noncomputable def lp_law01_PathBelow_p2 (N : Nat) : Lp := lpOf cut_law01_PathBelow_p2 (1, cut_law01_PathBelow_p2_o0) [] (fun v => law01_PathBelow_p2 N v.1.1 v.1.2.1 v.1.2.2.1 v.1.2.2.2)
noncomputable def lam_law01_PathBelow_p2 (_ : Nat) : Lps := fun _ => none
theorem lpok_law01_PathBelow_p2 (N : Nat) (ro : Option Nat) : LpOk Tryd.prog 107 ro (lp_law01_PathBelow_p2 N) (codeAt c_law01_PathBelow [true, true, true, true, true, true]) :=
  piece_ok (envok_law01_PathBelow N) mixed (Λ := lam_law01_PathBelow_p2 N) (p := 127) (obs_ok (l := []) (by kernel_rfl) obsNil) (by kernel_rfl) (by intro v; kernel_rfl)
noncomputable def cut_law01_PathBelow_p1 : Cut := { tms := [5, 6, 7, 8, 69], sh := (.cons .bool (.cons .str (.cons .str (.cons .str .bool)))), objs := [], sts := [] }
noncomputable def cut_law01_PathBelow_p1_o0 : Cut := { tms := [4], sh := .bool, objs := [], sts := [] }
noncomputable def cut_law01_PathBelow_p1_o1 : Cut := { tms := [5, 6, 7, 8], sh := (.cons .bool (.cons .str (.cons .str .str))), objs := [], sts := [] }
noncomputable def lp_law01_PathBelow_p1 (N : Nat) : Lp := lpOf cut_law01_PathBelow_p1 (1, cut_law01_PathBelow_p1_o0) [(0, cut_law01_PathBelow_p1_o1)] (fun v => law01_PathBelow_p1 N v.1.1 v.1.2.1 v.1.2.2.1 v.1.2.2.2.1 v.1.2.2.2.2)
noncomputable def lam_law01_PathBelow_p1 (_ : Nat) : Lps := fun _ => none
theorem lpok_law01_PathBelow_p1 (N : Nat) (ro : Option Nat) : LpOk Tryd.prog 107 ro (lp_law01_PathBelow_p1 N) (codeAt c_law01_PathBelow [true, true, true, true, false, true]) :=
  piece_ok (envok_law01_PathBelow N) mixed (Λ := lam_law01_PathBelow_p1 N) (p := 125) (obs_ok (l := []) (by kernel_rfl) obsNil) (by kernel_rfl) (by intro v; kernel_rfl)
noncomputable def cut_law01_PathBelow_p0 : Cut := { tms := [5, 6, 7, 8], sh := (.cons .bool (.cons .str (.cons .str .str))), objs := [], sts := [] }
noncomputable def cut_law01_PathBelow_p0_o0 : Cut := { tms := [4], sh := .bool, objs := [], sts := [] }
noncomputable def lp_law01_PathBelow_p0 (N : Nat) : Lp := lpOf cut_law01_PathBelow_p0 (1, cut_law01_PathBelow_p0_o0) [] (fun v => law01_PathBelow_p0 N v.1.1 v.1.2.1 v.1.2.2.1 v.1.2.2.2)
noncomputable def lam_law01_PathBelow_p0 (N : Nat) : Lps := fun p => bif Nat.beq p 127 then some (lp_law01_PathBelow_p2 N) else none
theorem lpok_law01_PathBelow_p0 (N : Nat) (ro : Option Nat) : LpOk Tryd.prog 107 ro (lp_law01_PathBelow_p0 N) (codeAt c_law01_PathBelow [true, true, true, true, true]) :=
  piece_ok (envok_law01_PathBelow N) mixed (Λ := lam_law01_PathBelow_p0 N) (p := 63) (obs_ok (l := [(lp_law01_PathBelow_p2 N, (codeAt c_law01_PathBelow [true, true, true, true, true, true]))]) (by kernel_rfl) (obsCons (lpok_law01_PathBelow_p2 N ro) obsNil)) (by kernel_rfl) (by intro v; kernel_rfl)
noncomputable def lam_law01_PathBelow (N : Nat) : Lps := fun p => bif Nat.beq p 63 then some (lp_law01_PathBelow_p0 N) else bif Nat.beq p 125 then some (lp_law01_PathBelow_p1 N) else none
noncomputable def ctr_law01_PathBelow (N : Nat) : Ctr := ctrOf (.cons (.val T_a3_s_uint8) (.int .u8)) .bool [] (fun v => law01_PathBelow N v.1 v.2)
theorem sound_law01_PathBelow (N : Nat) : SoundF Tryd.prog 7 (fun vs => (ctr_law01_PathBelow N).run vs some) :=
  fn_sound (envok_law01_PathBelow N) mixed (Λ := lam_law01_PathBelow N) (fn := Tryd.f7) (c := c_law01_PathBelow) Tryd.func7 (by kernel_rfl) (by kernel_rfl) (obs_ok (l := [(lp_law01_PathBelow_p1 N, (codeAt c_law01_PathBelow [true, true, true, true, false, true])), (lp_law01_PathBelow_p0 N, (codeAt c_law01_PathBelow [true, true, true, true, true]))]) (by kernel_rfl) (obsCons (lpok_law01_PathBelow_p1 N none) (obsCons (lpok_law01_PathBelow_p0 N none) obsNil))) (by kernel_rfl) (by intro v; kernel_rfl)

noncomputable def c_law01_PathKeys : Code := match Tryd.f8.body with | some c => c | none => .skip
noncomputable def tab_law01_PathKeys (N : Nat) : List (Nat × Ctr) := [(12, ctr_law01_sanity N), (28, ctr_ref01_MadePlace N), (29, ctr_path_Key N), (18, ctr_path_Place N)]
noncomputable def env_law01_PathKeys (N : Nat) : Env := mkEnv tyRows eqRows methRows [] [] (tab_law01_PathKeys N)
theorem envok_law01_PathKeys (N : Nat) : EnvOk Tryd.prog (env_law01_PathKeys N) := mkEnv_ok tyRows_ok eqRows_ok methRows_ok ⟨sound_law01_sanity N, ⟨sound_ref01_MadePlace N, ⟨sound_path_Key N, ⟨sound_path_Place N, trivial⟩⟩⟩⟩
noncomputable def lam_law01_PathKeys (_ : Nat) : Lps := fun _ => none
noncomputable def ctr_law01_PathKeys (N : Nat) : Ctr := ctrOf (.cons (.val T_ref01_Raw) (.val T_ref01_Raw)) .bool [] (fun v => law01_PathKeys N v.1 v.2)
theorem sound_law01_PathKeys (N : Nat) : SoundF Tryd.prog 8 (fun vs => (ctr_law01_PathKeys N).run vs some) :=
  fn_sound (envok_law01_PathKeys N) mixed (Λ := lam_law01_PathKeys N) (fn := Tryd.f8) (c := c_law01_PathKeys) Tryd.func8 (by kernel_rfl) (by kernel_rfl) (obs_ok (l := []) (by kernel_rfl) obsNil) (by kernel_rfl) (by intro v; kernel_rfl)

noncomputable def c_law01_PathOrders : Code := match Tryd.f9.body with | some c => c | none => .skip
noncomputable def tab_law01_PathOrders (N : Nat) : List (Nat × Ctr) := [(12, ctr_law01_sanity N), (13, ctr_ref01_Made N), (29, ctr_path_Key N), (31, ctr_ref01_Call N), (28, ctr_ref01_MadePlace N), (24, ctr_path_Under N)]
noncomputable def env_law01_PathOrders (N : Nat) : Env := mkEnv tyRows eqRows methRows [] [] (tab_law01_PathOrders N)
theorem envok_law01_PathOrders (N : Nat) : EnvOk Tryd.prog (env_law01_PathOrders N) := mkEnv_ok tyRows_ok eqRows_ok methRows_ok ⟨sound_law01_sanity N, ⟨sound_ref01_Made N, ⟨sound_path_Key N, ⟨sound_ref01_Call N, ⟨sound_ref01_MadePlace N, ⟨sound_path_Under N, trivial⟩⟩⟩⟩⟩⟩
noncomputable def cut_law01_PathOrders_p4 : Cut := { tms := [4, 7, 8], sh := (.cons (.ptr 2000000 0) (.cons .bool .str)), objs := [(2000000, [4], .box (.cons (.list (.int .u8)) (.cons (.int .u8) (.int .u16))))], sts := [] }
noncomputable def cut_law01_PathOrders_p4_o0 : Cut := { tms := [6], sh := .bool, objs := [], sts := [] }
noncomputable def lp_law01_PathOrders_p4 (N : Nat) : Lp := lpOf cut_law01_PathOrders_p4 (1, cut_law01_PathOrders_p4_o0) [] (fun v => law01_PathOrders_p4 N v.1.2.1 v.1.2.2 v.2.1.1 v.2.1.2.1 v.2.1.2.2)
noncomputable def lam_law01_PathOrders_p4 (_ : Nat) : Lps := fun _ => none
theorem lpok_law01_PathOrders_p4 (N : Nat) (ro : Option Nat) : LpOk Tryd.prog 234 ro (lp_law01_PathOrders_p4 N) (codeAt c_law01_PathOrders [true, true, true, true, true, true, true, true, true, true, true, true, true, true, true, true]) :=
  piece_ok (envok_law01_PathOrders N) mixed (Λ := lam_law01_PathOrders_p4 N) (p := 131071) (obs_ok (l := []) (by kernel_rfl) obsNil) (by kernel_rfl) (by intro v; kernel_rfl)
noncomputable def cut_law01_PathOrders_p3 : Cut := { tms := [4, 7, 8, 11, 13, 19, 23, 182], sh := (.cons (.ptr 2000000 0) (.cons .bool (.cons .str (.cons .str (.cons .str (.cons .str (.cons .str .bool))))))), objs := [(2000000, [4], .box (.cons (.list (.int .u8)) (.cons (.int .u8) (.int .u16))))], sts := [] }
noncomputable def cut_law01_PathOrders_p3_o0 : Cut := { tms := [6], sh := .bool, objs := [], sts := [] }
noncomputable def cut_law01_PathOrders_p3_o1 : Cut := { tms := [4, 7, 8, 11, 13, 19, 23], sh := (.cons (.ptr 2000000 0) (.cons .bool (.cons .str (.cons .str (.cons .str (.cons .str .str)))))), objs := [(2000000, [4], .box (.cons (.list (.int .u8)) (.cons (.int .u8) (.int .u16))))], sts := [] }
noncomputable def lp_law01_PathOrders_p3 (N : Nat) : Lp := lpOf cut_law01_PathOrders_p3 (1, cut_law01_PathOrders_p3_o0) [(0, cut_law01_PathOrders_p3_o1)] (fun v => law01_PathOrders_p3 N v.1.2.1 v.1.2.2.1 v.1.2.2.2.1 v.1.2.2.2.2.1 v.1.2.2.2.2.2.1 v.1.2.2.2.2.2.2.1 v.1.2.2.2.2.2.2.2 v.2.1.1 v.2.1.2.1 v.2.1.2.2)
noncomputable def lam_law01_PathOrders_p3 (_ : Nat) : Lps := fun _ => none
theorem lpok_law01_PathOrders_p3 (N : Nat) (ro : Option Nat) : LpOk Tryd.prog 234 ro (lp_law01_PathOrders_p3 N) (codeAt c_law01_PathOrders [true, true, true, true, true, true, true, true, true, true, true, true, true, true, false, true]) :=
  piece_ok (envok_law01_PathOrders N) mixed (Λ := lam_law01_PathOrders_p3 N) (p := 131069) (obs_ok (l := []) (by kernel_rfl) obsNil) (by kernel_rfl) (by intro v; kernel_rfl)
noncomputable def cut_law01_PathOrders_p2 : Cut := { tms := [4, 7, 8, 11, 13, 19, 23], sh := (.cons (.ptr 2000000 0) (.cons .bool (.cons .str (.cons .str (.cons .str (.cons .str .str)))))), objs := [(2000000, [4], .box (.cons (.list (.int .u8)) (.cons (.int .u8) (.int .u16))))], sts := [] }
noncomputable def cut_law01_PathOrders_p2_o0 : Cut := { tms := [6], sh := .bool, objs := [], sts := [] }
noncomputable def lp_law01_PathOrders_p2 (N : Nat) : Lp := lpOf cut_law01_PathOrders_p2 (1, cut_law01_PathOrders_p2_o0) [] (fun v => law01_PathOrders_p2 N v.1.2.1 v.1.2.2.1 v.1.2.2.2.1 v.1.2.2.2.2.1 v.1.2.2.2.2.2.1 v.1.2.2.2.2.2.2 v.2.1.1 v.2.1.2.1 v.2.1.2.2)
noncomputable def lam_law01_PathOrders_p2 (N : Nat) : Lps := fun p => bif Nat.beq p 131071 then some (lp_law01_PathOrders_p4 N) else none
theorem lpok_law01_PathOrders_p2 (N : Nat) (ro : Option Nat) : LpOk Tryd.prog 234 ro (lp_law01_PathOrders_p2 N) (codeAt c_law01_PathOrders [true, true, true, true, true, true, true, true, true, true, true, true, true, true, true]) :=
  piece_ok (envok_law01_PathOrders N) mixed (Λ := lam_law01_PathOrders_p2 N) (p := 65535) (obs_ok (l := [(lp_law01_PathOrders_p4 N, (codeAt c_law01_PathOrders [true, true, true, true, true, true, true, true, true, true, true, true, true, true, true, true]))]) (by kernel_rfl) (obsCons (lpok_law01_PathOrders_p4 N ro) obsNil)) (by kernel_rfl) (by intro v; kernel_rfl)
noncomputable def cut_law01_PathOrders_p1 : Cut := { tms := [4, 5, 7, 8, 9, 10, 11, 13, 15, 17, 19, 22, 23, 129], sh := (.cons (.ptr 2000000 0) (.cons (.ptr 2000001 0) (.cons .bool (.cons .str (.cons (.int .i64) (.cons (.int .i64) (.cons .str (.cons .str (.cons .str (.cons .str (.cons .str (.cons .str (.cons .str .bool))))))))))))), objs := [(2000000, [4], .box (.cons (.list (.int .u8)) (.cons (.int .u8) (.int .u16)))), (2000001, [5], .box (.cons (.int .u16) (.cons (.int .u16) (.cons (.int .u16) (.int .u16)))))], sts := [] }
noncomputable def cut_law01_PathOrders_p1_o0 : Cut := { tms := [6], sh := .bool, objs := [], sts := [] }
noncomputable def cut_law01_PathOrders_p1_o1 : Cut := { tms := [4, 5, 7, 8, 9, 10, 11, 13, 15, 17, 19, 22, 23], sh := (.cons (.ptr 2000000 0) (.cons (.ptr 2000001 0) (.cons .bool (.cons .str (.cons (.int .i64) (.cons (.int .i64) (.cons .str (.cons .str (.cons .str (.cons .str (.cons .str (.cons .str .str)))))))))))), objs := [(2000000, [4], .box (.cons (.list (.int .u8)) (.cons (.int .u8) (.int .u16)))), (2000001, [5], .box (.cons (.int .u16) (.cons (.int .u16) (.cons (.int .u16) (.int .u16)))))], sts := [] }
noncomputable def lp_law01_PathOrders_p1 (N : Nat) : Lp := lpOf cut_law01_PathOrders_p1 (1, cut_law01_PathOrders_p1_o0) [(0, cut_law01_PathOrders_p1_o1)] (fun v => law01_PathOrders_p1 N v.1.2.2.1 v.1.2.2.2.1 v.1.2.2.2.2.1 v.1.2.2.2.2.2.1 v.1.2.2.2.2.2.2.1 v.1.2.2.2.2.2.2.2.1 v.1.2.2.2.2.2.2.2.2.1 v.1.2.2.2.2.2.2.2.2.2.1 v.1.2.2.2.2.2.2.2.2.2.2.1 v.1.2.2.2.2.2.2.2.2.2.2.2.1 v.1.2.2.2.2.2.2.2.2.2.2.2.2.1 v.1.2.2.2.2.2.2.2.2.2.2.2.2.2 v.2.1.1 v.2.1.2.1 v.2.1.2.2 v.2.2.1.1 v.2.2.1.2.1 v.2.2.1.2.2.1 v.2.2.1.2.2.2)
noncomputable def lam_law01_PathOrders_p1 (_ : Nat) : Lps := fun _ => none
theorem lpok_law01_PathOrders_p1 (N : Nat) (ro : Option Nat) : LpOk Tryd.prog 234 ro (lp_law01_PathOrders_p1 N) (codeAt c_law01_PathOrders [true, true, true, true, true, true, true, true, true, true, true, true, true, false, true]) :=
  piece_ok (envok_law01_PathOrders N) mixed (Λ := lam_law01_PathOrders_p1 N) (p := 65533) (obs_ok (l := []) (by kernel_rfl) obsNil) (by kernel_rfl) (by intro v; kernel_rfl)
noncomputable def cut_law01_PathOrders_p0 : Cut := { tms := [4, 5, 7, 8, 9, 10, 11, 13, 15, 17, 19, 22, 23], sh := (.cons (.ptr 2000000 0) (.cons (.ptr 2000001 0) (.cons .bool (.cons .str (.cons (.int .i64) (.cons (.int .i64) (.cons .str (.cons .str (.cons .str (.cons .str (.cons .str (.cons .str .str)))))))))))), objs := [(2000000, [4], .box (.cons (.list (.int .u8)) (.cons (.int .u8) (.int .u16)))), (2000001, [5], .box (.cons (.int .u16) (.cons (.int .u16) (.cons (.int .u16) (.int .u16)))))], sts := [] }
noncomputable def cut_law01_PathOrders_p0_o0 : Cut := { tms := [6], sh := .bool, objs := [], sts := [] }
noncomputable def lp_law01_PathOrders_p0 (N : Nat) : Lp := lpOf cut_law01_PathOrders_p0 (1, cut_law01_PathOrders_p0_o0) [] (fun v => law01_PathOrders_p0 N v.1.2.2.1 v.1.2.2.2.1 v.1.2.2.2.2.1 v.1.2.2.2.2.2.1 v.1.2.2.2.2.2.2.1 v.1.2.2.2.2.2.2.2.1 v.1.2.2.2.2.2.2.2.2.1 v.1.2.2.2.2.2.2.2.2.2.1 v.1.2.2.2.2.2.2.2.2.2.2.1 v.1.2.2.2.2.2.2.2.2.2.2.2.1 v.1.2.2.2.2.2.2.2.2.2.2.2.2 v.2.1.1 v.2.1.2.1 v.2.1.2.2 v.2.2.1.1 v.2.2.1.2.1 v.2.2.1.2.2.1 v.2.2.1.2.2.2)
noncomputable def lam_law01_PathOrders_p0 (N : Nat) : Lps := fun p => bif Nat.beq p 65535 then some (lp_law01_PathOrders_p2 N) else bif Nat.beq p 131069 then some (lp_law01_PathOrders_p3 N) else none
theorem lpok_law01_PathOrders_p0 (N : Nat) (ro : Option Nat) : LpOk Tryd.prog 234 ro (lp_law01_PathOrders_p0 N) (codeAt c_law01_PathOrders [true, true, true, true, true, true, true, true, true, true, true, true, true, true]) :=
  piece_ok (envok_law01_PathOrders N) mixed (Λ := lam_law01_PathOrders_p0 N) (p := 32767) (obs_ok (l := [(lp_law01_PathOrders_p3 N, (codeAt c_law01_PathOrders [true, true, true, true, true, true, true, true, true, true, true, true, true, true, false, true])), (lp_law01_PathOrders_p2 N, (codeAt c_law01_PathOrders [true, true, true, true, true, true, true, true, true, true, true, true, true, true, true]))]) (by kernel_rfl) (obsCons (lpok_law01_PathOrders_p3 N ro) (obsCons (lpok_law01_PathOrders_p2 N ro) obsNil))) (by kernel_rfl) (by intro v; kernel_rfl)
noncomputable def lam_law01_PathOrders (N : Nat) : Lps := fun p => bif Nat.beq p 32767 then some (lp_law01_PathOrders_p0 N) else bif Nat.beq p 65533 then some (lp_law01_PathOrders_p1 N) else none
noncomputable def ctr_law01_PathOrders (N : Nat) : Ctr := ctrOf (.cons (.list (.int .u8)) (.cons (.val T_ref01_Raw) (.val T_a4_uint16))) .bool [] (fun v => law01_PathOrders N v.1 v.2.1 v.2.2)
theorem sound_law01_PathOrders (N : Nat) : SoundF Tryd.prog 9 (fun vs => (ctr_law01_PathOrders N).run vs some) :=
  fn_sound (envok_law01_PathOrders N) mixed (Λ := lam_law01_PathOrders N) (fn := Tryd.f9) (c := c_law01_PathOrders) Tryd.func9 (by kernel_rfl) (by kernel_rfl) (obs_ok (l := [(lp_law01_PathOrders_p1 N, (codeAt c_law01_PathOrders [true, true, true, true, true, true, true, true, true, true, true, true, true, false, true])), (lp_law01_PathOrders_p0 N, (codeAt c_law01_PathOrders [true, true, true, true, true, true, true, true, true, true, true, true, true, true]))]) (by kernel_rfl) (obsCons (lpok_law01_PathOrders_p1 N none) (obsCons (lpok_law01_PathOrders_p0 N none) obsNil))) (by kernel_rfl) (by intro v; kernel_rfl)

noncomputable def c_law01_PathLimits : Code := match Tryd.f10.body with | some c => c | none => .skip
noncomputable def tab_law01_PathLimits (N : Nat) : List (Nat × Ctr) := [(12, ctr_law01_sanity N), (32, ctr_path_Body N), (16, ctr_path_Join N), (14, ctr_path_Parse N), (20, ctr_path_Valid N)]
noncomputable def env_law01_PathLimits (N : Nat) : Env := mkEnv tyRows eqRows methRows [] [] (tab_law01_PathLimits N)
theorem envok_law01_PathLimits (N : Nat) : EnvOk Tryd.prog (env_law01_PathLimits N) := mkEnv_ok tyRows_ok eqRows_ok methRows_ok ⟨sound_law01_sanity N, ⟨sound_path_Body N, ⟨sound_path_Join N, ⟨sound_path_Parse N, ⟨sound_path_Valid N, trivial⟩⟩⟩⟩⟩
noncomputable def cut_law01_PathLimits_p4 : Cut := { tms := [4], sh := .bool, objs := [], sts := [] }
noncomputable def cut_law01_PathLimits_p4_o0 : Cut := { tms := [4], sh := .bool, objs := [], sts := [] }
noncomputable def lp_law01_PathLimits_p4 (N : Nat) : Lp := lpOf cut_law01_PathLimits_p4 (1, cut_law01_PathLimits_p4_o0) [] (fun v => law01_PathLimits_p4 N v.1)
noncomputable def lam_law01_PathLimits_p4 (_ : Nat) : Lps := fun _ => none
theorem lpok_law01_PathLimits_p4 (N : Nat) (ro : Option Nat) : LpOk Tryd.prog 149 ro (lp_law01_PathLimits_p4 N) (codeAt c_law01_PathLimits [true, true, true, true, true, true, true, true, true, true, true, true]) :=
  piece_ok (envok_law01_PathLimits N) mixed (Λ := lam_law01_PathLimits_p4 N) (p := 8191) (obs_ok (l := []) (by kernel_rfl) obsNil) (by kernel_rfl) (by intro v; kernel_rfl)
noncomputable def cut_law01_PathLimits_p3 : Cut := { tms := [5, 8, 10, 11, 12, 13, 14], sh := (.cons .bool (.cons .str (.cons .str (.cons (.int .i64) (.cons .str (.cons (.int .i64) (.int .i64))))))), objs := [], sts := [] }
noncomputable def cut_law01_PathLimits_p3_o0 : Cut := { tms := [4], sh := .bool, objs := [], sts := [] }
noncomputable def lp_law01_PathLimits_p3 (N : Nat) : Lp := lpOf cut_law01_PathLimits_p3 (1, cut_law01_PathLimits_p3_o0) [] (fun v => law01_PathLimits_p3 N v.1.1 v.1.2.1 v.1.2.2.1 v.1.2.2.2.1 v.1.2.2.2.2.1 v.1.2.2.2.2.2.1 v.1.2.2.2.2.2.2)
noncomputable def lam_law01_PathLimits_p3 (N : Nat) : Lps := fun p => bif Nat.beq p 8191 then some (lp_law01_PathLimits_p4 N) else none
theorem lpok_law01_PathLimits_p3 (N : Nat) (ro : Option Nat) : LpOk Tryd.prog 149 ro (lp_law01_PathLimits_p3 N) (codeAt c_law01_PathLimits [true, true, true, true, true, true, true, true, true, true, true]) :=
  piece_ok (envok_law01_PathLimits N) mixed (Λ := lam_law01_PathLimits_p3 N) (p := 4095) (obs_ok (l := [(lp_law01_PathLimits_p4 N, (codeAt c_law01_PathLimits [true, true, true, true, true, true, true, true, true, true, true, true]))]) (by kernel_rfl) (obsCons (lpok_law01_PathLimits_p4 N ro) obsNil)) (by kernel_rfl) (by intro v; kernel_rfl)
noncomputable def cut_law01_PathLimits_l2 : Cut := { tms := [1, 5, 8], sh := (.cons (.int .u8) (.cons .bool .str)), objs := [], sts := [] }
noncomputable def cut_law01_PathLimits_l2_o0 : Cut := { tms := [1, 5, 8], sh := (.cons (.int .u8) (.cons .bool .str)), objs := [], sts := [] }
noncomputable def lp_law01_PathLimits_l2 (N : Nat) : Lp := lpOf cut_law01_PathLimits_l2 (2, cut_law01_PathLimits_l2_o0) [] (fun v => law01_PathLimits_l2 N N v.1.1 v.1.2.1 v.1.2.2)
noncomputable def lam_law01_PathLimits_l2 (_ : Nat) : Lps := fun _ => none
theorem lpok_law01_PathLimits_l2 (N : Nat) (ro : Option Nat) : LpOk Tryd.prog 149 ro (lp_law01_PathLimits_l2 N) (codeAt c_law01_PathLimits [true, true, true, true, true, false, false]) := by
  rw [show (codeAt c_law01_PathLimits [true, true, true, true, true, false, false]) = .loop (codeAt c_law01_PathLimits [true, true, true, true, true, false, false, false]) by kernel_rfl]
  exact loop_ok (envok_law01_PathLimits N) mixed (Λ := lam_law01_PathLimits_l2 N) (p := 504) (obs_ok (l := []) (by kernel_rfl) obsNil) (by kernel_rfl) (by intro rec v; kernel_rfl) N
noncomputable def cut_law01_PathLimits_p1 : Cut := { tms := [1, 5, 76], sh := (.cons (.int .u8) (.cons .bool .bool)), objs := [], sts := [] }
noncomputable def cut_law01_PathLimits_p1_o0 : Cut := { tms := [4], sh := .bool, objs := [], sts := [] }
noncomputable def cut_law01_PathLimits_p1_o1 : Cut := { tms := [1, 5], sh := (.cons (.int .u8) .bool), objs := [], sts := [] }
noncomputable def lp_law01_PathLimits_p1 (N : Nat) : Lp := lpOf cut_law01_PathLimits_p1 (1, cut_law01_PathLimits_p1_o0) [(0, cut_law01_PathLimits_p1_o1)] (fun v => law01_PathLimits_p1 N v.1.1 v.1.2.1 v.1.2.2)
noncomputable def lam_law01_PathLimits_p1 (_ : Nat) : Lps := fun _ => none
theorem lpok_law01_PathLimits_p1 (N : Nat) (ro : Option Nat) : LpOk Tryd.prog 149 ro (lp_law01_PathLimits_p1 N) (codeAt c_law01_PathLimits [true, true, true, false, true]) :=
  piece_ok (envok_law01_PathLimits N) mixed (Λ := lam_law01_PathLimits_p1 N) (p := 61) (obs_ok (l := []) (by kernel_rfl) obsNil) (by kernel_rfl) (by intro v; kernel_rfl)
noncomputable def cut_law01_PathLimits_p0 : Cut := { tms := [1, 5], sh := (.cons (.int .u8) .bool), objs := [], sts := [] }
noncomputable def cut_law01_PathLimits_p0_o0 : Cut := { tms := [4], sh := .bool, objs := [], sts := [] }
noncomputable def lp_law01_PathLimits_p0 (N : Nat) : Lp := lpOf cut_law01_PathLimits_p0 (1, cut_law01_PathLimits_p0_o0) [] (fun v => law01_PathLimits_p0 N v.1.1 v.1.2)
noncomputable def lam_law01_PathLimits_p0 (N : Nat) : Lps := fun p => bif Nat.beq p 252 then some (lp_law01_PathLimits_l2 N) else bif Nat.beq p 4095 then some (lp_law01_PathLimits_p3 N) else none
theorem lpok_law01_PathLimits_p0 (N : Nat) (ro : Option Nat) : LpOk Tryd.prog 149 ro (lp_law01_PathLimits_p0 N) (codeAt c_law01_PathLimits [true, true, true, true]) :=
  piece_ok (envok_law01_PathLimits N) mixed (Λ := lam_law01_PathLimits_p0 N) (p := 31) (obs_ok (l := [(lp_law01_PathLimits_l2 N, (codeAt c_law01_PathLimits [true, true, true, true, true, false, false])), (lp_law01_PathLimits_p3 N, (codeAt c_law01_PathLimits [true, true, true, true, true, true, true, true, true, true, true]))]) (by kernel_rfl) (obsCons (lpok_law01_PathLimits_l2 N ro) (obsCons (lpok_law01_PathLimits_p3 N ro) obsNil))) (by kernel_rfl) (by intro v; kernel_rfl)
noncomputable def lam_law01_PathLimits (N : Nat) : Lps := fun p => bif Nat.beq p 31 then some (lp_law01_PathLimits_p0 N) else bif Nat.beq p 61 then some (lp_law01_PathLimits_p1 N) else none
noncomputable def ctr_law01_PathLimits (N : Nat) : Ctr := ctrOf (.cons (.val T_a2_int32) (.int .u8)) .bool [] (fun v => law01_PathLimits N v.1 v.2)
theorem sound_law01_PathLimits (N : Nat) : SoundF Tryd.prog 10 (fun vs => (ctr_law01_PathLimits N).run vs some) :=
  fn_sound (envok_law01_PathLimits N) mixed (Λ := lam_law01_PathLimits N) (fn := Tryd.f10) (c := c_law01_PathLimits) Tryd.func10 (by kernel_rfl) (by kernel_rfl) (obs_ok (l := [(lp_law01_PathLimits_p1 N, (codeAt c_law01_PathLimits [true, true, true, false, true])), (lp_law01_PathLimits_p0 N, (codeAt c_law01_PathLimits [true, true, true, true]))]) (by kernel_rfl) (obsCons (lpok_law01_PathLimits_p1 N none) (obsCons (lpok_law01_PathLimits_p0 N none) obsNil))) (by kernel_rfl) (by intro v; kernel_rfl)

noncomputable def c_law01_PathMoves : Code := match Tryd.f11.body with | some c => c | none => .skip
noncomputable def tab_law01_PathMoves (N : Nat) : List (Nat × Ctr) := [(12, ctr_law01_sanity N), (13, ctr_ref01_Made N), (28, ctr_ref01_MadePlace N), (30, ctr_ref01_Key N), (18, ctr_path_Place N), (24, ctr_path_Under N)]
noncomputable def env_law01_PathMoves (N : Nat) : Env := mkEnv tyRows eqRows methRows [] [] (tab_law01_PathMoves N)
theorem envok_law01_PathMoves (N : Nat) : EnvOk Tryd.prog (env_law01_PathMoves N) := mkEnv_ok tyRows_ok eqRows_ok methRows_ok ⟨sound_law01_sanity N, ⟨sound_ref01_Made N, ⟨sound_ref01_MadePlace N, ⟨sound_ref01_Key N, ⟨sound_path_Place N, ⟨sound_path_Under N, trivial⟩⟩⟩⟩⟩⟩
noncomputable def cut_law01_PathMoves_p3 : Cut := { tms := [7, 8, 9, 12, 13, 14, 15, 16], sh := (.cons .bool (.cons .str (.cons .str (.cons (.ptr 2000000 0) (.cons (.int .i64) (.cons (.ptr 2000001 0) (.cons (.int .i64) (.ptr 2000002 0)))))))), objs := [(2000000, [12], .box (.cons .str (.cons .str .str))), (2000001, [14], .box (.cons .str (.cons (.int .i64) (.cons (.int .i64) .str)))), (2000002, [16], .box (.cons .str (.cons (.int .i64) (.cons (.int .i64) .str))))], sts := [] }
noncomputable def cut_law01_PathMoves_p3_o0 : Cut := { tms := [6], sh := .bool, objs := [], sts := [] }
noncomputable def cut_law01_PathMoves_p3_o1 : Cut := { tms := [7, 8, 9, 12, 13], sh := (.cons .bool (.cons .str (.cons .str (.cons (.ptr 2000000 0) (.int .i64))))), objs := [(2000000, [12], .box (.cons .str (.cons .str .str)))], sts := [] }
noncomputable def lp_law01_PathMoves_p3 (N : Nat) : Lp := lpOf cut_law01_PathMoves_p3 (1, cut_law01_PathMoves_p3_o0) [(0, cut_law01_PathMoves_p3_o1)] (fun v => law01_PathMoves_p3 N v.1.1 v.1.2.1 v.1.2.2.1 v.1.2.2.2.2.1 v.1.2.2.2.2.2.2.1 v.2.1.1 v.2.1.2.1 v.2.1.2.2 v.2.2.1.1 v.2.2.1.2.1 v.2.2.1.2.2.1 v.2.2.1.2.2.2 v.2.2.2.1.1 v.2.2.2.1.2.1 v.2.2.2.1.2.2.1 v.2.2.2.1.2.2.2)
noncomputable def lam_law01_PathMoves_p3 (_ : Nat) : Lps := fun _ => none
theorem lpok_law01_PathMoves_p3 (N : Nat) (ro : Option Nat) : LpOk Tryd.prog 123 ro (lp_law01_PathMoves_p3 N) (codeAt c_law01_PathMoves [true, true, true, true, true, true, true, false, true, false, false, true, false, false, true, true, true]) :=
  piece_ok (envok_law01_PathMoves N) mixed (Λ := lam_law01_PathMoves_p3 N) (p := 261415) (obs_ok (l := []) (by kernel_rfl) obsNil) (by kernel_rfl) (by intro v; kernel_rfl)
noncomputable def cut_law01_PathMoves_p2 : Cut := { tms := [7, 8, 9, 12, 13, 14, 15, 16, 17], sh := (.cons .bool (.cons .str (.cons .str (.cons (.ptr 2000000 0) (.cons (.int .i64) (.cons (.ptr 2000001 0) (.cons (.int .i64) (.cons (.ptr 2000002 0) (.int .i64))))))))), objs := [(2000000, [12], .box (.cons .str (.cons .str .str))), (2000001, [14], .box (.cons .str (.cons (.int .i64) (.cons (.int .i64) .str)))), (2000002, [16], .box (.cons .str (.cons (.int .i64) (.cons (.int .i64) .str))))], sts := [] }
noncomputable def cut_law01_PathMoves_p2_o0 : Cut := { tms := [6], sh := .bool, objs := [], sts := [] }
noncomputable def cut_law01_PathMoves_p2_o1 : Cut := { tms := [7, 8, 9, 12, 13], sh := (.cons .bool (.cons .str (.cons .str (.cons (.ptr 2000000 0) (.int .i64))))), objs := [(2000000, [12], .box (.cons .str (.cons .str .str)))], sts := [] }
noncomputable def lp_law01_PathMoves_p2 (N : Nat) : Lp := lpOf cut_law01_PathMoves_p2 (1, cut_law01_PathMoves_p2_o0) [(0, cut_law01_PathMoves_p2_o1)] (fun v => law01_PathMoves_p2 N v.1.1 v.1.2.1 v.1.2.2.1 v.1.2.2.2.2.1 v.1.2.2.2.2.2.2.1 v.1.2.2.2.2.2.2.2.2 v.2.1.1 v.2.1.2.1 v.2.1.2.2 v.2.2.1.1 v.2.2.1.2.1 v.2.2.1.2.2.1 v.2.2.1.2.2.2 v.2.2.2.1.1 v.2.2.2.1.2.1 v.2.2.2.1.2.2.1 v.2.2.2.1.2.2.2)
noncomputable def lam_law01_PathMoves_p2 (N : Nat) : Lps := fun p => bif Nat.beq p 261415 then some (lp_law01_PathMoves_p3 N) else none
theorem lpok_law01_PathMoves_p2 (N : Nat) (ro : Option Nat) : LpOk Tryd.prog 123 ro (lp_law01_PathMoves_p2 N) (codeAt c_law01_PathMoves [true, true, true, true, true, true, true, false, true, false, false, true, false, false, true, true]) :=
  piece_ok (envok_law01_PathMoves N) mixed (Λ := lam_law01_PathMoves_p2 N) (p := 130707) (obs_ok (l := [(lp_law01_PathMoves_p3 N, (codeAt c_law01_PathMoves [true, true, true, true, true, true, true, false, true, false, false, true, false, false, true, true, true]))]) (by kernel_rfl) (obsCons (lpok_law01_PathMoves_p3 N ro) obsNil)) (by kernel_rfl) (by intro v; kernel_rfl)
noncomputable def cut_law01_PathMoves_p1 : Cut := { tms := [7, 8, 9, 12, 13], sh := (.cons .bool (.cons .str (.cons .str (.cons (.ptr 2000000 0) (.int .i64))))), objs := [(2000000, [12], .box (.cons .str (.cons .str .str)))], sts := [] }
noncomputable def cut_law01_PathMoves_p1_o0 : Cut := { tms := [7, 8, 9, 12, 13], sh := (.cons .bool (.cons .str (.cons .str (.cons (.ptr 2000000 0) (.int .i64))))), objs := [(2000000, [12], .box (.cons .str (.cons .str .str)))], sts := [] }
noncomputable def lp_law01_PathMoves_p1 (N : Nat) : Lp := lpOf cut_law01_PathMoves_p1 (0, cut_law01_PathMoves_p1_o0) [] (fun v => law01_PathMoves_p1 N v.1.1 v.1.2.1 v.1.2.2.1 v.1.2.2.2.2 v.2.1.1 v.2.1.2.1 v.2.1.2.2)
noncomputable def lam_law01_PathMoves_p1 (_ : Nat) : Lps := fun _ => none
theorem lpok_law01_PathMoves_p1 (N : Nat) (ro : Option Nat) : LpOk Tryd.prog 123 ro (lp_law01_PathMoves_p1 N) (codeAt c_law01_PathMoves [true, true, true, true, true, true, true, false, true, false, false, true, true]) :=
  piece_ok (envok_law01_PathMoves N) mixed (Λ := lam_law01_PathMoves_p1 N) (p := 16339) (obs_ok (l := []) (by kernel_rfl) obsNil) (by kernel_rfl) (by intro v; kernel_rfl)
noncomputable def cut_law01_PathMoves_l0 : Cut := { tms := [7, 8, 9, 12, 13], sh := (.cons .bool (.cons .str (.cons .str (.cons (.ptr 2000000 0) (.int .i64))))), objs := [(2000000, [12], .box (.cons .str (.cons .str .str)))], sts := [] }
noncomputable def cut_law01_PathMoves_l0_o0 : Cut := { tms := [6], sh := .bool, objs := [], sts := [] }
noncomputable def cut_law01_PathMoves_l0_o1 : Cut := { tms := [7], sh := .bool, objs := [], sts := [] }
noncomputable def lp_law01_PathMoves_l0 (N : Nat) : Lp := lpOf cut_law01_PathMoves_l0 (1, cut_law01_PathMoves_l0_o0) [(2, cut_law01_PathMoves_l0_o1)] (fun v => law01_PathMoves_l0 N N v.1.1 v.1.2.1 v.1.2.2.1 v.1.2.2.2.2 v.2.1.1 v.2.1.2.1 v.2.1.2.2)
noncomputable def lam_law01_PathMoves_l0 (N : Nat) : Lps := fun p => bif Nat.beq p 16339 then some (lp_law01_PathMoves_p1 N) else bif Nat.beq p 130707 then some (lp_law01_PathMoves_p2 N) else none
theorem lpok_law01_PathMoves_l0 (N : Nat) (ro : Option Nat) : LpOk Tryd.prog 123 ro (lp_law01_PathMoves_l0 N) (codeAt c_law01_PathMoves [true, true, true, true, true, true, true, false, true, false]) := by
  rw [show (codeAt c_law01_PathMoves [true, true, true, true, true, true, true, false, true, false]) = .loop (codeAt c_law01_PathMoves [true, true, true, true, true, true, true, false, true, false, false]) by kernel_rfl]
  exact loop_ok (envok_law01_PathMoves N) mixed (Λ := lam_law01_PathMoves_l0 N) (p := 4084) (obs_ok (l := [(lp_law01_PathMoves_p2 N, (codeAt c_law01_PathMoves [true, true, true, true, true, true, true, false, true, false, false, true, false, false, true, true])), (lp_law01_PathMoves_p1 N, (codeAt c_law01_PathMoves [true, true, true, true, true, true, true, false, true, false, false, true, true]))]) (by kernel_rfl) (obsCons (lpok_law01_PathMoves_p2 N ro) (obsCons (lpok_law01_PathMoves_p1 N ro) obsNil))) (by kernel_rfl) (by intro rec v; kernel_rfl) N
noncomputable def lam_law01_PathMoves (N : Nat) : Lps := fun p => bif Nat.beq p 2042 then some (lp_law01_PathMoves_l0 N) else none
noncomputable def ctr_law01_PathMoves (N : Nat) : Ctr := ctrOf (.cons (.val T_a2_s_uint8) (.cons (.val T_ref01_Raw) .str)) .bool [] (fun v => law01_PathMoves N v.1 v.2.1 v.2.2)
theorem sound_law01_PathMoves (N : Nat) : SoundF Tryd.prog 11 (fun vs => (ctr_law01_PathMoves N).run vs some) :=
  fn_sound (envok_law01_PathMoves N) mixed (Λ := lam_law01_PathMoves N) (fn := Tryd.f11) (c := c_law01_PathMoves) Tryd.func11 (by kernel_rfl) (by kernel_rfl) (obs_ok (l := [(lp_law01_PathMoves_l0 N, (codeAt c_law01_PathMoves [true, true, true, true, true, true, true, false, true, false]))]) (by kernel_rfl) (obsCons (lpok_law01_PathMoves_l0 N none) obsNil)) (by kernel_rfl) (by intro v; kernel_rfl)

end Go.Proofs.YtmffojmbfphidaaDoor
