/- Printed by a program of the session's: what the program's functions compute, and that they do. -/
import Derived.Test.YtpgikdaeicidaaaGreatDoorDsPure
import Derived.Test.YtpgikdaeicidaaaGreatDoorDsChkA
import Derived.Test.YtpgikdaeicidaaaGreatDoorProg
import Derived.KernelRfl
set_option linter.all false
namespace Go.Proofs.YtpgikdaeicidaaaGreatDoor
open Go Go.Dv Ds
set_option maxRecDepth 100000
noncomputable def c_stringslite_CutPrefix : Code := match Tryz.f126.body with | some c => c | none => .skip
noncomputable def tab_stringslite_CutPrefix (N : Nat) : List (Nat × Ctr) := [(132, ctr_stringslite_HasPrefix N)]
noncomputable def env_stringslite_CutPrefix (N : Nat) : Env := mkEnv tyRows eqRows methRows [] [] (tab_stringslite_CutPrefix N)
theorem envok_stringslite_CutPrefix (N : Nat) : EnvOk Tryz.prog (env_stringslite_CutPrefix N) := mkEnv_ok tyRows_ok eqRows_ok methRows_ok ⟨sound_stringslite_HasPrefix N, trivial⟩
noncomputable def lam_stringslite_CutPrefix (_ : Nat) : Lps := fun _ => none
noncomputable def ctr_stringslite_CutPrefix (N : Nat) : Ctr := ctrOf (.cons .str .str) (.tup (.cons .str .bool)) [] (fun v => stringslite_CutPrefix N v.1 v.2)
theorem sound_stringslite_CutPrefix (N : Nat) : SoundF Tryz.prog 126 (fun vs => (ctr_stringslite_CutPrefix N).run vs some) :=
  fn_sound (envok_stringslite_CutPrefix N) mixed (Λ := lam_stringslite_CutPrefix N) (fn := Tryz.f126) (c := c_stringslite_CutPrefix) Tryz.func126 (by kernel_rfl) (by kernel_rfl) (obs_ok (l := []) (by kernel_rfl) obsNil) (by kernel_rfl) (by intro v; kernel_rfl)
noncomputable def c_strings_CutPrefix : Code := match Tryz.f118.body with | some c => c | none => .skip
noncomputable def tab_strings_CutPrefix (N : Nat) : List (Nat × Ctr) := [(126, ctr_stringslite_CutPrefix N)]
noncomputable def env_strings_CutPrefix (N : Nat) : Env := mkEnv tyRows eqRows methRows [] [] (tab_strings_CutPrefix N)
theorem envok_strings_CutPrefix (N : Nat) : EnvOk Tryz.prog (env_strings_CutPrefix N) := mkEnv_ok tyRows_ok eqRows_ok methRows_ok ⟨sound_stringslite_CutPrefix N, trivial⟩
noncomputable def lam_strings_CutPrefix (_ : Nat) : Lps := fun _ => none
noncomputable def ctr_strings_CutPrefix (N : Nat) : Ctr := ctrOf (.cons .str .str) (.tup (.cons .str .bool)) [] (fun v => strings_CutPrefix N v.1 v.2)
theorem sound_strings_CutPrefix (N : Nat) : SoundF Tryz.prog 118 (fun vs => (ctr_strings_CutPrefix N).run vs some) :=
  fn_sound (envok_strings_CutPrefix N) mixed (Λ := lam_strings_CutPrefix N) (fn := Tryz.f118) (c := c_strings_CutPrefix) Tryz.func118 (by kernel_rfl) (by kernel_rfl) (obs_ok (l := []) (by kernel_rfl) obsNil) (by kernel_rfl) (by intro v; kernel_rfl)
noncomputable def lay_strings_IndexAny_ren : Go.Shelf.Ren := ⟨fun | 153 => 127 | 152 => 133 | 226 => 134 | 227 => 135 | 228 => 136 | 137 => 145 | 119 => 146 | 224 => 147 | 225 => 148 | 217 => 153 | 266 => 157 | n => n, fun | 9 => 9 | 3 => 3 | 4 => 4 | 5 => 5 | 21 => 21 | 117 => 203 | 116 => 202 | 0 => 0 | 46 => 158 | 124 => 208 | n => n, fun n => n⟩
theorem lay_strings_IndexAny : Go.Proofs.Lays.n153 Tryz.prog lay_strings_IndexAny_ren := {
  mixed := by kernel_rfl
  f119 := Tryz.func146.trans (congrArg some (by kernel_rfl))
  f137 := Tryz.func145.trans (congrArg some (by kernel_rfl))
  f152 := Tryz.func133.trans (congrArg some (by kernel_rfl))
  f153 := Tryz.func127.trans (congrArg some (by kernel_rfl))
  f217 := Tryz.func153.trans (congrArg some (by kernel_rfl))
  f224 := Tryz.func147.trans (congrArg some (by kernel_rfl))
  f225 := Tryz.func148.trans (congrArg some (by kernel_rfl))
  f226 := Tryz.func134.trans (congrArg some (by kernel_rfl))
  f227 := Tryz.func135.trans (congrArg some (by kernel_rfl))
  f228 := Tryz.func136.trans (congrArg some (by kernel_rfl))
  f266 := Tryz.func157.trans (congrArg some (by kernel_rfl))
  t0 := Tryz.underlying0
  a0 := Tryz.isAgg0
  z0 := Tryz.sizeOf0
  v0 := Tryz.zeroValue0
  t3 := Tryz.underlying3
  a3 := Tryz.isAgg3
  z3 := Tryz.sizeOf3
  v3 := Tryz.zeroValue3
  t4 := Tryz.underlying4
  a4 := Tryz.isAgg4
  z4 := Tryz.sizeOf4
  v4 := Tryz.zeroValue4
  t5 := Tryz.underlying5
  a5 := Tryz.isAgg5
  z5 := Tryz.sizeOf5
  v5 := Tryz.zeroValue5
  t9 := Tryz.underlying9
  a9 := Tryz.isAgg9
  z9 := Tryz.sizeOf9
  v9 := Tryz.zeroValue9
  t21 := Tryz.underlying21
  a21 := Tryz.isAgg21
  z21 := Tryz.sizeOf21
  v21 := Tryz.zeroValue21
  t46 := Tryz.underlying158
  a46 := Tryz.isAgg158
  z46 := Tryz.sizeOf158
  v46 := Tryz.zeroValue158
  t116 := Tryz.underlying202
  a116 := Tryz.isAgg202
  z116 := Tryz.sizeOf202
  t117 := Tryz.underlying203
  a117 := Tryz.isAgg203
  z117 := Tryz.sizeOf203
  v117 := Tryz.zeroValue203
  t124 := Tryz.underlying208
  a124 := Tryz.isAgg208
  z124 := Tryz.sizeOf208
  v124 := Tryz.zeroValue208
  }
noncomputable def c_strings_IndexAny : Code := match Tryz.f127.body with | some c => c | none => .skip
noncomputable def ctr_strings_IndexAny (N : Nat) : Ctr := ctrOf (.cons .str .str) (.int .i64) [] (fun v => strings_IndexAny N v.1 v.2)
theorem sound_strings_IndexAny (N : Nat) : SoundF Tryz.prog 127 (fun vs => (ctr_strings_IndexAny N).run vs some) := by
  have e1 : lay_strings_IndexAny_ren.f 153 = 127 := by kernel_rfl
  have h := any_sound lay_strings_IndexAny (by kernel_rfl) (fn := Tryz.f127) (c := c_strings_IndexAny) (by rw [e1]; exact Tryz.func127) (by kernel_rfl) (by kernel_rfl)
  rw [e1] at h
  exact h
noncomputable def c_path_rest_upTo_m : Code := match Tryz.f119.body with | some c => c | none => .skip
noncomputable def tab_path_rest_upTo_m (N : Nat) : List (Nat × Ctr) := [(127, ctr_strings_IndexAny N)]
noncomputable def env_path_rest_upTo_m (N : Nat) : Env := mkEnv tyRows eqRows methRows [] [] (tab_path_rest_upTo_m N)
theorem envok_path_rest_upTo_m (N : Nat) : EnvOk Tryz.prog (env_path_rest_upTo_m N) := mkEnv_ok tyRows_ok eqRows_ok methRows_ok ⟨sound_strings_IndexAny N, trivial⟩
noncomputable def lam_path_rest_upTo_m (_ : Nat) : Lps := fun _ => none
noncomputable def cut_path_rest_upTo_m_in : Cut := { tms := [0], sh := (.ptr 5000000 0), objs := [(5000000, [0], .box (.cons .str (.cons .str (.cons (.int .i64) (.cons (.int .i64) .str)))))], sts := [] }
noncomputable def cut_path_rest_upTo_m_out0 : Cut := { tms := [0], sh := (.tup (.cons .str (.int .u8))), objs := [(5000000, [5000000], .box (.cons .str (.cons .str (.cons (.int .i64) (.cons (.int .i64) .str)))))], sts := [] }
noncomputable def ctr_path_rest_upTo_m (N : Nat) : CtrM := ctrM cut_path_rest_upTo_m_in cut_path_rest_upTo_m_out0 [] (fun v => path_rest_upTo_m N v.2.1.1 v.2.1.2.1 v.2.1.2.2.1 v.2.1.2.2.2.1 v.2.1.2.2.2.2)
theorem sound_path_rest_upTo_m (N : Nat) : SoundM Tryz.prog 119 (ctr_path_rest_upTo_m N) :=
  fnM_sound (envok_path_rest_upTo_m N) mixed (Λ := lam_path_rest_upTo_m N) (fn := Tryz.f119) (c := c_path_rest_upTo_m) Tryz.func119 (by kernel_rfl) (by kernel_rfl) (obs_ok (l := []) (by kernel_rfl) obsNil) (by kernel_rfl) (by intro v; kernel_rfl)
noncomputable def c_path_place_read_m : Code := match Tryz.f103.body with | some c => c | none => .skip
noncomputable def tab_path_place_read_m (N : Nat) : List (Nat × Ctr) := [(118, ctr_strings_CutPrefix N)]
noncomputable def tabm_path_place_read_m (N : Nat) : List (Nat × CtrM) := [(119, ctr_path_rest_upTo_m N)]
noncomputable def env_path_place_read_m (N : Nat) : Env := mkEnv tyRows eqRows methRows [] [24] (tab_path_place_read_m N) (tabm_path_place_read_m N)
theorem envok_path_place_read_m (N : Nat) : EnvOk Tryz.prog (env_path_place_read_m N) := mkEnv_ok tyRows_ok eqRows_ok methRows_ok ⟨sound_strings_CutPrefix N, trivial⟩ ⟨sound_path_rest_upTo_m N, trivial⟩
noncomputable def cut_path_place_read_m_p0 : Cut := { tms := [0, 5, 38], sh := (.cons (.ptr 5000000 0) (.cons (.int .u8) .bool)), objs := [(5000000, [5000000], .box (.cons .str (.cons .str (.cons (.int .i64) (.cons (.int .i64) .str)))))], sts := [] }
noncomputable def cut_path_place_read_m_p0_o0 : Cut := { tms := [], sh := .nil, objs := [(5000000, [5000000], .box (.cons .str (.cons .str (.cons (.int .i64) (.cons (.int .i64) .str)))))], sts := [] }
noncomputable def lp_path_place_read_m_p0 (N : Nat) : Lp := lpOf cut_path_place_read_m_p0 (0, cut_path_place_read_m_p0_o0) [] (fun v => path_place_read_m_p0 N v.1.2.1 v.1.2.2 v.2.1.1 v.2.1.2.1 v.2.1.2.2.1 v.2.1.2.2.2.1 v.2.1.2.2.2.2)
noncomputable def lam_path_place_read_m_p0 (_ : Nat) : Lps := fun _ => none
theorem lpok_path_place_read_m_p0 (N : Nat) (ro : Option Nat) : LpOk Tryz.prog 92 ro (lp_path_place_read_m_p0 N) (codeAt c_path_place_read_m [true, true, true, true, false, true]) :=
  piece_ok (envok_path_place_read_m N) mixed (Λ := lam_path_place_read_m_p0 N) (p := 125) (obs_ok (l := []) (by kernel_rfl) obsNil) (by kernel_rfl) (by intro v; kernel_rfl)
noncomputable def lam_path_place_read_m (N : Nat) : Lps := fun p => bif Nat.beq p 125 then some (lp_path_place_read_m_p0 N) else none
noncomputable def cut_path_place_read_m_in : Cut := { tms := [0], sh := (.ptr 5000000 0), objs := [(5000000, [0], .box (.cons .str (.cons .str (.cons (.int .i64) (.cons (.int .i64) .str)))))], sts := [] }
noncomputable def cut_path_place_read_m_out0 : Cut := { tms := [0], sh := (.tup .nil), objs := [(5000000, [5000000], .box (.cons .str (.cons .str (.cons (.int .i64) (.cons (.int .i64) .str)))))], sts := [] }
noncomputable def ctr_path_place_read_m (N : Nat) : CtrM := ctrM cut_path_place_read_m_in cut_path_place_read_m_out0 [] (fun v => path_place_read_m N v.2.1.1 v.2.1.2.1 v.2.1.2.2.1 v.2.1.2.2.2.1 v.2.1.2.2.2.2)
theorem sound_path_place_read_m (N : Nat) : SoundM Tryz.prog 103 (ctr_path_place_read_m N) :=
  fnM_sound (envok_path_place_read_m N) mixed (Λ := lam_path_place_read_m N) (fn := Tryz.f103) (c := c_path_place_read_m) Tryz.func103 (by kernel_rfl) (by kernel_rfl) (obs_ok (l := [(lp_path_place_read_m_p0 N, (codeAt c_path_place_read_m [true, true, true, true, false, true]))]) (by kernel_rfl) (obsCons (lpok_path_place_read_m_p0 N none) obsNil)) (by kernel_rfl) (by intro v; kernel_rfl)
noncomputable def lay_stringslite_IndexByte_ren : Go.Shelf.Ren := ⟨fun | 217 => 153 | 266 => 157 | n => n, fun | 9 => 9 | 5 => 5 | 3 => 3 | n => n, fun n => n⟩
theorem lay_stringslite_IndexByte : Go.Proofs.Lays.n217 Tryz.prog lay_stringslite_IndexByte_ren := {
  mixed := by kernel_rfl
  f217 := Tryz.func153.trans (congrArg some (by kernel_rfl))
  f266 := Tryz.func157.trans (congrArg some (by kernel_rfl))
  t3 := Tryz.underlying3
  a3 := Tryz.isAgg3
  z3 := Tryz.sizeOf3
  v3 := Tryz.zeroValue3
  t5 := Tryz.underlying5
  a5 := Tryz.isAgg5
  z5 := Tryz.sizeOf5
  v5 := Tryz.zeroValue5
  t9 := Tryz.underlying9
  a9 := Tryz.isAgg9
  z9 := Tryz.sizeOf9
  v9 := Tryz.zeroValue9
  }
noncomputable def c_stringslite_IndexByte : Code := match Tryz.f153.body with | some c => c | none => .skip
noncomputable def ctr_stringslite_IndexByte (N : Nat) : Ctr := ctrOf (.cons .str (.int .u8)) (.int .i64) [] (fun v => stringslite_IndexByte N v.1 v.2)
theorem sound_stringslite_IndexByte (N : Nat) : SoundF Tryz.prog 153 (fun vs => (ctr_stringslite_IndexByte N).run vs some) := by
  have e1 : lay_stringslite_IndexByte_ren.f 217 = 153 := by kernel_rfl
  have h := idxb_sound lay_stringslite_IndexByte (fn := Tryz.f153) (c := c_stringslite_IndexByte) (by rw [e1]; exact Tryz.func153) (by kernel_rfl) (by kernel_rfl)
  rw [e1] at h
  exact h
noncomputable def c_stringslite_Index : Code := match Tryz.f149.body with | some c => c | none => .skip
noncomputable def tab_stringslite_Index (N : Nat) : List (Nat × Ctr) := [(153, ctr_stringslite_IndexByte N)]
noncomputable def env_stringslite_Index (N : Nat) : Env := mkEnv tyRows eqRows methRows [] [] (tab_stringslite_Index N)
theorem envok_stringslite_Index (N : Nat) : EnvOk Tryz.prog (env_stringslite_Index N) := mkEnv_ok tyRows_ok eqRows_ok methRows_ok ⟨sound_stringslite_IndexByte N, trivial⟩
noncomputable def lam_stringslite_Index (_ : Nat) : Lps := fun _ => none
noncomputable def ctr_stringslite_Index (N : Nat) : Ctr := ctrOf (.cons .str .str) (.int .i64) [] (fun v => stringslite_Index N v.1 v.2)
theorem sound_stringslite_Index (N : Nat) : SoundF Tryz.prog 149 (fun vs => (ctr_stringslite_Index N).run vs some) :=
  fn_sound (envok_stringslite_Index N) mixed (Λ := lam_stringslite_Index N) (fn := Tryz.f149) (c := c_stringslite_Index) Tryz.func149 (by kernel_rfl) (by kernel_rfl) (obs_ok (l := []) (by kernel_rfl) obsNil) (by kernel_rfl) (by intro v; kernel_rfl)
noncomputable def c_stringslite_Cut : Code := match Tryz.f137.body with | some c => c | none => .skip
noncomputable def tab_stringslite_Cut (N : Nat) : List (Nat × Ctr) := [(149, ctr_stringslite_Index N)]
noncomputable def env_stringslite_Cut (N : Nat) : Env := mkEnv tyRows eqRows methRows [] [] (tab_stringslite_Cut N)
theorem envok_stringslite_Cut (N : Nat) : EnvOk Tryz.prog (env_stringslite_Cut N) := mkEnv_ok tyRows_ok eqRows_ok methRows_ok ⟨sound_stringslite_Index N, trivial⟩
noncomputable def lam_stringslite_Cut (_ : Nat) : Lps := fun _ => none
noncomputable def ctr_stringslite_Cut (N : Nat) : Ctr := ctrOf (.cons .str .str) (.tup (.cons .str (.cons .str .bool))) [] (fun v => stringslite_Cut N v.1 v.2)
theorem sound_stringslite_Cut (N : Nat) : SoundF Tryz.prog 137 (fun vs => (ctr_stringslite_Cut N).run vs some) :=
  fn_sound (envok_stringslite_Cut N) mixed (Λ := lam_stringslite_Cut N) (fn := Tryz.f137) (c := c_stringslite_Cut) Tryz.func137 (by kernel_rfl) (by kernel_rfl) (obs_ok (l := []) (by kernel_rfl) obsNil) (by kernel_rfl) (by intro v; kernel_rfl)
noncomputable def c_strings_Cut : Code := match Tryz.f128.body with | some c => c | none => .skip
noncomputable def tab_strings_Cut (N : Nat) : List (Nat × Ctr) := [(137, ctr_stringslite_Cut N)]
noncomputable def env_strings_Cut (N : Nat) : Env := mkEnv tyRows eqRows methRows [] [] (tab_strings_Cut N)
theorem envok_strings_Cut (N : Nat) : EnvOk Tryz.prog (env_strings_Cut N) := mkEnv_ok tyRows_ok eqRows_ok methRows_ok ⟨sound_stringslite_Cut N, trivial⟩
noncomputable def lam_strings_Cut (_ : Nat) : Lps := fun _ => none
noncomputable def ctr_strings_Cut (N : Nat) : Ctr := ctrOf (.cons .str .str) (.tup (.cons .str (.cons .str .bool))) [] (fun v => strings_Cut N v.1 v.2)
theorem sound_strings_Cut (N : Nat) : SoundF Tryz.prog 128 (fun vs => (ctr_strings_Cut N).run vs some) :=
  fn_sound (envok_strings_Cut N) mixed (Λ := lam_strings_Cut N) (fn := Tryz.f128) (c := c_strings_Cut) Tryz.func128 (by kernel_rfl) (by kernel_rfl) (obs_ok (l := []) (by kernel_rfl) obsNil) (by kernel_rfl) (by intro v; kernel_rfl)
noncomputable def c_path_isName_c1 : Code := match Tryz.f131.body with | some c => c | none => .skip
noncomputable def tab_path_isName_c1 (_ : Nat) : List (Nat × Ctr) := []
noncomputable def env_path_isName_c1 (N : Nat) : Env := mkEnv tyRows eqRows methRows [] [] (tab_path_isName_c1 N)
theorem envok_path_isName_c1 (N : Nat) : EnvOk Tryz.prog (env_path_isName_c1 N) := mkEnv_ok tyRows_ok eqRows_ok methRows_ok trivial
noncomputable def lam_path_isName_c1 (_ : Nat) : Lps := fun _ => none
noncomputable def ctr_path_isName_c1 (N : Nat) : Ctr := ctrOf (.int .i32) .bool [] (fun v => path_isName_c1 N v)
theorem sound_path_isName_c1 (N : Nat) : SoundF Tryz.prog 131 (fun vs => (ctr_path_isName_c1 N).run vs some) :=
  fn_sound (envok_path_isName_c1 N) mixed (Λ := lam_path_isName_c1 N) (fn := Tryz.f131) (c := c_path_isName_c1) Tryz.func131 (by kernel_rfl) (by kernel_rfl) (obs_ok (l := []) (by kernel_rfl) obsNil) (by kernel_rfl) (by intro v; kernel_rfl)
noncomputable def lay_strings_indexFunc__path_isName_c1_ren : Go.Shelf.Ren := ⟨fun | 315 => 144 | n => n, fun | 9 => 9 | 40 => 198 | 4 => 4 | 3 => 3 | 0 => 0 | 21 => 21 | n => n, fun n => n⟩
theorem lay_strings_indexFunc__path_isName_c1 : Go.Proofs.Lays.n315 Tryz.prog lay_strings_indexFunc__path_isName_c1_ren := {
  mixed := by kernel_rfl
  f315 := Tryz.func144.trans (congrArg some (by kernel_rfl))
  t0 := Tryz.underlying0
  a0 := Tryz.isAgg0
  z0 := Tryz.sizeOf0
  v0 := Tryz.zeroValue0
  t3 := Tryz.underlying3
  a3 := Tryz.isAgg3
  z3 := Tryz.sizeOf3
  v3 := Tryz.zeroValue3
  t4 := Tryz.underlying4
  a4 := Tryz.isAgg4
  z4 := Tryz.sizeOf4
  v4 := Tryz.zeroValue4
  t9 := Tryz.underlying9
  a9 := Tryz.isAgg9
  z9 := Tryz.sizeOf9
  v9 := Tryz.zeroValue9
  t21 := Tryz.underlying21
  a21 := Tryz.isAgg21
  z21 := Tryz.sizeOf21
  v21 := Tryz.zeroValue21
  t40 := Tryz.underlying198
  a40 := Tryz.isAgg198
  z40 := Tryz.sizeOf198
  v40 := Tryz.zeroValue198
  }
theorem tot_strings_indexFunc__path_isName_c1 (N : Nat) (r : Nat) : (path_isName_c1 N (r : Int)).isSome = true := by
  simp only [path_isName_c1, Bool.cond_eq_ite]
  (repeat' split) <;> rfl
noncomputable def c_strings_indexFunc__path_isName_c1 : Code := match Tryz.f144.body with | some c => c | none => .skip
noncomputable def cg_strings_indexFunc__path_isName_c1 : Code := match Tryz.f131.body with | some c => c | none => .skip
noncomputable def ctr_strings_indexFunc__path_isName_c1 (N : Nat) : Ctr := ctrOf (.cons .str (.cons (.clo 131 .nil) .bool)) (.int .i64) [] (fun v => strings_indexFunc__path_isName_c1 N v.1 v.2.2)
theorem sound_strings_indexFunc__path_isName_c1 (N : Nat) : SoundF Tryz.prog 144 (fun vs => (ctr_strings_indexFunc__path_isName_c1 N).run vs some) := by
  have e1 : lay_strings_indexFunc__path_isName_c1_ren.f 315 = 144 := by kernel_rfl
  have h := idxfunc_sound lay_strings_indexFunc__path_isName_c1 (g := 131) (F := path_isName_c1 N) (sound_path_isName_c1 N) (tot_strings_indexFunc__path_isName_c1 N) (fg := Tryz.f131) (cg := cg_strings_indexFunc__path_isName_c1) Tryz.func131 (by kernel_rfl) (by kernel_rfl) (fn := Tryz.f144) (c := c_strings_indexFunc__path_isName_c1) (by rw [e1]; exact Tryz.func144) (by kernel_rfl) (by kernel_rfl)
  rw [e1] at h
  exact h
noncomputable def c_strings_IndexFunc__path_isName_c1 : Code := match Tryz.f130.body with | some c => c | none => .skip
noncomputable def tab_strings_IndexFunc__path_isName_c1 (N : Nat) : List (Nat × Ctr) := [(144, ctr_strings_indexFunc__path_isName_c1 N)]
noncomputable def env_strings_IndexFunc__path_isName_c1 (N : Nat) : Env := mkEnv tyRows eqRows methRows [] [] (tab_strings_IndexFunc__path_isName_c1 N)
theorem envok_strings_IndexFunc__path_isName_c1 (N : Nat) : EnvOk Tryz.prog (env_strings_IndexFunc__path_isName_c1 N) := mkEnv_ok tyRows_ok eqRows_ok methRows_ok ⟨sound_strings_indexFunc__path_isName_c1 N, trivial⟩
noncomputable def lam_strings_IndexFunc__path_isName_c1 (_ : Nat) : Lps := fun _ => none
noncomputable def ctr_strings_IndexFunc__path_isName_c1 (N : Nat) : Ctr := ctrOf (.cons .str (.clo 131 .nil)) (.int .i64) [] (fun v => strings_IndexFunc__path_isName_c1 N v.1)
theorem sound_strings_IndexFunc__path_isName_c1 (N : Nat) : SoundF Tryz.prog 130 (fun vs => (ctr_strings_IndexFunc__path_isName_c1 N).run vs some) :=
  fn_sound (envok_strings_IndexFunc__path_isName_c1 N) mixed (Λ := lam_strings_IndexFunc__path_isName_c1 N) (fn := Tryz.f130) (c := c_strings_IndexFunc__path_isName_c1) Tryz.func130 (by kernel_rfl) (by kernel_rfl) (obs_ok (l := []) (by kernel_rfl) obsNil) (by kernel_rfl) (by intro v; kernel_rfl)
noncomputable def c_path_isName : Code := match Tryz.f122.body with | some c => c | none => .skip
noncomputable def tab_path_isName (N : Nat) : List (Nat × Ctr) := [(130, ctr_strings_IndexFunc__path_isName_c1 N)]
noncomputable def env_path_isName (N : Nat) : Env := mkEnv tyRows eqRows methRows [] [] (tab_path_isName N)
theorem envok_path_isName (N : Nat) : EnvOk Tryz.prog (env_path_isName N) := mkEnv_ok tyRows_ok eqRows_ok methRows_ok ⟨sound_strings_IndexFunc__path_isName_c1 N, trivial⟩
noncomputable def lam_path_isName (_ : Nat) : Lps := fun _ => none
noncomputable def ctr_path_isName (N : Nat) : Ctr := ctrOf .str .bool [] (fun v => path_isName N v)
theorem sound_path_isName (N : Nat) : SoundF Tryz.prog 122 (fun vs => (ctr_path_isName N).run vs some) :=
  fn_sound (envok_path_isName N) mixed (Λ := lam_path_isName N) (fn := Tryz.f122) (c := c_path_isName) Tryz.func122 (by kernel_rfl) (by kernel_rfl) (obs_ok (l := []) (by kernel_rfl) obsNil) (by kernel_rfl) (by intro v; kernel_rfl)
noncomputable def c_path_Valid : Code := match Tryz.f120.body with | some c => c | none => .skip
noncomputable def tab_path_Valid (N : Nat) : List (Nat × Ctr) := [(128, ctr_strings_Cut N), (122, ctr_path_isName N)]
noncomputable def env_path_Valid (N : Nat) : Env := mkEnv tyRows eqRows methRows [] [] (tab_path_Valid N)
theorem envok_path_Valid (N : Nat) : EnvOk Tryz.prog (env_path_Valid N) := mkEnv_ok tyRows_ok eqRows_ok methRows_ok ⟨sound_strings_Cut N, ⟨sound_path_isName N, trivial⟩⟩
noncomputable def cut_path_Valid_l0 : Cut := { tms := [0], sh := .str, objs := [], sts := [] }
noncomputable def cut_path_Valid_l0_o0 : Cut := { tms := [2], sh := .bool, objs := [], sts := [] }
noncomputable def cut_path_Valid_l0_o1 : Cut := { tms := [], sh := .nil, objs := [], sts := [] }
noncomputable def lp_path_Valid_l0 (N : Nat) : Lp := lpOf cut_path_Valid_l0 (1, cut_path_Valid_l0_o0) [(2, cut_path_Valid_l0_o1)] (fun v => path_Valid_l0 N N v.1)
noncomputable def lam_path_Valid_l0 (_ : Nat) : Lps := fun _ => none
theorem lpok_path_Valid_l0 (N : Nat) (ro : Option Nat) : LpOk Tryz.prog 22 ro (lp_path_Valid_l0 N) (codeAt c_path_Valid [true, false, false]) := by
  rw [show (codeAt c_path_Valid [true, false, false]) = .loop (codeAt c_path_Valid [true, false, false, false]) by kernel_rfl]
  exact loop_ok (envok_path_Valid N) mixed (Λ := lam_path_Valid_l0 N) (p := 24) (obs_ok (l := []) (by kernel_rfl) obsNil) (by kernel_rfl) (by intro rec v; kernel_rfl) N
noncomputable def lam_path_Valid (N : Nat) : Lps := fun p => bif Nat.beq p 12 then some (lp_path_Valid_l0 N) else none
noncomputable def ctr_path_Valid (N : Nat) : Ctr := ctrOf .str .bool [] (fun v => path_Valid N v)
theorem sound_path_Valid (N : Nat) : SoundF Tryz.prog 120 (fun vs => (ctr_path_Valid N).run vs some) :=
  fn_sound (envok_path_Valid N) mixed (Λ := lam_path_Valid N) (fn := Tryz.f120) (c := c_path_Valid) Tryz.func120 (by kernel_rfl) (by kernel_rfl) (obs_ok (l := [(lp_path_Valid_l0 N, (codeAt c_path_Valid [true, false, false]))]) (by kernel_rfl) (obsCons (lpok_path_Valid_l0 N none) obsNil)) (by kernel_rfl) (by intro v; kernel_rfl)
noncomputable def lay_strings_Trim_ren : Go.Shelf.Ren := ⟨fun | 160 => 129 | 232 => 139 | 231 => 138 | 227 => 135 | 234 => 141 | 233 => 140 | 236 => 143 | 235 => 142 | 228 => 136 | 271 => 152 | 151 => 151 | 197 => 150 | 120 => 156 | 152 => 133 | 260 => 155 | 137 => 145 | 119 => 146 | 224 => 147 | 225 => 148 | 217 => 153 | 266 => 157 | n => n, fun | 9 => 9 | 4 => 4 | 3 => 3 | 5 => 5 | 117 => 203 | 116 => 202 | 0 => 0 | 124 => 208 | 21 => 21 | 105 => 211 | 46 => 158 | 119 => 217 | 139 => 220 | 138 => 219 | n => n, fun | 3 => 1 | 4 => 2 | n => n⟩
theorem lay_strings_Trim : Go.Proofs.Lays.n160 Tryz.prog lay_strings_Trim_ren := {
  mixed := by kernel_rfl
  f119 := Tryz.func146.trans (congrArg some (by kernel_rfl))
  f120 := Tryz.func156.trans (congrArg some (by kernel_rfl))
  f137 := Tryz.func145.trans (congrArg some (by kernel_rfl))
  f151 := Tryz.func151.trans (congrArg some (by kernel_rfl))
  f152 := Tryz.func133.trans (congrArg some (by kernel_rfl))
  f160 := Tryz.func129.trans (congrArg some (by kernel_rfl))
  f197 := Tryz.func150.trans (congrArg some (by kernel_rfl))
  f217 := Tryz.func153.trans (congrArg some (by kernel_rfl))
  f224 := Tryz.func147.trans (congrArg some (by kernel_rfl))
  f225 := Tryz.func148.trans (congrArg some (by kernel_rfl))
  f227 := Tryz.func135.trans (congrArg some (by kernel_rfl))
  f228 := Tryz.func136.trans (congrArg some (by kernel_rfl))
  f231 := Tryz.func138.trans (congrArg some (by kernel_rfl))
  f232 := Tryz.func139.trans (congrArg some (by kernel_rfl))
  f233 := Tryz.func140.trans (congrArg some (by kernel_rfl))
  f234 := Tryz.func141.trans (congrArg some (by kernel_rfl))
  f235 := Tryz.func142.trans (congrArg some (by kernel_rfl))
  f236 := Tryz.func143.trans (congrArg some (by kernel_rfl))
  f260 := Tryz.func155.trans (congrArg some (by kernel_rfl))
  f266 := Tryz.func157.trans (congrArg some (by kernel_rfl))
  f271 := Tryz.func152.trans (congrArg some (by kernel_rfl))
  t0 := Tryz.underlying0
  a0 := Tryz.isAgg0
  z0 := Tryz.sizeOf0
  v0 := Tryz.zeroValue0
  t3 := Tryz.underlying3
  a3 := Tryz.isAgg3
  z3 := Tryz.sizeOf3
  v3 := Tryz.zeroValue3
  t4 := Tryz.underlying4
  a4 := Tryz.isAgg4
  z4 := Tryz.sizeOf4
  v4 := Tryz.zeroValue4
  t5 := Tryz.underlying5
  a5 := Tryz.isAgg5
  z5 := Tryz.sizeOf5
  v5 := Tryz.zeroValue5
  t9 := Tryz.underlying9
  a9 := Tryz.isAgg9
  z9 := Tryz.sizeOf9
  v9 := Tryz.zeroValue9
  t21 := Tryz.underlying21
  a21 := Tryz.isAgg21
  z21 := Tryz.sizeOf21
  v21 := Tryz.zeroValue21
  t46 := Tryz.underlying158
  a46 := Tryz.isAgg158
  z46 := Tryz.sizeOf158
  v46 := Tryz.zeroValue158
  t105 := Tryz.underlying211
  a105 := Tryz.isAgg211
  z105 := Tryz.sizeOf211
  v105 := Tryz.zeroValue211
  t116 := Tryz.underlying202
  a116 := Tryz.isAgg202
  z116 := Tryz.sizeOf202
  t117 := Tryz.underlying203
  a117 := Tryz.isAgg203
  z117 := Tryz.sizeOf203
  v117 := Tryz.zeroValue203
  t119 := Tryz.underlying217
  a119 := Tryz.isAgg217
  z119 := Tryz.sizeOf217
  t124 := Tryz.underlying208
  a124 := Tryz.isAgg208
  z124 := Tryz.sizeOf208
  v124 := Tryz.zeroValue208
  t138 := Tryz.underlying219
  a138 := Tryz.isAgg219
  z138 := Tryz.sizeOf219
  v138 := Tryz.zeroValue219
  t139 := Tryz.underlying220
  a139 := Tryz.isAgg220
  z139 := Tryz.sizeOf220
  v139 := Tryz.zeroValue220
  g3 := by kernel_rfl
  g4 := by kernel_rfl
  }
noncomputable def c_strings_Trim : Code := match Tryz.f129.body with | some c => c | none => .skip
noncomputable def ctr_strings_Trim (N : Nat) : Ctr := ctrOf (.cons .str .str) .str [] (fun v => strings_Trim N v.1 v.2)
theorem sound_strings_Trim (N : Nat) : SoundF Tryz.prog 129 (fun vs => (ctr_strings_Trim N).run vs some) := by
  have e1 : lay_strings_Trim_ren.f 160 = 129 := by kernel_rfl
  have h := trim_sound lay_strings_Trim (by kernel_rfl) (fn := Tryz.f129) (c := c_strings_Trim) (by rw [e1]; exact Tryz.func129) (by kernel_rfl) (by kernel_rfl)
  rw [e1] at h
  exact h
noncomputable def c_path_isBody : Code := match Tryz.f121.body with | some c => c | none => .skip
noncomputable def tab_path_isBody (N : Nat) : List (Nat × Ctr) := [(129, ctr_strings_Trim N)]
noncomputable def env_path_isBody (N : Nat) : Env := mkEnv tyRows eqRows methRows [] [] (tab_path_isBody N)
theorem envok_path_isBody (N : Nat) : EnvOk Tryz.prog (env_path_isBody N) := mkEnv_ok tyRows_ok eqRows_ok methRows_ok ⟨sound_strings_Trim N, trivial⟩
noncomputable def cut_path_isBody_p0 : Cut := { tms := [0], sh := .str, objs := [], sts := [] }
noncomputable def cut_path_isBody_p0_o0 : Cut := { tms := [2], sh := .bool, objs := [], sts := [] }
noncomputable def lp_path_isBody_p0 (N : Nat) : Lp := lpOf cut_path_isBody_p0 (1, cut_path_isBody_p0_o0) [] (fun v => path_isBody_p0 N v.1)
noncomputable def lam_path_isBody_p0 (_ : Nat) : Lps := fun _ => none
theorem lpok_path_isBody_p0 (N : Nat) (ro : Option Nat) : LpOk Tryz.prog 25 ro (lp_path_isBody_p0 N) (codeAt c_path_isBody [true, true]) :=
  piece_ok (envok_path_isBody N) mixed (Λ := lam_path_isBody_p0 N) (p := 7) (obs_ok (l := []) (by kernel_rfl) obsNil) (by kernel_rfl) (by intro v; kernel_rfl)
noncomputable def lam_path_isBody (N : Nat) : Lps := fun p => bif Nat.beq p 7 then some (lp_path_isBody_p0 N) else none
noncomputable def ctr_path_isBody (N : Nat) : Ctr := ctrOf .str .bool [] (fun v => path_isBody N v)
theorem sound_path_isBody (N : Nat) : SoundF Tryz.prog 121 (fun vs => (ctr_path_isBody N).run vs some) :=
  fn_sound (envok_path_isBody N) mixed (Λ := lam_path_isBody N) (fn := Tryz.f121) (c := c_path_isBody) Tryz.func121 (by kernel_rfl) (by kernel_rfl) (obs_ok (l := [(lp_path_isBody_p0 N, (codeAt c_path_isBody [true, true]))]) (by kernel_rfl) (obsCons (lpok_path_isBody_p0 N none) obsNil)) (by kernel_rfl) (by intro v; kernel_rfl)
noncomputable def c_path_Key : Code := match Tryz.f104.body with | some c => c | none => .skip
noncomputable def tab_path_Key (N : Nat) : List (Nat × Ctr) := [(120, ctr_path_Valid N), (122, ctr_path_isName N), (121, ctr_path_isBody N)]
noncomputable def env_path_Key (N : Nat) : Env := mkEnv tyRows eqRows methRows [] [] (tab_path_Key N)
theorem envok_path_Key (N : Nat) : EnvOk Tryz.prog (env_path_Key N) := mkEnv_ok tyRows_ok eqRows_ok methRows_ok ⟨sound_path_Valid N, ⟨sound_path_isName N, ⟨sound_path_isBody N, trivial⟩⟩⟩
noncomputable def cut_path_Key_p3 : Cut := { tms := [1, 4, 66], sh := (.cons (.ptr 2000000 0) (.cons (.ptr 2000001 0) .bool)), objs := [(2000000, [1], .box (.cons .str (.cons (.int .i64) (.cons (.int .i64) .str)))), (2000001, [4], .box (.cons .str (.cons (.int .i64) (.cons (.int .i64) .str))))], sts := [] }
noncomputable def cut_path_Key_p3_o0 : Cut := { tms := [2, 3], sh := (.cons .str (.int .i64)), objs := [], sts := [] }
noncomputable def cut_path_Key_p3_o1 : Cut := { tms := [], sh := .nil, objs := [], sts := [] }
noncomputable def lp_path_Key_p3 (N : Nat) : Lp := lpOf cut_path_Key_p3 (1, cut_path_Key_p3_o0) [(0, cut_path_Key_p3_o1)] (fun v => path_Key_p3 N v.1.2.2 v.2.1.1 v.2.1.2.1 v.2.1.2.2.1 v.2.1.2.2.2 v.2.2.1.1 v.2.2.1.2.1 v.2.2.1.2.2.1 v.2.2.1.2.2.2)
noncomputable def lam_path_Key_p3 (_ : Nat) : Lps := fun _ => none
theorem lpok_path_Key_p3 (N : Nat) (ro : Option Nat) : LpOk Tryz.prog 99 ro (lp_path_Key_p3 N) (codeAt c_path_Key [true, true, false, true, false, false, true, true, true, true, true]) :=
  piece_ok (envok_path_Key N) mixed (Λ := lam_path_Key_p3 N) (p := 3743) (obs_ok (l := []) (by kernel_rfl) obsNil) (by kernel_rfl) (by intro v; kernel_rfl)
noncomputable def cut_path_Key_p2 : Cut := { tms := [1, 4, 35], sh := (.cons (.ptr 2000000 0) (.cons (.ptr 2000001 0) .bool)), objs := [(2000000, [1], .box (.cons .str (.cons (.int .i64) (.cons (.int .i64) .str)))), (2000001, [4], .box (.cons .str (.cons (.int .i64) (.cons (.int .i64) .str))))], sts := [] }
noncomputable def cut_path_Key_p2_o0 : Cut := { tms := [2, 3], sh := (.cons .str (.int .i64)), objs := [], sts := [] }
noncomputable def cut_path_Key_p2_o1 : Cut := { tms := [], sh := .nil, objs := [], sts := [] }
noncomputable def lp_path_Key_p2 (N : Nat) : Lp := lpOf cut_path_Key_p2 (1, cut_path_Key_p2_o0) [(0, cut_path_Key_p2_o1)] (fun v => path_Key_p2 N v.1.2.2 v.2.1.1 v.2.1.2.1 v.2.1.2.2.1 v.2.1.2.2.2 v.2.2.1.1 v.2.2.1.2.1 v.2.2.1.2.2.1 v.2.2.1.2.2.2)
noncomputable def lam_path_Key_p2 (N : Nat) : Lps := fun p => bif Nat.beq p 3743 then some (lp_path_Key_p3 N) else none
theorem lpok_path_Key_p2 (N : Nat) (ro : Option Nat) : LpOk Tryz.prog 99 ro (lp_path_Key_p2 N) (codeAt c_path_Key [true, true, false, true, false, false, true, true, true]) :=
  piece_ok (envok_path_Key N) mixed (Λ := lam_path_Key_p2 N) (p := 935) (obs_ok (l := [(lp_path_Key_p3 N, (codeAt c_path_Key [true, true, false, true, false, false, true, true, true, true, true]))]) (by kernel_rfl) (obsCons (lpok_path_Key_p3 N ro) obsNil)) (by kernel_rfl) (by intro v; kernel_rfl)
noncomputable def cut_path_Key_p1 : Cut := { tms := [1, 4, 22], sh := (.cons (.ptr 2000000 0) (.cons (.ptr 2000001 0) .bool)), objs := [(2000000, [1], .box (.cons .str (.cons (.int .i64) (.cons (.int .i64) .str)))), (2000001, [4], .box (.cons .str (.cons (.int .i64) (.cons (.int .i64) .str))))], sts := [] }
noncomputable def cut_path_Key_p1_o0 : Cut := { tms := [2, 3], sh := (.cons .str (.int .i64)), objs := [], sts := [] }
noncomputable def cut_path_Key_p1_o1 : Cut := { tms := [], sh := .nil, objs := [], sts := [] }
noncomputable def lp_path_Key_p1 (N : Nat) : Lp := lpOf cut_path_Key_p1 (1, cut_path_Key_p1_o0) [(0, cut_path_Key_p1_o1)] (fun v => path_Key_p1 N v.1.2.2 v.2.1.1 v.2.1.2.1 v.2.1.2.2.1 v.2.1.2.2.2 v.2.2.1.1 v.2.2.1.2.1 v.2.2.1.2.2.1 v.2.2.1.2.2.2)
noncomputable def lam_path_Key_p1 (N : Nat) : Lps := fun p => bif Nat.beq p 935 then some (lp_path_Key_p2 N) else none
theorem lpok_path_Key_p1 (N : Nat) (ro : Option Nat) : LpOk Tryz.prog 99 ro (lp_path_Key_p1 N) (codeAt c_path_Key [true, true, false, true]) :=
  piece_ok (envok_path_Key N) mixed (Λ := lam_path_Key_p1 N) (p := 29) (obs_ok (l := [(lp_path_Key_p2 N, (codeAt c_path_Key [true, true, false, true, false, false, true, true, true]))]) (by kernel_rfl) (obsCons (lpok_path_Key_p2 N ro) obsNil)) (by kernel_rfl) (by intro v; kernel_rfl)
noncomputable def cut_path_Key_p0 : Cut := { tms := [], sh := .nil, objs := [], sts := [] }
noncomputable def cut_path_Key_p0_o0 : Cut := { tms := [2, 3], sh := (.cons .str (.int .i64)), objs := [], sts := [] }
noncomputable def lp_path_Key_p0 (N : Nat) : Lp := lpOf cut_path_Key_p0 (1, cut_path_Key_p0_o0) [] (fun _ => path_Key_p0 N)
noncomputable def lam_path_Key_p0 (_ : Nat) : Lps := fun _ => none
theorem lpok_path_Key_p0 (N : Nat) (ro : Option Nat) : LpOk Tryz.prog 99 ro (lp_path_Key_p0 N) (codeAt c_path_Key [true, true, true]) :=
  piece_ok (envok_path_Key N) mixed (Λ := lam_path_Key_p0 N) (p := 15) (obs_ok (l := []) (by kernel_rfl) obsNil) (by kernel_rfl) (by intro v; kernel_rfl)
noncomputable def lam_path_Key (N : Nat) : Lps := fun p => bif Nat.beq p 15 then some (lp_path_Key_p0 N) else bif Nat.beq p 29 then some (lp_path_Key_p1 N) else none
noncomputable def ctr_path_Key (N : Nat) : Ctr := ctrOf (.val T_api_Place) (.tup (.cons .str (.int .i64))) [] (fun v => path_Key N v)
theorem sound_path_Key (N : Nat) : SoundF Tryz.prog 104 (fun vs => (ctr_path_Key N).run vs some) :=
  fn_sound (envok_path_Key N) mixed (Λ := lam_path_Key N) (fn := Tryz.f104) (c := c_path_Key) Tryz.func104 (by kernel_rfl) (by kernel_rfl) (obs_ok (l := [(lp_path_Key_p1 N, (codeAt c_path_Key [true, true, false, true])), (lp_path_Key_p0 N, (codeAt c_path_Key [true, true, true]))]) (by kernel_rfl) (obsCons (lpok_path_Key_p1 N none) (obsCons (lpok_path_Key_p0 N none) obsNil))) (by kernel_rfl) (by intro v; kernel_rfl)
noncomputable def c_path_Place : Code := match Tryz.f79.body with | some c => c | none => .skip
noncomputable def tab_path_Place (N : Nat) : List (Nat × Ctr) := [(104, ctr_path_Key N)]
noncomputable def tabm_path_Place (N : Nat) : List (Nat × CtrM) := [(103, ctr_path_place_read_m N)]
noncomputable def env_path_Place (N : Nat) : Env := mkEnv tyRows eqRows methRows [] [12] (tab_path_Place N) (tabm_path_Place N)
theorem envok_path_Place (N : Nat) : EnvOk Tryz.prog (env_path_Place N) := mkEnv_ok tyRows_ok eqRows_ok methRows_ok ⟨sound_path_Key N, trivial⟩ ⟨sound_path_place_read_m N, trivial⟩
noncomputable def lam_path_Place (_ : Nat) : Lps := fun _ => none
noncomputable def ctr_path_Place (N : Nat) : Ctr := ctrOf .str (.tup (.cons (.val T_api_Place) (.int .i64))) [] (fun v => path_Place N v)
theorem sound_path_Place (N : Nat) : SoundF Tryz.prog 79 (fun vs => (ctr_path_Place N).run vs some) :=
  fn_sound (envok_path_Place N) mixed (Λ := lam_path_Place N) (fn := Tryz.f79) (c := c_path_Place) Tryz.func79 (by kernel_rfl) (by kernel_rfl) (obs_ok (l := []) (by kernel_rfl) obsNil) (by kernel_rfl) (by intro v; kernel_rfl)
noncomputable def c_entry_Charge : Code := match Tryz.f81.body with | some c => c | none => .skip
noncomputable def tab_entry_Charge (N : Nat) : List (Nat × Ctr) := [(79, ctr_path_Place N)]
noncomputable def env_entry_Charge (N : Nat) : Env := mkEnv tyRows eqRows methRows [] [] (tab_entry_Charge N)
theorem envok_entry_Charge (N : Nat) : EnvOk Tryz.prog (env_entry_Charge N) := mkEnv_ok tyRows_ok eqRows_ok methRows_ok ⟨sound_path_Place N, trivial⟩
noncomputable def lam_entry_Charge (_ : Nat) : Lps := fun _ => none
noncomputable def ctr_entry_Charge (N : Nat) : Ctr := ctrOf (.val T_api_Pair) (.val T_api_Use) [] (fun v => entry_Charge N v)
theorem sound_entry_Charge (N : Nat) : SoundF Tryz.prog 81 (fun vs => (ctr_entry_Charge N).run vs some) :=
  fn_sound (envok_entry_Charge N) mixed (Λ := lam_entry_Charge N) (fn := Tryz.f81) (c := c_entry_Charge) Tryz.func81 (by kernel_rfl) (by kernel_rfl) (obs_ok (l := []) (by kernel_rfl) obsNil) (by kernel_rfl) (by intro v; kernel_rfl)
noncomputable def c_entry_Total : Code := match Tryz.f27.body with | some c => c | none => .skip
noncomputable def tab_entry_Total (N : Nat) : List (Nat × Ctr) := [(81, ctr_entry_Charge N)]
noncomputable def env_entry_Total (N : Nat) : Env := mkEnv tyRows eqRows methRows [] [] (tab_entry_Total N)
theorem envok_entry_Total (N : Nat) : EnvOk Tryz.prog (env_entry_Total N) := mkEnv_ok tyRows_ok eqRows_ok methRows_ok ⟨sound_entry_Charge N, trivial⟩
noncomputable def cut_entry_Total_l0 : Cut := { tms := [2, 3, 7, 8, 9], sh := (.cons (.ptr 2000000 0) (.cons (.ptr 2000001 0) (.cons (.list T_api_Pair) (.cons (.int .i64) (.int .i64))))), objs := [(2000000, [2], .box (.cons (.int .i64) (.int .i64))), (2000001, [3], .box (.cons (.int .i64) (.int .i64)))], sts := [] }
noncomputable def cut_entry_Total_l0_o0 : Cut := { tms := [2, 3], sh := (.cons (.ptr 2000000 0) (.ptr 2000001 0)), objs := [(2000000, [2], .box (.cons (.int .i64) (.int .i64))), (2000001, [3], .box (.cons (.int .i64) (.int .i64)))], sts := [] }
noncomputable def lp_entry_Total_l0 (N : Nat) : Lp := lpOf cut_entry_Total_l0 (2, cut_entry_Total_l0_o0) [] (fun v => entry_Total_l0 N N v.1.2.2.1 v.1.2.2.2.1 v.1.2.2.2.2 v.2.1.1 v.2.1.2 v.2.2.1.1 v.2.2.1.2)
noncomputable def lam_entry_Total_l0 (_ : Nat) : Lps := fun _ => none
theorem lpok_entry_Total_l0 (N : Nat) (ro : Option Nat) : LpOk Tryz.prog 29 ro (lp_entry_Total_l0 N) (codeAt c_entry_Total [true, true, false, true, false]) := by
  rw [show (codeAt c_entry_Total [true, true, false, true, false]) = .loop (codeAt c_entry_Total [true, true, false, true, false, false]) by kernel_rfl]
  exact loop_ok (envok_entry_Total N) mixed (Λ := lam_entry_Total_l0 N) (p := 116) (obs_ok (l := []) (by kernel_rfl) obsNil) (by kernel_rfl) (by intro rec v; kernel_rfl) N
noncomputable def lam_entry_Total (N : Nat) : Lps := fun p => bif Nat.beq p 58 then some (lp_entry_Total_l0 N) else none
noncomputable def ctr_entry_Total (N : Nat) : Ctr := ctrOf (.list T_api_Pair) (.val T_api_Use) [] (fun v => entry_Total N v)
theorem sound_entry_Total (N : Nat) : SoundF Tryz.prog 27 (fun vs => (ctr_entry_Total N).run vs some) :=
  fn_sound (envok_entry_Total N) mixed (Λ := lam_entry_Total N) (fn := Tryz.f27) (c := c_entry_Total) Tryz.func27 (by kernel_rfl) (by kernel_rfl) (obs_ok (l := [(lp_entry_Total_l0 N, (codeAt c_entry_Total [true, true, false, true, false]))]) (by kernel_rfl) (obsCons (lpok_entry_Total_l0 N none) obsNil)) (by kernel_rfl) (by intro v; kernel_rfl)
noncomputable def c_node_Sum_c1_m : Code := match Tryz.f77.body with | some c => c | none => .skip
noncomputable def tab_node_Sum_c1_m (_ : Nat) : List (Nat × Ctr) := []
noncomputable def env_node_Sum_c1_m (N : Nat) : Env := mkEnv tyRows eqRows methRows [] [] (tab_node_Sum_c1_m N)
theorem envok_node_Sum_c1_m (N : Nat) : EnvOk Tryz.prog (env_node_Sum_c1_m N) := mkEnv_ok tyRows_ok eqRows_ok methRows_ok trivial
noncomputable def lam_node_Sum_c1_m (_ : Nat) : Lps := fun _ => none
noncomputable def cut_node_Sum_c1_m_in : Cut := { tms := [0, 1, 2], sh := (.cons (.ptr 5000000 0) (.cons (.int .i64) (.int .i64))), objs := [(5000000, [0], .box (.cons (.int .i64) (.cons (.int .i64) (.cons (.int .i64) (.int .i64)))))], sts := [] }
noncomputable def cut_node_Sum_c1_m_out0 : Cut := { tms := [0], sh := (.tup .nil), objs := [(5000000, [5000000], .box (.cons (.int .i64) (.cons (.int .i64) (.cons (.int .i64) (.int .i64)))))], sts := [] }
noncomputable def ctr_node_Sum_c1_m (N : Nat) : CtrM := ctrM cut_node_Sum_c1_m_in cut_node_Sum_c1_m_out0 [] (fun v => node_Sum_c1_m N v.1.2.1 v.1.2.2 v.2.1.1 v.2.1.2.1 v.2.1.2.2.1 v.2.1.2.2.2)
theorem sound_node_Sum_c1_m (N : Nat) : SoundM Tryz.prog 77 (ctr_node_Sum_c1_m N) :=
  fnM_sound (envok_node_Sum_c1_m N) mixed (Λ := lam_node_Sum_c1_m N) (fn := Tryz.f77) (c := c_node_Sum_c1_m) Tryz.func77 (by kernel_rfl) (by kernel_rfl) (obs_ok (l := []) (by kernel_rfl) obsNil) (by kernel_rfl) (by intro v; kernel_rfl)
noncomputable def c_node_Sum_c1_m_a : Code := match Tryz.f77.body with | some c => c | none => .skip
noncomputable def tab_node_Sum_c1_m_a (_ : Nat) : List (Nat × Ctr) := []
noncomputable def env_node_Sum_c1_m_a (N : Nat) : Env := mkEnv tyRows eqRows methRows [] [] (tab_node_Sum_c1_m_a N)
theorem envok_node_Sum_c1_m_a (N : Nat) : EnvOk Tryz.prog (env_node_Sum_c1_m_a N) := mkEnv_ok tyRows_ok eqRows_ok methRows_ok trivial
noncomputable def lam_node_Sum_c1_m_a (_ : Nat) : Lps := fun _ => none
noncomputable def cut_node_Sum_c1_m_a_in : Cut := { tms := [0, 1, 2], sh := (.cons (.ptr 5000000 2) (.cons (.int .i64) (.int .i64))), objs := [(5000000, [0], .box (.cons (.int .i64) (.cons (.int .i64) (.cons (.int .i64) (.int .i64)))))], sts := [] }
noncomputable def cut_node_Sum_c1_m_a_out0 : Cut := { tms := [0], sh := (.tup .nil), objs := [(5000000, [5000000], .box (.cons (.int .i64) (.cons (.int .i64) (.cons (.int .i64) (.int .i64)))))], sts := [] }
noncomputable def ctr_node_Sum_c1_m_a (N : Nat) : CtrM := ctrM cut_node_Sum_c1_m_a_in cut_node_Sum_c1_m_a_out0 [] (fun v => node_Sum_c1_m_a N v.1.2.1 v.1.2.2 v.2.1.1 v.2.1.2.1 v.2.1.2.2.1 v.2.1.2.2.2)
theorem sound_node_Sum_c1_m_a (N : Nat) : SoundM Tryz.prog 77 (ctr_node_Sum_c1_m_a N) :=
  fnM_sound (envok_node_Sum_c1_m_a N) mixed (Λ := lam_node_Sum_c1_m_a N) (fn := Tryz.f77) (c := c_node_Sum_c1_m_a) Tryz.func77 (by kernel_rfl) (by kernel_rfl) (obs_ok (l := []) (by kernel_rfl) obsNil) (by kernel_rfl) (by intro v; kernel_rfl)
noncomputable def c_node_Sum_c2_m : Code := match Tryz.f78.body with | some c => c | none => .skip
noncomputable def tab_node_Sum_c2_m (_ : Nat) : List (Nat × Ctr) := []
noncomputable def tabm_node_Sum_c2_m (N : Nat) : List (Nat × CtrM) := [(77, ctr_node_Sum_c1_m N), (77, ctr_node_Sum_c1_m_a N)]
noncomputable def env_node_Sum_c2_m (N : Nat) : Env := mkEnv tyRows eqRows methRows [] [10, 15] (tab_node_Sum_c2_m N) (tabm_node_Sum_c2_m N)
theorem envok_node_Sum_c2_m (N : Nat) : EnvOk Tryz.prog (env_node_Sum_c2_m N) := mkEnv_ok tyRows_ok eqRows_ok methRows_ok trivial ⟨sound_node_Sum_c1_m N, ⟨sound_node_Sum_c1_m_a N, trivial⟩⟩
noncomputable def lam_node_Sum_c2_m (_ : Nat) : Lps := fun _ => none
noncomputable def cut_node_Sum_c2_m_in : Cut := { tms := [0, 1, 2, 3], sh := (.cons (.int .i64) (.cons (.int .i64) (.cons (.ptr 5000000 0) (.ptr 5000001 0)))), objs := [(5000000, [2], .box (.clo 77 .nil)), (5000001, [3], .box (.cons (.int .i64) (.cons (.int .i64) (.cons (.int .i64) (.int .i64)))))], sts := [] }
noncomputable def cut_node_Sum_c2_m_out0 : Cut := { tms := [0], sh := (.tup .nil), objs := [(5000000, [5000000], .box (.clo 77 .nil)), (5000001, [5000001], .box (.cons (.int .i64) (.cons (.int .i64) (.cons (.int .i64) (.int .i64)))))], sts := [] }
noncomputable def ctr_node_Sum_c2_m (N : Nat) : CtrM := ctrM cut_node_Sum_c2_m_in cut_node_Sum_c2_m_out0 [] (fun v => node_Sum_c2_m N v.1.1 v.1.2.1 v.2.2.1.1 v.2.2.1.2.1 v.2.2.1.2.2.1 v.2.2.1.2.2.2)
theorem sound_node_Sum_c2_m (N : Nat) : SoundM Tryz.prog 78 (ctr_node_Sum_c2_m N) :=
  fnM_sound (envok_node_Sum_c2_m N) mixed (Λ := lam_node_Sum_c2_m N) (fn := Tryz.f78) (c := c_node_Sum_c2_m) Tryz.func78 (by kernel_rfl) (by kernel_rfl) (obs_ok (l := []) (by kernel_rfl) obsNil) (by kernel_rfl) (by intro v; kernel_rfl)
noncomputable def c_node_kind : Code := match Tryz.f105.body with | some c => c | none => .skip
noncomputable def tab_node_kind (N : Nat) : List (Nat × Ctr) := [(120, ctr_path_Valid N), (79, ctr_path_Place N)]
noncomputable def env_node_kind (N : Nat) : Env := mkEnv tyRows eqRows methRows [] [] (tab_node_kind N)
theorem envok_node_kind (N : Nat) : EnvOk Tryz.prog (env_node_kind N) := mkEnv_ok tyRows_ok eqRows_ok methRows_ok ⟨sound_path_Valid N, ⟨sound_path_Place N, trivial⟩⟩
noncomputable def lam_node_kind (_ : Nat) : Lps := fun _ => none
noncomputable def ctr_node_kind (N : Nat) : Ctr := ctrOf .str (.int .i64) [] (fun v => node_kind N v)
theorem sound_node_kind (N : Nat) : SoundF Tryz.prog 105 (fun vs => (ctr_node_kind N).run vs some) :=
  fn_sound (envok_node_kind N) mixed (Λ := lam_node_kind N) (fn := Tryz.f105) (c := c_node_kind) Tryz.func105 (by kernel_rfl) (by kernel_rfl) (obs_ok (l := []) (by kernel_rfl) obsNil) (by kernel_rfl) (by intro v; kernel_rfl)
noncomputable def c_node_alike : Code := match Tryz.f80.body with | some c => c | none => .skip
noncomputable def tab_node_alike (N : Nat) : List (Nat × Ctr) := [(105, ctr_node_kind N)]
noncomputable def env_node_alike (N : Nat) : Env := mkEnv tyRows eqRows methRows [] [] (tab_node_alike N)
theorem envok_node_alike (N : Nat) : EnvOk Tryz.prog (env_node_alike N) := mkEnv_ok tyRows_ok eqRows_ok methRows_ok ⟨sound_node_kind N, trivial⟩
noncomputable def lam_node_alike (_ : Nat) : Lps := fun _ => none
noncomputable def ctr_node_alike (N : Nat) : Ctr := ctrOf (.cons .str .str) .bool [] (fun v => node_alike N v.1 v.2)
theorem sound_node_alike (N : Nat) : SoundF Tryz.prog 80 (fun vs => (ctr_node_alike N).run vs some) :=
  fn_sound (envok_node_alike N) mixed (Λ := lam_node_alike N) (fn := Tryz.f80) (c := c_node_alike) Tryz.func80 (by kernel_rfl) (by kernel_rfl) (obs_ok (l := []) (by kernel_rfl) obsNil) (by kernel_rfl) (by intro v; kernel_rfl)
noncomputable def c_node_Sum : Code := match Tryz.f25.body with | some c => c | none => .skip
noncomputable def tab_node_Sum (N : Nat) : List (Nat × Ctr) := [(27, ctr_entry_Total N), (79, ctr_path_Place N), (80, ctr_node_alike N)]
noncomputable def tabm_node_Sum (N : Nat) : List (Nat × CtrM) := [(77, ctr_node_Sum_c1_m N), (77, ctr_node_Sum_c1_m_a N), (78, ctr_node_Sum_c2_m N)]
noncomputable def env_node_Sum (N : Nat) : Env := mkEnv tyRows eqRows methRows [] [49, 58, 82, 92, 102, 112, 119, 125, 138, 148, 154] (tab_node_Sum N) (tabm_node_Sum N)
theorem envok_node_Sum (N : Nat) : EnvOk Tryz.prog (env_node_Sum N) := mkEnv_ok tyRows_ok eqRows_ok methRows_ok ⟨sound_entry_Total N, ⟨sound_path_Place N, ⟨sound_node_alike N, trivial⟩⟩⟩ ⟨sound_node_Sum_c1_m N, ⟨sound_node_Sum_c1_m_a N, ⟨sound_node_Sum_c2_m N, trivial⟩⟩⟩
noncomputable def cut_node_Sum_p3 : Cut := { tms := [2, 3, 5, 8, 10, 62, 63, 64, 103], sh := (.cons (.ptr 2000000 0) (.cons (.ptr 2000001 0) (.cons (.ptr 2000002 0) (.cons (.clo 78 (.cons (.ptr 2000002 0) (.ptr 2000001 0))) (.cons (.ptr 2000003 0) (.cons (.list T_api_Msg) (.cons (.int .i64) (.cons (.int .i64) .bool)))))))), objs := [(2000000, [2], .box (.cons (.int .i64) (.cons (.int .i64) (.cons (.int .i64) (.int .i64))))), (2000001, [3], .box (.cons (.int .i64) (.cons (.int .i64) (.cons (.int .i64) (.int .i64))))), (2000002, [5], .box (.clo 77 .nil)), (2000003, [10], .box (.cons (.int .i64) (.cons .str (.cons .str (.cons .str (.cons .str (.cons .str (.cons .str (.int .i64)))))))))], sts := [] }
noncomputable def cut_node_Sum_p3_o0 : Cut := { tms := [2, 3, 5, 8, 62, 63, 64], sh := (.cons (.ptr 2000000 0) (.cons (.ptr 2000001 0) (.cons (.ptr 2000002 0) (.cons (.clo 78 (.cons (.ptr 2000002 0) (.ptr 2000001 0))) (.cons (.list T_api_Msg) (.cons (.int .i64) (.int .i64))))))), objs := [(2000000, [2], .box (.cons (.int .i64) (.cons (.int .i64) (.cons (.int .i64) (.int .i64))))), (2000001, [3], .box (.cons (.int .i64) (.cons (.int .i64) (.cons (.int .i64) (.int .i64))))), (2000002, [5], .box (.clo 77 .nil))], sts := [] }
noncomputable def lp_node_Sum_p3 (N : Nat) : Lp := lpOf cut_node_Sum_p3 (0, cut_node_Sum_p3_o0) [] (fun v => node_Sum_p3 N v.1.2.2.2.2.2.1 v.1.2.2.2.2.2.2.1 v.1.2.2.2.2.2.2.2.1 v.1.2.2.2.2.2.2.2.2 v.2.1.1 v.2.1.2.1 v.2.1.2.2.1 v.2.1.2.2.2 v.2.2.1.1 v.2.2.1.2.1 v.2.2.1.2.2.1 v.2.2.1.2.2.2 v.2.2.2.2.1.1 v.2.2.2.2.1.2.1 v.2.2.2.2.1.2.2.1 v.2.2.2.2.1.2.2.2.1 v.2.2.2.2.1.2.2.2.2.1 v.2.2.2.2.1.2.2.2.2.2.1 v.2.2.2.2.1.2.2.2.2.2.2.1 v.2.2.2.2.1.2.2.2.2.2.2.2)
noncomputable def lam_node_Sum_p3 (_ : Nat) : Lps := fun _ => none
theorem lpok_node_Sum_p3 (N : Nat) (ro : Option Nat) : LpOk Tryz.prog 157 ro (lp_node_Sum_p3 N) (codeAt c_node_Sum [true, true, true, true, true, true, false, true, false, false, true, true, false, false, true, true, true, false, true, true, true, true, true]) :=
  piece_ok (envok_node_Sum N) mixed (Λ := lam_node_Sum_p3 N) (p := 16685535) (obs_ok (l := []) (by kernel_rfl) obsNil) (by kernel_rfl) (by intro v; kernel_rfl)
noncomputable def cut_node_Sum_p2 : Cut := { tms := [2, 3, 5, 8, 62, 63, 64], sh := (.cons (.ptr 2000000 0) (.cons (.ptr 2000001 0) (.cons (.ptr 2000002 0) (.cons (.clo 78 (.cons (.ptr 2000002 0) (.ptr 2000001 0))) (.cons (.list T_api_Msg) (.cons (.int .i64) (.int .i64))))))), objs := [(2000000, [2], .box (.cons (.int .i64) (.cons (.int .i64) (.cons (.int .i64) (.int .i64))))), (2000001, [3], .box (.cons (.int .i64) (.cons (.int .i64) (.cons (.int .i64) (.int .i64))))), (2000002, [5], .box (.clo 77 .nil))], sts := [] }
noncomputable def cut_node_Sum_p2_o0 : Cut := { tms := [2, 3, 5, 8, 62, 63, 64], sh := (.cons (.ptr 2000000 0) (.cons (.ptr 2000001 0) (.cons (.ptr 2000002 0) (.cons (.clo 78 (.cons (.ptr 2000002 0) (.ptr 2000001 0))) (.cons (.list T_api_Msg) (.cons (.int .i64) (.int .i64))))))), objs := [(2000000, [2], .box (.cons (.int .i64) (.cons (.int .i64) (.cons (.int .i64) (.int .i64))))), (2000001, [3], .box (.cons (.int .i64) (.cons (.int .i64) (.cons (.int .i64) (.int .i64))))), (2000002, [5], .box (.clo 77 .nil))], sts := [] }
noncomputable def lp_node_Sum_p2 (N : Nat) : Lp := lpOf cut_node_Sum_p2 (0, cut_node_Sum_p2_o0) [] (fun v => node_Sum_p2 N v.1.2.2.2.2.1 v.1.2.2.2.2.2.1 v.1.2.2.2.2.2.2 v.2.1.1 v.2.1.2.1 v.2.1.2.2.1 v.2.1.2.2.2 v.2.2.1.1 v.2.2.1.2.1 v.2.2.1.2.2.1 v.2.2.1.2.2.2)
noncomputable def lam_node_Sum_p2 (_ : Nat) : Lps := fun _ => none
theorem lpok_node_Sum_p2 (N : Nat) (ro : Option Nat) : LpOk Tryz.prog 157 ro (lp_node_Sum_p2 N) (codeAt c_node_Sum [true, true, true, true, true, true, false, true, false, false, true, true, true]) :=
  piece_ok (envok_node_Sum N) mixed (Λ := lam_node_Sum_p2 N) (p := 16295) (obs_ok (l := []) (by kernel_rfl) obsNil) (by kernel_rfl) (by intro v; kernel_rfl)
noncomputable def cut_node_Sum_l1 : Cut := { tms := [2, 3, 5, 8, 62, 63, 64], sh := (.cons (.ptr 2000000 0) (.cons (.ptr 2000001 0) (.cons (.ptr 2000002 0) (.cons (.clo 78 (.cons (.ptr 2000002 0) (.ptr 2000001 0))) (.cons (.list T_api_Msg) (.cons (.int .i64) (.int .i64))))))), objs := [(2000000, [2], .box (.cons (.int .i64) (.cons (.int .i64) (.cons (.int .i64) (.int .i64))))), (2000001, [3], .box (.cons (.int .i64) (.cons (.int .i64) (.cons (.int .i64) (.int .i64))))), (2000002, [5], .box (.clo 77 .nil))], sts := [] }
noncomputable def cut_node_Sum_l1_o0 : Cut := { tms := [2, 3], sh := (.cons (.ptr 2000000 0) (.ptr 2000001 0)), objs := [(2000000, [2], .box (.cons (.int .i64) (.cons (.int .i64) (.cons (.int .i64) (.int .i64))))), (2000001, [3], .box (.cons (.int .i64) (.cons (.int .i64) (.cons (.int .i64) (.int .i64)))))], sts := [] }
noncomputable def lp_node_Sum_l1 (N : Nat) : Lp := lpOf cut_node_Sum_l1 (4, cut_node_Sum_l1_o0) [] (fun v => node_Sum_l1 N N v.1.2.2.2.2.1 v.1.2.2.2.2.2.1 v.1.2.2.2.2.2.2 v.2.1.1 v.2.1.2.1 v.2.1.2.2.1 v.2.1.2.2.2 v.2.2.1.1 v.2.2.1.2.1 v.2.2.1.2.2.1 v.2.2.1.2.2.2)
noncomputable def lam_node_Sum_l1 (N : Nat) : Lps := fun p => bif Nat.beq p 16295 then some (lp_node_Sum_p2 N) else bif Nat.beq p 16685535 then some (lp_node_Sum_p3 N) else none
theorem lpok_node_Sum_l1 (N : Nat) (ro : Option Nat) : LpOk Tryz.prog 157 ro (lp_node_Sum_l1 N) (codeAt c_node_Sum [true, true, true, true, true, true, false, true, false]) := by
  rw [show (codeAt c_node_Sum [true, true, true, true, true, true, false, true, false]) = .loop (codeAt c_node_Sum [true, true, true, true, true, true, false, true, false, false]) by kernel_rfl]
  exact loop_ok (envok_node_Sum N) mixed (Λ := lam_node_Sum_l1 N) (p := 2036) (obs_ok (l := [(lp_node_Sum_p3 N, (codeAt c_node_Sum [true, true, true, true, true, true, false, true, false, false, true, true, false, false, true, true, true, false, true, true, true, true, true])), (lp_node_Sum_p2 N, (codeAt c_node_Sum [true, true, true, true, true, true, false, true, false, false, true, true, true]))]) (by kernel_rfl) (obsCons (lpok_node_Sum_p3 N ro) (obsCons (lpok_node_Sum_p2 N ro) obsNil))) (by kernel_rfl) (by intro rec v; kernel_rfl) N
noncomputable def cut_node_Sum_l0 : Cut := { tms := [1, 2, 3, 5, 35, 36, 37], sh := (.cons (.ptr 2000000 0) (.cons (.ptr 2000001 0) (.cons (.ptr 2000002 0) (.cons (.ptr 2000003 0) (.cons (.list T_api_Sum) (.cons (.int .i64) (.int .i64))))))), objs := [(2000000, [1], .box (.cons (.list T_api_Pair) (.cons (.list .str) (.cons (.list (.int .i64)) (.cons (.list T_api_Sum) (.list T_api_Msg)))))), (2000001, [2], .box (.cons (.int .i64) (.cons (.int .i64) (.cons (.int .i64) (.int .i64))))), (2000002, [3], .box (.cons (.int .i64) (.cons (.int .i64) (.cons (.int .i64) (.int .i64))))), (2000003, [5], .box (.clo 77 .nil))], sts := [] }
noncomputable def cut_node_Sum_l0_o0 : Cut := { tms := [1, 2, 3, 5], sh := (.cons (.ptr 2000000 0) (.cons (.ptr 2000001 0) (.cons (.ptr 2000002 0) (.ptr 2000003 0)))), objs := [(2000000, [1], .box (.cons (.list T_api_Pair) (.cons (.list .str) (.cons (.list (.int .i64)) (.cons (.list T_api_Sum) (.list T_api_Msg)))))), (2000001, [2], .box (.cons (.int .i64) (.cons (.int .i64) (.cons (.int .i64) (.int .i64))))), (2000002, [3], .box (.cons (.int .i64) (.cons (.int .i64) (.cons (.int .i64) (.int .i64))))), (2000003, [5], .box (.clo 77 .nil))], sts := [] }
noncomputable def lp_node_Sum_l0 (N : Nat) : Lp := lpOf cut_node_Sum_l0 (2, cut_node_Sum_l0_o0) [] (fun v => node_Sum_l0 N N v.1.2.2.2.2.1 v.1.2.2.2.2.2.1 v.1.2.2.2.2.2.2 v.2.1.1 v.2.1.2.1 v.2.1.2.2.1 v.2.1.2.2.2.1 v.2.1.2.2.2.2 v.2.2.1.1 v.2.2.1.2.1 v.2.2.1.2.2.1 v.2.2.1.2.2.2 v.2.2.2.1.1 v.2.2.2.1.2.1 v.2.2.2.1.2.2.1 v.2.2.2.1.2.2.2)
noncomputable def lam_node_Sum_l0 (_ : Nat) : Lps := fun _ => none
theorem lpok_node_Sum_l0 (N : Nat) (ro : Option Nat) : LpOk Tryz.prog 157 ro (lp_node_Sum_l0 N) (codeAt c_node_Sum [true, true, true, true, false, true, false]) := by
  rw [show (codeAt c_node_Sum [true, true, true, true, false, true, false]) = .loop (codeAt c_node_Sum [true, true, true, true, false, true, false, false]) by kernel_rfl]
  exact loop_ok (envok_node_Sum N) mixed (Λ := lam_node_Sum_l0 N) (p := 500) (obs_ok (l := []) (by kernel_rfl) obsNil) (by kernel_rfl) (by intro rec v; kernel_rfl) N
noncomputable def lam_node_Sum (N : Nat) : Lps := fun p => bif Nat.beq p 250 then some (lp_node_Sum_l0 N) else bif Nat.beq p 1018 then some (lp_node_Sum_l1 N) else none
noncomputable def ctr_node_Sum (N : Nat) : Ctr := ctrOf (.val T_api_Node) (.val T_api_Sum) [] (fun v => node_Sum N v)
theorem sound_node_Sum (N : Nat) : SoundF Tryz.prog 25 (fun vs => (ctr_node_Sum N).run vs some) :=
  fn_sound (envok_node_Sum N) mixed (Λ := lam_node_Sum N) (fn := Tryz.f25) (c := c_node_Sum) Tryz.func25 (by kernel_rfl) (by kernel_rfl) (obs_ok (l := [(lp_node_Sum_l0 N, (codeAt c_node_Sum [true, true, true, true, false, true, false])), (lp_node_Sum_l1 N, (codeAt c_node_Sum [true, true, true, true, true, true, false, true, false]))]) (by kernel_rfl) (obsCons (lpok_node_Sum_l0 N none) (obsCons (lpok_node_Sum_l1 N none) obsNil))) (by kernel_rfl) (by intro v; kernel_rfl)
noncomputable def c_node_Check : Code := match Tryz.f23.body with | some c => c | none => .skip
noncomputable def tab_node_Check (_ : Nat) : List (Nat × Ctr) := []
noncomputable def env_node_Check (N : Nat) : Env := mkEnv tyRows eqRows methRows [] [] (tab_node_Check N)
theorem envok_node_Check (N : Nat) : EnvOk Tryz.prog (env_node_Check N) := mkEnv_ok tyRows_ok eqRows_ok methRows_ok trivial
noncomputable def cut_node_Check_l0 : Cut := { tms := [3, 6, 7, 8], sh := (.cons (.int .u64) (.cons (.list (.int .u8)) (.cons (.int .i64) (.int .i64)))), objs := [], sts := [] }
noncomputable def cut_node_Check_l0_o0 : Cut := { tms := [3], sh := (.int .u64), objs := [], sts := [] }
noncomputable def lp_node_Check_l0 (N : Nat) : Lp := lpOf cut_node_Check_l0 (2, cut_node_Check_l0_o0) [] (fun v => node_Check_l0 N N v.1.1 v.1.2.1 v.1.2.2.1 v.1.2.2.2)
noncomputable def lam_node_Check_l0 (_ : Nat) : Lps := fun _ => none
theorem lpok_node_Check_l0 (N : Nat) (ro : Option Nat) : LpOk Tryz.prog 19 ro (lp_node_Check_l0 N) (codeAt c_node_Check [true, true, false, true, false]) := by
  rw [show (codeAt c_node_Check [true, true, false, true, false]) = .loop (codeAt c_node_Check [true, true, false, true, false, false]) by kernel_rfl]
  exact loop_ok (envok_node_Check N) mixed (Λ := lam_node_Check_l0 N) (p := 116) (obs_ok (l := []) (by kernel_rfl) obsNil) (by kernel_rfl) (by intro rec v; kernel_rfl) N
noncomputable def lam_node_Check (N : Nat) : Lps := fun p => bif Nat.beq p 58 then some (lp_node_Check_l0 N) else none
noncomputable def ctr_node_Check (N : Nat) : Ctr := ctrOf (.list (.int .u8)) (.int .u64) [] (fun v => node_Check N v)
theorem sound_node_Check (N : Nat) : SoundF Tryz.prog 23 (fun vs => (ctr_node_Check N).run vs some) :=
  fn_sound (envok_node_Check N) mixed (Λ := lam_node_Check N) (fn := Tryz.f23) (c := c_node_Check) Tryz.func23 (by kernel_rfl) (by kernel_rfl) (obs_ok (l := [(lp_node_Check_l0 N, (codeAt c_node_Check [true, true, false, true, false]))]) (by kernel_rfl) (obsCons (lpok_node_Check_l0 N none) obsNil)) (by kernel_rfl) (by intro v; kernel_rfl)
noncomputable def c_node_Over : Code := match Tryz.f33.body with | some c => c | none => .skip
noncomputable def tab_node_Over (_ : Nat) : List (Nat × Ctr) := []
noncomputable def env_node_Over (N : Nat) : Env := mkEnv tyRows eqRows methRows [] [] (tab_node_Over N)
theorem envok_node_Over (N : Nat) : EnvOk Tryz.prog (env_node_Over N) := mkEnv_ok tyRows_ok eqRows_ok methRows_ok trivial
noncomputable def lam_node_Over (_ : Nat) : Lps := fun _ => none
noncomputable def ctr_node_Over (N : Nat) : Ctr := ctrOf (.cons (.val T_api_Node) (.val T_api_Shape)) .bool [] (fun v => node_Over N v.1 v.2)
theorem sound_node_Over (N : Nat) : SoundF Tryz.prog 33 (fun vs => (ctr_node_Over N).run vs some) :=
  fn_sound (envok_node_Over N) mixed (Λ := lam_node_Over N) (fn := Tryz.f33) (c := c_node_Over) Tryz.func33 (by kernel_rfl) (by kernel_rfl) (obs_ok (l := []) (by kernel_rfl) obsNil) (by kernel_rfl) (by intro v; kernel_rfl)
noncomputable def c_slices_MinFunc_s_span_end_span_end__span_end_compare : Code := match Tryz.f125.body with | some c => c | none => .skip
noncomputable def tab_slices_MinFunc_s_span_end_span_end__span_end_compare (N : Nat) : List (Nat × Ctr) := [(91, ctr_span_end_compare N)]
noncomputable def env_slices_MinFunc_s_span_end_span_end__span_end_compare (N : Nat) : Env := mkEnv tyRows eqRows methRows [] [] (tab_slices_MinFunc_s_span_end_span_end__span_end_compare N)
theorem envok_slices_MinFunc_s_span_end_span_end__span_end_compare (N : Nat) : EnvOk Tryz.prog (env_slices_MinFunc_s_span_end_span_end__span_end_compare N) := mkEnv_ok tyRows_ok eqRows_ok methRows_ok ⟨sound_span_end_compare N, trivial⟩
noncomputable def cut_slices_MinFunc_s_span_end_span_end__span_end_compare_l0 : Cut := { tms := [0, 1, 5, 6], sh := (.cons (.list .str) (.cons (.clo 91 .nil) (.cons .str (.int .i64)))), objs := [], sts := [] }
noncomputable def cut_slices_MinFunc_s_span_end_span_end__span_end_compare_l0_o0 : Cut := { tms := [5], sh := .str, objs := [], sts := [] }
noncomputable def lp_slices_MinFunc_s_span_end_span_end__span_end_compare_l0 (N : Nat) : Lp := lpOf cut_slices_MinFunc_s_span_end_span_end__span_end_compare_l0 (2, cut_slices_MinFunc_s_span_end_span_end__span_end_compare_l0_o0) [] (fun v => slices_MinFunc_s_span_end_span_end__span_end_compare_l0 N N v.1.1 v.1.2.2.1 v.1.2.2.2)
noncomputable def lam_slices_MinFunc_s_span_end_span_end__span_end_compare_l0 (_ : Nat) : Lps := fun _ => none
theorem lpok_slices_MinFunc_s_span_end_span_end__span_end_compare_l0 (N : Nat) (ro : Option Nat) : LpOk Tryz.prog 33 ro (lp_slices_MinFunc_s_span_end_span_end__span_end_compare_l0 N) (codeAt c_slices_MinFunc_s_span_end_span_end__span_end_compare [true, true, true, false, true, false]) := by
  rw [show (codeAt c_slices_MinFunc_s_span_end_span_end__span_end_compare [true, true, true, false, true, false]) = .loop (codeAt c_slices_MinFunc_s_span_end_span_end__span_end_compare [true, true, true, false, true, false, false]) by kernel_rfl]
  exact loop_ok (envok_slices_MinFunc_s_span_end_span_end__span_end_compare N) mixed (Λ := lam_slices_MinFunc_s_span_end_span_end__span_end_compare_l0 N) (p := 244) (obs_ok (l := []) (by kernel_rfl) obsNil) (by kernel_rfl) (by intro rec v; kernel_rfl) N
noncomputable def lam_slices_MinFunc_s_span_end_span_end__span_end_compare (N : Nat) : Lps := fun p => bif Nat.beq p 122 then some (lp_slices_MinFunc_s_span_end_span_end__span_end_compare_l0 N) else none
noncomputable def ctr_slices_MinFunc_s_span_end_span_end__span_end_compare (N : Nat) : Ctr := ctrOf (.cons (.list .str) (.clo 91 .nil)) .str [] (fun v => slices_MinFunc_s_span_end_span_end__span_end_compare N v.1)
theorem sound_slices_MinFunc_s_span_end_span_end__span_end_compare (N : Nat) : SoundF Tryz.prog 125 (fun vs => (ctr_slices_MinFunc_s_span_end_span_end__span_end_compare N).run vs some) :=
  fn_sound (envok_slices_MinFunc_s_span_end_span_end__span_end_compare N) mixed (Λ := lam_slices_MinFunc_s_span_end_span_end__span_end_compare N) (fn := Tryz.f125) (c := c_slices_MinFunc_s_span_end_span_end__span_end_compare) Tryz.func125 (by kernel_rfl) (by kernel_rfl) (obs_ok (l := [(lp_slices_MinFunc_s_span_end_span_end__span_end_compare_l0 N, (codeAt c_slices_MinFunc_s_span_end_span_end__span_end_compare [true, true, true, false, true, false]))]) (by kernel_rfl) (obsCons (lpok_slices_MinFunc_s_span_end_span_end__span_end_compare_l0 N none) obsNil)) (by kernel_rfl) (by intro v; kernel_rfl)
noncomputable def c_span_least : Code := match Tryz.f117.body with | some c => c | none => .skip
noncomputable def tab_span_least (N : Nat) : List (Nat × Ctr) := [(125, ctr_slices_MinFunc_s_span_end_span_end__span_end_compare N)]
noncomputable def env_span_least (N : Nat) : Env := mkEnv tyRows eqRows methRows [] [] (tab_span_least N)
theorem envok_span_least (N : Nat) : EnvOk Tryz.prog (env_span_least N) := mkEnv_ok tyRows_ok eqRows_ok methRows_ok ⟨sound_slices_MinFunc_s_span_end_span_end__span_end_compare N, trivial⟩
noncomputable def lam_span_least (_ : Nat) : Lps := fun _ => none
noncomputable def ctr_span_least (N : Nat) : Ctr := ctrOf (.list .str) .str [] (fun v => span_least N v)
theorem sound_span_least (N : Nat) : SoundF Tryz.prog 117 (fun vs => (ctr_span_least N).run vs some) :=
  fn_sound (envok_span_least N) mixed (Λ := lam_span_least N) (fn := Tryz.f117) (c := c_span_least) Tryz.func117 (by kernel_rfl) (by kernel_rfl) (obs_ok (l := []) (by kernel_rfl) obsNil) (by kernel_rfl) (by intro v; kernel_rfl)
noncomputable def c_span_Meet : Code := match Tryz.f102.body with | some c => c | none => .skip
noncomputable def tab_span_Meet (N : Nat) : List (Nat × Ctr) := [(117, ctr_span_least N), (90, ctr_span_Empty N)]
noncomputable def env_span_Meet (N : Nat) : Env := mkEnv tyRows eqRows methRows [] [] (tab_span_Meet N)
theorem envok_span_Meet (N : Nat) : EnvOk Tryz.prog (env_span_Meet N) := mkEnv_ok tyRows_ok eqRows_ok methRows_ok ⟨sound_span_least N, ⟨sound_span_Empty N, trivial⟩⟩
noncomputable def lam_span_Meet (_ : Nat) : Lps := fun _ => none
noncomputable def ctr_span_Meet (N : Nat) : Ctr := ctrOf (.cons (.val T_api_Span) (.val T_api_Span)) (.val T_api_Span) [] (fun v => span_Meet N v.1 v.2)
theorem sound_span_Meet (N : Nat) : SoundF Tryz.prog 102 (fun vs => (ctr_span_Meet N).run vs some) :=
  fn_sound (envok_span_Meet N) mixed (Λ := lam_span_Meet N) (fn := Tryz.f102) (c := c_span_Meet) Tryz.func102 (by kernel_rfl) (by kernel_rfl) (obs_ok (l := []) (by kernel_rfl) obsNil) (by kernel_rfl) (by intro v; kernel_rfl)
noncomputable def c_span_Parts : Code := match Tryz.f74.body with | some c => c | none => .skip
noncomputable def tab_span_Parts (N : Nat) : List (Nat × Ctr) := [(102, ctr_span_Meet N)]
noncomputable def env_span_Parts (N : Nat) : Env := mkEnv tyRows eqRows methRows [] [] (tab_span_Parts N)
theorem envok_span_Parts (N : Nat) : EnvOk Tryz.prog (env_span_Parts N) := mkEnv_ok tyRows_ok eqRows_ok methRows_ok ⟨sound_span_Meet N, trivial⟩
noncomputable def cut_span_Parts_l0 : Cut := { tms := [2, 5, 6, 9, 10, 11], sh := (.cons (.ptr 2000000 0) (.cons (.own 2000001) (.cons .str (.cons (.list .str) (.cons (.int .i64) (.int .i64)))))), objs := [(2000000, [2], .box (.cons .str .str)), (2000001, [5], .sl T_api_Span)], sts := [] }
noncomputable def cut_span_Parts_l0_o0 : Cut := { tms := [2, 5, 6], sh := (.cons (.ptr 2000000 0) (.cons (.own 2000001) .str)), objs := [(2000000, [2], .box (.cons .str .str)), (2000001, [5], .sl T_api_Span)], sts := [] }
noncomputable def lp_span_Parts_l0 (N : Nat) : Lp := lpOf cut_span_Parts_l0 (2, cut_span_Parts_l0_o0) [] (fun v => span_Parts_l0 N N v.1.2.2.1 v.1.2.2.2.1 v.1.2.2.2.2.1 v.1.2.2.2.2.2 v.2.1.1 v.2.1.2 v.2.2.1)
noncomputable def lam_span_Parts_l0 (_ : Nat) : Lps := fun _ => none
theorem lpok_span_Parts_l0 (N : Nat) (ro : Option Nat) : LpOk Tryz.prog 32 ro (lp_span_Parts_l0 N) (codeAt c_span_Parts [true, true, true, false, true, false]) := by
  rw [show (codeAt c_span_Parts [true, true, true, false, true, false]) = .loop (codeAt c_span_Parts [true, true, true, false, true, false, false]) by kernel_rfl]
  exact loop_ok (envok_span_Parts N) mixed (Λ := lam_span_Parts_l0 N) (p := 244) (obs_ok (l := []) (by kernel_rfl) obsNil) (by kernel_rfl) (by intro rec v; kernel_rfl) N
noncomputable def lam_span_Parts (N : Nat) : Lps := fun p => bif Nat.beq p 122 then some (lp_span_Parts_l0 N) else none
noncomputable def ctr_span_Parts (N : Nat) : Ctr := ctrOf (.cons (.val T_api_Span) (.list .str)) (.fresh T_api_Span) [] (fun v => span_Parts N v.1 v.2)
theorem sound_span_Parts (N : Nat) : SoundF Tryz.prog 74 (fun vs => (ctr_span_Parts N).run vs some) :=
  fn_sound (envok_span_Parts N) mixed (Λ := lam_span_Parts N) (fn := Tryz.f74) (c := c_span_Parts) Tryz.func74 (by kernel_rfl) (by kernel_rfl) (obs_ok (l := [(lp_span_Parts_l0 N, (codeAt c_span_Parts [true, true, true, false, true, false]))]) (by kernel_rfl) (obsCons (lpok_span_Parts_l0 N none) obsNil)) (by kernel_rfl) (by intro v; kernel_rfl)
noncomputable def c_node_Spans : Code := match Tryz.f21.body with | some c => c | none => .skip
noncomputable def tab_node_Spans (N : Nat) : List (Nat × Ctr) := [(74, ctr_span_Parts N)]
noncomputable def env_node_Spans (N : Nat) : Env := mkEnv tyRows eqRows methRows [] [] (tab_node_Spans N)
theorem envok_node_Spans (N : Nat) : EnvOk Tryz.prog (env_node_Spans N) := mkEnv_ok tyRows_ok eqRows_ok methRows_ok ⟨sound_span_Parts N, trivial⟩
noncomputable def lam_node_Spans (_ : Nat) : Lps := fun _ => none
noncomputable def ctr_node_Spans (N : Nat) : Ctr := ctrOf (.cons (.val T_api_Node) (.val T_api_Span)) (.fresh T_api_Span) [] (fun v => node_Spans N v.1 v.2)
theorem sound_node_Spans (N : Nat) : SoundF Tryz.prog 21 (fun vs => (ctr_node_Spans N).run vs some) :=
  fn_sound (envok_node_Spans N) mixed (Λ := lam_node_Spans N) (fn := Tryz.f21) (c := c_node_Spans) Tryz.func21 (by kernel_rfl) (by kernel_rfl) (obs_ok (l := []) (by kernel_rfl) obsNil) (by kernel_rfl) (by intro v; kernel_rfl)
noncomputable def c_ref02_Same : Code := match Tryz.f34.body with | some c => c | none => .skip
noncomputable def tab_ref02_Same (_ : Nat) : List (Nat × Ctr) := []
noncomputable def env_ref02_Same (N : Nat) : Env := mkEnv tyRows eqRows methRows [] [] (tab_ref02_Same N)
theorem envok_ref02_Same (N : Nat) : EnvOk Tryz.prog (env_ref02_Same N) := mkEnv_ok tyRows_ok eqRows_ok methRows_ok trivial
noncomputable def cut_ref02_Same_l0 : Cut := { tms := [0, 1, 5], sh := (.cons (.list T_api_Span) (.cons (.list T_api_Span) (.int .i64))), objs := [], sts := [] }
noncomputable def cut_ref02_Same_l0_o0 : Cut := { tms := [4], sh := .bool, objs := [], sts := [] }
noncomputable def cut_ref02_Same_l0_o1 : Cut := { tms := [], sh := .nil, objs := [], sts := [] }
noncomputable def lp_ref02_Same_l0 (N : Nat) : Lp := lpOf cut_ref02_Same_l0 (1, cut_ref02_Same_l0_o0) [(2, cut_ref02_Same_l0_o1)] (fun v => ref02_Same_l0 N N v.1.1 v.1.2.1 v.1.2.2)
noncomputable def lam_ref02_Same_l0 (_ : Nat) : Lps := fun _ => none
theorem lpok_ref02_Same_l0 (N : Nat) (ro : Option Nat) : LpOk Tryz.prog 26 ro (lp_ref02_Same_l0 N) (codeAt c_ref02_Same [true, true, false, true, false]) := by
  rw [show (codeAt c_ref02_Same [true, true, false, true, false]) = .loop (codeAt c_ref02_Same [true, true, false, true, false, false]) by kernel_rfl]
  exact loop_ok (envok_ref02_Same N) mixed (Λ := lam_ref02_Same_l0 N) (p := 116) (obs_ok (l := []) (by kernel_rfl) obsNil) (by kernel_rfl) (by intro rec v; kernel_rfl) N
noncomputable def lam_ref02_Same (N : Nat) : Lps := fun p => bif Nat.beq p 58 then some (lp_ref02_Same_l0 N) else none
noncomputable def ctr_ref02_Same (N : Nat) : Ctr := ctrOf (.cons (.list T_api_Span) (.list T_api_Span)) .bool [] (fun v => ref02_Same N v.1 v.2)
theorem sound_ref02_Same (N : Nat) : SoundF Tryz.prog 34 (fun vs => (ctr_ref02_Same N).run vs some) :=
  fn_sound (envok_ref02_Same N) mixed (Λ := lam_ref02_Same N) (fn := Tryz.f34) (c := c_ref02_Same) Tryz.func34 (by kernel_rfl) (by kernel_rfl) (obs_ok (l := [(lp_ref02_Same_l0 N, (codeAt c_ref02_Same [true, true, false, true, false]))]) (by kernel_rfl) (obsCons (lpok_ref02_Same_l0 N none) obsNil)) (by kernel_rfl) (by intro v; kernel_rfl)
noncomputable def c_law10_sanity : Code := match Tryz.f9.body with | some c => c | none => .skip
noncomputable def tab_law10_sanity (N : Nat) : List (Nat × Ctr) := [(17, ctr_node_Parse N), (16, ctr_node_Bytes N), (19, ctr_ref05_SameBytes N), (18, ctr_ref10_Same N), (14, ctr_node_Valid N), (25, ctr_node_Sum N), (23, ctr_node_Check N), (33, ctr_node_Over N), (21, ctr_node_Spans N), (34, ctr_ref02_Same N)]
noncomputable def env_law10_sanity (N : Nat) : Env := mkEnv tyRows eqRows methRows [(2000041, [40])] [] (tab_law10_sanity N)
theorem envok_law10_sanity (N : Nat) : EnvOk Tryz.prog (env_law10_sanity N) := mkEnv_ok tyRows_ok eqRows_ok methRows_ok ⟨sound_node_Parse N, ⟨sound_node_Bytes N, ⟨sound_ref05_SameBytes N, ⟨sound_ref10_Same N, ⟨sound_node_Valid N, ⟨sound_node_Sum N, ⟨sound_node_Check N, ⟨sound_node_Over N, ⟨sound_node_Spans N, ⟨sound_ref02_Same N, trivial⟩⟩⟩⟩⟩⟩⟩⟩⟩⟩
noncomputable def cut_law10_sanity_p2 : Cut := { tms := [0], sh := .bool, objs := [], sts := [] }
noncomputable def cut_law10_sanity_p2_o0 : Cut := { tms := [0], sh := .bool, objs := [], sts := [] }
noncomputable def lp_law10_sanity_p2 (N : Nat) : Lp := lpOf cut_law10_sanity_p2 (1, cut_law10_sanity_p2_o0) [] (fun v => law10_sanity_p2 N v.1)
noncomputable def lam_law10_sanity_p2 (_ : Nat) : Lps := fun _ => none
theorem lpok_law10_sanity_p2 (N : Nat) (ro : Option Nat) : LpOk Tryz.prog 152 ro (lp_law10_sanity_p2 N) (codeAt c_law10_sanity [true, true, true, true, true, true, true, true, true, true, true]) :=
  piece_ok (envok_law10_sanity N) mixed (Λ := lam_law10_sanity_p2 N) (p := 4095) (obs_ok (l := []) (by kernel_rfl) obsNil) (by kernel_rfl) (by intro v; kernel_rfl)
noncomputable def cut_law10_sanity_p1 : Cut := { tms := [2, 3, 10, 11], sh := (.cons (.ptr 2000000 0) (.cons (.ptr 2000006 0) (.cons .bool .bool))), objs := [(2000000, [2], .box (.cons (.own 2000001) (.cons (.own 2000002) (.cons (.own 2000003) (.cons (.own 2000004) (.own 2000005)))))), (2000001, [2, 0], .sl T_api_Pair), (2000002, [2, 1], .sl .str), (2000003, [2, 2], .sl (.int .i64)), (2000004, [2, 3], .sl T_api_Sum), (2000005, [2, 4], .sl T_api_Msg), (2000006, [3], .box (.cons (.own 2000007) (.cons (.own 2000008) (.cons (.own 2000009) (.cons (.own 2000010) (.own 2000011)))))), (2000007, [3, 0], .sl T_api_Pair), (2000008, [3, 1], .sl .str), (2000009, [3, 2], .sl (.int .i64)), (2000010, [3, 3], .sl T_api_Sum), (2000011, [3, 4], .sl T_api_Msg)], sts := [] }
noncomputable def cut_law10_sanity_p1_o0 : Cut := { tms := [0], sh := .bool, objs := [], sts := [] }
noncomputable def lp_law10_sanity_p1 (N : Nat) : Lp := lpOf cut_law10_sanity_p1 (1, cut_law10_sanity_p1_o0) [] (fun v => law10_sanity_p1 N v.1.2.2.1 v.1.2.2.2 v.2.2.1 v.2.2.2.1 v.2.2.2.2.1 v.2.2.2.2.2.1 v.2.2.2.2.2.2.1 v.2.2.2.2.2.2.2.2.1 v.2.2.2.2.2.2.2.2.2.1 v.2.2.2.2.2.2.2.2.2.2.1 v.2.2.2.2.2.2.2.2.2.2.2.1 v.2.2.2.2.2.2.2.2.2.2.2.2.1)
noncomputable def lam_law10_sanity_p1 (N : Nat) : Lps := fun p => bif Nat.beq p 4095 then some (lp_law10_sanity_p2 N) else none
theorem lpok_law10_sanity_p1 (N : Nat) (ro : Option Nat) : LpOk Tryz.prog 152 ro (lp_law10_sanity_p1 N) (codeAt c_law10_sanity [true, true, true, true, true, true, true, true, true, true]) :=
  piece_ok (envok_law10_sanity N) mixed (Λ := lam_law10_sanity_p1 N) (p := 2047) (obs_ok (l := [(lp_law10_sanity_p2 N, (codeAt c_law10_sanity [true, true, true, true, true, true, true, true, true, true, true]))]) (by kernel_rfl) (obsCons (lpok_law10_sanity_p2 N ro) obsNil)) (by kernel_rfl) (by intro v; kernel_rfl)
noncomputable def cut_law10_sanity_p0 : Cut := { tms := [2, 3, 4, 5, 10], sh := (.cons (.ptr 2000000 0) (.cons (.ptr 2000006 0) (.cons (.ptr 2000012 0) (.cons (.ptr 2000018 0) .bool)))), objs := [(2000000, [2], .box (.cons (.own 2000001) (.cons (.own 2000002) (.cons (.own 2000003) (.cons (.own 2000004) (.own 2000005)))))), (2000001, [2, 0], .sl T_api_Pair), (2000002, [2, 1], .sl .str), (2000003, [2, 2], .sl (.int .i64)), (2000004, [2, 3], .sl T_api_Sum), (2000005, [2, 4], .sl T_api_Msg), (2000006, [3], .box (.cons (.own 2000007) (.cons (.own 2000008) (.cons (.own 2000009) (.cons (.own 2000010) (.own 2000011)))))), (2000007, [3, 0], .sl T_api_Pair), (2000008, [3, 1], .sl .str), (2000009, [3, 2], .sl (.int .i64)), (2000010, [3, 3], .sl T_api_Sum), (2000011, [3, 4], .sl T_api_Msg), (2000012, [4], .box (.cons (.own 2000013) (.cons (.own 2000014) (.cons (.own 2000015) (.cons (.own 2000016) (.own 2000017)))))), (2000013, [4, 0], .sl T_api_Pair), (2000014, [4, 1], .sl .str), (2000015, [4, 2], .sl (.int .i64)), (2000016, [4, 3], .sl T_api_Sum), (2000017, [4, 4], .sl T_api_Msg), (2000018, [5], .box (.cons (.own 2000019) (.cons (.own 2000020) (.cons (.own 2000021) (.cons (.own 2000022) (.own 2000023)))))), (2000019, [5, 0], .sl T_api_Pair), (2000020, [5, 1], .sl .str), (2000021, [5, 2], .sl (.int .i64)), (2000022, [5, 3], .sl T_api_Sum), (2000023, [5, 4], .sl T_api_Msg)], sts := [] }
noncomputable def cut_law10_sanity_p0_o0 : Cut := { tms := [0], sh := .bool, objs := [], sts := [] }
noncomputable def lp_law10_sanity_p0 (N : Nat) : Lp := lpOf cut_law10_sanity_p0 (1, cut_law10_sanity_p0_o0) [] (fun v => law10_sanity_p0 N v.1.2.2.2.2 v.2.2.1 v.2.2.2.1 v.2.2.2.2.1 v.2.2.2.2.2.1 v.2.2.2.2.2.2.1 v.2.2.2.2.2.2.2.2.1 v.2.2.2.2.2.2.2.2.2.1 v.2.2.2.2.2.2.2.2.2.2.1 v.2.2.2.2.2.2.2.2.2.2.2.1 v.2.2.2.2.2.2.2.2.2.2.2.2.1 v.2.2.2.2.2.2.2.2.2.2.2.2.2.2.1 v.2.2.2.2.2.2.2.2.2.2.2.2.2.2.2.1 v.2.2.2.2.2.2.2.2.2.2.2.2.2.2.2.2.1 v.2.2.2.2.2.2.2.2.2.2.2.2.2.2.2.2.2.1 v.2.2.2.2.2.2.2.2.2.2.2.2.2.2.2.2.2.2.1 v.2.2.2.2.2.2.2.2.2.2.2.2.2.2.2.2.2.2.2.2.1 v.2.2.2.2.2.2.2.2.2.2.2.2.2.2.2.2.2.2.2.2.2.1 v.2.2.2.2.2.2.2.2.2.2.2.2.2.2.2.2.2.2.2.2.2.2.1 v.2.2.2.2.2.2.2.2.2.2.2.2.2.2.2.2.2.2.2.2.2.2.2.1 v.2.2.2.2.2.2.2.2.2.2.2.2.2.2.2.2.2.2.2.2.2.2.2.2.1)
noncomputable def lam_law10_sanity_p0 (N : Nat) : Lps := fun p => bif Nat.beq p 2047 then some (lp_law10_sanity_p1 N) else none
theorem lpok_law10_sanity_p0 (N : Nat) (ro : Option Nat) : LpOk Tryz.prog 152 ro (lp_law10_sanity_p0 N) (codeAt c_law10_sanity [true, true, true, true, true, true, true, true, true]) :=
  piece_ok (envok_law10_sanity N) mixed (Λ := lam_law10_sanity_p0 N) (p := 1023) (obs_ok (l := [(lp_law10_sanity_p1 N, (codeAt c_law10_sanity [true, true, true, true, true, true, true, true, true, true]))]) (by kernel_rfl) (obsCons (lpok_law10_sanity_p1 N ro) obsNil)) (by kernel_rfl) (by intro v; kernel_rfl)
noncomputable def lam_law10_sanity (N : Nat) : Lps := fun p => bif Nat.beq p 1023 then some (lp_law10_sanity_p0 N) else none
noncomputable def ctr_law10_sanity (N : Nat) : Ctr := ctrOf .nil .bool [] (fun _ => law10_sanity N)
theorem sound_law10_sanity (N : Nat) : SoundF Tryz.prog 9 (fun vs => (ctr_law10_sanity N).run vs some) :=
  fn_sound (envok_law10_sanity N) mixed (Λ := lam_law10_sanity N) (fn := Tryz.f9) (c := c_law10_sanity) Tryz.func9 (by kernel_rfl) (by kernel_rfl) (obs_ok (l := [(lp_law10_sanity_p0 N, (codeAt c_law10_sanity [true, true, true, true, true, true, true, true, true]))]) (by kernel_rfl) (obsCons (lpok_law10_sanity_p0 N none) obsNil)) (by kernel_rfl) (by intro v; kernel_rfl)
noncomputable def c_ref04_Key : Code := match Tryz.f13.body with | some c => c | none => .skip
noncomputable def tab_ref04_Key (_ : Nat) : List (Nat × Ctr) := []
noncomputable def env_ref04_Key (N : Nat) : Env := mkEnv tyRows eqRows methRows [] [] (tab_ref04_Key N)
theorem envok_ref04_Key (N : Nat) : EnvOk Tryz.prog (env_ref04_Key N) := mkEnv_ok tyRows_ok eqRows_ok methRows_ok trivial
noncomputable def lam_ref04_Key (_ : Nat) : Lps := fun _ => none
noncomputable def ctr_ref04_Key (N : Nat) : Ctr := ctrOf (.int .u8) .str [] (fun v => ref04_Key N v)
theorem sound_ref04_Key (N : Nat) : SoundF Tryz.prog 13 (fun vs => (ctr_ref04_Key N).run vs some) :=
  fn_sound (envok_ref04_Key N) mixed (Λ := lam_ref04_Key N) (fn := Tryz.f13) (c := c_ref04_Key) Tryz.func13 (by kernel_rfl) (by kernel_rfl) (obs_ok (l := []) (by kernel_rfl) obsNil) (by kernel_rfl) (by intro v; kernel_rfl)
noncomputable def c_ref04_Pair : Code := match Tryz.f76.body with | some c => c | none => .skip
noncomputable def tab_ref04_Pair (N : Nat) : List (Nat × Ctr) := [(13, ctr_ref04_Key N)]
noncomputable def env_ref04_Pair (N : Nat) : Env := mkEnv tyRows eqRows methRows [] [] (tab_ref04_Pair N)
theorem envok_ref04_Pair (N : Nat) : EnvOk Tryz.prog (env_ref04_Pair N) := mkEnv_ok tyRows_ok eqRows_ok methRows_ok ⟨sound_ref04_Key N, trivial⟩
noncomputable def lam_ref04_Pair (_ : Nat) : Lps := fun _ => none
noncomputable def ctr_ref04_Pair (N : Nat) : Ctr := ctrOf (.val T_ref04_Raw) (.val T_api_Pair) [] (fun v => ref04_Pair N v)
theorem sound_ref04_Pair (N : Nat) : SoundF Tryz.prog 76 (fun vs => (ctr_ref04_Pair N).run vs some) :=
  fn_sound (envok_ref04_Pair N) mixed (Λ := lam_ref04_Pair N) (fn := Tryz.f76) (c := c_ref04_Pair) Tryz.func76 (by kernel_rfl) (by kernel_rfl) (obs_ok (l := []) (by kernel_rfl) obsNil) (by kernel_rfl) (by intro v; kernel_rfl)
noncomputable def c_ref04_Put : Code := match Tryz.f75.body with | some c => c | none => .skip
noncomputable def tab_ref04_Put (_ : Nat) : List (Nat × Ctr) := []
noncomputable def env_ref04_Put (N : Nat) : Env := mkEnv tyRows eqRows methRows [] [] (tab_ref04_Put N)
theorem envok_ref04_Put (N : Nat) : EnvOk Tryz.prog (env_ref04_Put N) := mkEnv_ok tyRows_ok eqRows_ok methRows_ok trivial
noncomputable def cut_ref04_Put_p1 : Cut := { tms := [0, 3, 5, 6, 7], sh := (.cons (.list T_api_Pair) (.cons (.ptr 2000000 0) (.cons (.own 2000001) (.cons .bool (.int .i64))))), objs := [(2000000, [3], .box (.cons .str (.cons .str (.int .i64)))), (2000001, [5], .sl T_api_Pair)], sts := [] }
noncomputable def cut_ref04_Put_p1_o0 : Cut := { tms := [0, 3, 5, 6, 7], sh := (.cons (.list T_api_Pair) (.cons (.ptr 2000000 0) (.cons (.own 2000001) (.cons .bool (.int .i64))))), objs := [(2000000, [3], .box (.cons .str (.cons .str (.int .i64)))), (2000001, [5], .sl T_api_Pair)], sts := [] }
noncomputable def lp_ref04_Put_p1 (N : Nat) : Lp := lpOf cut_ref04_Put_p1 (0, cut_ref04_Put_p1_o0) [] (fun v => ref04_Put_p1 N v.1.1 v.1.2.2.2.1 v.1.2.2.2.2 v.2.1.1 v.2.1.2.1 v.2.1.2.2 v.2.2.1)
noncomputable def lam_ref04_Put_p1 (_ : Nat) : Lps := fun _ => none
theorem lpok_ref04_Put_p1 (N : Nat) (ro : Option Nat) : LpOk Tryz.prog 53 ro (lp_ref04_Put_p1 N) (codeAt c_ref04_Put [true, true, false, true, false, false, true, false, false, true]) :=
  piece_ok (envok_ref04_Put N) mixed (Λ := lam_ref04_Put_p1 N) (p := 1865) (obs_ok (l := []) (by kernel_rfl) obsNil) (by kernel_rfl) (by intro v; kernel_rfl)
noncomputable def cut_ref04_Put_l0 : Cut := { tms := [0, 3, 5, 6, 7], sh := (.cons (.list T_api_Pair) (.cons (.ptr 2000000 0) (.cons (.own 2000001) (.cons .bool (.int .i64))))), objs := [(2000000, [3], .box (.cons .str (.cons .str (.int .i64)))), (2000001, [5], .sl T_api_Pair)], sts := [] }
noncomputable def cut_ref04_Put_l0_o0 : Cut := { tms := [3, 5, 6], sh := (.cons (.ptr 2000000 0) (.cons (.own 2000001) .bool)), objs := [(2000000, [3], .box (.cons .str (.cons .str (.int .i64)))), (2000001, [5], .sl T_api_Pair)], sts := [] }
noncomputable def lp_ref04_Put_l0 (N : Nat) : Lp := lpOf cut_ref04_Put_l0 (2, cut_ref04_Put_l0_o0) [] (fun v => ref04_Put_l0 N N v.1.1 v.1.2.2.2.1 v.1.2.2.2.2 v.2.1.1 v.2.1.2.1 v.2.1.2.2 v.2.2.1)
noncomputable def lam_ref04_Put_l0 (N : Nat) : Lps := fun p => bif Nat.beq p 1865 then some (lp_ref04_Put_p1 N) else none
theorem lpok_ref04_Put_l0 (N : Nat) (ro : Option Nat) : LpOk Tryz.prog 53 ro (lp_ref04_Put_l0 N) (codeAt c_ref04_Put [true, true, false, true, false]) := by
  rw [show (codeAt c_ref04_Put [true, true, false, true, false]) = .loop (codeAt c_ref04_Put [true, true, false, true, false, false]) by kernel_rfl]
  exact loop_ok (envok_ref04_Put N) mixed (Λ := lam_ref04_Put_l0 N) (p := 116) (obs_ok (l := [(lp_ref04_Put_p1 N, (codeAt c_ref04_Put [true, true, false, true, false, false, true, false, false, true]))]) (by kernel_rfl) (obsCons (lpok_ref04_Put_p1 N ro) obsNil)) (by kernel_rfl) (by intro rec v; kernel_rfl) N
noncomputable def lam_ref04_Put (N : Nat) : Lps := fun p => bif Nat.beq p 58 then some (lp_ref04_Put_l0 N) else none
noncomputable def ctr_ref04_Put (N : Nat) : Ctr := ctrOf (.cons (.list T_api_Pair) (.val T_api_Pair)) (.fresh T_api_Pair) [] (fun v => ref04_Put N v.1 v.2)
theorem sound_ref04_Put (N : Nat) : SoundF Tryz.prog 75 (fun vs => (ctr_ref04_Put N).run vs some) :=
  fn_sound (envok_ref04_Put N) mixed (Λ := lam_ref04_Put N) (fn := Tryz.f75) (c := c_ref04_Put) Tryz.func75 (by kernel_rfl) (by kernel_rfl) (obs_ok (l := [(lp_ref04_Put_l0 N, (codeAt c_ref04_Put [true, true, false, true, false]))]) (by kernel_rfl) (obsCons (lpok_ref04_Put_l0 N none) obsNil)) (by kernel_rfl) (by intro v; kernel_rfl)
noncomputable def c_ref04_Made : Code := match Tryz.f24.body with | some c => c | none => .skip
noncomputable def tab_ref04_Made (N : Nat) : List (Nat × Ctr) := [(76, ctr_ref04_Pair N), (75, ctr_ref04_Put N)]
noncomputable def env_ref04_Made (N : Nat) : Env := mkEnv tyRows eqRows methRows [] [] (tab_ref04_Made N)
theorem envok_ref04_Made (N : Nat) : EnvOk Tryz.prog (env_ref04_Made N) := mkEnv_ok tyRows_ok eqRows_ok methRows_ok ⟨sound_ref04_Pair N, ⟨sound_ref04_Put N, trivial⟩⟩
noncomputable def cut_ref04_Made_l0 : Cut := { tms := [0, 3, 4], sh := (.cons (.list T_ref04_Raw) (.cons (.own 2000000) (.int .i64))), objs := [(2000000, [3], .sl T_api_Pair)], sts := [] }
noncomputable def cut_ref04_Made_l0_o0 : Cut := { tms := [3], sh := (.own 2000000), objs := [(2000000, [3], .sl T_api_Pair)], sts := [] }
noncomputable def lp_ref04_Made_l0 (N : Nat) : Lp := lpOf cut_ref04_Made_l0 (2, cut_ref04_Made_l0_o0) [] (fun v => ref04_Made_l0 N N v.1.1 v.1.2.2 v.2.1)
noncomputable def lam_ref04_Made_l0 (_ : Nat) : Lps := fun _ => none
theorem lpok_ref04_Made_l0 (N : Nat) (ro : Option Nat) : LpOk Tryz.prog 24 ro (lp_ref04_Made_l0 N) (codeAt c_ref04_Made [true, true, false, true, false]) := by
  rw [show (codeAt c_ref04_Made [true, true, false, true, false]) = .loop (codeAt c_ref04_Made [true, true, false, true, false, false]) by kernel_rfl]
  exact loop_ok (envok_ref04_Made N) mixed (Λ := lam_ref04_Made_l0 N) (p := 116) (obs_ok (l := []) (by kernel_rfl) obsNil) (by kernel_rfl) (by intro rec v; kernel_rfl) N
noncomputable def lam_ref04_Made (N : Nat) : Lps := fun p => bif Nat.beq p 58 then some (lp_ref04_Made_l0 N) else none
noncomputable def ctr_ref04_Made (N : Nat) : Ctr := ctrOf (.list T_ref04_Raw) (.fresh T_api_Pair) [] (fun v => ref04_Made N v)
theorem sound_ref04_Made (N : Nat) : SoundF Tryz.prog 24 (fun vs => (ctr_ref04_Made N).run vs some) :=
  fn_sound (envok_ref04_Made N) mixed (Λ := lam_ref04_Made N) (fn := Tryz.f24) (c := c_ref04_Made) Tryz.func24 (by kernel_rfl) (by kernel_rfl) (obs_ok (l := [(lp_ref04_Made_l0 N, (codeAt c_ref04_Made [true, true, false, true, false]))]) (by kernel_rfl) (obsCons (lpok_ref04_Made_l0 N none) obsNil)) (by kernel_rfl) (by intro v; kernel_rfl)
noncomputable def c_ref02_Pivots : Code := match Tryz.f35.body with | some c => c | none => .skip
noncomputable def tab_ref02_Pivots (_ : Nat) : List (Nat × Ctr) := []
noncomputable def env_ref02_Pivots (N : Nat) : Env := mkEnv tyRows eqRows methRows [] [] (tab_ref02_Pivots N)
theorem envok_ref02_Pivots (N : Nat) : EnvOk Tryz.prog (env_ref02_Pivots N) := mkEnv_ok tyRows_ok eqRows_ok methRows_ok trivial
noncomputable def cut_ref02_Pivots_l1 : Cut := { tms := [0, 3, 4, 5, 6, 7], sh := (.cons (.list .str) (.cons (.own 2000000) (.cons (.int .i64) (.cons (.own 2000001) (.cons .bool (.int .i64)))))), objs := [(2000000, [3], .sl .str), (2000001, [5], .sl .str)], sts := [] }
noncomputable def cut_ref02_Pivots_l1_o0 : Cut := { tms := [0, 4, 5, 6], sh := (.cons (.list .str) (.cons (.int .i64) (.cons (.own 2000000) .bool))), objs := [(2000000, [5], .sl .str)], sts := [] }
noncomputable def lp_ref02_Pivots_l1 (N : Nat) : Lp := lpOf cut_ref02_Pivots_l1 (4, cut_ref02_Pivots_l1_o0) [] (fun v => ref02_Pivots_l1 N N v.1.1 v.1.2.2.1 v.1.2.2.2.2.1 v.1.2.2.2.2.2 v.2.1 v.2.2.1)
noncomputable def lam_ref02_Pivots_l1 (_ : Nat) : Lps := fun _ => none
theorem lpok_ref02_Pivots_l1 (N : Nat) (ro : Option Nat) : LpOk Tryz.prog 74 ro (lp_ref02_Pivots_l1 N) (codeAt c_ref02_Pivots [true, true, false, true, false, false, true, false, false, true, false, true, false]) := by
  rw [show (codeAt c_ref02_Pivots [true, true, false, true, false, false, true, false, false, true, false, true, false]) = .loop (codeAt c_ref02_Pivots [true, true, false, true, false, false, true, false, false, true, false, true, false, false]) by kernel_rfl]
  exact loop_ok (envok_ref02_Pivots N) mixed (Λ := lam_ref02_Pivots_l1 N) (p := 29844) (obs_ok (l := []) (by kernel_rfl) obsNil) (by kernel_rfl) (by intro rec v; kernel_rfl) N
noncomputable def cut_ref02_Pivots_l0 : Cut := { tms := [0, 3, 4], sh := (.cons (.list .str) (.cons (.own 2000000) (.int .i64))), objs := [(2000000, [3], .sl .str)], sts := [] }
noncomputable def cut_ref02_Pivots_l0_o0 : Cut := { tms := [3], sh := (.own 2000000), objs := [(2000000, [3], .sl .str)], sts := [] }
noncomputable def lp_ref02_Pivots_l0 (N : Nat) : Lp := lpOf cut_ref02_Pivots_l0 (2, cut_ref02_Pivots_l0_o0) [] (fun v => ref02_Pivots_l0 N N v.1.1 v.1.2.2 v.2.1)
noncomputable def lam_ref02_Pivots_l0 (N : Nat) : Lps := fun p => bif Nat.beq p 14922 then some (lp_ref02_Pivots_l1 N) else none
theorem lpok_ref02_Pivots_l0 (N : Nat) (ro : Option Nat) : LpOk Tryz.prog 74 ro (lp_ref02_Pivots_l0 N) (codeAt c_ref02_Pivots [true, true, false, true, false]) := by
  rw [show (codeAt c_ref02_Pivots [true, true, false, true, false]) = .loop (codeAt c_ref02_Pivots [true, true, false, true, false, false]) by kernel_rfl]
  exact loop_ok (envok_ref02_Pivots N) mixed (Λ := lam_ref02_Pivots_l0 N) (p := 116) (obs_ok (l := [(lp_ref02_Pivots_l1 N, (codeAt c_ref02_Pivots [true, true, false, true, false, false, true, false, false, true, false, true, false]))]) (by kernel_rfl) (obsCons (lpok_ref02_Pivots_l1 N ro) obsNil)) (by kernel_rfl) (by intro rec v; kernel_rfl) N
noncomputable def lam_ref02_Pivots (N : Nat) : Lps := fun p => bif Nat.beq p 58 then some (lp_ref02_Pivots_l0 N) else none
noncomputable def ctr_ref02_Pivots (N : Nat) : Ctr := ctrOf (.list .str) (.fresh .str) [] (fun v => ref02_Pivots N v)
theorem sound_ref02_Pivots (N : Nat) : SoundF Tryz.prog 35 (fun vs => (ctr_ref02_Pivots N).run vs some) :=
  fn_sound (envok_ref02_Pivots N) mixed (Λ := lam_ref02_Pivots N) (fn := Tryz.f35) (c := c_ref02_Pivots) Tryz.func35 (by kernel_rfl) (by kernel_rfl) (obs_ok (l := [(lp_ref02_Pivots_l0 N, (codeAt c_ref02_Pivots [true, true, false, true, false]))]) (by kernel_rfl) (obsCons (lpok_ref02_Pivots_l0 N none) obsNil)) (by kernel_rfl) (by intro v; kernel_rfl)
noncomputable def c_ref05_Path : Code := match Tryz.f110.body with | some c => c | none => .skip
noncomputable def tab_ref05_Path (_ : Nat) : List (Nat × Ctr) := []
noncomputable def env_ref05_Path (N : Nat) : Env := mkEnv tyRows eqRows methRows [] [] (tab_ref05_Path N)
theorem envok_ref05_Path (N : Nat) : EnvOk Tryz.prog (env_ref05_Path N) := mkEnv_ok tyRows_ok eqRows_ok methRows_ok trivial
noncomputable def lam_ref05_Path (_ : Nat) : Lps := fun _ => none
noncomputable def ctr_ref05_Path (N : Nat) : Ctr := ctrOf (.int .u8) .str [] (fun v => ref05_Path N v)
theorem sound_ref05_Path (N : Nat) : SoundF Tryz.prog 110 (fun vs => (ctr_ref05_Path N).run vs some) :=
  fn_sound (envok_ref05_Path N) mixed (Λ := lam_ref05_Path N) (fn := Tryz.f110) (c := c_ref05_Path) Tryz.func110 (by kernel_rfl) (by kernel_rfl) (obs_ok (l := []) (by kernel_rfl) obsNil) (by kernel_rfl) (by intro v; kernel_rfl)
noncomputable def c_ref05_Key : Code := match Tryz.f108.body with | some c => c | none => .skip
noncomputable def tab_ref05_Key (N : Nat) : List (Nat × Ctr) := [(110, ctr_ref05_Path N)]
noncomputable def env_ref05_Key (N : Nat) : Env := mkEnv tyRows eqRows methRows [] [] (tab_ref05_Key N)
theorem envok_ref05_Key (N : Nat) : EnvOk Tryz.prog (env_ref05_Key N) := mkEnv_ok tyRows_ok eqRows_ok methRows_ok ⟨sound_ref05_Path N, trivial⟩
noncomputable def lam_ref05_Key (_ : Nat) : Lps := fun _ => none
noncomputable def ctr_ref05_Key (N : Nat) : Ctr := ctrOf (.int .u8) .str [] (fun v => ref05_Key N v)
theorem sound_ref05_Key (N : Nat) : SoundF Tryz.prog 108 (fun vs => (ctr_ref05_Key N).run vs some) :=
  fn_sound (envok_ref05_Key N) mixed (Λ := lam_ref05_Key N) (fn := Tryz.f108) (c := c_ref05_Key) Tryz.func108 (by kernel_rfl) (by kernel_rfl) (obs_ok (l := []) (by kernel_rfl) obsNil) (by kernel_rfl) (by intro v; kernel_rfl)
noncomputable def c_ref02_Prefix : Code := match Tryz.f109.body with | some c => c | none => .skip
noncomputable def tab_ref02_Prefix (_ : Nat) : List (Nat × Ctr) := []
noncomputable def env_ref02_Prefix (N : Nat) : Env := mkEnv tyRows eqRows methRows [] [] (tab_ref02_Prefix N)
theorem envok_ref02_Prefix (N : Nat) : EnvOk Tryz.prog (env_ref02_Prefix N) := mkEnv_ok tyRows_ok eqRows_ok methRows_ok trivial
noncomputable def cut_ref02_Prefix_l0 : Cut := { tms := [0, 2, 3], sh := (.cons .str (.cons (.ptr 2000000 0) (.int .i64))), objs := [(2000000, [2], .box (.cons .str .str))], sts := [] }
noncomputable def cut_ref02_Prefix_l0_o0 : Cut := { tms := [0, 2, 3], sh := (.cons .str (.cons (.ptr 2000000 0) (.int .i64))), objs := [(2000000, [2], .box (.cons .str .str))], sts := [] }
noncomputable def lp_ref02_Prefix_l0 (N : Nat) : Lp := lpOf cut_ref02_Prefix_l0 (2, cut_ref02_Prefix_l0_o0) [] (fun v => ref02_Prefix_l0 N N v.1.1 v.1.2.2 v.2.1.1 v.2.1.2)
noncomputable def lam_ref02_Prefix_l0 (_ : Nat) : Lps := fun _ => none
theorem lpok_ref02_Prefix_l0 (N : Nat) (ro : Option Nat) : LpOk Tryz.prog 35 ro (lp_ref02_Prefix_l0 N) (codeAt c_ref02_Prefix [true, true, false, false]) := by
  rw [show (codeAt c_ref02_Prefix [true, true, false, false]) = .loop (codeAt c_ref02_Prefix [true, true, false, false, false]) by kernel_rfl]
  exact loop_ok (envok_ref02_Prefix N) mixed (Λ := lam_ref02_Prefix_l0 N) (p := 56) (obs_ok (l := []) (by kernel_rfl) obsNil) (by kernel_rfl) (by intro rec v; kernel_rfl) N
noncomputable def lam_ref02_Prefix (N : Nat) : Lps := fun p => bif Nat.beq p 28 then some (lp_ref02_Prefix_l0 N) else none
noncomputable def ctr_ref02_Prefix (N : Nat) : Ctr := ctrOf .str (.val T_api_Span) [] (fun v => ref02_Prefix N v)
theorem sound_ref02_Prefix (N : Nat) : SoundF Tryz.prog 109 (fun vs => (ctr_ref02_Prefix N).run vs some) :=
  fn_sound (envok_ref02_Prefix N) mixed (Λ := lam_ref02_Prefix N) (fn := Tryz.f109) (c := c_ref02_Prefix) Tryz.func109 (by kernel_rfl) (by kernel_rfl) (obs_ok (l := [(lp_ref02_Prefix_l0 N, (codeAt c_ref02_Prefix [true, true, false, false]))]) (by kernel_rfl) (obsCons (lpok_ref02_Prefix_l0 N none) obsNil)) (by kernel_rfl) (by intro v; kernel_rfl)
noncomputable def c_ref02_Begins : Code := match Tryz.f86.body with | some c => c | none => .skip
noncomputable def tab_ref02_Begins (_ : Nat) : List (Nat × Ctr) := []
noncomputable def env_ref02_Begins (N : Nat) : Env := mkEnv tyRows eqRows methRows [] [] (tab_ref02_Begins N)
theorem envok_ref02_Begins (N : Nat) : EnvOk Tryz.prog (env_ref02_Begins N) := mkEnv_ok tyRows_ok eqRows_ok methRows_ok trivial
noncomputable def lam_ref02_Begins (_ : Nat) : Lps := fun _ => none
noncomputable def ctr_ref02_Begins (N : Nat) : Ctr := ctrOf (.cons .str .str) .bool [] (fun v => ref02_Begins N v.1 v.2)
theorem sound_ref02_Begins (N : Nat) : SoundF Tryz.prog 86 (fun vs => (ctr_ref02_Begins N).run vs some) :=
  fn_sound (envok_ref02_Begins N) mixed (Λ := lam_ref02_Begins N) (fn := Tryz.f86) (c := c_ref02_Begins) Tryz.func86 (by kernel_rfl) (by kernel_rfl) (obs_ok (l := []) (by kernel_rfl) obsNil) (by kernel_rfl) (by intro v; kernel_rfl)
noncomputable def c_ref05_Value : Code := match Tryz.f112.body with | some c => c | none => .skip
noncomputable def tab_ref05_Value (_ : Nat) : List (Nat × Ctr) := []
noncomputable def env_ref05_Value (N : Nat) : Env := mkEnv tyRows eqRows methRows [] [] (tab_ref05_Value N)
theorem envok_ref05_Value (N : Nat) : EnvOk Tryz.prog (env_ref05_Value N) := mkEnv_ok tyRows_ok eqRows_ok methRows_ok trivial
noncomputable def lam_ref05_Value (_ : Nat) : Lps := fun _ => none
noncomputable def ctr_ref05_Value (N : Nat) : Ctr := ctrOf (.int .u8) .str [] (fun v => ref05_Value N v)
theorem sound_ref05_Value (N : Nat) : SoundF Tryz.prog 112 (fun vs => (ctr_ref05_Value N).run vs some) :=
  fn_sound (envok_ref05_Value N) mixed (Λ := lam_ref05_Value N) (fn := Tryz.f112) (c := c_ref05_Value) Tryz.func112 (by kernel_rfl) (by kernel_rfl) (obs_ok (l := []) (by kernel_rfl) obsNil) (by kernel_rfl) (by intro v; kernel_rfl)
noncomputable def c_ref02_One : Code := match Tryz.f111.body with | some c => c | none => .skip
noncomputable def tab_ref02_One (_ : Nat) : List (Nat × Ctr) := []
noncomputable def env_ref02_One (N : Nat) : Env := mkEnv tyRows eqRows methRows [] [] (tab_ref02_One N)
theorem envok_ref02_One (N : Nat) : EnvOk Tryz.prog (env_ref02_One N) := mkEnv_ok tyRows_ok eqRows_ok methRows_ok trivial
noncomputable def lam_ref02_One (_ : Nat) : Lps := fun _ => none
noncomputable def ctr_ref02_One (N : Nat) : Ctr := ctrOf .str (.val T_api_Span) [] (fun v => ref02_One N v)
theorem sound_ref02_One (N : Nat) : SoundF Tryz.prog 111 (fun vs => (ctr_ref02_One N).run vs some) :=
  fn_sound (envok_ref02_One N) mixed (Λ := lam_ref02_One N) (fn := Tryz.f111) (c := c_ref02_One) Tryz.func111 (by kernel_rfl) (by kernel_rfl) (obs_ok (l := []) (by kernel_rfl) obsNil) (by kernel_rfl) (by intro v; kernel_rfl)
noncomputable def c_ref05_Made : Code := match Tryz.f88.body with | some c => c | none => .skip
noncomputable def tab_ref05_Made (N : Nat) : List (Nat × Ctr) := [(108, ctr_ref05_Key N), (110, ctr_ref05_Path N), (109, ctr_ref02_Prefix N), (86, ctr_ref02_Begins N), (112, ctr_ref05_Value N), (111, ctr_ref02_One N)]
noncomputable def env_ref05_Made (N : Nat) : Env := mkEnv tyRows eqRows methRows [] [] (tab_ref05_Made N)
theorem envok_ref05_Made (N : Nat) : EnvOk Tryz.prog (env_ref05_Made N) := mkEnv_ok tyRows_ok eqRows_ok methRows_ok ⟨sound_ref05_Key N, ⟨sound_ref05_Path N, ⟨sound_ref02_Prefix N, ⟨sound_ref02_Begins N, ⟨sound_ref05_Value N, ⟨sound_ref02_One N, trivial⟩⟩⟩⟩⟩⟩
noncomputable def cut_ref05_Made_p1 : Cut := { tms := [1, 2, 3, 5, 6, 7], sh := (.cons (.ptr 2000000 0) (.cons (.ptr 2000001 0) (.cons .str (.cons (.ptr 2000002 0) (.cons .str .str))))), objs := [(2000000, [1], .box (.cons (.int .u8) (.cons (.int .u8) (.cons (.int .u8) (.cons (.int .u8) (.cons (.int .u8) (.int .u8))))))), (2000001, [2], .box (.cons (.int .i64) (.cons .str (.cons .str (.cons .str (.cons .str (.cons .str (.cons .str (.int .i64))))))))), (2000002, [5], .box (.cons .str .str))], sts := [] }
noncomputable def cut_ref05_Made_p1_o0 : Cut := { tms := [2], sh := (.ptr 2000000 0), objs := [(2000000, [2], .box (.cons (.int .i64) (.cons .str (.cons .str (.cons .str (.cons .str (.cons .str (.cons .str (.int .i64)))))))))], sts := [] }
noncomputable def lp_ref05_Made_p1 (N : Nat) : Lp := lpOf cut_ref05_Made_p1 (1, cut_ref05_Made_p1_o0) [] (fun v => ref05_Made_p1 N v.1.2.2.1 v.1.2.2.2.2.1 v.1.2.2.2.2.2 v.2.1.1 v.2.1.2.1 v.2.1.2.2.1 v.2.1.2.2.2.1 v.2.1.2.2.2.2.1 v.2.1.2.2.2.2.2 v.2.2.1.1 v.2.2.1.2.1 v.2.2.1.2.2.1 v.2.2.1.2.2.2.1 v.2.2.1.2.2.2.2.1 v.2.2.1.2.2.2.2.2.1 v.2.2.1.2.2.2.2.2.2.1 v.2.2.1.2.2.2.2.2.2.2 v.2.2.2.1.1 v.2.2.2.1.2)
noncomputable def lam_ref05_Made_p1 (_ : Nat) : Lps := fun _ => none
theorem lpok_ref05_Made_p1 (N : Nat) (ro : Option Nat) : LpOk Tryz.prog 102 ro (lp_ref05_Made_p1 N) (codeAt c_ref05_Made [true, true, true, true, true, true]) :=
  piece_ok (envok_ref05_Made N) mixed (Λ := lam_ref05_Made_p1 N) (p := 127) (obs_ok (l := []) (by kernel_rfl) obsNil) (by kernel_rfl) (by intro v; kernel_rfl)
noncomputable def cut_ref05_Made_p0 : Cut := { tms := [1, 2, 3, 5], sh := (.cons (.ptr 2000000 0) (.cons (.ptr 2000001 0) (.cons .str (.ptr 2000002 0)))), objs := [(2000000, [1], .box (.cons (.int .u8) (.cons (.int .u8) (.cons (.int .u8) (.cons (.int .u8) (.cons (.int .u8) (.int .u8))))))), (2000001, [2], .box (.cons (.int .i64) (.cons .str (.cons .str (.cons .str (.cons .str (.cons .str (.cons .str (.int .i64))))))))), (2000002, [5], .box (.cons .str .str))], sts := [] }
noncomputable def cut_ref05_Made_p0_o0 : Cut := { tms := [2], sh := (.ptr 2000000 0), objs := [(2000000, [2], .box (.cons (.int .i64) (.cons .str (.cons .str (.cons .str (.cons .str (.cons .str (.cons .str (.int .i64)))))))))], sts := [] }
noncomputable def lp_ref05_Made_p0 (N : Nat) : Lp := lpOf cut_ref05_Made_p0 (1, cut_ref05_Made_p0_o0) [] (fun v => ref05_Made_p0 N v.1.2.2.1 v.2.1.1 v.2.1.2.1 v.2.1.2.2.1 v.2.1.2.2.2.1 v.2.1.2.2.2.2.1 v.2.1.2.2.2.2.2 v.2.2.1.1 v.2.2.1.2.1 v.2.2.1.2.2.1 v.2.2.1.2.2.2.1 v.2.2.1.2.2.2.2.1 v.2.2.1.2.2.2.2.2.1 v.2.2.1.2.2.2.2.2.2.1 v.2.2.1.2.2.2.2.2.2.2 v.2.2.2.1.1 v.2.2.2.1.2)
noncomputable def lam_ref05_Made_p0 (N : Nat) : Lps := fun p => bif Nat.beq p 127 then some (lp_ref05_Made_p1 N) else none
theorem lpok_ref05_Made_p0 (N : Nat) (ro : Option Nat) : LpOk Tryz.prog 102 ro (lp_ref05_Made_p0 N) (codeAt c_ref05_Made [true, true, true, true]) :=
  piece_ok (envok_ref05_Made N) mixed (Λ := lam_ref05_Made_p0 N) (p := 31) (obs_ok (l := [(lp_ref05_Made_p1 N, (codeAt c_ref05_Made [true, true, true, true, true, true]))]) (by kernel_rfl) (obsCons (lpok_ref05_Made_p1 N ro) obsNil)) (by kernel_rfl) (by intro v; kernel_rfl)
noncomputable def lam_ref05_Made (N : Nat) : Lps := fun p => bif Nat.beq p 31 then some (lp_ref05_Made_p0 N) else none
noncomputable def ctr_ref05_Made (N : Nat) : Ctr := ctrOf (.val T_ref05_Raw) (.val T_api_Msg) [] (fun v => ref05_Made N v)
theorem sound_ref05_Made (N : Nat) : SoundF Tryz.prog 88 (fun vs => (ctr_ref05_Made N).run vs some) :=
  fn_sound (envok_ref05_Made N) mixed (Λ := lam_ref05_Made N) (fn := Tryz.f88) (c := c_ref05_Made) Tryz.func88 (by kernel_rfl) (by kernel_rfl) (obs_ok (l := [(lp_ref05_Made_p0 N, (codeAt c_ref05_Made [true, true, true, true]))]) (by kernel_rfl) (obsCons (lpok_ref05_Made_p0 N none) obsNil)) (by kernel_rfl) (by intro v; kernel_rfl)
noncomputable def c_ref05_List : Code := match Tryz.f36.body with | some c => c | none => .skip
noncomputable def tab_ref05_List (N : Nat) : List (Nat × Ctr) := [(88, ctr_ref05_Made N)]
noncomputable def env_ref05_List (N : Nat) : Env := mkEnv tyRows eqRows methRows [] [] (tab_ref05_List N)
theorem envok_ref05_List (N : Nat) : EnvOk Tryz.prog (env_ref05_List N) := mkEnv_ok tyRows_ok eqRows_ok methRows_ok ⟨sound_ref05_Made N, trivial⟩
noncomputable def cut_ref05_List_l0 : Cut := { tms := [0, 1, 5, 6], sh := (.cons (.list T_ref05_Raw) (.cons (.int .i64) (.cons (.own 2000000) (.int .i64)))), objs := [(2000000, [5], .sl T_api_Msg)], sts := [] }
noncomputable def cut_ref05_List_l0_o0 : Cut := { tms := [5], sh := (.own 2000000), objs := [(2000000, [5], .sl T_api_Msg)], sts := [] }
noncomputable def lp_ref05_List_l0 (N : Nat) : Lp := lpOf cut_ref05_List_l0 (2, cut_ref05_List_l0_o0) [] (fun v => ref05_List_l0 N N v.1.1 v.1.2.1 v.1.2.2.2 v.2.1)
noncomputable def lam_ref05_List_l0 (_ : Nat) : Lps := fun _ => none
theorem lpok_ref05_List_l0 (N : Nat) (ro : Option Nat) : LpOk Tryz.prog 28 ro (lp_ref05_List_l0 N) (codeAt c_ref05_List [true, true, false, true, false]) := by
  rw [show (codeAt c_ref05_List [true, true, false, true, false]) = .loop (codeAt c_ref05_List [true, true, false, true, false, false]) by kernel_rfl]
  exact loop_ok (envok_ref05_List N) mixed (Λ := lam_ref05_List_l0 N) (p := 116) (obs_ok (l := []) (by kernel_rfl) obsNil) (by kernel_rfl) (by intro rec v; kernel_rfl) N
noncomputable def lam_ref05_List (N : Nat) : Lps := fun p => bif Nat.beq p 58 then some (lp_ref05_List_l0 N) else none
noncomputable def ctr_ref05_List (N : Nat) : Ctr := ctrOf (.cons (.list T_ref05_Raw) (.int .i64)) (.fresh T_api_Msg) [] (fun v => ref05_List N v.1 v.2)
theorem sound_ref05_List (N : Nat) : SoundF Tryz.prog 36 (fun vs => (ctr_ref05_List N).run vs some) :=
  fn_sound (envok_ref05_List N) mixed (Λ := lam_ref05_List N) (fn := Tryz.f36) (c := c_ref05_List) Tryz.func36 (by kernel_rfl) (by kernel_rfl) (obs_ok (l := [(lp_ref05_List_l0 N, (codeAt c_ref05_List [true, true, false, true, false]))]) (by kernel_rfl) (obsCons (lpok_ref05_List_l0 N none) obsNil)) (by kernel_rfl) (by intro v; kernel_rfl)
noncomputable def c_ref10_Made : Code := match Tryz.f11.body with | some c => c | none => .skip
noncomputable def tab_ref10_Made (N : Nat) : List (Nat × Ctr) := [(24, ctr_ref04_Made N), (13, ctr_ref04_Key N), (35, ctr_ref02_Pivots N), (36, ctr_ref05_List N)]
noncomputable def env_ref10_Made (N : Nat) : Env := mkEnv tyRows eqRows methRows [(endKey, [15, 2000007, 2000008, 2000009, 2000010]), (9, [35])] [] (tab_ref10_Made N)
theorem envok_ref10_Made (N : Nat) : EnvOk Tryz.prog (env_ref10_Made N) := mkEnv_ok tyRows_ok eqRows_ok methRows_ok ⟨sound_ref04_Made N, ⟨sound_ref04_Key N, ⟨sound_ref02_Pivots N, ⟨sound_ref05_List N, trivial⟩⟩⟩⟩
noncomputable def cut_ref10_Made_l1 : Cut := { tms := [1, 2, 5, 6], sh := (.cons (.ptr 2000000 0) (.cons (.ptr 2000001 0) (.cons (.ptr 2000007 0) (.int .i64)))), objs := [(2000000, [1], .box (.cons (.list T_ref04_Raw) (.cons (.list (.int .u8)) (.cons (.list (.int .u8)) (.cons (.list T_a4_uint8) (.list T_ref05_Raw)))))), (2000001, [2], .box (.cons (.own 2000002) (.cons (.own 2000003) (.cons (.own 2000004) (.cons (.own 2000005) (.own 2000006)))))), (2000002, [2, 0], .sl T_api_Pair), (2000003, [2, 1], .sl .str), (2000004, [2, 2], .sl (.int .i64)), (2000005, [2, 3], .sl T_api_Sum), (2000006, [2, 4], .sl T_api_Msg), (2000007, [5], .box (.cons (.own 2000008) (.cons (.list .str) (.cons (.own 2000009) (.cons (.own 2000010) (.own 2000011)))))), (2000008, [5, 0], .sl T_api_Pair), (2000009, [5, 2], .sl (.int .i64)), (2000010, [5, 3], .sl T_api_Sum), (2000011, [5, 4], .sl T_api_Msg)], sts := [] }
noncomputable def cut_ref10_Made_l1_o0 : Cut := { tms := [2, 5], sh := (.cons (.ptr 2000000 0) (.ptr 2000006 0)), objs := [(2000000, [2], .box (.cons (.own 2000001) (.cons (.own 2000002) (.cons (.own 2000003) (.cons (.own 2000004) (.own 2000005)))))), (2000001, [2, 0], .sl T_api_Pair), (2000002, [2, 1], .sl .str), (2000003, [2, 2], .sl (.int .i64)), (2000004, [2, 3], .sl T_api_Sum), (2000005, [2, 4], .sl T_api_Msg), (2000006, [5], .box (.cons (.own 2000007) (.cons (.list .str) (.cons (.own 2000008) (.cons (.own 2000009) (.own 2000010)))))), (2000007, [5, 0], .sl T_api_Pair), (2000008, [5, 2], .sl (.int .i64)), (2000009, [5, 3], .sl T_api_Sum), (2000010, [5, 4], .sl T_api_Msg)], sts := [] }
noncomputable def lp_ref10_Made_l1 (N : Nat) : Lp := lpOf cut_ref10_Made_l1 (4, cut_ref10_Made_l1_o0) [] (fun v => ref10_Made_l1 N N v.1.2.2.2 v.2.1.1 v.2.1.2.1 v.2.1.2.2.1 v.2.1.2.2.2.1 v.2.1.2.2.2.2 v.2.2.2.1 v.2.2.2.2.1 v.2.2.2.2.2.1 v.2.2.2.2.2.2.1 v.2.2.2.2.2.2.2.1 v.2.2.2.2.2.2.2.2.1.2.1 v.2.2.2.2.2.2.2.2.2.1 v.2.2.2.2.2.2.2.2.2.2.1 v.2.2.2.2.2.2.2.2.2.2.2.1 v.2.2.2.2.2.2.2.2.2.2.2.2.1)
noncomputable def lam_ref10_Made_l1 (_ : Nat) : Lps := fun _ => none
theorem lpok_ref10_Made_l1 (N : Nat) (ro : Option Nat) : LpOk Tryz.prog 109 ro (lp_ref10_Made_l1 N) (codeAt c_ref10_Made [true, true, true, true, true, true, false, true, false]) := by
  rw [show (codeAt c_ref10_Made [true, true, true, true, true, true, false, true, false]) = .loop (codeAt c_ref10_Made [true, true, true, true, true, true, false, true, false, false]) by kernel_rfl]
  exact loop_ok (envok_ref10_Made N) mixed (Λ := lam_ref10_Made_l1 N) (p := 2036) (obs_ok (l := []) (by kernel_rfl) obsNil) (by kernel_rfl) (by intro rec v; kernel_rfl) N
noncomputable def cut_ref10_Made_l0 : Cut := { tms := [1, 2, 3, 4], sh := (.cons (.ptr 2000000 0) (.cons (.ptr 2000001 0) (.cons (.own 2000007) (.int .i64)))), objs := [(2000000, [1], .box (.cons (.list T_ref04_Raw) (.cons (.list (.int .u8)) (.cons (.list (.int .u8)) (.cons (.list T_a4_uint8) (.list T_ref05_Raw)))))), (2000001, [2], .box (.cons (.own 2000002) (.cons (.own 2000003) (.cons (.own 2000004) (.cons (.own 2000005) (.own 2000006)))))), (2000002, [2, 0], .sl T_api_Pair), (2000003, [2, 1], .sl .str), (2000004, [2, 2], .sl (.int .i64)), (2000005, [2, 3], .sl T_api_Sum), (2000006, [2, 4], .sl T_api_Msg), (2000007, [3], .sl .str)], sts := [] }
noncomputable def cut_ref10_Made_l0_o0 : Cut := { tms := [1, 2, 3], sh := (.cons (.ptr 2000000 0) (.cons (.ptr 2000001 0) (.own 2000007))), objs := [(2000000, [1], .box (.cons (.list T_ref04_Raw) (.cons (.list (.int .u8)) (.cons (.list (.int .u8)) (.cons (.list T_a4_uint8) (.list T_ref05_Raw)))))), (2000001, [2], .box (.cons (.own 2000002) (.cons (.own 2000003) (.cons (.own 2000004) (.cons (.own 2000005) (.own 2000006)))))), (2000002, [2, 0], .sl T_api_Pair), (2000003, [2, 1], .sl .str), (2000004, [2, 2], .sl (.int .i64)), (2000005, [2, 3], .sl T_api_Sum), (2000006, [2, 4], .sl T_api_Msg), (2000007, [3], .sl .str)], sts := [] }
noncomputable def lp_ref10_Made_l0 (N : Nat) : Lp := lpOf cut_ref10_Made_l0 (2, cut_ref10_Made_l0_o0) [] (fun v => ref10_Made_l0 N N v.1.2.2.2 v.2.1.1 v.2.1.2.1 v.2.1.2.2.1 v.2.1.2.2.2.1 v.2.1.2.2.2.2 v.2.2.2.1 v.2.2.2.2.1 v.2.2.2.2.2.1 v.2.2.2.2.2.2.1 v.2.2.2.2.2.2.2.1 v.2.2.2.2.2.2.2.2.1)
noncomputable def lam_ref10_Made_l0 (_ : Nat) : Lps := fun _ => none
theorem lpok_ref10_Made_l0 (N : Nat) (ro : Option Nat) : LpOk Tryz.prog 109 ro (lp_ref10_Made_l0 N) (codeAt c_ref10_Made [true, true, true, false, true, false]) := by
  rw [show (codeAt c_ref10_Made [true, true, true, false, true, false]) = .loop (codeAt c_ref10_Made [true, true, true, false, true, false, false]) by kernel_rfl]
  exact loop_ok (envok_ref10_Made N) mixed (Λ := lam_ref10_Made_l0 N) (p := 244) (obs_ok (l := []) (by kernel_rfl) obsNil) (by kernel_rfl) (by intro rec v; kernel_rfl) N
noncomputable def lam_ref10_Made (N : Nat) : Lps := fun p => bif Nat.beq p 122 then some (lp_ref10_Made_l0 N) else bif Nat.beq p 1018 then some (lp_ref10_Made_l1 N) else none
noncomputable def ctr_ref10_Made (N : Nat) : Ctr := ctrOf (.val T_ref10_Raw) (.val T_api_Node) [] (fun v => ref10_Made N v)
theorem sound_ref10_Made (N : Nat) : SoundF Tryz.prog 11 (fun vs => (ctr_ref10_Made N).run vs some) :=
  fn_sound (envok_ref10_Made N) mixed (Λ := lam_ref10_Made N) (fn := Tryz.f11) (c := c_ref10_Made) Tryz.func11 (by kernel_rfl) (by kernel_rfl) (obs_ok (l := [(lp_ref10_Made_l0 N, (codeAt c_ref10_Made [true, true, true, false, true, false])), (lp_ref10_Made_l1 N, (codeAt c_ref10_Made [true, true, true, true, true, true, false, true, false]))]) (by kernel_rfl) (obsCons (lpok_ref10_Made_l0 N none) (obsCons (lpok_ref10_Made_l1 N none) obsNil))) (by kernel_rfl) (by intro v; kernel_rfl)
noncomputable def c_ref04_Valid : Code := match Tryz.f95.body with | some c => c | none => .skip
noncomputable def tab_ref04_Valid (_ : Nat) : List (Nat × Ctr) := []
noncomputable def env_ref04_Valid (N : Nat) : Env := mkEnv tyRows eqRows methRows [] [] (tab_ref04_Valid N)
theorem envok_ref04_Valid (N : Nat) : EnvOk Tryz.prog (env_ref04_Valid N) := mkEnv_ok tyRows_ok eqRows_ok methRows_ok trivial
noncomputable def cut_ref04_Valid_l0 : Cut := { tms := [0, 3], sh := (.cons (.list T_api_Pair) (.int .i64)), objs := [], sts := [] }
noncomputable def cut_ref04_Valid_l0_o0 : Cut := { tms := [2], sh := .bool, objs := [], sts := [] }
noncomputable def cut_ref04_Valid_l0_o1 : Cut := { tms := [], sh := .nil, objs := [], sts := [] }
noncomputable def lp_ref04_Valid_l0 (N : Nat) : Lp := lpOf cut_ref04_Valid_l0 (1, cut_ref04_Valid_l0_o0) [(2, cut_ref04_Valid_l0_o1)] (fun v => ref04_Valid_l0 N N v.1.1 v.1.2)
noncomputable def lam_ref04_Valid_l0 (_ : Nat) : Lps := fun _ => none
theorem lpok_ref04_Valid_l0 (N : Nat) (ro : Option Nat) : LpOk Tryz.prog 22 ro (lp_ref04_Valid_l0 N) (codeAt c_ref04_Valid [true, false, true, false]) := by
  rw [show (codeAt c_ref04_Valid [true, false, true, false]) = .loop (codeAt c_ref04_Valid [true, false, true, false, false]) by kernel_rfl]
  exact loop_ok (envok_ref04_Valid N) mixed (Λ := lam_ref04_Valid_l0 N) (p := 52) (obs_ok (l := []) (by kernel_rfl) obsNil) (by kernel_rfl) (by intro rec v; kernel_rfl) N
noncomputable def lam_ref04_Valid (N : Nat) : Lps := fun p => bif Nat.beq p 26 then some (lp_ref04_Valid_l0 N) else none
noncomputable def ctr_ref04_Valid (N : Nat) : Ctr := ctrOf (.list T_api_Pair) .bool [] (fun v => ref04_Valid N v)
theorem sound_ref04_Valid (N : Nat) : SoundF Tryz.prog 95 (fun vs => (ctr_ref04_Valid N).run vs some) :=
  fn_sound (envok_ref04_Valid N) mixed (Λ := lam_ref04_Valid N) (fn := Tryz.f95) (c := c_ref04_Valid) Tryz.func95 (by kernel_rfl) (by kernel_rfl) (obs_ok (l := [(lp_ref04_Valid_l0 N, (codeAt c_ref04_Valid [true, false, true, false]))]) (by kernel_rfl) (obsCons (lpok_ref04_Valid_l0 N none) obsNil)) (by kernel_rfl) (by intro v; kernel_rfl)
noncomputable def c_ref02_Has : Code := match Tryz.f22.body with | some c => c | none => .skip
noncomputable def tab_ref02_Has (_ : Nat) : List (Nat × Ctr) := []
noncomputable def env_ref02_Has (N : Nat) : Env := mkEnv tyRows eqRows methRows [] [] (tab_ref02_Has N)
theorem envok_ref02_Has (N : Nat) : EnvOk Tryz.prog (env_ref02_Has N) := mkEnv_ok tyRows_ok eqRows_ok methRows_ok trivial
noncomputable def lam_ref02_Has (_ : Nat) : Lps := fun _ => none
noncomputable def ctr_ref02_Has (N : Nat) : Ctr := ctrOf (.cons (.val T_api_Span) .str) .bool [] (fun v => ref02_Has N v.1 v.2)
theorem sound_ref02_Has (N : Nat) : SoundF Tryz.prog 22 (fun vs => (ctr_ref02_Has N).run vs some) :=
  fn_sound (envok_ref02_Has N) mixed (Λ := lam_ref02_Has N) (fn := Tryz.f22) (c := c_ref02_Has) Tryz.func22 (by kernel_rfl) (by kernel_rfl) (obs_ok (l := []) (by kernel_rfl) obsNil) (by kernel_rfl) (by intro v; kernel_rfl)
noncomputable def c_ref10_in : Code := match Tryz.f54.body with | some c => c | none => .skip
noncomputable def tab_ref10_in (_ : Nat) : List (Nat × Ctr) := []
noncomputable def env_ref10_in (N : Nat) : Env := mkEnv tyRows eqRows methRows [] [] (tab_ref10_in N)
theorem envok_ref10_in (N : Nat) : EnvOk Tryz.prog (env_ref10_in N) := mkEnv_ok tyRows_ok eqRows_ok methRows_ok trivial
noncomputable def lam_ref10_in (_ : Nat) : Lps := fun _ => none
noncomputable def ctr_ref10_in (N : Nat) : Ctr := ctrOf (.cons (.int .i64) (.cons (.int .i64) (.int .i64))) .bool [] (fun v => ref10_in N v.1 v.2.1 v.2.2)
theorem sound_ref10_in (N : Nat) : SoundF Tryz.prog 54 (fun vs => (ctr_ref10_in N).run vs some) :=
  fn_sound (envok_ref10_in N) mixed (Λ := lam_ref10_in N) (fn := Tryz.f54) (c := c_ref10_in) Tryz.func54 (by kernel_rfl) (by kernel_rfl) (obs_ok (l := []) (by kernel_rfl) obsNil) (by kernel_rfl) (by intro v; kernel_rfl)
noncomputable def c_ref10_leaf : Code := match Tryz.f52.body with | some c => c | none => .skip
noncomputable def tab_ref10_leaf (N : Nat) : List (Nat × Ctr) := [(95, ctr_ref04_Valid N), (22, ctr_ref02_Has N), (54, ctr_ref10_in N)]
noncomputable def env_ref10_leaf (N : Nat) : Env := mkEnv tyRows eqRows methRows [] [] (tab_ref10_leaf N)
theorem envok_ref10_leaf (N : Nat) : EnvOk Tryz.prog (env_ref10_leaf N) := mkEnv_ok tyRows_ok eqRows_ok methRows_ok ⟨sound_ref04_Valid N, ⟨sound_ref02_Has N, ⟨sound_ref10_in N, trivial⟩⟩⟩
noncomputable def cut_ref10_leaf_l0 : Cut := { tms := [2, 3, 5], sh := (.cons (.ptr 2000000 0) (.cons (.ptr 2000001 0) (.int .i64))), objs := [(2000000, [2], .box (.cons (.list T_api_Pair) (.cons (.list .str) (.cons (.list (.int .i64)) (.cons (.list T_api_Sum) (.list T_api_Msg)))))), (2000001, [3], .box (.cons .str .str))], sts := [] }
noncomputable def cut_ref10_leaf_l0_o0 : Cut := { tms := [4], sh := .bool, objs := [], sts := [] }
noncomputable def cut_ref10_leaf_l0_o1 : Cut := { tms := [], sh := .nil, objs := [], sts := [] }
noncomputable def lp_ref10_leaf_l0 (N : Nat) : Lp := lpOf cut_ref10_leaf_l0 (1, cut_ref10_leaf_l0_o0) [(2, cut_ref10_leaf_l0_o1)] (fun v => ref10_leaf_l0 N N v.1.2.2 v.2.1.1 v.2.1.2.1 v.2.1.2.2.1 v.2.1.2.2.2.1 v.2.1.2.2.2.2 v.2.2.1.1 v.2.2.1.2)
noncomputable def lam_ref10_leaf_l0 (_ : Nat) : Lps := fun _ => none
theorem lpok_ref10_leaf_l0 (N : Nat) (ro : Option Nat) : LpOk Tryz.prog 65 ro (lp_ref10_leaf_l0 N) (codeAt c_ref10_leaf [true, true, false, true, false]) := by
  rw [show (codeAt c_ref10_leaf [true, true, false, true, false]) = .loop (codeAt c_ref10_leaf [true, true, false, true, false, false]) by kernel_rfl]
  exact loop_ok (envok_ref10_leaf N) mixed (Λ := lam_ref10_leaf_l0 N) (p := 116) (obs_ok (l := []) (by kernel_rfl) obsNil) (by kernel_rfl) (by intro rec v; kernel_rfl) N
noncomputable def lam_ref10_leaf (N : Nat) : Lps := fun p => bif Nat.beq p 58 then some (lp_ref10_leaf_l0 N) else none
noncomputable def ctr_ref10_leaf (N : Nat) : Ctr := ctrOf (.cons (.val T_api_Node) (.val T_api_Span)) .bool [] (fun v => ref10_leaf N v.1 v.2)
theorem sound_ref10_leaf (N : Nat) : SoundF Tryz.prog 52 (fun vs => (ctr_ref10_leaf N).run vs some) :=
  fn_sound (envok_ref10_leaf N) mixed (Λ := lam_ref10_leaf N) (fn := Tryz.f52) (c := c_ref10_leaf) Tryz.func52 (by kernel_rfl) (by kernel_rfl) (obs_ok (l := [(lp_ref10_leaf_l0 N, (codeAt c_ref10_leaf [true, true, false, true, false]))]) (by kernel_rfl) (obsCons (lpok_ref10_leaf_l0 N none) obsNil)) (by kernel_rfl) (by intro v; kernel_rfl)
noncomputable def c_ref10_pivots : Code := match Tryz.f53.body with | some c => c | none => .skip
noncomputable def tab_ref10_pivots (_ : Nat) : List (Nat × Ctr) := []
noncomputable def env_ref10_pivots (N : Nat) : Env := mkEnv tyRows eqRows methRows [] [] (tab_ref10_pivots N)
theorem envok_ref10_pivots (N : Nat) : EnvOk Tryz.prog (env_ref10_pivots N) := mkEnv_ok tyRows_ok eqRows_ok methRows_ok trivial
noncomputable def cut_ref10_pivots_p2 : Cut := { tms := [0, 3, 5, 48], sh := (.cons (.list .str) (.cons (.ptr 2000000 0) (.cons (.int .i64) .bool))), objs := [(2000000, [3], .box (.cons .str .str))], sts := [] }
noncomputable def cut_ref10_pivots_p2_o0 : Cut := { tms := [4], sh := .bool, objs := [], sts := [] }
noncomputable def cut_ref10_pivots_p2_o1 : Cut := { tms := [0, 3, 5], sh := (.cons (.list .str) (.cons (.ptr 2000000 0) (.int .i64))), objs := [(2000000, [3], .box (.cons .str .str))], sts := [] }
noncomputable def lp_ref10_pivots_p2 (N : Nat) : Lp := lpOf cut_ref10_pivots_p2 (1, cut_ref10_pivots_p2_o0) [(0, cut_ref10_pivots_p2_o1)] (fun v => ref10_pivots_p2 N v.1.1 v.1.2.2.1 v.1.2.2.2 v.2.1.1 v.2.1.2)
noncomputable def lam_ref10_pivots_p2 (_ : Nat) : Lps := fun _ => none
theorem lpok_ref10_pivots_p2 (N : Nat) (ro : Option Nat) : LpOk Tryz.prog 49 ro (lp_ref10_pivots_p2 N) (codeAt c_ref10_pivots [true, false, true, false, false, true, false, false, true]) :=
  piece_ok (envok_ref10_pivots N) mixed (Λ := lam_ref10_pivots_p2 N) (p := 841) (obs_ok (l := []) (by kernel_rfl) obsNil) (by kernel_rfl) (by intro v; kernel_rfl)
noncomputable def cut_ref10_pivots_p1 : Cut := { tms := [0, 3, 5], sh := (.cons (.list .str) (.cons (.ptr 2000000 0) (.int .i64))), objs := [(2000000, [3], .box (.cons .str .str))], sts := [] }
noncomputable def cut_ref10_pivots_p1_o0 : Cut := { tms := [0, 3, 5], sh := (.cons (.list .str) (.cons (.ptr 2000000 0) (.int .i64))), objs := [(2000000, [3], .box (.cons .str .str))], sts := [] }
noncomputable def lp_ref10_pivots_p1 (N : Nat) : Lp := lpOf cut_ref10_pivots_p1 (0, cut_ref10_pivots_p1_o0) [] (fun v => ref10_pivots_p1 N v.1.1 v.1.2.2 v.2.1.1 v.2.1.2)
noncomputable def lam_ref10_pivots_p1 (_ : Nat) : Lps := fun _ => none
theorem lpok_ref10_pivots_p1 (N : Nat) (ro : Option Nat) : LpOk Tryz.prog 49 ro (lp_ref10_pivots_p1 N) (codeAt c_ref10_pivots [true, false, true, false, false, true, true]) :=
  piece_ok (envok_ref10_pivots N) mixed (Λ := lam_ref10_pivots_p1 N) (p := 211) (obs_ok (l := []) (by kernel_rfl) obsNil) (by kernel_rfl) (by intro v; kernel_rfl)
noncomputable def cut_ref10_pivots_l0 : Cut := { tms := [0, 3, 5], sh := (.cons (.list .str) (.cons (.ptr 2000000 0) (.int .i64))), objs := [(2000000, [3], .box (.cons .str .str))], sts := [] }
noncomputable def cut_ref10_pivots_l0_o0 : Cut := { tms := [4], sh := .bool, objs := [], sts := [] }
noncomputable def cut_ref10_pivots_l0_o1 : Cut := { tms := [], sh := .nil, objs := [], sts := [] }
noncomputable def lp_ref10_pivots_l0 (N : Nat) : Lp := lpOf cut_ref10_pivots_l0 (1, cut_ref10_pivots_l0_o0) [(2, cut_ref10_pivots_l0_o1)] (fun v => ref10_pivots_l0 N N v.1.1 v.1.2.2 v.2.1.1 v.2.1.2)
noncomputable def lam_ref10_pivots_l0 (N : Nat) : Lps := fun p => bif Nat.beq p 211 then some (lp_ref10_pivots_p1 N) else bif Nat.beq p 841 then some (lp_ref10_pivots_p2 N) else none
theorem lpok_ref10_pivots_l0 (N : Nat) (ro : Option Nat) : LpOk Tryz.prog 49 ro (lp_ref10_pivots_l0 N) (codeAt c_ref10_pivots [true, false, true, false]) := by
  rw [show (codeAt c_ref10_pivots [true, false, true, false]) = .loop (codeAt c_ref10_pivots [true, false, true, false, false]) by kernel_rfl]
  exact loop_ok (envok_ref10_pivots N) mixed (Λ := lam_ref10_pivots_l0 N) (p := 52) (obs_ok (l := [(lp_ref10_pivots_p2 N, (codeAt c_ref10_pivots [true, false, true, false, false, true, false, false, true])), (lp_ref10_pivots_p1 N, (codeAt c_ref10_pivots [true, false, true, false, false, true, true]))]) (by kernel_rfl) (obsCons (lpok_ref10_pivots_p2 N ro) (obsCons (lpok_ref10_pivots_p1 N ro) obsNil))) (by kernel_rfl) (by intro rec v; kernel_rfl) N
noncomputable def lam_ref10_pivots (N : Nat) : Lps := fun p => bif Nat.beq p 26 then some (lp_ref10_pivots_l0 N) else none
noncomputable def ctr_ref10_pivots (N : Nat) : Ctr := ctrOf (.cons (.list .str) (.val T_api_Span)) .bool [] (fun v => ref10_pivots N v.1 v.2)
theorem sound_ref10_pivots (N : Nat) : SoundF Tryz.prog 53 (fun vs => (ctr_ref10_pivots N).run vs some) :=
  fn_sound (envok_ref10_pivots N) mixed (Λ := lam_ref10_pivots N) (fn := Tryz.f53) (c := c_ref10_pivots) Tryz.func53 (by kernel_rfl) (by kernel_rfl) (obs_ok (l := [(lp_ref10_pivots_l0 N, (codeAt c_ref10_pivots [true, false, true, false]))]) (by kernel_rfl) (obsCons (lpok_ref10_pivots_l0 N none) obsNil)) (by kernel_rfl) (by intro v; kernel_rfl)
noncomputable def c_ref10_bound : Code := match Tryz.f55.body with | some c => c | none => .skip
noncomputable def tab_ref10_bound (_ : Nat) : List (Nat × Ctr) := []
noncomputable def env_ref10_bound (N : Nat) : Env := mkEnv tyRows eqRows methRows [] [] (tab_ref10_bound N)
theorem envok_ref10_bound (N : Nat) : EnvOk Tryz.prog (env_ref10_bound N) := mkEnv_ok tyRows_ok eqRows_ok methRows_ok trivial
noncomputable def lam_ref10_bound (_ : Nat) : Lps := fun _ => none
noncomputable def ctr_ref10_bound (N : Nat) : Ctr := ctrOf (.val T_api_Range) .bool [] (fun v => ref10_bound N v)
theorem sound_ref10_bound (N : Nat) : SoundF Tryz.prog 55 (fun vs => (ctr_ref10_bound N).run vs some) :=
  fn_sound (envok_ref10_bound N) mixed (Λ := lam_ref10_bound N) (fn := Tryz.f55) (c := c_ref10_bound) Tryz.func55 (by kernel_rfl) (by kernel_rfl) (obs_ok (l := []) (by kernel_rfl) obsNil) (by kernel_rfl) (by intro v; kernel_rfl)
noncomputable def c_ref05_in : Code := match Tryz.f84.body with | some c => c | none => .skip
noncomputable def tab_ref05_in (_ : Nat) : List (Nat × Ctr) := []
noncomputable def env_ref05_in (N : Nat) : Env := mkEnv tyRows eqRows methRows [] [] (tab_ref05_in N)
theorem envok_ref05_in (N : Nat) : EnvOk Tryz.prog (env_ref05_in N) := mkEnv_ok tyRows_ok eqRows_ok methRows_ok trivial
noncomputable def lam_ref05_in (_ : Nat) : Lps := fun _ => none
noncomputable def ctr_ref05_in (N : Nat) : Ctr := ctrOf (.cons (.int .i64) (.cons (.int .i64) (.int .i64))) .bool [] (fun v => ref05_in N v.1 v.2.1 v.2.2)
theorem sound_ref05_in (N : Nat) : SoundF Tryz.prog 84 (fun vs => (ctr_ref05_in N).run vs some) :=
  fn_sound (envok_ref05_in N) mixed (Λ := lam_ref05_in N) (fn := Tryz.f84) (c := c_ref05_in) Tryz.func84 (by kernel_rfl) (by kernel_rfl) (obs_ok (l := []) (by kernel_rfl) obsNil) (by kernel_rfl) (by intro v; kernel_rfl)
noncomputable def c_ref02_Empty : Code := match Tryz.f20.body with | some c => c | none => .skip
noncomputable def tab_ref02_Empty (_ : Nat) : List (Nat × Ctr) := []
noncomputable def env_ref02_Empty (N : Nat) : Env := mkEnv tyRows eqRows methRows [] [] (tab_ref02_Empty N)
theorem envok_ref02_Empty (N : Nat) : EnvOk Tryz.prog (env_ref02_Empty N) := mkEnv_ok tyRows_ok eqRows_ok methRows_ok trivial
noncomputable def lam_ref02_Empty (_ : Nat) : Lps := fun _ => none
noncomputable def ctr_ref02_Empty (N : Nat) : Ctr := ctrOf (.val T_api_Span) .bool [] (fun v => ref02_Empty N v)
theorem sound_ref02_Empty (N : Nat) : SoundF Tryz.prog 20 (fun vs => (ctr_ref02_Empty N).run vs some) :=
  fn_sound (envok_ref02_Empty N) mixed (Λ := lam_ref02_Empty N) (fn := Tryz.f20) (c := c_ref02_Empty) Tryz.func20 (by kernel_rfl) (by kernel_rfl) (obs_ok (l := []) (by kernel_rfl) obsNil) (by kernel_rfl) (by intro v; kernel_rfl)
noncomputable def c_ref05_span : Code := match Tryz.f85.body with | some c => c | none => .skip
noncomputable def tab_ref05_span (N : Nat) : List (Nat × Ctr) := [(20, ctr_ref02_Empty N)]
noncomputable def env_ref05_span (N : Nat) : Env := mkEnv tyRows eqRows methRows [] [] (tab_ref05_span N)
theorem envok_ref05_span (N : Nat) : EnvOk Tryz.prog (env_ref05_span N) := mkEnv_ok tyRows_ok eqRows_ok methRows_ok ⟨sound_ref02_Empty N, trivial⟩
noncomputable def lam_ref05_span (_ : Nat) : Lps := fun _ => none
noncomputable def ctr_ref05_span (N : Nat) : Ctr := ctrOf (.val T_api_Span) .bool [] (fun v => ref05_span N v)
theorem sound_ref05_span (N : Nat) : SoundF Tryz.prog 85 (fun vs => (ctr_ref05_span N).run vs some) :=
  fn_sound (envok_ref05_span N) mixed (Λ := lam_ref05_span N) (fn := Tryz.f85) (c := c_ref05_span) Tryz.func85 (by kernel_rfl) (by kernel_rfl) (obs_ok (l := []) (by kernel_rfl) obsNil) (by kernel_rfl) (by intro v; kernel_rfl)
noncomputable def c_ref05_Valid : Code := match Tryz.f30.body with | some c => c | none => .skip
noncomputable def tab_ref05_Valid (N : Nat) : List (Nat × Ctr) := [(84, ctr_ref05_in N), (85, ctr_ref05_span N), (86, ctr_ref02_Begins N)]
noncomputable def env_ref05_Valid (N : Nat) : Env := mkEnv tyRows eqRows methRows [] [] (tab_ref05_Valid N)
theorem envok_ref05_Valid (N : Nat) : EnvOk Tryz.prog (env_ref05_Valid N) := mkEnv_ok tyRows_ok eqRows_ok methRows_ok ⟨sound_ref05_in N, ⟨sound_ref05_span N, ⟨sound_ref02_Begins N, trivial⟩⟩⟩
noncomputable def cut_ref05_Valid_p0 : Cut := { tms := [1, 4, 14, 66], sh := (.cons (.ptr 2000000 0) (.cons .bool (.cons (.int .i64) .bool))), objs := [(2000000, [1], .box (.cons (.int .i64) (.cons .str (.cons .str (.cons .str (.cons .str (.cons .str (.cons .str (.int .i64)))))))))], sts := [] }
noncomputable def cut_ref05_Valid_p0_o0 : Cut := { tms := [2], sh := .bool, objs := [], sts := [] }
noncomputable def cut_ref05_Valid_p0_o1 : Cut := { tms := [], sh := .nil, objs := [], sts := [] }
noncomputable def lp_ref05_Valid_p0 (N : Nat) : Lp := lpOf cut_ref05_Valid_p0 (1, cut_ref05_Valid_p0_o0) [(0, cut_ref05_Valid_p0_o1)] (fun v => ref05_Valid_p0 N v.1.2.1 v.1.2.2.1 v.1.2.2.2 v.2.1.1 v.2.1.2.1 v.2.1.2.2.1 v.2.1.2.2.2.1 v.2.1.2.2.2.2.1 v.2.1.2.2.2.2.2.1 v.2.1.2.2.2.2.2.2.1 v.2.1.2.2.2.2.2.2.2)
noncomputable def lam_ref05_Valid_p0 (_ : Nat) : Lps := fun _ => none
theorem lpok_ref05_Valid_p0 (N : Nat) (ro : Option Nat) : LpOk Tryz.prog 126 ro (lp_ref05_Valid_p0 N) (codeAt c_ref05_Valid [true, true, false, true, false, true, true, true, true, true, true, true]) :=
  piece_ok (envok_ref05_Valid N) mixed (Λ := lam_ref05_Valid_p0 N) (p := 7551) (obs_ok (l := []) (by kernel_rfl) obsNil) (by kernel_rfl) (by intro v; kernel_rfl)
noncomputable def lam_ref05_Valid (N : Nat) : Lps := fun p => bif Nat.beq p 7551 then some (lp_ref05_Valid_p0 N) else none
noncomputable def ctr_ref05_Valid (N : Nat) : Ctr := ctrOf (.val T_api_Msg) .bool [] (fun v => ref05_Valid N v)
theorem sound_ref05_Valid (N : Nat) : SoundF Tryz.prog 30 (fun vs => (ctr_ref05_Valid N).run vs some) :=
  fn_sound (envok_ref05_Valid N) mixed (Λ := lam_ref05_Valid N) (fn := Tryz.f30) (c := c_ref05_Valid) Tryz.func30 (by kernel_rfl) (by kernel_rfl) (obs_ok (l := [(lp_ref05_Valid_p0 N, (codeAt c_ref05_Valid [true, true, false, true, false, true, true, true, true, true, true, true]))]) (by kernel_rfl) (obsCons (lpok_ref05_Valid_p0 N none) obsNil)) (by kernel_rfl) (by intro v; kernel_rfl)
noncomputable def c_ref05_Reads : Code := match Tryz.f96.body with | some c => c | none => .skip
noncomputable def tab_ref05_Reads (N : Nat) : List (Nat × Ctr) := [(109, ctr_ref02_Prefix N)]
noncomputable def env_ref05_Reads (N : Nat) : Env := mkEnv tyRows eqRows methRows [] [] (tab_ref05_Reads N)
theorem envok_ref05_Reads (N : Nat) : EnvOk Tryz.prog (env_ref05_Reads N) := mkEnv_ok tyRows_ok eqRows_ok methRows_ok ⟨sound_ref02_Prefix N, trivial⟩
noncomputable def lam_ref05_Reads (_ : Nat) : Lps := fun _ => none
noncomputable def ctr_ref05_Reads (N : Nat) : Ctr := ctrOf (.val T_api_Msg) (.fresh T_api_Span) [] (fun v => ref05_Reads N v)
theorem sound_ref05_Reads (N : Nat) : SoundF Tryz.prog 96 (fun vs => (ctr_ref05_Reads N).run vs some) :=
  fn_sound (envok_ref05_Reads N) mixed (Λ := lam_ref05_Reads N) (fn := Tryz.f96) (c := c_ref05_Reads) Tryz.func96 (by kernel_rfl) (by kernel_rfl) (obs_ok (l := []) (by kernel_rfl) obsNil) (by kernel_rfl) (by intro v; kernel_rfl)
noncomputable def c_ref05_Writes : Code := match Tryz.f97.body with | some c => c | none => .skip
noncomputable def tab_ref05_Writes (N : Nat) : List (Nat × Ctr) := [(111, ctr_ref02_One N), (109, ctr_ref02_Prefix N)]
noncomputable def env_ref05_Writes (N : Nat) : Env := mkEnv tyRows eqRows methRows [] [] (tab_ref05_Writes N)
theorem envok_ref05_Writes (N : Nat) : EnvOk Tryz.prog (env_ref05_Writes N) := mkEnv_ok tyRows_ok eqRows_ok methRows_ok ⟨sound_ref02_One N, ⟨sound_ref02_Prefix N, trivial⟩⟩
noncomputable def lam_ref05_Writes (_ : Nat) : Lps := fun _ => none
noncomputable def ctr_ref05_Writes (N : Nat) : Ctr := ctrOf (.val T_api_Msg) (.fresh T_api_Span) [] (fun v => ref05_Writes N v)
theorem sound_ref05_Writes (N : Nat) : SoundF Tryz.prog 97 (fun vs => (ctr_ref05_Writes N).run vs some) :=
  fn_sound (envok_ref05_Writes N) mixed (Λ := lam_ref05_Writes N) (fn := Tryz.f97) (c := c_ref05_Writes) Tryz.func97 (by kernel_rfl) (by kernel_rfl) (obs_ok (l := []) (by kernel_rfl) obsNil) (by kernel_rfl) (by intro v; kernel_rfl)
noncomputable def c_ref02_Less : Code := match Tryz.f106.body with | some c => c | none => .skip
noncomputable def tab_ref02_Less (_ : Nat) : List (Nat × Ctr) := []
noncomputable def env_ref02_Less (N : Nat) : Env := mkEnv tyRows eqRows methRows [] [] (tab_ref02_Less N)
theorem envok_ref02_Less (N : Nat) : EnvOk Tryz.prog (env_ref02_Less N) := mkEnv_ok tyRows_ok eqRows_ok methRows_ok trivial
noncomputable def lam_ref02_Less (_ : Nat) : Lps := fun _ => none
noncomputable def ctr_ref02_Less (N : Nat) : Ctr := ctrOf (.cons .str .str) .bool [] (fun v => ref02_Less N v.1 v.2)
theorem sound_ref02_Less (N : Nat) : SoundF Tryz.prog 106 (fun vs => (ctr_ref02_Less N).run vs some) :=
  fn_sound (envok_ref02_Less N) mixed (Λ := lam_ref02_Less N) (fn := Tryz.f106) (c := c_ref02_Less) Tryz.func106 (by kernel_rfl) (by kernel_rfl) (obs_ok (l := []) (by kernel_rfl) obsNil) (by kernel_rfl) (by intro v; kernel_rfl)
noncomputable def c_ref02_Covers : Code := match Tryz.f98.body with | some c => c | none => .skip
noncomputable def tab_ref02_Covers (N : Nat) : List (Nat × Ctr) := [(20, ctr_ref02_Empty N), (106, ctr_ref02_Less N)]
noncomputable def env_ref02_Covers (N : Nat) : Env := mkEnv tyRows eqRows methRows [] [] (tab_ref02_Covers N)
theorem envok_ref02_Covers (N : Nat) : EnvOk Tryz.prog (env_ref02_Covers N) := mkEnv_ok tyRows_ok eqRows_ok methRows_ok ⟨sound_ref02_Empty N, ⟨sound_ref02_Less N, trivial⟩⟩
noncomputable def lam_ref02_Covers (_ : Nat) : Lps := fun _ => none
noncomputable def ctr_ref02_Covers (N : Nat) : Ctr := ctrOf (.cons (.val T_api_Span) (.val T_api_Span)) .bool [] (fun v => ref02_Covers N v.1 v.2)
theorem sound_ref02_Covers (N : Nat) : SoundF Tryz.prog 98 (fun vs => (ctr_ref02_Covers N).run vs some) :=
  fn_sound (envok_ref02_Covers N) mixed (Λ := lam_ref02_Covers N) (fn := Tryz.f98) (c := c_ref02_Covers) Tryz.func98 (by kernel_rfl) (by kernel_rfl) (obs_ok (l := []) (by kernel_rfl) obsNil) (by kernel_rfl) (by intro v; kernel_rfl)
noncomputable def c_ref10_Inside : Code := match Tryz.f56.body with | some c => c | none => .skip
noncomputable def tab_ref10_Inside (N : Nat) : List (Nat × Ctr) := [(96, ctr_ref05_Reads N), (97, ctr_ref05_Writes N), (98, ctr_ref02_Covers N)]
noncomputable def env_ref10_Inside (N : Nat) : Env := mkEnv tyRows eqRows methRows [] [] (tab_ref10_Inside N)
theorem envok_ref10_Inside (N : Nat) : EnvOk Tryz.prog (env_ref10_Inside N) := mkEnv_ok tyRows_ok eqRows_ok methRows_ok ⟨sound_ref05_Reads N, ⟨sound_ref05_Writes N, ⟨sound_ref02_Covers N, trivial⟩⟩⟩
noncomputable def cut_ref10_Inside_l0 : Cut := { tms := [3, 5, 6], sh := (.cons (.ptr 2000000 0) (.cons (.own 2000001) (.int .i64))), objs := [(2000000, [3], .box (.cons .str .str)), (2000001, [5], .sl T_api_Span)], sts := [] }
noncomputable def cut_ref10_Inside_l0_o0 : Cut := { tms := [4], sh := .bool, objs := [], sts := [] }
noncomputable def cut_ref10_Inside_l0_o1 : Cut := { tms := [], sh := .nil, objs := [], sts := [] }
noncomputable def lp_ref10_Inside_l0 (N : Nat) : Lp := lpOf cut_ref10_Inside_l0 (1, cut_ref10_Inside_l0_o0) [(2, cut_ref10_Inside_l0_o1)] (fun v => ref10_Inside_l0 N N v.1.2.2 v.2.1.1 v.2.1.2 v.2.2.1)
noncomputable def lam_ref10_Inside_l0 (_ : Nat) : Lps := fun _ => none
theorem lpok_ref10_Inside_l0 (N : Nat) (ro : Option Nat) : LpOk Tryz.prog 25 ro (lp_ref10_Inside_l0 N) (codeAt c_ref10_Inside [true, true, false, true, false]) := by
  rw [show (codeAt c_ref10_Inside [true, true, false, true, false]) = .loop (codeAt c_ref10_Inside [true, true, false, true, false, false]) by kernel_rfl]
  exact loop_ok (envok_ref10_Inside N) mixed (Λ := lam_ref10_Inside_l0 N) (p := 116) (obs_ok (l := []) (by kernel_rfl) obsNil) (by kernel_rfl) (by intro rec v; kernel_rfl) N
noncomputable def lam_ref10_Inside (N : Nat) : Lps := fun p => bif Nat.beq p 58 then some (lp_ref10_Inside_l0 N) else none
noncomputable def ctr_ref10_Inside (N : Nat) : Ctr := ctrOf (.cons (.val T_api_Msg) (.val T_api_Span)) .bool [] (fun v => ref10_Inside N v.1 v.2)
theorem sound_ref10_Inside (N : Nat) : SoundF Tryz.prog 56 (fun vs => (ctr_ref10_Inside N).run vs some) :=
  fn_sound (envok_ref10_Inside N) mixed (Λ := lam_ref10_Inside N) (fn := Tryz.f56) (c := c_ref10_Inside) Tryz.func56 (by kernel_rfl) (by kernel_rfl) (obs_ok (l := [(lp_ref10_Inside_l0 N, (codeAt c_ref10_Inside [true, true, false, true, false]))]) (by kernel_rfl) (obsCons (lpok_ref10_Inside_l0 N none) obsNil)) (by kernel_rfl) (by intro v; kernel_rfl)
noncomputable def c_ref10_Valid : Code := match Tryz.f15.body with | some c => c | none => .skip
noncomputable def tab_ref10_Valid (N : Nat) : List (Nat × Ctr) := [(52, ctr_ref10_leaf N), (53, ctr_ref10_pivots N), (54, ctr_ref10_in N), (55, ctr_ref10_bound N), (30, ctr_ref05_Valid N), (56, ctr_ref10_Inside N)]
noncomputable def env_ref10_Valid (N : Nat) : Env := mkEnv tyRows eqRows methRows [] [] (tab_ref10_Valid N)
theorem envok_ref10_Valid (N : Nat) : EnvOk Tryz.prog (env_ref10_Valid N) := mkEnv_ok tyRows_ok eqRows_ok methRows_ok ⟨sound_ref10_leaf N, ⟨sound_ref10_pivots N, ⟨sound_ref10_in N, ⟨sound_ref10_bound N, ⟨sound_ref05_Valid N, ⟨sound_ref10_Inside N, trivial⟩⟩⟩⟩⟩⟩
noncomputable def cut_ref10_Valid_l2 : Cut := { tms := [2, 3, 6], sh := (.cons (.ptr 2000000 0) (.cons (.ptr 2000001 0) (.int .i64))), objs := [(2000000, [2], .box (.cons (.list T_api_Pair) (.cons (.list .str) (.cons (.list (.int .i64)) (.cons (.list T_api_Sum) (.list T_api_Msg)))))), (2000001, [3], .box (.cons .str .str))], sts := [] }
noncomputable def cut_ref10_Valid_l2_o0 : Cut := { tms := [4], sh := .bool, objs := [], sts := [] }
noncomputable def cut_ref10_Valid_l2_o1 : Cut := { tms := [], sh := .nil, objs := [], sts := [] }
noncomputable def lp_ref10_Valid_l2 (N : Nat) : Lp := lpOf cut_ref10_Valid_l2 (1, cut_ref10_Valid_l2_o0) [(4, cut_ref10_Valid_l2_o1)] (fun v => ref10_Valid_l2 N N v.1.2.2 v.2.1.1 v.2.1.2.1 v.2.1.2.2.1 v.2.1.2.2.2.1 v.2.1.2.2.2.2 v.2.2.1.1 v.2.2.1.2)
noncomputable def lam_ref10_Valid_l2 (_ : Nat) : Lps := fun _ => none
theorem lpok_ref10_Valid_l2 (N : Nat) (ro : Option Nat) : LpOk Tryz.prog 102 ro (lp_ref10_Valid_l2 N) (codeAt c_ref10_Valid [true, true, true, true, false, true, false]) := by
  rw [show (codeAt c_ref10_Valid [true, true, true, true, false, true, false]) = .loop (codeAt c_ref10_Valid [true, true, true, true, false, true, false, false]) by kernel_rfl]
  exact loop_ok (envok_ref10_Valid N) mixed (Λ := lam_ref10_Valid_l2 N) (p := 500) (obs_ok (l := []) (by kernel_rfl) obsNil) (by kernel_rfl) (by intro rec v; kernel_rfl) N
noncomputable def cut_ref10_Valid_l1 : Cut := { tms := [2, 3, 5], sh := (.cons (.ptr 2000000 0) (.cons (.ptr 2000001 0) (.int .i64))), objs := [(2000000, [2], .box (.cons (.list T_api_Pair) (.cons (.list .str) (.cons (.list (.int .i64)) (.cons (.list T_api_Sum) (.list T_api_Msg)))))), (2000001, [3], .box (.cons .str .str))], sts := [] }
noncomputable def cut_ref10_Valid_l1_o0 : Cut := { tms := [4], sh := .bool, objs := [], sts := [] }
noncomputable def cut_ref10_Valid_l1_o1 : Cut := { tms := [2, 3], sh := (.cons (.ptr 2000000 0) (.ptr 2000001 0)), objs := [(2000000, [2], .box (.cons (.list T_api_Pair) (.cons (.list .str) (.cons (.list (.int .i64)) (.cons (.list T_api_Sum) (.list T_api_Msg)))))), (2000001, [3], .box (.cons .str .str))], sts := [] }
noncomputable def lp_ref10_Valid_l1 (N : Nat) : Lp := lpOf cut_ref10_Valid_l1 (1, cut_ref10_Valid_l1_o0) [(2, cut_ref10_Valid_l1_o1)] (fun v => ref10_Valid_l1 N N v.1.2.2 v.2.1.1 v.2.1.2.1 v.2.1.2.2.1 v.2.1.2.2.2.1 v.2.1.2.2.2.2 v.2.2.1.1 v.2.2.1.2)
noncomputable def lam_ref10_Valid_l1 (_ : Nat) : Lps := fun _ => none
theorem lpok_ref10_Valid_l1 (N : Nat) (ro : Option Nat) : LpOk Tryz.prog 102 ro (lp_ref10_Valid_l1 N) (codeAt c_ref10_Valid [true, true, true, false, true, false]) := by
  rw [show (codeAt c_ref10_Valid [true, true, true, false, true, false]) = .loop (codeAt c_ref10_Valid [true, true, true, false, true, false, false]) by kernel_rfl]
  exact loop_ok (envok_ref10_Valid N) mixed (Λ := lam_ref10_Valid_l1 N) (p := 244) (obs_ok (l := []) (by kernel_rfl) obsNil) (by kernel_rfl) (by intro rec v; kernel_rfl) N
noncomputable def cut_ref10_Valid_p0 : Cut := { tms := [2, 3], sh := (.cons (.ptr 2000000 0) (.ptr 2000001 0)), objs := [(2000000, [2], .box (.cons (.list T_api_Pair) (.cons (.list .str) (.cons (.list (.int .i64)) (.cons (.list T_api_Sum) (.list T_api_Msg)))))), (2000001, [3], .box (.cons .str .str))], sts := [] }
noncomputable def cut_ref10_Valid_p0_o0 : Cut := { tms := [4], sh := .bool, objs := [], sts := [] }
noncomputable def lp_ref10_Valid_p0 (N : Nat) : Lp := lpOf cut_ref10_Valid_p0 (1, cut_ref10_Valid_p0_o0) [] (fun v => ref10_Valid_p0 N v.2.1.1 v.2.1.2.1 v.2.1.2.2.1 v.2.1.2.2.2.1 v.2.1.2.2.2.2 v.2.2.1.1 v.2.2.1.2)
noncomputable def lam_ref10_Valid_p0 (N : Nat) : Lps := fun p => bif Nat.beq p 122 then some (lp_ref10_Valid_l1 N) else bif Nat.beq p 250 then some (lp_ref10_Valid_l2 N) else none
theorem lpok_ref10_Valid_p0 (N : Nat) (ro : Option Nat) : LpOk Tryz.prog 102 ro (lp_ref10_Valid_p0 N) (codeAt c_ref10_Valid [true, true, true]) :=
  piece_ok (envok_ref10_Valid N) mixed (Λ := lam_ref10_Valid_p0 N) (p := 15) (obs_ok (l := [(lp_ref10_Valid_l1 N, (codeAt c_ref10_Valid [true, true, true, false, true, false])), (lp_ref10_Valid_l2 N, (codeAt c_ref10_Valid [true, true, true, true, false, true, false]))]) (by kernel_rfl) (obsCons (lpok_ref10_Valid_l1 N ro) (obsCons (lpok_ref10_Valid_l2 N ro) obsNil))) (by kernel_rfl) (by intro v; kernel_rfl)
noncomputable def lam_ref10_Valid (N : Nat) : Lps := fun p => bif Nat.beq p 15 then some (lp_ref10_Valid_p0 N) else none
noncomputable def ctr_ref10_Valid (N : Nat) : Ctr := ctrOf (.cons (.val T_api_Node) (.val T_api_Span)) .bool [] (fun v => ref10_Valid N v.1 v.2)
theorem sound_ref10_Valid (N : Nat) : SoundF Tryz.prog 15 (fun vs => (ctr_ref10_Valid N).run vs some) :=
  fn_sound (envok_ref10_Valid N) mixed (Λ := lam_ref10_Valid N) (fn := Tryz.f15) (c := c_ref10_Valid) Tryz.func15 (by kernel_rfl) (by kernel_rfl) (obs_ok (l := [(lp_ref10_Valid_p0 N, (codeAt c_ref10_Valid [true, true, true]))]) (by kernel_rfl) (obsCons (lpok_ref10_Valid_p0 N none) obsNil)) (by kernel_rfl) (by intro v; kernel_rfl)
noncomputable def c_law10_NodeBytes : Code := match Tryz.f4.body with | some c => c | none => .skip
noncomputable def tab_law10_NodeBytes (N : Nat) : List (Nat × Ctr) := [(9, ctr_law10_sanity N), (11, ctr_ref10_Made N), (16, ctr_node_Bytes N), (17, ctr_node_Parse N), (18, ctr_ref10_Same N), (19, ctr_ref05_SameBytes N), (15, ctr_ref10_Valid N)]
noncomputable def env_law10_NodeBytes (N : Nat) : Env := mkEnv tyRows eqRows methRows [(6, [31]), (15, [2000001])] [] (tab_law10_NodeBytes N)
theorem envok_law10_NodeBytes (N : Nat) : EnvOk Tryz.prog (env_law10_NodeBytes N) := mkEnv_ok tyRows_ok eqRows_ok methRows_ok ⟨sound_law10_sanity N, ⟨sound_ref10_Made N, ⟨sound_node_Bytes N, ⟨sound_node_Parse N, ⟨sound_ref10_Same N, ⟨sound_ref05_SameBytes N, ⟨sound_ref10_Valid N, trivial⟩⟩⟩⟩⟩⟩⟩
noncomputable def cut_law10_NodeBytes_p3 : Cut := { tms := [7, 15, 16, 119], sh := (.cons .bool (.cons (.ptr 2000000 0) (.cons (.int .i64) .bool))), objs := [(2000000, [15], .box (.cons (.list (.int .u8)) (.list (.int .u8))))], sts := [] }
noncomputable def cut_law10_NodeBytes_p3_o0 : Cut := { tms := [6], sh := .bool, objs := [], sts := [] }
noncomputable def cut_law10_NodeBytes_p3_o1 : Cut := { tms := [7, 15, 16], sh := (.cons .bool (.cons (.ptr 2000000 0) (.int .i64))), objs := [(2000000, [15], .box (.cons (.list (.int .u8)) (.list (.int .u8))))], sts := [] }
noncomputable def lp_law10_NodeBytes_p3 (N : Nat) : Lp := lpOf cut_law10_NodeBytes_p3 (1, cut_law10_NodeBytes_p3_o0) [(0, cut_law10_NodeBytes_p3_o1)] (fun v => law10_NodeBytes_p3 N v.1.1 v.1.2.2.1 v.1.2.2.2 v.2.1.1 v.2.1.2)
noncomputable def lam_law10_NodeBytes_p3 (_ : Nat) : Lps := fun _ => none
theorem lpok_law10_NodeBytes_p3 (N : Nat) (ro : Option Nat) : LpOk Tryz.prog 121 ro (lp_law10_NodeBytes_p3 N) (codeAt c_law10_NodeBytes [true, true, true, true, true, true, true, true, true, true, false, true, false, false, true, false, false, true, true]) :=
  piece_ok (envok_law10_NodeBytes N) mixed (Λ := lam_law10_NodeBytes_p3 N) (p := 1048211) (obs_ok (l := []) (by kernel_rfl) obsNil) (by kernel_rfl) (by intro v; kernel_rfl)
noncomputable def cut_law10_NodeBytes_p2 : Cut := { tms := [7, 15, 16], sh := (.cons .bool (.cons (.ptr 2000000 0) (.int .i64))), objs := [(2000000, [15], .box (.cons (.list (.int .u8)) (.list (.int .u8))))], sts := [] }
noncomputable def cut_law10_NodeBytes_p2_o0 : Cut := { tms := [7, 15, 16], sh := (.cons .bool (.cons (.ptr 2000000 0) (.int .i64))), objs := [(2000000, [15], .box (.cons (.list (.int .u8)) (.list (.int .u8))))], sts := [] }
noncomputable def lp_law10_NodeBytes_p2 (N : Nat) : Lp := lpOf cut_law10_NodeBytes_p2 (0, cut_law10_NodeBytes_p2_o0) [] (fun v => law10_NodeBytes_p2 N v.1.1 v.1.2.2 v.2.1.1 v.2.1.2)
noncomputable def lam_law10_NodeBytes_p2 (_ : Nat) : Lps := fun _ => none
theorem lpok_law10_NodeBytes_p2 (N : Nat) (ro : Option Nat) : LpOk Tryz.prog 121 ro (lp_law10_NodeBytes_p2 N) (codeAt c_law10_NodeBytes [true, true, true, true, true, true, true, true, true, true, false, true, false, false, true, true]) :=
  piece_ok (envok_law10_NodeBytes N) mixed (Λ := lam_law10_NodeBytes_p2 N) (p := 131027) (obs_ok (l := []) (by kernel_rfl) obsNil) (by kernel_rfl) (by intro v; kernel_rfl)
noncomputable def cut_law10_NodeBytes_l1 : Cut := { tms := [7, 15, 16], sh := (.cons .bool (.cons (.ptr 2000000 0) (.int .i64))), objs := [(2000000, [15], .box (.cons (.list (.int .u8)) (.list (.int .u8))))], sts := [63] }
noncomputable def cut_law10_NodeBytes_l1_o0 : Cut := { tms := [6], sh := .bool, objs := [], sts := [] }
noncomputable def cut_law10_NodeBytes_l1_o1 : Cut := { tms := [7], sh := .bool, objs := [], sts := [] }
noncomputable def lp_law10_NodeBytes_l1 (N : Nat) : Lp := lpOf cut_law10_NodeBytes_l1 (1, cut_law10_NodeBytes_l1_o0) [(2, cut_law10_NodeBytes_l1_o1)] (fun v => law10_NodeBytes_l1 N N v.1.1 v.1.2.2 v.2.1.1 v.2.1.2)
noncomputable def lam_law10_NodeBytes_l1 (N : Nat) : Lps := fun p => bif Nat.beq p 131027 then some (lp_law10_NodeBytes_p2 N) else bif Nat.beq p 1048211 then some (lp_law10_NodeBytes_p3 N) else none
theorem lpok_law10_NodeBytes_l1 (N : Nat) (ro : Option Nat) : LpOk Tryz.prog 121 ro (lp_law10_NodeBytes_l1 N) (codeAt c_law10_NodeBytes [true, true, true, true, true, true, true, true, true, true, false, true, false]) := by
  rw [show (codeAt c_law10_NodeBytes [true, true, true, true, true, true, true, true, true, true, false, true, false]) = .loop (codeAt c_law10_NodeBytes [true, true, true, true, true, true, true, true, true, true, false, true, false, false]) by kernel_rfl]
  exact loop_ok (envok_law10_NodeBytes N) mixed (Λ := lam_law10_NodeBytes_l1 N) (p := 32756) (obs_ok (l := [(lp_law10_NodeBytes_p3 N, (codeAt c_law10_NodeBytes [true, true, true, true, true, true, true, true, true, true, false, true, false, false, true, false, false, true, true])), (lp_law10_NodeBytes_p2 N, (codeAt c_law10_NodeBytes [true, true, true, true, true, true, true, true, true, true, false, true, false, false, true, true]))]) (by kernel_rfl) (obsCons (lpok_law10_NodeBytes_p3 N ro) (obsCons (lpok_law10_NodeBytes_p2 N ro) obsNil))) (by kernel_rfl) (by intro rec v; kernel_rfl) N
noncomputable def cut_law10_NodeBytes_p0 : Cut := { tms := [2, 4, 7, 10], sh := (.cons (.list (.int .u8)) (.cons (.ptr 2000000 0) (.cons .bool (.list (.int .u8))))), objs := [(2000000, [4], .box (.cons (.int .u16) (.int .u16)))], sts := [] }
noncomputable def cut_law10_NodeBytes_p0_o0 : Cut := { tms := [6], sh := .bool, objs := [], sts := [] }
noncomputable def lp_law10_NodeBytes_p0 (N : Nat) : Lp := lpOf cut_law10_NodeBytes_p0 (1, cut_law10_NodeBytes_p0_o0) [] (fun v => law10_NodeBytes_p0 N v.1.1 v.1.2.2.1 v.1.2.2.2 v.2.1.1 v.2.1.2)
noncomputable def lam_law10_NodeBytes_p0 (N : Nat) : Lps := fun p => bif Nat.beq p 16378 then some (lp_law10_NodeBytes_l1 N) else none
theorem lpok_law10_NodeBytes_p0 (N : Nat) (ro : Option Nat) : LpOk Tryz.prog 121 ro (lp_law10_NodeBytes_p0 N) (codeAt c_law10_NodeBytes [true, true, true, true, true, true, true]) :=
  piece_ok (envok_law10_NodeBytes N) mixed (Λ := lam_law10_NodeBytes_p0 N) (p := 255) (obs_ok (l := [(lp_law10_NodeBytes_l1 N, (codeAt c_law10_NodeBytes [true, true, true, true, true, true, true, true, true, true, false, true, false]))]) (by kernel_rfl) (obsCons (lpok_law10_NodeBytes_l1 N ro) obsNil)) (by kernel_rfl) (by intro v; kernel_rfl)
noncomputable def lam_law10_NodeBytes (N : Nat) : Lps := fun p => bif Nat.beq p 255 then some (lp_law10_NodeBytes_p0 N) else none
noncomputable def ctr_law10_NodeBytes (N : Nat) : Ctr := ctrOf (.cons (.val T_a2_ref10_Raw) (.cons (.val T_a2_uint16) (.list (.int .u8)))) .bool [] (fun v => law10_NodeBytes N v.1 v.2.1 v.2.2)
theorem sound_law10_NodeBytes (N : Nat) : SoundF Tryz.prog 4 (fun vs => (ctr_law10_NodeBytes N).run vs some) :=
  fn_sound (envok_law10_NodeBytes N) mixed (Λ := lam_law10_NodeBytes N) (fn := Tryz.f4) (c := c_law10_NodeBytes) Tryz.func4 (by kernel_rfl) (by kernel_rfl) (obs_ok (l := [(lp_law10_NodeBytes_p0 N, (codeAt c_law10_NodeBytes [true, true, true, true, true, true, true]))]) (by kernel_rfl) (obsCons (lpok_law10_NodeBytes_p0 N none) obsNil)) (by kernel_rfl) (by intro v; kernel_rfl)
end Go.Proofs.YtpgikdaeicidaaaGreatDoor
