/- Printed by a program of the session's: what the program's functions compute, and that they do. -/
import Derived.Test.YtpgikdaeicidaaaGreatDoorDsPure
import Derived.Test.YtpgikdaeicidaaaGreatDoorDsChkA
import Derived.Test.YtpgikdaeicidaaaGreatDoorProg
import Derived.KernelRfl
set_option linter.all false
namespace Go.Proofs.YtpgikdaeicidaaaGreatDoor
open Go Go.Dv Ds
set_option maxRecDepth 100000
noncomputable section
variable (N : Nat)
def zqx : Code := match Tryz.f121.body with | some c => c | none => .skip
def ynh : List (Nat × Ctr) := [(129, zso N)]
def ypu : Env := Y9 tyRows eqRows Z9 [] [] (ynh N)
theorem zom : EnvOk Tryz.prog (ypu N) := Y0 Z5 Z6 Z3 ⟨y96 N, trivial⟩
def yc8 : Cut := { tms := [0], sh := .str, objs := [], sts := [] }
def zyu : Cut := { tms := [2], sh := .bool, objs := [], sts := [] }
def zf2 : Lp := lpOf yc8 (1, zyu) [] (fun v => zf7 N v.1)
def yaz (_ : Nat) : Lps := fun _ => none
theorem y4j (ro : Option Nat) : LpOk Tryz.prog 25 ro (zf2 N) (Z8 zqx [true, true]) :=
  z0m (zom N) mixed (Λ := yaz N) (p := 7) (Y2 (l := []) (by kernel_rfl) Y3) (by kernel_rfl) (by intro v; kernel_rfl)
def yoj : Lps := fun p => bif Nat.beq p 7 then some (zf2 N) else none
def zwe : Ctr := X0 .str .bool [] (fun v => zb2 N v)
theorem ye4 : Y7 Tryz.prog 121 (fun vs => (zwe N).run vs some) :=
  Y4 (zom N) mixed (Λ := yoj N) (fn := Tryz.f121) (c := zqx) Tryz.func121 (by kernel_rfl) (by kernel_rfl) (Y2 (l := [(zf2 N, (Z8 zqx [true, true]))]) (by kernel_rfl) (X3 (y4j N none) Y3)) (by kernel_rfl) (by intro v; kernel_rfl)
def z99 : Code := match Tryz.f104.body with | some c => c | none => .skip
def yzp : List (Nat × Ctr) := [(120, zmp N), (122, zj0 N), (121, zwe N)]
def x08 : Env := Y9 tyRows eqRows Z9 [] [] (yzp N)
theorem zaq : EnvOk Tryz.prog (x08 N) := Y0 Z5 Z6 Z3 ⟨zs8 N, ⟨zo7 N, ⟨ye4 N, trivial⟩⟩⟩
def ypx : Cut := { tms := [1, 4, 66], sh := Sz19, objs := [(2000000, [1], .box Sz5), (2000001, [4], .box Sz5)], sts := [] }
def yca : Cut := { tms := [2, 3], sh := Sz15, objs := [], sts := [] }
def yc9 : Cut := { tms := [], sh := .nil, objs := [], sts := [] }
def zmd : Lp := lpOf ypx (1, yca) [(0, yc9)] (fun v => z63 N v.1.2.2 v.2.1.1 v.2.1.2.1 v.2.1.2.2.1 v.2.1.2.2.2 v.2.2.1.1 v.2.2.1.2.1 v.2.2.1.2.2.1 v.2.2.1.2.2.2)
def yok (_ : Nat) : Lps := fun _ => none
theorem yjl (ro : Option Nat) : LpOk Tryz.prog 99 ro (zmd N) (Z8 z99 [true, true, false, true, false, false, true, true, true, true, true]) :=
  z0m (zaq N) mixed (Λ := yok N) (p := 3743) (Y2 (l := []) (by kernel_rfl) Y3) (by kernel_rfl) (by intro v; kernel_rfl)
def ypy : Cut := { tms := [1, 4, 35], sh := Sz19, objs := [(2000000, [1], .box Sz5), (2000001, [4], .box Sz5)], sts := [] }
def ycc : Cut := { tms := [2, 3], sh := Sz15, objs := [], sts := [] }
def ycb : Cut := { tms := [], sh := .nil, objs := [], sts := [] }
def zme : Lp := lpOf ypy (1, ycc) [(0, ycb)] (fun v => z0u N v.1.2.2 v.2.1.1 v.2.1.2.1 v.2.1.2.2.1 v.2.1.2.2.2 v.2.2.1.1 v.2.2.1.2.1 v.2.2.1.2.2.1 v.2.2.1.2.2.2)
def yol : Lps := fun p => bif Nat.beq p 3743 then some (zmd N) else none
theorem yjm (ro : Option Nat) : LpOk Tryz.prog 99 ro (zme N) (Z8 z99 [true, true, false, true, false, false, true, true, true]) :=
  z0m (zaq N) mixed (Λ := yol N) (p := 935) (Y2 (l := [(zmd N, (Z8 z99 [true, true, false, true, false, false, true, true, true, true, true]))]) (by kernel_rfl) (X3 (yjl N ro) Y3)) (by kernel_rfl) (by intro v; kernel_rfl)
def ypz : Cut := { tms := [1, 4, 22], sh := Sz19, objs := [(2000000, [1], .box Sz5), (2000001, [4], .box Sz5)], sts := [] }
def yce : Cut := { tms := [2, 3], sh := Sz15, objs := [], sts := [] }
def ycd : Cut := { tms := [], sh := .nil, objs := [], sts := [] }
def zmf : Lp := lpOf ypz (1, yce) [(0, ycd)] (fun v => z4b N v.1.2.2 v.2.1.1 v.2.1.2.1 v.2.1.2.2.1 v.2.1.2.2.2 v.2.2.1.1 v.2.2.1.2.1 v.2.2.1.2.2.1 v.2.2.1.2.2.2)
def yom : Lps := fun p => bif Nat.beq p 935 then some (zme N) else none
theorem yjn (ro : Option Nat) : LpOk Tryz.prog 99 ro (zmf N) (Z8 z99 [true, true, false, true]) :=
  z0m (zaq N) mixed (Λ := yom N) (p := 29) (Y2 (l := [(zme N, (Z8 z99 [true, true, false, true, false, false, true, true, true]))]) (by kernel_rfl) (X3 (yjm N ro) Y3)) (by kernel_rfl) (by intro v; kernel_rfl)
def yq0 : Cut := { tms := [], sh := .nil, objs := [], sts := [] }
def ycf : Cut := { tms := [2, 3], sh := Sz15, objs := [], sts := [] }
def zmg : Lp := lpOf yq0 (1, ycf) [] (fun _ => zq8 N)
def yon (_ : Nat) : Lps := fun _ => none
theorem yjo (ro : Option Nat) : LpOk Tryz.prog 99 ro (zmg N) (Z8 z99 [true, true, true]) :=
  z0m (zaq N) mixed (Λ := yon N) (p := 15) (Y2 (l := []) (by kernel_rfl) Y3) (by kernel_rfl) (by intro v; kernel_rfl)
def yzx : Lps := fun p => bif Nat.beq p 15 then some (zmg N) else bif Nat.beq p 29 then some (zmf N) else none
def yho : Ctr := X0 (.val zqi) (.tup (.cons .str (.int .i64))) [] (fun v => z9z N v)
theorem yrs : Y7 Tryz.prog 104 (fun vs => (yho N).run vs some) :=
  Y4 (zaq N) mixed (Λ := yzx N) (fn := Tryz.f104) (c := z99) Tryz.func104 (by kernel_rfl) (by kernel_rfl) (Y2 (l := [(zmf N, (Z8 z99 [true, true, false, true])), (zmg N, (Z8 z99 [true, true, true]))]) (by kernel_rfl) (X3 (yjn N none) (X3 (yjo N none) Y3))) (by kernel_rfl) (by intro v; kernel_rfl)
def x0n : Code := match Tryz.f79.body with | some c => c | none => .skip
def yrj : List (Nat × Ctr) := [(104, yho N)]
def ymw : List (Nat × CtrM) := [(103, zfw N)]
def ytf : Env := Y9 tyRows eqRows Z9 [] [12] (yrj N) (ymw N)
theorem yko : EnvOk Tryz.prog (ytf N) := Y0 Z5 Z6 Z3 ⟨yrs N, trivial⟩ ⟨zr8 N, trivial⟩
def ysh (_ : Nat) : Lps := fun _ => none
def zf9 : Ctr := X0 .str (.tup (.cons (.val zqi) (.int .i64))) [] (fun v => z2c N v)
theorem zga : Y7 Tryz.prog 79 (fun vs => (zf9 N).run vs some) :=
  Y4 (yko N) mixed (Λ := ysh N) (fn := Tryz.f79) (c := x0n) Tryz.func79 (by kernel_rfl) (by kernel_rfl) (Y2 (l := []) (by kernel_rfl) Y3) (by kernel_rfl) (by intro v; kernel_rfl)
def ytz : Code := match Tryz.f81.body with | some c => c | none => .skip
def yiv : List (Nat × Ctr) := [(79, zf9 N)]
def yl4 : Env := Y9 tyRows eqRows Z9 [] [] (yiv N)
theorem ybj : EnvOk Tryz.prog (yl4 N) := Y0 Z5 Z6 Z3 ⟨zga N, trivial⟩
def yka (_ : Nat) : Lps := fun _ => none
def zsy : Ctr := X0 (.val Y1) (.val zuz) [] (fun v => z3x N v)
theorem y9g : Y7 Tryz.prog 81 (fun vs => (zsy N).run vs some) :=
  Y4 (ybj N) mixed (Λ := yka N) (fn := Tryz.f81) (c := ytz) Tryz.func81 (by kernel_rfl) (by kernel_rfl) (Y2 (l := []) (by kernel_rfl) Y3) (by kernel_rfl) (by intro v; kernel_rfl)
def zcr : Code := match Tryz.f27.body with | some c => c | none => .skip
def ynj : List (Nat × Ctr) := [(81, zsy N)]
def ypw : Env := Y9 tyRows eqRows Z9 [] [] (ynj N)
theorem zon : EnvOk Tryz.prog (ypw N) := Y0 Z5 Z6 Z3 ⟨y9g N, trivial⟩
def ycl : Cut := { tms := [2, 3, 7, 8, 9], sh := (.cons (.ptr 2000000 0) (.cons (.ptr 2000001 0) (.cons (.list Y1) Sz1))), objs := [(2000000, [2], .box Sz1), (2000001, [3], .box Sz1)], sts := [] }
def zyx : Cut := { tms := [2, 3], sh := Sz9, objs := [(2000000, [2], .box Sz1), (2000001, [3], .box Sz1)], sts := [] }
def zf3 : Lp := lpOf ycl (2, zyx) [] (fun v => zav N N v.1.2.2.1 v.1.2.2.2.1 v.1.2.2.2.2 v.2.1.1 v.2.1.2 v.2.2.1.1 v.2.2.1.2)
def ybb (_ : Nat) : Lps := fun _ => none
theorem y4k (ro : Option Nat) : LpOk Tryz.prog 29 ro (zf3 N) (Z8 zcr [true, true, false, true, false]) := by
  rw [show (Z8 zcr [true, true, false, true, false]) = .loop (Z8 zcr [true, true, false, true, false, false]) by kernel_rfl]
  exact W6 (zon N) mixed (Λ := ybb N) (p := 116) (Y2 (l := []) (by kernel_rfl) Y3) (by kernel_rfl) (by intro rec v; kernel_rfl) N
def yot : Lps := fun p => bif Nat.beq p 58 then some (zf3 N) else none
def zj1 : Ctr := X0 (.list Y1) (.val zuz) [] (fun v => z65 N v)
theorem zo8 : Y7 Tryz.prog 27 (fun vs => (zj1 N).run vs some) :=
  Y4 (zon N) mixed (Λ := yot N) (fn := Tryz.f27) (c := zcr) Tryz.func27 (by kernel_rfl) (by kernel_rfl) (Y2 (l := [(zf3 N, (Z8 zcr [true, true, false, true, false]))]) (by kernel_rfl) (X3 (y4k N none) Y3)) (by kernel_rfl) (by intro v; kernel_rfl)
def yqb : Code := match Tryz.f77.body with | some c => c | none => .skip
def ydi (_ : Nat) : List (Nat × Ctr) := []
def yfy : Env := Y9 tyRows eqRows Z9 [] [] (ydi N)
theorem y5g : EnvOk Tryz.prog (yfy N) := Y0 Z5 Z6 Z3 trivial
def yf0 (_ : Nat) : Lps := fun _ => none
def y1s : Cut := { tms := [0, 1, 2], sh := (.cons (.ptr 5000000 0) Sz1), objs := [(5000000, [0], .box Sz4)], sts := [] }
def zuk : Cut := { tms := [0], sh := (.tup .nil), objs := [(5000000, [5000000], .box Sz4)], sts := [] }
def zf5 : CtrM := ctrM y1s zuk [] (fun v => z6b N v.1.2.1 v.1.2.2 v.2.1.1 v.2.1.2.1 v.2.1.2.2.1 v.2.1.2.2.2)
theorem zj6 : z03 Tryz.prog 77 (zf5 N) :=
  U4 (y5g N) mixed (Λ := yf0 N) (fn := Tryz.f77) (c := yqb) Tryz.func77 (by kernel_rfl) (by kernel_rfl) (Y2 (l := []) (by kernel_rfl) Y3) (by kernel_rfl) (by intro v; kernel_rfl)
def yh2 : Code := match Tryz.f77.body with | some c => c | none => .skip
def y3f (_ : Nat) : List (Nat × Ctr) := []
def y5s : Env := Y9 tyRows eqRows Z9 [] [] (y3f N)
theorem zxt : EnvOk Tryz.prog (y5s N) := Y0 Z5 Z6 Z3 trivial
def y4w (_ : Nat) : Lps := fun _ => none
def zul : Cut := { tms := [0, 1, 2], sh := (.cons (.ptr 5000000 2) Sz1), objs := [(5000000, [0], .box Sz4)], sts := [] }
def zpq : Cut := { tms := [0], sh := (.tup .nil), objs := [(5000000, [5000000], .box Sz4)], sts := [] }
def zc1 : CtrM := ctrM zul zpq [] (fun v => z07 N v.1.2.1 v.1.2.2 v.2.1.1 v.2.1.2.1 v.2.1.2.2.1 v.2.1.2.2.2)
theorem zfq : z03 Tryz.prog 77 (zc1 N) :=
  U4 (zxt N) mixed (Λ := y4w N) (fn := Tryz.f77) (c := yh2) Tryz.func77 (by kernel_rfl) (by kernel_rfl) (Y2 (l := []) (by kernel_rfl) Y3) (by kernel_rfl) (by intro v; kernel_rfl)
def yqa : Code := match Tryz.f78.body with | some c => c | none => .skip
def ydh (_ : Nat) : List (Nat × Ctr) := []
def y8q : List (Nat × CtrM) := [(77, zf5 N), (77, zc1 N)]
def yfx : Env := Y9 tyRows eqRows Z9 [] [10, 15] (ydh N) (y8q N)
theorem y5f : EnvOk Tryz.prog (yfx N) := Y0 Z5 Z6 Z3 trivial ⟨zj6 N, ⟨zfq N, trivial⟩⟩
def yez (_ : Nat) : Lps := fun _ => none
def y1r : Cut := { tms := [0, 1, 2, 3], sh := (.cons (.int .i64) (.cons (.int .i64) (.cons (.ptr 5000000 0) (.ptr 5000001 0)))), objs := [(5000000, [2], .box (.clo 77 .nil)), (5000001, [3], .box Sz4)], sts := [] }
def zuj : Cut := { tms := [0], sh := (.tup .nil), objs := [(5000000, [5000000], .box (.clo 77 .nil)), (5000001, [5000001], .box Sz4)], sts := [] }
def zos : CtrM := ctrM y1r zuj [] (fun v => zce N v.1.1 v.1.2.1 v.2.2.1.1 v.2.2.1.2.1 v.2.2.1.2.2.1 v.2.2.1.2.2.2)
theorem y3u : z03 Tryz.prog 78 (zos N) :=
  U4 (y5f N) mixed (Λ := yez N) (fn := Tryz.f78) (c := yqa) Tryz.func78 (by kernel_rfl) (by kernel_rfl) (Y2 (l := []) (by kernel_rfl) Y3) (by kernel_rfl) (by intro v; kernel_rfl)
def x3a : Code := match Tryz.f105.body with | some c => c | none => .skip
def ywd : List (Nat × Ctr) := [(120, zmp N), (79, zf9 N)]
def yxl : Env := Y9 tyRows eqRows Z9 [] [] (ywd N)
theorem yp5 : EnvOk Tryz.prog (yxl N) := Y0 Z5 Z6 Z3 ⟨zs8 N, ⟨zga N, trivial⟩⟩
def yx0 (_ : Nat) : Lps := fun _ => none
def y8h : Ctr := X0 .str (.int .i64) [] (fun v => zmu N v)
theorem ynr : Y7 Tryz.prog 105 (fun vs => (y8h N).run vs some) :=
  Y4 (yp5 N) mixed (Λ := yx0 N) (fn := Tryz.f105) (c := x3a) Tryz.func105 (by kernel_rfl) (by kernel_rfl) (Y2 (l := []) (by kernel_rfl) Y3) (by kernel_rfl) (by intro v; kernel_rfl)
def x0o : Code := match Tryz.f80.body with | some c => c | none => .skip
def yrk : List (Nat × Ctr) := [(105, y8h N)]
def ytg : Env := Y9 tyRows eqRows Z9 [] [] (yrk N)
theorem ykp : EnvOk Tryz.prog (ytg N) := Y0 Z5 Z6 Z3 ⟨ynr N, trivial⟩
def ysi (_ : Nat) : Lps := fun _ => none
def y2s : Ctr := X0 (.cons .str .str) .bool [] (fun v => zvq N v.1 v.2)
theorem yjb : Y7 Tryz.prog 80 (fun vs => (y2s N).run vs some) :=
  Y4 (ykp N) mixed (Λ := ysi N) (fn := Tryz.f80) (c := x0o) Tryz.func80 (by kernel_rfl) (by kernel_rfl) (Y2 (l := []) (by kernel_rfl) Y3) (by kernel_rfl) (by intro v; kernel_rfl)
def z3u : Code := match Tryz.f25.body with | some c => c | none => .skip
def yzq : List (Nat × Ctr) := [(27, zj1 N), (79, zf9 N), (80, y2s N)]
def yw3 : List (Nat × CtrM) := [(77, zf5 N), (77, zc1 N), (78, zos N)]
def x09 : Env := Y9 tyRows eqRows Z9 [] [49, 58, 82, 92, 102, 112, 119, 125, 138, 148, 154] (yzq N) (yw3 N)
theorem zar : EnvOk Tryz.prog (x09 N) := Y0 Z5 Z6 Z3 ⟨zo8 N, ⟨zga N, ⟨yjb N, trivial⟩⟩⟩ ⟨zj6 N, ⟨zfq N, ⟨y3u N, trivial⟩⟩⟩
def yq1 : Cut := { tms := [2, 3, 5, 8, 10, 62, 63, 64, 103], sh := (.cons (.ptr 2000000 0) (.cons (.ptr 2000001 0) (.cons (.ptr 2000002 0) (.cons (.clo 78 (.cons (.ptr 2000002 0) (.ptr 2000001 0))) (.cons (.ptr 2000003 0) (.cons (.list Y5) (.cons (.int .i64) (.cons (.int .i64) .bool)))))))), objs := [(2000000, [2], .box Sz4), (2000001, [3], .box Sz4), (2000002, [5], .box (.clo 77 .nil)), (2000003, [10], .box Sz3)], sts := [] }
def ych : Cut := { tms := [2, 3, 5, 8, 62, 63, 64], sh := Sz6, objs := [(2000000, [2], .box Sz4), (2000001, [3], .box Sz4), (2000002, [5], .box (.clo 77 .nil))], sts := [] }
def zmh : Lp := lpOf yq1 (0, ych) [] (fun v => q9 N v.1.2.2.2.2.2.1 v.1.2.2.2.2.2.2.1 v.1.2.2.2.2.2.2.2.1 v.1.2.2.2.2.2.2.2.2 v.2.1.1 v.2.1.2.1 v.2.1.2.2.1 v.2.1.2.2.2 v.2.2.1.1 v.2.2.1.2.1 v.2.2.1.2.2.1 v.2.2.1.2.2.2 v.2.2.2.2.1.1 v.2.2.2.2.1.2.1 v.2.2.2.2.1.2.2.1 v.2.2.2.2.1.2.2.2.1 v.2.2.2.2.1.2.2.2.2.1 v.2.2.2.2.1.2.2.2.2.2.1 v.2.2.2.2.1.2.2.2.2.2.2.1 v.2.2.2.2.1.2.2.2.2.2.2.2)
def yop (_ : Nat) : Lps := fun _ => none
theorem yjp (ro : Option Nat) : LpOk Tryz.prog 157 ro (zmh N) (Z8 z3u [true, true, true, true, true, true, false, true, false, false, true, true, false, false, true, true, true, false, true, true, true, true, true]) :=
  z0m (zar N) mixed (Λ := yop N) (p := 16685535) (Y2 (l := []) (by kernel_rfl) Y3) (by kernel_rfl) (by intro v; kernel_rfl)
def yq2 : Cut := { tms := [2, 3, 5, 8, 62, 63, 64], sh := Sz6, objs := [(2000000, [2], .box Sz4), (2000001, [3], .box Sz4), (2000002, [5], .box (.clo 77 .nil))], sts := [] }
def yci : Cut := { tms := [2, 3, 5, 8, 62, 63, 64], sh := Sz6, objs := [(2000000, [2], .box Sz4), (2000001, [3], .box Sz4), (2000002, [5], .box (.clo 77 .nil))], sts := [] }
def zmi : Lp := lpOf yq2 (0, yci) [] (fun v => Q1 N v.1.2.2.2.2.1 v.1.2.2.2.2.2.1 v.1.2.2.2.2.2.2 v.2.1.1 v.2.1.2.1 v.2.1.2.2.1 v.2.1.2.2.2 v.2.2.1.1 v.2.2.1.2.1 v.2.2.1.2.2.1 v.2.2.1.2.2.2)
def yoq (_ : Nat) : Lps := fun _ => none
theorem yjq (ro : Option Nat) : LpOk Tryz.prog 157 ro (zmi N) (Z8 z3u [true, true, true, true, true, true, false, true, false, false, true, true, true]) :=
  z0m (zar N) mixed (Λ := yoq N) (p := 16295) (Y2 (l := []) (by kernel_rfl) Y3) (by kernel_rfl) (by intro v; kernel_rfl)
def yq3 : Cut := { tms := [2, 3, 5, 8, 62, 63, 64], sh := Sz6, objs := [(2000000, [2], .box Sz4), (2000001, [3], .box Sz4), (2000002, [5], .box (.clo 77 .nil))], sts := [] }
def ycj : Cut := { tms := [2, 3], sh := Sz9, objs := [(2000000, [2], .box Sz4), (2000001, [3], .box Sz4)], sts := [] }
def zmj : Lp := lpOf yq3 (4, ycj) [] (fun v => zib N N v.1.2.2.2.2.1 v.1.2.2.2.2.2.1 v.1.2.2.2.2.2.2 v.2.1.1 v.2.1.2.1 v.2.1.2.2.1 v.2.1.2.2.2 v.2.2.1.1 v.2.2.1.2.1 v.2.2.1.2.2.1 v.2.2.1.2.2.2)
def yor : Lps := fun p => bif Nat.beq p 16295 then some (zmi N) else bif Nat.beq p 16685535 then some (zmh N) else none
theorem yjr (ro : Option Nat) : LpOk Tryz.prog 157 ro (zmj N) (Z8 z3u [true, true, true, true, true, true, false, true, false]) := by
  rw [show (Z8 z3u [true, true, true, true, true, true, false, true, false]) = .loop (Z8 z3u [true, true, true, true, true, true, false, true, false, false]) by kernel_rfl]
  exact W6 (zar N) mixed (Λ := yor N) (p := 2036) (Y2 (l := [(zmh N, (Z8 z3u [true, true, true, true, true, true, false, true, false, false, true, true, false, false, true, true, true, false, true, true, true, true, true])), (zmi N, (Z8 z3u [true, true, true, true, true, true, false, true, false, false, true, true, true]))]) (by kernel_rfl) (X3 (yjp N ro) (X3 (yjq N ro) Y3))) (by kernel_rfl) (by intro rec v; kernel_rfl) N
def yq4 : Cut := { tms := [1, 2, 3, 5, 35, 36, 37], sh := (.cons (.ptr 2000000 0) (.cons (.ptr 2000001 0) (.cons (.ptr 2000002 0) (.cons (.ptr 2000003 0) (.cons (.list V6) Sz1))))), objs := [(2000000, [1], .box Sz0), (2000001, [2], .box Sz4), (2000002, [3], .box Sz4), (2000003, [5], .box (.clo 77 .nil))], sts := [] }
def yck : Cut := { tms := [1, 2, 3, 5], sh := (.cons (.ptr 2000000 0) (.cons (.ptr 2000001 0) (.cons (.ptr 2000002 0) (.ptr 2000003 0)))), objs := [(2000000, [1], .box Sz0), (2000001, [2], .box Sz4), (2000002, [3], .box Sz4), (2000003, [5], .box (.clo 77 .nil))], sts := [] }
def zmk : Lp := lpOf yq4 (2, yck) [] (fun v => zic N N v.1.2.2.2.2.1 v.1.2.2.2.2.2.1 v.1.2.2.2.2.2.2 v.2.1.1 v.2.1.2.1 v.2.1.2.2.1 v.2.1.2.2.2.1 v.2.1.2.2.2.2 v.2.2.1.1 v.2.2.1.2.1 v.2.2.1.2.2.1 v.2.2.1.2.2.2 v.2.2.2.1.1 v.2.2.2.1.2.1 v.2.2.2.1.2.2.1 v.2.2.2.1.2.2.2)
def yos (_ : Nat) : Lps := fun _ => none
theorem yjs (ro : Option Nat) : LpOk Tryz.prog 157 ro (zmk N) (Z8 z3u [true, true, true, true, false, true, false]) := by
  rw [show (Z8 z3u [true, true, true, true, false, true, false]) = .loop (Z8 z3u [true, true, true, true, false, true, false, false]) by kernel_rfl]
  exact W6 (zar N) mixed (Λ := yos N) (p := 500) (Y2 (l := []) (by kernel_rfl) Y3) (by kernel_rfl) (by intro rec v; kernel_rfl) N
def yzy : Lps := fun p => bif Nat.beq p 250 then some (zmk N) else bif Nat.beq p 1018 then some (zmj N) else none
def zvc : Ctr := X0 (.val z5f) (.val V6) [] (fun v => zjd N v)
theorem y26 : Y7 Tryz.prog 25 (fun vs => (zvc N).run vs some) :=
  Y4 (zar N) mixed (Λ := yzy N) (fn := Tryz.f25) (c := z3u) Tryz.func25 (by kernel_rfl) (by kernel_rfl) (Y2 (l := [(zmk N, (Z8 z3u [true, true, true, true, false, true, false])), (zmj N, (Z8 z3u [true, true, true, true, true, true, false, true, false]))]) (by kernel_rfl) (X3 (yjs N none) (X3 (yjr N none) Y3))) (by kernel_rfl) (by intro v; kernel_rfl)
def zfn : Code := match Tryz.f23.body with | some c => c | none => .skip
def yro (_ : Nat) : List (Nat × Ctr) := []
def ytk : Env := Y9 tyRows eqRows Z9 [] [] (yro N)
theorem zsn : EnvOk Tryz.prog (ytk N) := Y0 Z5 Z6 Z3 trivial
def ygr : Cut := { tms := [3, 6, 7, 8], sh := (.cons (.int .u64) (.cons (.list (.int .u8)) Sz1)), objs := [], sts := [] }
def y1u : Cut := { tms := [3], sh := (.int .u64), objs := [], sts := [] }
def zh0 : Lp := lpOf ygr (2, y1u) [] (fun v => y7p N N v.1.1 v.1.2.1 v.1.2.2.1 v.1.2.2.2)
def yf2 (_ : Nat) : Lps := fun _ => none
theorem yaf (ro : Option Nat) : LpOk Tryz.prog 19 ro (zh0 N) (Z8 zfn [true, true, false, true, false]) := by
  rw [show (Z8 zfn [true, true, false, true, false]) = .loop (Z8 zfn [true, true, false, true, false, false]) by kernel_rfl]
  exact W6 (zsn N) mixed (Λ := yf2 N) (p := 116) (Y2 (l := []) (by kernel_rfl) Y3) (by kernel_rfl) (by intro rec v; kernel_rfl) N
def ysm : Lps := fun p => bif Nat.beq p 58 then some (zh0 N) else none
def y2v : Ctr := X0 (.list (.int .u8)) (.int .u64) [] (fun v => yd4 N v)
theorem yje : Y7 Tryz.prog 23 (fun vs => (y2v N).run vs some) :=
  Y4 (zsn N) mixed (Λ := ysm N) (fn := Tryz.f23) (c := zfn) Tryz.func23 (by kernel_rfl) (by kernel_rfl) (Y2 (l := [(zh0 N, (Z8 zfn [true, true, false, true, false]))]) (by kernel_rfl) (X3 (yaf N none) Y3)) (by kernel_rfl) (by intro v; kernel_rfl)
def x3b : Code := match Tryz.f33.body with | some c => c | none => .skip
def ywe (_ : Nat) : List (Nat × Ctr) := []
def yxm : Env := Y9 tyRows eqRows Z9 [] [] (ywe N)
theorem yp6 : EnvOk Tryz.prog (yxm N) := Y0 Z5 Z6 Z3 trivial
def yx1 (_ : Nat) : Lps := fun _ => none
def y8i : Ctr := X0 (.cons (.val z5f) (.val ymt)) .bool [] (fun v => yly N v.1 v.2)
theorem yns : Y7 Tryz.prog 33 (fun vs => (y8i N).run vs some) :=
  Y4 (yp6 N) mixed (Λ := yx1 N) (fn := Tryz.f33) (c := x3b) Tryz.func33 (by kernel_rfl) (by kernel_rfl) (Y2 (l := []) (by kernel_rfl) Y3) (by kernel_rfl) (by intro v; kernel_rfl)
def W0 : Code := match Tryz.f125.body with | some c => c | none => .skip
def z3d : List (Nat × Ctr) := [(91, zaa N)]
def z3f : Env := Y9 tyRows eqRows Z9 [] [] (z3d N)
theorem J6 : EnvOk Tryz.prog (z3f N) := Y0 Z5 Z6 Z3 ⟨zee N, trivial⟩
def z28 : Cut := { tms := [0, 1, 5, 6], sh := (.cons (.list .str) (.cons (.clo 91 .nil) Sz15)), objs := [], sts := [] }
def z14 : Cut := { tms := [5], sh := .str, objs := [], sts := [] }
def U0 : Lp := lpOf z28 (2, z14) [] (fun v => G8 N N v.1.1 v.1.2.2.1 v.1.2.2.2)
def z27 (_ : Nat) : Lps := fun _ => none
theorem z1q (ro : Option Nat) : LpOk Tryz.prog 33 ro (U0 N) (Z8 W0 [true, true, true, false, true, false]) := by
  rw [show (Z8 W0 [true, true, true, false, true, false]) = .loop (Z8 W0 [true, true, true, false, true, false, false]) by kernel_rfl]
  exact W6 (J6 N) mixed (Λ := z27 N) (p := 244) (Y2 (l := []) (by kernel_rfl) Y3) (by kernel_rfl) (by intro rec v; kernel_rfl) N
def z3e : Lps := fun p => bif Nat.beq p 122 then some (U0 N) else none
def G3 : Ctr := X0 (.cons (.list .str) (.clo 91 .nil)) .str [] (fun v => w6 N v.1)
theorem z2o : Y7 Tryz.prog 125 (fun vs => (G3 N).run vs some) :=
  Y4 (J6 N) mixed (Λ := z3e N) (fn := Tryz.f125) (c := W0) Tryz.func125 (by kernel_rfl) (by kernel_rfl) (Y2 (l := [(U0 N, (Z8 W0 [true, true, true, false, true, false]))]) (by kernel_rfl) (X3 (z1q N none) Y3)) (by kernel_rfl) (by intro v; kernel_rfl)
def x0e : Code := match Tryz.f117.body with | some c => c | none => .skip
def yr0 : List (Nat × Ctr) := [(125, G3 N)]
def ysw : Env := Y9 tyRows eqRows Z9 [] [] (yr0 N)
theorem ykf : EnvOk Tryz.prog (ysw N) := Y0 Z5 Z6 Z3 ⟨z2o N, trivial⟩
def yrv (_ : Nat) : Lps := fun _ => none
def y2e : Ctr := X0 (.list .str) .str [] (fun v => yu8 N v)
theorem yix : Y7 Tryz.prog 117 (fun vs => (y2e N).run vs some) :=
  Y4 (ykf N) mixed (Λ := yrv N) (fn := Tryz.f117) (c := x0e) Tryz.func117 (by kernel_rfl) (by kernel_rfl) (Y2 (l := []) (by kernel_rfl) Y3) (by kernel_rfl) (by intro v; kernel_rfl)
def x32 : Code := match Tryz.f102.body with | some c => c | none => .skip
def yw6 : List (Nat × Ctr) := [(117, y2e N), (90, zax N)]
def yxe : Env := Y9 tyRows eqRows Z9 [] [] (yw6 N)
theorem yoz : EnvOk Tryz.prog (yxe N) := Y0 Z5 Z6 Z3 ⟨yix N, ⟨zb6 N, trivial⟩⟩
def ywt (_ : Nat) : Lps := fun _ => none
def y8c : Ctr := X0 (.cons (.val Y8) (.val Y8)) (.val Y8) [] (fun v => yls N v.1 v.2)
theorem ynm : Y7 Tryz.prog 102 (fun vs => (y8c N).run vs some) :=
  Y4 (yoz N) mixed (Λ := ywt N) (fn := Tryz.f102) (c := x32) Tryz.func102 (by kernel_rfl) (by kernel_rfl) (Y2 (l := []) (by kernel_rfl) Y3) (by kernel_rfl) (by intro v; kernel_rfl)
def zff : Code := match Tryz.f74.body with | some c => c | none => .skip
def yr1 : List (Nat × Ctr) := [(102, y8c N)]
def ysx : Env := Y9 tyRows eqRows Z9 [] [] (yr1 N)
theorem zsf : EnvOk Tryz.prog (ysx N) := Y0 Z5 Z6 Z3 ⟨ynm N, trivial⟩
def yg7 : Cut := { tms := [2, 5, 6, 9, 10, 11], sh := (.cons (.ptr 2000000 0) (.cons (.own 2000001) (.cons .str (.cons (.list .str) Sz1)))), objs := [(2000000, [2], .box Sz8), (2000001, [5], .sl Y8)], sts := [] }
def y0u : Cut := { tms := [2, 5, 6], sh := (.cons (.ptr 2000000 0) (.cons (.own 2000001) .str)), objs := [(2000000, [2], .box Sz8), (2000001, [5], .sl Y8)], sts := [] }
def zgg : Lp := lpOf yg7 (2, y0u) [] (fun v => y7c N N v.1.2.2.1 v.1.2.2.2.1 v.1.2.2.2.2.1 v.1.2.2.2.2.2 v.2.1.1 v.2.1.2 v.2.2.1)
def yea (_ : Nat) : Lps := fun _ => none
theorem y9v (ro : Option Nat) : LpOk Tryz.prog 32 ro (zgg N) (Z8 zff [true, true, true, false, true, false]) := by
  rw [show (Z8 zff [true, true, true, false, true, false]) = .loop (Z8 zff [true, true, true, false, true, false, false]) by kernel_rfl]
  exact W6 (zsf N) mixed (Λ := yea N) (p := 244) (Y2 (l := []) (by kernel_rfl) Y3) (by kernel_rfl) (by intro rec v; kernel_rfl) N
def yrw : Lps := fun p => bif Nat.beq p 122 then some (zgg N) else none
def y2f : Ctr := X0 (.cons (.val Y8) (.list .str)) (.fresh Y8) [] (fun v => yu9 N v.1 v.2)
theorem yiy : Y7 Tryz.prog 74 (fun vs => (y2f N).run vs some) :=
  Y4 (zsf N) mixed (Λ := yrw N) (fn := Tryz.f74) (c := zff) Tryz.func74 (by kernel_rfl) (by kernel_rfl) (Y2 (l := [(zgg N, (Z8 zff [true, true, true, false, true, false]))]) (by kernel_rfl) (X3 (y9v N none) Y3)) (by kernel_rfl) (by intro v; kernel_rfl)
def x0p : Code := match Tryz.f21.body with | some c => c | none => .skip
def yrm : List (Nat × Ctr) := [(74, y2f N)]
def yti : Env := Y9 tyRows eqRows Z9 [] [] (yrm N)
theorem ykq : EnvOk Tryz.prog (yti N) := Y0 Z5 Z6 Z3 ⟨yiy N, trivial⟩
def ysk (_ : Nat) : Lps := fun _ => none
def y2t : Ctr := X0 (.cons (.val z5f) (.val Y8)) (.fresh Y8) [] (fun v => yd2 N v.1 v.2)
theorem yjc : Y7 Tryz.prog 21 (fun vs => (y2t N).run vs some) :=
  Y4 (ykq N) mixed (Λ := ysk N) (fn := Tryz.f21) (c := x0p) Tryz.func21 (by kernel_rfl) (by kernel_rfl) (Y2 (l := []) (by kernel_rfl) Y3) (by kernel_rfl) (by intro v; kernel_rfl)
def zfl : Code := match Tryz.f34.body with | some c => c | none => .skip
def yre (_ : Nat) : List (Nat × Ctr) := []
def yta : Env := Y9 tyRows eqRows Z9 [] [] (yre N)
theorem zsk : EnvOk Tryz.prog (yta N) := Y0 Z5 Z6 Z3 trivial
def ygl : Cut := { tms := [0, 1, 5], sh := (.cons (.list Y8) (.cons (.list Y8) (.int .i64))), objs := [], sts := [] }
def y1f : Cut := { tms := [4], sh := .bool, objs := [], sts := [] }
def y1e : Cut := { tms := [], sh := .nil, objs := [], sts := [] }
def zgu : Lp := lpOf ygl (1, y1f) [(2, y1e)] (fun v => y7i N N v.1.1 v.1.2.1 v.1.2.2)
def yeo (_ : Nat) : Lps := fun _ => none
theorem ya9 (ro : Option Nat) : LpOk Tryz.prog 26 ro (zgu N) (Z8 zfl [true, true, false, true, false]) := by
  rw [show (Z8 zfl [true, true, false, true, false]) = .loop (Z8 zfl [true, true, false, true, false, false]) by kernel_rfl]
  exact W6 (zsk N) mixed (Λ := yeo N) (p := 116) (Y2 (l := []) (by kernel_rfl) Y3) (by kernel_rfl) (by intro rec v; kernel_rfl) N
def ysc : Lps := fun p => bif Nat.beq p 58 then some (zgu N) else none
def y2p : Ctr := X0 (.cons (.list Y8) (.list Y8)) .bool [] (fun v => yug N v.1 v.2)
theorem yj8 : Y7 Tryz.prog 34 (fun vs => (y2p N).run vs some) :=
  Y4 (zsk N) mixed (Λ := ysc N) (fn := Tryz.f34) (c := zfl) Tryz.func34 (by kernel_rfl) (by kernel_rfl) (Y2 (l := [(zgu N, (Z8 zfl [true, true, false, true, false]))]) (by kernel_rfl) (X3 (ya9 N none) Y3)) (by kernel_rfl) (by intro v; kernel_rfl)
def z55 : Code := match Tryz.f9.body with | some c => c | none => .skip
def yiu : List (Nat × Ctr) := [(17, y2u N), (16, zmr N), (19, zjl N), (18, y2i N), (14, zmq N), (25, zvc N), (23, y2v N), (33, y8i N), (21, y2t N), (34, y2p N)]
def yl3 : Env := Y9 tyRows eqRows Z9 [(2000041, [40])] [] (yiu N)
theorem z82 : EnvOk Tryz.prog (yl3 N) := Y0 Z5 Z6 Z3 ⟨yjd N, ⟨zsa N, ⟨zwz N, ⟨yj1 N, ⟨zs9 N, ⟨y26 N, ⟨yje N, ⟨yns N, ⟨yjc N, ⟨yj8 N, trivial⟩⟩⟩⟩⟩⟩⟩⟩⟩⟩
def y6f : Cut := { tms := [0], sh := .bool, objs := [], sts := [] }
def zup : Cut := { tms := [0], sh := .bool, objs := [], sts := [] }
def zdj : Lp := lpOf y6f (1, zup) [] (fun v => z08 N v.1)
def y57 (_ : Nat) : Lps := fun _ => none
theorem zzw (ro : Option Nat) : LpOk Tryz.prog 152 ro (zdj N) (Z8 z55 [true, true, true, true, true, true, true, true, true, true, true]) :=
  z0m (z82 N) mixed (Λ := y57 N) (p := 4095) (Y2 (l := []) (by kernel_rfl) Y3) (by kernel_rfl) (by intro v; kernel_rfl)
def y6g : Cut := { tms := [2, 3, 10, 11], sh := (.cons (.ptr 2000000 0) (.cons (.ptr 2000006 0) (.cons .bool .bool))), objs := [(2000000, [2], .box Sz7), (2000001, [2, 0], .sl Y1), (2000002, [2, 1], .sl .str), (2000003, [2, 2], .sl (.int .i64)), (2000004, [2, 3], .sl V6), (2000005, [2, 4], .sl Y5), (2000006, [3], .box Sz13), (2000007, [3, 0], .sl Y1), (2000008, [3, 1], .sl .str), (2000009, [3, 2], .sl (.int .i64)), (2000010, [3, 3], .sl V6), (2000011, [3, 4], .sl Y5)], sts := [] }
def zuq : Cut := { tms := [0], sh := .bool, objs := [], sts := [] }
def zdk : Lp := lpOf y6g (1, zuq) [] (fun v => z4i N v.1.2.2.1 v.1.2.2.2 v.2.2.1 v.2.2.2.1 v.2.2.2.2.1 v.2.2.2.2.2.1 v.2.2.2.2.2.2.1 v.2.2.2.2.2.2.2.2.1 v.2.2.2.2.2.2.2.2.2.1 v.2.2.2.2.2.2.2.2.2.2.1 v.2.2.2.2.2.2.2.2.2.2.2.1 v.2.2.2.2.2.2.2.2.2.2.2.2.1)
def y58 : Lps := fun p => bif Nat.beq p 4095 then some (zdj N) else none
theorem zzx (ro : Option Nat) : LpOk Tryz.prog 152 ro (zdk N) (Z8 z55 [true, true, true, true, true, true, true, true, true, true]) :=
  z0m (z82 N) mixed (Λ := y58 N) (p := 2047) (Y2 (l := [(zdj N, (Z8 z55 [true, true, true, true, true, true, true, true, true, true, true]))]) (by kernel_rfl) (X3 (zzw N ro) Y3)) (by kernel_rfl) (by intro v; kernel_rfl)
def y6h : Cut := { tms := [2, 3, 4, 5, 10], sh := (.cons (.ptr 2000000 0) (.cons (.ptr 2000006 0) (.cons (.ptr 2000012 0) (.cons (.ptr 2000018 0) .bool)))), objs := [(2000000, [2], .box Sz7), (2000001, [2, 0], .sl Y1), (2000002, [2, 1], .sl .str), (2000003, [2, 2], .sl (.int .i64)), (2000004, [2, 3], .sl V6), (2000005, [2, 4], .sl Y5), (2000006, [3], .box Sz13), (2000007, [3, 0], .sl Y1), (2000008, [3, 1], .sl .str), (2000009, [3, 2], .sl (.int .i64)), (2000010, [3, 3], .sl V6), (2000011, [3, 4], .sl Y5), (2000012, [4], .box (.cons (.own 2000013) (.cons (.own 2000014) (.cons (.own 2000015) (.cons (.own 2000016) (.own 2000017)))))), (2000013, [4, 0], .sl Y1), (2000014, [4, 1], .sl .str), (2000015, [4, 2], .sl (.int .i64)), (2000016, [4, 3], .sl V6), (2000017, [4, 4], .sl Y5), (2000018, [5], .box (.cons (.own 2000019) (.cons (.own 2000020) (.cons (.own 2000021) (.cons (.own 2000022) (.own 2000023)))))), (2000019, [5, 0], .sl Y1), (2000020, [5, 1], .sl .str), (2000021, [5, 2], .sl (.int .i64)), (2000022, [5, 3], .sl V6), (2000023, [5, 4], .sl Y5)], sts := [] }
def zur : Cut := { tms := [0], sh := .bool, objs := [], sts := [] }
def zdl : Lp := lpOf y6h (1, zur) [] (fun v => z4j N v.1.2.2.2.2 v.2.2.1 v.2.2.2.1 v.2.2.2.2.1 v.2.2.2.2.2.1 v.2.2.2.2.2.2.1 v.2.2.2.2.2.2.2.2.1 v.2.2.2.2.2.2.2.2.2.1 v.2.2.2.2.2.2.2.2.2.2.1 v.2.2.2.2.2.2.2.2.2.2.2.1 v.2.2.2.2.2.2.2.2.2.2.2.2.1 v.2.2.2.2.2.2.2.2.2.2.2.2.2.2.1 v.2.2.2.2.2.2.2.2.2.2.2.2.2.2.2.1 v.2.2.2.2.2.2.2.2.2.2.2.2.2.2.2.2.1 v.2.2.2.2.2.2.2.2.2.2.2.2.2.2.2.2.2.1 v.2.2.2.2.2.2.2.2.2.2.2.2.2.2.2.2.2.2.1 v.2.2.2.2.2.2.2.2.2.2.2.2.2.2.2.2.2.2.2.2.1 v.2.2.2.2.2.2.2.2.2.2.2.2.2.2.2.2.2.2.2.2.2.1 v.2.2.2.2.2.2.2.2.2.2.2.2.2.2.2.2.2.2.2.2.2.2.1 v.2.2.2.2.2.2.2.2.2.2.2.2.2.2.2.2.2.2.2.2.2.2.2.1 v.2.2.2.2.2.2.2.2.2.2.2.2.2.2.2.2.2.2.2.2.2.2.2.2.1)
def y59 : Lps := fun p => bif Nat.beq p 2047 then some (zdk N) else none
theorem zzy (ro : Option Nat) : LpOk Tryz.prog 152 ro (zdl N) (Z8 z55 [true, true, true, true, true, true, true, true, true]) :=
  z0m (z82 N) mixed (Λ := y59 N) (p := 1023) (Y2 (l := [(zdk N, (Z8 z55 [true, true, true, true, true, true, true, true, true, true]))]) (by kernel_rfl) (X3 (zzx N ro) Y3)) (by kernel_rfl) (by intro v; kernel_rfl)
def yk9 : Lps := fun p => bif Nat.beq p 1023 then some (zdl N) else none
def zsx : Ctr := X0 .nil .bool [] (fun _ => zvb N)
theorem y9f : Y7 Tryz.prog 9 (fun vs => (zsx N).run vs some) :=
  Y4 (z82 N) mixed (Λ := yk9 N) (fn := Tryz.f9) (c := z55) Tryz.func9 (by kernel_rfl) (by kernel_rfl) (Y2 (l := [(zdl N, (Z8 z55 [true, true, true, true, true, true, true, true, true]))]) (by kernel_rfl) (X3 (zzy N none) Y3)) (by kernel_rfl) (by intro v; kernel_rfl)
def x35 : Code := match Tryz.f13.body with | some c => c | none => .skip
def yw9 (_ : Nat) : List (Nat × Ctr) := []
def yxh : Env := Y9 tyRows eqRows Z9 [] [] (yw9 N)
theorem yp1 : EnvOk Tryz.prog (yxh N) := Y0 Z5 Z6 Z3 trivial
def yww (_ : Nat) : Lps := fun _ => none
def zqt : Ctr := X0 (.int .u8) .str [] (fun v => ztj N v)
theorem zvj : Y7 Tryz.prog 13 (fun vs => (zqt N).run vs some) :=
  Y4 (yp1 N) mixed (Λ := yww N) (fn := Tryz.f13) (c := x35) Tryz.func13 (by kernel_rfl) (by kernel_rfl) (Y2 (l := []) (by kernel_rfl) Y3) (by kernel_rfl) (by intro v; kernel_rfl)
def x0j : Code := match Tryz.f76.body with | some c => c | none => .skip
def yrc : List (Nat × Ctr) := [(13, zqt N)]
def yt8 : Env := Y9 tyRows eqRows Z9 [] [] (yrc N)
theorem ykk : EnvOk Tryz.prog (yt8 N) := Y0 Z5 Z6 Z3 ⟨zvj N, trivial⟩
def ysa (_ : Nat) : Lps := fun _ => none
def y2o : Ctr := X0 (.val z15) (.val Y1) [] (fun v => zn5 N v)
theorem yj7 : Y7 Tryz.prog 76 (fun vs => (y2o N).run vs some) :=
  Y4 (ykk N) mixed (Λ := ysa N) (fn := Tryz.f76) (c := x0j) Tryz.func76 (by kernel_rfl) (by kernel_rfl) (Y2 (l := []) (by kernel_rfl) Y3) (by kernel_rfl) (by intro v; kernel_rfl)
def zb3 : Code := match Tryz.f75.body with | some c => c | none => .skip
def yw8 (_ : Nat) : List (Nat × Ctr) := []
def yxg : Env := Y9 tyRows eqRows Z9 [] [] (yw8 N)
theorem zix : EnvOk Tryz.prog (yxg N) := Y0 Z5 Z6 Z3 trivial
def yl7 : Cut := { tms := [0, 3, 5, 6, 7], sh := Sz16, objs := [(2000000, [3], .box (.cons .str Sz15)), (2000001, [5], .sl Y1)], sts := [] }
def y68 : Cut := { tms := [0, 3, 5, 6, 7], sh := Sz16, objs := [(2000000, [3], .box (.cons .str Sz15)), (2000001, [5], .sl Y1)], sts := [] }
def zit : Lp := lpOf yl7 (0, y68) [] (fun v => z8l N v.1.1 v.1.2.2.2.1 v.1.2.2.2.2 v.2.1.1 v.2.1.2.1 v.2.1.2.2 v.2.2.1)
def yjz (_ : Nat) : Lps := fun _ => none
theorem ye6 (ro : Option Nat) : LpOk Tryz.prog 53 ro (zit N) (Z8 zb3 [true, true, false, true, false, false, true, false, false, true]) :=
  z0m (zix N) mixed (Λ := yjz N) (p := 1865) (Y2 (l := []) (by kernel_rfl) Y3) (by kernel_rfl) (by intro v; kernel_rfl)
def yl8 : Cut := { tms := [0, 3, 5, 6, 7], sh := Sz16, objs := [(2000000, [3], .box (.cons .str Sz15)), (2000001, [5], .sl Y1)], sts := [] }
def y69 : Cut := { tms := [3, 5, 6], sh := (.cons (.ptr 2000000 0) (.cons (.own 2000001) .bool)), objs := [(2000000, [3], .box (.cons .str Sz15)), (2000001, [5], .sl Y1)], sts := [] }
def ziu : Lp := lpOf yl8 (2, y69) [] (fun v => z8m N N v.1.1 v.1.2.2.2.1 v.1.2.2.2.2 v.2.1.1 v.2.1.2.1 v.2.1.2.2 v.2.2.1)
def yk0 : Lps := fun p => bif Nat.beq p 1865 then some (zit N) else none
theorem ye7 (ro : Option Nat) : LpOk Tryz.prog 53 ro (ziu N) (Z8 zb3 [true, true, false, true, false]) := by
  rw [show (Z8 zb3 [true, true, false, true, false]) = .loop (Z8 zb3 [true, true, false, true, false, false]) by kernel_rfl]
  exact W6 (zix N) mixed (Λ := yk0 N) (p := 116) (Y2 (l := [(zit N, (Z8 zb3 [true, true, false, true, false, false, true, false, false, true]))]) (by kernel_rfl) (X3 (ye6 N ro) Y3)) (by kernel_rfl) (by intro rec v; kernel_rfl) N
def ywv : Lps := fun p => bif Nat.beq p 58 then some (ziu N) else none
def y8e : Ctr := X0 (.cons (.list Y1) (.val Y1)) (.fresh Y1) [] (fun v => y6w N v.1 v.2)
theorem yno : Y7 Tryz.prog 75 (fun vs => (y8e N).run vs some) :=
  Y4 (zix N) mixed (Λ := ywv N) (fn := Tryz.f75) (c := zb3) Tryz.func75 (by kernel_rfl) (by kernel_rfl) (Y2 (l := [(ziu N, (Z8 zb3 [true, true, false, true, false]))]) (by kernel_rfl) (X3 (ye7 N none) Y3)) (by kernel_rfl) (by intro v; kernel_rfl)
def zfk : Code := match Tryz.f24.body with | some c => c | none => .skip
def yrd : List (Nat × Ctr) := [(76, y2o N), (75, y8e N)]
def yt9 : Env := Y9 tyRows eqRows Z9 [] [] (yrd N)
theorem zsj : EnvOk Tryz.prog (yt9 N) := Y0 Z5 Z6 Z3 ⟨yj7 N, ⟨yno N, trivial⟩⟩
def ygk : Cut := { tms := [0, 3, 4], sh := (.cons (.list z15) (.cons (.own 2000000) (.int .i64))), objs := [(2000000, [3], .sl Y1)], sts := [] }
def y1d : Cut := { tms := [3], sh := (.own 2000000), objs := [(2000000, [3], .sl Y1)], sts := [] }
def zgt : Lp := lpOf ygk (2, y1d) [] (fun v => zql N N v.1.1 v.1.2.2 v.2.1)
def yen (_ : Nat) : Lps := fun _ => none
theorem ya8 (ro : Option Nat) : LpOk Tryz.prog 24 ro (zgt N) (Z8 zfk [true, true, false, true, false]) := by
  rw [show (Z8 zfk [true, true, false, true, false]) = .loop (Z8 zfk [true, true, false, true, false, false]) by kernel_rfl]
  exact W6 (zsj N) mixed (Λ := yen N) (p := 116) (Y2 (l := []) (by kernel_rfl) Y3) (by kernel_rfl) (by intro rec v; kernel_rfl) N
def ysb : Lps := fun p => bif Nat.beq p 58 then some (zgt N) else none
def zmn : Ctr := X0 (.list z15) (.fresh Y1) [] (fun v => zn6 N v)
theorem zs6 : Y7 Tryz.prog 24 (fun vs => (zmn N).run vs some) :=
  Y4 (zsj N) mixed (Λ := ysb N) (fn := Tryz.f24) (c := zfk) Tryz.func24 (by kernel_rfl) (by kernel_rfl) (Y2 (l := [(zgt N, (Z8 zfk [true, true, false, true, false]))]) (by kernel_rfl) (X3 (ya8 N none) Y3)) (by kernel_rfl) (by intro v; kernel_rfl)
def z1v : Code := match Tryz.f35.body with | some c => c | none => .skip
def yip (_ : Nat) : List (Nat × Ctr) := []
def yky : Env := Y9 tyRows eqRows Z9 [] [] (yip N)
theorem zdm : EnvOk Tryz.prog (yky N) := Y0 Z5 Z6 Z3 trivial
def y6b : Cut := { tms := [0, 3, 4, 5, 6, 7], sh := (.cons (.list .str) (.cons (.own 2000000) (.cons (.int .i64) (.cons (.own 2000001) (.cons .bool (.int .i64)))))), objs := [(2000000, [3], .sl .str), (2000001, [5], .sl .str)], sts := [] }
def zug : Cut := { tms := [0, 4, 5, 6], sh := (.cons (.list .str) (.cons (.int .i64) (.cons (.own 2000000) .bool))), objs := [(2000000, [5], .sl .str)], sts := [] }
def zdh : Lp := lpOf y6b (4, zug) [] (fun v => z5n N N v.1.1 v.1.2.2.1 v.1.2.2.2.2.1 v.1.2.2.2.2.2 v.2.1 v.2.2.1)
def y4u (_ : Nat) : Lps := fun _ => none
theorem zzu (ro : Option Nat) : LpOk Tryz.prog 74 ro (zdh N) (Z8 z1v [true, true, false, true, false, false, true, false, false, true, false, true, false]) := by
  rw [show (Z8 z1v [true, true, false, true, false, false, true, false, false, true, false, true, false]) = .loop (Z8 z1v [true, true, false, true, false, false, true, false, false, true, false, true, false, false]) by kernel_rfl]
  exact W6 (zdm N) mixed (Λ := y4u N) (p := 29844) (Y2 (l := []) (by kernel_rfl) Y3) (by kernel_rfl) (by intro rec v; kernel_rfl) N
def y6c : Cut := { tms := [0, 3, 4], sh := (.cons (.list .str) (.cons (.own 2000000) (.int .i64))), objs := [(2000000, [3], .sl .str)], sts := [] }
def zuh : Cut := { tms := [3], sh := (.own 2000000), objs := [(2000000, [3], .sl .str)], sts := [] }
def zdi : Lp := lpOf y6c (2, zuh) [] (fun v => z8t N N v.1.1 v.1.2.2 v.2.1)
def y4v : Lps := fun p => bif Nat.beq p 14922 then some (zdh N) else none
theorem zzv (ro : Option Nat) : LpOk Tryz.prog 74 ro (zdi N) (Z8 z1v [true, true, false, true, false]) := by
  rw [show (Z8 z1v [true, true, false, true, false]) = .loop (Z8 z1v [true, true, false, true, false, false]) by kernel_rfl]
  exact W6 (zdm N) mixed (Λ := y4v N) (p := 116) (Y2 (l := [(zdh N, (Z8 z1v [true, true, false, true, false, false, true, false, false, true, false, true, false]))]) (by kernel_rfl) (X3 (zzu N ro) Y3)) (by kernel_rfl) (by intro rec v; kernel_rfl) N
def yk2 : Lps := fun p => bif Nat.beq p 58 then some (zdi N) else none
def zst : Ctr := X0 (.list .str) (.fresh .str) [] (fun v => zkn N v)
theorem y9b : Y7 Tryz.prog 35 (fun vs => (zst N).run vs some) :=
  Y4 (zdm N) mixed (Λ := yk2 N) (fn := Tryz.f35) (c := z1v) Tryz.func35 (by kernel_rfl) (by kernel_rfl) (Y2 (l := [(zdi N, (Z8 z1v [true, true, false, true, false]))]) (by kernel_rfl) (X3 (zzv N none) Y3)) (by kernel_rfl) (by intro v; kernel_rfl)
def x0i : Code := match Tryz.f110.body with | some c => c | none => .skip
def yr8 (_ : Nat) : List (Nat × Ctr) := []
def yt4 : Env := Y9 tyRows eqRows Z9 [] [] (yr8 N)
theorem ykj : EnvOk Tryz.prog (yt4 N) := Y0 Z5 Z6 Z3 trivial
def ys6 (_ : Nat) : Lps := fun _ => none
def zmm : Ctr := X0 (.int .u8) .str [] (fun v => ze0 N v)
theorem zs5 : Y7 Tryz.prog 110 (fun vs => (zmm N).run vs some) :=
  Y4 (ykj N) mixed (Λ := ys6 N) (fn := Tryz.f110) (c := x0i) Tryz.func110 (by kernel_rfl) (by kernel_rfl) (Y2 (l := []) (by kernel_rfl) Y3) (by kernel_rfl) (by intro v; kernel_rfl)
def x34 : Code := match Tryz.f108.body with | some c => c | none => .skip
def yw7 : List (Nat × Ctr) := [(110, zmm N)]
def yxf : Env := Y9 tyRows eqRows Z9 [] [] (yw7 N)
theorem yp0 : EnvOk Tryz.prog (yxf N) := Y0 Z5 Z6 Z3 ⟨zs5 N, trivial⟩
def ywu (_ : Nat) : Lps := fun _ => none
def y8d : Ctr := X0 (.int .u8) .str [] (fun v => zti N v)
theorem ynn : Y7 Tryz.prog 108 (fun vs => (y8d N).run vs some) :=
  Y4 (yp0 N) mixed (Λ := ywu N) (fn := Tryz.f108) (c := x34) Tryz.func108 (by kernel_rfl) (by kernel_rfl) (Y2 (l := []) (by kernel_rfl) Y3) (by kernel_rfl) (by intro v; kernel_rfl)
def zb1 : Code := match Tryz.f109.body with | some c => c | none => .skip
def yio (_ : Nat) : List (Nat × Ctr) := []
def ykx : Env := Y9 tyRows eqRows Z9 [] [] (yio N)
theorem zlp : EnvOk Tryz.prog (ykx N) := Y0 Z5 Z6 Z3 trivial
def y6a : Cut := { tms := [0, 2, 3], sh := (.cons .str Sz17), objs := [(2000000, [2], .box Sz8)], sts := [] }
def zuf : Cut := { tms := [0, 2, 3], sh := (.cons .str Sz17), objs := [(2000000, [2], .box Sz8)], sts := [] }
def zdg : Lp := lpOf y6a (2, zuf) [] (fun v => z8s N N v.1.1 v.1.2.2 v.2.1.1 v.2.1.2)
def y4t (_ : Nat) : Lps := fun _ => none
theorem zzt (ro : Option Nat) : LpOk Tryz.prog 35 ro (zdg N) (Z8 zb1 [true, true, false, false]) := by
  rw [show (Z8 zb1 [true, true, false, false]) = .loop (Z8 zb1 [true, true, false, false, false]) by kernel_rfl]
  exact W6 (zlp N) mixed (Λ := y4t N) (p := 56) (Y2 (l := []) (by kernel_rfl) Y3) (by kernel_rfl) (by intro rec v; kernel_rfl) N
def yk1 : Lps := fun p => bif Nat.beq p 28 then some (zdg N) else none
def zbi : Ctr := X0 .str (.val Y8) [] (fun v => z3w N v)
theorem zd8 : Y7 Tryz.prog 109 (fun vs => (zbi N).run vs some) :=
  Y4 (zlp N) mixed (Λ := yk1 N) (fn := Tryz.f109) (c := zb1) Tryz.func109 (by kernel_rfl) (by kernel_rfl) (Y2 (l := [(zdg N, (Z8 zb1 [true, true, false, false]))]) (by kernel_rfl) (X3 (zzt N none) Y3)) (by kernel_rfl) (by intro v; kernel_rfl)
def ytw : Code := match Tryz.f86.body with | some c => c | none => .skip
def yir (_ : Nat) : List (Nat × Ctr) := []
def yl0 : Env := Y9 tyRows eqRows Z9 [] [] (yir N)
theorem ybg : EnvOk Tryz.prog (yl0 N) := Y0 Z5 Z6 Z3 trivial
def yk4 (_ : Nat) : Lps := fun _ => none
def zhb : Ctr := X0 (.cons .str .str) .bool [] (fun v => z4v N v.1 v.2)
theorem zli : Y7 Tryz.prog 86 (fun vs => (zhb N).run vs some) :=
  Y4 (ybg N) mixed (Λ := yk4 N) (fn := Tryz.f86) (c := ytw) Tryz.func86 (by kernel_rfl) (by kernel_rfl) (Y2 (l := []) (by kernel_rfl) Y3) (by kernel_rfl) (by intro v; kernel_rfl)
def yy5 : Code := match Tryz.f112.body with | some c => c | none => .skip
def yn9 (_ : Nat) : List (Nat × Ctr) := []
def ypm : Env := Y9 tyRows eqRows Z9 [] [] (yn9 N)
theorem yfn : EnvOk Tryz.prog (ypm N) := Y0 Z5 Z6 Z3 trivial
def yob (_ : Nat) : Lps := fun _ => none
def zw9 : Ctr := X0 (.int .u8) .str [] (fun v => zq4 N v)
theorem ydz : Y7 Tryz.prog 112 (fun vs => (zw9 N).run vs some) :=
  Y4 (yfn N) mixed (Λ := yob N) (fn := Tryz.f112) (c := yy5) Tryz.func112 (by kernel_rfl) (by kernel_rfl) (Y2 (l := []) (by kernel_rfl) Y3) (by kernel_rfl) (by intro v; kernel_rfl)
def x38 : Code := match Tryz.f111.body with | some c => c | none => .skip
def ywb (_ : Nat) : List (Nat × Ctr) := []
def yxj : Env := Y9 tyRows eqRows Z9 [] [] (ywb N)
theorem yp3 : EnvOk Tryz.prog (yxj N) := Y0 Z5 Z6 Z3 trivial
def ywy (_ : Nat) : Lps := fun _ => none
def zqu : Ctr := X0 .str (.val Y8) [] (fun v => zi4 N v)
theorem zvk : Y7 Tryz.prog 111 (fun vs => (zqu N).run vs some) :=
  Y4 (yp3 N) mixed (Λ := ywy N) (fn := Tryz.f111) (c := x38) Tryz.func111 (by kernel_rfl) (by kernel_rfl) (Y2 (l := []) (by kernel_rfl) Y3) (by kernel_rfl) (by intro v; kernel_rfl)
def zfh : Code := match Tryz.f88.body with | some c => c | none => .skip
def yr9 : List (Nat × Ctr) := [(108, y8d N), (110, zmm N), (109, zbi N), (86, zhb N), (112, zw9 N), (111, zqu N)]
def yt5 : Env := Y9 tyRows eqRows Z9 [] [] (yr9 N)
theorem zh9 : EnvOk Tryz.prog (yt5 N) := Y0 Z5 Z6 Z3 ⟨ynn N, ⟨zs5 N, ⟨zd8 N, ⟨zli N, ⟨ydz N, ⟨zvk N, trivial⟩⟩⟩⟩⟩⟩
def ygg : Cut := { tms := [1, 2, 3, 5, 6, 7], sh := (.cons (.ptr 2000000 0) (.cons (.ptr 2000001 0) (.cons .str (.cons (.ptr 2000002 0) Sz8)))), objs := [(2000000, [1], .box (.cons (.int .u8) (.cons (.int .u8) (.cons (.int .u8) (.cons (.int .u8) (.cons (.int .u8) (.int .u8))))))), (2000001, [2], .box Sz3), (2000002, [5], .box Sz8)], sts := [] }
def y18 : Cut := { tms := [2], sh := (.ptr 2000000 0), objs := [(2000000, [2], .box Sz3)], sts := [] }
def zgp : Lp := lpOf ygg (1, y18) [] (fun v => z3l N v.1.2.2.1 v.1.2.2.2.2.1 v.1.2.2.2.2.2 v.2.1.1 v.2.1.2.1 v.2.1.2.2.1 v.2.1.2.2.2.1 v.2.1.2.2.2.2.1 v.2.1.2.2.2.2.2 v.2.2.1.1 v.2.2.1.2.1 v.2.2.1.2.2.1 v.2.2.1.2.2.2.1 v.2.2.1.2.2.2.2.1 v.2.2.1.2.2.2.2.2.1 v.2.2.1.2.2.2.2.2.2.1 v.2.2.1.2.2.2.2.2.2.2 v.2.2.2.1.1 v.2.2.2.1.2)
def yej (_ : Nat) : Lps := fun _ => none
theorem ya4 (ro : Option Nat) : LpOk Tryz.prog 102 ro (zgp N) (Z8 zfh [true, true, true, true, true, true]) :=
  z0m (zh9 N) mixed (Λ := yej N) (p := 127) (Y2 (l := []) (by kernel_rfl) Y3) (by kernel_rfl) (by intro v; kernel_rfl)
def ygh : Cut := { tms := [1, 2, 3, 5], sh := (.cons (.ptr 2000000 0) (.cons (.ptr 2000001 0) (.cons .str (.ptr 2000002 0)))), objs := [(2000000, [1], .box (.cons (.int .u8) (.cons (.int .u8) (.cons (.int .u8) (.cons (.int .u8) (.cons (.int .u8) (.int .u8))))))), (2000001, [2], .box Sz3), (2000002, [5], .box Sz8)], sts := [] }
def y19 : Cut := { tms := [2], sh := (.ptr 2000000 0), objs := [(2000000, [2], .box Sz3)], sts := [] }
def zgq : Lp := lpOf ygh (1, y19) [] (fun v => z3m N v.1.2.2.1 v.2.1.1 v.2.1.2.1 v.2.1.2.2.1 v.2.1.2.2.2.1 v.2.1.2.2.2.2.1 v.2.1.2.2.2.2.2 v.2.2.1.1 v.2.2.1.2.1 v.2.2.1.2.2.1 v.2.2.1.2.2.2.1 v.2.2.1.2.2.2.2.1 v.2.2.1.2.2.2.2.2.1 v.2.2.1.2.2.2.2.2.2.1 v.2.2.1.2.2.2.2.2.2.2 v.2.2.2.1.1 v.2.2.2.1.2)
def yek : Lps := fun p => bif Nat.beq p 127 then some (zgp N) else none
theorem ya5 (ro : Option Nat) : LpOk Tryz.prog 102 ro (zgq N) (Z8 zfh [true, true, true, true]) :=
  z0m (zh9 N) mixed (Λ := yek N) (p := 31) (Y2 (l := [(zgp N, (Z8 zfh [true, true, true, true, true, true]))]) (by kernel_rfl) (X3 (ya4 N ro) Y3)) (by kernel_rfl) (by intro v; kernel_rfl)
def ys7 : Lps := fun p => bif Nat.beq p 31 then some (zgq N) else none
def y2l : Ctr := X0 (.val z4d) (.val Y5) [] (fun v => zhl N v)
theorem yj4 : Y7 Tryz.prog 88 (fun vs => (y2l N).run vs some) :=
  Y4 (zh9 N) mixed (Λ := ys7 N) (fn := Tryz.f88) (c := zfh) Tryz.func88 (by kernel_rfl) (by kernel_rfl) (Y2 (l := [(zgq N, (Z8 zfh [true, true, true, true]))]) (by kernel_rfl) (X3 (ya5 N none) Y3)) (by kernel_rfl) (by intro v; kernel_rfl)
def zfi : Code := match Tryz.f36.body with | some c => c | none => .skip
def yra : List (Nat × Ctr) := [(88, y2l N)]
def yt6 : Env := Y9 tyRows eqRows Z9 [] [] (yra N)
theorem zsh : EnvOk Tryz.prog (yt6 N) := Y0 Z5 Z6 Z3 ⟨yj4 N, trivial⟩
def ygi : Cut := { tms := [0, 1, 5, 6], sh := (.cons (.list z4d) (.cons (.int .i64) (.cons (.own 2000000) (.int .i64)))), objs := [(2000000, [5], .sl Y5)], sts := [] }
def y1a : Cut := { tms := [5], sh := (.own 2000000), objs := [(2000000, [5], .sl Y5)], sts := [] }
def zgr : Lp := lpOf ygi (2, y1a) [] (fun v => zqk N N v.1.1 v.1.2.1 v.1.2.2.2 v.2.1)
def yel (_ : Nat) : Lps := fun _ => none
theorem ya6 (ro : Option Nat) : LpOk Tryz.prog 28 ro (zgr N) (Z8 zfi [true, true, false, true, false]) := by
  rw [show (Z8 zfi [true, true, false, true, false]) = .loop (Z8 zfi [true, true, false, true, false, false]) by kernel_rfl]
  exact W6 (zsh N) mixed (Λ := yel N) (p := 116) (Y2 (l := []) (by kernel_rfl) Y3) (by kernel_rfl) (by intro rec v; kernel_rfl) N
def ys8 : Lps := fun p => bif Nat.beq p 58 then some (zgr N) else none
def y2m : Ctr := X0 (.cons (.list z4d) (.int .i64)) (.fresh Y5) [] (fun v => zvo N v.1 v.2)
theorem yj5 : Y7 Tryz.prog 36 (fun vs => (y2m N).run vs some) :=
  Y4 (zsh N) mixed (Λ := ys8 N) (fn := Tryz.f36) (c := zfi) Tryz.func36 (by kernel_rfl) (by kernel_rfl) (Y2 (l := [(zgr N, (Z8 zfi [true, true, false, true, false]))]) (by kernel_rfl) (X3 (ya6 N none) Y3)) (by kernel_rfl) (by intro v; kernel_rfl)
def z4w : Code := match Tryz.f11.body with | some c => c | none => .skip
def yr6 : List (Nat × Ctr) := [(24, zmn N), (13, zqt N), (35, zst N), (36, y2m N)]
def yt2 : Env := Y9 tyRows eqRows Z9 [(9, [35])] [] (yr6 N)
theorem zh8 : EnvOk Tryz.prog (yt2 N) := Y0 Z5 Z6 Z3 ⟨zs6 N, ⟨zvj N, ⟨y9b N, ⟨yj5 N, trivial⟩⟩⟩⟩
def yge : Cut := { tms := [1, 2, 5, 6], sh := (.cons (.ptr 2000000 0) (.cons (.ptr 2000001 0) (.cons (.ptr 2000007 0) (.int .i64)))), objs := [(2000000, [1], .box Sz12), (2000001, [2], .box Sz14), (2000002, [2, 0], .sl Y1), (2000003, [2, 1], .sl .str), (2000004, [2, 2], .sl (.int .i64)), (2000005, [2, 3], .sl V6), (2000006, [2, 4], .sl Y5), (2000007, [5], .box (.cons (.own 2000008) (.cons (.list .str) (.cons (.own 2000009) (.cons (.own 2000010) (.own 2000011)))))), (2000008, [5, 0], .sl Y1), (2000009, [5, 2], .sl (.int .i64)), (2000010, [5, 3], .sl V6), (2000011, [5, 4], .sl Y5)], sts := [] }
def y16 : Cut := { tms := [2, 5], sh := (.cons (.ptr 2000000 0) (.ptr 2000006 0)), objs := [(2000000, [2], .box Sz7), (2000001, [2, 0], .sl Y1), (2000002, [2, 1], .sl .str), (2000003, [2, 2], .sl (.int .i64)), (2000004, [2, 3], .sl V6), (2000005, [2, 4], .sl Y5), (2000006, [5], .box (.cons (.own 2000007) (.cons (.list .str) (.cons (.own 2000008) (.cons (.own 2000009) (.own 2000010)))))), (2000007, [5, 0], .sl Y1), (2000008, [5, 2], .sl (.int .i64)), (2000009, [5, 3], .sl V6), (2000010, [5, 4], .sl Y5)], sts := [] }
def zgn : Lp := lpOf yge (4, y16) [] (fun v => zcb N N v.1.2.2.2 v.2.1.1 v.2.1.2.1 v.2.1.2.2.1 v.2.1.2.2.2.1 v.2.1.2.2.2.2 v.2.2.2.1 v.2.2.2.2.1 v.2.2.2.2.2.1 v.2.2.2.2.2.2.1 v.2.2.2.2.2.2.2.1 v.2.2.2.2.2.2.2.2.1.2.1 v.2.2.2.2.2.2.2.2.2.1 v.2.2.2.2.2.2.2.2.2.2.1 v.2.2.2.2.2.2.2.2.2.2.2.1 v.2.2.2.2.2.2.2.2.2.2.2.2.1)
def yeh (_ : Nat) : Lps := fun _ => none
theorem ya2 (ro : Option Nat) : LpOk Tryz.prog 109 ro (zgn N) (Z8 z4w [true, true, true, true, true, true, false, true, false]) := by
  rw [show (Z8 z4w [true, true, true, true, true, true, false, true, false]) = .loop (Z8 z4w [true, true, true, true, true, true, false, true, false, false]) by kernel_rfl]
  exact W6 (zh8 N) mixed (Λ := yeh N) (p := 2036) (Y2 (l := []) (by kernel_rfl) Y3) (by kernel_rfl) (by intro rec v; kernel_rfl) N
def ygf : Cut := { tms := [1, 2, 3, 4], sh := (.cons (.ptr 2000000 0) (.cons (.ptr 2000001 0) (.cons (.own 2000007) (.int .i64)))), objs := [(2000000, [1], .box Sz12), (2000001, [2], .box Sz14), (2000002, [2, 0], .sl Y1), (2000003, [2, 1], .sl .str), (2000004, [2, 2], .sl (.int .i64)), (2000005, [2, 3], .sl V6), (2000006, [2, 4], .sl Y5), (2000007, [3], .sl .str)], sts := [] }
def y17 : Cut := { tms := [1, 2, 3], sh := (.cons (.ptr 2000000 0) (.cons (.ptr 2000001 0) (.own 2000007))), objs := [(2000000, [1], .box Sz12), (2000001, [2], .box Sz14), (2000002, [2, 0], .sl Y1), (2000003, [2, 1], .sl .str), (2000004, [2, 2], .sl (.int .i64)), (2000005, [2, 3], .sl V6), (2000006, [2, 4], .sl Y5), (2000007, [3], .sl .str)], sts := [] }
def zgo : Lp := lpOf ygf (2, y17) [] (fun v => zcc N N v.1.2.2.2 v.2.1.1 v.2.1.2.1 v.2.1.2.2.1 v.2.1.2.2.2.1 v.2.1.2.2.2.2 v.2.2.2.1 v.2.2.2.2.1 v.2.2.2.2.2.1 v.2.2.2.2.2.2.1 v.2.2.2.2.2.2.2.1 v.2.2.2.2.2.2.2.2.1)
def yei (_ : Nat) : Lps := fun _ => none
theorem ya3 (ro : Option Nat) : LpOk Tryz.prog 109 ro (zgo N) (Z8 z4w [true, true, true, false, true, false]) := by
  rw [show (Z8 z4w [true, true, true, false, true, false]) = .loop (Z8 z4w [true, true, true, false, true, false, false]) by kernel_rfl]
  exact W6 (zh8 N) mixed (Λ := yei N) (p := 244) (Y2 (l := []) (by kernel_rfl) Y3) (by kernel_rfl) (by intro rec v; kernel_rfl) N
def ys4 : Lps := fun p => bif Nat.beq p 122 then some (zgo N) else bif Nat.beq p 1018 then some (zgn N) else none
def y2j : Ctr := X0 (.val ze8) (.agg (.cons (.fresh Y1) (.cons (.list .str) (.cons (.fresh (.int .i64)) (.cons (.fresh V6) (.fresh Y5)))))) [] (fun v => zvn N v)
theorem yj2 : Y7 Tryz.prog 11 (fun vs => (y2j N).run vs some) :=
  Y4 (zh8 N) mixed (Λ := ys4 N) (fn := Tryz.f11) (c := z4w) Tryz.func11 (by kernel_rfl) (by kernel_rfl) (Y2 (l := [(zgo N, (Z8 z4w [true, true, true, false, true, false])), (zgn N, (Z8 z4w [true, true, true, true, true, true, false, true, false]))]) (by kernel_rfl) (X3 (ya3 N none) (X3 (ya2 N none) Y3))) (by kernel_rfl) (by intro v; kernel_rfl)
def yy4 : Code := match Tryz.f26.body with | some c => c | none => .skip
def yn8 (_ : Nat) : List (Nat × Ctr) := []
def ypl : Env := Y9 tyRows eqRows Z9 [] [] (yn8 N)
theorem yfm : EnvOk Tryz.prog (ypl N) := Y0 Z5 Z6 Z3 trivial
def yoa (_ : Nat) : Lps := fun _ => none
def zw8 : Ctr := X0 (.val zuz) (.val V6) [] (fun v => y32 N v)
theorem ydy : Y7 Tryz.prog 26 (fun vs => (zw8 N).run vs some) :=
  Y4 (yfm N) mixed (Λ := yoa N) (fn := Tryz.f26) (c := yy4) Tryz.func26 (by kernel_rfl) (by kernel_rfl) (Y2 (l := []) (by kernel_rfl) Y3) (by kernel_rfl) (by intro v; kernel_rfl)
def x0m : Code := match Tryz.f106.body with | some c => c | none => .skip
def yrh (_ : Nat) : List (Nat × Ctr) := []
def ytd : Env := Y9 tyRows eqRows Z9 [] [] (yrh N)
theorem ykn : EnvOk Tryz.prog (ytd N) := Y0 Z5 Z6 Z3 trivial
def ysf (_ : Nat) : Lps := fun _ => none
def zmo : Ctr := X0 (.cons .str .str) .bool [] (fun v => zn8 N v.1 v.2)
theorem zs7 : Y7 Tryz.prog 106 (fun vs => (zmo N).run vs some) :=
  Y4 (ykn N) mixed (Λ := ysf N) (fn := Tryz.f106) (c := x0m) Tryz.func106 (by kernel_rfl) (by kernel_rfl) (Y2 (l := []) (by kernel_rfl) Y3) (by kernel_rfl) (by intro v; kernel_rfl)
def yy7 : Code := match Tryz.f20.body with | some c => c | none => .skip
def ynf (_ : Nat) : List (Nat × Ctr) := []
def yps : Env := Y9 tyRows eqRows Z9 [] [] (ynf N)
theorem yfp : EnvOk Tryz.prog (yps N) := Y0 Z5 Z6 Z3 trivial
def yoh (_ : Nat) : Lps := fun _ => none
def zcu : Ctr := X0 (.val Y8) .bool [] (fun v => z8h N v)
theorem zeq : Y7 Tryz.prog 20 (fun vs => (zcu N).run vs some) :=
  Y4 (yfp N) mixed (Λ := yoh N) (fn := Tryz.f20) (c := yy7) Tryz.func20 (by kernel_rfl) (by kernel_rfl) (Y2 (l := []) (by kernel_rfl) Y3) (by kernel_rfl) (by intro v; kernel_rfl)
def x0k : Code := match Tryz.f107.body with | some c => c | none => .skip
def yrf (_ : Nat) : List (Nat × Ctr) := []
def ytb : Env := Y9 tyRows eqRows Z9 [] [] (yrf N)
theorem ykl : EnvOk Tryz.prog (ytb N) := Y0 Z5 Z6 Z3 trivial
def ysd (_ : Nat) : Lps := fun _ => none
def y2q : Ctr := X0 .nil (.val Y8) [] (fun _ => zvp N)
theorem yj9 : Y7 Tryz.prog 107 (fun vs => (y2q N).run vs some) :=
  Y4 (ykl N) mixed (Λ := ysd N) (fn := Tryz.f107) (c := x0k) Tryz.func107 (by kernel_rfl) (by kernel_rfl) (Y2 (l := []) (by kernel_rfl) Y3) (by kernel_rfl) (by intro v; kernel_rfl)
def x0l : Code := match Tryz.f82.body with | some c => c | none => .skip
def yrg : List (Nat × Ctr) := [(106, zmo N), (20, zcu N), (107, y2q N)]
def ytc : Env := Y9 tyRows eqRows Z9 [] [] (yrg N)
theorem ykm : EnvOk Tryz.prog (ytc N) := Y0 Z5 Z6 Z3 ⟨zs7 N, ⟨zeq N, ⟨yj9 N, trivial⟩⟩⟩
def yse (_ : Nat) : Lps := fun _ => none
def y2r : Ctr := X0 (.cons (.val Y8) (.val Y8)) (.val Y8) [] (fun v => zn7 N v.1 v.2)
theorem yja : Y7 Tryz.prog 82 (fun vs => (y2r N).run vs some) :=
  Y4 (ykm N) mixed (Λ := yse N) (fn := Tryz.f82) (c := x0l) Tryz.func82 (by kernel_rfl) (by kernel_rfl) (Y2 (l := []) (by kernel_rfl) Y3) (by kernel_rfl) (by intro v; kernel_rfl)
def zcq : Code := match Tryz.f28.body with | some c => c | none => .skip
def yne : List (Nat × Ctr) := [(82, y2r N)]
def ypr : Env := Y9 tyRows eqRows Z9 [] [] (yne N)
theorem zol : EnvOk Tryz.prog (ypr N) := Y0 Z5 Z6 Z3 ⟨yja N, trivial⟩
def yc7 : Cut := { tms := [1, 2, 5, 6, 7], sh := (.cons (.list .str) (.cons (.ptr 2000000 0) (.cons (.own 2000001) Sz15))), objs := [(2000000, [2], .box Sz8), (2000001, [5], .sl Y8)], sts := [] }
def zyt : Cut := { tms := [2, 5, 6], sh := (.cons (.ptr 2000000 0) (.cons (.own 2000001) .str)), objs := [(2000000, [2], .box Sz8), (2000001, [5], .sl Y8)], sts := [] }
def zf1 : Lp := lpOf yc7 (2, zyt) [] (fun v => zal N N v.1.1 v.1.2.2.2.1 v.1.2.2.2.2 v.2.1.1 v.2.1.2 v.2.2.1)
def yax (_ : Nat) : Lps := fun _ => none
theorem y4i (ro : Option Nat) : LpOk Tryz.prog 37 ro (zf1 N) (Z8 zcq [true, true, false, true, false]) := by
  rw [show (Z8 zcq [true, true, false, true, false]) = .loop (Z8 zcq [true, true, false, true, false, false]) by kernel_rfl]
  exact W6 (zol N) mixed (Λ := yax N) (p := 116) (Y2 (l := []) (by kernel_rfl) Y3) (by kernel_rfl) (by intro rec v; kernel_rfl) N
def yog : Lps := fun p => bif Nat.beq p 58 then some (zf1 N) else none
def zwd : Ctr := X0 (.cons (.val Y8) (.list .str)) (.fresh Y8) [] (fun v => zq7 N v.1 v.2)
theorem ye3 : Y7 Tryz.prog 28 (fun vs => (zwd N).run vs some) :=
  Y4 (zol N) mixed (Λ := yog N) (fn := Tryz.f28) (c := zcq) Tryz.func28 (by kernel_rfl) (by kernel_rfl) (Y2 (l := [(zf1 N, (Z8 zcq [true, true, false, true, false]))]) (by kernel_rfl) (X3 (y4i N none) Y3)) (by kernel_rfl) (by intro v; kernel_rfl)
def x36 : Code := match Tryz.f83.body with | some c => c | none => .skip
def ywa (_ : Nat) : List (Nat × Ctr) := []
def yxi : Env := Y9 tyRows eqRows Z9 [] [] (ywa N)
theorem yp2 : EnvOk Tryz.prog (yxi N) := Y0 Z5 Z6 Z3 trivial
def ywx (_ : Nat) : Lps := fun _ => none
def y8f : Ctr := X0 (.cons (.val Y8) .str) .bool [] (fun v => y6x N v.1 v.2)
theorem ynp : Y7 Tryz.prog 83 (fun vs => (y8f N).run vs some) :=
  Y4 (yp2 N) mixed (Λ := ywx N) (fn := Tryz.f83) (c := x36) Tryz.func83 (by kernel_rfl) (by kernel_rfl) (Y2 (l := []) (by kernel_rfl) Y3) (by kernel_rfl) (by intro v; kernel_rfl)
def zcp : Code := match Tryz.f29.body with | some c => c | none => .skip
def ynd : List (Nat × Ctr) := [(83, y8f N)]
def ypq : Env := Y9 tyRows eqRows Z9 [] [] (ynd N)
theorem zok : EnvOk Tryz.prog (ypq N) := Y0 Z5 Z6 Z3 ⟨ynp N, trivial⟩
def yc6 : Cut := { tms := [0, 3, 5, 6], sh := (.cons (.list Y1) (.cons (.ptr 2000000 0) (.cons (.own 2000001) (.int .i64)))), objs := [(2000000, [3], .box Sz8), (2000001, [5], .sl Y1)], sts := [] }
def zys : Cut := { tms := [5], sh := (.own 2000000), objs := [(2000000, [5], .sl Y1)], sts := [] }
def zf0 : Lp := lpOf yc6 (2, zys) [] (fun v => zak N N v.1.1 v.1.2.2.2 v.2.1.1 v.2.1.2 v.2.2.1)
def yaw (_ : Nat) : Lps := fun _ => none
theorem y4h (ro : Option Nat) : LpOk Tryz.prog 29 ro (zf0 N) (Z8 zcp [true, true, false, true, false]) := by
  rw [show (Z8 zcp [true, true, false, true, false]) = .loop (Z8 zcp [true, true, false, true, false, false]) by kernel_rfl]
  exact W6 (zok N) mixed (Λ := yaw N) (p := 116) (Y2 (l := []) (by kernel_rfl) Y3) (by kernel_rfl) (by intro rec v; kernel_rfl) N
def yof : Lps := fun p => bif Nat.beq p 58 then some (zf0 N) else none
def zwc : Ctr := X0 (.cons (.list Y1) (.val Y8)) (.fresh Y1) [] (fun v => zq6 N v.1 v.2)
theorem ye2 : Y7 Tryz.prog 29 (fun vs => (zwc N).run vs some) :=
  Y4 (zok N) mixed (Λ := yof N) (fn := Tryz.f29) (c := zcp) Tryz.func29 (by kernel_rfl) (by kernel_rfl) (Y2 (l := [(zf0 N, (Z8 zcp [true, true, false, true, false]))]) (by kernel_rfl) (X3 (y4h N none) Y3)) (by kernel_rfl) (by intro v; kernel_rfl)
def x6d : Code := match Tryz.f84.body with | some c => c | none => .skip
def yzo (_ : Nat) : List (Nat × Ctr) := []
def x07 : Env := Y9 tyRows eqRows Z9 [] [] (yzo N)
theorem yst : EnvOk Tryz.prog (x07 N) := Y0 Z5 Z6 Z3 trivial
def yzw (_ : Nat) : Lps := fun _ => none
def yhn : Ctr := X0 (.cons (.int .i64) (.cons (.int .i64) (.int .i64))) .bool [] (fun v => zo1 N v.1 v.2.1 v.2.2)
theorem yrr : Y7 Tryz.prog 84 (fun vs => (yhn N).run vs some) :=
  Y4 (yst N) mixed (Λ := yzw N) (fn := Tryz.f84) (c := x6d) Tryz.func84 (by kernel_rfl) (by kernel_rfl) (Y2 (l := []) (by kernel_rfl) Y3) (by kernel_rfl) (by intro v; kernel_rfl)
def x0h : Code := match Tryz.f85.body with | some c => c | none => .skip
def yr7 : List (Nat × Ctr) := [(20, zcu N)]
def yt3 : Env := Y9 tyRows eqRows Z9 [] [] (yr7 N)
theorem yki : EnvOk Tryz.prog (yt3 N) := Y0 Z5 Z6 Z3 ⟨zeq N, trivial⟩
def ys5 (_ : Nat) : Lps := fun _ => none
def y2k : Ctr := X0 (.val Y8) .bool [] (fun v => zn4 N v)
theorem yj3 : Y7 Tryz.prog 85 (fun vs => (y2k N).run vs some) :=
  Y4 (yki N) mixed (Λ := ys5 N) (fn := Tryz.f85) (c := x0h) Tryz.func85 (by kernel_rfl) (by kernel_rfl) (Y2 (l := []) (by kernel_rfl) Y3) (by kernel_rfl) (by intro v; kernel_rfl)
def zqw : Code := match Tryz.f30.body with | some c => c | none => .skip
def yna : List (Nat × Ctr) := [(84, yhn N), (85, y2k N), (86, zhb N)]
def ypn : Env := Y9 tyRows eqRows Z9 [] [] (yna N)
theorem zoi : EnvOk Tryz.prog (ypn N) := Y0 Z5 Z6 Z3 ⟨yrr N, ⟨yj3 N, ⟨zli N, trivial⟩⟩⟩
def yc4 : Cut := { tms := [1, 4, 14, 66], sh := (.cons (.ptr 2000000 0) (.cons .bool (.cons (.int .i64) .bool))), objs := [(2000000, [1], .box Sz3)], sts := [] }
def zyo : Cut := { tms := [2], sh := .bool, objs := [], sts := [] }
def zyn : Cut := { tms := [], sh := .nil, objs := [], sts := [] }
def zey : Lp := lpOf yc4 (1, zyo) [(0, zyn)] (fun v => zaj N v.1.2.1 v.1.2.2.1 v.1.2.2.2 v.2.1.1 v.2.1.2.1 v.2.1.2.2.1 v.2.1.2.2.2.1 v.2.1.2.2.2.2.1 v.2.1.2.2.2.2.2.1 v.2.1.2.2.2.2.2.2.1 v.2.1.2.2.2.2.2.2.2)
def yat (_ : Nat) : Lps := fun _ => none
theorem y4f (ro : Option Nat) : LpOk Tryz.prog 126 ro (zey N) (Z8 zqw [true, true, false, true, false, true, true, true, true, true, true, true]) :=
  z0m (zoi N) mixed (Λ := yat N) (p := 7551) (Y2 (l := []) (by kernel_rfl) Y3) (by kernel_rfl) (by intro v; kernel_rfl)
def yoc : Lps := fun p => bif Nat.beq p 7551 then some (zey N) else none
def ziz : Ctr := X0 (.val Y5) .bool [] (fun v => zi8 N v)
theorem zo6 : Y7 Tryz.prog 30 (fun vs => (ziz N).run vs some) :=
  Y4 (zoi N) mixed (Λ := yoc N) (fn := Tryz.f30) (c := zqw) Tryz.func30 (by kernel_rfl) (by kernel_rfl) (Y2 (l := [(zey N, (Z8 zqw [true, true, false, true, false, true, true, true, true, true, true, true]))]) (by kernel_rfl) (X3 (y4f N none) Y3)) (by kernel_rfl) (by intro v; kernel_rfl)
def zco : Code := match Tryz.f95.body with | some c => c | none => .skip
def ync (_ : Nat) : List (Nat × Ctr) := []
def ypp : Env := Y9 tyRows eqRows Z9 [] [] (ync N)
theorem zoj : EnvOk Tryz.prog (ypp N) := Y0 Z5 Z6 Z3 trivial
def yc5 : Cut := { tms := [0, 3], sh := (.cons (.list Y1) (.int .i64)), objs := [], sts := [] }
def zyr : Cut := { tms := [2], sh := .bool, objs := [], sts := [] }
def zyq : Cut := { tms := [], sh := .nil, objs := [], sts := [] }
def zez : Lp := lpOf yc5 (1, zyr) [(2, zyq)] (fun v => y29 N N v.1.1 v.1.2)
def yav (_ : Nat) : Lps := fun _ => none
theorem y4g (ro : Option Nat) : LpOk Tryz.prog 22 ro (zez N) (Z8 zco [true, false, true, false]) := by
  rw [show (Z8 zco [true, false, true, false]) = .loop (Z8 zco [true, false, true, false, false]) by kernel_rfl]
  exact W6 (zoj N) mixed (Λ := yav N) (p := 52) (Y2 (l := []) (by kernel_rfl) Y3) (by kernel_rfl) (by intro rec v; kernel_rfl) N
def yoe : Lps := fun p => bif Nat.beq p 26 then some (zez N) else none
def zwb : Ctr := X0 (.list Y1) .bool [] (fun v => y33 N v)
theorem ye1 : Y7 Tryz.prog 95 (fun vs => (zwb N).run vs some) :=
  Y4 (zoj N) mixed (Λ := yoe N) (fn := Tryz.f95) (c := zco) Tryz.func95 (by kernel_rfl) (by kernel_rfl) (Y2 (l := [(zez N, (Z8 zco [true, false, true, false]))]) (by kernel_rfl) (X3 (y4g N none) Y3)) (by kernel_rfl) (by intro v; kernel_rfl)
def x39 : Code := match Tryz.f22.body with | some c => c | none => .skip
def ywc (_ : Nat) : List (Nat × Ctr) := []
def yxk : Env := Y9 tyRows eqRows Z9 [] [] (ywc N)
theorem yp4 : EnvOk Tryz.prog (yxk N) := Y0 Z5 Z6 Z3 trivial
def ywz (_ : Nat) : Lps := fun _ => none
def y8g : Ctr := X0 (.cons (.val Y8) .str) .bool [] (fun v => y6y N v.1 v.2)
theorem ynq : Y7 Tryz.prog 22 (fun vs => (y8g N).run vs some) :=
  Y4 (yp4 N) mixed (Λ := ywz N) (fn := Tryz.f22) (c := x39) Tryz.func22 (by kernel_rfl) (by kernel_rfl) (Y2 (l := []) (by kernel_rfl) Y3) (by kernel_rfl) (by intro v; kernel_rfl)
def x6c : Code := match Tryz.f54.body with | some c => c | none => .skip
def yzn (_ : Nat) : List (Nat × Ctr) := []
def x06 : Env := Y9 tyRows eqRows Z9 [] [] (yzn N)
theorem yss : EnvOk Tryz.prog (x06 N) := Y0 Z5 Z6 Z3 trivial
def yzv (_ : Nat) : Lps := fun _ => none
def zkw : Ctr := X0 (.cons (.int .i64) (.cons (.int .i64) (.int .i64))) .bool [] (fun v => zj7 N v.1 v.2.1 v.2.2)
theorem zm4 : Y7 Tryz.prog 54 (fun vs => (zkw N).run vs some) :=
  Y4 (yss N) mixed (Λ := yzv N) (fn := Tryz.f54) (c := x6c) Tryz.func54 (by kernel_rfl) (by kernel_rfl) (Y2 (l := []) (by kernel_rfl) Y3) (by kernel_rfl) (by intro v; kernel_rfl)
def zfg : Code := match Tryz.f52.body with | some c => c | none => .skip
def yr4 : List (Nat × Ctr) := [(95, zwb N), (22, y8g N), (54, zkw N)]
def yt0 : Env := Y9 tyRows eqRows Z9 [] [] (yr4 N)
theorem zsg : EnvOk Tryz.prog (yt0 N) := Y0 Z5 Z6 Z3 ⟨ye1 N, ⟨ynq N, ⟨zm4 N, trivial⟩⟩⟩
def yg8 : Cut := { tms := [2, 3, 5], sh := Sz11, objs := [(2000000, [2], .box Sz0), (2000001, [3], .box Sz8)], sts := [] }
def y0w : Cut := { tms := [4], sh := .bool, objs := [], sts := [] }
def y0v : Cut := { tms := [], sh := .nil, objs := [], sts := [] }
def zgh : Lp := lpOf yg8 (1, y0w) [(2, y0v)] (fun v => z9h N N v.1.2.2 v.2.1.1 v.2.1.2.1 v.2.1.2.2.1 v.2.1.2.2.2.1 v.2.1.2.2.2.2 v.2.2.1.1 v.2.2.1.2)
def yeb (_ : Nat) : Lps := fun _ => none
theorem y9w (ro : Option Nat) : LpOk Tryz.prog 65 ro (zgh N) (Z8 zfg [true, true, false, true, false]) := by
  rw [show (Z8 zfg [true, true, false, true, false]) = .loop (Z8 zfg [true, true, false, true, false, false]) by kernel_rfl]
  exact W6 (zsg N) mixed (Λ := yeb N) (p := 116) (Y2 (l := []) (by kernel_rfl) Y3) (by kernel_rfl) (by intro rec v; kernel_rfl) N
def yrz : Lps := fun p => bif Nat.beq p 58 then some (zgh N) else none
def y2h : Ctr := X0 (.cons (.val z5f) (.val Y8)) .bool [] (fun v => ycz N v.1 v.2)
theorem yj0 : Y7 Tryz.prog 52 (fun vs => (y2h N).run vs some) :=
  Y4 (zsg N) mixed (Λ := yrz N) (fn := Tryz.f52) (c := zfg) Tryz.func52 (by kernel_rfl) (by kernel_rfl) (Y2 (l := [(zgh N, (Z8 zfg [true, true, false, true, false]))]) (by kernel_rfl) (X3 (y9w N none) Y3)) (by kernel_rfl) (by intro v; kernel_rfl)
def z1u : Code := match Tryz.f53.body with | some c => c | none => .skip
def yik (_ : Nat) : List (Nat × Ctr) := []
def ykt : Env := Y9 tyRows eqRows Z9 [] [] (yik N)
theorem z81 : EnvOk Tryz.prog (ykt N) := Y0 Z5 Z6 Z3 trivial
def y64 : Cut := { tms := [0, 3, 5, 48], sh := (.cons (.list .str) (.cons (.ptr 2000000 0) (.cons (.int .i64) .bool))), objs := [(2000000, [3], .box Sz8)], sts := [] }
def zu9 : Cut := { tms := [4], sh := .bool, objs := [], sts := [] }
def zu8 : Cut := { tms := [0, 3, 5], sh := (.cons (.list .str) Sz17), objs := [(2000000, [3], .box Sz8)], sts := [] }
def zdc : Lp := lpOf y64 (1, zu9) [(0, zu8)] (fun v => z2a N v.1.1 v.1.2.2.1 v.1.2.2.2 v.2.1.1 v.2.1.2)
def y4o (_ : Nat) : Lps := fun _ => none
theorem zzp (ro : Option Nat) : LpOk Tryz.prog 49 ro (zdc N) (Z8 z1u [true, false, true, false, false, true, false, false, true]) :=
  z0m (z81 N) mixed (Λ := y4o N) (p := 841) (Y2 (l := []) (by kernel_rfl) Y3) (by kernel_rfl) (by intro v; kernel_rfl)
def y65 : Cut := { tms := [0, 3, 5], sh := (.cons (.list .str) Sz17), objs := [(2000000, [3], .box Sz8)], sts := [] }
def zua : Cut := { tms := [0, 3, 5], sh := (.cons (.list .str) Sz17), objs := [(2000000, [3], .box Sz8)], sts := [] }
def zdd : Lp := lpOf y65 (0, zua) [] (fun v => z2b N v.1.1 v.1.2.2 v.2.1.1 v.2.1.2)
def y4p (_ : Nat) : Lps := fun _ => none
theorem zzq (ro : Option Nat) : LpOk Tryz.prog 49 ro (zdd N) (Z8 z1u [true, false, true, false, false, true, true]) :=
  z0m (z81 N) mixed (Λ := y4p N) (p := 211) (Y2 (l := []) (by kernel_rfl) Y3) (by kernel_rfl) (by intro v; kernel_rfl)
def y66 : Cut := { tms := [0, 3, 5], sh := (.cons (.list .str) Sz17), objs := [(2000000, [3], .box Sz8)], sts := [] }
def zuc : Cut := { tms := [4], sh := .bool, objs := [], sts := [] }
def zub : Cut := { tms := [], sh := .nil, objs := [], sts := [] }
def zde : Lp := lpOf y66 (1, zuc) [(2, zub)] (fun v => z5k N N v.1.1 v.1.2.2 v.2.1.1 v.2.1.2)
def y4q : Lps := fun p => bif Nat.beq p 211 then some (zdd N) else bif Nat.beq p 841 then some (zdc N) else none
theorem zzr (ro : Option Nat) : LpOk Tryz.prog 49 ro (zde N) (Z8 z1u [true, false, true, false]) := by
  rw [show (Z8 z1u [true, false, true, false]) = .loop (Z8 z1u [true, false, true, false, false]) by kernel_rfl]
  exact W6 (z81 N) mixed (Λ := y4q N) (p := 52) (Y2 (l := [(zdc N, (Z8 z1u [true, false, true, false, false, true, false, false, true])), (zdd N, (Z8 z1u [true, false, true, false, false, true, true]))]) (by kernel_rfl) (X3 (zzp N ro) (X3 (zzq N ro) Y3))) (by kernel_rfl) (by intro rec v; kernel_rfl) N
def yjv : Lps := fun p => bif Nat.beq p 26 then some (zde N) else none
def zsp : Ctr := X0 (.cons (.list .str) (.val Y8)) .bool [] (fun v => zkj N v.1 v.2)
theorem y97 : Y7 Tryz.prog 53 (fun vs => (zsp N).run vs some) :=
  Y4 (z81 N) mixed (Λ := yjv N) (fn := Tryz.f53) (c := z1u) Tryz.func53 (by kernel_rfl) (by kernel_rfl) (Y2 (l := [(zde N, (Z8 z1u [true, false, true, false]))]) (by kernel_rfl) (X3 (zzr N none) Y3)) (by kernel_rfl) (by intro v; kernel_rfl)
def yy3 : Code := match Tryz.f55.body with | some c => c | none => .skip
def yn6 (_ : Nat) : List (Nat × Ctr) := []
def ypj : Env := Y9 tyRows eqRows Z9 [] [] (yn6 N)
theorem yfl : EnvOk Tryz.prog (ypj N) := Y0 Z5 Z6 Z3 trivial
def yo8 (_ : Nat) : Lps := fun _ => none
def zw6 : Ctr := X0 (.val ze9) .bool [] (fun v => zi7 N v)
theorem ydw : Y7 Tryz.prog 55 (fun vs => (zw6 N).run vs some) :=
  Y4 (yfl N) mixed (Λ := yo8 N) (fn := Tryz.f55) (c := yy3) Tryz.func55 (by kernel_rfl) (by kernel_rfl) (Y2 (l := []) (by kernel_rfl) Y3) (by kernel_rfl) (by intro v; kernel_rfl)
def yy6 : Code := match Tryz.f96.body with | some c => c | none => .skip
def ynb : List (Nat × Ctr) := [(109, zbi N)]
def ypo : Env := Y9 tyRows eqRows Z9 [] [] (ynb N)
theorem yfo : EnvOk Tryz.prog (ypo N) := Y0 Z5 Z6 Z3 ⟨zd8 N, trivial⟩
def yod (_ : Nat) : Lps := fun _ => none
def zwa : Ctr := X0 (.val Y5) (.fresh Y8) [] (fun v => zq5 N v)
theorem ye0 : Y7 Tryz.prog 96 (fun vs => (zwa N).run vs some) :=
  Y4 (yfo N) mixed (Λ := yod N) (fn := Tryz.f96) (c := yy6) Tryz.func96 (by kernel_rfl) (by kernel_rfl) (Y2 (l := []) (by kernel_rfl) Y3) (by kernel_rfl) (by intro v; kernel_rfl)
def ytu : Code := match Tryz.f97.body with | some c => c | none => .skip
def yin : List (Nat × Ctr) := [(111, zqu N), (109, zbi N)]
def ykw : Env := Y9 tyRows eqRows Z9 [] [] (yin N)
theorem ybe : EnvOk Tryz.prog (ykw N) := Y0 Z5 Z6 Z3 ⟨zvk N, ⟨zd8 N, trivial⟩⟩
def yjy (_ : Nat) : Lps := fun _ => none
def zss : Ctr := X0 (.val Y5) (.fresh Y8) [] (fun v => zkm N v)
theorem y9a : Y7 Tryz.prog 97 (fun vs => (zss N).run vs some) :=
  Y4 (ybe N) mixed (Λ := yjy N) (fn := Tryz.f97) (c := ytu) Tryz.func97 (by kernel_rfl) (by kernel_rfl) (Y2 (l := []) (by kernel_rfl) Y3) (by kernel_rfl) (by intro v; kernel_rfl)
def ytv : Code := match Tryz.f98.body with | some c => c | none => .skip
def yiq : List (Nat × Ctr) := [(20, zcu N), (106, zmo N)]
def ykz : Env := Y9 tyRows eqRows Z9 [] [] (yiq N)
theorem ybf : EnvOk Tryz.prog (ykz N) := Y0 Z5 Z6 Z3 ⟨zeq N, ⟨zs7 N, trivial⟩⟩
def yk3 (_ : Nat) : Lps := fun _ => none
def zsu : Ctr := X0 (.cons (.val Y8) (.val Y8)) .bool [] (fun v => zko N v.1 v.2)
theorem y9c : Y7 Tryz.prog 98 (fun vs => (zsu N).run vs some) :=
  Y4 (ybf N) mixed (Λ := yk3 N) (fn := Tryz.f98) (c := ytv) Tryz.func98 (by kernel_rfl) (by kernel_rfl) (Y2 (l := []) (by kernel_rfl) Y3) (by kernel_rfl) (by intro v; kernel_rfl)
def zb0 : Code := match Tryz.f56.body with | some c => c | none => .skip
def yim : List (Nat × Ctr) := [(96, zwa N), (97, zss N), (98, zsu N)]
def ykv : Env := Y9 tyRows eqRows Z9 [] [] (yim N)
theorem zlo : EnvOk Tryz.prog (ykv N) := Y0 Z5 Z6 Z3 ⟨ye0 N, ⟨y9a N, ⟨y9c N, trivial⟩⟩⟩
def y67 : Cut := { tms := [3, 5, 6], sh := (.cons (.ptr 2000000 0) (.cons (.own 2000001) (.int .i64))), objs := [(2000000, [3], .box Sz8), (2000001, [5], .sl Y8)], sts := [] }
def zue : Cut := { tms := [4], sh := .bool, objs := [], sts := [] }
def zud : Cut := { tms := [], sh := .nil, objs := [], sts := [] }
def zdf : Lp := lpOf y67 (1, zue) [(2, zud)] (fun v => z8r N N v.1.2.2 v.2.1.1 v.2.1.2 v.2.2.1)
def y4r (_ : Nat) : Lps := fun _ => none
theorem zzs (ro : Option Nat) : LpOk Tryz.prog 25 ro (zdf N) (Z8 zb0 [true, true, false, true, false]) := by
  rw [show (Z8 zb0 [true, true, false, true, false]) = .loop (Z8 zb0 [true, true, false, true, false, false]) by kernel_rfl]
  exact W6 (zlo N) mixed (Λ := y4r N) (p := 116) (Y2 (l := []) (by kernel_rfl) Y3) (by kernel_rfl) (by intro rec v; kernel_rfl) N
def yjx : Lps := fun p => bif Nat.beq p 58 then some (zdf N) else none
def zsr : Ctr := X0 (.cons (.val Y5) (.val Y8)) .bool [] (fun v => zkl N v.1 v.2)
theorem y99 : Y7 Tryz.prog 56 (fun vs => (zsr N).run vs some) :=
  Y4 (zlo N) mixed (Λ := yjx N) (fn := Tryz.f56) (c := zb0) Tryz.func56 (by kernel_rfl) (by kernel_rfl) (Y2 (l := [(zdf N, (Z8 zb0 [true, true, false, true, false]))]) (by kernel_rfl) (X3 (zzs N none) Y3)) (by kernel_rfl) (by intro v; kernel_rfl)
def z0x : Code := match Tryz.f15.body with | some c => c | none => .skip
def yn7 : List (Nat × Ctr) := [(52, y2h N), (53, zsp N), (54, zkw N), (55, zw6 N), (30, ziz N), (56, zsr N)]
def ypk : Env := Y9 tyRows eqRows Z9 [] [] (yn7 N)
theorem z9t : EnvOk Tryz.prog (ypk N) := Y0 Z5 Z6 Z3 ⟨yj0 N, ⟨y97 N, ⟨zm4 N, ⟨ydw N, ⟨zo6 N, ⟨y99 N, trivial⟩⟩⟩⟩⟩⟩
def yc2 : Cut := { tms := [2, 3, 6], sh := Sz11, objs := [(2000000, [2], .box Sz0), (2000001, [3], .box Sz8)], sts := [] }
def zyk : Cut := { tms := [4], sh := .bool, objs := [], sts := [] }
def zyj : Cut := { tms := [], sh := .nil, objs := [], sts := [] }
def zew : Lp := lpOf yc2 (1, zyk) [(4, zyj)] (fun v => z7k N N v.1.2.2 v.2.1.1 v.2.1.2.1 v.2.1.2.2.1 v.2.1.2.2.2.1 v.2.1.2.2.2.2 v.2.2.1.1 v.2.2.1.2)
def yar (_ : Nat) : Lps := fun _ => none
theorem y4d (ro : Option Nat) : LpOk Tryz.prog 102 ro (zew N) (Z8 z0x [true, true, true, true, false, true, false]) := by
  rw [show (Z8 z0x [true, true, true, true, false, true, false]) = .loop (Z8 z0x [true, true, true, true, false, true, false, false]) by kernel_rfl]
  exact W6 (z9t N) mixed (Λ := yar N) (p := 500) (Y2 (l := []) (by kernel_rfl) Y3) (by kernel_rfl) (by intro rec v; kernel_rfl) N
def yc3 : Cut := { tms := [2, 3, 5], sh := Sz11, objs := [(2000000, [2], .box Sz0), (2000001, [3], .box Sz8)], sts := [] }
def zym : Cut := { tms := [4], sh := .bool, objs := [], sts := [] }
def zyl : Cut := { tms := [2, 3], sh := Sz9, objs := [(2000000, [2], .box Sz0), (2000001, [3], .box Sz8)], sts := [] }
def zex : Lp := lpOf yc3 (1, zym) [(2, zyl)] (fun v => z7l N N v.1.2.2 v.2.1.1 v.2.1.2.1 v.2.1.2.2.1 v.2.1.2.2.2.1 v.2.1.2.2.2.2 v.2.2.1.1 v.2.2.1.2)
def yas (_ : Nat) : Lps := fun _ => none
theorem y4e (ro : Option Nat) : LpOk Tryz.prog 102 ro (zex N) (Z8 z0x [true, true, true, false, true, false]) := by
  rw [show (Z8 z0x [true, true, true, false, true, false]) = .loop (Z8 z0x [true, true, true, false, true, false, false]) by kernel_rfl]
  exact W6 (z9t N) mixed (Λ := yas N) (p := 244) (Y2 (l := []) (by kernel_rfl) Y3) (by kernel_rfl) (by intro rec v; kernel_rfl) N
def yc1 : Cut := { tms := [2, 3], sh := Sz9, objs := [(2000000, [2], .box Sz0), (2000001, [3], .box Sz8)], sts := [] }
def zyi : Cut := { tms := [4], sh := .bool, objs := [], sts := [] }
def zev : Lp := lpOf yc1 (1, zyi) [] (fun v => zm5 N v.2.1.1 v.2.1.2.1 v.2.1.2.2.1 v.2.1.2.2.2.1 v.2.1.2.2.2.2 v.2.2.1.1 v.2.2.1.2)
def yaq : Lps := fun p => bif Nat.beq p 122 then some (zex N) else bif Nat.beq p 250 then some (zew N) else none
theorem y4c (ro : Option Nat) : LpOk Tryz.prog 102 ro (zev N) (Z8 z0x [true, true, true]) :=
  z0m (z9t N) mixed (Λ := yaq N) (p := 15) (Y2 (l := [(zex N, (Z8 z0x [true, true, true, false, true, false])), (zew N, (Z8 z0x [true, true, true, true, false, true, false]))]) (by kernel_rfl) (X3 (y4e N ro) (X3 (y4d N ro) Y3))) (by kernel_rfl) (by intro v; kernel_rfl)
def yo9 : Lps := fun p => bif Nat.beq p 15 then some (zev N) else none
def zw7 : Ctr := X0 (.cons (.val z5f) (.val Y8)) .bool [] (fun v => zq3 N v.1 v.2)
theorem ydx : Y7 Tryz.prog 15 (fun vs => (zw7 N).run vs some) :=
  Y4 (z9t N) mixed (Λ := yo9 N) (fn := Tryz.f15) (c := z0x) Tryz.func15 (by kernel_rfl) (by kernel_rfl) (Y2 (l := [(zev N, (Z8 z0x [true, true, true]))]) (by kernel_rfl) (X3 (y4c N none) Y3)) (by kernel_rfl) (by intro v; kernel_rfl)
def cmp194_ren : Go.Shelf.Ren := ⟨fun | 213 => 194 | 265 => 196 | n => n, fun n => n, fun n => n⟩
theorem xep : Go.Proofs.Lays.n213 Tryz.prog cmp194_ren := {
  mixed := by kernel_rfl
  f213 := Tryz.func194.trans (congrArg some (by kernel_rfl))
  f265 := Tryz.func196.trans (congrArg some (by kernel_rfl))
  t3 := Tryz.underlying3
  a3 := Tryz.isAgg3
  z3 := Tryz.sizeOf3
  v3 := Tryz.zeroValue3
  t9 := Tryz.underlying9
  a9 := Tryz.isAgg9
  z9 := Tryz.sizeOf9
  v9 := Tryz.zeroValue9
  }
def zs4 : Code := match Tryz.f194.body with | some c => c | none => .skip
def zbj : Ctr := X0 (.cons .str .str) (.int .i64) [] (fun v => bytealg_CompareString N v.1 v.2)
theorem zjz : Y7 Tryz.prog 194 (fun vs => (zbj N).run vs some) := by
  have e1 : cmp194_ren.f 213 = 194 := by kernel_rfl
  have h := x8x xep (fn := Tryz.f194) (c := zs4) (by rw [e1]; exact Tryz.func194) (by kernel_rfl) (by kernel_rfl)
  rw [e1] at h
  exact h
def yh0 : Code := match Tryz.f191.body with | some c => c | none => .skip
def y3d : List (Nat × Ctr) := [(194, zbj N)]
def y5q : Env := Y9 tyRows eqRows Z9 [] [] (y3d N)
theorem zxr : EnvOk Tryz.prog (y5q N) := Y0 Z5 Z6 Z3 ⟨zjz N, trivial⟩
def y4n (_ : Nat) : Lps := fun _ => none
def zjk : Ctr := X0 (.cons .str .str) (.int .i64) [] (fun v => zvh N v.1 v.2)
theorem zwy : Y7 Tryz.prog 191 (fun vs => (zjk N).run vs some) :=
  Y4 (zxr N) mixed (Λ := y4n N) (fn := Tryz.f191) (c := yh0) Tryz.func191 (by kernel_rfl) (by kernel_rfl) (Y2 (l := []) (by kernel_rfl) Y3) (by kernel_rfl) (by intro v; kernel_rfl)
def ylb : Code := match Tryz.f190.body with | some c => c | none => .skip
def y8r : List (Nat × Ctr) := [(191, zjk N)]
def ybk : Env := Y9 tyRows eqRows Z9 [] [] (y8r N)
theorem y0b : EnvOk Tryz.prog (ybk N) := Y0 Z5 Z6 Z3 ⟨zwy N, trivial⟩
def yam (_ : Nat) : Lps := fun _ => none
def zlq : Ctr := X0 (.cons (.val Y1) .str) (.int .i64) [] (fun v => zf6 N v.1 v.2)
theorem zzb : Y7 Tryz.prog 190 (fun vs => (zlq N).run vs some) :=
  Y4 (y0b N) mixed (Λ := yam N) (fn := Tryz.f190) (c := ylb) Tryz.func190 (by kernel_rfl) (by kernel_rfl) (Y2 (l := []) (by kernel_rfl) Y3) (by kernel_rfl) (by intro v; kernel_rfl)
def X2 : Code := match Tryz.f189.body with | some c => c | none => .skip
def z0f : List (Nat × Ctr) := [(190, zlq N)]
def z0j : Env := Y9 tyRows eqRows Z9 [] [] (z0f N)
theorem U8 : EnvOk Tryz.prog (z0j N) := Y0 Z5 Z6 Z3 ⟨zzb N, trivial⟩
def z02 : Cut := { tms := [0, 1, 2, 8, 9, 10], sh := (.cons (.list Y1) (.cons .str (.cons (.clo 190 .nil) (.cons (.int .i64) Sz1)))), objs := [], sts := [] }
def u5 : Cut := { tms := [0, 1, 2, 8, 9], sh := (.cons (.list Y1) (.cons .str (.cons (.clo 190 .nil) Sz1))), objs := [], sts := [] }
def W7 : Lp := lpOf z02 (2, u5) [] (fun v => X1 N N v.1.1 v.1.2.1 v.1.2.2.2.1 v.1.2.2.2.2.1 v.1.2.2.2.2.2)
def z00 (_ : Nat) : Lps := fun _ => none
theorem k9 (ro : Option Nat) : LpOk Tryz.prog 49 ro (W7 N) (Z8 X2 [true, true, true, false, false]) := by
  rw [show (Z8 X2 [true, true, true, false, false]) = .loop (Z8 X2 [true, true, true, false, false, false]) by kernel_rfl]
  exact W6 (U8 N) mixed (Λ := z00 N) (p := 120) (Y2 (l := []) (by kernel_rfl) Y3) (by kernel_rfl) (by intro rec v; kernel_rfl) N
def z0i : Lps := fun p => bif Nat.beq p 60 then some (W7 N) else none
def Q3 : Ctr := X0 (.cons (.list Y1) (.cons .str (.clo 190 .nil))) (.tup (.cons (.int .i64) .bool)) [] (fun v => W9 N v.1 v.2.1)
theorem z04 : Y7 Tryz.prog 189 (fun vs => (Q3 N).run vs some) :=
  Y4 (U8 N) mixed (Λ := z0i N) (fn := Tryz.f189) (c := X2) Tryz.func189 (by kernel_rfl) (by kernel_rfl) (Y2 (l := [(W7 N, (Z8 X2 [true, true, true, false, false]))]) (by kernel_rfl) (X3 (k9 N none) Y3)) (by kernel_rfl) (by intro v; kernel_rfl)
def yxz : Code := match Tryz.f186.body with | some c => c | none => .skip
def ymz : List (Nat × Ctr) := [(189, Q3 N)]
def ypc : Env := Y9 tyRows eqRows Z9 [] [] (ymz N)
theorem yfh : EnvOk Tryz.prog (ypc N) := Y0 Z5 Z6 Z3 ⟨z04 N, trivial⟩
def yo1 (_ : Nat) : Lps := fun _ => none
def ziy : Ctr := X0 (.cons (.list Y1) .str) (.tup (.cons (.int .i64) .bool)) [] (fun v => ze3 N v.1 v.2)
theorem zo5 : Y7 Tryz.prog 186 (fun vs => (ziy N).run vs some) :=
  Y4 (yfh N) mixed (Λ := yo1 N) (fn := Tryz.f186) (c := yxz) Tryz.func186 (by kernel_rfl) (by kernel_rfl) (Y2 (l := []) (by kernel_rfl) Y3) (by kernel_rfl) (by intro v; kernel_rfl)
def clone187_ren : Go.Shelf.Ren := ⟨fun | 41 => 187 | n => n, fun | 22 => 28 | 23 => 48 | n => n, fun n => n⟩
theorem xax : CloneL Tryz.prog clone187_ren := {
  mixed := by kernel_rfl
  f41 := ⟨Tryz.f187.name, by decide, Tryz.func187.trans (congrArg some (by kernel_rfl))⟩
  t4 := Tryz.underlying4
  a4 := Tryz.isAgg4
  z4 := Tryz.sizeOf4
  v4 := Tryz.zeroValue4
  t22 := Tryz.underlying28
  a22 := Tryz.isAgg28
  z22 := Tryz.sizeOf28
  v22 := Tryz.zeroValue28
  }
def zcn : Code := match Tryz.f187.body with | some c => c | none => .skip
def J5 : Ctr := X0 (.list Y1) (.fresh Y1) [] (fun v => V5 N v)
def ti_slices_Clone_s_api_Pair_api_Pair : TI := match yyg tyRows 48 with | some t => t | none => ⟨.other, 0, 0, [], none⟩
theorem j9 : Y7 Tryz.prog 187 (fun vs => (J5 N).run vs some) := by
  have e1 : clone187_ren.f 41 = 187 := by kernel_rfl
  have e2 : clone187_ren.t 23 = 48 := by kernel_rfl
  have h := x2x xax (ei := ti_slices_Clone_s_api_Pair_api_Pair) (ty := Y1) (fn := Tryz.f187) (c := zcn) (by rw [e2]; exact y5b Z5 48 _ (by kernel_rfl)) (by kernel_rfl) (by rw [e1]; exact Tryz.func187) (by kernel_rfl) (by kernel_rfl)
  rw [e1, show ti_slices_Clone_s_api_Pair_api_Pair.bytes = 40 by kernel_rfl] at h
  exact h
def insert188_ren : Go.Shelf.Ren := ⟨fun | 22 => 188 | 29 => 192 | 30 => 193 | n => n, fun | 24 => 28 | 9 => 48 | n => n, fun n => n⟩
theorem x8m : InsertL Tryz.prog insert188_ren := {
  mixed := by kernel_rfl
  f22 := ⟨Tryz.f188.name, by decide, Tryz.func188.trans (congrArg some (by kernel_rfl))⟩
  over := ⟨Tryz.f192, Tryz.func192, by kernel_rfl, by kernel_rfl, by kernel_rfl, by kernel_rfl⟩
  t0 := Tryz.underlying0
  a0 := Tryz.isAgg0
  z0 := Tryz.sizeOf0
  v0 := Tryz.zeroValue0
  t3 := Tryz.underlying3
  a3 := Tryz.isAgg3
  z3 := Tryz.sizeOf3
  v3 := Tryz.zeroValue3
  t4 := Tryz.underlying4
  a4 := Tryz.isAgg4
  z4 := Tryz.sizeOf4
  v4 := Tryz.zeroValue4
  t24 := Tryz.underlying28
  a24 := Tryz.isAgg28
  z24 := Tryz.sizeOf28
  v24 := Tryz.zeroValue28
  }
def zay : Code := match Tryz.f188.body with | some c => c | none => .skip
def z34 : CtrM := ctrM (yow Y1) (y09 Y1) [] (fun v => z0r N v.1.2.1 v.2.1 v.2.2.1)
def ti_slices_Insert_s_api_Pair_api_Pair_m : TI := match yyg tyRows 48 with | some t => t | none => ⟨.other, 0, 0, [], none⟩
theorem z87 : z03 Tryz.prog 188 (z34 N) := by
  have e1 : insert188_ren.f 22 = 188 := by kernel_rfl
  have e2 : insert188_ren.t 9 = 48 := by kernel_rfl
  have h := x00 x8m (ei := ti_slices_Insert_s_api_Pair_api_Pair_m) (ty := Y1) (fn := Tryz.f188) (c := zay) (by rw [e2]; exact y5b Z5 48 _ (by kernel_rfl)) (by kernel_rfl) (by rw [e1]; exact Tryz.func188) (by kernel_rfl) (by kernel_rfl) (by kernel_rfl)
  rw [e1, show ti_slices_Insert_s_api_Pair_api_Pair_m.bytes = 40 by kernel_rfl] at h
  exact h
def x2y : Code := match Tryz.f182.body with | some c => c | none => .skip
def yw4 : List (Nat × Ctr) := [(186, ziy N), (187, J5 N)]
def yqw : List (Nat × CtrM) := [(188, z34 N)]
def yxc : Env := Y9 tyRows eqRows Z9 [] [27] (yw4 N) (yqw N)
theorem yox : EnvOk Tryz.prog (yxc N) := Y0 Z5 Z6 Z3 ⟨zo5 N, ⟨j9 N, trivial⟩⟩ ⟨z87 N, trivial⟩
def ywr (_ : Nat) : Lps := fun _ => none
def y8a : Ctr := X0 (.cons (.list Y1) (.val Y1)) (.fresh Y1) [] (fun v => y6s N v.1 v.2)
theorem ynk : Y7 Tryz.prog 182 (fun vs => (y8a N).run vs some) :=
  Y4 (yox N) mixed (Λ := ywr N) (fn := Tryz.f182) (c := x2y) Tryz.func182 (by kernel_rfl) (by kernel_rfl) (Y2 (l := []) (by kernel_rfl) Y3) (by kernel_rfl) (by intro v; kernel_rfl)
def yqe : Code := match Tryz.f176.body with | some c => c | none => .skip
def ydl : List (Nat × Ctr) := [(182, y8a N)]
def yg1 : Env := Y9 tyRows eqRows Z9 [] [] (ydl N)
theorem y5j : EnvOk Tryz.prog (yg1 N) := Y0 Z5 Z6 Z3 ⟨ynk N, trivial⟩
def yfb (_ : Nat) : Lps := fun _ => none
def zov : Ctr := X0 (.cons (.val Y5) (.list Y1)) (.fresh Y1) [] (fun v => zqp N v.1 v.2)
theorem y3x : Y7 Tryz.prog 176 (fun vs => (zov N).run vs some) :=
  Y4 (y5j N) mixed (Λ := yfb N) (fn := Tryz.f176) (c := yqe) Tryz.func176 (by kernel_rfl) (by kernel_rfl) (Y2 (l := []) (by kernel_rfl) Y3) (by kernel_rfl) (by intro v; kernel_rfl)
def ytr : Code := match Tryz.f206.body with | some c => c | none => .skip
def yij : List (Nat × Ctr) := [(90, zax N), (186, ziy N)]
def yks : Env := Y9 tyRows eqRows Z9 [] [] (yij N)
theorem ybc : EnvOk Tryz.prog (yks N) := Y0 Z5 Z6 Z3 ⟨zb6 N, ⟨zo5 N, trivial⟩⟩
def yju (_ : Nat) : Lps := fun _ => none
def zha : Ctr := X0 (.cons (.list Y1) (.val Y8)) (.tup (.cons (.int .i64) (.int .i64))) [] (fun v => zfc N v.1 v.2)
theorem zlh : Y7 Tryz.prog 206 (fun vs => (zha N).run vs some) :=
  Y4 (ybc N) mixed (Λ := yju N) (fn := Tryz.f206) (c := ytr) Tryz.func206 (by kernel_rfl) (by kernel_rfl) (Y2 (l := []) (by kernel_rfl) Y3) (by kernel_rfl) (by intro v; kernel_rfl)
def grow208_ren : Go.Shelf.Ren := ⟨fun | 4 => 208 | n => n, fun | 22 => 28 | 25 => 48 | n => n, fun n => n⟩
theorem xdd : Go.Proofs.Lays8.n4 Tryz.prog grow208_ren := {
  mixed := by kernel_rfl
  f4 := ⟨Tryz.f208.name, by decide, Tryz.func208.trans (congrArg some (by kernel_rfl))⟩
  t0 := Tryz.underlying0
  a0 := Tryz.isAgg0
  z0 := Tryz.sizeOf0
  v0 := Tryz.zeroValue0
  t3 := Tryz.underlying3
  a3 := Tryz.isAgg3
  z3 := Tryz.sizeOf3
  v3 := Tryz.zeroValue3
  t4 := Tryz.underlying4
  a4 := Tryz.isAgg4
  z4 := Tryz.sizeOf4
  v4 := Tryz.zeroValue4
  t9 := Tryz.underlying9
  a9 := Tryz.isAgg9
  z9 := Tryz.sizeOf9
  v9 := Tryz.zeroValue9
  t20 := Tryz.underlying20
  a20 := Tryz.isAgg20
  z20 := Tryz.sizeOf20
  v20 := Tryz.zeroValue20
  t22 := Tryz.underlying28
  a22 := Tryz.isAgg28
  z22 := Tryz.sizeOf28
  v22 := Tryz.zeroValue28
  }
def zaz : Code := match Tryz.f208.body with | some c => c | none => .skip
def z35 (_ : Nat) : Ctr := X0 (.cons .nils (.int .i64)) (.fresh Y1) [] (xdz Y1 40)
def ti_slices_Grow_s_api_Pair_api_Pair_nil : TI := match yyg tyRows 48 with | some t => t | none => ⟨.other, 0, 0, [], none⟩
theorem z88 : Y7 Tryz.prog 208 (fun vs => (z35 N).run vs some) := by
  have e1 : grow208_ren.f 4 = 208 := by kernel_rfl
  have e2 : grow208_ren.t 25 = 48 := by kernel_rfl
  have h := x5w xdd (ei := ti_slices_Grow_s_api_Pair_api_Pair_nil) (ty := Y1) (fn := Tryz.f208) (c := zaz) (by rw [e2]; exact y5b Z5 48 _ (by kernel_rfl)) (by kernel_rfl) (by rw [e1]; exact Tryz.func208) (by kernel_rfl) (by kernel_rfl)
  rw [e1, show ti_slices_Grow_s_api_Pair_api_Pair_nil.bytes = 40 by kernel_rfl] at h
  exact h
def X9 : Code := match Tryz.f207.body with | some c => c | none => .skip
def zaf : List (Nat × Ctr) := [(208, z35 N)]
def zat : Env := Y9 tyRows eqRows Z9 [] [] (zaf N)
theorem q6 : EnvOk Tryz.prog (zat N) := Y0 Z5 Z6 Z3 ⟨z88 N, trivial⟩
def z95 : Cut := { tms := [6, 25, 26, 27], sh := (.cons (.own 2000000) (.cons (.list (.list Y1)) Sz1)), objs := [(2000000, [6], .sl Y1)], sts := [] }
def z78 : Cut := { tms := [6], sh := (.own 2000000), objs := [(2000000, [6], .sl Y1)], sts := [] }
def u6 : Lp := lpOf z95 (4, z78) [] (fun v => Q5 N N v.1.2.1 v.1.2.2.1 v.1.2.2.2 v.2.1)
def z8w (_ : Nat) : Lps := fun _ => none
theorem z8b (ro : Option Nat) : LpOk Tryz.prog 36 ro (u6 N) (Z8 X9 [true, true, true, true, false, true, false]) := by
  rw [show (Z8 X9 [true, true, true, true, false, true, false]) = .loop (Z8 X9 [true, true, true, true, false, true, false, false]) by kernel_rfl]
  exact W6 (q6 N) mixed (Λ := z8w N) (p := 500) (Y2 (l := []) (by kernel_rfl) Y3) (by kernel_rfl) (by intro rec v; kernel_rfl) N
def z96 : Cut := { tms := [0, 3, 9, 10, 11], sh := (.cons (.list (.list Y1)) (.cons (.int .i64) (.cons (.list (.list Y1)) Sz1))), objs := [], sts := [] }
def z79 : Cut := { tms := [0, 3], sh := (.cons (.list (.list Y1)) (.int .i64)), objs := [], sts := [] }
def u7 : Lp := lpOf z96 (2, z79) [] (fun v => Q6 N N v.1.1 v.1.2.1 v.1.2.2.1 v.1.2.2.2.1 v.1.2.2.2.2)
def z8x (_ : Nat) : Lps := fun _ => none
theorem z8c (ro : Option Nat) : LpOk Tryz.prog 36 ro (u7 N) (Z8 X9 [true, true, false, true, false]) := by
  rw [show (Z8 X9 [true, true, false, true, false]) = .loop (Z8 X9 [true, true, false, true, false, false]) by kernel_rfl]
  exact W6 (q6 N) mixed (Λ := z8x N) (p := 116) (Y2 (l := []) (by kernel_rfl) Y3) (by kernel_rfl) (by intro rec v; kernel_rfl) N
def zao : Lps := fun p => bif Nat.beq p 58 then some (u7 N) else bif Nat.beq p 250 then some (u6 N) else none
def z43 : Ctr := X0 (.list (.list Y1)) (.fresh Y1) [] (fun v => w5 N v)
theorem z9n : Y7 Tryz.prog 207 (fun vs => (z43 N).run vs some) :=
  Y4 (q6 N) mixed (Λ := zao N) (fn := Tryz.f207) (c := X9) Tryz.func207 (by kernel_rfl) (by kernel_rfl) (Y2 (l := [(u7 N, (Z8 X9 [true, true, false, true, false])), (u6 N, (Z8 X9 [true, true, true, true, false, true, false]))]) (by kernel_rfl) (X3 (z8c N none) (X3 (z8b N none) Y3))) (by kernel_rfl) (by intro v; kernel_rfl)
def x0d : Code := match Tryz.f205.body with | some c => c | none => .skip
def yqz : List (Nat × Ctr) := [(206, zha N), (207, z43 N)]
def ysv : Env := Y9 tyRows eqRows Z9 [] [] (yqz N)
theorem yke : EnvOk Tryz.prog (ysv N) := Y0 Z5 Z6 Z3 ⟨zlh N, ⟨z9n N, trivial⟩⟩
def yru (_ : Nat) : Lps := fun _ => none
def zaw : Ctr := X0 (.cons (.list Y1) (.val Y8)) (.fresh Y1) [] (fun v => zdy N v.1 v.2)
theorem zb5 : Y7 Tryz.prog 205 (fun vs => (zaw N).run vs some) :=
  Y4 (yke N) mixed (Λ := yru N) (fn := Tryz.f205) (c := x0d) Tryz.func205 (by kernel_rfl) (by kernel_rfl) (Y2 (l := []) (by kernel_rfl) Y3) (by kernel_rfl) (by intro v; kernel_rfl)
def x2z : Code := match Tryz.f204.body with | some c => c | none => .skip
def yw5 : List (Nat × Ctr) := [(185, zku N), (205, zaw N)]
def yxd : Env := Y9 tyRows eqRows Z9 [] [] (yw5 N)
theorem yoy : EnvOk Tryz.prog (yxd N) := Y0 Z5 Z6 Z3 ⟨zm2 N, ⟨zb5 N, trivial⟩⟩
def yws (_ : Nat) : Lps := fun _ => none
def y8b : Ctr := X0 (.cons (.list Y1) .str) (.fresh Y1) [] (fun v => ylr N v.1 v.2)
theorem ynl : Y7 Tryz.prog 204 (fun vs => (y8b N).run vs some) :=
  Y4 (yoy N) mixed (Λ := yws N) (fn := Tryz.f204) (c := x2z) Tryz.func204 (by kernel_rfl) (by kernel_rfl) (Y2 (l := []) (by kernel_rfl) Y3) (by kernel_rfl) (by intro v; kernel_rfl)
def yqj : Code := match Tryz.f198.body with | some c => c | none => .skip
def ydq : List (Nat × Ctr) := [(204, y8b N)]
def yg6 : Env := Y9 tyRows eqRows Z9 [] [] (ydq N)
theorem y5o : EnvOk Tryz.prog (yg6 N) := Y0 Z5 Z6 Z3 ⟨ynl N, trivial⟩
def yfg (_ : Nat) : Lps := fun _ => none
def zp0 : Ctr := X0 (.cons (.val Y5) (.list Y1)) (.fresh Y1) [] (fun v => zqr N v.1 v.2)
theorem y42 : Y7 Tryz.prog 198 (fun vs => (zp0 N).run vs some) :=
  Y4 (y5o N) mixed (Λ := yfg N) (fn := Tryz.f198) (c := yqj) Tryz.func198 (by kernel_rfl) (by kernel_rfl) (Y2 (l := []) (by kernel_rfl) Y3) (by kernel_rfl) (by intro v; kernel_rfl)
def yll : Code := match Tryz.f209.body with | some c => c | none => .skip
def y91 : List (Nat × Ctr) := [(205, zaw N)]
def ybu : Env := Y9 tyRows eqRows Z9 [] [] (y91 N)
theorem y0k : EnvOk Tryz.prog (ybu N) := Y0 Z5 Z6 Z3 ⟨zb5 N, trivial⟩
def yb7 (_ : Nat) : Lps := fun _ => none
def zlz : Ctr := X0 (.cons (.val Y5) (.list Y1)) (.fresh Y1) [] (fun v => zmb N v.1 v.2)
theorem zzl : Y7 Tryz.prog 209 (fun vs => (zlz N).run vs some) :=
  Y4 (y0k N) mixed (Λ := yb7 N) (fn := Tryz.f209) (c := yll) Tryz.func209 (by kernel_rfl) (by kernel_rfl) (Y2 (l := []) (by kernel_rfl) Y3) (by kernel_rfl) (by intro v; kernel_rfl)
def yy0 : Code := match Tryz.f228.body with | some c => c | none => .skip
def yn2 : List (Nat × Ctr) := [(206, zha N)]
def ypf : Env := Y9 tyRows eqRows Z9 [] [] (yn2 N)
theorem yfi : EnvOk Tryz.prog (ypf N) := Y0 Z5 Z6 Z3 ⟨zlh N, trivial⟩
def yo4 (_ : Nat) : Lps := fun _ => none
def zw3 : Ctr := X0 (.cons (.list Y1) (.val Y8)) (.list Y1) [] (fun v => zq2 N v.1 v.2)
theorem ydt : Y7 Tryz.prog 228 (fun vs => (zw3 N).run vs some) :=
  Y4 (yfi N) mixed (Λ := yo4 N) (fn := Tryz.f228) (c := yy0) Tryz.func228 (by kernel_rfl) (by kernel_rfl) (Y2 (l := []) (by kernel_rfl) Y3) (by kernel_rfl) (by intro v; kernel_rfl)
def x0f : Code := match Tryz.f229.body with | some c => c | none => .skip
def yr2 : List (Nat × Ctr) := [(118, z9e N)]
def ysy : Env := Y9 tyRows eqRows Z9 [] [] (yr2 N)
theorem ykg : EnvOk Tryz.prog (ysy N) := Y0 Z5 Z6 Z3 ⟨zdo N, trivial⟩
def yrx (_ : Nat) : Lps := fun _ => none
def y2g : Ctr := X0 (.cons .str (.cons .str .str)) (.tup (.cons .str .bool)) [] (fun v => zvi N v.1 v.2.1 v.2.2)
theorem yiz : Y7 Tryz.prog 229 (fun vs => (y2g N).run vs some) :=
  Y4 (ykg N) mixed (Λ := yrx N) (fn := Tryz.f229) (c := x0f) Tryz.func229 (by kernel_rfl) (by kernel_rfl) (Y2 (l := []) (by kernel_rfl) Y3) (by kernel_rfl) (by intro v; kernel_rfl)
def zih : Code := match Tryz.f226.body with | some c => c | none => .skip
def ywf : List (Nat × Ctr) := [(223, z2e N), (228, zw3 N), (187, J5 N), (229, y2g N)]
def yxn : Env := Y9 tyRows eqRows Z9 [] [] (ywf N)
theorem zvy : EnvOk Tryz.prog (yxn N) := Y0 Z5 Z6 Z3 ⟨z1j N, ⟨ydt N, ⟨j9 N, ⟨yiz N, trivial⟩⟩⟩⟩
def yl9 : Cut := { tms := [1, 2, 7, 15, 16], sh := (.cons .str (.cons .str (.cons (.own 2000000) Sz1))), objs := [(2000000, [7], .sl Y1)], sts := [] }
def y6d : Cut := { tms := [7], sh := (.own 2000000), objs := [(2000000, [7], .sl Y1)], sts := [] }
def ziv : Lp := lpOf yl9 (2, y6d) [] (fun v => zfe N N v.1.1 v.1.2.1 v.1.2.2.2.1 v.1.2.2.2.2 v.2.1)
def yk6 (_ : Nat) : Lps := fun _ => none
theorem ye8 (ro : Option Nat) : LpOk Tryz.prog 36 ro (ziv N) (Z8 zih [true, true, false, true, false]) := by
  rw [show (Z8 zih [true, true, false, true, false]) = .loop (Z8 zih [true, true, false, true, false, false]) by kernel_rfl]
  exact W6 (zvy N) mixed (Λ := yk6 N) (p := 116) (Y2 (l := []) (by kernel_rfl) Y3) (by kernel_rfl) (by intro rec v; kernel_rfl) N
def yx2 : Lps := fun p => bif Nat.beq p 58 then some (ziv N) else none
def y8j : Ctr := X0 (.cons (.list Y1) (.cons .str .str)) (.fresh Y1) [] (fun v => y70 N v.1 v.2.1 v.2.2)
theorem ynt : Y7 Tryz.prog 226 (fun vs => (y8j N).run vs some) :=
  Y4 (zvy N) mixed (Λ := yx2 N) (fn := Tryz.f226) (c := zih) Tryz.func226 (by kernel_rfl) (by kernel_rfl) (Y2 (l := [(ziv N, (Z8 zih [true, true, false, true, false]))]) (by kernel_rfl) (X3 (ye8 N none) Y3)) (by kernel_rfl) (by intro v; kernel_rfl)
def zcl : Code := match Tryz.f225.body with | some c => c | none => .skip
def yn1 (_ : Nat) : List (Nat × Ctr) := []
def ype : Env := Y9 tyRows eqRows Z9 [] [] (yn1 N)
theorem zog : EnvOk Tryz.prog (ype N) := Y0 Z5 Z6 Z3 trivial
def ybz : Cut := { tms := [0, 1, 5], sh := (.cons (.list Y1) (.cons (.list Y1) (.own 2000000))), objs := [(2000000, [5], .sl Y1)], sts := [] }
def zyg : Cut := { tms := [0, 1, 5], sh := (.cons (.list Y1) (.cons (.list Y1) (.own 2000000))), objs := [(2000000, [5], .sl Y1)], sts := [] }
def zet : Lp := lpOf ybz (2, zyg) [] (fun v => z7j N N v.1.1 v.1.2.1 v.2.1)
def yao (_ : Nat) : Lps := fun _ => none
theorem y4a (ro : Option Nat) : LpOk Tryz.prog 64 ro (zet N) (Z8 zcl [true, false, true, true, false, false]) := by
  rw [show (Z8 zcl [true, false, true, true, false, false]) = .loop (Z8 zcl [true, false, true, true, false, false, false]) by kernel_rfl]
  exact W6 (zog N) mixed (Λ := yao N) (p := 216) (Y2 (l := []) (by kernel_rfl) Y3) (by kernel_rfl) (by intro rec v; kernel_rfl) N
def yo3 : Lps := fun p => bif Nat.beq p 108 then some (zet N) else none
def zw2 : Ctr := X0 (.cons (.list Y1) (.list Y1)) (.fresh Y1) [] (fun v => zq1 N v.1 v.2)
theorem yds : Y7 Tryz.prog 225 (fun vs => (zw2 N).run vs some) :=
  Y4 (zog N) mixed (Λ := yo3 N) (fn := Tryz.f225) (c := zcl) Tryz.func225 (by kernel_rfl) (by kernel_rfl) (Y2 (l := [(zet N, (Z8 zcl [true, false, true, true, false, false]))]) (by kernel_rfl) (X3 (y4a N none) Y3)) (by kernel_rfl) (by intro v; kernel_rfl)
def yhb : Code := match Tryz.f222.body with | some c => c | none => .skip
def y3p : List (Nat × Ctr) := [(223, z2e N), (205, zaw N), (226, y8j N), (225, zw2 N)]
def y62 : Env := Y9 tyRows eqRows Z9 [] [] (y3p N)
theorem zy2 : EnvOk Tryz.prog (y62 N) := Y0 Z5 Z6 Z3 ⟨z1j N, ⟨zb5 N, ⟨ynt N, ⟨yds N, trivial⟩⟩⟩⟩
def y56 (_ : Nat) : Lps := fun _ => none
def zc2 : Ctr := X0 (.cons (.val Y5) (.list Y1)) (.fresh Y1) [] (fun v => z8v N v.1 v.2)
theorem zfr : Y7 Tryz.prog 222 (fun vs => (zc2 N).run vs some) :=
  Y4 (zy2 N) mixed (Λ := y56 N) (fn := Tryz.f222) (c := yhb) Tryz.func222 (by kernel_rfl) (by kernel_rfl) (Y2 (l := []) (by kernel_rfl) Y3) (by kernel_rfl) (by intro v; kernel_rfl)
def yli : Code := match Tryz.f216.body with | some c => c | none => .skip
def y8y : List (Nat × Ctr) := [(222, zc2 N), (223, z2e N), (205, zaw N)]
def ybr : Env := Y9 tyRows eqRows Z9 [] [] (y8y N)
theorem y0h : EnvOk Tryz.prog (ybr N) := Y0 Z5 Z6 Z3 ⟨zfr N, ⟨z1j N, ⟨zb5 N, trivial⟩⟩⟩
def yb4 (_ : Nat) : Lps := fun _ => none
def zlw : Ctr := X0 (.cons (.val Y5) (.list Y1)) (.fresh Y1) [] (fun v => zm9 N v.1 v.2)
theorem zzi : Y7 Tryz.prog 216 (fun vs => (zlw N).run vs some) :=
  Y4 (y0h N) mixed (Λ := yb4 N) (fn := Tryz.f216) (c := yli) Tryz.func216 (by kernel_rfl) (by kernel_rfl) (Y2 (l := []) (by kernel_rfl) Y3) (by kernel_rfl) (by intro v; kernel_rfl)
def z5z : Code := match Tryz.f235.body with | some c => c | none => .skip
def y3i : List (Nat × Ctr) := [(187, J5 N), (40, zkv N)]
def y5v : Env := Y9 tyRows eqRows Z9 [] [] (y3i N)
theorem zft : EnvOk Tryz.prog (y5v N) := Y0 Z5 Z6 Z3 ⟨j9 N, ⟨zm3 N, trivial⟩⟩
def zum : Cut := { tms := [2, 5, 10, 11], sh := (.cons (.ptr 2000000 0) (.cons (.own 2000001) Sz1)), objs := [(2000000, [2], .box Sz3), (2000001, [5], .sl Y1)], sts := [] }
def znu : Cut := { tms := [5], sh := (.own 2000000), objs := [(2000000, [5], .sl Y1)], sts := [] }
def z9d : Lp := lpOf zum (2, znu) [] (fun v => z53 N N v.1.2.2.1 v.1.2.2.2 v.2.1.1 v.2.1.2.1 v.2.1.2.2.1 v.2.1.2.2.2.1 v.2.1.2.2.2.2.1 v.2.1.2.2.2.2.2.1 v.2.1.2.2.2.2.2.2.1 v.2.1.2.2.2.2.2.2.2 v.2.2.1)
def ztv (_ : Nat) : Lps := fun _ => none
theorem zre (ro : Option Nat) : LpOk Tryz.prog 30 ro (z9d N) (Z8 z5z [true, true, false, true, false]) := by
  rw [show (Z8 z5z [true, true, false, true, false]) = .loop (Z8 z5z [true, true, false, true, false, false]) by kernel_rfl]
  exact W6 (zft N) mixed (Λ := ztv N) (p := 116) (Y2 (l := []) (by kernel_rfl) Y3) (by kernel_rfl) (by intro rec v; kernel_rfl) N
def y4z : Lps := fun p => bif Nat.beq p 58 then some (z9d N) else none
def zjo : Ctr := X0 (.cons (.val Y5) (.list Y1)) (.fresh Y1) [] (fun v => zio N v.1 v.2)
theorem zx2 : Y7 Tryz.prog 235 (fun vs => (zjo N).run vs some) :=
  Y4 (zft N) mixed (Λ := y4z N) (fn := Tryz.f235) (c := z5z) Tryz.func235 (by kernel_rfl) (by kernel_rfl) (Y2 (l := [(z9d N, (Z8 z5z [true, true, false, true, false]))]) (by kernel_rfl) (X3 (zre N none) Y3)) (by kernel_rfl) (by intro v; kernel_rfl)
def x3g : Code := match Tryz.f87.body with | some c => c | none => .skip
def ywl : List (Nat × Ctr) := [(93, zhx N), (176, zov N), (198, zp0 N), (209, zlz N), (216, zlw N), (222, zc2 N), (235, zjo N)]
def yxt : Env := Y9 tyRows eqRows Z9 [(y88, [12])] [] (ywl N)
theorem ypb : EnvOk Tryz.prog (yxt N) := Y0 Z5 Z6 Z3 ⟨zfd N, ⟨y3x N, ⟨y42 N, ⟨zzl N, ⟨zzi N, ⟨zfr N, ⟨zx2 N, trivial⟩⟩⟩⟩⟩⟩⟩
def yx8 (_ : Nat) : Lps := fun _ => none
def y8n : Ctr := X0 (.cons (.list Y1) (.val Y5)) (.list Y1) [] (fun v => z3z N v.1 v.2)
theorem ynx : Y7 Tryz.prog 87 (fun vs => (y8n N).run vs some) :=
  Y4 (ypb N) mixed (Λ := yx8 N) (fn := Tryz.f87) (c := x3g) Tryz.func87 (by kernel_rfl) (by kernel_rfl) (Y2 (l := []) (by kernel_rfl) Y3) (by kernel_rfl) (by intro v; kernel_rfl)
def zuv : Code := match Tryz.f32.body with | some c => c | none => .skip
def x2e : List (Nat × Ctr) := [(87, y8n N)]
def x2t : Env := Y9 tyRows eqRows Z9 [] [] (x2e N)
theorem y86 : EnvOk Tryz.prog (x2t N) := Y0 Z5 Z6 Z3 ⟨ynx N, trivial⟩
def ytn : Cut := { tms := [0, 7, 8, 9], sh := (.cons (.list Y1) (.cons (.list Y5) Sz1)), objs := [], sts := [] }
def ygy : Cut := { tms := [0], sh := (.list Y1), objs := [], sts := [] }
def zqs : Lp := lpOf ytn (2, ygy) [] (fun v => znd N N v.1.1 v.1.2.1 v.1.2.2.1 v.1.2.2.2)
def ysp (_ : Nat) : Lps := fun _ => none
theorem ynz (ro : Option Nat) : LpOk Tryz.prog 18 ro (zqs N) (Z8 zuv [true, false, true, false]) := by
  rw [show (Z8 zuv [true, false, true, false]) = .loop (Z8 zuv [true, false, true, false, false]) by kernel_rfl]
  exact W6 (y86 N) mixed (Λ := ysp N) (p := 52) (Y2 (l := []) (by kernel_rfl) Y3) (by kernel_rfl) (by intro rec v; kernel_rfl) N
def x2p : Lps := fun p => bif Nat.beq p 26 then some (zqs N) else none
def ymq : Ctr := X0 (.cons (.list Y1) (.list Y5)) (.list Y1) [] (fun v => yut N v.1 v.2)
theorem ywn : Y7 Tryz.prog 32 (fun vs => (ymq N).run vs some) :=
  Y4 (y86 N) mixed (Λ := x2p N) (fn := Tryz.f32) (c := zuv) Tryz.func32 (by kernel_rfl) (by kernel_rfl) (Y2 (l := [(zqs N, (Z8 zuv [true, false, true, false]))]) (by kernel_rfl) (X3 (ynz N none) Y3)) (by kernel_rfl) (by intro v; kernel_rfl)
def ytt : Code := match Tryz.f31.body with | some c => c | none => .skip
def yil : List (Nat × Ctr) := [(54, zkw N)]
def yku : Env := Y9 tyRows eqRows Z9 [] [] (yil N)
theorem ybd : EnvOk Tryz.prog (yku N) := Y0 Z5 Z6 Z3 ⟨zm4 N, trivial⟩
def yjw (_ : Nat) : Lps := fun _ => none
def zsq : Ctr := X0 (.cons (.val zuz) (.val V6)) .bool [] (fun v => zkk N v.1 v.2)
theorem y98 : Y7 Tryz.prog 31 (fun vs => (zsq N).run vs some) :=
  Y4 (ybd N) mixed (Λ := yjw N) (fn := Tryz.f31) (c := ytt) Tryz.func31 (by kernel_rfl) (by kernel_rfl) (Y2 (l := []) (by kernel_rfl) Y3) (by kernel_rfl) (by intro v; kernel_rfl)
def z0k : Code := match Tryz.f8.body with | some c => c | none => .skip
def y94 : List (Nat × Ctr) := [(9, zsx N), (11, y2j N), (24, zmn N), (25, zvc N), (27, zj1 N), (26, zw8 N), (28, zwd N), (29, zwc N), (30, ziz N), (15, zw7 N), (32, ymq N), (31, zsq N)]
def ybx : Env := Y9 tyRows eqRows Z9 [(18, [2000004, 2000005])] [] (y94 N)
theorem za9 : EnvOk Tryz.prog (ybx N) := Y0 Z5 Z6 Z3 ⟨y9f N, ⟨yj2 N, ⟨zs6 N, ⟨y26 N, ⟨zo8 N, ⟨ydy N, ⟨ye3 N, ⟨ye2 N, ⟨zo6 N, ⟨ydx N, ⟨ywn N, ⟨y98 N, trivial⟩⟩⟩⟩⟩⟩⟩⟩⟩⟩⟩⟩
def zyv : Cut := { tms := [2, 7, 8, 9, 14], sh := (.cons (.list Y5) (.cons .bool (.cons (.ptr 2000000 0) (.cons (.own 2000005) (.int .i64))))), objs := [(2000000, [8], .box Sz10), (2000001, [8, 0], .sl Y1), (2000002, [8, 2], .sl (.int .i64)), (2000003, [8, 3], .sl V6), (2000004, [8, 4], .sl Y5), (2000005, [9], .sl Y1)], sts := [] }
def zpy : Cut := { tms := [7, 8, 9], sh := (.cons .bool (.cons (.ptr 2000000 0) (.own 2000005))), objs := [(2000000, [8], .box Sz10), (2000001, [8, 0], .sl Y1), (2000002, [8, 2], .sl (.int .i64)), (2000003, [8, 3], .sl V6), (2000004, [8, 4], .sl Y5), (2000005, [9], .sl Y1)], sts := [] }
def za7 : Lp := lpOf zyv (4, zpy) [] (fun v => z5u N N v.1.1 v.1.2.1 v.1.2.2.2.2 v.2.1.2.1 v.2.2.1 v.2.2.2.1 v.2.2.2.2.1 v.2.2.2.2.2.1 v.2.2.2.2.2.2.1)
def zxo (_ : Nat) : Lps := fun _ => none
theorem ztp (ro : Option Nat) : LpOk Tryz.prog 136 ro (za7 N) (Z8 z0k [true, true, true, true, true, true, false, true, false]) := by
  rw [show (Z8 z0k [true, true, true, true, true, true, false, true, false]) = .loop (Z8 z0k [true, true, true, true, true, true, false, true, false, false]) by kernel_rfl]
  exact W6 (za9 N) mixed (Λ := zxo N) (p := 2036) (Y2 (l := []) (by kernel_rfl) Y3) (by kernel_rfl) (by intro rec v; kernel_rfl) N
def zyw : Cut := { tms := [2, 7, 8, 9, 10, 11], sh := (.cons (.list Y5) (.cons .bool (.cons (.ptr 2000000 0) (.cons (.own 2000005) (.cons (.own 2000006) (.int .i64)))))), objs := [(2000000, [8], .box Sz10), (2000001, [8, 0], .sl Y1), (2000002, [8, 2], .sl (.int .i64)), (2000003, [8, 3], .sl V6), (2000004, [8, 4], .sl Y5), (2000005, [9], .sl Y1), (2000006, [10], .sl Y8)], sts := [] }
def zpz : Cut := { tms := [2, 7, 8, 9], sh := (.cons (.list Y5) (.cons .bool (.cons (.ptr 2000000 0) (.own 2000005)))), objs := [(2000000, [8], .box Sz10), (2000001, [8, 0], .sl Y1), (2000002, [8, 2], .sl (.int .i64)), (2000003, [8, 3], .sl V6), (2000004, [8, 4], .sl Y5), (2000005, [9], .sl Y1)], sts := [] }
def za8 : Lp := lpOf zyw (2, zpz) [] (fun v => z5v N N v.1.1 v.1.2.1 v.1.2.2.2.2.2 v.2.1.2.1 v.2.2.1 v.2.2.2.1 v.2.2.2.2.1 v.2.2.2.2.2.1 v.2.2.2.2.2.2.1 v.2.2.2.2.2.2.2.1)
def zxp (_ : Nat) : Lps := fun _ => none
theorem ztq (ro : Option Nat) : LpOk Tryz.prog 136 ro (za8 N) (Z8 z0k [true, true, true, true, true, false, true, false]) := by
  rw [show (Z8 z0k [true, true, true, true, true, false, true, false]) = .loop (Z8 z0k [true, true, true, true, true, false, true, false, false]) by kernel_rfl]
  exact W6 (za9 N) mixed (Λ := zxp N) (p := 1012) (Y2 (l := []) (by kernel_rfl) Y3) (by kernel_rfl) (by intro rec v; kernel_rfl) N
def yba : Lps := fun p => bif Nat.beq p 506 then some (za8 N) else bif Nat.beq p 1018 then some (za7 N) else none
def ycn : Ctr := X0 (.cons (.val ze8) (.cons (.list z15) (.list Y5))) .bool [] (fun v => zml N v.1 v.2.1 v.2.2)
theorem zzo : Y7 Tryz.prog 8 (fun vs => (ycn N).run vs some) :=
  Y4 (za9 N) mixed (Λ := yba N) (fn := Tryz.f8) (c := z0k) Tryz.func8 (by kernel_rfl) (by kernel_rfl) (Y2 (l := [(za8 N, (Z8 z0k [true, true, true, true, true, false, true, false])), (za7 N, (Z8 z0k [true, true, true, true, true, true, false, true, false]))]) (by kernel_rfl) (X3 (ztq N none) (X3 (ztp N none) Y3))) (by kernel_rfl) (by intro v; kernel_rfl)
end
end Go.Proofs.YtpgikdaeicidaaaGreatDoor
