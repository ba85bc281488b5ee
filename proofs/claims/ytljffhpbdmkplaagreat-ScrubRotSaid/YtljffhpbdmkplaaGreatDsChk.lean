/- Printed by a program of the session's: what the program's functions compute, and that they do. -/
import Derived.Test.YtljffhpbdmkplaaGreatDsPure
import Derived.Test.YtljffhpbdmkplaaGreatProg
import Derived.KernelRfl
set_option linter.all false
namespace Go.Proofs.YtljffhpbdmkplaaGreat
open Go Go.Dv Ds
set_option maxRecDepth 100000
noncomputable section
abbrev PG:=Tryz.prog
abbrev Sh0_:Sh:=(.cons (.int .i64) (.cons (.int .i64) (.cons (.list (.list (.int .u8))) (.cons (.list J4) (.cons (.list .bool) (.cons (.list (.int .i64)) (.cons (.int .i64) (.cons (.int .i64) (.cons (.int .i64) (.cons (.int .i64) (.cons (.list (.int .i64)) (.cons (.list (.int .u64)) (.list (.int .i64))))))))))))))
abbrev Sh1_:Sh:=(.cons (.int .i64) (.cons (.list (.list (.int .u8))) (.cons (.list J4) (.cons (.list .bool) (.cons (.list (.int .i64)) (.cons (.int .i64) (.cons (.int .i64) (.cons (.int .i64) (.cons (.int .i64) (.cons (.own 2000001) (.cons (.own 2000002) (.list (.int .i64)))))))))))))
abbrev Sh2_:Sh:=(.cons (.ptr 2000000 0) (.ptr 2000001 0))
abbrev Sh3_:Sh:=(.cons (.ptr 5000000 0) (.cons (.ptr 5000001 0) (.cons (.ptr 5000003 0) (.cons (.ptr 5000004 0) (.ptr 5000005 0)))))
abbrev Sh4_:Sh:=(.cons (.ptr 2000000 0) (.int .i64))
abbrev Sh5_:Sh:=(.cons (.ptr 2000000 0) (.cons (.ptr 2000001 0) (.cons (.ptr 2000002 0) (.int .i64))))
abbrev Sh6_:Sh:=(.cons (.ptr 2000000 0) (.cons (.own 2000001) (.int .i64)))
abbrev Sh7_:Sh:=(.cons (.ptr 2000000 0) (.cons (.ptr 2000003 0) (.cons (.ptr 2000004 0) (.cons (.ptr 2000005 0) (.cons (.own 2000006) (.int .i64))))))
abbrev Sh8_:Sh:=(.cons (.ptr 2000000 0) (.cons (.ptr 2000001 0) (.int .i64)))
abbrev Sh9_:Sh:=(.cons (.own 2000000) (.int .i64))
abbrev y3c:Sh:=(.cons (.ptr 2000000 0) (.cons (.ptr 2000001 0) (.ptr 2000002 0)))
abbrev yng:Sh:=(.cons (.ptr 2000000 0) (.cons (.ptr 2000003 0) (.cons (.ptr 2000004 0) (.cons (.ptr 2000005 0) (.cons (.own 2000006) (.cons (.int .i64) (.cons (.int .i64) (.int .u64))))))))
abbrev yey:Sh:=(.cons (.ptr 2000000 0) (.cons (.ptr 2000001 0) (.cons (.own 2000002) (.int .i64))))
abbrev yjk:Sh:=(.cons (.ptr 2000000 0) (.cons (.ptr 2000001 0) (.cons (.ptr 2000002 0) (.cons (.own 2000003) (.int .i64)))))
abbrev ya1:Sh:=(.cons (.ptr 5000001 0) (.cons (.ptr 5000002 0) (.ptr 5000004 0)))
abbrev zpd:Sh:=(.cons (.int .i64) (.int .i64))
abbrev yq5:Sh:=(.agg (.cons (.int .i64) (.cons (.list (.list (.int .u8))) (.cons (.list J4) (.cons (.list .bool) (.cons (.list (.int .i64)) (.cons (.int .i64) (.cons (.int .i64) (.cons (.int .i64) (.cons (.int .i64) (.cons (.own 5000000) (.cons (.own 5000001) (.list (.int .i64))))))))))))))
abbrev yjj:Sh:=(.cons (.ptr 2000000 0) (.cons (.own 2000001) (.cons .bool (.int .i64))))
abbrev yex:Sh:=(.cons (.list (.int .i64)) (.cons (.own 2000004) Sh0_))
abbrev yq4:Sh:=(.cons (.list Y8) (.cons (.int .i64) (.cons (.int .i64) (.cons (.int .i64) (.cons (.own 2000004) (.cons (.int .i64) (.cons (.int .i64) (.cons (.int .i64) (.list Z8)))))))))
abbrev ya0:Sh:=(.cons (.ptr 5000001 0) (.ptr 5000002 0))
abbrev y67:Sh:=(.cons (.own 2000001) (.int .i64))
abbrev y9z:Sh:=(.cons (.ptr 2000000 0) (.own 2000001))
abbrev yji:Sh:=(.cons (.own 2000001) (.cons (.own 2000002) (.int .i64)))
abbrev yjh:Sh:=(.cons (.own 2000002) (.cons (.own 2000003) (.int .i64)))
abbrev yq3:Sh:=(.cons (.list (.int .i64)) (.cons (.ptr 2000000 0) (.cons (.ptr 2000001 0) (.cons (.ptr 2000002 0) (.cons (.int .i64) (.cons (.ptr 2000003 0) (.int .i64)))))))
abbrev yjg:Sh:=(.cons (.int .i64) (.cons (.int .i64) (.ptr 2000000 0)))
abbrev yjf:Sh:=(.cons (.list (.int .i64)) (.cons (.own 2000003) Sh0_))
abbrev yq2:Sh:=(.cons (.own 2000001) (.cons (.own 2000002) (.cons (.own 2000003) (.cons (.own 2000004) (.cons (.own 2000005) (.cons .str (.cons .str (.int .i64))))))))
abbrev ynf:Sh:=(.cons (.ptr 2000000 0) (.cons (.ptr 2000001 0) (.own 2000002)))
abbrev yew:Sh:=(.cons (.own 2000004) (.int .i64))
abbrev yne:Sh:=(.cons (.own 2000002) (.cons (.own 2000003) (.own 2000004)))
abbrev ynd:Sh:=(.cons (.list Y2) (.cons (.list Z2) Sh9_))
instance :LTab:=⟨fun i=>bif Nat.beq i 0 then⟨#[27,28],[5,8],cA (Y0 Tryz.f40) 500,cA (Y0 Tryz.f40) 501,66⟩else bif Nat.beq i 1 then⟨#[15,16],[3,4,5],cA (Y0 Tryz.f97) 116,cA (Y0 Tryz.f97) 117,33⟩else⟨#[],[], .skip, .skip,0⟩⟩
def tyRows:List (Nat×TI):=[
 (3,⟨.int .i64,1,8,[.int .i64],some (.int .i64)⟩),
 (4,⟨.bool,1,1,[.bool],some .bool⟩),
 (5,⟨.int .u8,1,1,[.int .u8],some (.int .u8)⟩),
 (9,⟨.str,1,16,[.str],some .str⟩),
 (22,⟨.slice 85,1,24,[.slice],some (.list v8)⟩),
 (23,⟨.arr 3 5,3,3,[.int .u8, .int .u8, .int .u8],some zsc⟩),
 (25,⟨.struct [(0,5),(1,22),(2,23)],5,40,[.int .u8, .slice, .int .u8, .int .u8, .int .u8],some zbe⟩),
 (27,⟨.slice 3,1,24,[.slice],some (.list (.int .i64))⟩),
 (29,⟨.struct [(0,27),(1,27),(2,3)],3,56,[.slice, .slice, .int .i64],some z0k⟩),
 (31,⟨.slice 71,1,24,[.slice],some (.list (.list (.int .u8)))⟩),
 (32,⟨.slice 122,1,24,[.slice],some (.list J4)⟩),
 (34,⟨.struct [(0,3),(1,31),(2,32)],3,56,[.int .i64, .slice, .slice],some Q0⟩),
 (35,⟨.slice 4,1,24,[.slice],some (.list .bool)⟩),
 (37,⟨.struct [(0,35),(1,27),(2,3)],3,56,[.slice, .slice, .int .i64],some Q1⟩),
 (38,⟨.slice 103,1,24,[.slice],some (.list (.int .u64))⟩),
 (40,⟨.struct [(0,34),(3,37),(6,3),(7,3),(8,3),(9,27),(10,38),(11,27)],12,208,[.int .i64, .slice, .slice, .slice, .slice, .int .i64, .int .i64, .int .i64, .int .i64, .slice, .slice, .slice],some X3⟩),
 (41,⟨.slice 101,1,24,[.slice],some (.list Y8)⟩),
 (43,⟨.struct [(0,41)],1,24,[.slice],some (.list Y8)⟩),
 (45,⟨.struct [(0,3),(1,3),(2,3)],3,24,[.int .i64, .int .i64, .int .i64],some z33⟩),
 (46,⟨.slice 116,1,24,[.slice],some (.list z6k)⟩),
 (47,⟨.slice 159,1,24,[.slice],some (.list Z8)⟩),
 (49,⟨.struct [(0,43),(1,45),(4,46),(5,3),(6,3),(7,3),(8,47)],9,120,[.slice, .int .i64, .int .i64, .int .i64, .slice, .int .i64, .int .i64, .int .i64, .slice],some Y1⟩),
 (50,⟨.int .i64,1,8,[.int .i64],some (.int .i64)⟩),
 (52,⟨.struct [(0,40),(12,49),(21,50)],22,336,[.int .i64, .slice, .slice, .slice, .slice, .int .i64, .int .i64, .int .i64, .int .i64, .slice, .slice, .slice, .slice, .int .i64, .int .i64, .int .i64, .slice, .int .i64, .int .i64, .int .i64, .slice, .int .i64],some zbv⟩),
 (57,⟨.int .u16,1,2,[.int .u16],some (.int .u16)⟩),
 (59,⟨.struct [(0,5),(1,57),(2,5)],3,6,[.int .u8, .int .u16, .int .u8],some ze5⟩),
 (63,⟨.struct [(0,29),(3,50)],4,64,[.slice, .slice, .int .i64, .int .i64],some zv0⟩),
 (71,⟨.slice 5,1,24,[.slice],some (.list (.int .u8))⟩),
 (83,⟨.slice 187,1,24,[.slice],some (.list u7)⟩),
 (85,⟨.struct [(0,5),(1,5),(2,83)],3,32,[.int .u8, .int .u8, .slice],some v8⟩),
 (95,⟨.slice 257,1,24,[.slice],some (.list Y2)⟩),
 (96,⟨.slice 9,1,24,[.slice],some (.list .str)⟩),
 (97,⟨.slice 262,1,24,[.slice],some (.list J0)⟩),
 (99,⟨.struct [(0,95),(1,96),(2,27),(3,97),(4,47)],5,120,[.slice, .slice, .slice, .slice, .slice],some Z9⟩),
 (101,⟨.struct [(0,4),(1,4),(2,3),(3,99)],8,136,[.bool, .bool, .int .i64, .slice, .slice, .slice, .slice, .slice],some Y8⟩),
 (103,⟨.int .u64,1,8,[.int .u64],some (.int .u64)⟩),
 (109,⟨.struct [(0,40),(12,50)],13,216,[.int .i64, .slice, .slice, .slice, .slice, .int .i64, .int .i64, .int .i64, .int .i64, .slice, .slice, .slice, .int .i64],some zdo⟩),
 (114,⟨.struct [(0,3),(1,3),(2,5)],3,24,[.int .i64, .int .i64, .int .u8],some zuz⟩),
 (116,⟨.struct [(0,3),(1,3),(2,3),(3,9),(4,47)],5,64,[.int .i64, .int .i64, .int .i64, .str, .slice],some z6k⟩),
 (122,⟨.struct [(0,4),(1,3),(2,71)],3,40,[.bool, .int .i64, .slice],some J4⟩),
 (129,⟨.struct [(0,49),(9,3),(10,50)],11,136,[.slice, .int .i64, .int .i64, .int .i64, .slice, .int .i64, .int .i64, .int .i64, .slice, .int .i64, .int .i64],some zee⟩),
 (157,⟨.struct [(0,9),(1,9)],2,32,[.str, .str],some Z2⟩),
 (159,⟨.struct [(0,3),(1,9),(2,9),(3,157),(5,9),(6,9),(7,3)],8,112,[.int .i64, .str, .str, .str, .str, .str, .str, .int .i64],some Z8⟩),
 (165,⟨.func,1,8,[.func],none⟩),
 (167,⟨.ptr,1,8,[.ptr],none⟩),
 (169,⟨.struct [(0,29),(3,40)],15,264,[.slice, .slice, .int .i64, .int .i64, .slice, .slice, .slice, .slice, .int .i64, .int .i64, .int .i64, .int .i64, .slice, .slice, .slice],some y8c⟩),
 (176,⟨.struct [(0,43),(1,3),(2,45)],5,56,[.slice, .int .i64, .int .i64, .int .i64, .int .i64],some X9⟩),
 (181,⟨.struct [(0,176),(5,3),(6,50)],7,72,[.slice, .int .i64, .int .i64, .int .i64, .int .i64, .int .i64, .int .i64],some z8j⟩),
 (187,⟨.arr 6 5,6,6,[.int .u8, .int .u8, .int .u8, .int .u8, .int .u8, .int .u8],some u7⟩),
 (240,⟨.int .u64,1,8,[.int .u64],some (.int .u64)⟩),
 (244,⟨.struct [(0,43),(1,3),(2,50)],3,40,[.slice, .int .i64, .int .i64],some zju⟩),
 (247,⟨.slice 157,1,24,[.slice],some (.list Z2)⟩),
 (249,⟨.struct [(0,47),(1,247)],2,48,[.slice, .slice],some znj⟩),
 (257,⟨.struct [(0,9),(1,9),(2,3)],3,40,[.str, .str, .int .i64],some Y2⟩),
 (260,⟨.struct [(0,3),(1,3)],2,16,[.int .i64, .int .i64],some z6j⟩),
 (262,⟨.struct [(0,260),(2,260)],4,32,[.int .i64, .int .i64, .int .i64, .int .i64],some J0⟩),
 (300,⟨.struct [(0,37),(3,3),(4,50)],5,72,[.slice, .slice, .int .i64, .int .i64, .int .i64],some zjr⟩),
 (318,⟨.struct [(0,27),(1,4)],2,32,[.slice, .bool],some zfy⟩),
 (346,⟨.arr 4 3,4,32,[.int .i64, .int .i64, .int .i64, .int .i64],some ydb⟩),
 (356,⟨.struct [(0,99),(5,157),(7,50)],8,160,[.slice, .slice, .slice, .slice, .slice, .str, .str, .int .i64],some zl1⟩),
 (360,⟨.slice 99,1,24,[.slice],some (.list Z9)⟩),
 (362,⟨.struct [(0,360),(1,96),(2,47)],3,72,[.slice, .slice, .slice],some zjt⟩),
 (365,⟨.struct [(0,360),(1,96),(2,47)],3,72,[.slice, .slice, .slice],some ze6⟩),
 (368,⟨.struct [(0,176),(5,3),(6,50)],7,72,[.slice, .int .i64, .int .i64, .int .i64, .int .i64, .int .i64, .int .i64],some z7b⟩),
 (399,⟨.struct [(0,3),(1,3)],2,16,[.int .i64, .int .i64],some zh5⟩),
 (406,⟨.slice 95,1,24,[.slice],some (.list (.list Y2))⟩),
 (410,⟨.struct [(0,47),(1,47),(2,247)],3,72,[.slice, .slice, .slice],some zo1⟩),
 (415,⟨.struct [(0,43),(1,27),(2,50)],3,56,[.slice, .slice, .int .i64],some zjs⟩),
 (433,⟨.struct [(0,9),(1,3),(2,3),(3,9)],4,48,[.str, .int .i64, .int .i64, .str],some z1j⟩)]
theorem zoq:(tyRows.all fun r=>tiOk PG r.1 r.2)=true:=by kernel_rfl
theorem mixed:PG.follows .mixedOrders=true:=by kernel_rfl
def eqRows:List (Nat×List Nat):=[(159,[0,2,2,2,2,2,2,0])]
theorem yic:(eqRows.all fun r=>eqB PG r.1 r.2)=true:=by kernel_rfl
def yc9:List (Nat×String×Nat):=[]
theorem yao:ya3 PG yc9:=trivial
def E0(st:List (Nat×List Nat))(pre:List Nat)(tc:List (SC PG))(tm:List (SM PG):=[])(tr:List (SR PG):=[]):SE PG:=
 ⟨ypl tyRows eqRows yc9 st pre (tabC tc) (tabM tm) (tabR tr),ykf zoq yic yao (yfl tc) (yfk tm) (yfj tr),mixed⟩
variable (N:Nat)
def y10:SC PG:=fz (E0 [] [] []) Tryz.func69 [] (.val z33) .bool [] (fun v=>zdw N v) (by kernel_rfl)
def z9w:SC PG:=fz (E0 [] [] []) Tryz.func66 [] (.cons (.val (.list Y8)) (.int .i64)) .bool [] (fun v=>z71 N v.1 v.2) (by kernel_rfl)
def ze9:SC PG:=fz (E0 [] [] []) Tryz.func151 [] (.val (.list Y8)) (.agg (.fresh Y8)) [] (fun v=>z9b N v) (by kernel_rfl)
def ziy:SE PG:=E0 [(K6,[2000002])] [] [z9w N,ze9 N]
def zzo:SL PG Tryz.f142.ntmps (Y0 Tryz.f142):=lz N (ziy N) [] 4090 ⟨[3,4,6,7,8],(.cons (.ptr 2000000 0) (.cons (.ptr 2000001 0) (.cons (.int .i64) (.cons (.ptr 2000002 0) (.int .i64))))),[(2000000,[3], .boxV Z9),(2000001,[4], .boxC [.nils, .int .i64 0, .int .i64 0]),(2000002,[7], .box (.own 2000003)),(2000003,[7,0], .sl Y8)],[]⟩ (6,⟨[4,6,7],(.cons (.ptr 2000000 0) (.cons (.int .i64) (.ptr 2000001 0))),[(2000000,[4], .boxC [.nils, .int .i64 0, .int .i64 0]),(2000001,[7], .box (.own 2000002)),(2000002,[7,0], .sl Y8)],[]⟩) [] (z4z N N) (z4q N) (fun f v=>f v.1.2.2.1 v.1.2.2.2.2 v.2.1 v.2.2.2.2.1) (fun r b0 b1 b2 b3=>r (((),((),(b0,((),b1)))),(b2,((),((),(b3,())))))) rfl (fun _=>rfl) (fun _ _=>rfl) (by kernel_rfl)
def zzp:SL PG Tryz.f142.ntmps (Y0 Tryz.f142):=lz N (ziy N) [] 60 ⟨[2,3,4,6],Sh5_,[(2000000,[2], .box (.list Y8)),(2000001,[3], .boxV Z9),(2000002,[4], .boxC [.nils, .int .i64 0, .int .i64 0])],[]⟩ (4,⟨[2,3,4,6],Sh5_,[(2000000,[2], .box (.list Y8)),(2000001,[3], .boxV Z9),(2000002,[4], .boxC [.nils, .int .i64 0, .int .i64 0])],[]⟩) [] (z9c N N) (z4r N) (fun f v=>f v.1.2.2.2 v.2.1 v.2.2.1) (fun r b0 b1 b2=>r (((),((),((),b0))),(b1,(b2,((),()))))) rfl (fun _=>rfl) (fun _ _=>rfl) (by kernel_rfl)
def zzq:SL PG Tryz.f142.ntmps (Y0 Tryz.f142):=lz N (ziy N) [] 26 ⟨[2,3,4,5],Sh5_,[(2000000,[2], .box (.list Y8)),(2000001,[3], .boxV Z9),(2000002,[4], .boxC [.nils, .int .i64 0, .int .i64 0])],[]⟩ (1,⟨[4],(.ptr 2000000 0),[(2000000,[4], .boxV zju)],[]⟩) [(2,⟨[2,3,4],y3c,[(2000000,[2], .box (.list Y8)),(2000001,[3], .boxV Z9),(2000002,[4], .boxC [.nils, .int .i64 0, .int .i64 0])],[]⟩)] (z9d N N) (z4s N) (fun f v=>f v.1.2.2.2 v.2.1 v.2.2.1) (fun r b0 b1 b2=>r (((),((),((),b0))),(b1,(b2,((),()))))) rfl (fun _=>rfl) (fun _ _=>rfl) (by kernel_rfl)
def zkn:SC PG:=fz (ziy N) Tryz.func142 [zzq N,zzp N,zzo N] (.cons (.val (.list Y8)) (.val Z9)) (.val zju) [] (fun v=>z65 N v.1 v.2) (by kernel_rfl)
def y7z:SC PG:=fz (E0 [] [] [y10 N,zkn N]) Tryz.func125 [] (.val z33) (.tup (.cons (.val X9) (.int .i64))) [] (fun v=>zxl N v) (by kernel_rfl)
def zty:SC PG:=fz (E0 [] [] [y7z N]) Tryz.func73 [] (.val z33) (.tup (.cons (.val Y1) (.int .i64))) [] (fun v=>zk4 N v) (by kernel_rfl)
def zui:SE PG:=E0 [] [] []
def zw6:SL PG Tryz.f92.ntmps (Y0 Tryz.f92):=lz N (zui) [] 26 ⟨[1,2,5],(.cons (.int .i64) Sh4_),[(2000000,[2], .boxV Y1)],[]⟩ (1,⟨[4],(.int .i64),[],[]⟩) [(2,⟨[], .nil,[],[]⟩)] (za3 N N) (z39 N) (fun f v=>f v.1.1 v.1.2.2 v.2.1) (fun r b0 b1 b2=>r ((b0,((),b1)),(b2,()))) rfl (fun _=>rfl) (fun _ _=>rfl) (by kernel_rfl)
def zj8:SC PG:=fz (zui) Tryz.func92 [zw6 N] (.cons (.val Y1) (.int .i64)) (.int .i64) [] (fun v=>zcz N v.1 v.2) (by kernel_rfl)
def y50:SC PG:=fz (E0 [] [] [zj8 N]) Tryz.func85 [] (.cons (.val Y1) (.int .i64)) (.tup (.cons (.val X9) (.int .i64))) [] (fun v=>zru N v.1 v.2) (by kernel_rfl)
def yae:SC PG:=fz (E0 [] [] []) Tryz.func179 [] (.cons (.int .i64) (.cons (.int .i64) (.int .i64))) .bool [] (fun v=>zhv N v.1 v.2.1 v.2.2) (by kernel_rfl)
def z3r:SC PG:=fz (E0 [] [] []) Tryz.func235 [] (.val Z2) .bool [] (fun v=>z0h N v) (by kernel_rfl)
def y5l:SC PG:=fz (E0 [] [] [z3r N]) Tryz.func180 [] (.val Z2) .bool [] (fun v=>zhg N v) (by kernel_rfl)
def zap:SC PG:=fz (E0 [] [] []) Tryz.func149 [] (.cons .str .str) .bool [] (fun v=>z04 N v.1 v.2) (by kernel_rfl)
def zqa:SE PG:=E0 [] [] [yae N,y5l N,zap N]
def ztc:SL PG Tryz.f120.ntmps (Y0 Tryz.f120):=pz (zqa N) [] 7551 ⟨[1,4,14,66],(.cons (.ptr 2000000 0) (.cons .bool (.cons (.int .i64) .bool))),[(2000000,[1], .boxV Z8)],[]⟩ (1,⟨[2], .bool,[],[]⟩) [(0,⟨[], .nil,[],[]⟩)] (fun v=>z89 N v.1.2.1 v.1.2.2.1 v.1.2.2.2 v.2.1) (by kernel_rfl)
def zgm:SC PG:=fz (zqa N) Tryz.func120 [ztc N] (.val Z8) .bool [] (fun v=>zb8 N v) (by kernel_rfl)
def zfc:SC PG:=fz (E0 [] [] [z9w N]) Tryz.func140 [] (.cons (.val (.list Y8)) (.int .i64)) (.tup (.cons (.val Z9) (.int .i64))) [] (fun v=>z9r N v.1 v.2) (by kernel_rfl)
def zgs:SE PG:=E0 [] [] []
def zr9:SL PG Tryz.f202.ntmps (Y0 Tryz.f202):=pz (zgs) [] 1865 ⟨[0,3,5,6,7],(.cons (.list Y2) yjj),[(2000000,[3], .boxV Y2),(2000001,[5], .sl Y2)],[]⟩ (0,⟨[0,3,5,6,7],(.cons (.list Y2) yjj),[(2000000,[3], .boxV Y2),(2000001,[5], .sl Y2)],[]⟩) [] (fun v=>z1o N v.1.1 v.1.2.2.2.1 v.1.2.2.2.2 v.2.1 v.2.2.1) (by kernel_rfl)
def zra:SL PG Tryz.f202.ntmps (Y0 Tryz.f202):=lz N (zgs) [zr9 N] 58 ⟨[0,3,5,6,7],(.cons (.list Y2) yjj),[(2000000,[3], .boxV Y2),(2000001,[5], .sl Y2)],[]⟩ (2,⟨[3,5,6],(.cons (.ptr 2000000 0) (.cons (.own 2000001) .bool)),[(2000000,[3], .boxV Y2),(2000001,[5], .sl Y2)],[]⟩) [] (z1p N N) (z14 N) (fun f v=>f v.1.1 v.1.2.2.2.1 v.1.2.2.2.2 v.2.1 v.2.2.1) (fun r b0 b1 b2 b3 b4=>r ((b0,((),((),(b1,b2)))),(b3,(b4,())))) rfl (fun _=>rfl) (fun _ _=>rfl) (by kernel_rfl)
def y09:SC PG:=fz (zgs) Tryz.func202 [zra N] (.cons (.list Y2) (.val Y2)) (.fresh Y2) [] (fun v=>z9e N v.1 v.2) (by kernel_rfl)
def zfd:SC PG:=fz (E0 [] [] []) Tryz.func148 [] .str (.val Z2) [] (fun v=>z9s N v) (by kernel_rfl)
def zko:SC PG:=fz (E0 [] [] []) Tryz.func204 [] (.cons (.val Z2) .str) .bool [] (fun v=>zbk N v.1 v.2) (by kernel_rfl)
def y2w:SE PG:=E0 [] [] [zko N]
def y0m:SL PG Tryz.f250.ntmps (Y0 Tryz.f250):=lz N (y2w N) [] 26 ⟨[0,1,5],(.cons (.list Z2) (.cons .str (.int .i64))),[],[]⟩ (1,⟨[4], .bool,[],[]⟩) [(2,⟨[], .nil,[],[]⟩)] (ze1 N N) (z5j N) (fun f v=>f v.1.1 v.1.2.1 v.1.2.2) (fun r b0 b1 b2=>r ((b0,(b1,b2)),())) rfl (fun _=>rfl) (fun _ _=>rfl) (by kernel_rfl)
def zyf:SC PG:=fz (y2w N) Tryz.func250 [y0m N] (.cons (.list Z2) .str) .bool [] (fun v=>zoe N v.1 v.2) (by kernel_rfl)
def zlz:SE PG:=E0 [] [] [zyf N]
def zo8:SL PG Tryz.f203.ntmps (Y0 Tryz.f203):=lz N (zlz N) [] 58 ⟨[0,1,5,6],ynd,[(2000000,[5], .sl Y2)],[]⟩ (2,⟨[5],(.own 2000000),[(2000000,[5], .sl Y2)],[]⟩) [] (z5i N N) (z0g N) (fun f v=>f v.1.1 v.1.2.1 v.1.2.2.2 v.2.1) (fun r b0 b1 b2 b3=>r ((b0,(b1,((),b2))),(b3,()))) rfl (fun _=>rfl) (fun _ _=>rfl) (by kernel_rfl)
def zwz:SC PG:=fz (zlz N) Tryz.func203 [zo8 N] (.cons (.list Y2) (.list Z2)) (.fresh Y2) [] (fun v=>z57 N v.1 v.2) (by kernel_rfl)
def zng:SE PG:=E0 [] [] []
def zrc:SL PG Tryz.f146.ntmps (Y0 Tryz.f146):=lz N (zng) [] 28 ⟨[0,2,3],(.cons .str Sh4_),[(2000000,[2], .boxC [.str [], .str []])],[]⟩ (2,⟨[0,2,3],(.cons .str Sh4_),[(2000000,[2], .boxC [.str [], .str []])],[]⟩) [] (J9 N N) (z4e N) (fun f v=>f v.1.1 v.1.2.2) (fun r b0 b1=>r ((b0,((),b1)),((),()))) rfl (fun _=>rfl) (fun _ _=>rfl) (by kernel_rfl)
def z07:SC PG:=fz (zng) Tryz.func146 [zrc N] .str (.val Z2) [] (fun v=>U2 N v) (by kernel_rfl)
def znd:SE PG:=E0 [] [] [zyf N]
def zr7:SL PG Tryz.f205.ntmps (Y0 Tryz.f205):=lz N (znd N) [] 58 ⟨[0,1,5,6],ynd,[(2000000,[5], .sl Y2)],[]⟩ (2,⟨[5],(.own 2000000),[(2000000,[5], .sl Y2)],[]⟩) [] (z73 N N) (z11 N) (fun f v=>f v.1.1 v.1.2.1 v.1.2.2.2 v.2.1) (fun r b0 b1 b2 b3=>r ((b0,(b1,((),b2))),(b3,()))) rfl (fun _=>rfl) (fun _ _=>rfl) (by kernel_rfl)
def y07:SC PG:=fz (znd N) Tryz.func205 [zr7 N] (.cons (.list Y2) (.list Z2)) (.fresh Y2) [] (fun v=>zfm N v.1 v.2) (by kernel_rfl)
def y1h:SC PG:=fz (E0 [] [] [zap N]) Tryz.func206 [] (.cons .str (.cons .str .str)) (.tup (.cons .str .bool)) [] (fun v=>ziq N v.1 v.2.1 v.2.2) (by kernel_rfl)
def zjm:SE PG:=E0 [] [] [y09 N,zfd N,zwz N,zko N,z07 N,y07 N,y1h N]
def ztg:SL PG Tryz.f141.ntmps (Y0 Tryz.f141):=lz N (zjm N) [] 110570 ⟨[3,5,6],Sh6_,[(2000000,[3], .boxV Z8),(2000001,[5], .sl Y2)],[]⟩ (3,⟨[5],(.own 2000000),[(2000000,[5], .sl Y2)],[]⟩) [] (z8c N N) (z2b N) (fun f v=>f v.1.2.2 v.2.1 v.2.2.1) (fun r b0 b1 b2=>r (((),((),b0)),(b1,(b2,())))) rfl (fun _=>rfl) (fun _ _=>rfl) (by kernel_rfl)
def zth:SL PG Tryz.f141.ntmps (Y0 Tryz.f141):=lz N (zjm N) [] 250 ⟨[3,7,8,9],(.cons (.ptr 2000000 0) yji),[(2000000,[3], .boxV Z8),(2000001,[7], .sl Y2),(2000002,[8], .sl Y2)],[]⟩ (5,⟨[7],(.own 2000000),[(2000000,[7], .sl Y2)],[]⟩) [] (z3x N N) (z2c N) (fun f v=>f v.1.2.2.2 v.2.1 v.2.2.1 v.2.2.2.1) (fun r b0 b1 b2 b3=>r (((),((),((),b0))),(b1,(b2,(b3,()))))) rfl (fun _=>rfl) (fun _ _=>rfl) (by kernel_rfl)
def zmx:SC PG:=fz (zjm N) Tryz.func141 [ztg N,zth N] (.cons (.list Y2) (.val Z8)) (.fresh Y2) [] (fun v=>z31 N v.1 v.2) (by kernel_rfl)
def zun:SE PG:=E0 [(K6,[2000002]),(6,[2000003])] [] [z9w N,ze9 N]
def zwf:SL PG Tryz.f93.ntmps (Y0 Tryz.f93):=lz N (zun N) [] 60 ⟨[4,6,7],(.cons (.ptr 2000000 0) (.cons (.ptr 2000001 0) (.list (.int .i64)))),[(2000000,[4], .boxC [.nils]),(2000001,[6], .box (.own 2000002)),(2000002,[6,0], .sl Y8)],[17,56]⟩ (2,⟨[4,6],Sh2_,[(2000000,[4], .boxC [.nils]),(2000001,[6], .box (.own 2000002)),(2000002,[6,0], .sl Y8)],[]⟩) [] (z7g N N) (z3h N) (fun f v=>f v.1.2.2 v.2.2.2.1) (fun r b0 b1=>r (((),((),b0)),((),((),(b1,()))))) rfl (fun _=>rfl) (fun _ _=>rfl) (by kernel_rfl)
def zcq:SC PG:=fz (zun N) Tryz.func93 [zwf N] (.cons (.val (.list Y8)) (.int .i64)) (.tup (.cons (.val (.list Y8)) (.int .i64))) [] (fun v=>z2m N v.1 v.2) (by kernel_rfl)
def y80:SC PG:=fz (E0 [(10,[34,45])] [] [zgm N,zfc N,zmx N,zkn N,zcq N]) Tryz.func86 [] (.cons (.val X9) (.val Z8)) (.tup (.cons (.val X9) (.int .i64))) [] (fun v=>zk6 N v.1 v.2) (by kernel_rfl)
def zjb:SC PG:=fz (E0 [] [] []) Tryz.func261 [] (.cons .str .str) .bool [] (fun v=>zdg N v.1 v.2) (by kernel_rfl)
def y5n:SC PG:=fz (E0 [] [] []) Tryz.func300 [] .nil (.val Z2) [] (fun _=>zlo N) (by kernel_rfl)
def z9x:SC PG:=fz (E0 [] [] [zjb N,z3r N,y5n N]) Tryz.func262 [] (.cons (.val Z2) (.val Z2)) (.val Z2) [] (fun v=>z2n N v.1 v.2) (by kernel_rfl)
def zqe:SE PG:=E0 [] [] [z9x N]
def ztk:SL PG Tryz.f281.ntmps (Y0 Tryz.f281):=lz N (zqe N) [] 58 ⟨[1,2,5,6,7],(.cons (.list .str) (.cons (.ptr 2000000 0) (.cons (.own 2000001) (.cons .str (.int .i64))))),[(2000000,[2], .boxV Z2),(2000001,[5], .sl Z2)],[]⟩ (2,⟨[2,5,6],(.cons (.ptr 2000000 0) (.cons (.own 2000001) .str)),[(2000000,[2], .boxV Z2),(2000001,[5], .sl Z2)],[]⟩) [] (z8f N N) (z2e N) (fun f v=>f v.1.1 v.1.2.2.2.1 v.1.2.2.2.2 v.2.1 v.2.2.1) (fun r b0 b1 b2 b3 b4=>r ((b0,((),((),(b1,b2)))),(b3,(b4,())))) rfl (fun _=>rfl) (fun _ _=>rfl) (by kernel_rfl)
def zmy:SC PG:=fz (zqe N) Tryz.func281 [ztk N] (.cons (.val Z2) (.list .str)) (.fresh Z2) [] (fun v=>ze0 N v.1 v.2) (by kernel_rfl)
def zmr:SC PG:=fz (E0 [] [] [zmy N]) Tryz.func237 [] (.cons (.val Z9) (.val Z2)) (.fresh Z2) [] (fun v=>z8n N v.1 v.2) (by kernel_rfl)
def zkv:SE PG:=E0 [(K6,[2000001,2000002,2000003,2000004,2000005])] [] [zfc N,zmr N]
def zw9:SL PG Tryz.f251.ntmps (Y0 Tryz.f251):=pz (zkv N) [] 489 ⟨[1,2,4,5,7,8],(.cons (.list (.int .i64)) (.cons (.ptr 2000000 0) (.cons (.ptr 2000001 0) (.cons (.ptr 2000002 0) (.cons (.ptr 2000003 0) (.int .i64)))))),[(2000000,[2], .boxV X9),(2000001,[4], .boxC [.nils, .nils, .nils, .nils, .nils, .str [], .str [], .int .i64 0]),(2000002,[5], .boxV Z9),(2000003,[7], .boxV Z2)],[]⟩ (1,⟨[4],(.ptr 2000000 0),[(2000000,[4], .box yq2),(2000001,[4,0], .sl Y2),(2000002,[4,1], .sl .str),(2000003,[4,2], .sl (.int .i64)),(2000004,[4,3], .sl J0),(2000005,[4,4], .sl Z8)],[]⟩) [(0,⟨[1,2,4,5,6,7,8],yq3,[(2000000,[2], .boxV X9),(2000001,[4], .boxC [.nils, .nils, .nils, .nils, .nils, .str [], .str [], .int .i64 0]),(2000002,[5], .boxV Z9),(2000003,[7], .boxV Z2)],[]⟩)] (fun v=>zjd N v.1.1 v.1.2.2.2.2.2 v.2.1 v.2.2.2.1 v.2.2.2.2.1) (by kernel_rfl)
def zwa:SL PG Tryz.f251.ntmps (Y0 Tryz.f251):=lz N (zkv N) [zw9 N] 122 ⟨[1,2,4,5,6,7,8],yq3,[(2000000,[2], .boxV X9),(2000001,[4], .boxC [.nils, .nils, .nils, .nils, .nils, .str [], .str [], .int .i64 0]),(2000002,[5], .boxV Z9),(2000003,[7], .boxV Z2)],[]⟩ (1,⟨[4],(.ptr 2000000 0),[(2000000,[4], .box yq2),(2000001,[4,0], .sl Y2),(2000002,[4,1], .sl .str),(2000003,[4,2], .sl (.int .i64)),(2000004,[4,3], .sl J0),(2000005,[4,4], .sl Z8)],[]⟩) [(2,⟨[4,5,6,7],(.cons (.ptr 2000000 0) (.cons (.ptr 2000001 0) (.cons (.int .i64) (.ptr 2000002 0)))),[(2000000,[4], .boxC [.nils, .nils, .nils, .nils, .nils, .str [], .str [], .int .i64 0]),(2000001,[5], .boxV Z9),(2000002,[7], .boxV Z2)],[]⟩)] (za6 N N) (z3c N) (fun f v=>f v.1.1 v.1.2.2.2.2.1 v.1.2.2.2.2.2.2 v.2.1 v.2.2.2.1 v.2.2.2.2.1) (fun r b0 b1 b2 b3 b4 b5=>r ((b0,((),((),((),(b1,((),b2)))))),(b3,((),(b4,(b5,())))))) rfl (fun _=>rfl) (fun _ _=>rfl) (by kernel_rfl)
def z9v:SC PG:=fz (zkv N) Tryz.func251 [zwa N] (.cons (.val X9) (.list (.int .i64))) (.val zl1) [] (fun v=>z8v N v.1 v.2) (by kernel_rfl)
def y5f:SC PG:=fz (E0 [] [] []) Tryz.func252 [] (.cons (.val Z9) (.val z33)) .bool [] (fun v=>zlk N v.1 v.2) (by kernel_rfl)
def zwv:SC PG:=fz (E0 [(K6,[12])] [] []) Tryz.func253 [] (.cons (.list (.int .i64)) (.int .i64)) (.list (.int .i64)) [] (fun v=>zd2 N v.1 v.2) (by kernel_rfl)
def z5m(self:Y5->(List Int)->Bool->Option (K2)):Ctr:=zhn (.cons (.val X9) (.cons (.list (.int .i64)) .bool)) (.val zfy) [] (fun v=>self v.1 v.2.1 v.2.2)
def zq3(self:Y5->(List Int)->Bool->Option (K2))(hs:z4i PG 207 fun xs=>(z5m self).run xs some):SE PG:=E0 [] [] [⟨207,z5m self,hs⟩,z9v N,y5f N,zwv N]
def zsq(self:Y5->(List Int)->Bool->Option (K2))(hs:z4i PG 207 fun xs=>(z5m self).run xs some):SL PG Tryz.f207.ntmps (Y0 Tryz.f207):=lz N (zq3 N self hs) [] 250 ⟨[1,2,3,6,7,8],(.cons (.list (.int .i64)) (.cons .bool Sh5_)),[(2000000,[3], .boxV X9),(2000001,[6], .boxC [.nils, .bool false]),(2000002,[7], .boxV zl1)],[]⟩ (1,⟨[6],(.ptr 2000000 0),[(2000000,[6], .boxV zfy)],[]⟩) [(2,⟨[6],(.ptr 2000000 0),[(2000000,[6], .boxC [.nils, .bool false])],[]⟩)] (J7 N self N) (z1x N self) (fun f v=>f v.1.1 v.1.2.1 v.1.2.2.2.2.2 v.2.1 v.2.2.2.1) (fun r b0 b1 b2 b3 b4=>r ((b0,(b1,((),((),((),b2))))),(b3,((),(b4,()))))) rfl (fun _=>rfl) (fun _ _=>rfl) (by kernel_rfl)
def y1m(self:Y5->(List Int)->Bool->Option (K2))(hs:z4i PG 207 fun xs=>(z5m self).run xs some):SC PG:=fz (zq3 N self hs) Tryz.func207 [zsq N self hs] (.cons (.val X9) (.cons (.list (.int .i64)) .bool)) (.val zfy) [] (fun v=>z5h N self v.1 v.2.1 v.2.2) (by kernel_rfl)
def y0x:SC PG:=recz (f:=207) z5m (fun _ _ _=>none) (z5h N) (y2z fun _=>rfl) (fun self hs=>(y1m N self hs).h) N
def zq4:SE PG:=E0 [] [] []
def zst:SL PG Tryz.f292.ntmps (Y0 Tryz.f292):=lz N (zq4) [] 250 ⟨[0,5,6,7],(.cons (.int .i64) (.cons (.int .i64) Sh9_)),[(2000000,[6], .sl (.int .i64))],[]⟩ (2,⟨[6],(.own 2000000),[(2000000,[6], .sl (.int .i64))],[]⟩) [] (z84 N N) (z1y N) (fun f v=>f v.1.1 v.1.2.1 v.1.2.2.2 v.2.1) (fun r b0 b1 b2 b3=>r ((b0,(b1,((),b2))),(b3,()))) rfl (fun _=>rfl) (fun _ _=>rfl) (by kernel_rfl)
def zmq:SC PG:=fz (zq4) Tryz.func292 [zst N] (.cons (.int .i64) (.int .i64)) (.fresh (.int .i64)) [] (fun v=>z54 N v.1 v.2) (by kernel_rfl)
def zn8:SE PG:=E0 [] [] [zmq N]
def zqx:SL PG Tryz.f290.ntmps (Y0 Tryz.f290):=lz N (zn8 N) [] 122 ⟨[0,5,6,7,8],(.cons (.list Y2) (.cons (.own 2000000) (.cons (.int .i64) y67))),[(2000000,[5], .sl (.list Y2)),(2000001,[7], .sl (.int .i64))],[]⟩ (2,⟨[5],(.own 2000000),[(2000000,[5], .sl (.list Y2))],[]⟩) [] (z6y N N) (z0v N) (fun f v=>f v.1.1 v.1.2.2.1 v.1.2.2.2.2 v.2.1 v.2.2.1) (fun r b0 b1 b2 b3 b4=>r ((b0,((),(b1,((),b2)))),(b3,(b4,())))) rfl (fun _=>rfl) (fun _ _=>rfl) (by kernel_rfl)
def y01:SC PG:=fz (zn8 N) Tryz.func290 [zqx N] (.cons (.list Y2) (.int .i64)) (.fresh (.list Y2)) [] (fun v=>zfj N v.1 v.2) (by kernel_rfl)
def zul:SE PG:=E0 [(K6,[17,2000002,2000003,2000004])] [] [y01 N]
def zwb:SL PG Tryz.f254.ntmps (Y0 Tryz.f254):=lz N (zul N) [] 250 ⟨[4,5,6,7],(.cons (.ptr 2000000 0) (.cons (.own 2000001) (.cons (.ptr 2000002 0) (.int .i64)))),[(2000000,[4], .boxC [.nils, .nils, .nils]),(2000001,[5], .sl (.list Y2)),(2000002,[6], .box (.cons (.own 2000003) (.cons (.own 2000004) (.own 2000005)))),(2000003,[6,0], .sl Z9),(2000004,[6,1], .sl .str),(2000005,[6,2], .sl Z8)],[]⟩ (2,⟨[4,6],Sh2_,[(2000000,[4], .boxC [.nils, .nils, .nils]),(2000001,[6], .box yne),(2000002,[6,0], .sl Z9),(2000003,[6,1], .sl .str),(2000004,[6,2], .sl Z8)],[]⟩) [] (za7 N N) (z3d N) (fun f v=>f v.1.2.2.2 v.2.2.1 v.2.2.2.2.1 v.2.2.2.2.2.1 v.2.2.2.2.2.2.1) (fun r b0 b1 b2 b3 b4=>r (((),((),((),b0))),((),(b1,(((),((),())),(b2,(b3,(b4,())))))))) rfl (fun _=>rfl) (fun _ _=>rfl) (by kernel_rfl)
def zpj:SC PG:=fz (zul N) Tryz.func254 [zwb N] (.cons (.val Z9) (.val z33)) (.val zjt) [] (fun v=>zd4 N v.1 v.2) (by kernel_rfl)
def zyz:SE PG:=E0 [(K6,[2000001,2000002])] [] [zkn N]
def zzm:SL PG Tryz.f296.ntmps (Y0 Tryz.f296):=lz N (zyz N) [] 58 ⟨[1,4,5,6],(.cons (.list Z9) Sh8_),[(2000000,[4], .boxC [.nils, .nils, .int .i64 0]),(2000001,[5], .box (.cons (.list Y8) (.cons (.own 2000002) (.int .i64)))),(2000002,[5,1], .sl (.int .i64))],[]⟩ (1,⟨[4],(.ptr 2000000 0),[(2000000,[4], .box yji),(2000001,[4,0], .sl Y8),(2000002,[4,1], .sl (.int .i64))],[]⟩) [(2,⟨[4,5],Sh2_,[(2000000,[4], .boxC [.nils, .nils, .int .i64 0]),(2000001,[5], .box (.cons (.list Y8) (.cons (.own 2000002) (.int .i64)))),(2000002,[5,1], .sl (.int .i64))],[]⟩)] (z4y N N) (z4p N) (fun f v=>f v.1.1 v.1.2.2.2 v.2.2.1.1 v.2.2.1.2.2 v.2.2.2.1) (fun r b0 b1 b2 b3 b4=>r ((b0,((),((),b1))),((),((b2,((),b3)),(b4,()))))) rfl (fun _=>rfl) (fun _ _=>rfl) (by kernel_rfl)
def zu2:SC PG:=fz (zyz N) Tryz.func296 [zzm N] (.cons (.val (.list Y8)) (.list Z9)) (.val zjs) [] (fun v=>zdq N v.1 v.2) (by kernel_rfl)
def zqf:SE PG:=E0 [] [] []
def ztp:SL PG Tryz.f325.ntmps (Y0 Tryz.f325):=pz (zqf) [] 31 ⟨[0,1,4,5,6],(.cons .str (.cons (.int .i64) (.cons (.ptr 2000000 0) (.cons (.ptr 2000001 0) .str)))),[(2000000,[4], .boxC [.str [], .int .i64 0, .int .i64 0, .str []]),(2000001,[5], .boxV z1j)],[]⟩ (1,⟨[4],(.ptr 2000000 0),[(2000000,[4], .boxV z1j)],[]⟩) [] (fun v=>z3y N v.1.1 v.1.2.1 v.1.2.2.2.2 v.2.2.1) (by kernel_rfl)
def y1j:SC PG:=fz (zqf) Tryz.func325 [ztp N] (.cons .str (.int .i64)) (.val z1j) [] (fun v=>zis N v.1 v.2) (by kernel_rfl)
def zqi:SE PG:=E0 [] [] []
def zts:SL PG Tryz.f327.ntmps (Y0 Tryz.f327):=lz N (zqi) [] 58 ⟨[0,4,5,6],(.cons .str (.cons (.own 2000000) (.cons .str (.int .i64)))),[(2000000,[4], .sl .str)],[]⟩ (2,⟨[4,5],(.cons (.own 2000000) .str),[(2000000,[4], .sl .str)],[]⟩) [] (z8i N N) (z2i N) (fun f v=>f v.1.1 v.1.2.2.1 v.1.2.2.2 v.2.1) (fun r b0 b1 b2 b3=>r ((b0,((),(b1,b2))),(b3,()))) rfl (fun _=>rfl) (fun _ _=>rfl) (by kernel_rfl)
def y1k:SC PG:=fz (zqi) Tryz.func327 [zts N] .str (.tup (.cons (.fresh .str) .bool)) [] (fun v=>zit N v) (by kernel_rfl)
def zus:SE PG:=E0 [] [] []
def zwp:SL PG Tryz.f71.ntmps (Y0 Tryz.f71):=lz N (zus) [] 58 ⟨[0,3],(.cons .str (.int .i64)),[],[]⟩ (1,⟨[2], .bool,[],[]⟩) [(2,⟨[], .nil,[],[]⟩)] (zaf N N) (z3n N) (fun f v=>f v.1.1 v.1.2) (fun r b0 b1=>r ((b0,b1),())) rfl (fun _=>rfl) (fun _ _=>rfl) (by kernel_rfl)
def zjc:SC PG:=fz (zus) Tryz.func71 [zwp N] .str .bool [] (fun v=>z8z N v) (by kernel_rfl)
def zqg:SE PG:=E0 [] [] [y1k N,zjc N]
def ztq:SL PG Tryz.f320.ntmps (Y0 Tryz.f320):=lz N (zqg N) [] 58 ⟨[3,4,5],(.cons (.own 2000000) (.cons .bool (.int .i64))),[(2000000,[3], .sl .str)],[]⟩ (1,⟨[2], .bool,[],[]⟩) [(2,⟨[4], .bool,[],[]⟩)] (z8g N N) (z2g N) (fun f v=>f v.1.2.1 v.1.2.2 v.2.1) (fun r b0 b1 b2=>r (((),(b0,b1)),(b2,()))) rfl (fun _=>rfl) (fun _ _=>rfl) (by kernel_rfl)
def zmz:SC PG:=fz (zqg N) Tryz.func320 [ztq N] .str .bool [] (fun v=>z8r N v) (by kernel_rfl)
def zut:SE PG:=E0 [] [] []
def zwq:SL PG Tryz.f328.ntmps (Y0 Tryz.f328):=lz N (zut) [] 122 ⟨[0,3,4],(.cons (.int .i64) (.cons .str (.int .i64))),[],[]⟩ (2,⟨[3], .str,[],[]⟩) [] (zag N N) (z3o N) (fun f v=>f v.1.1 v.1.2.1 v.1.2.2) (fun r b0 b1 b2=>r ((b0,(b1,b2)),())) rfl (fun _=>rfl) (fun _ _=>rfl) (by kernel_rfl)
def y5o:SC PG:=fz (zut) Tryz.func328 [zwq N] (.int .i64) .str [] (fun v=>zlp N v) (by kernel_rfl)
def znh:SE PG:=E0 [] [] [y5o N]
def zrd:SL PG Tryz.f321.ntmps (Y0 Tryz.f321):=lz N (znh N) [] 122 ⟨[0,3,4],(.cons .str zpd),[],[]⟩ (2,⟨[0,3],(.cons .str (.int .i64)),[],[]⟩) [] (z76 N N) (z17 N) (fun f v=>f v.1.1 v.1.2.1 v.1.2.2) (fun r b0 b1 b2=>r ((b0,(b1,b2)),())) rfl (fun _=>rfl) (fun _ _=>rfl) (by kernel_rfl)
def zl8:SC PG:=fz (znh N) Tryz.func321 [zrd N] .str .bool [] (fun v=>z9f N v) (by kernel_rfl)
def zjo:SE PG:=E0 [] [] [zmz N,zl8 N,zjc N]
def ztn:SL PG Tryz.f329.ntmps (Y0 Tryz.f329):=pz (zjo N) [] 13 ⟨[1,32],(.cons (.ptr 2000000 0) .bool),[(2000000,[1], .boxV z1j)],[]⟩ (1,⟨[2], .bool,[],[]⟩) [(0,⟨[1],(.ptr 2000000 0),[(2000000,[1], .boxV z1j)],[]⟩)] (fun v=>K4 N v.1.2 v.2.1) (by kernel_rfl)
def zto:SL PG Tryz.f329.ntmps (Y0 Tryz.f329):=pz (zjo N) [] 7 ⟨[1],(.ptr 2000000 0),[(2000000,[1], .boxV z1j)],[]⟩ (1,⟨[2], .bool,[],[]⟩) [] (fun v=>Q3 N v.2.1) (by kernel_rfl)
def y1i:SC PG:=fz (zjo N) Tryz.func329 [ztn N,zto N] (.val z1j) .bool [] (fun v=>zir N v) (by kernel_rfl)
def y83:SC PG:=fz (E0 [] [] [y1i N]) Tryz.func326 [] (.val z1j) (.tup (.cons .str (.int .i64))) [] (fun v=>zoz N v) (by kernel_rfl)
def zqh:SE PG:=E0 [] [] [y1j N,y83 N]
def ztr:SL PG Tryz.f319.ntmps (Y0 Tryz.f319):=lz N (zqh N) [] 26 ⟨[0,2,4],(.cons .str Sh4_),[(2000000,[2], .boxC [.str [], .int .i64 0, .int .i64 0, .str []])],[]⟩ (1,⟨[2,3],Sh4_,[(2000000,[2], .boxV z1j)],[]⟩) [(2,⟨[2],(.ptr 2000000 0),[(2000000,[2], .boxC [.str [], .int .i64 0, .int .i64 0, .str []])],[]⟩)] (z8h N N) (z2h N) (fun f v=>f v.1.1 v.1.2.2) (fun r b0 b1=>r ((b0,((),b1)),((),()))) rfl (fun _=>rfl) (fun _ _=>rfl) (by kernel_rfl)
def zn0:SC PG:=fz (zqh N) Tryz.func319 [ztr N] .str (.tup (.cons (.val z1j) (.int .i64))) [] (fun v=>ze2 N v) (by kernel_rfl)
def y0a:SC PG:=fz (E0 [] [] [zn0 N]) Tryz.func307 [] (.val Y2) (.val zh5) [] (fun v=>zfo N v) (by kernel_rfl)
def zqd:SE PG:=E0 [] [] [y0a N]
def ztj:SL PG Tryz.f283.ntmps (Y0 Tryz.f283):=lz N (zqd N) [] 58 ⟨[0,2,3,4],(.cons (.list Y2) Sh8_),[(2000000,[2], .boxC [.int .i64 0, .int .i64 0]),(2000001,[3], .boxV zh5)],[]⟩ (2,⟨[2,3],Sh2_,[(2000000,[2], .boxC [.int .i64 0, .int .i64 0]),(2000001,[3], .boxV zh5)],[]⟩) [] (z8e N N) (z2d N) (fun f v=>f v.1.1 v.1.2.2.2 v.2.2.1) (fun r b0 b1 b2=>r ((b0,((),((),b1))),((),(b2,())))) rfl (fun _=>rfl) (fun _ _=>rfl) (by kernel_rfl)
def y1g:SC PG:=fz (zqd N) Tryz.func283 [ztj N] (.list Y2) (.val zh5) [] (fun v=>zio N v) (by kernel_rfl)
def y15:SC PG:=fz (E0 [] [] []) Tryz.func282 [] (.val zh5) (.val J0) [] (fun v=>znr N v) (by kernel_rfl)
def y5e:SC PG:=fz (E0 [] [] []) Tryz.func284 [] (.cons (.val J0) (.val J0)) (.val J0) [] (fun v=>zrv N v.1 v.2) (by kernel_rfl)
def zwx:SC PG:=fz (E0 [] [] [zn0 N]) Tryz.func308 [] .str .bool [] (fun v=>zab N v) (by kernel_rfl)
def y04:SC PG:=fz (E0 [] [] []) Tryz.func309 [] (.cons (.val z6j) (.int .i64)) (.val z6j) [] (fun v=>z50 N v.1 v.2) (by kernel_rfl)
def y12:SC PG:=fz (E0 [] [] []) Tryz.func310 [] (.cons (.val z6j) (.int .i64)) (.val z6j) [] (fun v=>zb6 N v.1 v.2) (by kernel_rfl)
def zjk:SE PG:=E0 [] [] [zmz N,zl8 N]
def zt7:SL PG Tryz.f311.ntmps (Y0 Tryz.f311):=pz (zjk N) [] 15 ⟨[0,1,5,6],(.cons .str (.cons .str (.cons .bool .bool))),[],[]⟩ (1,⟨[4], .bool,[],[]⟩) [] (fun v=>z3v N v.1.1 v.1.2.1 v.1.2.2.1 v.1.2.2.2) (by kernel_rfl)
def zt8:SL PG Tryz.f311.ntmps (Y0 Tryz.f311):=pz (zjk N) [zt7 N] 7 ⟨[0,1,5],(.cons .str (.cons .str .bool)),[],[]⟩ (1,⟨[4], .bool,[],[]⟩) [] (fun v=>z3w N v.1.1 v.1.2.1 v.1.2.2) (by kernel_rfl)
def y16:SC PG:=fz (zjk N) Tryz.func311 [zt8 N] (.cons .str .str) .bool [] (fun v=>zdz N v.1 v.2) (by kernel_rfl)
def y05:SC PG:=fz (E0 [] [] [zwx N,y04 N,y12 N,y16 N]) Tryz.func285 [] (.cons (.val J0) (.val Z8)) (.val J0) [] (fun v=>z6p N v.1 v.2) (by kernel_rfl)
def znw:SE PG:=E0 [] [] [y1g N,y15 N,y5e N,y05 N]
def zzr:SL PG Tryz.f238.ntmps (Y0 Tryz.f238):=lz N (znw N) [] 250 ⟨[1,2,3,5],Sh5_,[(2000000,[1], .boxV Z9),(2000001,[2], .boxC [.int .i64 0, .int .i64 0, .int .i64 0, .int .i64 0]),(2000002,[3], .boxV J0)],[]⟩ (4,⟨[2,3],Sh2_,[(2000000,[2], .boxC [.int .i64 0, .int .i64 0, .int .i64 0, .int .i64 0]),(2000001,[3], .boxV J0)],[]⟩) [] (zc2 N N) (z4t N) (fun f v=>f v.1.2.2.2 v.2.1 v.2.2.2.1) (fun r b0 b1 b2=>r (((),((),((),b0))),(b1,((),(b2,()))))) rfl (fun _=>rfl) (fun _ _=>rfl) (by kernel_rfl)
def zzs:SL PG Tryz.f238.ntmps (Y0 Tryz.f238):=lz N (znw N) [] 122 ⟨[1,2,3,4],Sh5_,[(2000000,[1], .boxV Z9),(2000001,[2], .boxC [.int .i64 0, .int .i64 0, .int .i64 0, .int .i64 0]),(2000002,[3], .boxV J0)],[]⟩ (2,⟨[1,2,3],y3c,[(2000000,[1], .boxV Z9),(2000001,[2], .boxC [.int .i64 0, .int .i64 0, .int .i64 0, .int .i64 0]),(2000002,[3], .boxV J0)],[]⟩) [] (zc3 N N) (z4u N) (fun f v=>f v.1.2.2.2 v.2.1 v.2.2.2.1) (fun r b0 b1 b2=>r (((),((),((),b0))),(b1,((),(b2,()))))) rfl (fun _=>rfl) (fun _ _=>rfl) (by kernel_rfl)
def zu3:SC PG:=fz (znw N) Tryz.func238 [zzs N,zzr N] (.val Z9) (.val J0) [] (fun v=>zk7 N v) (by kernel_rfl)
def zuk:SE PG:=E0 [] [] [zu3 N]
def zw8:SL PG Tryz.f312.ntmps (Y0 Tryz.f312):=lz N (zuk N) [] 58 ⟨[0,3,4],(.cons (.list Z9) Sh9_),[(2000000,[3], .sl J0)],[]⟩ (2,⟨[3],(.own 2000000),[(2000000,[3], .sl J0)],[]⟩) [] (za5 N N) (z3b N) (fun f v=>f v.1.1 v.1.2.2 v.2.1) (fun r b0 b1 b2=>r ((b0,((),b1)),(b2,()))) rfl (fun _=>rfl) (fun _ _=>rfl) (by kernel_rfl)
def y58:SC PG:=fz (zuk N) Tryz.func312 [zw8 N] (.list Z9) (.fresh J0) [] (fun v=>zlh N v) (by kernel_rfl)
def zmp:SC PG:=fz (E0 [(K6,[23,40,55,63])] [] [y58 N]) Tryz.func297 [] (.cons (.val Z9) (.cons (.int .i64) (.cons (.val ze6) (.list (.int .i64))))) (.val Z9) [] (fun v=>z8m N v.1 v.2.1 v.2.2.1 v.2.2.2) (by kernel_rfl)
def zn7:SE PG:=E0 [(K6,[2000000])] [] [zu3 N]
def zqw:SL PG Tryz.f312.ntmps (Y0 Tryz.f312):=lz N (zn7 N) [] 58 ⟨[0,3,4],(.cons (.list Z9) Sh9_),[(2000000,[3], .sl J0)],[]⟩ (2,⟨[3],(.own 2000000),[(2000000,[3], .sl J0)],[]⟩) [] (z6x N N) (z7t N) (fun f v=>f v.1.1 v.1.2.2 v.2.1) (fun r b0 b1 b2=>r ((b0,((),b1)),(b2,()))) rfl (fun _=>rfl) (fun _ _=>rfl) (by kernel_rfl)
def y00:SC PG:=fz (zn7 N) Tryz.func312 [zqw N] (.list Z9) (.list J0) [] (fun v=>zfi N v) (by kernel_rfl)
def zja:SC PG:=fz (E0 [(K6,[13])] [] [z9w N,ze9 N]) Tryz.func91 [] (.cons (.val (.list Y8)) (.int .i64)) (.tup (.cons (.val (.list Y8)) (.int .i64))) [] (fun v=>z8x N v.1 v.2) (by kernel_rfl)
def zyy:SE PG:=E0 [] [] [zcq N]
def zzl:SL PG Tryz.f298.ntmps (Y0 Tryz.f298):=lz N (zyy N) [] 26 ⟨[1,2,4,5],(.cons (.list (.int .i64)) Sh8_),[(2000000,[2], .box (.list Y8)),(2000001,[4], .boxC [.nils])],[]⟩ (2,⟨[2,4],Sh2_,[(2000000,[2], .box (.list Y8)),(2000001,[4], .boxC [.nils])],[]⟩) [] (zc0 N N) (z4o N) (fun f v=>f v.1.1 v.1.2.2.2 v.2.1) (fun r b0 b1 b2=>r ((b0,((),((),b1))),(b2,((),())))) rfl (fun _=>rfl) (fun _ _=>rfl) (by kernel_rfl)
def zu1:SC PG:=fz (zyy N) Tryz.func298 [zzl N] (.cons (.val (.list Y8)) (.list (.int .i64))) (.val (.list Y8)) [] (fun v=>zgx N v.1 v.2) (by kernel_rfl)
def zix:SE PG:=E0 [(19,[2000003]),(2000114,[113]),(3000084,[84])] [] [zu2 N,z9v N,zmp N,y00 N,zja N,zu1 N]
def zzi:SL PG Tryz.f291.ntmps (Y0 Tryz.f291):=pz (zix N) [] 30845 ⟨[3,5,6,8,9,11,12,72],(.cons (.ptr 2000000 0) (.cons (.ptr 2000001 0) (.cons (.ptr 2000002 0) (.cons (.ptr 2000003 0) (.cons (.own 2000004) (.cons (.ptr 2000005 0) (.cons (.int .i64) .bool))))))),[(2000000,[3], .boxV X9),(2000001,[5], .box (.cons (.list Z9) (.cons (.list .str) (.list Z8)))),(2000002,[6], .boxC [.nils, .int .i64 0, .int .i64 0, .int .i64 0, .int .i64 0]),(2000003,[8], .box (.list Y8)),(2000004,[9], .sl (.int .i64)),(2000005,[11], .boxV zjs)],[]⟩ (1,⟨[6,7],Sh4_,[(2000000,[6], .boxV X9)],[]⟩) [(0,⟨[3,6,8,9,12],yjk,[(2000000,[3], .boxV X9),(2000001,[6], .boxC [.nils, .int .i64 0, .int .i64 0, .int .i64 0, .int .i64 0]),(2000002,[8], .box (.list Y8)),(2000003,[9], .sl (.int .i64))],[]⟩)] (fun v=>z99 N v.1.2.2.2.2.2.2.1 v.1.2.2.2.2.2.2.2 v.2.1 v.2.2.1.1 v.2.2.1.2.1 v.2.2.1.2.2 v.2.2.2.2.1 v.2.2.2.2.2.1 v.2.2.2.2.2.2.1) (by kernel_rfl)
def zzj:SL PG Tryz.f291.ntmps (Y0 Tryz.f291):=pz (zix N) [] 15423 ⟨[3,6,8,9,12],yjk,[(2000000,[3], .boxV X9),(2000001,[6], .boxC [.nils, .int .i64 0, .int .i64 0, .int .i64 0, .int .i64 0]),(2000002,[8], .box (.list Y8)),(2000003,[9], .sl (.int .i64))],[]⟩ (1,⟨[6,7],Sh4_,[(2000000,[6], .boxV X9)],[]⟩) [] (fun v=>z9a N v.1.2.2.2.2 v.2.1 v.2.2.2.1 v.2.2.2.2.1) (by kernel_rfl)
def zzk:SL PG Tryz.f291.ntmps (Y0 Tryz.f291):=lz N (zix N) [zzi N,zzj N] 30 ⟨[1,3,5,6,8,9,10],(.cons (.list (.int .i64)) (.cons (.ptr 2000000 0) (.cons (.ptr 2000001 0) (.cons (.ptr 2000002 0) (.cons (.ptr 2000003 0) yew))))),[(2000000,[3], .boxV X9),(2000001,[5], .box (.cons (.list Z9) (.cons (.list .str) (.list Z8)))),(2000002,[6], .boxC [.nils, .int .i64 0, .int .i64 0, .int .i64 0, .int .i64 0]),(2000003,[8], .box (.list Y8)),(2000004,[9], .sl (.int .i64))],[61]⟩ (1,⟨[6,7],Sh4_,[(2000000,[6], .boxV X9)],[]⟩) [] (zbz N N) (z4n N) (fun f v=>f v.1.1 v.1.2.2.2.2.2.2 v.2.1 v.2.2.1.1 v.2.2.1.2.1 v.2.2.1.2.2 v.2.2.2.2.1 v.2.2.2.2.2.1) (fun r b0 b1 b2 b3 b4 b5 b6 b7=>r ((b0,((),((),((),((),((),b1)))))),(b2,((b3,(b4,b5)),((),(b6,(b7,()))))))) rfl (fun _=>rfl) (fun _ _=>rfl) (by kernel_rfl)
def zu0:SC PG:=fz (zix N) Tryz.func291 [zzk N] (.cons (.val X9) (.cons (.list (.int .i64)) (.val ze6))) (.tup (.cons (.val X9) (.int .i64))) [] (fun v=>zbj N v.1 v.2.1 v.2.2) (by kernel_rfl)
def zz0:SE PG:=E0 [] [] [z9v N,zu0 N]
def zzn:SL PG Tryz.f255.ntmps (Y0 Tryz.f255):=pz (zz0 N) [] 7 ⟨[1,3,5,6],(.cons (.list (.int .i64)) y3c),[(2000000,[3], .boxV X9),(2000001,[5], .boxV ze6),(2000002,[6], .boxC [.nils, .int .i64 0, .int .i64 0, .int .i64 0, .int .i64 0])],[]⟩ (1,⟨[6,7],Sh4_,[(2000000,[6], .boxV X9)],[]⟩) [] (fun v=>zkp N v.1.1 v.2.1 v.2.2.1) (by kernel_rfl)
def y7y:SC PG:=fz (zz0 N) Tryz.func255 [zzn N] (.cons (.val X9) (.cons (.list (.int .i64)) (.val ze6))) (.tup (.cons (.val X9) (.int .i64))) [] (fun v=>zgy N v.1 v.2.1 v.2.2) (by kernel_rfl)
def zq5:SE PG:=E0 [(K6,[2000002,2000003])] [] [zmq N]
def zsu:SL PG Tryz.f256.ntmps (Y0 Tryz.f256):=lz N (zq5 N) [] 122 ⟨[2,4,5,6,7,8],(.cons (.ptr 2000000 0) (.cons (.ptr 2000001 0) (.cons (.ptr 2000002 0) (.cons (.int .i64) (.cons (.own 2000005) (.int .i64)))))),[(2000000,[2], .boxV Z9),(2000001,[4], .boxC [.nils, .nils, .nils]),(2000002,[5], .box (.cons (.own 2000003) (.cons (.own 2000004) (.list Z8)))),(2000003,[5,0], .sl Z9),(2000004,[5,1], .sl .str),(2000005,[7], .sl (.int .i64))],[]⟩ (2,⟨[4,5],Sh2_,[(2000000,[4], .boxC [.nils, .nils, .nils]),(2000001,[5], .box (.cons (.own 2000002) (.cons (.own 2000003) (.list Z8)))),(2000002,[5,0], .sl Z9),(2000003,[5,1], .sl .str)],[]⟩) [] (z85 N N) (z1z N) (fun f v=>f v.1.2.2.2.1 v.1.2.2.2.2.2 v.2.1 v.2.2.2.1.2.2 v.2.2.2.2.1 v.2.2.2.2.2.1 v.2.2.2.2.2.2.1) (fun r b0 b1 b2 b3 b4 b5 b6=>r (((),((),((),(b0,((),b1))))),(b2,((),(((),((),b3)),(b4,(b5,(b6,())))))))) rfl (fun _=>rfl) (fun _ _=>rfl) (by kernel_rfl)
def y0z:SC PG:=fz (zq5 N) Tryz.func256 [zsu N] (.cons (.val Z9) (.val z33)) (.val zjt) [] (fun v=>zih N v.1 v.2) (by kernel_rfl)
def y17:SC PG:=fz (E0 [] [] [zmy N]) Tryz.func313 [] (.list .str) (.fresh Z2) [] (fun v=>zns N v) (by kernel_rfl)
def y18:SC PG:=fz (E0 [] [] []) Tryz.func322 [] (.val Z8) .bool [] (fun v=>zb7 N v) (by kernel_rfl)
def zbo:SC PG:=fz (E0 [] [] [z07 N]) Tryz.func213 [] (.val Z8) (.fresh Z2) [] (fun v=>z6g N v) (by kernel_rfl)
def z45:SC PG:=fz (E0 [] [] [zfd N,z07 N]) Tryz.func211 [] (.val Z8) (.fresh Z2) [] (fun v=>K8 N v) (by kernel_rfl)
def zl7:SC PG:=fz (E0 [] [] [z3r N,zjb N]) Tryz.func306 [] (.cons (.val Z2) (.val Z2)) .bool [] (fun v=>zc6 N v.1 v.2) (by kernel_rfl)
def zuq:SE PG:=E0 [] [] [zbo N,z45 N,zl7 N]
def zwi:SL PG Tryz.f323.ntmps (Y0 Tryz.f323):=lz N (zuq N) [] 58 ⟨[3,5,6],Sh6_,[(2000000,[3], .boxV Z2),(2000001,[5], .sl Z2)],[]⟩ (1,⟨[4], .bool,[],[]⟩) [(2,⟨[], .nil,[],[]⟩)] (zad N N) (z3k N) (fun f v=>f v.1.2.2 v.2.1 v.2.2.1) (fun r b0 b1 b2=>r (((),((),b0)),(b1,(b2,())))) rfl (fun _=>rfl) (fun _ _=>rfl) (by kernel_rfl)
def y5j:SC PG:=fz (zuq N) Tryz.func323 [zwi N] (.cons (.val Z8) (.val Z2)) .bool [] (fun v=>zln N v.1 v.2) (by kernel_rfl)
def zjl:SE PG:=E0 [] [] [z9x N,z3r N]
def ztd:SL PG Tryz.f275.ntmps (Y0 Tryz.f275):=lz N (zjl N) [] 1682 ⟨[0,1,5,6],(.cons (.list Z2) (.cons (.list Z2) zpd)),[],[]⟩ (1,⟨[4], .bool,[],[]⟩) [(4,⟨[0,1,5],(.cons (.list Z2) (.cons (.list Z2) (.int .i64))),[],[]⟩)] (z8a N N) (z29 N) (fun f v=>f v.1.1 v.1.2.1 v.1.2.2.1 v.1.2.2.2) (fun r b0 b1 b2 b3=>r ((b0,(b1,(b2,b3))),())) rfl (fun _=>rfl) (fun _ _=>rfl) (by kernel_rfl)
def zte:SL PG Tryz.f275.ntmps (Y0 Tryz.f275):=lz N (zjl N) [ztd N] 26 ⟨[0,1,5],(.cons (.list Z2) (.cons (.list Z2) (.int .i64))),[],[]⟩ (1,⟨[4], .bool,[],[]⟩) [(2,⟨[], .nil,[],[]⟩)] (z8b N N) (z2a N) (fun f v=>f v.1.1 v.1.2.1 v.1.2.2) (fun r b0 b1 b2=>r ((b0,(b1,b2)),())) rfl (fun _=>rfl) (fun _ _=>rfl) (by kernel_rfl)
def zgn:SC PG:=fz (zjl N) Tryz.func275 [zte N] (.cons (.list Z2) (.list Z2)) .bool [] (fun v=>z8p N v.1 v.2) (by kernel_rfl)
def y5i:SC PG:=fz (E0 [] [] [z45 N,zgn N,z9x N]) Tryz.func324 [] (.cons (.val Z8) (.val Z2)) (.fresh Z8) [] (fun v=>zhf N v.1 v.2) (by kernel_rfl)
def znf:SE PG:=E0 [] [] [z3r N]
def zrb:SL PG Tryz.f260.ntmps (Y0 Tryz.f260):=lz N (znf N) [] 58 ⟨[0,3,5,6,7],(.cons (.list Z2) yjj),[(2000000,[3], .boxV Z2),(2000001,[5], .sl Z2)],[]⟩ (2,⟨[3,5,6],(.cons (.ptr 2000000 0) (.cons (.own 2000001) .bool)),[(2000000,[3], .boxV Z2),(2000001,[5], .sl Z2)],[]⟩) [] (z75 N N) (z15 N) (fun f v=>f v.1.1 v.1.2.2.2.1 v.1.2.2.2.2 v.2.1 v.2.2.1) (fun r b0 b1 b2 b3 b4=>r ((b0,((),((),(b1,b2)))),(b3,(b4,())))) rfl (fun _=>rfl) (fun _ _=>rfl) (by kernel_rfl)
def y0b:SC PG:=fz (znf N) Tryz.func260 [zrb N] (.cons (.list Z2) (.val Z2)) (.fresh Z2) [] (fun v=>zfp N v.1 v.2) (by kernel_rfl)
def zfu:SE PG:=E0 [] [] [y0b N,zjb N]
def zwm:SL PG Tryz.f209.ntmps (Y0 Tryz.f209):=pz (zfu N) [] 7827 ⟨[3,4,6,7,53],(.cons (.own 2000000) (.cons (.own 2000001) (.cons (.int .i64) (.cons (.int .i64) .bool)))),[(2000000,[3], .sl Z2),(2000001,[4], .sl Z2)],[]⟩ (0,⟨[3,4,6],(.cons (.own 2000000) y67),[(2000000,[3], .sl Z2),(2000001,[4], .sl Z2)],[]⟩) [] (fun v=>z2w N v.1.2.2.1 v.1.2.2.2.1 v.1.2.2.2.2 v.2.1 v.2.2.1) (by kernel_rfl)
def zwn:SL PG Tryz.f209.ntmps (Y0 Tryz.f209):=lz N (zfu N) [zwm N] 122 ⟨[3,4,6],(.cons (.own 2000000) y67),[(2000000,[3], .sl Z2),(2000001,[4], .sl Z2)],[]⟩ (4,⟨[4],(.own 2000000),[(2000000,[4], .sl Z2)],[]⟩) [] (z7h N N) (z3m N) (fun f v=>f v.1.2.2 v.2.1 v.2.2.1) (fun r b0 b1 b2=>r (((),((),b0)),(b1,(b2,())))) rfl (fun _=>rfl) (fun _ _=>rfl) (by kernel_rfl)
def zwo:SL PG Tryz.f209.ntmps (Y0 Tryz.f209):=lz N (zfu N) [] 58 ⟨[0,3,4,5],(.cons (.list Z2) (.cons (.own 2000000) y67)),[(2000000,[3], .sl Z2),(2000001,[4], .sl Z2)],[]⟩ (2,⟨[3,4],(.cons (.own 2000000) (.own 2000001)),[(2000000,[3], .sl Z2),(2000001,[4], .sl Z2)],[]⟩) [] (z7i N N) (y6 N) (fun f v=>f v.1.1 v.1.2.2.2 v.2.1 v.2.2.1) (fun r b0 b1 b2 b3=>r ((b0,((),((),b1))),(b2,(b3,())))) rfl (fun _=>rfl) (fun _ _=>rfl) (by kernel_rfl)
def zcr:SC PG:=fz (zfu N) Tryz.func209 [zwo N,zwn N] (.list Z2) (.fresh Z2) [] (fun v=>z16 N v) (by kernel_rfl)
def zjn:SE PG:=E0 [] [] [zcr N,z3r N,z9x N]
def ztl:SL PG Tryz.f210.ntmps (Y0 Tryz.f210):=lz N (zjn N) [] 29850 ⟨[1,5,6,7,8],(.cons (.list Z2) (.cons (.own 2000000) (.cons (.int .i64) y67))),[(2000000,[5], .sl Z2),(2000001,[7], .sl Z2)],[]⟩ (4,⟨[1,6,7],(.cons (.list Z2) (.cons (.int .i64) (.own 2000000))),[(2000000,[7], .sl Z2)],[]⟩) [] (z60 N N) (z2f N) (fun f v=>f v.1.1 v.1.2.2.1 v.1.2.2.2.2 v.2.1 v.2.2.1) (fun r b0 b1 b2 b3 b4=>r ((b0,((),(b1,((),b2)))),(b3,(b4,())))) rfl (fun _=>rfl) (fun _ _=>rfl) (by kernel_rfl)
def ztm:SL PG Tryz.f210.ntmps (Y0 Tryz.f210):=lz N (zjn N) [ztl N] 58 ⟨[1,5,6],(.cons (.list Z2) Sh9_),[(2000000,[5], .sl Z2)],[]⟩ (2,⟨[5],(.own 2000000),[(2000000,[5], .sl Z2)],[]⟩) [] (z61 N N) (Q9 N) (fun f v=>f v.1.1 v.1.2.2 v.2.1) (fun r b0 b1 b2=>r ((b0,((),b1)),(b2,()))) rfl (fun _=>rfl) (fun _ _=>rfl) (by kernel_rfl)
def zgo:SC PG:=fz (zjn N) Tryz.func210 [ztm N] (.cons (.list Z2) (.list Z2)) (.fresh Z2) [] (fun v=>Q7 N v.1 v.2) (by kernel_rfl)
def znb:SE PG:=E0 [] [] [y18 N,zbo N,z45 N,y5j N,zgn N,y5i N,zgo N]
def zr5:SL PG Tryz.f314.ntmps (Y0 Tryz.f314):=lz N (znb N) [] 8150 ⟨[3,4,6,9,10],(.cons (.ptr 2000000 0) (.cons (.ptr 2000004 0) (.cons (.ptr 2000005 0) (.cons (.own 2000006) (.int .i64))))),[(2000000,[3], .box (.cons (.own 2000001) (.cons (.own 2000002) (.own 2000003)))),(2000001,[3,0], .sl Z8),(2000002,[3,1], .sl Z8),(2000003,[3,2], .sl Z2),(2000004,[4], .boxV Z8),(2000005,[6], .boxC [.nils, .nils, .nils]),(2000006,[9], .sl Z2)],[]⟩ (2,⟨[3,6],(.cons (.ptr 2000000 0) (.ptr 2000004 0)),[(2000000,[3], .box (.cons (.own 2000001) (.cons (.own 2000002) (.own 2000003)))),(2000001,[3,0], .sl Z8),(2000002,[3,1], .sl Z8),(2000003,[3,2], .sl Z2),(2000004,[6], .boxC [.nils, .nils, .nils])],[]⟩) [] (z4d N N) (z10 N) (fun f v=>f v.1.2.2.2.2 v.2.2.1 v.2.2.2.1 v.2.2.2.2.1 v.2.2.2.2.2.1 v.2.2.2.2.2.2.2.1) (fun r b0 b1 b2 b3 b4 b5=>r (((),((),((),((),b0)))),(((),((),())),(b1,(b2,(b3,(b4,((),(b5,()))))))))) rfl (fun _=>rfl) (fun _ _=>rfl) (by kernel_rfl)
def zz9:SM PG:=mz (znb N) Tryz.func314 [zr5 N] ⟨[0,1,2],(.cons (.agg (.cons (.own 5000000) (.cons (.own 5000001) (.own 5000002)))) (.cons (.val Z8) (.val Z2))),[(5000000,[0,0], .sl Z8),(5000001,[0,1], .sl Z8),(5000002,[0,2], .sl Z2)],[]⟩ ⟨[0],(.agg (.cons (.own 2000000) (.cons (.own 2000001) (.own 2000002)))),[(2000000,[0,0], .sl Z8),(2000001,[0,1], .sl Z8),(2000002,[0,2], .sl Z2)],[]⟩ [] (fun v=>z2s N v.1.2.1 v.1.2.2 v.2.1 v.2.2.1 v.2.2.2.1) (by kernel_rfl)
def zq7:SE PG:=E0 [(K6,[2000002,2000003,2000004])] [30] [y17 N] [zz9 N]
def zt9:SL PG Tryz.f293.ntmps (Y0 Tryz.f293):=lz N (zq7 N) [] 58 ⟨[0,6,7,8,9],(.cons (.list Z8) (.cons (.ptr 2000000 0) (.cons (.ptr 2000001 0) (.cons (.ptr 2000005 0) (.int .i64))))),[(2000000,[6], .boxC [.nils, .nils, .nils]),(2000001,[7], .box yne),(2000002,[7,0], .sl Z8),(2000003,[7,1], .sl Z8),(2000004,[7,2], .sl Z2),(2000005,[8], .boxV Z2)],[]⟩ (2,⟨[6,7],Sh2_,[(2000000,[6], .boxC [.nils, .nils, .nils]),(2000001,[7], .box yne),(2000002,[7,0], .sl Z8),(2000003,[7,1], .sl Z8),(2000004,[7,2], .sl Z2)],[]⟩) [] (z87 N N) (z26 N) (fun f v=>f v.1.1 v.1.2.2.2.2 v.2.2.2.1 v.2.2.2.2.1 v.2.2.2.2.2.1 v.2.2.2.2.2.2.1) (fun r b0 b1 b2 b3 b4 b5=>r ((b0,((),((),((),b1)))),((),(((),((),())),(b2,(b3,(b4,(b5,())))))))) rfl (fun _=>rfl) (fun _ _=>rfl) (by kernel_rfl)
def zmv:SC PG:=fz (zq7 N) Tryz.func293 [zt9 N] (.cons (.list Z8) (.cons (.list .str) (.int .i64))) (.val zo1) [] (fun v=>z6f N v.1 v.2.1 v.2.2) (by kernel_rfl)
def zuj:SE PG:=E0 [] [] [zmv N]
def zw7:SL PG Tryz.f257.ntmps (Y0 Tryz.f257):=lz N (zuj N) [] 122 ⟨[1,4,5,6],(.cons (.ptr 2000000 0) (.cons (.int .i64) zpd)),[(2000000,[1], .boxV Z9)],[]⟩ (2,⟨[4,5],zpd,[],[]⟩) [] (z7e N N) (z3a N) (fun f v=>f v.1.2.1 v.1.2.2.1 v.1.2.2.2 v.2.1) (fun r b0 b1 b2 b3=>r (((),(b0,(b1,b2))),(b3,()))) rfl (fun _=>rfl) (fun _ _=>rfl) (by kernel_rfl)
def y55:SC PG:=fz (zuj N) Tryz.func257 [zw7 N] (.val Z9) (.tup (.cons (.int .i64) (.int .i64))) [] (fun v=>zle N v) (by kernel_rfl)
def zww:SC PG:=fz (E0 [(K6,[24,37,50])] [] []) Tryz.func294 [] (.cons (.val Z9) (.int .i64)) (.val Z9) [] (fun v=>za4 N v.1 v.2) (by kernel_rfl)
def y59:SC PG:=fz (E0 [] [] []) Tryz.func295 [] (.cons (.val X9) (.cons (.val X9) (.cons (.int .i64) (.int .i64)))) (.val z7b) [] (fun v=>zaz N v.1 v.2.1 v.2.2.1 v.2.2.2) (by kernel_rfl)
def zz1:SE PG:=E0 [] [] [zmx N]
def zzt:SL PG Tryz.f124.ntmps (Y0 Tryz.f124):=lz N (zz1 N) [] 26 ⟨[0,1,5],(.cons (.list Y2) (.cons (.list Z8) (.int .i64))),[],[17]⟩ (2,⟨[0],(.list Y2),[],[]⟩) [] (zc5 N N) (z4v N) (fun f v=>f v.1.1 v.1.2.1 v.1.2.2) (fun r b0 b1 b2=>r ((b0,(b1,b2)),())) rfl (fun _=>rfl) (fun _ _=>rfl) (by kernel_rfl)
def zu4:SC PG:=fz (zz1 N) Tryz.func124 [zzt N] (.cons (.list Y2) (.list Z8)) (.list Y2) [] (fun v=>zk9 N v.1 v.2) (by kernel_rfl)
def zji:SE PG:=E0 [(17,[84]),(24,[2000005]),(27,[2000006,2000007]),(3000125,[125]),(3000164,[164])] [] [z9v N,zfc N,zmv N,zww N,zu0 N,y59 N,zu2 N,zmp N,zu1 N,zu4 N,zpj N]
def zsr:SL PG Tryz.f258.ntmps (Y0 Tryz.f258):=pz (zji N) [] 16383 ⟨[1,2,3,6,8,11,12],(.cons (.list (.int .i64)) (.cons (.int .i64) (.cons (.ptr 2000000 0) (.cons (.ptr 2000001 0) (.cons (.ptr 2000002 0) (.cons (.ptr 2000003 0) (.ptr 2000004 0))))))),[(2000000,[3], .boxV X9),(2000001,[6], .boxC [.nils, .int .i64 0, .int .i64 0, .int .i64 0, .int .i64 0, .int .i64 0, .int .i64 0]),(2000002,[8], .boxV Z9),(2000003,[11], .boxV zo1),(2000004,[12], .box (.cons (.list Z9) (.cons (.list .str) (.own 2000007)))),(2000007,[12,2], .sl Z8)],[87]⟩ (1,⟨[6],(.ptr 2000000 0),[(2000000,[6], .boxV z7b)],[]⟩) [] (fun v=>z1f N v.1.1 v.1.2.1 v.2.1 v.2.2.2.1 v.2.2.2.2.1 v.2.2.2.2.2.1.1 v.2.2.2.2.2.1.2.1 v.2.2.2.2.2.2.1) (by kernel_rfl)
def zss:SL PG Tryz.f258.ntmps (Y0 Tryz.f258):=pz (zji N) [zsr N] 63 ⟨[1,2,3,6,8],(.cons (.list (.int .i64)) (.cons (.int .i64) y3c)),[(2000000,[3], .boxV X9),(2000001,[6], .boxC [.nils, .int .i64 0, .int .i64 0, .int .i64 0, .int .i64 0, .int .i64 0, .int .i64 0]),(2000002,[8], .boxV Z9)],[]⟩ (1,⟨[6],(.ptr 2000000 0),[(2000000,[6], .boxV z7b)],[]⟩) [] (fun v=>zgp N v.1.1 v.1.2.1 v.2.1 v.2.2.2.1) (by kernel_rfl)
def y0y:SC PG:=fz (zji N) Tryz.func258 [zss N] (.cons (.val X9) (.cons (.list (.int .i64)) (.int .i64))) (.val z7b) [] (fun v=>zig N v.1 v.2.1 v.2.2) (by kernel_rfl)
def y82:SC PG:=fz (E0 [] [] []) Tryz.func303 [] (.cons (.val Z2) .str) .bool [] (fun v=>zoy N v.1 v.2) (by kernel_rfl)
def zgr:SE PG:=E0 [] [] [y82 N]
def zqy:SL PG Tryz.f273.ntmps (Y0 Tryz.f273):=lz N (zgr N) [] 14922 ⟨[0,1,5,6,7,8],(.cons (.list Y2) (.cons (.list Z2) (.cons (.own 2000000) (.cons (.int .i64) (.cons .bool (.int .i64)))))),[(2000000,[5], .sl Y2)],[]⟩ (4,⟨[0,1,5,6,7],(.cons (.list Y2) (.cons (.list Z2) (.cons (.own 2000000) (.cons (.int .i64) .bool)))),[(2000000,[5], .sl Y2)],[]⟩) [] (z6z N N) (z0w N) (fun f v=>f v.1.1 v.1.2.1 v.1.2.2.2.1 v.1.2.2.2.2.1 v.1.2.2.2.2.2 v.2.1) (fun r b0 b1 b2 b3 b4 b5=>r ((b0,(b1,((),(b2,(b3,b4))))),(b5,()))) rfl (fun _=>rfl) (fun _ _=>rfl) (by kernel_rfl)
def zqz:SL PG Tryz.f273.ntmps (Y0 Tryz.f273):=lz N (zgr N) [zqy N] 58 ⟨[0,1,5,6],ynd,[(2000000,[5], .sl Y2)],[]⟩ (2,⟨[5],(.own 2000000),[(2000000,[5], .sl Y2)],[]⟩) [] (z70 N N) (z0x N) (fun f v=>f v.1.1 v.1.2.1 v.1.2.2.2 v.2.1) (fun r b0 b1 b2 b3=>r ((b0,(b1,((),b2))),(b3,()))) rfl (fun _=>rfl) (fun _ _=>rfl) (by kernel_rfl)
def y02:SC PG:=fz (zgr N) Tryz.func273 [zqz N] (.cons (.list Y2) (.list Z2)) (.fresh Y2) [] (fun v=>zc1 N v.1 v.2) (by kernel_rfl)
def y1a:SC PG:=fz (E0 [] [] [z07 N,zap N]) Tryz.func318 [] (.cons (.val Z2) (.cons .str .str)) (.val Z2) [] (fun v=>zik N v.1 v.2.1 v.2.2) (by kernel_rfl)
def zly:SE PG:=E0 [(K6,[20,27,73])] [] [zfd N,zgo N,z07 N,z9x N,z3r N,y1a N,zcr N]
def zo7:SL PG Tryz.f304.ntmps (Y0 Tryz.f304):=lz N (zly N) [] 1018 ⟨[0,3,5,7,8],(.cons (.list Z2) yey),[(2000000,[3], .boxV Z8),(2000001,[5], .boxV Z2),(2000002,[7], .sl Z2)],[]⟩ (3,⟨[7],(.own 2000000),[(2000000,[7], .sl Z2)],[]⟩) [] (z0n N N) (z0f N) (fun f v=>f v.1.1 v.1.2.2.2.2 v.2.1 v.2.2.1 v.2.2.2.1) (fun r b0 b1 b2 b3 b4=>r ((b0,((),((),((),b1)))),(b2,(b3,(b4,()))))) rfl (fun _=>rfl) (fun _ _=>rfl) (by kernel_rfl)
def zwy:SC PG:=fz (zly N) Tryz.func304 [zo7 N] (.cons (.list Z2) (.val Z8)) (.list Z2) [] (fun v=>z2v N v.1 v.2) (by kernel_rfl)
def zq8:SE PG:=E0 [(5,[2000000])] [] [zcr N,zwy N]
def zta:SL PG Tryz.f274.ntmps (Y0 Tryz.f274):=lz N (zq8 N) [] 58 ⟨[1,5,6],(.cons (.list Z8) (.cons (.list Z2) (.int .i64))),[],[9]⟩ (2,⟨[5],(.list Z2),[],[]⟩) [] (z88 N N) (z27 N) (fun f v=>f v.1.1 v.1.2.1 v.1.2.2) (fun r b0 b1 b2=>r ((b0,(b1,b2)),())) rfl (fun _=>rfl) (fun _ _=>rfl) (by kernel_rfl)
def y19:SC PG:=fz (zq8 N) Tryz.func274 [zta N] (.cons (.val Z2) (.list Z8)) (.list Z2) [] (fun v=>zij N v.1 v.2) (by kernel_rfl)
def z4h(self:(List Z7)->Int->Z0->(List Z0)->Option (((List Z3)×Int))):Ctr:=zhn (.cons (.val (.list Y8)) (.cons (.int .i64) (.cons (.val Z2) (.list Z2)))) (.tup (.cons (.list Y2) (.int .i64))) [] (fun v=>self v.1 v.2.1 v.2.2.1 v.2.2.2)
def zkw(self:(List Z7)->Int->Z0->(List Z0)->Option (((List Z3)×Int)))(hs:z4i PG 234 fun xs=>(z4h self).run xs some):SE PG:=E0 [(K6,[35,97]),(16,[2000003]),(17,[2000002]),(21,[2000001])] [] [⟨234,z4h self,hs⟩,zfc N,y02 N,y19 N,zmr N,zgn N,zu4 N]
def zwc(self:(List Z7)->Int->Z0->(List Z0)->Option (((List Z3)×Int)))(hs:z4i PG 234 fun xs=>(z4h self).run xs some):SL PG Tryz.f234.ntmps (Y0 Tryz.f234):=lz N (zkw N self hs) [] 4090 ⟨[3,4,10,12,14,15,16],(.cons (.list Z2) (.cons (.ptr 2000000 0) (.cons (.ptr 2000001 0) (.cons (.list Z2) (.cons (.list Z2) yew))))),[(2000000,[4], .box (.list Y8)),(2000001,[10], .boxV Z9),(2000004,[15], .sl Y2)],[54,2000003]⟩ (1,⟨[8,9],(.cons (.list Y2) (.int .i64)),[],[]⟩) [(4,⟨[3,10,15],(.cons (.list Z2) y9z),[(2000000,[10], .boxV Z9),(2000001,[15], .sl Y2)],[]⟩)] (z7f N self N) (z3e N self) (fun f v=>f v.1.1 v.1.2.2.2.1 v.1.2.2.2.2.1 v.1.2.2.2.2.2.2 v.2.1 v.2.2.1 v.2.2.2.1) (fun r b0 b1 b2 b3 b4 b5 b6=>r ((b0,((),((),(b1,(b2,((),b3)))))),(b4,(b5,(b6,()))))) rfl (fun _=>rfl) (fun _ _=>rfl) (by kernel_rfl)
def zwd(self:(List Z7)->Int->Z0->(List Z0)->Option (((List Z3)×Int)))(hs:z4i PG 234 fun xs=>(z4h self).run xs some):SL PG Tryz.f234.ntmps (Y0 Tryz.f234):=lz N (zkw N self hs) [] 506 ⟨[3,4,6,10,12,13],(.cons (.list Z2) yjk),[(2000000,[4], .box (.list Y8)),(2000001,[6], .boxV Z2),(2000002,[10], .boxV Z9),(2000003,[12], .sl Z2)],[]⟩ (2,⟨[3,4,6,10,12],(.cons (.list Z2) (.cons (.ptr 2000000 0) (.cons (.ptr 2000001 0) (.cons (.ptr 2000002 0) (.own 2000003))))),[(2000000,[4], .box (.list Y8)),(2000001,[6], .boxV Z2),(2000002,[10], .boxV Z9),(2000003,[12], .sl Z2)],[]⟩) [] (za8 N self N) (z3f N self) (fun f v=>f v.1.1 v.1.2.2.2.2.2 v.2.1 v.2.2.1 v.2.2.2.1 v.2.2.2.2.1) (fun r b0 b1 b2 b3 b4 b5=>r ((b0,((),((),((),((),b1))))),(b2,(b3,(b4,(b5,())))))) rfl (fun _=>rfl) (fun _ _=>rfl) (by kernel_rfl)
def y5r(self:(List Z7)->Int->Z0->(List Z0)->Option (((List Z3)×Int)))(hs:z4i PG 234 fun xs=>(z4h self).run xs some):SC PG:=fz (zkw N self hs) Tryz.func234 [zwd N self hs,zwc N self hs] (.cons (.val (.list Y8)) (.cons (.int .i64) (.cons (.val Z2) (.list Z2)))) (.tup (.cons (.list Y2) (.int .i64))) [] (fun v=>z4b N self v.1 v.2.1 v.2.2.1 v.2.2.2) (by kernel_rfl)
def y5a:SC PG:=recz (f:=234) z4h (fun _ _ _ _=>none) (z4b N) (y2z fun _=>rfl) (fun self hs=>(y5r N self hs).h) N
def y5b:SC PG:=fz (E0 [(2000013,[12])] [] [y5a N]) Tryz.func178 [] (.cons (.val X9) (.val Z2)) (.tup (.cons (.list Y2) (.int .i64))) [] (fun v=>zli N v.1 v.2) (by kernel_rfl)
def zmu:SC PG:=fz (E0 [] [] []) Tryz.func315 [] (.val Z8) .bool [] (fun v=>z6e N v) (by kernel_rfl)
def zup:SE PG:=E0 [] [] [zmu N,z07 N]
def zwh:SL PG Tryz.f316.ntmps (Y0 Tryz.f316):=lz N (zup N) [] 122 ⟨[1,2,5,6],(.cons (.list Y2) Sh6_),[(2000000,[2], .boxV Z8),(2000001,[5], .sl Z8)],[]⟩ (2,⟨[2,5],y9z,[(2000000,[2], .boxV Z8),(2000001,[5], .sl Z8)],[]⟩) [] (zac N N) (z3j N) (fun f v=>f v.1.1 v.1.2.2.2 v.2.1 v.2.2.1) (fun r b0 b1 b2 b3=>r ((b0,((),((),b1))),(b2,(b3,())))) rfl (fun _=>rfl) (fun _ _=>rfl) (by kernel_rfl)
def y5h:SC PG:=fz (zup N) Tryz.func316 [zwh N] (.cons (.val Z8) (.list Y2)) (.fresh Z8) [] (fun v=>zlm N v.1 v.2) (by kernel_rfl)
def y5g:SC PG:=fz (E0 [] [] [zmu N,y5h N]) Tryz.func299 [] (.cons (.list Z8) (.list Y2)) (.tup (.cons (.fresh Z8) (.int .i64))) [] (fun v=>zll N v.1 v.2) (by kernel_rfl)
def zn6:SE PG:=E0 [(K6,[51])] [] [z07 N,y5b N,y5g N]
def zqv:SL PG Tryz.f259.ntmps (Y0 Tryz.f259):=lz N (zn6 N) [] 58 ⟨[2,3,4,6,7],yjk,[(2000000,[2], .boxV X9),(2000001,[3], .boxV Z9),(2000002,[4], .boxC [.nils, .nils, .nils, .nils, .nils]),(2000003,[6], .sl Y2)],[]⟩ (1,⟨[4,5],Sh4_,[(2000000,[4], .boxV Z9)],[]⟩) [(2,⟨[3,4,6],ynf,[(2000000,[3], .boxV Z9),(2000001,[4], .boxC [.nils, .nils, .nils, .nils, .nils]),(2000002,[6], .sl Y2)],[]⟩)] (z1m N N) (z0u N) (fun f v=>f v.1.2.2.2.2 v.2.1 v.2.2.1 v.2.2.2.2.1) (fun r b0 b1 b2 b3=>r (((),((),((),((),b0)))),(b1,(b2,((),(b3,())))))) rfl (fun _=>rfl) (fun _ _=>rfl) (by kernel_rfl)
def zzz:SC PG:=fz (zn6 N) Tryz.func259 [zqv N] (.cons (.val X9) (.val Z9)) (.tup (.cons (.val Z9) (.int .i64))) [] (fun v=>z6o N v.1 v.2) (by kernel_rfl)
def y56:SC PG:=fz (E0 [(2000105,[103])] [] [z9v N,zpj N,y7y N,y0z N,y55 N,y0y N,zzz N]) Tryz.func208 [] (.cons (.val X9) (.list (.int .i64))) (.tup (.cons (.val X9) (.int .i64))) [] (fun v=>zlf N v.1 v.2) (by kernel_rfl)
def zq2:SE PG:=E0 [(2000015,[13])] [] [y0x N,y56 N]
def zsp:SL PG Tryz.f143.ntmps (Y0 Tryz.f143):=lz N (zq2 N) [] 14 ⟨[1,2,4,5],(.cons .bool y3c),[(2000000,[2], .boxV X9),(2000001,[4], .boxC [.nils, .int .i64 0, .int .i64 0, .int .i64 0, .int .i64 0, .int .i64 0, .int .i64 0]),(2000002,[5], .boxV z8j)],[]⟩ (1,⟨[4],(.ptr 2000000 0),[(2000000,[4], .boxV z8j)],[]⟩) [] (z83 N N) (z59 N) (fun f v=>f v.1.1 v.2.1 v.2.2.2.1) (fun r b0 b1 b2=>r ((b0,((),((),()))),(b1,((),(b2,()))))) rfl (fun _=>rfl) (fun _ _=>rfl) (by kernel_rfl)
def y0w:SC PG:=fz (zq2 N) Tryz.func143 [zsp N] (.cons (.val X9) .bool) (.val z8j) [] (fun v=>znq N v.1 v.2) (by kernel_rfl)
def y57:SC PG:=fz (E0 [] [] [y0w N]) Tryz.func87 [] (.val X9) (.val z8j) [] (fun v=>zlg N v) (by kernel_rfl)
def y4z:SC PG:=fz (E0 [] [] []) Tryz.func88 [] (.cons (.val Y1) (.val X9)) (.val Y1) [] (fun v=>zrt N v.1 v.2) (by kernel_rfl)
def y1e:SC PG:=fz (E0 [] [] [z45 N]) Tryz.func212 [] (.val Z8) (.fresh Z2) [] (fun v=>zim N v) (by kernel_rfl)
def zur:SE PG:=E0 [(K6,[2000001,2000002])] [] [zcr N,z45 N,zgo N,y1e N,zbo N]
def zwj:SL PG Tryz.f144.ntmps (Y0 Tryz.f144):=lz N (zur N) [] 122 ⟨[0,4,5,6,7],(.cons (.list Z8) (.cons (.ptr 2000000 0) yji)),[(2000000,[4], .boxC [.nils, .nils]),(2000001,[5], .sl Z8),(2000002,[6], .sl Z2)],[]⟩ (2,⟨[4,5,6],(.cons (.ptr 2000000 0) (.cons (.own 2000001) (.own 2000002))),[(2000000,[4], .boxC [.nils, .nils]),(2000001,[5], .sl Z8),(2000002,[6], .sl Z2)],[]⟩) [] (zae N N) (z3l N) (fun f v=>f v.1.1 v.1.2.2.2.2 v.2.2.1 v.2.2.2.1) (fun r b0 b1 b2 b3=>r ((b0,((),((),((),b1)))),((),(b2,(b3,()))))) rfl (fun _=>rfl) (fun _ _=>rfl) (by kernel_rfl)
def y5k:SC PG:=fz (zur N) Tryz.func144 [zwj N] (.cons (.list Z8) (.list Z2)) (.val znj) [] (fun v=>zrw N v.1 v.2) (by kernel_rfl)
def zl5:SC PG:=fz (E0 [] [] [y5k N]) Tryz.func89 [] (.list Z8) (.list Z8) [] (fun v=>zc4 N v) (by kernel_rfl)
def zyx:SE PG:=E0 [(2000058,[57])] [] [y50 N,y80 N,y57 N,y4z N,zl5 N]
def zzh:SL PG Tryz.f46.ntmps (Y0 Tryz.f46):=lz N (zyx N) [] 58 ⟨[1,2,4,6,8],(.cons (.list Z8) Sh5_),[(2000000,[2], .boxV Y1),(2000001,[4], .boxC [.nils, .int .i64 0, .int .i64 0, .int .i64 0, .nils, .int .i64 0, .int .i64 0, .int .i64 0, .nils]),(2000002,[6], .boxV X9)],[]⟩ (1,⟨[4,5],Sh4_,[(2000000,[4], .boxV Y1)],[]⟩) [(2,⟨[1,2,4,6],(.cons (.list Z8) y3c),[(2000000,[2], .boxV Y1),(2000001,[4], .boxC [.nils, .int .i64 0, .int .i64 0, .int .i64 0, .nils, .int .i64 0, .int .i64 0, .int .i64 0, .nils]),(2000002,[6], .boxV X9)],[]⟩)] (z4x N N) (z4m N) (fun f v=>f v.1.1 v.1.2.2.2.2 v.2.1 v.2.2.2.1) (fun r b0 b1 b2 b3=>r ((b0,((),((),((),b1)))),(b2,((),(b3,()))))) rfl (fun _=>rfl) (fun _ _=>rfl) (by kernel_rfl)
def ztz:SC PG:=fz (zyx N) Tryz.func46 [zzh N] (.cons (.val Y1) (.list Z8)) (.tup (.cons (.val Y1) (.int .i64))) [] (fun v=>zk5 N v.1 v.2) (by kernel_rfl)
def znv:SE PG:=E0 [(K6,[2000001,2000002])] [] []
def zze:SL PG Tryz.f74.ntmps (Y0 Tryz.f74):=pz (znv) [] 13 ⟨[0,1,4,19],(.cons (.int .i64) (.cons (.int .i64) (.cons (.ptr 2000000 0) .bool))),[(2000000,[4], .boxC [.int .i64 0, .nils, .nils])],[]⟩ (1,⟨[4,5],Sh4_,[(2000000,[4], .boxC [.int .i64 0, .nils, .nils])],[]⟩) [(0,⟨[0,1,4],yjg,[(2000000,[4], .boxC [.int .i64 0, .nils, .nils])],[]⟩)] (fun v=>z97 N v.1.1 v.1.2.1 v.1.2.2.2) (by kernel_rfl)
def zzf:SL PG Tryz.f74.ntmps (Y0 Tryz.f74):=pz (znv) [] 7 ⟨[0,1,4],yjg,[(2000000,[4], .boxC [.int .i64 0, .nils, .nils])],[]⟩ (1,⟨[4,5],Sh4_,[(2000000,[4], .box (.cons (.int .i64) (.cons (.own 2000001) (.own 2000002)))),(2000001,[4,1], .sl (.list (.int .u8))),(2000002,[4,2], .sl J4)],[]⟩) [] (fun v=>z98 N v.1.1 v.1.2.1) (by kernel_rfl)
def ztx:SC PG:=fz (znv) Tryz.func74 [zze N,zzf N] (.cons (.int .i64) (.int .i64)) (.tup (.cons (.val Q0) (.int .i64))) [] (fun v=>zbi N v.1 v.2) (by kernel_rfl)
def ziw:SE PG:=E0 [(K6,[2000001,2000002])] [] []
def zzc:SL PG Tryz.f77.ntmps (Y0 Tryz.f77):=lz N (ziw) [] 122 ⟨[0,1,4,6,7],(.cons (.int .i64) (.cons (.int .i64) Sh8_)),[(2000000,[4], .boxC [.nils, .nils, .int .i64 0]),(2000001,[6], .box yjh),(2000002,[6,0], .sl .bool),(2000003,[6,1], .sl (.int .i64))],[]⟩ (2,⟨[4,6],Sh2_,[(2000000,[4], .boxC [.nils, .nils, .int .i64 0]),(2000001,[6], .box yjh),(2000002,[6,0], .sl .bool),(2000003,[6,1], .sl (.int .i64))],[]⟩) [] (zbx N N) (z4l N) (fun f v=>f v.1.1 v.1.2.1 v.1.2.2.2.2 v.2.2.1.2.2 v.2.2.2.1 v.2.2.2.2.1) (fun r b0 b1 b2 b3 b4 b5=>r ((b0,(b1,((),((),b2)))),((),(((),((),b3)),(b4,(b5,())))))) rfl (fun _=>rfl) (fun _ _=>rfl) (by kernel_rfl)
def zza:SL PG Tryz.f77.ntmps (Y0 Tryz.f77):=pz (ziw) [] 13 ⟨[0,1,4,22],(.cons (.int .i64) (.cons (.int .i64) (.cons (.ptr 2000000 0) .bool))),[(2000000,[4], .boxC [.nils, .nils, .int .i64 0])],[]⟩ (1,⟨[4,5],Sh4_,[(2000000,[4], .boxC [.nils, .nils, .int .i64 0])],[]⟩) [(0,⟨[0,1,4],yjg,[(2000000,[4], .boxC [.nils, .nils, .int .i64 0])],[]⟩)] (fun v=>z95 N v.1.1 v.1.2.1 v.1.2.2.2) (by kernel_rfl)
def zzb:SL PG Tryz.f77.ntmps (Y0 Tryz.f77):=pz (ziw) [zzc N] 7 ⟨[0,1,4],yjg,[(2000000,[4], .boxC [.nils, .nils, .int .i64 0])],[]⟩ (1,⟨[4,5],Sh4_,[(2000000,[4], .box yji),(2000001,[4,0], .sl .bool),(2000002,[4,1], .sl (.int .i64))],[]⟩) [] (fun v=>z96 N v.1.1 v.1.2.1) (by kernel_rfl)
def y7v:SC PG:=fz (ziw) Tryz.func77 [zza N,zzb N] (.cons (.int .i64) (.int .i64)) (.tup (.cons (.val Q1) (.int .i64))) [] (fun v=>zow N v.1 v.2) (by kernel_rfl)
def zqc:SE PG:=E0 [] [] []
def zti:SL PG Tryz.f305.ntmps (Y0 Tryz.f305):=lz N (zqc) [] 26 ⟨[0,3],(.cons (.list Y2) (.int .i64)),[],[]⟩ (1,⟨[2], .bool,[],[]⟩) [(2,⟨[], .nil,[],[]⟩)] (z8d N N) (z5b N) (fun f v=>f v.1.1 v.1.2) (fun r b0 b1=>r ((b0,b1),())) rfl (fun _=>rfl) (fun _ _=>rfl) (by kernel_rfl)
def y1f:SC PG:=fz (zqc) Tryz.func305 [zti N] (.list Y2) .bool [] (fun v=>zin N v) (by kernel_rfl)
def zye:SC PG:=fz (E0 [] [] []) Tryz.func278 [] (.cons (.int .i64) (.cons (.int .i64) (.int .i64))) .bool [] (fun v=>zkg N v.1 v.2.1 v.2.2) (by kernel_rfl)
def zuo:SE PG:=E0 [] [] [y1f N,zko N,zye N]
def zwg:SL PG Tryz.f276.ntmps (Y0 Tryz.f276):=lz N (zuo N) [] 58 ⟨[2,3,5],Sh8_,[(2000000,[2], .boxV Z9),(2000001,[3], .boxV Z2)],[]⟩ (1,⟨[4], .bool,[],[]⟩) [(2,⟨[], .nil,[],[]⟩)] (zaa N N) (z3i N) (fun f v=>f v.1.2.2 v.2.1 v.2.2.1) (fun r b0 b1 b2=>r (((),((),b0)),(b1,(b2,())))) rfl (fun _=>rfl) (fun _ _=>rfl) (by kernel_rfl)
def y5d:SC PG:=fz (zuo N) Tryz.func276 [zwg N] (.cons (.val Z9) (.val Z2)) .bool [] (fun v=>zlj N v.1 v.2) (by kernel_rfl)
def zbt:SE PG:=E0 [] [] []
def zr0:SL PG Tryz.f277.ntmps (Y0 Tryz.f277):=pz (zbt) [] 841 ⟨[0,3,5,48],(.cons (.list .str) (.cons (.ptr 2000000 0) (.cons (.int .i64) .bool))),[(2000000,[3], .boxV Z2)],[]⟩ (1,⟨[4], .bool,[],[]⟩) [(0,⟨[0,3,5],(.cons (.list .str) Sh4_),[(2000000,[3], .boxV Z2)],[]⟩)] (fun v=>z09 N v.1.1 v.1.2.2.1 v.1.2.2.2 v.2.1) (by kernel_rfl)
def zr1:SL PG Tryz.f277.ntmps (Y0 Tryz.f277):=pz (zbt) [] 211 ⟨[0,3,5],(.cons (.list .str) Sh4_),[(2000000,[3], .boxV Z2)],[]⟩ (0,⟨[0,3,5],(.cons (.list .str) Sh4_),[(2000000,[3], .boxV Z2)],[]⟩) [] (fun v=>z0a N v.1.1 v.1.2.2 v.2.1) (by kernel_rfl)
def zr2:SL PG Tryz.f277.ntmps (Y0 Tryz.f277):=lz N (zbt) [zr0 N,zr1 N] 26 ⟨[0,3,5],(.cons (.list .str) Sh4_),[(2000000,[3], .boxV Z2)],[]⟩ (1,⟨[4], .bool,[],[]⟩) [(2,⟨[], .nil,[],[]⟩)] (z1n N N) (z0y N) (fun f v=>f v.1.1 v.1.2.2 v.2.1) (fun r b0 b1 b2=>r ((b0,((),b1)),(b2,()))) rfl (fun _=>rfl) (fun _ _=>rfl) (by kernel_rfl)
def y03:SC PG:=fz (zbt) Tryz.func277 [zr2 N] (.cons (.list .str) (.val Z2)) .bool [] (fun v=>zfk N v.1 v.2) (by kernel_rfl)
def y13:SC PG:=fz (E0 [] [] []) Tryz.func279 [] (.val z6j) .bool [] (fun v=>zdy N v) (by kernel_rfl)
def zna:SE PG:=E0 [] [] [zbo N,z45 N,zl7 N]
def zr4:SL PG Tryz.f280.ntmps (Y0 Tryz.f280):=lz N (zna N) [] 58 ⟨[3,5,6],Sh6_,[(2000000,[3], .boxV Z2),(2000001,[5], .sl Z2)],[]⟩ (1,⟨[4], .bool,[],[]⟩) [(2,⟨[], .nil,[],[]⟩)] (z72 N N) (z0z N) (fun f v=>f v.1.2.2 v.2.1 v.2.2.1) (fun r b0 b1 b2=>r (((),((),b0)),(b1,(b2,())))) rfl (fun _=>rfl) (fun _ _=>rfl) (by kernel_rfl)
def y06:SC PG:=fz (zna N) Tryz.func280 [zr4 N] (.cons (.val Z8) (.val Z2)) .bool [] (fun v=>zfl N v.1 v.2) (by kernel_rfl)
def zdl:SE PG:=E0 [] [] [y5d N,y03 N,zye N,y13 N,zgm N,y06 N]
def zsy:SL PG Tryz.f236.ntmps (Y0 Tryz.f236):=lz N (zdl N) [] 250 ⟨[2,3,6],Sh8_,[(2000000,[2], .boxV Z9),(2000001,[3], .boxV Z2)],[]⟩ (1,⟨[4], .bool,[],[]⟩) [(4,⟨[], .nil,[],[]⟩)] (z86 N N) (z24 N) (fun f v=>f v.1.2.2 v.2.1 v.2.2.1) (fun r b0 b1 b2=>r (((),((),b0)),(b1,(b2,())))) rfl (fun _=>rfl) (fun _ _=>rfl) (by kernel_rfl)
def zsz:SL PG Tryz.f236.ntmps (Y0 Tryz.f236):=lz N (zdl N) [] 122 ⟨[2,3,5],Sh8_,[(2000000,[2], .boxV Z9),(2000001,[3], .boxV Z2)],[]⟩ (1,⟨[4], .bool,[],[]⟩) [(2,⟨[2,3],Sh2_,[(2000000,[2], .boxV Z9),(2000001,[3], .boxV Z2)],[]⟩)] (z5s N N) (z25 N) (fun f v=>f v.1.2.2 v.2.1 v.2.2.1) (fun r b0 b1 b2=>r (((),((),b0)),(b1,(b2,())))) rfl (fun _=>rfl) (fun _ _=>rfl) (by kernel_rfl)
def zsx:SL PG Tryz.f236.ntmps (Y0 Tryz.f236):=pz (zdl N) [zsz N,zsy N] 15 ⟨[2,3],Sh2_,[(2000000,[2], .boxV Z9),(2000001,[3], .boxV Z2)],[]⟩ (1,⟨[4], .bool,[],[]⟩) [] (fun v=>zbp N v.2.1 v.2.2.1) (by kernel_rfl)
def y14:SC PG:=fz (zdl N) Tryz.func236 [zsx N] (.cons (.val Z9) (.val Z2)) .bool [] (fun v=>zii N v.1 v.2) (by kernel_rfl)
def zn9:SE PG:=E0 [] [] []
def zr3:SL PG Tryz.f239.ntmps (Y0 Tryz.f239):=lz N (zn9) [] 58 ⟨[0,5,6],(.cons (.int .i64) Sh9_),[(2000000,[5], .sl (.int .u8))],[]⟩ (2,⟨[5],(.own 2000000),[(2000000,[5], .sl (.int .u8))],[]⟩) [] (z4c N N) (y8 N) (fun f v=>f v.1.1 v.1.2.2 v.2.1) (fun r b0 b1 b2=>r ((b0,((),b1)),(b2,()))) rfl (fun _=>rfl) (fun _ _=>rfl) (by kernel_rfl)
def zl4:SC PG:=fz (zn9) Tryz.func239 [zr3 N] (.cons (.int .i64) (.int .i64)) (.fresh (.int .u8)) [] (fun v=>V5 N v.1 v.2) (by kernel_rfl)
def y5c:SC PG:=fz (E0 [] [] [zl4 N]) Tryz.func240 [] .str (.fresh (.int .u8)) [] (fun v=>z8y N v) (by kernel_rfl)
def znc:SE PG:=E0 [] [] []
def zr6:SL PG Tryz.f287.ntmps (Y0 Tryz.f287):=lz N (znc) [] 58 ⟨[0,5,6],(.cons (.int .i64) Sh9_),[(2000000,[5], .sl (.int .u8))],[]⟩ (2,⟨[5],(.own 2000000),[(2000000,[5], .sl (.int .u8))],[]⟩) [] (zaq N N) (z7v N) (fun f v=>f v.1.1 v.1.2.2 v.2.1) (fun r b0 b1 b2=>r ((b0,((),b1)),(b2,()))) rfl (fun _=>rfl) (fun _ _=>rfl) (by kernel_rfl)
def zl6:SC PG:=fz (znc) Tryz.func287 [zr6 N] (.cons (.int .i64) (.int .i64)) (.fresh (.int .u8)) [] (fun v=>z52 N v.1 v.2) (by kernel_rfl)
def zq9:SE PG:=E0 [] [] [zl6 N]
def ztb:SL PG Tryz.f286.ntmps (Y0 Tryz.f286):=lz N (zq9 N) [] 58 ⟨[0,3,4],(.cons (.list .str) Sh9_),[(2000000,[3], .sl (.int .u8))],[]⟩ (2,⟨[3],(.own 2000000),[(2000000,[3], .sl (.int .u8))],[]⟩) [] (z5z N N) (g8 N) (fun f v=>f v.1.1 v.1.2.2 v.2.1) (fun r b0 b1 b2=>r ((b0,((),b1)),(b2,()))) rfl (fun _=>rfl) (fun _ _=>rfl) (by kernel_rfl)
def y1c:SC PG:=fz (zq9 N) Tryz.func286 [ztb N] (.list .str) (.fresh (.int .u8)) [] (fun v=>Q6 N v) (by kernel_rfl)
def zqb:SE PG:=E0 [] [] [zgm N,y1c N,zl6 N]
def ztf:SL PG Tryz.f241.ntmps (Y0 Tryz.f241):=pz (zqb N) [] 31 ⟨[1,3],y9z,[(2000000,[1], .boxV Z8),(2000001,[3], .sl (.int .u8))],[]⟩ (1,⟨[2],(.own 2000000),[(2000000,[2], .sl (.int .u8))],[]⟩) [] (fun v=>J8 N v.2.1 v.2.2.1) (by kernel_rfl)
def zmw:SC PG:=fz (zqb N) Tryz.func241 [ztf N] (.val Z8) (.fresh (.int .u8)) [] (fun v=>z8q N v) (by kernel_rfl)
def z58:SE PG:=E0 [] [] [y14 N,zl4 N,y5c N,zmw N]
def zt1:SL PG Tryz.f183.ntmps (Y0 Tryz.f183):=lz N (z58 N) [] 130342 ⟨[1,5,8,9,10],(.cons (.ptr 2000000 0) (.cons (.own 2000001) (.cons (.int .i64) (.cons (.ptr 2000002 0) (.int .i64))))),[(2000000,[1], .boxV Z9),(2000001,[5], .sl (.int .u8)),(2000002,[9], .boxV ydb)],[]⟩ (10,⟨[1,5,8],Sh6_,[(2000000,[1], .boxV Z9),(2000001,[5], .sl (.int .u8))],[]⟩) [] (z01 N N) (Q8 N) (fun f v=>f v.1.2.2.1 v.1.2.2.2.2 v.2.1 v.2.2.1 v.2.2.2.1) (fun r b0 b1 b2 b3 b4=>r (((),((),(b0,((),b1)))),(b2,(b3,(b4,()))))) rfl (fun _=>rfl) (fun _ _=>rfl) (by kernel_rfl)
def zt2:SL PG Tryz.f183.ntmps (Y0 Tryz.f183):=lz N (z58 N) [] 4090 ⟨[1,5,11],Sh6_,[(2000000,[1], .boxV Z9),(2000001,[5], .sl (.int .u8))],[]⟩ (12,⟨[5],(.own 2000000),[(2000000,[5], .sl (.int .u8))],[]⟩) [] (z5u N N) (k9 N) (fun f v=>f v.1.2.2 v.2.1 v.2.2.1) (fun r b0 b1 b2=>r (((),((),b0)),(b1,(b2,())))) rfl (fun _=>rfl) (fun _ _=>rfl) (by kernel_rfl)
def zt3:SL PG Tryz.f183.ntmps (Y0 Tryz.f183):=lz N (z58 N) [zt1 N] 1018 ⟨[1,5,8],Sh6_,[(2000000,[1], .boxV Z9),(2000001,[5], .sl (.int .u8))],[]⟩ (8,⟨[1,5],y9z,[(2000000,[1], .boxV Z9),(2000001,[5], .sl (.int .u8))],[]⟩) [] (z5v N N) (j0 N) (fun f v=>f v.1.2.2 v.2.1 v.2.2.1) (fun r b0 b1 b2=>r (((),((),b0)),(b1,(b2,())))) rfl (fun _=>rfl) (fun _ _=>rfl) (by kernel_rfl)
def zt4:SL PG Tryz.f183.ntmps (Y0 Tryz.f183):=lz N (z58 N) [] 938 ⟨[1,3,4],Sh6_,[(2000000,[1], .boxV Z9),(2000001,[3], .sl (.int .u8))],[]⟩ (2,⟨[3],(.own 2000000),[(2000000,[3], .sl (.int .u8))],[]⟩) [] (z5w N N) (j7 N) (fun f v=>f v.1.2.2 v.2.1 v.2.2.1) (fun r b0 b1 b2=>r (((),((),b0)),(b1,(b2,())))) rfl (fun _=>rfl) (fun _ _=>rfl) (by kernel_rfl)
def zt5:SL PG Tryz.f183.ntmps (Y0 Tryz.f183):=lz N (z58 N) [] 506 ⟨[1,5,7],Sh6_,[(2000000,[1], .boxV Z9),(2000001,[5], .sl (.int .u8))],[]⟩ (6,⟨[1,5],y9z,[(2000000,[1], .boxV Z9),(2000001,[5], .sl (.int .u8))],[]⟩) [] (z5x N N) (j8 N) (fun f v=>f v.1.2.2 v.2.1 v.2.2.1) (fun r b0 b1 b2=>r (((),((),b0)),(b1,(b2,())))) rfl (fun _=>rfl) (fun _ _=>rfl) (by kernel_rfl)
def zt6:SL PG Tryz.f183.ntmps (Y0 Tryz.f183):=lz N (z58 N) [] 250 ⟨[1,5,6],Sh6_,[(2000000,[1], .boxV Z9),(2000001,[5], .sl (.int .u8))],[]⟩ (4,⟨[1,5],y9z,[(2000000,[1], .boxV Z9),(2000001,[5], .sl (.int .u8))],[]⟩) [] (z5y N N) (j9 N) (fun f v=>f v.1.2.2 v.2.1 v.2.2.1) (fun r b0 b1 b2=>r (((),((),b0)),(b1,(b2,())))) rfl (fun _=>rfl) (fun _ _=>rfl) (by kernel_rfl)
def zmt:SC PG:=fz (z58 N) Tryz.func183 [zt4 N,zt6 N,zt5 N,zt3 N,zt2 N] (.val Z9) (.fresh (.int .u8)) [] (fun v=>z1i N v) (by kernel_rfl)
def zq6:SE PG:=E0 [] [] []
def zt0:SL PG Tryz.f31.ntmps (Y0 Tryz.f31):=lz N (zq6) [] 58 ⟨[0,3,4],(.cons (.list (.int .u8)) (.cons (.int .u64) (.int .i64))),[],[]⟩ (2,⟨[3],(.int .u64),[],[]⟩) [] (z5t N N) (G5 N) (fun f v=>f v.1.1 v.1.2.1 v.1.2.2) (fun r b0 b1 b2=>r ((b0,(b1,b2)),())) rfl (fun _=>rfl) (fun _ _=>rfl) (by kernel_rfl)
def zms:SC PG:=fz (zq6) Tryz.func31 [zt0 N] (.list (.int .u8)) (.int .u64) [] (fun v=>v7 N v) (by kernel_rfl)
def zj7:SC PG:=fz (E0 [] [] []) Tryz.func42 [] (.cons (.val Q0) (.int .i64)) .bool [] (fun v=>zcx N v.1 v.2) (by kernel_rfl)
def zyw:SE PG:=E0 [] [] [zj7 N]
def zzg:SL PG Tryz.f20.ntmps (Y0 Tryz.f20):=lz N (zyw N) [] 122 ⟨[1,2,6,7],(.cons (.int .i64) (.cons (.ptr 2000000 0) (.cons (.list (.int .u8)) (.int .i64)))),[(2000000,[2], .boxV Q0)],[]⟩ (2,⟨[6],(.list (.int .u8)),[],[]⟩) [] (z6n N N) (z7p N) (fun f v=>f v.1.1 v.1.2.2.1 v.1.2.2.2 v.2.1) (fun r b0 b1 b2 b3=>r ((b0,((),(b1,b2))),(b3,()))) rfl (fun _=>rfl) (fun _ _=>rfl) (by kernel_rfl)
def zkm:SC PG:=fz (zyw N) Tryz.func20 [zzg N] (.cons (.val Q0) (.int .i64)) (.tup (.cons (.list (.int .u8)) (.int .i64))) [] (fun v=>zgw N v.1 v.2) (by kernel_rfl)
def y4t:SC PG:=fz (E0 [] [] [zkm N,zmt N]) Tryz.func184 [] (.cons (.val X3) (.cons (.int .i64) (.val Z9))) .bool [] (fun v=>zl9 N v.1 v.2.1 v.2.2) (by kernel_rfl)
def zq0:SE PG:=E0 [] [] []
def zsn:SL PG Tryz.f288.ntmps (Y0 Tryz.f288):=lz N (zq0) [] 58 ⟨[1,3,4],(.cons (.ptr 2000000 0) zpd),[(2000000,[1], .boxV Q1)],[]⟩ (2,⟨[3],(.int .i64),[],[]⟩) [] (z81 N N) (z1v N) (fun f v=>f v.1.2.1 v.1.2.2 v.2.1) (fun r b0 b1 b2=>r (((),(b0,b1)),(b2,()))) rfl (fun _=>rfl) (fun _ _=>rfl) (by kernel_rfl)
def y0s:SC PG:=fz (zq0) Tryz.func288 [zsn N] (.val Q1) (.int .i64) [] (fun v=>zno N v) (by kernel_rfl)
def y4x:SC PG:=fz (E0 [] [] [y0s N]) Tryz.func242 [] (.val Q1) (.int .i64) [] (fun v=>zrs N v) (by kernel_rfl)
def zpz:SE PG:=E0 [(K6,[2000001])] [] []
def zsm:SL PG Tryz.f243.ntmps (Y0 Tryz.f243):=lz N (zpz) [] 58 ⟨[1,2,3,4],yey,[(2000000,[1], .boxV Q1),(2000001,[2], .boxC [.nils, .nils, .int .i64 0, .int .i64 0, .int .i64 0]),(2000002,[3], .sl .bool)],[]⟩ (1,⟨[2],(.ptr 2000000 0),[(2000000,[2], .box (.cons (.own 2000001) (.cons (.list (.int .i64)) (.cons (.int .i64) zpd)))),(2000001,[2,0], .sl .bool)],[]⟩) [(2,⟨[1,2],Sh2_,[(2000000,[1], .boxV Q1),(2000001,[2], .boxC [.nils, .nils, .int .i64 0, .int .i64 0, .int .i64 0])],[]⟩)] (z5p N N) (z1u N) (fun f v=>f v.1.2.2.2 v.2.1 v.2.2.2.1) (fun r b0 b1 b2=>r (((),((),((),b0))),(b1,((),(b2,()))))) rfl (fun _=>rfl) (fun _ _=>rfl) (by kernel_rfl)
def y0r:SC PG:=fz (zpz) Tryz.func243 [zsm N] (.val Q1) (.val zjr) [] (fun v=>znn N v) (by kernel_rfl)
def zph:SC PG:=fz (E0 [] [] [y4x N,y0r N]) Tryz.func189 [] (.val Q1) (.val zjr) [] (fun v=>ref25_Take N v) (by kernel_rfl)
def zao:SC PG:=fz (E0 [] [] []) Tryz.func75 [] (.val Q0) (.agg (.cons (.int .i64) (.cons (.fresh (.list (.int .u8))) (.fresh J4)))) [] (fun v=>z1c N v) (by kernel_rfl)
def zkl:SC PG:=fz (E0 [(K6,[22,31]),(3000028,[28])] [] [zj7 N,zao N]) Tryz.func130 [] (.cons (.val Q0) (.cons (.int .i64) (.list (.int .u8)))) (.tup (.cons (.val Q0) (.int .i64))) [] (fun v=>ref23_Put N v.1 v.2.1 v.2.2) (by kernel_rfl)
def y0p:SC PG:=fz (E0 [] [] [zph N,zkl N]) Tryz.func129 [] (.cons (.val X3) (.list (.int .u8))) (.tup (.cons (.val X3) (.int .i64))) [] (fun v=>z8k N v.1 v.2) (by kernel_rfl)
def zvu:SM PG:=mz (E0 [(4,[5000002])] [] [zph N,zkl N]) Tryz.func129 [] ⟨[0,1],(.cons yq5 (.own 5000002)),[(5000000,[0,9], .sl (.int .i64)),(5000001,[0,10], .sl (.int .u64)),(5000002,[1], .sl (.int .u8))],[]⟩ ⟨[0],(.tup (.cons yq5 (.int .i64))),[(5000000,[5000000], .sl (.int .i64)),(5000001,[5000001], .sl (.int .u64))],[]⟩ [] (fun v=>zcs N v.1.1.1 v.1.1.2.1 v.1.1.2.2.1 v.1.1.2.2.2.1 v.1.1.2.2.2.2.1 v.1.1.2.2.2.2.2.1 v.1.1.2.2.2.2.2.2.1 v.1.1.2.2.2.2.2.2.2.1 v.1.1.2.2.2.2.2.2.2.2.1 v.1.1.2.2.2.2.2.2.2.2.2.2.2 v.2.1 v.2.2.1 v.2.2.2.1) (by kernel_rfl)
def z7k:SE PG:=E0 [(K6,[2000001,2000002,2000004])] [93] [zmt N,zms N,y4t N] [zvu N]
def zsh:SL PG Tryz.f126.ntmps (Y0 Tryz.f126):=pz (z7k N) [] 31311 ⟨[2,3,4,7,8,9,11,12],yng,[(2000000,[2], .box Sh1_),(2000001,[2,9], .sl (.int .i64)),(2000002,[2,10], .sl (.int .u64)),(2000003,[3], .boxV Y1),(2000004,[4], .boxC [.int .i64 0, .nils, .nils, .nils, .nils, .int .i64 0, .int .i64 0, .int .i64 0, .int .i64 0, .nils, .nils, .nils]),(2000005,[7], .boxV X3),(2000006,[8], .sl (.int .i64))],[]⟩ (0,⟨[2,3,4,7,8,9],Sh7_,[(2000000,[2], .box Sh1_),(2000001,[2,9], .sl (.int .i64)),(2000002,[2,10], .sl (.int .u64)),(2000003,[3], .boxV Y1),(2000004,[4], .boxC [.int .i64 0, .nils, .nils, .nils, .nils, .int .i64 0, .int .i64 0, .int .i64 0, .int .i64 0, .nils, .nils, .nils]),(2000005,[7], .boxV X3),(2000006,[8], .sl (.int .i64))],[]⟩) [] (fun v=>z5o N v.1.2.2.2.2.2.1 v.1.2.2.2.2.2.2.1 v.1.2.2.2.2.2.2.2 v.2.1.1 v.2.1.2.1 v.2.1.2.2.1 v.2.1.2.2.2.1 v.2.1.2.2.2.2.1 v.2.1.2.2.2.2.2.1 v.2.1.2.2.2.2.2.2.1 v.2.1.2.2.2.2.2.2.2.1 v.2.1.2.2.2.2.2.2.2.2.1 v.2.1.2.2.2.2.2.2.2.2.2.2.2 v.2.2.1 v.2.2.2.1 v.2.2.2.2.1 v.2.2.2.2.2.2.1 v.2.2.2.2.2.2.2.1) (by kernel_rfl)
def zsi:SL PG Tryz.f126.ntmps (Y0 Tryz.f126):=pz (z7k N) [] 31309 ⟨[2,3,4,7,8,9,10,11,12,57],(.cons (.ptr 2000000 0) (.cons (.ptr 2000003 0) (.cons (.ptr 2000004 0) (.cons (.ptr 2000005 0) (.cons (.own 2000006) (.cons (.int .i64) (.cons (.ptr 2000007 0) (.cons (.int .i64) (.cons (.int .u64) .bool))))))))),[(2000000,[2], .box Sh1_),(2000001,[2,9], .sl (.int .i64)),(2000002,[2,10], .sl (.int .u64)),(2000003,[3], .boxV Y1),(2000004,[4], .boxC [.int .i64 0, .nils, .nils, .nils, .nils, .int .i64 0, .int .i64 0, .int .i64 0, .int .i64 0, .nils, .nils, .nils]),(2000005,[7], .boxV X3),(2000006,[8], .sl (.int .i64)),(2000007,[10], .boxV Y8)],[]⟩ (0,⟨[2,3,4,7,8,9,11,12],yng,[(2000000,[2], .box Sh1_),(2000001,[2,9], .sl (.int .i64)),(2000002,[2,10], .sl (.int .u64)),(2000003,[3], .boxV Y1),(2000004,[4], .boxC [.int .i64 0, .nils, .nils, .nils, .nils, .int .i64 0, .int .i64 0, .int .i64 0, .int .i64 0, .nils, .nils, .nils]),(2000005,[7], .boxV X3),(2000006,[8], .sl (.int .i64))],[]⟩) [(1,⟨[4,5,6],(.cons (.ptr 2000000 0) (.cons (.list (.int .i64)) .bool)),[(2000000,[4], .boxV X3)],[]⟩)] (fun v=>z3s N v.1.2.2.2.2.2.1 v.1.2.2.2.2.2.2.2.1 v.1.2.2.2.2.2.2.2.2.1 v.1.2.2.2.2.2.2.2.2.2 v.2.1.1 v.2.1.2.1 v.2.1.2.2.1 v.2.1.2.2.2.1 v.2.1.2.2.2.2.1 v.2.1.2.2.2.2.2.1 v.2.1.2.2.2.2.2.2.1 v.2.1.2.2.2.2.2.2.2.1 v.2.1.2.2.2.2.2.2.2.2.1 v.2.1.2.2.2.2.2.2.2.2.2.2.2 v.2.2.1 v.2.2.2.1 v.2.2.2.2.1 v.2.2.2.2.2.2.1 v.2.2.2.2.2.2.2.1 v.2.2.2.2.2.2.2.2.1) (by kernel_rfl)
def zsj:SL PG Tryz.f126.ntmps (Y0 Tryz.f126):=pz (z7k N) [zsh N] 15655 ⟨[2,3,4,7,8,9,11,12],yng,[(2000000,[2], .box Sh1_),(2000001,[2,9], .sl (.int .i64)),(2000002,[2,10], .sl (.int .u64)),(2000003,[3], .boxV Y1),(2000004,[4], .boxC [.int .i64 0, .nils, .nils, .nils, .nils, .int .i64 0, .int .i64 0, .int .i64 0, .int .i64 0, .nils, .nils, .nils]),(2000005,[7], .boxV X3),(2000006,[8], .sl (.int .i64))],[]⟩ (0,⟨[2,3,4,7,8,9],Sh7_,[(2000000,[2], .box Sh1_),(2000001,[2,9], .sl (.int .i64)),(2000002,[2,10], .sl (.int .u64)),(2000003,[3], .boxV Y1),(2000004,[4], .boxC [.int .i64 0, .nils, .nils, .nils, .nils, .int .i64 0, .int .i64 0, .int .i64 0, .int .i64 0, .nils, .nils, .nils]),(2000005,[7], .boxV X3),(2000006,[8], .sl (.int .i64))],[]⟩) [] (fun v=>z3t N v.1.2.2.2.2.2.1 v.1.2.2.2.2.2.2.1 v.1.2.2.2.2.2.2.2 v.2.1.1 v.2.1.2.1 v.2.1.2.2.1 v.2.1.2.2.2.1 v.2.1.2.2.2.2.1 v.2.1.2.2.2.2.2.1 v.2.1.2.2.2.2.2.2.1 v.2.1.2.2.2.2.2.2.2.1 v.2.1.2.2.2.2.2.2.2.2.1 v.2.1.2.2.2.2.2.2.2.2.2.2.2 v.2.2.1 v.2.2.2.1 v.2.2.2.2.1 v.2.2.2.2.2.2.1 v.2.2.2.2.2.2.2.1) (by kernel_rfl)
def zsk:SL PG Tryz.f126.ntmps (Y0 Tryz.f126):=pz (z7k N) [] 979 ⟨[2,3,4,7,8,9],Sh7_,[(2000000,[2], .box Sh1_),(2000001,[2,9], .sl (.int .i64)),(2000002,[2,10], .sl (.int .u64)),(2000003,[3], .boxV Y1),(2000004,[4], .boxC [.int .i64 0, .nils, .nils, .nils, .nils, .int .i64 0, .int .i64 0, .int .i64 0, .int .i64 0, .nils, .nils, .nils]),(2000005,[7], .boxV X3),(2000006,[8], .sl (.int .i64))],[]⟩ (0,⟨[2,3,4,7,8,9],Sh7_,[(2000000,[2], .box Sh1_),(2000001,[2,9], .sl (.int .i64)),(2000002,[2,10], .sl (.int .u64)),(2000003,[3], .boxV Y1),(2000004,[4], .boxC [.int .i64 0, .nils, .nils, .nils, .nils, .int .i64 0, .int .i64 0, .int .i64 0, .int .i64 0, .nils, .nils, .nils]),(2000005,[7], .boxV X3),(2000006,[8], .sl (.int .i64))],[]⟩) [] (fun v=>z3u N v.1.2.2.2.2.2 v.2.1.1 v.2.1.2.1 v.2.1.2.2.1 v.2.1.2.2.2.1 v.2.1.2.2.2.2.1 v.2.1.2.2.2.2.2.1 v.2.1.2.2.2.2.2.2.1 v.2.1.2.2.2.2.2.2.2.1 v.2.1.2.2.2.2.2.2.2.2.1 v.2.1.2.2.2.2.2.2.2.2.2.2.2 v.2.2.1 v.2.2.2.1 v.2.2.2.2.1 v.2.2.2.2.2.2.1 v.2.2.2.2.2.2.2.1) (by kernel_rfl)
def zsl:SL PG Tryz.f126.ntmps (Y0 Tryz.f126):=lz N (z7k N) [zsi N,zsj N,zsk N] 122 ⟨[2,3,4,7,8,9],Sh7_,[(2000000,[2], .box Sh1_),(2000001,[2,9], .sl (.int .i64)),(2000002,[2,10], .sl (.int .u64)),(2000003,[3], .boxV Y1),(2000004,[4], .boxC [.int .i64 0, .nils, .nils, .nils, .nils, .int .i64 0, .int .i64 0, .int .i64 0, .int .i64 0, .nils, .nils, .nils]),(2000005,[7], .boxV X3),(2000006,[8], .sl (.int .i64))],[]⟩ (1,⟨[4,5,6],(.cons (.ptr 2000000 0) (.cons (.list (.int .i64)) .bool)),[(2000000,[4], .boxV X3)],[]⟩) [(2,⟨[2,4,8],(.cons (.ptr 2000000 0) (.cons (.ptr 2000003 0) (.own 2000004))),[(2000000,[2], .box Sh1_),(2000001,[2,9], .sl (.int .i64)),(2000002,[2,10], .sl (.int .u64)),(2000003,[4], .boxC [.int .i64 0, .nils, .nils, .nils, .nils, .int .i64 0, .int .i64 0, .int .i64 0, .int .i64 0, .nils, .nils, .nils]),(2000004,[8], .sl (.int .i64))],[]⟩)] (z1e N N) (z1t N) (fun f v=>f v.1.2.2.2.2.2 v.2.1.1 v.2.1.2.1 v.2.1.2.2.1 v.2.1.2.2.2.1 v.2.1.2.2.2.2.1 v.2.1.2.2.2.2.2.1 v.2.1.2.2.2.2.2.2.1 v.2.1.2.2.2.2.2.2.2.1 v.2.1.2.2.2.2.2.2.2.2.1 v.2.1.2.2.2.2.2.2.2.2.2.2.2 v.2.2.1 v.2.2.2.1 v.2.2.2.2.1 v.2.2.2.2.2.2.1 v.2.2.2.2.2.2.2.1) (fun r b0 b1 b2 b3 b4 b5 b6 b7 b8 b9 b10 b11 b12 b13 b14 b15=>r (((),((),((),((),((),b0))))),((b1,(b2,(b3,(b4,(b5,(b6,(b7,(b8,(b9,((),((),b10))))))))))),(b11,(b12,(b13,((),(b14,(b15,()))))))))) rfl (fun _=>rfl) (fun _ _=>rfl) (by kernel_rfl)
def y0q:SC PG:=fz (z7k N) Tryz.func126 [zsl N] (.cons (.val X3) (.val Y1)) (.tup (.cons (.val X3) (.cons (.list (.int .i64)) .bool))) [] (fun v=>zdv N v.1 v.2) (by kernel_rfl)
def zn1:SE PG:=E0 [] [] []
def zqq:SL PG Tryz.f188.ntmps (Y0 Tryz.f188):=lz N (zn1) [] 58 ⟨[0,5,6],(.cons (.int .u64) Sh9_),[(2000000,[5], .sl (.int .u8))],[]⟩ (2,⟨[5],(.own 2000000),[(2000000,[5], .sl (.int .u8))],[]⟩) [] (z6t N N) (z0q N) (fun f v=>f v.1.1 v.1.2.2 v.2.1) (fun r b0 b1 b2=>r ((b0,((),b1)),(b2,()))) rfl (fun _=>rfl) (fun _ _=>rfl) (by kernel_rfl)
def ze8:SC PG:=fz (zn1) Tryz.func188 [zqq N] (.cons (.int .u64) (.int .i64)) (.fresh (.int .u8)) [] (fun v=>z2r N v.1 v.2) (by kernel_rfl)
def zmo:SC PG:=fz (E0 [] [] [ze8 N]) Tryz.func186 [] (.cons (.int .i64) (.int .i64)) (.fresh (.int .u8)) [] (fun v=>w9 N v.1 v.2) (by kernel_rfl)
def zue:SE PG:=E0 [] [] []
def zvw:SL PG Tryz.f185.ntmps (Y0 Tryz.f185):=lz N (zue) [] 58 ⟨[0,3,4],(.cons (.list (.list (.int .u8))) Sh9_),[(2000000,[3], .sl (.int .u8))],[]⟩ (2,⟨[3],(.own 2000000),[(2000000,[3], .sl (.int .u8))],[]⟩) [] (z9y N N) (z35 N) (fun f v=>f v.1.1 v.1.2.2 v.2.1) (fun r b0 b1 b2=>r ((b0,((),b1)),(b2,()))) rfl (fun _=>rfl) (fun _ _=>rfl) (by kernel_rfl)
def zpg:SC PG:=fz (zue) Tryz.func185 [zvw N] (.list (.list (.int .u8))) (.fresh (.int .u8)) [] (fun v=>z6v N v) (by kernel_rfl)
def zws:SC PG:=fz (E0 [(K6,[8])] [] [ze8 N]) Tryz.func186 [] (.cons (.int .i64) (.int .i64)) (.list (.int .u8)) [] (fun v=>W3 N v.1 v.2) (by kernel_rfl)
def zn2:SE PG:=E0 [(K6,[2000000])] [] [zmo N,zmw N]
def zqr:SL PG Tryz.f187.ntmps (Y0 Tryz.f187):=lz N (zn2 N) [] 58 ⟨[0,3,4],(.cons (.list Z8) Sh9_),[(2000000,[3], .sl (.int .u8))],[]⟩ (2,⟨[3],(.own 2000000),[(2000000,[3], .sl (.int .u8))],[]⟩) [] (z6u N N) (z0r N) (fun f v=>f v.1.1 v.1.2.2 v.2.1) (fun r b0 b1 b2=>r ((b0,((),b1)),(b2,()))) rfl (fun _=>rfl) (fun _ _=>rfl) (by kernel_rfl)
def zzu:SC PG:=fz (zn2 N) Tryz.func187 [zqr N] (.list Z8) (.list (.int .u8)) [] (fun v=>zbw N v) (by kernel_rfl)
def zk0:SE PG:=E0 [(K6,[2000000])] [] []
def zme:SL PG Tryz.f188.ntmps (Y0 Tryz.f188):=lz N (zk0) [] 58 ⟨[0,5,6],(.cons (.int .u64) Sh9_),[(2000000,[5], .sl (.int .u8))],[]⟩ (2,⟨[5],(.own 2000000),[(2000000,[5], .sl (.int .u8))],[]⟩) [] (z4k N N) (q9 N) (fun f v=>f v.1.1 v.1.2.2 v.2.1) (fun r b0 b1 b2=>r ((b0,((),b1)),(b2,()))) rfl (fun _=>rfl) (fun _ _=>rfl) (by kernel_rfl)
def ztt:SC PG:=fz (zk0) Tryz.func188 [zme N] (.cons (.int .u64) (.int .i64)) (.list (.int .u8)) [] (fun v=>z5n N v.1 v.2) (by kernel_rfl)
def zec:SE PG:=E0 [(2000040,[23]),(3000070,[70]),(3000108,[108])] [] [zws N,zzu N,zpg N,ztt N]
def zo5:SL PG Tryz.f127.ntmps (Y0 Tryz.f127):=lz N (zec N) [] 250 ⟨[2,3,5,8],yey,[(2000000,[2], .boxV Y1),(2000001,[3], .boxV X3),(2000002,[5], .sl (.int .u8))],[]⟩ (4,⟨[5],(.own 2000000),[(2000000,[5], .sl (.int .u8))],[]⟩) [] (z2t N N) (z0d N) (fun f v=>f v.1.2.2.2 v.2.1 v.2.2.1 v.2.2.2.1) (fun r b0 b1 b2 b3=>r (((),((),((),b0))),(b1,(b2,(b3,()))))) rfl (fun _=>rfl) (fun _ _=>rfl) (by kernel_rfl)
def zo6:SL PG Tryz.f127.ntmps (Y0 Tryz.f127):=lz N (zec N) [] 58 ⟨[2,3,5,6],yey,[(2000000,[2], .boxV Y1),(2000001,[3], .boxV X3),(2000002,[5], .sl (.int .u8))],[]⟩ (2,⟨[2,3,5],ynf,[(2000000,[2], .boxV Y1),(2000001,[3], .boxV X3),(2000002,[5], .sl (.int .u8))],[]⟩) [] (z5g N N) (z0e N) (fun f v=>f v.1.2.2.2 v.2.1 v.2.2.1 v.2.2.2.1) (fun r b0 b1 b2 b3=>r (((),((),((),b0))),(b1,(b2,(b3,()))))) rfl (fun _=>rfl) (fun _ _=>rfl) (by kernel_rfl)
def zwu:SC PG:=fz (zec N) Tryz.func127 [zo6 N,zo5 N] (.cons (.val Y1) (.val X3)) (.fresh (.int .u8)) [] (fun v=>zcw N v.1 v.2) (by kernel_rfl)
def zn3:SE PG:=E0 [] [] []
def zqs:SL PG Tryz.f128.ntmps (Y0 Tryz.f128):=lz N (zn3) [] 28 ⟨[0,1,5],(.cons (.list (.int .u8)) (.cons (.int .i64) (.own 2000000))),[(2000000,[5], .sl (.list (.int .u8)))],[]⟩ (2,⟨[0,5],(.cons (.list (.int .u8)) (.own 2000000)),[(2000000,[5], .sl (.list (.int .u8)))],[]⟩) [] (z6w N N) (z48 N) (fun f v=>f v.1.1 v.1.2.1 v.2.1) (fun r b0 b1 b2=>r ((b0,(b1,())),(b2,()))) rfl (fun _=>rfl) (fun _ _=>rfl) (by kernel_rfl)
def zzv:SC PG:=fz (zn3) Tryz.func128 [zqs N] (.cons (.list (.int .u8)) (.int .i64)) (.fresh (.list (.int .u8))) [] (fun v=>zfe N v.1 v.2) (by kernel_rfl)
def y0t:SC PG:=fz (E0 [(K6,[5,10])] [] [zao N]) Tryz.func131 [] (.val Q0) (.val Q0) [] (fun v=>z8l N v) (by kernel_rfl)
def zlx:SE PG:=E0 [(K6,[40]),(2000021,[9,11,14,17,20])] [] [zmo N,zms N,ze8 N,zpg N]
def zo4:SL PG Tryz.f132.ntmps (Y0 Tryz.f132):=lz N (zlx N) [] 58 ⟨[2,7,8],(.cons (.list (.int .i64)) Sh9_),[(2000000,[7], .sl (.int .u8))],[]⟩ (2,⟨[7],(.own 2000000),[(2000000,[7], .sl (.int .u8))],[]⟩) [] (z5f N N) (z0c N) (fun f v=>f v.1.1 v.1.2.2 v.2.1) (fun r b0 b1 b2=>r ((b0,((),b1)),(b2,()))) rfl (fun _=>rfl) (fun _ _=>rfl) (by kernel_rfl)
def zwt:SC PG:=fz (zlx N) Tryz.func132 [zo4 N] (.cons (.int .i64) (.cons (.list (.int .u8)) (.list (.int .i64)))) (.list (.int .u8)) [] (fun v=>zcv N v.1 v.2.1 v.2.2) (by kernel_rfl)
def zyv:SE PG:=E0 [] [] []
def zzd:SL PG Tryz.f190.ntmps (Y0 Tryz.f190):=lz N (zyv) [] 26 ⟨[0,1,5],(.cons (.list (.int .i64)) zpd),[],[]⟩ (1,⟨[4], .bool,[],[]⟩) [(2,⟨[], .nil,[],[]⟩)] (zff N N) (zbn N) (fun f v=>f v.1.1 v.1.2.1 v.1.2.2) (fun r b0 b1 b2=>r ((b0,(b1,b2)),())) rfl (fun _=>rfl) (fun _ _=>rfl) (by kernel_rfl)
def y7w:SC PG:=fz (zyv) Tryz.func190 [zzd N] (.cons (.list (.int .i64)) (.int .i64)) .bool [] (fun v=>y6n N v.1 v.2) (by kernel_rfl)
def zkt:SE PG:=E0 [(K6,[2000001])] [] [y7w N]
def zvz:SL PG Tryz.f133.ntmps (Y0 Tryz.f133):=pz (zkt N) [] 13 ⟨[1,2,4,29],(.cons (.int .i64) (.cons (.ptr 2000000 0) (.cons (.ptr 2000001 0) .bool))),[(2000000,[2], .boxV Q1),(2000001,[4], .boxC [.nils, .nils, .int .i64 0])],[]⟩ (1,⟨[4,5],Sh4_,[(2000000,[4], .boxV Q1)],[]⟩) [(0,⟨[1,2,4],(.cons (.int .i64) Sh2_),[(2000000,[2], .boxV Q1),(2000001,[4], .boxC [.nils, .nils, .int .i64 0])],[]⟩)] (fun v=>z9z N v.1.1 v.1.2.2.2 v.2.1) (by kernel_rfl)
def zw0:SL PG Tryz.f133.ntmps (Y0 Tryz.f133):=pz (zkt N) [] 7 ⟨[1,2,4],(.cons (.int .i64) Sh2_),[(2000000,[2], .boxV Q1),(2000001,[4], .boxC [.nils, .nils, .int .i64 0])],[]⟩ (1,⟨[4,5],Sh4_,[(2000000,[4], .box (.cons (.list .bool) y67)),(2000001,[4,1], .sl (.int .i64))],[]⟩) [] (fun v=>za0 N v.1.1 v.2.1) (by kernel_rfl)
def y4y:SC PG:=fz (zkt N) Tryz.func133 [zvz N,zw0 N] (.cons (.val Q1) (.int .i64)) (.tup (.cons (.val Q1) (.int .i64))) [] (fun v=>y25 N v.1 v.2) (by kernel_rfl)
def zn4:SE PG:=E0 [(K6,[2000002])] [] []
def zqt:SL PG Tryz.f134.ntmps (Y0 Tryz.f134):=lz N (zn4) [] 58 ⟨[1,2,3,4],yey,[(2000000,[1], .boxV Q1),(2000001,[2], .boxC [.nils, .nils, .int .i64 0]),(2000002,[3], .sl .bool)],[]⟩ (2,⟨[1,2,3],ynf,[(2000000,[1], .boxV Q1),(2000001,[2], .boxC [.nils, .nils, .int .i64 0]),(2000002,[3], .sl .bool)],[]⟩) [] (z1l N N) (z49 N) (fun f v=>f v.1.2.2.2 v.2.1 v.2.2.2.1) (fun r b0 b1 b2=>r (((),((),((),b0))),(b1,((),(b2,()))))) rfl (fun _=>rfl) (fun _ _=>rfl) (by kernel_rfl)
def zzw:SC PG:=fz (zn4) Tryz.func134 [zqt N] (.val Q1) (.val Q1) [] (fun v=>zby N v) (by kernel_rfl)
def zks:SE PG:=E0 [(6,[30]),(16,[2000003])] [] [y0q N,zwu N,zzv N,y0p N,y0t N,zwt N,zkl N,y4y N,zzw N]
def zvx:SL PG Tryz.f78.ntmps (Y0 Tryz.f78):=lz N (zks N) [] 65530 ⟨[2,4,6,10,15],(.cons (.ptr 2000000 0) (.cons (.ptr 2000001 0) (.cons (.own 2000002) (.cons (.list (.int .i64)) (.int .i64))))),[(2000000,[2], .boxV X3),(2000001,[4], .boxC [.int .i64 0, .nils, .nils, .nils, .nils, .int .i64 0, .int .i64 0, .int .i64 0, .int .i64 0, .nils, .nils, .nils, .int .i64 0]),(2000002,[6], .sl (.int .i64))],[]⟩ (4,⟨[2,4,10],(.cons (.ptr 2000000 0) (.cons (.ptr 2000001 0) (.list (.int .i64)))),[(2000000,[2], .boxV X3),(2000001,[4], .boxC [.int .i64 0, .nils, .nils, .nils, .nils, .int .i64 0, .int .i64 0, .int .i64 0, .int .i64 0, .nils, .nils, .nils, .int .i64 0])],[]⟩) [] (z56 N N) (z67 N) (fun f v=>f v.1.2.2.2.1 v.1.2.2.2.2 v.2.1 v.2.2.2.1) (fun r b0 b1 b2 b3=>r (((),((),((),(b0,b1)))),(b2,((),(b3,()))))) rfl (fun _=>rfl) (fun _ _=>rfl) (by kernel_rfl)
def zvy:SL PG Tryz.f78.ntmps (Y0 Tryz.f78):=lz N (zks N) [] 1018 ⟨[2,4,5,6,8,9,10,11],(.cons (.ptr 2000000 0) (.cons (.ptr 2000001 0) (.cons (.ptr 2000002 0) (.cons (.list (.int .i64)) (.cons (.list (.int .u8)) (.cons (.own 2000003) yew)))))),[(2000000,[2], .boxV X3),(2000001,[4], .boxC [.int .i64 0, .nils, .nils, .nils, .nils, .int .i64 0, .int .i64 0, .int .i64 0, .int .i64 0, .nils, .nils, .nils, .int .i64 0]),(2000002,[5], .boxV X3),(2000003,[9], .sl (.list (.int .u8))),(2000004,[10], .sl (.int .i64))],[]⟩ (1,⟨[4],(.ptr 2000000 0),[(2000000,[4], .boxV zdo)],[]⟩) [(2,⟨[2,4,5,6,8,10],(.cons (.ptr 2000000 0) (.cons (.ptr 2000001 0) (.cons (.ptr 2000002 0) (.cons (.list (.int .i64)) (.cons (.list (.int .u8)) (.own 2000003)))))),[(2000000,[2], .boxV X3),(2000001,[4], .boxC [.int .i64 0, .nils, .nils, .nils, .nils, .int .i64 0, .int .i64 0, .int .i64 0, .int .i64 0, .nils, .nils, .nils, .int .i64 0]),(2000002,[5], .boxV X3),(2000003,[10], .sl (.int .i64))],[]⟩)] (z7c N N) (z36 N) (fun f v=>f v.1.2.2.2.1 v.1.2.2.2.2.1 v.1.2.2.2.2.2.2.2 v.2.1 v.2.2.2.1 v.2.2.2.2.1 v.2.2.2.2.2.1) (fun r b0 b1 b2 b3 b4 b5 b6=>r (((),((),((),(b0,(b1,((),((),b2))))))),(b3,((),(b4,(b5,(b6,()))))))) rfl (fun _=>rfl) (fun _ _=>rfl) (by kernel_rfl)
def y4u:SC PG:=fz (zks N) Tryz.func78 [zvy N,zvx N] (.cons (.val X3) (.val Y1)) (.val zdo) [] (fun v=>zhc N v.1 v.2) (by kernel_rfl)
def ztw:SC PG:=fz (E0 [] [] [y7v N,y4u N]) Tryz.func35 [] (.cons (.val Q0) (.cons (.int .i64) (.val Y1))) (.val zdo) [] (fun v=>zov N v.1 v.2.1 v.2.2) (by kernel_rfl)
def zx0:SC PG:=fz (E0 [(2000017,[16])] [] [zty N,ztz N,ztx N,ztw N]) Tryz.func32 [] .nil (.val zbv) [] (fun _=>zpu N) (by kernel_rfl)
def y84:SC PG:=fz (E0 [] [] []) Tryz.func136 [] (.cons (.val (.list Y8)) (.int .i64)) .bool [] (fun v=>zp1 N v.1 v.2) (by kernel_rfl)
def zqp:SM PG:=mz (E0 [] [] []) Tryz.func80 [] ⟨[0,1],(.cons (.int .i64) (.ptr 5000000 0)),[(5000000,[1], .box (.own 5000001)),(5000001,[1,0], .sl (.int .i64))],[]⟩ ⟨[0],(.tup .nil),[(5000000,[5000000], .box (.own 2000001)),(2000001,[5000000,0], .sl (.int .i64))],[]⟩ [] (fun v=>zar N v.1.1 v.2.2.1) (by kernel_rfl)
def z1a(self:Int->(List Z7)->(List Int)->Bool->(List Int)->Option ((Unit×((List Z7)×(Unit×((List Int)×(Bool×((Unit×(Unit×(Unit×(Unit×Unit))))×(Unit×(Unit×((List Int)×Unit))))))))))):CtrM:=ctrM ⟨[0,1,2,3,4,5],(.cons (.int .i64) Sh3_),[(5000000,[1], .box (.list Y8)),(5000001,[2], .box (.own 5000002)),(5000002,[2,0], .sl (.int .i64)),(5000003,[3], .box .bool),(5000004,[4], .box (.clo 135 Sh3_)),(5000005,[4,0,4], .box (.clo 80 (.ptr 5000006 0))),(5000006,[4,0,4,0,0], .box (.own 5000007)),(5000007,[4,0,4,0,0,0], .sl (.int .i64))],[]⟩ ⟨[0],(.tup .nil),[(5000000,[5000000], .box (.list Y8)),(5000001,[5000001], .box (.own 5000002)),(5000002,[5000002], .sl (.int .i64)),(5000003,[5000003], .box .bool),(5000004,[5000004], .box (.clo 135 Sh3_)),(5000005,[5000005], .box (.clo 80 (.ptr 5000006 0))),(5000006,[5000006], .box (.own 2000007)),(2000007,[5000006,0], .sl (.int .i64))],[]⟩ [] (fun v=>self v.1.1 v.2.1 v.2.2.2.1 v.2.2.2.2.1 v.2.2.2.2.2.2.2.2.1)
def zic(self:Int->(List Z7)->(List Int)->Bool->(List Int)->Option ((Unit×((List Z7)×(Unit×((List Int)×(Bool×((Unit×(Unit×(Unit×(Unit×Unit))))×(Unit×(Unit×((List Int)×Unit)))))))))))(hs:zc9 PG 135 (z1a self)):SE PG:=E0 [] [42,49] [y84 N] [⟨135,z1a self,hs⟩,zqp N]
def zm6(self:Int->(List Z7)->(List Int)->Bool->(List Int)->Option ((Unit×((List Z7)×(Unit×((List Int)×(Bool×((Unit×(Unit×(Unit×(Unit×Unit))))×(Unit×(Unit×((List Int)×Unit)))))))))))(hs:zc9 PG 135 (z1a self)):SL PG Tryz.f135.ntmps (Y0 Tryz.f135):=lz N (zic N self hs) [] 122 ⟨[0,2,4,5,34,35,36],(.cons (.int .i64) (.cons (.ptr 5000001 0) (.cons (.ptr 5000004 0) (.cons (.ptr 5000005 0) (.cons (.list (.int .i64)) zpd))))),[(5000001,[5000001], .box (.own 5000002)),(5000002,[5000002], .sl (.int .i64)),(5000004,[5000004], .box (.clo 135 Sh3_)),(5000000,[5000000], .box (.list Y8)),(5000003,[5000003], .box .bool),(5000005,[5000005], .box (.clo 80 (.ptr 5000006 0))),(5000006,[5000006], .box (.own 2000007)),(2000007,[5000006,0], .sl (.int .i64))],[]⟩ (2,⟨[0,2,5],(.cons (.int .i64) (.cons (.ptr 5000001 0) (.ptr 5000005 0))),[(5000001,[5000001], .box (.own 5000002)),(5000002,[5000002], .sl (.int .i64)),(5000005,[5000005], .box (.clo 80 (.ptr 5000006 0))),(5000006,[5000006], .box (.own 2000004)),(2000004,[5000006,0], .sl (.int .i64)),(5000000,[5000000], .box (.list Y8)),(5000003,[5000003], .box .bool),(5000004,[5000004], .box (.clo 135 Sh3_))],[]⟩) [] (z0m N self N) (y7 N self) (fun f v=>f v.1.1 v.1.2.2.2.2.1 v.1.2.2.2.2.2.1 v.1.2.2.2.2.2.2 v.2.2.1 v.2.2.2.2.1 v.2.2.2.2.2.1 v.2.2.2.2.2.2.2.2.1) (fun r b0 b1 b2 b3 b4 b5 b6 b7=>r ((b0,((),((),((),(b1,(b2,b3)))))),((),(b4,(((),((),((),((),())))),(b5,(b6,((),((),(b7,())))))))))) rfl (fun _=>rfl) (fun _ _=>rfl) (by kernel_rfl)
def zrh(self:Int->(List Z7)->(List Int)->Bool->(List Int)->Option ((Unit×((List Z7)×(Unit×((List Int)×(Bool×((Unit×(Unit×(Unit×(Unit×Unit))))×(Unit×(Unit×((List Int)×Unit)))))))))))(hs:zc9 PG 135 (z1a self)):SM PG:=mz (zic N self hs) Tryz.func135 [zm6 N self hs] ⟨[0,1,2,3,4,5],(.cons (.int .i64) Sh3_),[(5000000,[1], .box (.list Y8)),(5000001,[2], .box (.own 5000002)),(5000002,[2,0], .sl (.int .i64)),(5000003,[3], .box .bool),(5000004,[4], .box (.clo 135 Sh3_)),(5000005,[4,0,4], .box (.clo 80 (.ptr 5000006 0))),(5000006,[4,0,4,0,0], .box (.own 5000007)),(5000007,[4,0,4,0,0,0], .sl (.int .i64))],[]⟩ ⟨[0],(.tup .nil),[(5000000,[5000000], .box (.list Y8)),(5000001,[5000001], .box (.own 5000002)),(5000002,[5000002], .sl (.int .i64)),(5000003,[5000003], .box .bool),(5000004,[5000004], .box (.clo 135 Sh3_)),(5000005,[5000005], .box (.clo 80 (.ptr 5000006 0))),(5000006,[5000006], .box (.own 2000007)),(2000007,[5000006,0], .sl (.int .i64))],[]⟩ [] (fun v=>z18 N self v.1.1 v.2.1 v.2.2.2.1 v.2.2.2.2.1 v.2.2.2.2.2.2.2.2.1) (by kernel_rfl)
def zqo:SM PG:=yr5 (f:=135) z1a (fun _ _ _ _ _=>none) (z18 N) (yif fun _=>rfl) (fun self hs=>(zrh N self hs).h) N
def z63:SE PG:=E0 [] [25] [] [zqo N]
def zav:SL PG Tryz.f79.ntmps (Y0 Tryz.f79):=lz N (z63 N) [] 506 ⟨[8,9,17,18,19],(.cons (.ptr 2000000 0) (.cons (.ptr 2000001 0) (.cons (.list (.int .i64)) zpd))),[(2000000,[8], .box .bool),(2000001,[9], .box (.clo 135 (.cons (.ptr 2000002 0) (.cons (.ptr 2000003 0) (.cons (.ptr 2000000 0) (.cons (.ptr 2000001 0) (.ptr 2000005 0))))))),(2000002,[9,0,0], .box (.list Y8)),(2000003,[9,0,1], .box (.own 2000004)),(2000004,[9,0,1,0], .sl (.int .i64)),(2000005,[9,0,4], .box (.clo 80 (.ptr 5000000 0))),(5000000,[5000000], .box (.own 2000007)),(2000007,[5000000,0], .sl (.int .i64))],[]⟩ (2,⟨[8],(.ptr 2000000 0),[(2000000,[8], .box .bool),(5000000,[5000000], .box (.own 2000002)),(2000002,[5000000,0], .sl (.int .i64))],[]⟩) [] (U8 N N) (U5 N) (fun f v=>f v.1.2.2.1 v.1.2.2.2.1 v.1.2.2.2.2 v.2.1 v.2.2.2.1 v.2.2.2.2.2.1 v.2.2.2.2.2.2.2.2.1) (fun r b0 b1 b2 b3 b4 b5 b6=>r (((),((),(b0,(b1,b2)))),(b3,(((),((),((),((),())))),(b4,((),(b5,((),((),(b6,())))))))))) rfl (fun _=>rfl) (fun _ _=>rfl) (by kernel_rfl)
def zcg:SM PG:=mz (z63 N) Tryz.func79 [zav N] ⟨[0,1,2],(.cons (.val (.list Y8)) (.cons (.list (.int .i64)) (.clo 80 (.ptr 5000000 0)))),[(5000000,[2,0], .box (.own 5000001)),(5000001,[2,0,0], .sl (.int .i64))],[]⟩ ⟨[0], .bool,[(5000000,[5000000], .box (.own 2000001)),(2000001,[5000000,0], .sl (.int .i64))],[]⟩ [] (fun v=>pool_visit_m__pool_Reach_c1 N v.1.1 v.1.2.1 v.2.2.1) (by kernel_rfl)
def lay_slices_Sort_s_int_int_m_ren:Go.Shelf.Ren:=⟨fun | 189=>81 | 125=>138 | 257=>137 | 128=>200 | 129=>201 | 294=>191 | 295=>192 | 296=>193 | 297=>194 | 298=>195 | 299=>196 | 216=>197 | 300=>198 | 301=>199 | 328=>244 | 329=>245 | 330=>246 | 331=>247 | 332=>248 | 215=>249 | 343=>289 | n=>n,fun | 28=>27 | 3=>3 | 46=>240 | 0=>0 | 51=>310 | 53=>103 | 4=>4 | 183=>304 | 182=>303 | 131=>117 | 5=>5 | 9=>9 | 218=>347 | 222=>351 | 228=>404 | 229=>366 | n=>n,fun n=>n⟩
theorem zfa:Go.Proofs.Lays.n189 PG lay_slices_Sort_s_int_int_m_ren:={
 mixed:=by kernel_rfl
 f125:=Tryz.func138.trans (congrArg some (by kernel_rfl))
 f128:=Tryz.func200.trans (congrArg some (by kernel_rfl))
 f129:=Tryz.func201.trans (congrArg some (by kernel_rfl))
 f189:=Tryz.func81.trans (congrArg some (by kernel_rfl))
 f215:=Tryz.func249.trans (congrArg some (by kernel_rfl))
 f216:=Tryz.func197.trans (congrArg some (by kernel_rfl))
 f257:=Tryz.func137.trans (congrArg some (by kernel_rfl))
 f294:=Tryz.func191.trans (congrArg some (by kernel_rfl))
 f295:=Tryz.func192.trans (congrArg some (by kernel_rfl))
 f296:=Tryz.func193.trans (congrArg some (by kernel_rfl))
 f297:=Tryz.func194.trans (congrArg some (by kernel_rfl))
 f298:=Tryz.func195.trans (congrArg some (by kernel_rfl))
 f299:=Tryz.func196.trans (congrArg some (by kernel_rfl))
 f300:=Tryz.func198.trans (congrArg some (by kernel_rfl))
 f301:=Tryz.func199.trans (congrArg some (by kernel_rfl))
 f328:=Tryz.func244.trans (congrArg some (by kernel_rfl))
 f329:=Tryz.func245.trans (congrArg some (by kernel_rfl))
 f330:=Tryz.func246.trans (congrArg some (by kernel_rfl))
 f331:=Tryz.func247.trans (congrArg some (by kernel_rfl))
 f332:=Tryz.func248.trans (congrArg some (by kernel_rfl))
 f343:=Tryz.func289.trans (congrArg some (by kernel_rfl))
 t0:=Tryz.underlying0
 a0:=Tryz.isAgg0
 z0:=Tryz.sizeOf0
 v0:=Tryz.zeroValue0
 t3:=Tryz.underlying3
 a3:=Tryz.isAgg3
 z3:=Tryz.sizeOf3
 v3:=Tryz.zeroValue3
 t4:=Tryz.underlying4
 a4:=Tryz.isAgg4
 z4:=Tryz.sizeOf4
 v4:=Tryz.zeroValue4
 t5:=Tryz.underlying5
 a5:=Tryz.isAgg5
 z5:=Tryz.sizeOf5
 v5:=Tryz.zeroValue5
 t9:=Tryz.underlying9
 a9:=Tryz.isAgg9
 z9:=Tryz.sizeOf9
 v9:=Tryz.zeroValue9
 t28:=Tryz.underlying27
 a28:=Tryz.isAgg27
 z28:=Tryz.sizeOf27
 v28:=Tryz.zeroValue27
 t46:=Tryz.underlying240
 a46:=Tryz.isAgg240
 z46:=Tryz.sizeOf240
 v46:=Tryz.zeroValue240
 t51:=Tryz.underlying310
 a51:=Tryz.isAgg310
 z51:=Tryz.sizeOf310
 v51:=Tryz.zeroValue310
 t53:=Tryz.underlying103
 a53:=Tryz.isAgg103
 z53:=Tryz.sizeOf103
 v53:=Tryz.zeroValue103
 t131:=Tryz.underlying117
 a131:=Tryz.isAgg117
 z131:=Tryz.sizeOf117
 v131:=Tryz.zeroValue117
 t182:=Tryz.underlying303
 a182:=Tryz.isAgg303
 z182:=Tryz.sizeOf303
 v182:=Tryz.zeroValue303
 t183:=Tryz.underlying304
 a183:=Tryz.isAgg304
 z183:=Tryz.sizeOf304
 v183:=Tryz.zeroValue304
 t218:=Tryz.underlying347
 a218:=Tryz.isAgg347
 z218:=Tryz.sizeOf347
 v218:=Tryz.zeroValue347
 t222:=Tryz.underlying351
 a222:=Tryz.isAgg351
 z222:=Tryz.sizeOf351
 v222:=Tryz.zeroValue351
 t228:=Tryz.underlying404
 a228:=Tryz.isAgg404
 z228:=Tryz.sizeOf404
 v228:=Tryz.zeroValue404
 t229:=Tryz.underlying366
 a229:=Tryz.isAgg366
 z229:=Tryz.sizeOf366
 v229:=Tryz.zeroValue366
 }
def zhp:Code:=match Tryz.f81.body with | some c=>c | none=> .skip
def z7l(N:Nat):CtrM:=ctrM sortIn sortOut [] (fun v=>z1g N v.2.1)
theorem zcl(N:Nat):zc9 PG 81 (z7l N):=by
 have e1:lay_slices_Sort_s_int_int_m_ren.f 189=81:=by kernel_rfl
 have h:=ydq zfa (fn:=Tryz.f81) (c:=zhp) (by rw[e1];exact Tryz.func81) (by kernel_rfl) (by kernel_rfl)
 rw[e1]at h
 exact h
def zfz:SM PG:=⟨81,z7l N,zcl N⟩
def y5p:SC PG:=fz (E0 [] [9,11] [] [zcg N,zfz N]) Tryz.func38 [] (.cons (.val (.list Y8)) (.list (.int .i64))) (.fresh (.int .i64)) [] (fun v=>zb1 N v.1 v.2) (by kernel_rfl)
def zpf:SC PG:=fz (E0 [] [] []) Tryz.func39 [] (.cons (.val X3) (.int .i64)) (.tup (.cons (.int .i64) .bool)) [] (fun v=>zcp N v.1 v.2) (by kernel_rfl)
def zjh:SE PG:=E0 [(K6,[2000002,2000003])] [] [y5p N,zpf N]
def zse:SL PG Tryz.f16.ntmps (Y0 Tryz.f16):=lz N (zjh N) [] 250 ⟨[2,4,8,32,33,34],(.cons (.ptr 2000000 0) (.cons (.ptr 2000001 0) (.cons (.ptr 2000002 0) (.cons (.own 2000005) zpd)))),[(2000000,[2], .boxV X3),(2000001,[4], .boxC [.nils, .nils, .int .i64 0]),(2000002,[8], .box (.cons (.own 2000003) yew)),(2000003,[8,0], .sl (.int .i64)),(2000004,[8,1], .sl (.int .i64)),(2000005,[32], .sl (.int .i64))],[]⟩ (4,⟨[4,8],Sh2_,[(2000000,[4], .boxC [.nils, .nils, .int .i64 0]),(2000001,[8], .box yjh),(2000002,[8,0], .sl (.int .i64)),(2000003,[8,1], .sl (.int .i64))],[]⟩) [] (z7x N N) (z1q N) (fun f v=>f v.1.2.2.2.2.1 v.1.2.2.2.2.2 v.2.1 v.2.2.2.1.2.2 v.2.2.2.2.1 v.2.2.2.2.2.1 v.2.2.2.2.2.2.1) (fun r b0 b1 b2 b3 b4 b5 b6=>r (((),((),((),((),(b0,b1))))),(b2,((),(((),((),b3)),(b4,(b5,(b6,())))))))) rfl (fun _=>rfl) (fun _ _=>rfl) (by kernel_rfl)
def zsf:SL PG Tryz.f16.ntmps (Y0 Tryz.f16):=lz N (zjh N) [] 58 ⟨[2,3,4,5,17,18,19],(.cons (.ptr 2000000 0) (.cons (.ptr 2000001 0) (.cons (.ptr 2000002 0) (.cons (.own 2000003) (.cons (.list z6k) zpd))))),[(2000000,[2], .boxV X3),(2000001,[3], .boxV Y1),(2000002,[4], .boxC [.nils, .nils, .int .i64 0]),(2000003,[5], .sl (.int .i64))],[]⟩ (2,⟨[2,3,4,5],(.cons (.ptr 2000000 0) (.cons (.ptr 2000001 0) (.cons (.ptr 2000002 0) (.own 2000003)))),[(2000000,[2], .boxV X3),(2000001,[3], .boxV Y1),(2000002,[4], .boxC [.nils, .nils, .int .i64 0]),(2000003,[5], .sl (.int .i64))],[]⟩) [] (z7y N N) (z1r N) (fun f v=>f v.1.2.2.2.2.1 v.1.2.2.2.2.2.1 v.1.2.2.2.2.2.2 v.2.1 v.2.2.1 v.2.2.2.2.1) (fun r b0 b1 b2 b3 b4 b5=>r (((),((),((),((),(b0,(b1,b2)))))),(b3,(b4,((),(b5,())))))) rfl (fun _=>rfl) (fun _ _=>rfl) (by kernel_rfl)
def zmn:SC PG:=fz (zjh N) Tryz.func16 [zsf N,zse N] (.cons (.val X3) (.val Y1)) (.val z0k) [] (fun v=>zb4 N v.1 v.2) (by kernel_rfl)
def y4r:SC PG:=fz (E0 [] [] []) Tryz.func19 [] (.val z0k) .bool [] (fun v=>zrn N v) (by kernel_rfl)
def clone82_ren:Go.Shelf.Ren:=⟨fun | 41=>82 | n=>n,fun | 22=>27 | 23=>3 | n=>n,fun n=>n⟩
theorem yol:CloneL PG clone82_ren:={
 mixed:=by kernel_rfl
 f41:=⟨Tryz.f82.name,by decide,Tryz.func82.trans (congrArg some (by kernel_rfl))⟩
 t4:=Tryz.underlying4
 a4:=Tryz.isAgg4
 z4:=Tryz.sizeOf4
 v4:=Tryz.zeroValue4
 t22:=Tryz.underlying27
 a22:=Tryz.isAgg27
 z22:=Tryz.sizeOf27
 v22:=Tryz.zeroValue27
 }
def zid:Code:=match Tryz.f82.body with | some c=>c | none=> .skip
def z7s(N:Nat):Ctr:=zhn (.list (.int .i64)) (.fresh (.int .i64)) [] (fun v=>z64 N v)
def ti_slices_Clone_s_int_int:TI:=match y66 tyRows 3 with | some t=>t | none=>⟨.other,0,0,[],none⟩
theorem zdu(N:Nat):z4i PG 82 (fun vs=>(z7s N).run vs some):=by
 have e1:clone82_ren.f 41=82:=by kernel_rfl
 have e2:clone82_ren.t 23=3:=by kernel_rfl
 have h:=zz2 yol (ei:=ti_slices_Clone_s_int_int) (ty:=(.int .i64)) (fn:=Tryz.f82) (c:=zid) (by rw[e2];exact zoi zoq 3 _ (by kernel_rfl)) (by kernel_rfl) (by rw[e1];exact Tryz.func82) (by kernel_rfl) (by kernel_rfl)
 rw[e1,show ti_slices_Clone_s_int_int.bytes=8 by kernel_rfl]at h
 exact h
def zhb:SC PG:=⟨82,z7s N,zdu N⟩
def zyg:SC PG:=fz (E0 [] [] []) Tryz.func43 [] (.cons (.val Q0) (.int .i64)) .bool [] (fun v=>zoj N v.1 v.2) (by kernel_rfl)
def z6s:SC PG:=fz (E0 [(K6,[1])] [] []) Tryz.func156 [] (.list J4) (.clo 229 (.bx (.list J4) 0)) [] (fun v=>J6 N v) (by kernel_rfl)
def zqn:SR PG:=rz (E0 [] [] []) 1 ([]:List (SL PG Tryz.f97.ntmps (Y0 Tryz.f97))) ([]:List (SL PG Tryz.f97.ntmps (Y0 Tryz.f97))) 116 117 ⟨[15,16,3,4,5],(.cons (.int .i64) (.cons (.agg (.cons .bool (.cons (.int .i64) (.list (.int .u8))))) (.cons (.ptr 5000000 0) (.cons (.ptr 5000001 0) (.ptr 5000003 0))))),[(5000000,[3], .box (.int .i64)),(5000001,[4], .box (.own 5000002)),(5000002,[4,0], .sl (.int .u8)),(5000003,[5], .box (.int .i64))],[]⟩ (1,⟨[], .nil,[(5000000,[5000000], .box (.int .i64)),(5000001,[5000001], .box (.list (.int .u8))),(5000002,[5000002], .sl (.int .u8)),(5000003,[5000003], .boxC [.int .i64 0])],[]⟩) [(0,⟨[], .nil,[(5000000,[5000000], .box (.int .i64)),(5000001,[5000001], .box (.own 5000002)),(5000002,[5000002], .sl (.int .u8)),(5000003,[5000003], .box (.int .i64))],[]⟩)] (fun v=>zm0 N v.1.1 v.1.2.1.1 v.1.2.1.2.1 v.1.2.1.2.2 v.2.1 v.2.2.2.1 v.2.2.2.2.1) (by kernel_rfl)
def G9:SE PG:=E0 [] [17] [] [] [zqn N]
def z34:SL PG Tryz.f229.ntmps (Y0 Tryz.f229):=lz N (G9 N) [] 6 ⟨[0,1,3],(.cons (.yld 5000000) (.cons (.bx (.list J4) 0) (.int .i64))),[(5000000,[5000000], .rng 1 ya1 0),(5000001,[5000001], .box (.int .i64)),(5000002,[5000002], .box (.own 5000003)),(5000003,[5000003], .sl (.int .u8)),(5000004,[5000004], .box (.int .i64))],[]⟩ (1,⟨[], .nil,[(5000000,[5000000], .rng 1 ya1 1),(5000001,[5000001], .box (.int .i64)),(5000002,[5000002], .box (.list (.int .u8))),(5000004,[5000004], .boxC [.int .i64 0]),(5000003,[5000003], .sl (.int .u8))],[]⟩) [(2,⟨[], .nil,[(5000000,[5000000], .rng 1 ya1 0),(5000001,[5000001], .box (.int .i64)),(5000002,[5000002], .box (.own 5000003)),(5000003,[5000003], .sl (.int .u8)),(5000004,[5000004], .box (.int .i64))],[]⟩)] (X6 N N) (V6 N) (fun f v=>f v.1.2.1 v.1.2.2 v.2.2.1 v.2.2.2.2.1 v.2.2.2.2.2.1) (fun r b0 b1 b2 b3 b4=>r (((),(b0,b1)),(((),((),())),(b2,((),(b3,(b4,()))))))) rfl (fun _=>rfl) (fun _ _=>rfl) (by kernel_rfl)
def z4j:SM PG:=mz (G9 N) Tryz.func229 [z34 N] ⟨[0,1],(.cons (.yld 5000000) (.bx (.list J4) 0)),[(5000000,[0], .rng 1 ya1 0),(5000001,[0,0], .box (.int .i64)),(5000002,[0,1], .box (.own 5000003)),(5000003,[0,1,0], .sl (.int .u8)),(5000004,[0,2], .box (.int .i64))],[]⟩ ⟨[0],(.tup .nil),[(5000000,[5000000], .rng 1 ya1 1),(5000001,[5000001], .box (.int .i64)),(5000002,[5000002], .box (.list (.int .u8))),(5000004,[5000004], .boxC [.int .i64 0]),(5000003,[5000003], .sl (.int .u8))],[]⟩ [⟨[0],(.tup .nil),[(5000000,[5000000], .rng 1 ya1 0),(5000001,[5000001], .box (.int .i64)),(5000002,[5000002], .box (.own 5000003)),(5000003,[5000003], .sl (.int .u8)),(5000004,[5000004], .box (.int .i64))],[]⟩] (fun v=>U4 N v.1.2 v.2.2.1 v.2.2.2.2.1 v.2.2.2.2.2.1) (by kernel_rfl)
def y2x:SE PG:=E0 [] [] [zyg N,z6s N] [z4j N]
def y0n:SL PG Tryz.f97.ntmps (Y0 Tryz.f97):=gz (y2x N) 1 58 (.tmp 14) ⟨[2,3,4,5,14],(.cons (.ptr 2000000 0) (.cons (.ptr 2000001 0) (.cons (.ptr 2000002 0) (.cons (.ptr 2000003 0) (.clo 229 (.bx (.list J4) 0)))))),[(2000000,[2], .boxV Q0),(2000001,[3], .box (.int .i64)),(2000002,[4], .boxC [.nils]),(2000003,[5], .boxC [.int .i64 0])],[]⟩ (1,⟨[4,5],Sh2_,[(2000000,[4], .box (.list (.int .u8))),(2000001,[5], .boxC [.int .i64 0])],[]⟩) [(0,⟨[2,3,4,5],(.cons (.ptr 2000000 0) (.cons (.ptr 2000001 0) (.cons (.ptr 2000002 0) (.ptr 2000004 0)))),[(2000000,[2], .boxV Q0),(2000001,[3], .box (.int .i64)),(2000002,[4], .box (.own 2000003)),(2000003,[4,0], .sl (.int .u8)),(2000004,[5], .box (.int .i64))],[]⟩)] (fun v=>znx N v.1.2.2.2.2 v.2.1 v.2.2.1) (by kernel_rfl)
def yag:SC PG:=fz (y2x N) Tryz.func97 [y0n N] (.cons (.val Q0) (.int .i64)) (.tup (.cons (.list (.int .u8)) (.int .i64))) [] (fun v=>zvj N v.1 v.2) (by kernel_rfl)
def zuu:SE PG:=E0 [] [] []
def zwr:SL PG Tryz.f99.ntmps (Y0 Tryz.f99):=lz N (zuu) [] 58 ⟨[3,6,7,8],(.cons (.int .u64) (.cons (.list (.int .u8)) zpd)),[],[]⟩ (2,⟨[3],(.int .u64),[],[]⟩) [] (zah N N) (z3p N) (fun f v=>f v.1.1 v.1.2.1 v.1.2.2.1 v.1.2.2.2) (fun r b0 b1 b2 b3=>r ((b0,(b1,(b2,b3))),())) rfl (fun _=>rfl) (fun _ _=>rfl) (by kernel_rfl)
def y5q:SC PG:=fz (zuu) Tryz.func99 [zwr N] (.list (.int .u8)) (.int .u64) [] (fun v=>zlr N v) (by kernel_rfl)
def zrg:SC PG:=fz (E0 [] [] [yag N,y5q N]) Tryz.func84 [] (.cons (.bx (.cons (.list (.int .i64)) (.cons (.list (.int .i64)) (.cons (.int .i64) (.cons (.int .i64) (.cons (.list (.list (.int .u8))) (.cons (.list J4) (.cons (.list .bool) (.cons (.list (.int .i64)) (.cons (.int .i64) (.cons (.int .i64) (.cons (.int .i64) (.cons (.int .i64) (.cons (.list (.int .i64)) (.cons (.list (.int .u64)) (.list (.int .i64)))))))))))))))) 0) (.cons (.int .i64) (.int .i64))) .bool [] (fun v=>zan N v.1.1 v.1.2.1 v.1.2.2.1 v.1.2.2.2.1 v.1.2.2.2.2.1 v.1.2.2.2.2.2.1 v.1.2.2.2.2.2.2.1 v.1.2.2.2.2.2.2.2.1 v.1.2.2.2.2.2.2.2.2.1 v.1.2.2.2.2.2.2.2.2.2.1 v.1.2.2.2.2.2.2.2.2.2.2.1 v.1.2.2.2.2.2.2.2.2.2.2.2.1 v.1.2.2.2.2.2.2.2.2.2.2.2.2.1 v.1.2.2.2.2.2.2.2.2.2.2.2.2.2.1 v.1.2.2.2.2.2.2.2.2.2.2.2.2.2.2 v.2.1 v.2.2) (by kernel_rfl)
def zm5:SM PG:=mz (E0 [] [] []) Tryz.func83 [] ⟨[0],(.ptr 5000000 0),[(5000000,[0], .box (.cons (.list (.int .i64)) (.cons (.own 5000001) Sh0_))),(5000001,[0,1], .sl (.int .i64))],[]⟩ ⟨[0],(.clo 139 (.ptr 2000000 0)),[(2000000,[0,0], .box (.ptr 5000000 0)),(5000000,[5000000], .box (.cons (.list (.int .i64)) (.cons (.own 5000001) Sh0_))),(5000001,[5000001], .sl (.int .i64))],[]⟩ [] (fun v=>zat N v.2.1.1 v.2.1.2.2.1 v.2.1.2.2.2.1 v.2.1.2.2.2.2.1 v.2.1.2.2.2.2.2.1 v.2.1.2.2.2.2.2.2.1 v.2.1.2.2.2.2.2.2.2.1 v.2.1.2.2.2.2.2.2.2.2.1 v.2.1.2.2.2.2.2.2.2.2.2.1 v.2.1.2.2.2.2.2.2.2.2.2.2.1 v.2.1.2.2.2.2.2.2.2.2.2.2.2.1 v.2.1.2.2.2.2.2.2.2.2.2.2.2.2.1 v.2.1.2.2.2.2.2.2.2.2.2.2.2.2.2.1 v.2.1.2.2.2.2.2.2.2.2.2.2.2.2.2.2 v.2.2.1) (by kernel_rfl)
def zmc:SR PG:=rz (E0 [] [] [zrg N]) 0 ([]:List (SL PG Tryz.f40.ntmps (Y0 Tryz.f40))) ([]:List (SL PG Tryz.f40.ntmps (Y0 Tryz.f40))) 500 501 ⟨[27,28,5,8],(.cons (.int .i64) (.cons (.int .i64) (.cons (.ptr 5000000 0) (.ptr 5000001 0)))),[(5000000,[5], .box (.int .i64)),(5000001,[8], .box (.ptr 5000002 0)),(5000002,[8,0], .box (.cons (.list (.int .i64)) (.cons (.own 5000003) Sh0_))),(5000003,[8,0,1], .sl (.int .i64))],[]⟩ (2,⟨[], .nil,[(5000000,[5000000], .box (.int .i64)),(5000001,[5000001], .box (.ptr 5000002 0)),(5000002,[5000002], .box yjf),(2000003,[5000002,1], .sl (.int .i64))],[]⟩) [(0,⟨[], .nil,[(5000000,[5000000], .box (.int .i64)),(5000001,[5000001], .box (.ptr 5000002 0)),(5000002,[5000002], .box yjf),(2000003,[5000002,1], .sl (.int .i64))],[]⟩)] (fun v=>z7n N v.1.1 v.1.2.1 v.2.1 v.2.2.2.1.1 v.2.2.2.1.2.2.1 v.2.2.2.1.2.2.2.1 v.2.2.2.1.2.2.2.2.1 v.2.2.2.1.2.2.2.2.2.1 v.2.2.2.1.2.2.2.2.2.2.1 v.2.2.2.1.2.2.2.2.2.2.2.1 v.2.2.2.1.2.2.2.2.2.2.2.2.1 v.2.2.2.1.2.2.2.2.2.2.2.2.2.1 v.2.2.2.1.2.2.2.2.2.2.2.2.2.2.1 v.2.2.2.1.2.2.2.2.2.2.2.2.2.2.2.1 v.2.2.2.1.2.2.2.2.2.2.2.2.2.2.2.2.1 v.2.2.2.1.2.2.2.2.2.2.2.2.2.2.2.2.2.1 v.2.2.2.1.2.2.2.2.2.2.2.2.2.2.2.2.2.2 v.2.2.2.2.1) (by kernel_rfl)
def z93:SE PG:=E0 [] [34] [zpf N] [] [zmc N]
def zcm:SL PG Tryz.f139.ntmps (Y0 Tryz.f139):=lz N (z93 N) [] 2 ⟨[0,1],(.cons (.yld 5000000) (.ptr 5000005 0)),[(5000005,[5000005], .box (.ptr 5000003 0)),(5000003,[5000003], .box (.cons (.list (.int .i64)) (.cons (.own 2000002) Sh0_))),(2000002,[5000003,1], .sl (.int .i64)),(5000000,[5000000], .rng 0 ya0 0),(5000001,[5000001], .box (.int .i64)),(5000002,[5000002], .box (.ptr 5000003 0))],[]⟩ (1,⟨[], .nil,[(5000000,[5000000], .rng 0 ya0 2),(5000001,[5000001], .box (.int .i64)),(5000002,[5000002], .box (.ptr 5000003 0)),(5000003,[5000003], .box yex),(2000004,[5000003,1], .sl (.int .i64)),(5000005,[5000005], .box (.ptr 5000003 0))],[]⟩) [(2,⟨[], .nil,[(5000000,[5000000], .rng 0 ya0 0),(5000001,[5000001], .box (.int .i64)),(5000002,[5000002], .box (.ptr 5000003 0)),(5000003,[5000003], .box yex),(2000004,[5000003,1], .sl (.int .i64)),(5000005,[5000005], .box (.ptr 5000003 0))],[]⟩)] (K1 N N) (Q4 N) (fun f v=>f v.2.2.1.1 v.2.2.1.2.2.1 v.2.2.1.2.2.2.1 v.2.2.1.2.2.2.2.1 v.2.2.1.2.2.2.2.2.1 v.2.2.1.2.2.2.2.2.2.1 v.2.2.1.2.2.2.2.2.2.2.1 v.2.2.1.2.2.2.2.2.2.2.2.1 v.2.2.1.2.2.2.2.2.2.2.2.2.1 v.2.2.1.2.2.2.2.2.2.2.2.2.2.1 v.2.2.1.2.2.2.2.2.2.2.2.2.2.2.1 v.2.2.1.2.2.2.2.2.2.2.2.2.2.2.2.1 v.2.2.1.2.2.2.2.2.2.2.2.2.2.2.2.2.1 v.2.2.1.2.2.2.2.2.2.2.2.2.2.2.2.2.2 v.2.2.2.1 v.2.2.2.2.2.1) (fun r b0 b1 b2 b3 b4 b5 b6 b7 b8 b9 b10 b11 b12 b13 b14 b15=>r (((),()),((),((b0,((),(b1,(b2,(b3,(b4,(b5,(b6,(b7,(b8,(b9,(b10,(b11,(b12,b13)))))))))))))),(b14,(((),()),(b15,((),())))))))) rfl (fun _=>rfl) (fun _ _=>rfl) (by kernel_rfl)
def zg0:SM PG:=mz (z93 N) Tryz.func139 [zcm N] ⟨[0,1],(.cons (.yld 5000000) (.ptr 5000005 0)),[(5000000,[0], .rng 0 ya0 0),(5000001,[0,0], .box (.int .i64)),(5000002,[0,1], .box (.ptr 5000003 0)),(5000003,[0,1,0], .box (.cons (.list (.int .i64)) (.cons (.own 5000004) Sh0_))),(5000004,[0,1,0,1], .sl (.int .i64)),(5000005,[1], .box (.ptr 5000003 0))],[]⟩ ⟨[0],(.tup .nil),[(5000000,[5000000], .rng 0 ya0 2),(5000001,[5000001], .box (.int .i64)),(5000002,[5000002], .box (.ptr 5000003 0)),(5000003,[5000003], .box yex),(2000004,[5000003,1], .sl (.int .i64)),(5000005,[5000005], .box (.ptr 5000003 0))],[]⟩ [⟨[0],(.tup .nil),[(5000000,[5000000], .rng 0 ya0 0),(5000001,[5000001], .box (.int .i64)),(5000002,[5000002], .box (.ptr 5000003 0)),(5000003,[5000003], .box yex),(2000004,[5000003,1], .sl (.int .i64)),(5000005,[5000005], .box (.ptr 5000003 0))],[]⟩] (fun v=>z5e N v.2.2.1 v.2.2.2.2.1.1 v.2.2.2.2.1.2.2.1 v.2.2.2.2.1.2.2.2.1 v.2.2.2.2.1.2.2.2.2.1 v.2.2.2.2.1.2.2.2.2.2.1 v.2.2.2.2.1.2.2.2.2.2.2.1 v.2.2.2.2.1.2.2.2.2.2.2.2.1 v.2.2.2.2.1.2.2.2.2.2.2.2.2.1 v.2.2.2.2.1.2.2.2.2.2.2.2.2.2.1 v.2.2.2.2.1.2.2.2.2.2.2.2.2.2.2.1 v.2.2.2.2.1.2.2.2.2.2.2.2.2.2.2.2.1 v.2.2.2.2.1.2.2.2.2.2.2.2.2.2.2.2.2.1 v.2.2.2.2.1.2.2.2.2.2.2.2.2.2.2.2.2.2.1 v.2.2.2.2.1.2.2.2.2.2.2.2.2.2.2.2.2.2.2 v.2.2.2.2.2.1) (by kernel_rfl)
def zud:SE PG:=E0 [(K6,[2000003])] [26] [zhb N] [zm5 N,zg0 N]
def zvv:SL PG Tryz.f40.ntmps (Y0 Tryz.f40):=gz (zud N) 0 250 (.tmp 26) ⟨[5,6,8,26],(.cons (.ptr 2000000 0) (.cons (.ptr 2000001 0) (.cons (.ptr 2000002 0) (.clo 139 (.ptr 2000005 0))))),[(2000000,[5], .box (.int .i64)),(2000001,[6], .boxC [.nils, .nils, .int .i64 0]),(2000002,[8], .box (.ptr 2000003 0)),(2000003,[8,0], .box yex),(2000004,[8,0,1], .sl (.int .i64)),(2000005,[26,0], .box (.ptr 2000003 0))],[]⟩ (2,⟨[6,8],Sh2_,[(2000000,[6], .boxC [.nils, .nils, .int .i64 0]),(2000001,[8], .box (.ptr 2000002 0)),(2000002,[8,0], .box yjf),(2000003,[8,0,1], .sl (.int .i64))],[]⟩) [(0,⟨[6,8],Sh2_,[(2000000,[6], .boxC [.nils, .nils, .int .i64 0]),(2000001,[8], .box (.ptr 2000002 0)),(2000002,[8,0], .box yjf),(2000003,[8,0,1], .sl (.int .i64))],[]⟩)] (fun v=>zj5 N v.2.1 v.2.2.2.2.1.1 v.2.2.2.2.1.2.2.1 v.2.2.2.2.1.2.2.2.1 v.2.2.2.2.1.2.2.2.2.1 v.2.2.2.2.1.2.2.2.2.2.1 v.2.2.2.2.1.2.2.2.2.2.2.1 v.2.2.2.2.1.2.2.2.2.2.2.2.1 v.2.2.2.2.1.2.2.2.2.2.2.2.2.1 v.2.2.2.2.1.2.2.2.2.2.2.2.2.2.1 v.2.2.2.2.1.2.2.2.2.2.2.2.2.2.2.1 v.2.2.2.2.1.2.2.2.2.2.2.2.2.2.2.2.1 v.2.2.2.2.1.2.2.2.2.2.2.2.2.2.2.2.2.1 v.2.2.2.2.1.2.2.2.2.2.2.2.2.2.2.2.2.2.1 v.2.2.2.2.1.2.2.2.2.2.2.2.2.2.2.2.2.2.2 v.2.2.2.2.2.1) (by kernel_rfl)
def y4q:SC PG:=fz (zud N) Tryz.func40 [zvv N] (.cons (.val z0k) (.cons (.val X3) (.int .i64))) (.tup (.cons (.val z0k) (.int .i64))) [] (fun v=>zrm N v.1 v.2.1 v.2.2) (by kernel_rfl)
def zpl:SC PG:=fz (E0 [] [] [y4q N]) Tryz.func17 [] (.cons (.val z0k) (.cons (.val X3) (.int .i64))) (.val zv0) [] (fun v=>z42 N v.1 v.2.1 v.2.2) (by kernel_rfl)
def zuf:SE PG:=E0 [(K6,[2000002])] [] [zao N]
def zw1:SL PG Tryz.f33.ntmps (Y0 Tryz.f33):=lz N (zuf N) [] 58 ⟨[1,2,3,4],Sh5_,[(2000000,[1], .boxV Q0),(2000001,[2], .boxC [.int .i64 0, .nils, .nils]),(2000002,[3], .box (.cons (.int .i64) (.cons (.own 2000003) (.own 2000004)))),(2000003,[3,1], .sl (.list (.int .u8))),(2000004,[3,2], .sl J4)],[]⟩ (2,⟨[2,3],Sh2_,[(2000000,[2], .boxC [.int .i64 0, .nils, .nils]),(2000001,[3], .box (.cons (.int .i64) (.cons (.own 2000002) (.own 2000003)))),(2000002,[3,1], .sl (.list (.int .u8))),(2000003,[3,2], .sl J4)],[]⟩) [] (za1 N N) (z37 N) (fun f v=>f v.1.2.2.2 v.2.1 v.2.2.2.1.1 v.2.2.2.2.1 v.2.2.2.2.2.1) (fun r b0 b1 b2 b3 b4=>r (((),((),((),b0))),(b1,((),((b2,((),())),(b3,(b4,()))))))) rfl (fun _=>rfl) (fun _ _=>rfl) (by kernel_rfl)
def zpi:SC PG:=fz (zuf N) Tryz.func33 [zw1 N] (.val Q0) (.val Q0) [] (fun v=>zcy N v) (by kernel_rfl)
def zj6:SC PG:=fz (E0 [] [] []) Tryz.func21 [] (.cons (.val X3) (.int .i64)) (.int .i64) [] (fun v=>z8u N v.1 v.2) (by kernel_rfl)
def y7x:SC PG:=fz (E0 [(K6,[42,30,30,4126])] [] [zj7 N,zao N]) Tryz.func37 [] (.cons (.val Q0) (.val zuz)) (.tup (.cons (.val Q0) (.int .i64))) [] (fun v=>zox N v.1 v.2) (by kernel_rfl)
def zl3:SC PG:=fz (E0 [] [] [zj6 N,zkm N,y7x N]) Tryz.func14 [] (.cons (.val X3) (.cons (.list (.int .i64)) (.val ze5))) (.tup (.cons (.val X3) (.int .i64))) [] (fun v=>z6m N v.1 v.2.1 v.2.2) (by kernel_rfl)
def zum:SE PG:=E0 [] [] []
def zwe:SL PG Tryz.f23.ntmps (Y0 Tryz.f23):=lz N (zum) [] 58 ⟨[0,1,5],(.cons (.list (.int .i64)) (.cons (.list (.int .i64)) (.int .i64))),[],[]⟩ (1,⟨[4], .bool,[],[]⟩) [(2,⟨[], .nil,[],[]⟩)] (za9 N N) (z3g N) (fun f v=>f v.1.1 v.1.2.1 v.1.2.2) (fun r b0 b1 b2=>r ((b0,(b1,b2)),())) rfl (fun _=>rfl) (fun _ _=>rfl) (by kernel_rfl)
def zj9:SC PG:=fz (zum) Tryz.func23 [zwe N] (.cons (.list (.int .i64)) (.list (.int .i64))) .bool [] (fun v=>z8w N v.1 v.2) (by kernel_rfl)
def y4s:SC PG:=fz (E0 [] [] [zj9 N]) Tryz.func15 [] (.cons (.val z0k) (.val z0k)) .bool [] (fun v=>y24 N v.1 v.2) (by kernel_rfl)
def zgt:SE PG:=E0 [] [] [zx0 N,zmn N,y4r N,zpl N,zpi N,zl3 N,zj9 N,y4s N]
def zre:SL PG Tryz.f11.ntmps (Y0 Tryz.f11):=pz (zgt N) [] 4095 ⟨[0], .bool,[],[]⟩ (1,⟨[0], .bool,[],[]⟩) [] (fun v=>y5 N v.1) (by kernel_rfl)
def zrf:SL PG Tryz.f11.ntmps (Y0 Tryz.f11):=pz (zgt N) [zre N] 31 ⟨[1,2],Sh2_,[(2000000,[1], .boxV zbv),(2000001,[2], .boxV z0k)],[]⟩ (1,⟨[0], .bool,[],[]⟩) [] (fun v=>zlu N v.2.1 v.2.2.1) (by kernel_rfl)
def y0c:SC PG:=fz (zgt N) Tryz.func11 [zrf N] .nil .bool [] (fun _=>zc7 N) (by kernel_rfl)
def y0u:SC PG:=fz (E0 [] [] []) Tryz.func76 [] (.int .u8) (.val z33) [] (fun v=>zif N v) (by kernel_rfl)
def zpk:SC PG:=fz (E0 [] [] []) Tryz.func147 [] (.int .u8) .str [] (fun v=>zb0 N v) (by kernel_rfl)
def y81:SC PG:=fz (E0 [] [] [zpk N]) Tryz.func145 [] (.int .u8) .str [] (fun v=>zk8 N v) (by kernel_rfl)
def y1d:SC PG:=fz (E0 [] [] []) Tryz.func150 [] (.int .u8) .str [] (fun v=>zil N v) (by kernel_rfl)
def zkx:SE PG:=E0 [] [] [y81 N,zpk N,z07 N,zap N,y1d N,zfd N]
def zwk:SL PG Tryz.f90.ntmps (Y0 Tryz.f90):=pz (zkx N) [] 127 ⟨[1,2,3,5,6,7],(.cons (.ptr 2000000 0) (.cons (.ptr 2000001 0) (.cons .str (.cons (.ptr 2000002 0) (.cons .str .str))))),[(2000000,[1], .boxV u7),(2000001,[2], .boxC [.int .i64 0, .str [], .str [], .str [], .str [], .str [], .str [], .int .i64 0]),(2000002,[5], .boxV Z2)],[]⟩ (1,⟨[2],(.ptr 2000000 0),[(2000000,[2], .boxV Z8)],[]⟩) [] (fun v=>z12 N v.1.2.2.1 v.1.2.2.2.2.1 v.1.2.2.2.2.2 v.2.1 v.2.2.2.1) (by kernel_rfl)
def zwl:SL PG Tryz.f90.ntmps (Y0 Tryz.f90):=pz (zkx N) [zwk N] 31 ⟨[1,2,3,5],(.cons (.ptr 2000000 0) (.cons (.ptr 2000001 0) (.cons .str (.ptr 2000002 0)))),[(2000000,[1], .boxV u7),(2000001,[2], .boxC [.int .i64 0, .str [], .str [], .str [], .str [], .str [], .str [], .int .i64 0]),(2000002,[5], .boxV Z2)],[]⟩ (1,⟨[2],(.ptr 2000000 0),[(2000000,[2], .boxV Z8)],[]⟩) [] (fun v=>z13 N v.1.2.2.1 v.2.1 v.2.2.2.1) (by kernel_rfl)
def y5m:SC PG:=fz (zkx N) Tryz.func90 [zwl N] (.val u7) (.val Z8) [] (fun v=>zdc N v) (by kernel_rfl)
def zne:SE PG:=E0 [(K6,[2000000])] [] [y5m N]
def zr8:SL PG Tryz.f47.ntmps (Y0 Tryz.f47):=lz N (zne N) [] 58 ⟨[0,1,5,6],(.cons (.list u7) (.cons (.int .i64) Sh9_)),[(2000000,[5], .sl Z8)],[]⟩ (2,⟨[5],(.own 2000000),[(2000000,[5], .sl Z8)],[]⟩) [] (z74 N N) (y9 N) (fun f v=>f v.1.1 v.1.2.1 v.1.2.2.2 v.2.1) (fun r b0 b1 b2 b3=>r ((b0,(b1,((),b2))),(b3,()))) rfl (fun _=>rfl) (fun _ _=>rfl) (by kernel_rfl)
def y08:SC PG:=fz (zne N) Tryz.func47 [zr8 N] (.cons (.list u7) (.int .i64)) (.list Z8) [] (fun v=>zfn N v.1 v.2) (by kernel_rfl)
def y53:SC PG:=fz (E0 [] [] []) Tryz.func49 [] (.int .u8) .str [] (fun v=>zhe N v) (by kernel_rfl)
def zug:SE PG:=E0 [(K6,[63])] [] [zjc N,zja N]
def zw4:SL PG Tryz.f48.ntmps (Y0 Tryz.f48):=lz N (zug N) [] 58 ⟨[1,2,4,5],(.cons .str Sh8_),[(2000000,[2], .boxV Y1),(2000001,[4], .boxC [.nils, .int .i64 0, .int .i64 0, .int .i64 0, .nils, .int .i64 0, .int .i64 0, .int .i64 0, .nils, .int .i64 0, .int .i64 0])],[]⟩ (1,⟨[4],(.ptr 2000000 0),[(2000000,[4], .boxV zee)],[]⟩) [(2,⟨[1,2,4],(.cons .str Sh2_),[(2000000,[2], .boxV Y1),(2000001,[4], .boxC [.nils, .int .i64 0, .int .i64 0, .int .i64 0, .nils, .int .i64 0, .int .i64 0, .int .i64 0, .nils, .int .i64 0, .int .i64 0])],[]⟩)] (z7d N N) (z38 N) (fun f v=>f v.1.1 v.1.2.2.2 v.2.1) (fun r b0 b1 b2=>r ((b0,((),((),b1))),(b2,((),())))) rfl (fun _=>rfl) (fun _ _=>rfl) (by kernel_rfl)
def y52:SC PG:=fz (zug N) Tryz.func48 [zw4 N] (.cons (.val Y1) .str) (.val zee) [] (fun v=>zhd N v.1 v.2) (by kernel_rfl)
def yad:SC PG:=fz (E0 [] [] []) Tryz.func51 [] (.cons (.val Y1) (.int .u8)) (.int .i64) [] (fun v=>zob N v.1 v.2) (by kernel_rfl)
def zzy:SC PG:=fz (E0 [] [] [zj8 N,zja N,zcq N]) Tryz.func50 [] (.cons (.val Y1) (.int .i64)) (.tup (.cons (.val Y1) (.int .i64))) [] (fun v=>zfh N v.1 v.2) (by kernel_rfl)
def y1b:SC PG:=fz (E0 [(2000012,[11])] [] [zl5 N]) Tryz.func94 [] (.cons (.list Z8) (.list Z8)) (.list Z8) [] (fun v=>z8o N v.1 v.2) (by kernel_rfl)
def zn5:SE PG:=E0 [(K6,[2000004])] [] [zj8 N,zcq N,y1b N]
def zqu:SL PG Tryz.f52.ntmps (Y0 Tryz.f52):=lz N (zn5 N) [] 1018 ⟨[1,2,4,6,7,8,9],(.cons (.int .i64) (.cons (.ptr 2000000 0) (.cons (.ptr 2000001 0) (.cons (.int .i64) (.cons (.ptr 2000002 0) (.cons (.ptr 2000003 0) (.int .i64))))))),[(2000000,[2], .boxV Y1),(2000001,[4], .boxC [.nils, .int .i64 0, .int .i64 0, .int .i64 0, .nils, .int .i64 0, .int .i64 0, .int .i64 0, .nils]),(2000002,[7], .boxV z6k),(2000003,[8], .box yq4),(2000004,[8,4], .sl z6k)],[]⟩ (2,⟨[1,2,4,7,8],(.cons (.int .i64) (.cons (.ptr 2000000 0) (.cons (.ptr 2000001 0) (.cons (.ptr 2000002 0) (.ptr 2000003 0))))),[(2000000,[2], .boxV Y1),(2000001,[4], .boxC [.nils, .int .i64 0, .int .i64 0, .int .i64 0, .nils, .int .i64 0, .int .i64 0, .int .i64 0, .nils]),(2000002,[7], .boxV z6k),(2000003,[8], .box yq4),(2000004,[8,4], .sl z6k)],[]⟩) [] (z4a N N) (z0t N) (fun f v=>f v.1.1 v.1.2.2.2.1 v.1.2.2.2.2.2.2 v.2.1 v.2.2.2.1 v.2.2.2.2.1.1 v.2.2.2.2.1.2.1 v.2.2.2.2.1.2.2.1 v.2.2.2.2.1.2.2.2.1 v.2.2.2.2.1.2.2.2.2.2.1 v.2.2.2.2.1.2.2.2.2.2.2.1 v.2.2.2.2.1.2.2.2.2.2.2.2.1 v.2.2.2.2.1.2.2.2.2.2.2.2.2 v.2.2.2.2.2.1) (fun r b0 b1 b2 b3 b4 b5 b6 b7 b8 b9 b10 b11 b12 b13=>r ((b0,((),((),(b1,((),((),b2)))))),(b3,((),(b4,((b5,(b6,(b7,(b8,((),(b9,(b10,(b11,b12)))))))),(b13,()))))))) rfl (fun _=>rfl) (fun _ _=>rfl) (by kernel_rfl)
def zzx:SC PG:=fz (zn5 N) Tryz.func52 [zqu N] (.cons (.val Y1) (.int .i64)) (.tup (.cons (.val Y1) (.int .i64))) [] (fun v=>zfg N v.1 v.2) (by kernel_rfl)
def zku:SE PG:=E0 [] [] [y08 N,ztz N,y53 N,y52 N,yad N,zzy N,zzx N]
def zw2:SL PG Tryz.f24.ntmps (Y0 Tryz.f24):=pz (zku N) [] 53 ⟨[2,3,4,13,14],(.cons (.ptr 2000000 0) (.cons (.ptr 2000001 0) (.cons (.ptr 2000002 0) (.cons (.int .u8) .bool)))),[(2000000,[2], .boxV Y1),(2000001,[3], .boxV v8),(2000002,[4], .boxC [.nils, .int .i64 0, .int .i64 0, .int .i64 0, .nils, .int .i64 0, .int .i64 0, .int .i64 0, .nils])],[]⟩ (1,⟨[4],(.ptr 2000000 0),[(2000000,[4], .boxV Y1)],[]⟩) [(0,⟨[2,3,4],y3c,[(2000000,[2], .boxV Y1),(2000001,[3], .boxV v8),(2000002,[4], .boxC [.nils, .int .i64 0, .int .i64 0, .int .i64 0, .nils, .int .i64 0, .int .i64 0, .int .i64 0, .nils])],[]⟩)] (fun v=>z0s N v.1.2.2.2.1 v.1.2.2.2.2 v.2.1 v.2.2.1) (by kernel_rfl)
def zw3:SL PG Tryz.f24.ntmps (Y0 Tryz.f24):=pz (zku N) [] 7 ⟨[2,3,4],y3c,[(2000000,[2], .boxV Y1),(2000001,[3], .boxV v8),(2000002,[4], .boxC [.nils, .int .i64 0, .int .i64 0, .int .i64 0, .nils, .int .i64 0, .int .i64 0, .int .i64 0, .nils])],[]⟩ (1,⟨[4],(.ptr 2000000 0),[(2000000,[4], .boxV Y1)],[]⟩) [] (fun v=>z2u N v.2.1 v.2.2.1) (by kernel_rfl)
def y51:SC PG:=fz (zku N) Tryz.func24 [zw2 N,zw3 N] (.cons (.val Y1) (.val v8)) (.val Y1) [] (fun v=>zlc N v.1 v.2) (by kernel_rfl)
def zuh:SE PG:=E0 [] [] [y0u N,zty N,y51 N]
def zw5:SL PG Tryz.f34.ntmps (Y0 Tryz.f34):=lz N (zuh N) [] 58 ⟨[1,4,5,7],(.cons (.list v8) Sh8_),[(2000000,[4], .boxC [.nils, .int .i64 0, .int .i64 0, .int .i64 0, .nils, .int .i64 0, .int .i64 0, .int .i64 0, .nils]),(2000001,[5], .boxV Y1)],[]⟩ (2,⟨[4,5],Sh2_,[(2000000,[4], .boxC [.nils, .int .i64 0, .int .i64 0, .int .i64 0, .nils, .int .i64 0, .int .i64 0, .int .i64 0, .nils]),(2000001,[5], .boxV Y1)],[]⟩) [] (za2 N N) (z68 N) (fun f v=>f v.1.1 v.1.2.2.2 v.2.2.1) (fun r b0 b1 b2=>r ((b0,((),((),b1))),((),(b2,())))) rfl (fun _=>rfl) (fun _ _=>rfl) (by kernel_rfl)
def y54:SC PG:=fz (zuh N) Tryz.func34 [zw5 N] (.cons (.int .u8) (.list v8)) (.val Y1) [] (fun v=>zld N v.1 v.2) (by kernel_rfl)
def y4w:SC PG:=fz (E0 [] [] [ztx N]) Tryz.func36 [] (.val zsc) (.val Q0) [] (fun v=>zlb N v) (by kernel_rfl)
def y4v:SC PG:=fz (E0 [] [] [y54 N,y4w N,ztw N,zpi N]) Tryz.func12 [] (.val zbe) (.val zbv) [] (fun v=>zla N v) (by kernel_rfl)
def zq1:SE PG:=E0 [] [] []
def zso:SL PG Tryz.f27.ntmps (Y0 Tryz.f27):=lz N (zq1) [] 58 ⟨[1,3,4],Sh6_,[(2000000,[1], .boxV Y1),(2000001,[3], .sl (.int .i64))],[]⟩ (2,⟨[3],(.own 2000000),[(2000000,[3], .sl (.int .i64))],[]⟩) [] (z82 N N) (z1w N) (fun f v=>f v.1.2.2 v.2.1 v.2.2.1) (fun r b0 b1 b2=>r (((),((),b0)),(b1,(b2,())))) rfl (fun _=>rfl) (fun _ _=>rfl) (by kernel_rfl)
def y0v:SC PG:=fz (zq1) Tryz.func27 [zso N] (.val Y1) (.fresh (.int .i64)) [] (fun v=>znp N v) (by kernel_rfl)
def zjj:SE PG:=E0 [(5,[2000002])] [] [z9w N]
def zsv:SL PG Tryz.f26.ntmps (Y0 Tryz.f26):=lz N (zjj N) [] 506 ⟨[5,8,9],(.cons (.own 2000000) y67),[(2000000,[5], .sl .bool),(2000001,[8], .sl (.int .i64))],[]⟩ (4,⟨[8],(.own 2000000),[(2000000,[8], .sl (.int .i64))],[]⟩) [] (z5q N N) (z20 N) (fun f v=>f v.1.2.2 v.2.1 v.2.2.1) (fun r b0 b1 b2=>r (((),((),b0)),(b1,(b2,())))) rfl (fun _=>rfl) (fun _ _=>rfl) (by kernel_rfl)
def zsw:SL PG Tryz.f26.ntmps (Y0 Tryz.f26):=lz N (zjj N) [] 60 ⟨[2,5,6],(.cons (.ptr 2000000 0) (.cons (.own 2000001) (.list (.int .i64)))),[(2000000,[2], .box (.list Y8)),(2000001,[5], .sl .bool)],[16,48]⟩ (2,⟨[5],(.own 2000000),[(2000000,[5], .sl .bool)],[]⟩) [] (z5r N N) (z21 N) (fun f v=>f v.1.2.2 v.2.1 v.2.2.1) (fun r b0 b1 b2=>r (((),((),b0)),(b1,(b2,())))) rfl (fun _=>rfl) (fun _ _=>rfl) (by kernel_rfl)
def y11:SC PG:=fz (zjj N) Tryz.func26 [zsw N,zsv N] (.cons (.val (.list Y8)) (.list (.int .i64))) (.fresh (.int .i64)) [] (fun v=>zdx N v.1 v.2) (by kernel_rfl)
def zpy:SE PG:=E0 [(K6,[2000002,2000003])] [] [y0v N,y11 N,zj6 N]
def zsg:SL PG Tryz.f13.ntmps (Y0 Tryz.f13):=lz N (zpy N) [] 58 ⟨[2,4,5,6,7],(.cons (.ptr 2000000 0) (.cons (.ptr 2000001 0) (.cons (.ptr 2000002 0) (.cons (.own 2000005) (.int .i64))))),[(2000000,[2], .boxV X3),(2000001,[4], .boxC [.nils, .nils, .int .i64 0]),(2000002,[5], .box (.cons (.own 2000003) yew)),(2000003,[5,0], .sl (.int .i64)),(2000004,[5,1], .sl (.int .i64)),(2000005,[6], .sl (.int .i64))],[]⟩ (2,⟨[4,5],Sh2_,[(2000000,[4], .boxC [.nils, .nils, .int .i64 0]),(2000001,[5], .box yjh),(2000002,[5,0], .sl (.int .i64)),(2000003,[5,1], .sl (.int .i64))],[]⟩) [] (z80 N N) (z1s N) (fun f v=>f v.1.2.2.2.2 v.2.1 v.2.2.2.1.2.2 v.2.2.2.2.1 v.2.2.2.2.2.1 v.2.2.2.2.2.2.1) (fun r b0 b1 b2 b3 b4 b5=>r (((),((),((),((),b0)))),(b1,((),(((),((),b2)),(b3,(b4,(b5,())))))))) rfl (fun _=>rfl) (fun _ _=>rfl) (by kernel_rfl)
def y0o:SC PG:=fz (zpy N) Tryz.func13 [zsg N] (.cons (.val X3) (.val Y1)) (.val z0k) [] (fun v=>zie N v.1 v.2) (by kernel_rfl)
def clone44_ren:Go.Shelf.Ren:=⟨fun | 41=>44 | n=>n,fun | 22=>31 | 23=>71 | n=>n,fun n=>n⟩
theorem yom:CloneL PG clone44_ren:={
 mixed:=by kernel_rfl
 f41:=⟨Tryz.f44.name,by decide,Tryz.func44.trans (congrArg some (by kernel_rfl))⟩
 t4:=Tryz.underlying4
 a4:=Tryz.isAgg4
 z4:=Tryz.sizeOf4
 v4:=Tryz.zeroValue4
 t22:=Tryz.underlying31
 a22:=Tryz.isAgg31
 z22:=Tryz.sizeOf31
 v22:=Tryz.zeroValue31
 }
def zbf:Code:=match Tryz.f44.body with | some c=>c | none=> .skip
def z2z(N:Nat):Ctr:=zhn (.list (.list (.int .u8))) (.fresh (.list (.int .u8))) [] (fun v=>z0l N v)
def ti_slices_Clone_s_s_uint8_s_uint8:TI:=match y66 tyRows 71 with | some t=>t | none=>⟨.other,0,0,[],none⟩
theorem z94(N:Nat):z4i PG 44 (fun vs=>(z2z N).run vs some):=by
 have e1:clone44_ren.f 41=44:=by kernel_rfl
 have e2:clone44_ren.t 23=71:=by kernel_rfl
 have h:=zz2 yom (ei:=ti_slices_Clone_s_s_uint8_s_uint8) (ty:=(.list (.int .u8))) (fn:=Tryz.f44) (c:=zbf) (by rw[e2];exact zoi zoq 71 _ (by kernel_rfl)) (by kernel_rfl) (by rw[e1];exact Tryz.func44) (by kernel_rfl) (by kernel_rfl)
 rw[e1,show ti_slices_Clone_s_s_uint8_s_uint8.bytes=24 by kernel_rfl]at h
 exact h
def zaw:SC PG:=⟨44,z2z N,z94 N⟩
def bclone45_ren:Go.Shelf.Ren:=⟨fun | 4=>45 | n=>n,fun | 22=>71 | 5=>5 | n=>n,fun n=>n⟩
theorem yl9:Go.Proofs.SlLaysK.n4 PG bclone45_ren:={
 mixed:=by kernel_rfl
 f4:=Tryz.func45.trans (congrArg some (by kernel_rfl))
 t4:=Tryz.underlying4
 a4:=Tryz.isAgg4
 z4:=Tryz.sizeOf4
 v4:=Tryz.zeroValue4
 t22:=Tryz.underlying71
 a22:=Tryz.isAgg71
 z22:=Tryz.sizeOf71
 v22:=Tryz.zeroValue71
 t5:=Tryz.underlying5
 i5:=by kernel_rfl}
def y63:Code:=match Tryz.f45.body with | some c=>c | none=> .skip
def zm1(N:Nat):Ctr:=zhn (.list (.int .u8)) (.fresh (.int .u8)) [] (fun v=>zny N v)
def ti_bytes_Clone:TI:=match y66 tyRows 5 with | some t=>t | none=>⟨.other,0,0,[],none⟩
theorem zsd(N:Nat):z4i PG 45 (fun vs=>(zm1 N).run vs some):=by
 have e1:bclone45_ren.f 4=45:=by kernel_rfl
 have e2:bclone45_ren.t 5=5:=by kernel_rfl
 have h:=y8a yl9 (ei:=ti_bytes_Clone) (ty:=(.int .u8)) (fn:=Tryz.f45) (c:=y63) (by rw[e2];exact zoi zoq 5 _ (by kernel_rfl)) (by kernel_rfl) (by rw[e1];exact Tryz.func45) (by kernel_rfl) (by kernel_rfl)
 rw[e1,show ti_bytes_Clone.bytes=1 by kernel_rfl]at h
 exact h
def y1l:SC PG:=⟨45,zm1 N,zsd N⟩
def yaf:SC PG:=fz (E0 [(K6,[42,32,32])] [] [zyg N,zaw N,y1l N]) Tryz.func22 [] (.cons (.val Q0) (.cons (.int .i64) (.cons (.int .i64) (.int .u8)))) (.tup (.cons (.val Q0) (.int .i64))) [] (fun v=>zvi N v.1 v.2.1 v.2.2.1 v.2.2.2) (by kernel_rfl)
def zi0:SC PG:=fz (E0 [] [] [y0c N,y4v N,zmn N,y0o N,zl3 N,zpl N,zj6 N,zkm N,yaf N,zj9 N]) Tryz.func7 [] (.cons (.val zbe) (.val ze5)) .bool [] (fun v=>zbr N v.1 v.2) (by kernel_rfl)
theorem zmd:z4i PG 7 (fun vs=>(zi0 N).c.run vs some):=(zi0 N).h
end
end Go.Proofs.YtljffhpbdmkplaaGreat
