/- Printed by a program of the session's: what the program's functions compute, and that they do. -/
import Derived.Test.YtljffhpbdmkplaaGreatDsPure
import Derived.Test.YtljffhpbdmkplaaGreatProg
import Derived.KernelRfl
set_option linter.all false
namespace Go.Proofs.YtljffhpbdmkplaaGreat
open Go Go.Dv Ds
set_option maxRecDepth 100000
noncomputable section
abbrev PG:=Tryz.prog
abbrev Sh0_:Sh:=(.cons (.int .i64) (.cons (.int .i64) (.cons (.list (.list (.int .u8))) (.cons (.list J4) (.cons (.list .bool) (.cons (.list (.int .i64)) (.cons (.int .i64) (.cons (.int .i64) (.cons (.int .i64) (.cons (.int .i64) (.cons (.list (.int .i64)) (.cons (.list (.int .u64)) (.list (.int .i64))))))))))))))
abbrev Sh1_:Sh:=(.cons (.int .i64) (.cons (.list (.list (.int .u8))) (.cons (.list J4) (.cons (.list .bool) (.cons (.list (.int .i64)) (.cons (.int .i64) (.cons (.int .i64) (.cons (.int .i64) (.cons (.int .i64) (.cons (.own 2000001) (.cons (.own 2000002) (.list (.int .i64)))))))))))))
abbrev Sh2_:Sh:=(.cons (.ptr 5000000 0) (.cons (.ptr 5000001 0) (.cons (.ptr 5000003 0) (.cons (.ptr 5000004 0) (.ptr 5000005 0)))))
abbrev Sh3_:Sh:=(.cons (.ptr 2000000 0) (.ptr 2000001 0))
abbrev Sh4_:Sh:=(.cons (.ptr 2000000 0) (.int .i64))
abbrev Sh5_:Sh:=(.cons (.ptr 2000000 0) (.cons (.ptr 2000001 0) (.cons (.ptr 2000002 0) (.int .i64))))
abbrev Sh6_:Sh:=(.cons (.ptr 2000000 0) (.cons (.ptr 2000003 0) (.cons (.ptr 2000004 0) (.cons (.ptr 2000005 0) (.cons (.own 2000006) (.int .i64))))))
abbrev Sh7_:Sh:=(.cons (.ptr 2000000 0) (.cons (.own 2000001) (.int .i64)))
abbrev Sh8_:Sh:=(.cons (.ptr 2000000 0) (.cons (.ptr 2000001 0) (.int .i64)))
abbrev Sh9_:Sh:=(.cons (.own 2000000) (.int .i64))
abbrev y1u:Sh:=(.cons (.ptr 2000000 0) (.cons (.ptr 2000001 0) (.ptr 2000002 0)))
abbrev yky:Sh:=(.cons (.ptr 2000000 0) (.cons (.ptr 2000003 0) (.cons (.ptr 2000004 0) (.cons (.ptr 2000005 0) (.cons (.own 2000006) (.cons (.int .i64) (.cons (.int .i64) (.int .u64))))))))
abbrev ycy:Sh:=(.cons (.ptr 2000000 0) (.cons (.ptr 2000001 0) (.cons (.own 2000002) (.int .i64))))
abbrev yhg:Sh:=(.cons (.ptr 2000000 0) (.cons (.ptr 2000001 0) (.cons (.ptr 2000002 0) (.cons (.own 2000003) (.int .i64)))))
abbrev y87:Sh:=(.cons (.ptr 5000001 0) (.cons (.ptr 5000002 0) (.ptr 5000004 0)))
abbrev zob:Sh:=(.cons (.int .i64) (.int .i64))
abbrev ynm:Sh:=(.agg (.cons (.int .i64) (.cons (.list (.list (.int .u8))) (.cons (.list J4) (.cons (.list .bool) (.cons (.list (.int .i64)) (.cons (.int .i64) (.cons (.int .i64) (.cons (.int .i64) (.cons (.int .i64) (.cons (.own 5000000) (.cons (.own 5000001) (.list (.int .i64))))))))))))))
abbrev yhf:Sh:=(.cons (.ptr 2000000 0) (.cons (.own 2000001) (.cons .bool (.int .i64))))
abbrev ycx:Sh:=(.cons (.list (.int .i64)) (.cons (.own 2000004) Sh0_))
abbrev ynl:Sh:=(.cons (.list Y8) (.cons (.int .i64) (.cons (.int .i64) (.cons (.int .i64) (.cons (.own 2000004) (.cons (.int .i64) (.cons (.int .i64) (.cons (.int .i64) (.list Z8)))))))))
abbrev y86:Sh:=(.cons (.ptr 5000001 0) (.ptr 5000002 0))
abbrev y85:Sh:=(.cons (.ptr 2000000 0) (.own 2000001))
abbrev yhe:Sh:=(.cons (.own 2000001) (.cons (.own 2000002) (.int .i64)))
abbrev ynk:Sh:=(.cons (.list (.int .i64)) (.cons (.ptr 2000000 0) (.cons (.ptr 2000001 0) (.cons (.ptr 2000002 0) (.cons (.int .i64) (.cons (.ptr 2000003 0) (.int .i64)))))))
abbrev yhd:Sh:=(.cons (.int .i64) (.cons (.int .i64) (.ptr 2000000 0)))
abbrev yhc:Sh:=(.cons (.list (.int .i64)) (.cons (.own 2000003) Sh0_))
abbrev ynj:Sh:=(.cons (.own 2000001) (.cons (.own 2000002) (.cons (.own 2000003) (.cons (.own 2000004) (.cons (.own 2000005) (.cons .str (.cons .str (.int .i64))))))))
abbrev y84:Sh:=(.cons (.own 2000001) (.int .i64))
abbrev ykx:Sh:=(.cons (.ptr 2000000 0) (.cons (.ptr 2000001 0) (.own 2000002)))
abbrev ykw:Sh:=(.cons (.own 2000002) (.cons (.own 2000003) (.own 2000004)))
abbrev ykv:Sh:=(.cons (.list Y1) (.cons (.list Z2) Sh9_))
abbrev yku:Sh:=(.cons (.own 2000002) (.cons (.own 2000003) (.int .i64)))
instance :LTab:=⟨fun i=>bif Nat.beq i 0 then⟨#[27,28],[5,8],cA (Y0 Tryz.f40) 500,cA (Y0 Tryz.f40) 501,66⟩else bif Nat.beq i 1 then⟨#[15,16],[3,4,5],cA (Y0 Tryz.f97) 116,cA (Y0 Tryz.f97) 117,33⟩else⟨#[],[], .skip, .skip,0⟩⟩
def tyRows:List (Nat×TI):=[
 (3,⟨.int .i64,1,8,[.int .i64],some (.int .i64)⟩),
 (4,⟨.bool,1,1,[.bool],some .bool⟩),
 (5,⟨.int .u8,1,1,[.int .u8],some (.int .u8)⟩),
 (9,⟨.str,1,16,[.str],some .str⟩),
 (22,⟨.slice 85,1,24,[.slice],some (.list y9)⟩),
 (23,⟨.arr 3 5,3,3,[.int .u8, .int .u8, .int .u8],some zr8⟩),
 (25,⟨.struct [(0,5),(1,22),(2,23)],5,40,[.int .u8, .slice, .int .u8, .int .u8, .int .u8],some zai⟩),
 (27,⟨.slice 3,1,24,[.slice],some (.list (.int .i64))⟩),
 (29,⟨.struct [(0,27),(1,27),(2,3)],3,56,[.slice, .slice, .int .i64],some z16⟩),
 (31,⟨.slice 71,1,24,[.slice],some (.list (.list (.int .u8)))⟩),
 (32,⟨.slice 122,1,24,[.slice],some (.list J4)⟩),
 (34,⟨.struct [(0,3),(1,31),(2,32)],3,56,[.int .i64, .slice, .slice],some Q4⟩),
 (35,⟨.slice 4,1,24,[.slice],some (.list .bool)⟩),
 (37,⟨.struct [(0,35),(1,27),(2,3)],3,56,[.slice, .slice, .int .i64],some Q1⟩),
 (38,⟨.slice 103,1,24,[.slice],some (.list (.int .u64))⟩),
 (40,⟨.struct [(0,34),(3,37),(6,3),(7,3),(8,3),(9,27),(10,38),(11,27)],12,208,[.int .i64, .slice, .slice, .slice, .slice, .int .i64, .int .i64, .int .i64, .int .i64, .slice, .slice, .slice],some X3⟩),
 (41,⟨.slice 101,1,24,[.slice],some (.list Y8)⟩),
 (43,⟨.struct [(0,41)],1,24,[.slice],some (.list Y8)⟩),
 (45,⟨.struct [(0,3),(1,3),(2,3)],3,24,[.int .i64, .int .i64, .int .i64],some z2v⟩),
 (46,⟨.slice 116,1,24,[.slice],some (.list z5z)⟩),
 (47,⟨.slice 159,1,24,[.slice],some (.list Z8)⟩),
 (49,⟨.struct [(0,43),(1,45),(4,46),(5,3),(6,3),(7,3),(8,47)],9,120,[.slice, .int .i64, .int .i64, .int .i64, .slice, .int .i64, .int .i64, .int .i64, .slice],some Y2⟩),
 (50,⟨.int .i64,1,8,[.int .i64],some (.int .i64)⟩),
 (52,⟨.struct [(0,40),(12,49),(21,50)],22,336,[.int .i64, .slice, .slice, .slice, .slice, .int .i64, .int .i64, .int .i64, .int .i64, .slice, .slice, .slice, .slice, .int .i64, .int .i64, .int .i64, .slice, .int .i64, .int .i64, .int .i64, .slice, .int .i64],some zay⟩),
 (57,⟨.int .u16,1,2,[.int .u16],some (.int .u16)⟩),
 (59,⟨.struct [(0,5),(1,57),(2,5)],3,6,[.int .u8, .int .u16, .int .u8],some zxs⟩),
 (63,⟨.struct [(0,29),(3,50)],4,64,[.slice, .slice, .int .i64, .int .i64],some ztt⟩),
 (71,⟨.slice 5,1,24,[.slice],some (.list (.int .u8))⟩),
 (73,⟨.int .i16,1,2,[.int .i16],some (.int .i16)⟩),
 (83,⟨.slice 187,1,24,[.slice],some (.list w5)⟩),
 (85,⟨.struct [(0,5),(1,5),(2,83)],3,32,[.int .u8, .int .u8, .slice],some y9⟩),
 (95,⟨.slice 257,1,24,[.slice],some (.list Y1)⟩),
 (96,⟨.slice 9,1,24,[.slice],some (.list .str)⟩),
 (97,⟨.slice 262,1,24,[.slice],some (.list K8)⟩),
 (99,⟨.struct [(0,95),(1,96),(2,27),(3,97),(4,47)],5,120,[.slice, .slice, .slice, .slice, .slice],some Z9⟩),
 (101,⟨.struct [(0,4),(1,4),(2,3),(3,99)],8,136,[.bool, .bool, .int .i64, .slice, .slice, .slice, .slice, .slice],some Y8⟩),
 (103,⟨.int .u64,1,8,[.int .u64],some (.int .u64)⟩),
 (109,⟨.struct [(0,40),(12,50)],13,216,[.int .i64, .slice, .slice, .slice, .slice, .int .i64, .int .i64, .int .i64, .int .i64, .slice, .slice, .slice, .int .i64],some zcx⟩),
 (114,⟨.struct [(0,3),(1,3),(2,5)],3,24,[.int .i64, .int .i64, .int .u8],some zts⟩),
 (116,⟨.struct [(0,3),(1,3),(2,3),(3,9),(4,47)],5,64,[.int .i64, .int .i64, .int .i64, .str, .slice],some z5z⟩),
 (122,⟨.struct [(0,4),(1,3),(2,71)],3,40,[.bool, .int .i64, .slice],some J4⟩),
 (129,⟨.struct [(0,49),(9,3),(10,50)],11,136,[.slice, .int .i64, .int .i64, .int .i64, .slice, .int .i64, .int .i64, .int .i64, .slice, .int .i64, .int .i64],some zdn⟩),
 (157,⟨.struct [(0,9),(1,9)],2,32,[.str, .str],some Z2⟩),
 (159,⟨.struct [(0,3),(1,9),(2,9),(3,157),(5,9),(6,9),(7,3)],8,112,[.int .i64, .str, .str, .str, .str, .str, .str, .int .i64],some Z8⟩),
 (165,⟨.func,1,8,[.func],none⟩),
 (167,⟨.ptr,1,8,[.ptr],none⟩),
 (169,⟨.struct [(0,29),(3,40)],15,264,[.slice, .slice, .int .i64, .int .i64, .slice, .slice, .slice, .slice, .int .i64, .int .i64, .int .i64, .int .i64, .slice, .slice, .slice],some y6p⟩),
 (176,⟨.struct [(0,43),(1,3),(2,45)],5,56,[.slice, .int .i64, .int .i64, .int .i64, .int .i64],some X8⟩),
 (181,⟨.struct [(0,176),(5,3),(6,50)],7,72,[.slice, .int .i64, .int .i64, .int .i64, .int .i64, .int .i64, .int .i64],some z81⟩),
 (187,⟨.arr 6 5,6,6,[.int .u8, .int .u8, .int .u8, .int .u8, .int .u8, .int .u8],some w5⟩),
 (240,⟨.int .u64,1,8,[.int .u64],some (.int .u64)⟩),
 (244,⟨.struct [(0,43),(1,3),(2,50)],3,40,[.slice, .int .i64, .int .i64],some zj2⟩),
 (247,⟨.slice 157,1,24,[.slice],some (.list Z2)⟩),
 (249,⟨.struct [(0,47),(1,247)],2,48,[.slice, .slice],some zmo⟩),
 (257,⟨.struct [(0,9),(1,9),(2,3)],3,40,[.str, .str, .int .i64],some Y1⟩),
 (260,⟨.struct [(0,3),(1,3)],2,16,[.int .i64, .int .i64],some z5y⟩),
 (262,⟨.struct [(0,260),(2,260)],4,32,[.int .i64, .int .i64, .int .i64, .int .i64],some K8⟩),
 (300,⟨.struct [(0,37),(3,3),(4,50)],5,72,[.slice, .slice, .int .i64, .int .i64, .int .i64],some ziz⟩),
 (318,⟨.struct [(0,27),(1,4)],2,32,[.slice, .bool],some zfb⟩),
 (346,⟨.arr 4 3,4,32,[.int .i64, .int .i64, .int .i64, .int .i64],some ybg⟩),
 (356,⟨.struct [(0,99),(5,157),(7,50)],8,160,[.slice, .slice, .slice, .slice, .slice, .str, .str, .int .i64],some zk9⟩),
 (360,⟨.slice 99,1,24,[.slice],some (.list Z9)⟩),
 (362,⟨.struct [(0,360),(1,96),(2,47)],3,72,[.slice, .slice, .slice],some zj1⟩),
 (365,⟨.struct [(0,360),(1,96),(2,47)],3,72,[.slice, .slice, .slice],some zdf⟩),
 (368,⟨.struct [(0,176),(5,3),(6,50)],7,72,[.slice, .int .i64, .int .i64, .int .i64, .int .i64, .int .i64, .int .i64],some z6q⟩),
 (399,⟨.struct [(0,3),(1,3)],2,16,[.int .i64, .int .i64],some zgg⟩),
 (406,⟨.slice 95,1,24,[.slice],some (.list (.list Y1))⟩),
 (410,⟨.struct [(0,47),(1,47),(2,247)],3,72,[.slice, .slice, .slice],some zn4⟩),
 (415,⟨.struct [(0,43),(1,27),(2,50)],3,56,[.slice, .slice, .int .i64],some zj0⟩),
 (433,⟨.struct [(0,9),(1,3),(2,3),(3,9)],4,48,[.str, .int .i64, .int .i64, .str],some z17⟩)]
theorem y4o:(tyRows.all fun r=>tiOk PG r.1 r.2)=true:=by kernel_rfl
theorem mixed:PG.follows .mixedOrders=true:=by kernel_rfl
def eqRows:List (Nat×List Nat):=[(159,[0,2,2,2,2,2,2,0])]
theorem yg9:(eqRows.all fun r=>eqB PG r.1 r.2)=true:=by kernel_rfl
def yae:List (Nat×String×Nat):=[]
theorem y8t:y88 PG yae:=trivial
def E0(st:List (Nat×List Nat))(pre:List Nat)(tc:List (SC PG))(tm:List (SM PG):=[])(tr:List (SR PG):=[]):SE PG:=
 ⟨yn1 tyRows eqRows yae st pre (tabC tc) (tabM tm) (tabR tr),yi7 y4o yg9 y8t (ydo tc) (ydn tm) (ydm tr),mixed⟩
variable (N:Nat)
def zzo:SC PG:=fz (E0 [] [] []) Tryz.func69 [] (.val z2v) .bool [] (fun v=>zd6 N v) (by kernel_rfl)
def zbu:SC PG:=fz (E0 [] [] []) Tryz.func66 [] (.cons (.val (.list Y8)) (.int .i64)) .bool [] (fun v=>z8c N v.1 v.2) (by kernel_rfl)
def zdi:SC PG:=fz (E0 [] [] []) Tryz.func151 [] (.val (.list Y8)) (.agg (.fresh Y8)) [] (fun v=>z8p N v) (by kernel_rfl)
def zi8:SE PG:=E0 [(J2,[2000002])] [] [zbu N,zdi N]
def zyd:SL PG Tryz.f142.ntmps (Y0 Tryz.f142):=lz N (zi8 N) [] 4090 ⟨[3,4,6,7,8],(.cons (.ptr 2000000 0) (.cons (.ptr 2000001 0) (.cons (.int .i64) (.cons (.ptr 2000002 0) (.int .i64))))),[(2000000,[3], .boxV Z9),(2000001,[4], .boxC [.nils, .int .i64 0, .int .i64 0]),(2000002,[7], .box (.own 2000003)),(2000003,[7,0], .sl Y8)],[]⟩ (6,⟨[4,6,7],(.cons (.ptr 2000000 0) (.cons (.int .i64) (.ptr 2000001 0))),[(2000000,[4], .boxC [.nils, .int .i64 0, .int .i64 0]),(2000001,[7], .box (.own 2000002)),(2000002,[7,0], .sl Y8)],[]⟩) [] (z4o N N) (z4f N) (fun f v=>f v.1.2.2.1 v.1.2.2.2.2 v.2.1 v.2.2.2.2.1) (fun r b0 b1 b2 b3=>r (((),((),(b0,((),b1)))),(b2,((),((),(b3,())))))) rfl (fun _=>rfl) (fun _ _=>rfl) (by kernel_rfl)
def zye:SL PG Tryz.f142.ntmps (Y0 Tryz.f142):=lz N (zi8 N) [] 60 ⟨[2,3,4,6],Sh5_,[(2000000,[2], .box (.list Y8)),(2000001,[3], .boxV Z9),(2000002,[4], .boxC [.nils, .int .i64 0, .int .i64 0])],[]⟩ (4,⟨[2,3,4,6],Sh5_,[(2000000,[2], .box (.list Y8)),(2000001,[3], .boxV Z9),(2000002,[4], .boxC [.nils, .int .i64 0, .int .i64 0])],[]⟩) [] (z8q N N) (z4g N) (fun f v=>f v.1.2.2.2 v.2.1 v.2.2.1) (fun r b0 b1 b2=>r (((),((),((),b0))),(b1,(b2,((),()))))) rfl (fun _=>rfl) (fun _ _=>rfl) (by kernel_rfl)
def zyf:SL PG Tryz.f142.ntmps (Y0 Tryz.f142):=lz N (zi8 N) [] 26 ⟨[2,3,4,5],Sh5_,[(2000000,[2], .box (.list Y8)),(2000001,[3], .boxV Z9),(2000002,[4], .boxC [.nils, .int .i64 0, .int .i64 0])],[]⟩ (1,⟨[4],(.ptr 2000000 0),[(2000000,[4], .boxV zj2)],[]⟩) [(2,⟨[2,3,4],y1u,[(2000000,[2], .box (.list Y8)),(2000001,[3], .boxV Z9),(2000002,[4], .boxC [.nils, .int .i64 0, .int .i64 0])],[]⟩)] (z8r N N) (z4h N) (fun f v=>f v.1.2.2.2 v.2.1 v.2.2.1) (fun r b0 b1 b2=>r (((),((),((),b0))),(b1,(b2,((),()))))) rfl (fun _=>rfl) (fun _ _=>rfl) (by kernel_rfl)
def zjv:SC PG:=fz (zi8 N) Tryz.func142 [zyf N,zye N,zyd N] (.cons (.val (.list Y8)) (.val Z9)) (.val zj2) [] (fun v=>z5j N v.1 v.2) (by kernel_rfl)
def y6d:SC PG:=fz (E0 [] [] [zzo N,zjv N]) Tryz.func125 [] (.val z2v) (.tup (.cons (.val X8) (.int .i64))) [] (fun v=>zwe N v) (by kernel_rfl)
def zsq:SC PG:=fz (E0 [] [] [y6d N]) Tryz.func73 [] (.val z2v) (.tup (.cons (.val Y2) (.int .i64))) [] (fun v=>zjd N v) (by kernel_rfl)
def ztb:SE PG:=E0 [] [] []
def zv0:SL PG Tryz.f92.ntmps (Y0 Tryz.f92):=lz N (ztb) [] 26 ⟨[1,2,5],(.cons (.int .i64) Sh4_),[(2000000,[2], .boxV Y2)],[]⟩ (1,⟨[4],(.int .i64),[],[]⟩) [(2,⟨[], .nil,[],[]⟩)] (z9b N N) (z31 N) (fun f v=>f v.1.1 v.1.2.2 v.2.1) (fun r b0 b1 b2=>r ((b0,((),b1)),(b2,()))) rfl (fun _=>rfl) (fun _ _=>rfl) (by kernel_rfl)
def zih:SC PG:=fz (ztb) Tryz.func92 [zv0 N] (.cons (.val Y2) (.int .i64)) (.int .i64) [] (fun v=>zc4 N v.1 v.2) (by kernel_rfl)
def y3i:SC PG:=fz (E0 [] [] [zih N]) Tryz.func85 [] (.cons (.val Y2) (.int .i64)) (.tup (.cons (.val X8) (.int .i64))) [] (fun v=>zqq N v.1 v.2) (by kernel_rfl)
def y8j:SC PG:=fz (E0 [] [] []) Tryz.func179 [] (.cons (.int .i64) (.cons (.int .i64) (.int .i64))) .bool [] (fun v=>zh5 N v.1 v.2.1 v.2.2) (by kernel_rfl)
def z3i:SC PG:=fz (E0 [] [] []) Tryz.func235 [] (.val Z2) .bool [] (fun v=>z06 N v) (by kernel_rfl)
def y43:SC PG:=fz (E0 [] [] [z3i N]) Tryz.func180 [] (.val Z2) .bool [] (fun v=>zgr N v) (by kernel_rfl)
def z9w:SC PG:=fz (E0 [] [] []) Tryz.func149 [] (.cons .str .str) .bool [] (fun v=>k9 N v.1 v.2) (by kernel_rfl)
def zp6:SE PG:=E0 [] [] [y8j N,y43 N,z9w N]
def zs4:SL PG Tryz.f120.ntmps (Y0 Tryz.f120):=pz (zp6 N) [] 7551 ⟨[1,4,14,66],(.cons (.ptr 2000000 0) (.cons .bool (.cons (.int .i64) .bool))),[(2000000,[1], .boxV Z8)],[]⟩ (1,⟨[2], .bool,[],[]⟩) [(0,⟨[], .nil,[],[]⟩)] (fun v=>z7r N v.1.2.1 v.1.2.2.1 v.1.2.2.2 v.2.1) (by kernel_rfl)
def zfz:SC PG:=fz (zp6 N) Tryz.func120 [zs4 N] (.val Z8) .bool [] (fun v=>zad N v) (by kernel_rfl)
def zeo:SC PG:=fz (E0 [] [] [zbu N]) Tryz.func140 [] (.cons (.val (.list Y8)) (.int .i64)) (.tup (.cons (.val Z9) (.int .i64))) [] (fun v=>z90 N v.1 v.2) (by kernel_rfl)
def zg5:SE PG:=E0 [] [] []
def zq5:SL PG Tryz.f202.ntmps (Y0 Tryz.f202):=pz (zg5) [] 1865 ⟨[0,3,5,6,7],(.cons (.list Y1) yhf),[(2000000,[3], .boxV Y1),(2000001,[5], .sl Y1)],[]⟩ (0,⟨[0,3,5,6,7],(.cons (.list Y1) yhf),[(2000000,[3], .boxV Y1),(2000001,[5], .sl Y1)],[]⟩) [] (fun v=>z1c N v.1.1 v.1.2.2.2.1 v.1.2.2.2.2 v.2.1 v.2.2.1) (by kernel_rfl)
def zq6:SL PG Tryz.f202.ntmps (Y0 Tryz.f202):=lz N (zg5) [zq5 N] 58 ⟨[0,3,5,6,7],(.cons (.list Y1) yhf),[(2000000,[3], .boxV Y1),(2000001,[5], .sl Y1)],[]⟩ (2,⟨[3,5,6],(.cons (.ptr 2000000 0) (.cons (.own 2000001) .bool)),[(2000000,[3], .boxV Y1),(2000001,[5], .sl Y1)],[]⟩) [] (z1d N N) (z0s N) (fun f v=>f v.1.1 v.1.2.2.2.1 v.1.2.2.2.2 v.2.1 v.2.2.1) (fun r b0 b1 b2 b3 b4=>r ((b0,((),((),(b1,b2)))),(b3,(b4,())))) rfl (fun _=>rfl) (fun _ _=>rfl) (by kernel_rfl)
def zyz:SC PG:=fz (zg5) Tryz.func202 [zq6 N] (.cons (.list Y1) (.val Y1)) (.fresh Y1) [] (fun v=>z8s N v.1 v.2) (by kernel_rfl)
def zep:SC PG:=fz (E0 [] [] []) Tryz.func148 [] .str (.val Z2) [] (fun v=>z91 N v) (by kernel_rfl)
def zjw:SC PG:=fz (E0 [] [] []) Tryz.func204 [] (.cons (.val Z2) .str) .bool [] (fun v=>zan N v.1 v.2) (by kernel_rfl)
def y1e:SE PG:=E0 [] [] [zjw N]
def zzc:SL PG Tryz.f250.ntmps (Y0 Tryz.f250):=lz N (y1e N) [] 26 ⟨[0,1,5],(.cons (.list Z2) (.cons .str (.int .i64))),[],[]⟩ (1,⟨[4], .bool,[],[]⟩) [(2,⟨[], .nil,[],[]⟩)] (zdb N N) (z57 N) (fun f v=>f v.1.1 v.1.2.1 v.1.2.2) (fun r b0 b1 b2=>r ((b0,(b1,b2)),())) rfl (fun _=>rfl) (fun _ _=>rfl) (by kernel_rfl)
def zx4:SC PG:=fz (y1e N) Tryz.func250 [zzc N] (.cons (.list Z2) .str) .bool [] (fun v=>znh N v.1 v.2) (by kernel_rfl)
def zl6:SE PG:=E0 [] [] [zx4 N]
def znb:SL PG Tryz.f203.ntmps (Y0 Tryz.f203):=lz N (zl6 N) [] 58 ⟨[0,1,5,6],ykv,[(2000000,[5], .sl Y1)],[]⟩ (2,⟨[5],(.own 2000000),[(2000000,[5], .sl Y1)],[]⟩) [] (z56 N N) (z05 N) (fun f v=>f v.1.1 v.1.2.1 v.1.2.2.2 v.2.1) (fun r b0 b1 b2 b3=>r ((b0,(b1,((),b2))),(b3,()))) rfl (fun _=>rfl) (fun _ _=>rfl) (by kernel_rfl)
def zvt:SC PG:=fz (zl6 N) Tryz.func203 [znb N] (.cons (.list Y1) (.list Z2)) (.fresh Y1) [] (fun v=>z4u N v.1 v.2) (by kernel_rfl)
def zmk:SE PG:=E0 [] [] []
def zq8:SL PG Tryz.f146.ntmps (Y0 Tryz.f146):=lz N (zmk) [] 28 ⟨[0,2,3],(.cons .str Sh4_),[(2000000,[2], .boxC [.str [], .str []])],[]⟩ (2,⟨[0,2,3],(.cons .str Sh4_),[(2000000,[2], .boxC [.str [], .str []])],[]⟩) [] (J8 N N) (z43 N) (fun f v=>f v.1.1 v.1.2.2) (fun r b0 b1=>r ((b0,((),b1)),((),()))) rfl (fun _=>rfl) (fun _ _=>rfl) (by kernel_rfl)
def j8:SC PG:=fz (zmk) Tryz.func146 [zq8 N] .str (.val Z2) [] (fun v=>U0 N v) (by kernel_rfl)
def zmh:SE PG:=E0 [] [] [zx4 N]
def zq3:SL PG Tryz.f205.ntmps (Y0 Tryz.f205):=lz N (zmh N) [] 58 ⟨[0,1,5,6],ykv,[(2000000,[5], .sl Y1)],[]⟩ (2,⟨[5],(.own 2000000),[(2000000,[5], .sl Y1)],[]⟩) [] (z6i N N) (z0p N) (fun f v=>f v.1.1 v.1.2.1 v.1.2.2.2 v.2.1) (fun r b0 b1 b2 b3=>r ((b0,(b1,((),b2))),(b3,()))) rfl (fun _=>rfl) (fun _ _=>rfl) (by kernel_rfl)
def zyx:SC PG:=fz (zmh N) Tryz.func205 [zq3 N] (.cons (.list Y1) (.list Z2)) (.fresh Y1) [] (fun v=>zez N v.1 v.2) (by kernel_rfl)
def y04:SC PG:=fz (E0 [] [] [z9w N]) Tryz.func206 [] (.cons .str (.cons .str .str)) (.tup (.cons .str .bool)) [] (fun v=>zhz N v.1 v.2.1 v.2.2) (by kernel_rfl)
def ziu:SE PG:=E0 [] [] [zyz N,zep N,zvt N,zjw N,j8 N,zyx N,y04 N]
def zs8:SL PG Tryz.f141.ntmps (Y0 Tryz.f141):=lz N (ziu N) [] 110570 ⟨[3,5,6],Sh7_,[(2000000,[3], .boxV Z8),(2000001,[5], .sl Y1)],[]⟩ (3,⟨[5],(.own 2000000),[(2000000,[5], .sl Y1)],[]⟩) [] (z7u N N) (z21 N) (fun f v=>f v.1.2.2 v.2.1 v.2.2.1) (fun r b0 b1 b2=>r (((),((),b0)),(b1,(b2,())))) rfl (fun _=>rfl) (fun _ _=>rfl) (by kernel_rfl)
def zs9:SL PG Tryz.f141.ntmps (Y0 Tryz.f141):=lz N (ziu N) [] 250 ⟨[3,7,8,9],(.cons (.ptr 2000000 0) yhe),[(2000000,[3], .boxV Z8),(2000001,[7], .sl Y1),(2000002,[8], .sl Y1)],[]⟩ (5,⟨[7],(.own 2000000),[(2000000,[7], .sl Y1)],[]⟩) [] (z3o N N) (z24 N) (fun f v=>f v.1.2.2.2 v.2.1 v.2.2.1 v.2.2.2.1) (fun r b0 b1 b2 b3=>r (((),((),((),b0))),(b1,(b2,(b3,()))))) rfl (fun _=>rfl) (fun _ _=>rfl) (by kernel_rfl)
def zm1:SC PG:=fz (ziu N) Tryz.func141 [zs8 N,zs9 N] (.cons (.list Y1) (.val Z8)) (.fresh Y1) [] (fun v=>z2u N v.1 v.2) (by kernel_rfl)
def ztg:SE PG:=E0 [(J2,[2000002]),(6,[2000003])] [] [zbu N,zdi N]
def zv9:SL PG Tryz.f93.ntmps (Y0 Tryz.f93):=lz N (ztg N) [] 60 ⟨[4,6,7],(.cons (.ptr 2000000 0) (.cons (.ptr 2000001 0) (.list (.int .i64)))),[(2000000,[4], .boxC [.nils]),(2000001,[6], .box (.own 2000002)),(2000002,[6,0], .sl Y8)],[17,56]⟩ (2,⟨[4,6],Sh3_,[(2000000,[4], .boxC [.nils]),(2000001,[6], .box (.own 2000002)),(2000002,[6,0], .sl Y8)],[]⟩) [] (z6v N N) (z39 N) (fun f v=>f v.1.2.2 v.2.2.2.1) (fun r b0 b1=>r (((),((),b0)),((),((),(b1,()))))) rfl (fun _=>rfl) (fun _ _=>rfl) (by kernel_rfl)
def zbv:SC PG:=fz (ztg N) Tryz.func93 [zv9 N] (.cons (.val (.list Y8)) (.int .i64)) (.tup (.cons (.val (.list Y8)) (.int .i64))) [] (fun v=>z2f N v.1 v.2) (by kernel_rfl)
def y6e:SC PG:=fz (E0 [(10,[34,45])] [] [zfz N,zeo N,zm1 N,zjv N,zbv N]) Tryz.func86 [] (.cons (.val X8) (.val Z8)) (.tup (.cons (.val X8) (.int .i64))) [] (fun v=>zjf N v.1 v.2) (by kernel_rfl)
def zij:SC PG:=fz (E0 [] [] []) Tryz.func261 [] (.cons .str .str) .bool [] (fun v=>zco N v.1 v.2) (by kernel_rfl)
def y45:SC PG:=fz (E0 [] [] []) Tryz.func300 [] .nil (.val Z2) [] (fun _=>zkw N) (by kernel_rfl)
def z95:SC PG:=fz (E0 [] [] [zij N,z3i N,y45 N]) Tryz.func262 [] (.cons (.val Z2) (.val Z2)) (.val Z2) [] (fun v=>z2g N v.1 v.2) (by kernel_rfl)
def zpa:SE PG:=E0 [] [] [z95 N]
def zsc:SL PG Tryz.f281.ntmps (Y0 Tryz.f281):=lz N (zpa N) [] 58 ⟨[1,2,5,6,7],(.cons (.list .str) (.cons (.ptr 2000000 0) (.cons (.own 2000001) (.cons .str (.int .i64))))),[(2000000,[2], .boxV Z2),(2000001,[5], .sl Z2)],[]⟩ (2,⟨[2,5,6],(.cons (.ptr 2000000 0) (.cons (.own 2000001) .str)),[(2000000,[2], .boxV Z2),(2000001,[5], .sl Z2)],[]⟩) [] (z7x N N) (z26 N) (fun f v=>f v.1.1 v.1.2.2.2.1 v.1.2.2.2.2 v.2.1 v.2.2.1) (fun r b0 b1 b2 b3 b4=>r ((b0,((),((),(b1,b2)))),(b3,(b4,())))) rfl (fun _=>rfl) (fun _ _=>rfl) (by kernel_rfl)
def zm2:SC PG:=fz (zpa N) Tryz.func281 [zsc N] (.cons (.val Z2) (.list .str)) (.fresh Z2) [] (fun v=>zda N v.1 v.2) (by kernel_rfl)
def zlv:SC PG:=fz (E0 [] [] [zm2 N]) Tryz.func237 [] (.cons (.val Z9) (.val Z2)) (.fresh Z2) [] (fun v=>z85 N v.1 v.2) (by kernel_rfl)
def zk3:SE PG:=E0 [(J2,[2000001,2000002,2000003,2000004,2000005])] [] [zeo N,zlv N]
def zv3:SL PG Tryz.f251.ntmps (Y0 Tryz.f251):=pz (zk3 N) [] 489 ⟨[1,2,4,5,7,8],(.cons (.list (.int .i64)) (.cons (.ptr 2000000 0) (.cons (.ptr 2000001 0) (.cons (.ptr 2000002 0) (.cons (.ptr 2000003 0) (.int .i64)))))),[(2000000,[2], .boxV X8),(2000001,[4], .boxC [.nils, .nils, .nils, .nils, .nils, .str [], .str [], .int .i64 0]),(2000002,[5], .boxV Z9),(2000003,[7], .boxV Z2)],[]⟩ (1,⟨[4],(.ptr 2000000 0),[(2000000,[4], .box ynj),(2000001,[4,0], .sl Y1),(2000002,[4,1], .sl .str),(2000003,[4,2], .sl (.int .i64)),(2000004,[4,3], .sl K8),(2000005,[4,4], .sl Z8)],[]⟩) [(0,⟨[1,2,4,5,6,7,8],ynk,[(2000000,[2], .boxV X8),(2000001,[4], .boxC [.nils, .nils, .nils, .nils, .nils, .str [], .str [], .int .i64 0]),(2000002,[5], .boxV Z9),(2000003,[7], .boxV Z2)],[]⟩)] (fun v=>zil N v.1.1 v.1.2.2.2.2.2 v.2.1 v.2.2.2.1 v.2.2.2.2.1) (by kernel_rfl)
def zv4:SL PG Tryz.f251.ntmps (Y0 Tryz.f251):=lz N (zk3 N) [zv3 N] 122 ⟨[1,2,4,5,6,7,8],ynk,[(2000000,[2], .boxV X8),(2000001,[4], .boxC [.nils, .nils, .nils, .nils, .nils, .str [], .str [], .int .i64 0]),(2000002,[5], .boxV Z9),(2000003,[7], .boxV Z2)],[]⟩ (1,⟨[4],(.ptr 2000000 0),[(2000000,[4], .box ynj),(2000001,[4,0], .sl Y1),(2000002,[4,1], .sl .str),(2000003,[4,2], .sl (.int .i64)),(2000004,[4,3], .sl K8),(2000005,[4,4], .sl Z8)],[]⟩) [(2,⟨[4,5,6,7],(.cons (.ptr 2000000 0) (.cons (.ptr 2000001 0) (.cons (.int .i64) (.ptr 2000002 0)))),[(2000000,[4], .boxC [.nils, .nils, .nils, .nils, .nils, .str [], .str [], .int .i64 0]),(2000001,[5], .boxV Z9),(2000002,[7], .boxV Z2)],[]⟩)] (z9e N N) (z34 N) (fun f v=>f v.1.1 v.1.2.2.2.2.1 v.1.2.2.2.2.2.2 v.2.1 v.2.2.2.1 v.2.2.2.2.1) (fun r b0 b1 b2 b3 b4 b5=>r ((b0,((),((),((),(b1,((),b2)))))),(b3,((),(b4,(b5,())))))) rfl (fun _=>rfl) (fun _ _=>rfl) (by kernel_rfl)
def z94:SC PG:=fz (zk3 N) Tryz.func251 [zv4 N] (.cons (.val X8) (.list (.int .i64))) (.val zk9) [] (fun v=>z8b N v.1 v.2) (by kernel_rfl)
def y3x:SC PG:=fz (E0 [] [] []) Tryz.func252 [] (.cons (.val Z9) (.val z2v)) .bool [] (fun v=>zks N v.1 v.2) (by kernel_rfl)
def zvp:SC PG:=fz (E0 [(J2,[12])] [] []) Tryz.func253 [] (.cons (.list (.int .i64)) (.int .i64)) (.list (.int .i64)) [] (fun v=>zc7 N v.1 v.2) (by kernel_rfl)
def z5a(self:Y5->(List Int)->Bool->Option (K0)):Ctr:=zl8 (.cons (.val X8) (.cons (.list (.int .i64)) .bool)) (.val zfb) [] (fun v=>self v.1 v.2.1 v.2.2)
def zoz(self:Y5->(List Int)->Bool->Option (K0))(hs:z5r PG 207 fun xs=>(z5a self).run xs some):SE PG:=E0 [] [] [⟨207,z5a self,hs⟩,z94 N,y3x N,zvp N]
def zrj(self:Y5->(List Int)->Bool->Option (K0))(hs:z5r PG 207 fun xs=>(z5a self).run xs some):SL PG Tryz.f207.ntmps (Y0 Tryz.f207):=lz N (zoz N self hs) [] 250 ⟨[1,2,3,6,7,8],(.cons (.list (.int .i64)) (.cons .bool Sh5_)),[(2000000,[3], .boxV X8),(2000001,[6], .boxC [.nils, .bool false]),(2000002,[7], .boxV zk9)],[]⟩ (1,⟨[6],(.ptr 2000000 0),[(2000000,[6], .boxV zfb)],[]⟩) [(2,⟨[6],(.ptr 2000000 0),[(2000000,[6], .boxC [.nils, .bool false])],[]⟩)] (J7 N self N) (z1k N self) (fun f v=>f v.1.1 v.1.2.1 v.1.2.2.2.2.2 v.2.1 v.2.2.2.1) (fun r b0 b1 b2 b3 b4=>r ((b0,(b1,((),((),((),b2))))),(b3,((),(b4,()))))) rfl (fun _=>rfl) (fun _ _=>rfl) (by kernel_rfl)
def y08(self:Y5->(List Int)->Bool->Option (K0))(hs:z5r PG 207 fun xs=>(z5a self).run xs some):SC PG:=fz (zoz N self hs) Tryz.func207 [zrj N self hs] (.cons (.val X8) (.cons (.list (.int .i64)) .bool)) (.val zfb) [] (fun v=>z55 N self v.1 v.2.1 v.2.2) (by kernel_rfl)
def zzl:SC PG:=recz (f:=207) z5a (fun _ _ _=>none) (z55 N) (y1h fun _=>rfl) (fun self hs=>(y08 N self hs).h) N
def zp0:SE PG:=E0 [] [] []
def zrm:SL PG Tryz.f292.ntmps (Y0 Tryz.f292):=lz N (zp0) [] 250 ⟨[0,5,6,7],(.cons (.int .i64) (.cons (.int .i64) Sh9_)),[(2000000,[6], .sl (.int .i64))],[]⟩ (2,⟨[6],(.own 2000000),[(2000000,[6], .sl (.int .i64))],[]⟩) [] (z7f N N) (z1l N) (fun f v=>f v.1.1 v.1.2.1 v.1.2.2.2 v.2.1) (fun r b0 b1 b2 b3=>r ((b0,(b1,((),b2))),(b3,()))) rfl (fun _=>rfl) (fun _ _=>rfl) (by kernel_rfl)
def zlu:SC PG:=fz (zp0) Tryz.func292 [zrm N] (.cons (.int .i64) (.int .i64)) (.fresh (.int .i64)) [] (fun v=>z4q N v.1 v.2) (by kernel_rfl)
def zmc:SE PG:=E0 [] [] [zlu N]
def zpt:SL PG Tryz.f290.ntmps (Y0 Tryz.f290):=lz N (zmc N) [] 122 ⟨[0,5,6,7,8],(.cons (.list Y1) (.cons (.own 2000000) (.cons (.int .i64) y84))),[(2000000,[5], .sl (.list Y1)),(2000001,[7], .sl (.int .i64))],[]⟩ (2,⟨[5],(.own 2000000),[(2000000,[5], .sl (.list Y1))],[]⟩) [] (z6d N N) (z0i N) (fun f v=>f v.1.1 v.1.2.2.1 v.1.2.2.2.2 v.2.1 v.2.2.1) (fun r b0 b1 b2 b3 b4=>r ((b0,((),(b1,((),b2)))),(b3,(b4,())))) rfl (fun _=>rfl) (fun _ _=>rfl) (by kernel_rfl)
def zyr:SC PG:=fz (zmc N) Tryz.func290 [zpt N] (.cons (.list Y1) (.int .i64)) (.fresh (.list Y1)) [] (fun v=>zew N v.1 v.2) (by kernel_rfl)
def zte:SE PG:=E0 [(J2,[17,2000002,2000003,2000004])] [] [zyr N]
def zv5:SL PG Tryz.f254.ntmps (Y0 Tryz.f254):=lz N (zte N) [] 250 ⟨[4,5,6,7],(.cons (.ptr 2000000 0) (.cons (.own 2000001) (.cons (.ptr 2000002 0) (.int .i64)))),[(2000000,[4], .boxC [.nils, .nils, .nils]),(2000001,[5], .sl (.list Y1)),(2000002,[6], .box (.cons (.own 2000003) (.cons (.own 2000004) (.own 2000005)))),(2000003,[6,0], .sl Z9),(2000004,[6,1], .sl .str),(2000005,[6,2], .sl Z8)],[]⟩ (2,⟨[4,6],Sh3_,[(2000000,[4], .boxC [.nils, .nils, .nils]),(2000001,[6], .box ykw),(2000002,[6,0], .sl Z9),(2000003,[6,1], .sl .str),(2000004,[6,2], .sl Z8)],[]⟩) [] (z9f N N) (z35 N) (fun f v=>f v.1.2.2.2 v.2.2.1 v.2.2.2.2.1 v.2.2.2.2.2.1 v.2.2.2.2.2.2.1) (fun r b0 b1 b2 b3 b4=>r (((),((),((),b0))),((),(b1,(((),((),())),(b2,(b3,(b4,())))))))) rfl (fun _=>rfl) (fun _ _=>rfl) (by kernel_rfl)
def zoi:SC PG:=fz (zte N) Tryz.func254 [zv5 N] (.cons (.val Z9) (.val z2v)) (.val zj1) [] (fun v=>zc9 N v.1 v.2) (by kernel_rfl)
def zxn:SE PG:=E0 [(J2,[2000001,2000002])] [] [zjv N]
def zyb:SL PG Tryz.f296.ntmps (Y0 Tryz.f296):=lz N (zxn N) [] 58 ⟨[1,4,5,6],(.cons (.list Z9) Sh8_),[(2000000,[4], .boxC [.nils, .nils, .int .i64 0]),(2000001,[5], .box (.cons (.list Y8) (.cons (.own 2000002) (.int .i64)))),(2000002,[5,1], .sl (.int .i64))],[]⟩ (1,⟨[4],(.ptr 2000000 0),[(2000000,[4], .box yhe),(2000001,[4,0], .sl Y8),(2000002,[4,1], .sl (.int .i64))],[]⟩) [(2,⟨[4,5],Sh3_,[(2000000,[4], .boxC [.nils, .nils, .int .i64 0]),(2000001,[5], .box (.cons (.list Y8) (.cons (.own 2000002) (.int .i64)))),(2000002,[5,1], .sl (.int .i64))],[]⟩)] (z4n N N) (z4e N) (fun f v=>f v.1.1 v.1.2.2.2 v.2.2.1.1 v.2.2.1.2.2 v.2.2.2.1) (fun r b0 b1 b2 b3 b4=>r ((b0,((),((),b1))),((),((b2,((),b3)),(b4,()))))) rfl (fun _=>rfl) (fun _ _=>rfl) (by kernel_rfl)
def zsu:SC PG:=fz (zxn N) Tryz.func296 [zyb N] (.cons (.val (.list Y8)) (.list Z9)) (.val zj0) [] (fun v=>zcz N v.1 v.2) (by kernel_rfl)
def zpb:SE PG:=E0 [] [] []
def zsh:SL PG Tryz.f325.ntmps (Y0 Tryz.f325):=pz (zpb) [] 31 ⟨[0,1,4,5,6],(.cons .str (.cons (.int .i64) (.cons (.ptr 2000000 0) (.cons (.ptr 2000001 0) .str)))),[(2000000,[4], .boxC [.str [], .int .i64 0, .int .i64 0, .str []]),(2000001,[5], .boxV z17)],[]⟩ (1,⟨[4],(.ptr 2000000 0),[(2000000,[4], .boxV z17)],[]⟩) [] (fun v=>z3p N v.1.1 v.1.2.1 v.1.2.2.2.2 v.2.2.1) (by kernel_rfl)
def y06:SC PG:=fz (zpb) Tryz.func325 [zsh N] (.cons .str (.int .i64)) (.val z17) [] (fun v=>zi1 N v.1 v.2) (by kernel_rfl)
def zpe:SE PG:=E0 [] [] []
def zsk:SL PG Tryz.f327.ntmps (Y0 Tryz.f327):=lz N (zpe) [] 58 ⟨[0,4,5,6],(.cons .str (.cons (.own 2000000) (.cons .str (.int .i64)))),[(2000000,[4], .sl .str)],[]⟩ (2,⟨[4,5],(.cons (.own 2000000) .str),[(2000000,[4], .sl .str)],[]⟩) [] (z80 N N) (z2b N) (fun f v=>f v.1.1 v.1.2.2.1 v.1.2.2.2 v.2.1) (fun r b0 b1 b2 b3=>r ((b0,((),(b1,b2))),(b3,()))) rfl (fun _=>rfl) (fun _ _=>rfl) (by kernel_rfl)
def y07:SC PG:=fz (zpe) Tryz.func327 [zsk N] .str (.tup (.cons (.fresh .str) .bool)) [] (fun v=>zi2 N v) (by kernel_rfl)
def ztl:SE PG:=E0 [] [] []
def zvj:SL PG Tryz.f71.ntmps (Y0 Tryz.f71):=lz N (ztl) [] 58 ⟨[0,3],(.cons .str (.int .i64)),[],[]⟩ (1,⟨[2], .bool,[],[]⟩) [(2,⟨[], .nil,[],[]⟩)] (z9n N N) (z3f N) (fun f v=>f v.1.1 v.1.2) (fun r b0 b1=>r ((b0,b1),())) rfl (fun _=>rfl) (fun _ _=>rfl) (by kernel_rfl)
def zik:SC PG:=fz (ztl) Tryz.func71 [zvj N] .str .bool [] (fun v=>z8e N v) (by kernel_rfl)
def zpc:SE PG:=E0 [] [] [y07 N,zik N]
def zsi:SL PG Tryz.f320.ntmps (Y0 Tryz.f320):=lz N (zpc N) [] 58 ⟨[3,4,5],(.cons (.own 2000000) (.cons .bool (.int .i64))),[(2000000,[3], .sl .str)],[]⟩ (1,⟨[2], .bool,[],[]⟩) [(2,⟨[4], .bool,[],[]⟩)] (z7y N N) (z29 N) (fun f v=>f v.1.2.1 v.1.2.2 v.2.1) (fun r b0 b1 b2=>r (((),(b0,b1)),(b2,()))) rfl (fun _=>rfl) (fun _ _=>rfl) (by kernel_rfl)
def zm3:SC PG:=fz (zpc N) Tryz.func320 [zsi N] .str .bool [] (fun v=>z88 N v) (by kernel_rfl)
def ztm:SE PG:=E0 [] [] []
def zvk:SL PG Tryz.f328.ntmps (Y0 Tryz.f328):=lz N (ztm) [] 122 ⟨[0,3,4],(.cons (.int .i64) (.cons .str (.int .i64))),[],[]⟩ (2,⟨[3], .str,[],[]⟩) [] (z9o N N) (z3g N) (fun f v=>f v.1.1 v.1.2.1 v.1.2.2) (fun r b0 b1 b2=>r ((b0,(b1,b2)),())) rfl (fun _=>rfl) (fun _ _=>rfl) (by kernel_rfl)
def y46:SC PG:=fz (ztm) Tryz.func328 [zvk N] (.int .i64) .str [] (fun v=>zkx N v) (by kernel_rfl)
def zml:SE PG:=E0 [] [] [y46 N]
def zq9:SL PG Tryz.f321.ntmps (Y0 Tryz.f321):=lz N (zml N) [] 122 ⟨[0,3,4],(.cons .str zob),[],[]⟩ (2,⟨[0,3],(.cons .str (.int .i64)),[],[]⟩) [] (z6l N N) (z0v N) (fun f v=>f v.1.1 v.1.2.1 v.1.2.2) (fun r b0 b1 b2=>r ((b0,(b1,b2)),())) rfl (fun _=>rfl) (fun _ _=>rfl) (by kernel_rfl)
def zkg:SC PG:=fz (zml N) Tryz.func321 [zq9 N] .str .bool [] (fun v=>z8t N v) (by kernel_rfl)
def ziw:SE PG:=E0 [] [] [zm3 N,zkg N,zik N]
def zsf:SL PG Tryz.f329.ntmps (Y0 Tryz.f329):=pz (ziw N) [] 13 ⟨[1,32],(.cons (.ptr 2000000 0) .bool),[(2000000,[1], .boxV z17)],[]⟩ (1,⟨[2], .bool,[],[]⟩) [(0,⟨[1],(.ptr 2000000 0),[(2000000,[1], .boxV z17)],[]⟩)] (fun v=>K2 N v.1.2 v.2.1) (by kernel_rfl)
def zsg:SL PG Tryz.f329.ntmps (Y0 Tryz.f329):=pz (ziw N) [] 7 ⟨[1],(.ptr 2000000 0),[(2000000,[1], .boxV z17)],[]⟩ (1,⟨[2], .bool,[],[]⟩) [] (fun v=>Q3 N v.2.1) (by kernel_rfl)
def y05:SC PG:=fz (ziw N) Tryz.func329 [zsf N,zsg N] (.val z17) .bool [] (fun v=>zi0 N v) (by kernel_rfl)
def y6h:SC PG:=fz (E0 [] [] [y05 N]) Tryz.func326 [] (.val z17) (.tup (.cons .str (.int .i64))) [] (fun v=>znx N v) (by kernel_rfl)
def zpd:SE PG:=E0 [] [] [y06 N,y6h N]
def zsj:SL PG Tryz.f319.ntmps (Y0 Tryz.f319):=lz N (zpd N) [] 26 ⟨[0,2,4],(.cons .str Sh4_),[(2000000,[2], .boxC [.str [], .int .i64 0, .int .i64 0, .str []])],[]⟩ (1,⟨[2,3],Sh4_,[(2000000,[2], .boxV z17)],[]⟩) [(2,⟨[2],(.ptr 2000000 0),[(2000000,[2], .boxC [.str [], .int .i64 0, .int .i64 0, .str []])],[]⟩)] (z7z N N) (z2a N) (fun f v=>f v.1.1 v.1.2.2) (fun r b0 b1=>r ((b0,((),b1)),((),()))) rfl (fun _=>rfl) (fun _ _=>rfl) (by kernel_rfl)
def zm4:SC PG:=fz (zpd N) Tryz.func319 [zsj N] .str (.tup (.cons (.val z17) (.int .i64))) [] (fun v=>zdc N v) (by kernel_rfl)
def zz0:SC PG:=fz (E0 [] [] [zm4 N]) Tryz.func307 [] (.val Y1) (.val zgg) [] (fun v=>zf1 N v) (by kernel_rfl)
def zp9:SE PG:=E0 [] [] [zz0 N]
def zsb:SL PG Tryz.f283.ntmps (Y0 Tryz.f283):=lz N (zp9 N) [] 58 ⟨[0,2,3,4],(.cons (.list Y1) Sh8_),[(2000000,[2], .boxC [.int .i64 0, .int .i64 0]),(2000001,[3], .boxV zgg)],[]⟩ (2,⟨[2,3],Sh3_,[(2000000,[2], .boxC [.int .i64 0, .int .i64 0]),(2000001,[3], .boxV zgg)],[]⟩) [] (z7w N N) (z25 N) (fun f v=>f v.1.1 v.1.2.2.2 v.2.2.1) (fun r b0 b1 b2=>r ((b0,((),((),b1))),((),(b2,())))) rfl (fun _=>rfl) (fun _ _=>rfl) (by kernel_rfl)
def y03:SC PG:=fz (zp9 N) Tryz.func283 [zsb N] (.list Y1) (.val zgg) [] (fun v=>zhy N v) (by kernel_rfl)
def zzs:SC PG:=fz (E0 [] [] []) Tryz.func282 [] (.val zgg) (.val K8) [] (fun v=>zmv N v) (by kernel_rfl)
def y3w:SC PG:=fz (E0 [] [] []) Tryz.func284 [] (.cons (.val K8) (.val K8)) (.val K8) [] (fun v=>zqr N v.1 v.2) (by kernel_rfl)
def zvr:SC PG:=fz (E0 [] [] [zm4 N]) Tryz.func308 [] .str .bool [] (fun v=>z9j N v) (by kernel_rfl)
def zyu:SC PG:=fz (E0 [] [] []) Tryz.func309 [] (.cons (.val z5y) (.int .i64)) (.val z5y) [] (fun v=>z4p N v.1 v.2) (by kernel_rfl)
def zzp:SC PG:=fz (E0 [] [] []) Tryz.func310 [] (.cons (.val z5y) (.int .i64)) (.val z5y) [] (fun v=>zab N v.1 v.2) (by kernel_rfl)
def zis:SE PG:=E0 [] [] [zm3 N,zkg N]
def zry:SL PG Tryz.f311.ntmps (Y0 Tryz.f311):=pz (zis N) [] 15 ⟨[0,1,5,6],(.cons .str (.cons .str (.cons .bool .bool))),[],[]⟩ (1,⟨[4], .bool,[],[]⟩) [] (fun v=>z3m N v.1.1 v.1.2.1 v.1.2.2.1 v.1.2.2.2) (by kernel_rfl)
def zrz:SL PG Tryz.f311.ntmps (Y0 Tryz.f311):=pz (zis N) [zry N] 7 ⟨[0,1,5],(.cons .str (.cons .str .bool)),[],[]⟩ (1,⟨[4], .bool,[],[]⟩) [] (fun v=>z3n N v.1.1 v.1.2.1 v.1.2.2) (by kernel_rfl)
def zzt:SC PG:=fz (zis N) Tryz.func311 [zrz N] (.cons .str .str) .bool [] (fun v=>zd8 N v.1 v.2) (by kernel_rfl)
def zyv:SC PG:=fz (E0 [] [] [zvr N,zyu N,zzp N,zzt N]) Tryz.func285 [] (.cons (.val K8) (.val Z8)) (.val K8) [] (fun v=>z62 N v.1 v.2) (by kernel_rfl)
def zn0:SE PG:=E0 [] [] [y03 N,zzs N,y3w N,zyv N]
def zyg:SL PG Tryz.f238.ntmps (Y0 Tryz.f238):=lz N (zn0 N) [] 250 ⟨[1,2,3,5],Sh5_,[(2000000,[1], .boxV Z9),(2000001,[2], .boxC [.int .i64 0, .int .i64 0, .int .i64 0, .int .i64 0]),(2000002,[3], .boxV K8)],[]⟩ (4,⟨[2,3],Sh3_,[(2000000,[2], .boxC [.int .i64 0, .int .i64 0, .int .i64 0, .int .i64 0]),(2000001,[3], .boxV K8)],[]⟩) [] (zb5 N N) (z4i N) (fun f v=>f v.1.2.2.2 v.2.1 v.2.2.2.1) (fun r b0 b1 b2=>r (((),((),((),b0))),(b1,((),(b2,()))))) rfl (fun _=>rfl) (fun _ _=>rfl) (by kernel_rfl)
def zyh:SL PG Tryz.f238.ntmps (Y0 Tryz.f238):=lz N (zn0 N) [] 122 ⟨[1,2,3,4],Sh5_,[(2000000,[1], .boxV Z9),(2000001,[2], .boxC [.int .i64 0, .int .i64 0, .int .i64 0, .int .i64 0]),(2000002,[3], .boxV K8)],[]⟩ (2,⟨[1,2,3],y1u,[(2000000,[1], .boxV Z9),(2000001,[2], .boxC [.int .i64 0, .int .i64 0, .int .i64 0, .int .i64 0]),(2000002,[3], .boxV K8)],[]⟩) [] (zb6 N N) (z4j N) (fun f v=>f v.1.2.2.2 v.2.1 v.2.2.2.1) (fun r b0 b1 b2=>r (((),((),((),b0))),(b1,((),(b2,()))))) rfl (fun _=>rfl) (fun _ _=>rfl) (by kernel_rfl)
def zsv:SC PG:=fz (zn0 N) Tryz.func238 [zyh N,zyg N] (.val Z9) (.val K8) [] (fun v=>zjg N v) (by kernel_rfl)
def ztd:SE PG:=E0 [] [] [zsv N]
def zv2:SL PG Tryz.f312.ntmps (Y0 Tryz.f312):=lz N (ztd N) [] 58 ⟨[0,3,4],(.cons (.list Z9) Sh9_),[(2000000,[3], .sl K8)],[]⟩ (2,⟨[3],(.own 2000000),[(2000000,[3], .sl K8)],[]⟩) [] (z9d N N) (z33 N) (fun f v=>f v.1.1 v.1.2.2 v.2.1) (fun r b0 b1 b2=>r ((b0,((),b1)),(b2,()))) rfl (fun _=>rfl) (fun _ _=>rfl) (by kernel_rfl)
def y3q:SC PG:=fz (ztd N) Tryz.func312 [zv2 N] (.list Z9) (.fresh K8) [] (fun v=>zkp N v) (by kernel_rfl)
def zlt:SC PG:=fz (E0 [(J2,[23,40,55,63])] [] [y3q N]) Tryz.func297 [] (.cons (.val Z9) (.cons (.int .i64) (.cons (.val zdf) (.list (.int .i64))))) (.val Z9) [] (fun v=>z84 N v.1 v.2.1 v.2.2.1 v.2.2.2) (by kernel_rfl)
def zmb:SE PG:=E0 [(J2,[2000000])] [] [zsv N]
def zps:SL PG Tryz.f312.ntmps (Y0 Tryz.f312):=lz N (zmb N) [] 58 ⟨[0,3,4],(.cons (.list Z9) Sh9_),[(2000000,[3], .sl K8)],[]⟩ (2,⟨[3],(.own 2000000),[(2000000,[3], .sl K8)],[]⟩) [] (z6c N N) (z77 N) (fun f v=>f v.1.1 v.1.2.2 v.2.1) (fun r b0 b1 b2=>r ((b0,((),b1)),(b2,()))) rfl (fun _=>rfl) (fun _ _=>rfl) (by kernel_rfl)
def zyq:SC PG:=fz (zmb N) Tryz.func312 [zps N] (.list Z9) (.list K8) [] (fun v=>zev N v) (by kernel_rfl)
def zii:SC PG:=fz (E0 [(J2,[13])] [] [zbu N,zdi N]) Tryz.func91 [] (.cons (.val (.list Y8)) (.int .i64)) (.tup (.cons (.val (.list Y8)) (.int .i64))) [] (fun v=>z8d N v.1 v.2) (by kernel_rfl)
def zxm:SE PG:=E0 [] [] [zbv N]
def zya:SL PG Tryz.f298.ntmps (Y0 Tryz.f298):=lz N (zxm N) [] 26 ⟨[1,2,4,5],(.cons (.list (.int .i64)) Sh8_),[(2000000,[2], .box (.list Y8)),(2000001,[4], .boxC [.nils])],[]⟩ (2,⟨[2,4],Sh3_,[(2000000,[2], .box (.list Y8)),(2000001,[4], .boxC [.nils])],[]⟩) [] (zb3 N N) (z4d N) (fun f v=>f v.1.1 v.1.2.2.2 v.2.1) (fun r b0 b1 b2=>r ((b0,((),((),b1))),(b2,((),())))) rfl (fun _=>rfl) (fun _ _=>rfl) (by kernel_rfl)
def zst:SC PG:=fz (zxm N) Tryz.func298 [zya N] (.cons (.val (.list Y8)) (.list (.int .i64))) (.val (.list Y8)) [] (fun v=>zg8 N v.1 v.2) (by kernel_rfl)
def zi7:SE PG:=E0 [(19,[2000003]),(2000114,[113]),(3000084,[84])] [] [zsu N,z94 N,zlt N,zyq N,zii N,zst N]
def zy7:SL PG Tryz.f291.ntmps (Y0 Tryz.f291):=pz (zi7 N) [] 30845 ⟨[3,5,6,8,9,11,12,72],(.cons (.ptr 2000000 0) (.cons (.ptr 2000001 0) (.cons (.ptr 2000002 0) (.cons (.ptr 2000003 0) (.cons (.own 2000004) (.cons (.ptr 2000005 0) (.cons (.int .i64) .bool))))))),[(2000000,[3], .boxV X8),(2000001,[5], .box (.cons (.list Z9) (.cons (.list .str) (.list Z8)))),(2000002,[6], .boxC [.nils, .int .i64 0, .int .i64 0, .int .i64 0, .int .i64 0]),(2000003,[8], .box (.list Y8)),(2000004,[9], .sl (.int .i64)),(2000005,[11], .boxV zj0)],[]⟩ (1,⟨[6,7],Sh4_,[(2000000,[6], .boxV X8)],[]⟩) [(0,⟨[3,6,8,9,12],yhg,[(2000000,[3], .boxV X8),(2000001,[6], .boxC [.nils, .int .i64 0, .int .i64 0, .int .i64 0, .int .i64 0]),(2000002,[8], .box (.list Y8)),(2000003,[9], .sl (.int .i64))],[]⟩)] (fun v=>z8n N v.1.2.2.2.2.2.2.1 v.1.2.2.2.2.2.2.2 v.2.1 v.2.2.1.1 v.2.2.1.2.1 v.2.2.1.2.2 v.2.2.2.2.1 v.2.2.2.2.2.1 v.2.2.2.2.2.2.1) (by kernel_rfl)
def zy8:SL PG Tryz.f291.ntmps (Y0 Tryz.f291):=pz (zi7 N) [] 15423 ⟨[3,6,8,9,12],yhg,[(2000000,[3], .boxV X8),(2000001,[6], .boxC [.nils, .int .i64 0, .int .i64 0, .int .i64 0, .int .i64 0]),(2000002,[8], .box (.list Y8)),(2000003,[9], .sl (.int .i64))],[]⟩ (1,⟨[6,7],Sh4_,[(2000000,[6], .boxV X8)],[]⟩) [] (fun v=>z8o N v.1.2.2.2.2 v.2.1 v.2.2.2.1 v.2.2.2.2.1) (by kernel_rfl)
def zy9:SL PG Tryz.f291.ntmps (Y0 Tryz.f291):=lz N (zi7 N) [zy7 N,zy8 N] 30 ⟨[1,3,5,6,8,9,10],(.cons (.list (.int .i64)) (.cons (.ptr 2000000 0) (.cons (.ptr 2000001 0) (.cons (.ptr 2000002 0) (.cons (.ptr 2000003 0) (.cons (.own 2000004) (.int .i64))))))),[(2000000,[3], .boxV X8),(2000001,[5], .box (.cons (.list Z9) (.cons (.list .str) (.list Z8)))),(2000002,[6], .boxC [.nils, .int .i64 0, .int .i64 0, .int .i64 0, .int .i64 0]),(2000003,[8], .box (.list Y8)),(2000004,[9], .sl (.int .i64))],[61]⟩ (1,⟨[6,7],Sh4_,[(2000000,[6], .boxV X8)],[]⟩) [] (zb2 N N) (z4c N) (fun f v=>f v.1.1 v.1.2.2.2.2.2.2 v.2.1 v.2.2.1.1 v.2.2.1.2.1 v.2.2.1.2.2 v.2.2.2.2.1 v.2.2.2.2.2.1) (fun r b0 b1 b2 b3 b4 b5 b6 b7=>r ((b0,((),((),((),((),((),b1)))))),(b2,((b3,(b4,b5)),((),(b6,(b7,()))))))) rfl (fun _=>rfl) (fun _ _=>rfl) (by kernel_rfl)
def zss:SC PG:=fz (zi7 N) Tryz.func291 [zy9 N] (.cons (.val X8) (.cons (.list (.int .i64)) (.val zdf))) (.tup (.cons (.val X8) (.int .i64))) [] (fun v=>zam N v.1 v.2.1 v.2.2) (by kernel_rfl)
def zxo:SE PG:=E0 [] [] [z94 N,zss N]
def zyc:SL PG Tryz.f255.ntmps (Y0 Tryz.f255):=pz (zxo N) [] 7 ⟨[1,3,5,6],(.cons (.list (.int .i64)) y1u),[(2000000,[3], .boxV X8),(2000001,[5], .boxV zdf),(2000002,[6], .boxC [.nils, .int .i64 0, .int .i64 0, .int .i64 0, .int .i64 0])],[]⟩ (1,⟨[6,7],Sh4_,[(2000000,[6], .boxV X8)],[]⟩) [] (fun v=>zjx N v.1.1 v.2.1 v.2.2.1) (by kernel_rfl)
def y6c:SC PG:=fz (zxo N) Tryz.func255 [zyc N] (.cons (.val X8) (.cons (.list (.int .i64)) (.val zdf))) (.tup (.cons (.val X8) (.int .i64))) [] (fun v=>zg9 N v.1 v.2.1 v.2.2) (by kernel_rfl)
def zp1:SE PG:=E0 [(J2,[2000002,2000003])] [] [zlu N]
def zrn:SL PG Tryz.f256.ntmps (Y0 Tryz.f256):=lz N (zp1 N) [] 122 ⟨[2,4,5,6,7,8],(.cons (.ptr 2000000 0) (.cons (.ptr 2000001 0) (.cons (.ptr 2000002 0) (.cons (.int .i64) (.cons (.own 2000005) (.int .i64)))))),[(2000000,[2], .boxV Z9),(2000001,[4], .boxC [.nils, .nils, .nils]),(2000002,[5], .box (.cons (.own 2000003) (.cons (.own 2000004) (.list Z8)))),(2000003,[5,0], .sl Z9),(2000004,[5,1], .sl .str),(2000005,[7], .sl (.int .i64))],[]⟩ (2,⟨[4,5],Sh3_,[(2000000,[4], .boxC [.nils, .nils, .nils]),(2000001,[5], .box (.cons (.own 2000002) (.cons (.own 2000003) (.list Z8)))),(2000002,[5,0], .sl Z9),(2000003,[5,1], .sl .str)],[]⟩) [] (z7g N N) (z1m N) (fun f v=>f v.1.2.2.2.1 v.1.2.2.2.2.2 v.2.1 v.2.2.2.1.2.2 v.2.2.2.2.1 v.2.2.2.2.2.1 v.2.2.2.2.2.2.1) (fun r b0 b1 b2 b3 b4 b5 b6=>r (((),((),((),(b0,((),b1))))),(b2,((),(((),((),b3)),(b4,(b5,(b6,())))))))) rfl (fun _=>rfl) (fun _ _=>rfl) (by kernel_rfl)
def zzn:SC PG:=fz (zp1 N) Tryz.func256 [zrn N] (.cons (.val Z9) (.val z2v)) (.val zj1) [] (fun v=>zhr N v.1 v.2) (by kernel_rfl)
def zzu:SC PG:=fz (E0 [] [] [zm2 N]) Tryz.func313 [] (.list .str) (.fresh Z2) [] (fun v=>zmw N v) (by kernel_rfl)
def zzv:SC PG:=fz (E0 [] [] []) Tryz.func322 [] (.val Z8) .bool [] (fun v=>zac N v) (by kernel_rfl)
def zas:SC PG:=fz (E0 [] [] [j8 N]) Tryz.func213 [] (.val Z8) (.fresh Z2) [] (fun v=>z5v N v) (by kernel_rfl)
def z3w:SC PG:=fz (E0 [] [] [zep N,j8 N]) Tryz.func211 [] (.val Z8) (.fresh Z2) [] (fun v=>K6 N v) (by kernel_rfl)
def zkf:SC PG:=fz (E0 [] [] [z3i N,zij N]) Tryz.func306 [] (.cons (.val Z2) (.val Z2)) .bool [] (fun v=>zb9 N v.1 v.2) (by kernel_rfl)
def ztj:SE PG:=E0 [] [] [zas N,z3w N,zkf N]
def zvc:SL PG Tryz.f323.ntmps (Y0 Tryz.f323):=lz N (ztj N) [] 58 ⟨[3,5,6],Sh7_,[(2000000,[3], .boxV Z2),(2000001,[5], .sl Z2)],[]⟩ (1,⟨[4], .bool,[],[]⟩) [(2,⟨[], .nil,[],[]⟩)] (z9l N N) (z3c N) (fun f v=>f v.1.2.2 v.2.1 v.2.2.1) (fun r b0 b1 b2=>r (((),((),b0)),(b1,(b2,())))) rfl (fun _=>rfl) (fun _ _=>rfl) (by kernel_rfl)
def y41:SC PG:=fz (ztj N) Tryz.func323 [zvc N] (.cons (.val Z8) (.val Z2)) .bool [] (fun v=>zkv N v.1 v.2) (by kernel_rfl)
def zit:SE PG:=E0 [] [] [z95 N,z3i N]
def zs5:SL PG Tryz.f275.ntmps (Y0 Tryz.f275):=lz N (zit N) [] 1682 ⟨[0,1,5,6],(.cons (.list Z2) (.cons (.list Z2) zob)),[],[]⟩ (1,⟨[4], .bool,[],[]⟩) [(4,⟨[0,1,5],(.cons (.list Z2) (.cons (.list Z2) (.int .i64))),[],[]⟩)] (z7s N N) (z1z N) (fun f v=>f v.1.1 v.1.2.1 v.1.2.2.1 v.1.2.2.2) (fun r b0 b1 b2 b3=>r ((b0,(b1,(b2,b3))),())) rfl (fun _=>rfl) (fun _ _=>rfl) (by kernel_rfl)
def zs6:SL PG Tryz.f275.ntmps (Y0 Tryz.f275):=lz N (zit N) [zs5 N] 26 ⟨[0,1,5],(.cons (.list Z2) (.cons (.list Z2) (.int .i64))),[],[]⟩ (1,⟨[4], .bool,[],[]⟩) [(2,⟨[], .nil,[],[]⟩)] (z7t N N) (z20 N) (fun f v=>f v.1.1 v.1.2.1 v.1.2.2) (fun r b0 b1 b2=>r ((b0,(b1,b2)),())) rfl (fun _=>rfl) (fun _ _=>rfl) (by kernel_rfl)
def zg0:SC PG:=fz (zit N) Tryz.func275 [zs6 N] (.cons (.list Z2) (.list Z2)) .bool [] (fun v=>z87 N v.1 v.2) (by kernel_rfl)
def y40:SC PG:=fz (E0 [] [] [z3w N,zg0 N,z95 N]) Tryz.func324 [] (.cons (.val Z8) (.val Z2)) (.fresh Z8) [] (fun v=>zgq N v.1 v.2) (by kernel_rfl)
def zmj:SE PG:=E0 [] [] [z3i N]
def zq7:SL PG Tryz.f260.ntmps (Y0 Tryz.f260):=lz N (zmj N) [] 58 ⟨[0,3,5,6,7],(.cons (.list Z2) yhf),[(2000000,[3], .boxV Z2),(2000001,[5], .sl Z2)],[]⟩ (2,⟨[3,5,6],(.cons (.ptr 2000000 0) (.cons (.own 2000001) .bool)),[(2000000,[3], .boxV Z2),(2000001,[5], .sl Z2)],[]⟩) [] (z6k N N) (z0t N) (fun f v=>f v.1.1 v.1.2.2.2.1 v.1.2.2.2.2 v.2.1 v.2.2.1) (fun r b0 b1 b2 b3 b4=>r ((b0,((),((),(b1,b2)))),(b3,(b4,())))) rfl (fun _=>rfl) (fun _ _=>rfl) (by kernel_rfl)
def zz1:SC PG:=fz (zmj N) Tryz.func260 [zq7 N] (.cons (.list Z2) (.val Z2)) (.fresh Z2) [] (fun v=>zf2 N v.1 v.2) (by kernel_rfl)
def zf7:SE PG:=E0 [] [] [zz1 N,zij N]
def zvg:SL PG Tryz.f209.ntmps (Y0 Tryz.f209):=pz (zf7 N) [] 7827 ⟨[3,4,6,7,53],(.cons (.own 2000000) (.cons (.own 2000001) (.cons (.int .i64) (.cons (.int .i64) .bool)))),[(2000000,[3], .sl Z2),(2000001,[4], .sl Z2)],[]⟩ (0,⟨[3,4,6],(.cons (.own 2000000) y84),[(2000000,[3], .sl Z2),(2000001,[4], .sl Z2)],[]⟩) [] (fun v=>z2q N v.1.2.2.1 v.1.2.2.2.1 v.1.2.2.2.2 v.2.1 v.2.2.1) (by kernel_rfl)
def zvh:SL PG Tryz.f209.ntmps (Y0 Tryz.f209):=lz N (zf7 N) [zvg N] 122 ⟨[3,4,6],(.cons (.own 2000000) y84),[(2000000,[3], .sl Z2),(2000001,[4], .sl Z2)],[]⟩ (4,⟨[4],(.own 2000000),[(2000000,[4], .sl Z2)],[]⟩) [] (z6w N N) (z3e N) (fun f v=>f v.1.2.2 v.2.1 v.2.2.1) (fun r b0 b1 b2=>r (((),((),b0)),(b1,(b2,())))) rfl (fun _=>rfl) (fun _ _=>rfl) (by kernel_rfl)
def zvi:SL PG Tryz.f209.ntmps (Y0 Tryz.f209):=lz N (zf7 N) [] 58 ⟨[0,3,4,5],(.cons (.list Z2) (.cons (.own 2000000) y84)),[(2000000,[3], .sl Z2),(2000001,[4], .sl Z2)],[]⟩ (2,⟨[3,4],(.cons (.own 2000000) (.own 2000001)),[(2000000,[3], .sl Z2),(2000001,[4], .sl Z2)],[]⟩) [] (z6x N N) (z8 N) (fun f v=>f v.1.1 v.1.2.2.2 v.2.1 v.2.2.1) (fun r b0 b1 b2 b3=>r ((b0,((),((),b1))),(b2,(b3,())))) rfl (fun _=>rfl) (fun _ _=>rfl) (by kernel_rfl)
def zbw:SC PG:=fz (zf7 N) Tryz.func209 [zvi N,zvh N] (.list Z2) (.fresh Z2) [] (fun v=>z0u N v) (by kernel_rfl)
def ziv:SE PG:=E0 [] [] [zbw N,z3i N,z95 N]
def zsd:SL PG Tryz.f210.ntmps (Y0 Tryz.f210):=lz N (ziv N) [] 29850 ⟨[1,5,6,7,8],(.cons (.list Z2) (.cons (.own 2000000) (.cons (.int .i64) y84))),[(2000000,[5], .sl Z2),(2000001,[7], .sl Z2)],[]⟩ (4,⟨[1,6,7],(.cons (.list Z2) (.cons (.int .i64) (.own 2000000))),[(2000000,[7], .sl Z2)],[]⟩) [] (z5f N N) (z27 N) (fun f v=>f v.1.1 v.1.2.2.1 v.1.2.2.2.2 v.2.1 v.2.2.1) (fun r b0 b1 b2 b3 b4=>r ((b0,((),(b1,((),b2)))),(b3,(b4,())))) rfl (fun _=>rfl) (fun _ _=>rfl) (by kernel_rfl)
def zse:SL PG Tryz.f210.ntmps (Y0 Tryz.f210):=lz N (ziv N) [zsd N] 58 ⟨[1,5,6],(.cons (.list Z2) Sh9_),[(2000000,[5], .sl Z2)],[]⟩ (2,⟨[5],(.own 2000000),[(2000000,[5], .sl Z2)],[]⟩) [] (z5g N N) (Q8 N) (fun f v=>f v.1.1 v.1.2.2 v.2.1) (fun r b0 b1 b2=>r ((b0,((),b1)),(b2,()))) rfl (fun _=>rfl) (fun _ _=>rfl) (by kernel_rfl)
def zg1:SC PG:=fz (ziv N) Tryz.func210 [zse N] (.cons (.list Z2) (.list Z2)) (.fresh Z2) [] (fun v=>Q7 N v.1 v.2) (by kernel_rfl)
def zmf:SE PG:=E0 [] [] [zzv N,zas N,z3w N,y41 N,zg0 N,y40 N,zg1 N]
def zq1:SL PG Tryz.f314.ntmps (Y0 Tryz.f314):=lz N (zmf N) [] 8150 ⟨[3,4,6,9,10],(.cons (.ptr 2000000 0) (.cons (.ptr 2000004 0) (.cons (.ptr 2000005 0) (.cons (.own 2000006) (.int .i64))))),[(2000000,[3], .box (.cons (.own 2000001) (.cons (.own 2000002) (.own 2000003)))),(2000001,[3,0], .sl Z8),(2000002,[3,1], .sl Z8),(2000003,[3,2], .sl Z2),(2000004,[4], .boxV Z8),(2000005,[6], .boxC [.nils, .nils, .nils]),(2000006,[9], .sl Z2)],[]⟩ (2,⟨[3,6],(.cons (.ptr 2000000 0) (.ptr 2000004 0)),[(2000000,[3], .box (.cons (.own 2000001) (.cons (.own 2000002) (.own 2000003)))),(2000001,[3,0], .sl Z8),(2000002,[3,1], .sl Z8),(2000003,[3,2], .sl Z2),(2000004,[6], .boxC [.nils, .nils, .nils])],[]⟩) [] (z42 N N) (z0o N) (fun f v=>f v.1.2.2.2.2 v.2.2.1 v.2.2.2.1 v.2.2.2.2.1 v.2.2.2.2.2.1 v.2.2.2.2.2.2.2.1) (fun r b0 b1 b2 b3 b4 b5=>r (((),((),((),((),b0)))),(((),((),())),(b1,(b2,(b3,(b4,((),(b5,()))))))))) rfl (fun _=>rfl) (fun _ _=>rfl) (by kernel_rfl)
def zxy:SM PG:=mz (zmf N) Tryz.func314 [zq1 N] ⟨[0,1,2],(.cons (.agg (.cons (.own 5000000) (.cons (.own 5000001) (.own 5000002)))) (.cons (.val Z8) (.val Z2))),[(5000000,[0,0], .sl Z8),(5000001,[0,1], .sl Z8),(5000002,[0,2], .sl Z2)],[]⟩ ⟨[0],(.agg (.cons (.own 2000000) (.cons (.own 2000001) (.own 2000002)))),[(2000000,[0,0], .sl Z8),(2000001,[0,1], .sl Z8),(2000002,[0,2], .sl Z2)],[]⟩ [] (fun v=>z2m N v.1.2.1 v.1.2.2 v.2.1 v.2.2.1 v.2.2.2.1) (by kernel_rfl)
def zp3:SE PG:=E0 [(J2,[2000002,2000003,2000004])] [30] [zzu N] [zxy N]
def zs1:SL PG Tryz.f293.ntmps (Y0 Tryz.f293):=lz N (zp3 N) [] 58 ⟨[0,6,7,8,9],(.cons (.list Z8) (.cons (.ptr 2000000 0) (.cons (.ptr 2000001 0) (.cons (.ptr 2000005 0) (.int .i64))))),[(2000000,[6], .boxC [.nils, .nils, .nils]),(2000001,[7], .box ykw),(2000002,[7,0], .sl Z8),(2000003,[7,1], .sl Z8),(2000004,[7,2], .sl Z2),(2000005,[8], .boxV Z2)],[]⟩ (2,⟨[6,7],Sh3_,[(2000000,[6], .boxC [.nils, .nils, .nils]),(2000001,[7], .box ykw),(2000002,[7,0], .sl Z8),(2000003,[7,1], .sl Z8),(2000004,[7,2], .sl Z2)],[]⟩) [] (z7o N N) (z1w N) (fun f v=>f v.1.1 v.1.2.2.2.2 v.2.2.2.1 v.2.2.2.2.1 v.2.2.2.2.2.1 v.2.2.2.2.2.2.1) (fun r b0 b1 b2 b3 b4 b5=>r ((b0,((),((),((),b1)))),((),(((),((),())),(b2,(b3,(b4,(b5,())))))))) rfl (fun _=>rfl) (fun _ _=>rfl) (by kernel_rfl)
def zlz:SC PG:=fz (zp3 N) Tryz.func293 [zs1 N] (.cons (.list Z8) (.cons (.list .str) (.int .i64))) (.val zn4) [] (fun v=>z5u N v.1 v.2.1 v.2.2) (by kernel_rfl)
def ztc:SE PG:=E0 [] [] [zlz N]
def zv1:SL PG Tryz.f257.ntmps (Y0 Tryz.f257):=lz N (ztc N) [] 122 ⟨[1,4,5,6],(.cons (.ptr 2000000 0) (.cons (.int .i64) zob)),[(2000000,[1], .boxV Z9)],[]⟩ (2,⟨[4,5],zob,[],[]⟩) [] (z6t N N) (z32 N) (fun f v=>f v.1.2.1 v.1.2.2.1 v.1.2.2.2 v.2.1) (fun r b0 b1 b2 b3=>r (((),(b0,(b1,b2))),(b3,()))) rfl (fun _=>rfl) (fun _ _=>rfl) (by kernel_rfl)
def y3n:SC PG:=fz (ztc N) Tryz.func257 [zv1 N] (.val Z9) (.tup (.cons (.int .i64) (.int .i64))) [] (fun v=>zkm N v) (by kernel_rfl)
def zvq:SC PG:=fz (E0 [(J2,[24,37,50])] [] []) Tryz.func294 [] (.cons (.val Z9) (.int .i64)) (.val Z9) [] (fun v=>z9c N v.1 v.2) (by kernel_rfl)
def y3r:SC PG:=fz (E0 [] [] []) Tryz.func295 [] (.cons (.val X8) (.cons (.val X8) (.cons (.int .i64) (.int .i64)))) (.val z6q) [] (fun v=>za5 N v.1 v.2.1 v.2.2.1 v.2.2.2) (by kernel_rfl)
def zxp:SE PG:=E0 [] [] [zm1 N]
def zyi:SL PG Tryz.f124.ntmps (Y0 Tryz.f124):=lz N (zxp N) [] 26 ⟨[0,1,5],(.cons (.list Y1) (.cons (.list Z8) (.int .i64))),[],[17]⟩ (2,⟨[0],(.list Y1),[],[]⟩) [] (zb8 N N) (z4k N) (fun f v=>f v.1.1 v.1.2.1 v.1.2.2) (fun r b0 b1 b2=>r ((b0,(b1,b2)),())) rfl (fun _=>rfl) (fun _ _=>rfl) (by kernel_rfl)
def zsw:SC PG:=fz (zxp N) Tryz.func124 [zyi N] (.cons (.list Y1) (.list Z8)) (.list Y1) [] (fun v=>zji N v.1 v.2) (by kernel_rfl)
def zir:SE PG:=E0 [(17,[84]),(24,[2000005]),(27,[2000006,2000007]),(3000125,[125]),(3000164,[164])] [] [z94 N,zeo N,zlz N,zvq N,zss N,y3r N,zsu N,zlt N,zst N,zsw N,zoi N]
def zrk:SL PG Tryz.f258.ntmps (Y0 Tryz.f258):=pz (zir N) [] 16383 ⟨[1,2,3,6,8,11,12],(.cons (.list (.int .i64)) (.cons (.int .i64) (.cons (.ptr 2000000 0) (.cons (.ptr 2000001 0) (.cons (.ptr 2000002 0) (.cons (.ptr 2000003 0) (.ptr 2000004 0))))))),[(2000000,[3], .boxV X8),(2000001,[6], .boxC [.nils, .int .i64 0, .int .i64 0, .int .i64 0, .int .i64 0, .int .i64 0, .int .i64 0]),(2000002,[8], .boxV Z9),(2000003,[11], .boxV zn4),(2000004,[12], .box (.cons (.list Z9) (.cons (.list .str) (.own 2000007)))),(2000007,[12,2], .sl Z8)],[87]⟩ (1,⟨[6],(.ptr 2000000 0),[(2000000,[6], .boxV z6q)],[]⟩) [] (fun v=>z11 N v.1.1 v.1.2.1 v.2.1 v.2.2.2.1 v.2.2.2.2.1 v.2.2.2.2.2.1.1 v.2.2.2.2.2.1.2.1 v.2.2.2.2.2.2.1) (by kernel_rfl)
def zrl:SL PG Tryz.f258.ntmps (Y0 Tryz.f258):=pz (zir N) [zrk N] 63 ⟨[1,2,3,6,8],(.cons (.list (.int .i64)) (.cons (.int .i64) y1u)),[(2000000,[3], .boxV X8),(2000001,[6], .boxC [.nils, .int .i64 0, .int .i64 0, .int .i64 0, .int .i64 0, .int .i64 0, .int .i64 0]),(2000002,[8], .boxV Z9)],[]⟩ (1,⟨[6],(.ptr 2000000 0),[(2000000,[6], .boxV z6q)],[]⟩) [] (fun v=>zg2 N v.1.1 v.1.2.1 v.2.1 v.2.2.2.1) (by kernel_rfl)
def zzm:SC PG:=fz (zir N) Tryz.func258 [zrl N] (.cons (.val X8) (.cons (.list (.int .i64)) (.int .i64))) (.val z6q) [] (fun v=>zhq N v.1 v.2.1 v.2.2) (by kernel_rfl)
def y6g:SC PG:=fz (E0 [] [] []) Tryz.func303 [] (.cons (.val Z2) .str) .bool [] (fun v=>znw N v.1 v.2) (by kernel_rfl)
def zg4:SE PG:=E0 [] [] [y6g N]
def zpu:SL PG Tryz.f273.ntmps (Y0 Tryz.f273):=lz N (zg4 N) [] 14922 ⟨[0,1,5,6,7,8],(.cons (.list Y1) (.cons (.list Z2) (.cons (.own 2000000) (.cons (.int .i64) (.cons .bool (.int .i64)))))),[(2000000,[5], .sl Y1)],[]⟩ (4,⟨[0,1,5,6,7],(.cons (.list Y1) (.cons (.list Z2) (.cons (.own 2000000) (.cons (.int .i64) .bool)))),[(2000000,[5], .sl Y1)],[]⟩) [] (z6e N N) (z0j N) (fun f v=>f v.1.1 v.1.2.1 v.1.2.2.2.1 v.1.2.2.2.2.1 v.1.2.2.2.2.2 v.2.1) (fun r b0 b1 b2 b3 b4 b5=>r ((b0,(b1,((),(b2,(b3,b4))))),(b5,()))) rfl (fun _=>rfl) (fun _ _=>rfl) (by kernel_rfl)
def zpv:SL PG Tryz.f273.ntmps (Y0 Tryz.f273):=lz N (zg4 N) [zpu N] 58 ⟨[0,1,5,6],ykv,[(2000000,[5], .sl Y1)],[]⟩ (2,⟨[5],(.own 2000000),[(2000000,[5], .sl Y1)],[]⟩) [] (z6f N N) (z0k N) (fun f v=>f v.1.1 v.1.2.1 v.1.2.2.2 v.2.1) (fun r b0 b1 b2 b3=>r ((b0,(b1,((),b2))),(b3,()))) rfl (fun _=>rfl) (fun _ _=>rfl) (by kernel_rfl)
def zys:SC PG:=fz (zg4 N) Tryz.func273 [zpv N] (.cons (.list Y1) (.list Z2)) (.fresh Y1) [] (fun v=>zb4 N v.1 v.2) (by kernel_rfl)
def zzx:SC PG:=fz (E0 [] [] [j8 N,z9w N]) Tryz.func318 [] (.cons (.val Z2) (.cons .str .str)) (.val Z2) [] (fun v=>zhu N v.1 v.2.1 v.2.2) (by kernel_rfl)
def zl5:SE PG:=E0 [(J2,[20,27,73])] [] [zep N,zg1 N,j8 N,z95 N,z3i N,zzx N,zbw N]
def zna:SL PG Tryz.f304.ntmps (Y0 Tryz.f304):=lz N (zl5 N) [] 1018 ⟨[0,3,5,7,8],(.cons (.list Z2) ycy),[(2000000,[3], .boxV Z8),(2000001,[5], .boxV Z2),(2000002,[7], .sl Z2)],[]⟩ (3,⟨[7],(.own 2000000),[(2000000,[7], .sl Z2)],[]⟩) [] (z0a N N) (z04 N) (fun f v=>f v.1.1 v.1.2.2.2.2 v.2.1 v.2.2.1 v.2.2.2.1) (fun r b0 b1 b2 b3 b4=>r ((b0,((),((),((),b1)))),(b2,(b3,(b4,()))))) rfl (fun _=>rfl) (fun _ _=>rfl) (by kernel_rfl)
def zvs:SC PG:=fz (zl5 N) Tryz.func304 [zna N] (.cons (.list Z2) (.val Z8)) (.list Z2) [] (fun v=>z2p N v.1 v.2) (by kernel_rfl)
def zp4:SE PG:=E0 [(5,[2000000])] [] [zbw N,zvs N]
def zs2:SL PG Tryz.f274.ntmps (Y0 Tryz.f274):=lz N (zp4 N) [] 58 ⟨[1,5,6],(.cons (.list Z8) (.cons (.list Z2) (.int .i64))),[],[9]⟩ (2,⟨[5],(.list Z2),[],[]⟩) [] (z7p N N) (z1x N) (fun f v=>f v.1.1 v.1.2.1 v.1.2.2) (fun r b0 b1 b2=>r ((b0,(b1,b2)),())) rfl (fun _=>rfl) (fun _ _=>rfl) (by kernel_rfl)
def zzw:SC PG:=fz (zp4 N) Tryz.func274 [zs2 N] (.cons (.val Z2) (.list Z8)) (.list Z2) [] (fun v=>zht N v.1 v.2) (by kernel_rfl)
def z47(self:(List Z6)->Int->Z0->(List Z0)->Option (((List Z3)×Int))):Ctr:=zl8 (.cons (.val (.list Y8)) (.cons (.int .i64) (.cons (.val Z2) (.list Z2)))) (.tup (.cons (.list Y1) (.int .i64))) [] (fun v=>self v.1 v.2.1 v.2.2.1 v.2.2.2)
def zk4(self:(List Z6)->Int->Z0->(List Z0)->Option (((List Z3)×Int)))(hs:z5r PG 234 fun xs=>(z47 self).run xs some):SE PG:=E0 [(J2,[35,97]),(16,[2000003]),(17,[2000002]),(21,[2000001])] [] [⟨234,z47 self,hs⟩,zeo N,zys N,zzw N,zlv N,zg0 N,zsw N]
def zv6(self:(List Z6)->Int->Z0->(List Z0)->Option (((List Z3)×Int)))(hs:z5r PG 234 fun xs=>(z47 self).run xs some):SL PG Tryz.f234.ntmps (Y0 Tryz.f234):=lz N (zk4 N self hs) [] 4090 ⟨[3,4,10,12,14,15,16],(.cons (.list Z2) (.cons (.ptr 2000000 0) (.cons (.ptr 2000001 0) (.cons (.list Z2) (.cons (.list Z2) (.cons (.own 2000004) (.int .i64))))))),[(2000000,[4], .box (.list Y8)),(2000001,[10], .boxV Z9),(2000004,[15], .sl Y1)],[54,2000003]⟩ (1,⟨[8,9],(.cons (.list Y1) (.int .i64)),[],[]⟩) [(4,⟨[3,10,15],(.cons (.list Z2) y85),[(2000000,[10], .boxV Z9),(2000001,[15], .sl Y1)],[]⟩)] (z6u N self N) (z36 N self) (fun f v=>f v.1.1 v.1.2.2.2.1 v.1.2.2.2.2.1 v.1.2.2.2.2.2.2 v.2.1 v.2.2.1 v.2.2.2.1) (fun r b0 b1 b2 b3 b4 b5 b6=>r ((b0,((),((),(b1,(b2,((),b3)))))),(b4,(b5,(b6,()))))) rfl (fun _=>rfl) (fun _ _=>rfl) (by kernel_rfl)
def zv7(self:(List Z6)->Int->Z0->(List Z0)->Option (((List Z3)×Int)))(hs:z5r PG 234 fun xs=>(z47 self).run xs some):SL PG Tryz.f234.ntmps (Y0 Tryz.f234):=lz N (zk4 N self hs) [] 506 ⟨[3,4,6,10,12,13],(.cons (.list Z2) yhg),[(2000000,[4], .box (.list Y8)),(2000001,[6], .boxV Z2),(2000002,[10], .boxV Z9),(2000003,[12], .sl Z2)],[]⟩ (2,⟨[3,4,6,10,12],(.cons (.list Z2) (.cons (.ptr 2000000 0) (.cons (.ptr 2000001 0) (.cons (.ptr 2000002 0) (.own 2000003))))),[(2000000,[4], .box (.list Y8)),(2000001,[6], .boxV Z2),(2000002,[10], .boxV Z9),(2000003,[12], .sl Z2)],[]⟩) [] (z9g N self N) (z37 N self) (fun f v=>f v.1.1 v.1.2.2.2.2.2 v.2.1 v.2.2.1 v.2.2.2.1 v.2.2.2.2.1) (fun r b0 b1 b2 b3 b4 b5=>r ((b0,((),((),((),((),b1))))),(b2,(b3,(b4,(b5,())))))) rfl (fun _=>rfl) (fun _ _=>rfl) (by kernel_rfl)
def y49(self:(List Z6)->Int->Z0->(List Z0)->Option (((List Z3)×Int)))(hs:z5r PG 234 fun xs=>(z47 self).run xs some):SC PG:=fz (zk4 N self hs) Tryz.func234 [zv7 N self hs,zv6 N self hs] (.cons (.val (.list Y8)) (.cons (.int .i64) (.cons (.val Z2) (.list Z2)))) (.tup (.cons (.list Y1) (.int .i64))) [] (fun v=>z41 N self v.1 v.2.1 v.2.2.1 v.2.2.2) (by kernel_rfl)
def y3s:SC PG:=recz (f:=234) z47 (fun _ _ _ _=>none) (z41 N) (y1h fun _=>rfl) (fun self hs=>(y49 N self hs).h) N
def y3t:SC PG:=fz (E0 [(2000013,[12])] [] [y3s N]) Tryz.func178 [] (.cons (.val X8) (.val Z2)) (.tup (.cons (.list Y1) (.int .i64))) [] (fun v=>zkq N v.1 v.2) (by kernel_rfl)
def zly:SC PG:=fz (E0 [] [] []) Tryz.func315 [] (.val Z8) .bool [] (fun v=>z5t N v) (by kernel_rfl)
def zti:SE PG:=E0 [] [] [zly N,j8 N]
def zvb:SL PG Tryz.f316.ntmps (Y0 Tryz.f316):=lz N (zti N) [] 122 ⟨[1,2,5,6],(.cons (.list Y1) Sh7_),[(2000000,[2], .boxV Z8),(2000001,[5], .sl Z8)],[]⟩ (2,⟨[2,5],y85,[(2000000,[2], .boxV Z8),(2000001,[5], .sl Z8)],[]⟩) [] (z9k N N) (z3b N) (fun f v=>f v.1.1 v.1.2.2.2 v.2.1 v.2.2.1) (fun r b0 b1 b2 b3=>r ((b0,((),((),b1))),(b2,(b3,())))) rfl (fun _=>rfl) (fun _ _=>rfl) (by kernel_rfl)
def y3z:SC PG:=fz (zti N) Tryz.func316 [zvb N] (.cons (.val Z8) (.list Y1)) (.fresh Z8) [] (fun v=>zku N v.1 v.2) (by kernel_rfl)
def y3y:SC PG:=fz (E0 [] [] [zly N,y3z N]) Tryz.func299 [] (.cons (.list Z8) (.list Y1)) (.tup (.cons (.fresh Z8) (.int .i64))) [] (fun v=>zkt N v.1 v.2) (by kernel_rfl)
def zma:SE PG:=E0 [(J2,[51])] [] [j8 N,y3t N,y3y N]
def zpr:SL PG Tryz.f259.ntmps (Y0 Tryz.f259):=lz N (zma N) [] 58 ⟨[2,3,4,6,7],yhg,[(2000000,[2], .boxV X8),(2000001,[3], .boxV Z9),(2000002,[4], .boxC [.nils, .nils, .nils, .nils, .nils]),(2000003,[6], .sl Y1)],[]⟩ (1,⟨[4,5],Sh4_,[(2000000,[4], .boxV Z9)],[]⟩) [(2,⟨[3,4,6],ykx,[(2000000,[3], .boxV Z9),(2000001,[4], .boxC [.nils, .nils, .nils, .nils, .nils]),(2000002,[6], .sl Y1)],[]⟩)] (z1a N N) (z0h N) (fun f v=>f v.1.2.2.2.2 v.2.1 v.2.2.1 v.2.2.2.2.1) (fun r b0 b1 b2 b3=>r (((),((),((),((),b0)))),(b1,(b2,((),(b3,())))))) rfl (fun _=>rfl) (fun _ _=>rfl) (by kernel_rfl)
def zyp:SC PG:=fz (zma N) Tryz.func259 [zpr N] (.cons (.val X8) (.val Z9)) (.tup (.cons (.val Z9) (.int .i64))) [] (fun v=>z61 N v.1 v.2) (by kernel_rfl)
def y3o:SC PG:=fz (E0 [(2000105,[103])] [] [z94 N,zoi N,y6c N,zzn N,y3n N,zzm N,zyp N]) Tryz.func208 [] (.cons (.val X8) (.list (.int .i64))) (.tup (.cons (.val X8) (.int .i64))) [] (fun v=>zkn N v.1 v.2) (by kernel_rfl)
def zoy:SE PG:=E0 [(2000015,[13])] [] [zzl N,y3o N]
def zri:SL PG Tryz.f143.ntmps (Y0 Tryz.f143):=lz N (zoy N) [] 14 ⟨[1,2,4,5],(.cons .bool y1u),[(2000000,[2], .boxV X8),(2000001,[4], .boxC [.nils, .int .i64 0, .int .i64 0, .int .i64 0, .int .i64 0, .int .i64 0, .int .i64 0]),(2000002,[5], .boxV z81)],[]⟩ (1,⟨[4],(.ptr 2000000 0),[(2000000,[4], .boxV z81)],[]⟩) [] (z7e N N) (z4w N) (fun f v=>f v.1.1 v.2.1 v.2.2.2.1) (fun r b0 b1 b2=>r ((b0,((),((),()))),(b1,((),(b2,()))))) rfl (fun _=>rfl) (fun _ _=>rfl) (by kernel_rfl)
def zzk:SC PG:=fz (zoy N) Tryz.func143 [zri N] (.cons (.val X8) .bool) (.val z81) [] (fun v=>zmu N v.1 v.2) (by kernel_rfl)
def y3p:SC PG:=fz (E0 [] [] [zzk N]) Tryz.func87 [] (.val X8) (.val z81) [] (fun v=>zko N v) (by kernel_rfl)
def y3h:SC PG:=fz (E0 [] [] []) Tryz.func88 [] (.cons (.val Y2) (.val X8)) (.val Y2) [] (fun v=>zqp N v.1 v.2) (by kernel_rfl)
def y01:SC PG:=fz (E0 [] [] [z3w N]) Tryz.func212 [] (.val Z8) (.fresh Z2) [] (fun v=>zhw N v) (by kernel_rfl)
def ztk:SE PG:=E0 [(J2,[2000001,2000002])] [] [zbw N,z3w N,zg1 N,y01 N,zas N]
def zvd:SL PG Tryz.f144.ntmps (Y0 Tryz.f144):=lz N (ztk N) [] 122 ⟨[0,4,5,6,7],(.cons (.list Z8) (.cons (.ptr 2000000 0) yhe)),[(2000000,[4], .boxC [.nils, .nils]),(2000001,[5], .sl Z8),(2000002,[6], .sl Z2)],[]⟩ (2,⟨[4,5,6],(.cons (.ptr 2000000 0) (.cons (.own 2000001) (.own 2000002))),[(2000000,[4], .boxC [.nils, .nils]),(2000001,[5], .sl Z8),(2000002,[6], .sl Z2)],[]⟩) [] (z9m N N) (z3d N) (fun f v=>f v.1.1 v.1.2.2.2.2 v.2.2.1 v.2.2.2.1) (fun r b0 b1 b2 b3=>r ((b0,((),((),((),b1)))),((),(b2,(b3,()))))) rfl (fun _=>rfl) (fun _ _=>rfl) (by kernel_rfl)
def y42:SC PG:=fz (ztk N) Tryz.func144 [zvd N] (.cons (.list Z8) (.list Z2)) (.val zmo) [] (fun v=>zqs N v.1 v.2) (by kernel_rfl)
def zkd:SC PG:=fz (E0 [] [] [y42 N]) Tryz.func89 [] (.list Z8) (.list Z8) [] (fun v=>zb7 N v) (by kernel_rfl)
def zxl:SE PG:=E0 [(2000058,[57])] [] [y3i N,y6e N,y3p N,y3h N,zkd N]
def zy6:SL PG Tryz.f46.ntmps (Y0 Tryz.f46):=lz N (zxl N) [] 58 ⟨[1,2,4,6,8],(.cons (.list Z8) Sh5_),[(2000000,[2], .boxV Y2),(2000001,[4], .boxC [.nils, .int .i64 0, .int .i64 0, .int .i64 0, .nils, .int .i64 0, .int .i64 0, .int .i64 0, .nils]),(2000002,[6], .boxV X8)],[]⟩ (1,⟨[4,5],Sh4_,[(2000000,[4], .boxV Y2)],[]⟩) [(2,⟨[1,2,4,6],(.cons (.list Z8) y1u),[(2000000,[2], .boxV Y2),(2000001,[4], .boxC [.nils, .int .i64 0, .int .i64 0, .int .i64 0, .nils, .int .i64 0, .int .i64 0, .int .i64 0, .nils]),(2000002,[6], .boxV X8)],[]⟩)] (z4m N N) (z4b N) (fun f v=>f v.1.1 v.1.2.2.2.2 v.2.1 v.2.2.2.1) (fun r b0 b1 b2 b3=>r ((b0,((),((),((),b1)))),(b2,((),(b3,()))))) rfl (fun _=>rfl) (fun _ _=>rfl) (by kernel_rfl)
def zsr:SC PG:=fz (zxl N) Tryz.func46 [zy6 N] (.cons (.val Y2) (.list Z8)) (.tup (.cons (.val Y2) (.int .i64))) [] (fun v=>zje N v.1 v.2) (by kernel_rfl)
def zmz:SE PG:=E0 [(J2,[2000001,2000002])] [] []
def zy3:SL PG Tryz.f74.ntmps (Y0 Tryz.f74):=pz (zmz) [] 13 ⟨[0,1,4,19],(.cons (.int .i64) (.cons (.int .i64) (.cons (.ptr 2000000 0) .bool))),[(2000000,[4], .boxC [.int .i64 0, .nils, .nils])],[]⟩ (1,⟨[4,5],Sh4_,[(2000000,[4], .boxC [.int .i64 0, .nils, .nils])],[]⟩) [(0,⟨[0,1,4],yhd,[(2000000,[4], .boxC [.int .i64 0, .nils, .nils])],[]⟩)] (fun v=>z8l N v.1.1 v.1.2.1 v.1.2.2.2) (by kernel_rfl)
def zy4:SL PG Tryz.f74.ntmps (Y0 Tryz.f74):=pz (zmz) [] 7 ⟨[0,1,4],yhd,[(2000000,[4], .boxC [.int .i64 0, .nils, .nils])],[]⟩ (1,⟨[4,5],Sh4_,[(2000000,[4], .box (.cons (.int .i64) (.cons (.own 2000001) (.own 2000002)))),(2000001,[4,1], .sl (.list (.int .u8))),(2000002,[4,2], .sl J4)],[]⟩) [] (fun v=>z8m N v.1.1 v.1.2.1) (by kernel_rfl)
def zso:SC PG:=fz (zmz) Tryz.func74 [zy3 N,zy4 N] (.cons (.int .i64) (.int .i64)) (.tup (.cons (.val Q4) (.int .i64))) [] (fun v=>zal N v.1 v.2) (by kernel_rfl)
def zi6:SE PG:=E0 [(J2,[2000001,2000002])] [] []
def zy1:SL PG Tryz.f77.ntmps (Y0 Tryz.f77):=lz N (zi6) [] 122 ⟨[0,1,4,6,7],(.cons (.int .i64) (.cons (.int .i64) Sh8_)),[(2000000,[4], .boxC [.nils, .nils, .int .i64 0]),(2000001,[6], .box yku),(2000002,[6,0], .sl .bool),(2000003,[6,1], .sl (.int .i64))],[]⟩ (2,⟨[4,6],Sh3_,[(2000000,[4], .boxC [.nils, .nils, .int .i64 0]),(2000001,[6], .box yku),(2000002,[6,0], .sl .bool),(2000003,[6,1], .sl (.int .i64))],[]⟩) [] (zb0 N N) (z4a N) (fun f v=>f v.1.1 v.1.2.1 v.1.2.2.2.2 v.2.2.1.2.2 v.2.2.2.1 v.2.2.2.2.1) (fun r b0 b1 b2 b3 b4 b5=>r ((b0,(b1,((),((),b2)))),((),(((),((),b3)),(b4,(b5,())))))) rfl (fun _=>rfl) (fun _ _=>rfl) (by kernel_rfl)
def zxz:SL PG Tryz.f77.ntmps (Y0 Tryz.f77):=pz (zi6) [] 13 ⟨[0,1,4,22],(.cons (.int .i64) (.cons (.int .i64) (.cons (.ptr 2000000 0) .bool))),[(2000000,[4], .boxC [.nils, .nils, .int .i64 0])],[]⟩ (1,⟨[4,5],Sh4_,[(2000000,[4], .boxC [.nils, .nils, .int .i64 0])],[]⟩) [(0,⟨[0,1,4],yhd,[(2000000,[4], .boxC [.nils, .nils, .int .i64 0])],[]⟩)] (fun v=>z8j N v.1.1 v.1.2.1 v.1.2.2.2) (by kernel_rfl)
def zy0:SL PG Tryz.f77.ntmps (Y0 Tryz.f77):=pz (zi6) [zy1 N] 7 ⟨[0,1,4],yhd,[(2000000,[4], .boxC [.nils, .nils, .int .i64 0])],[]⟩ (1,⟨[4,5],Sh4_,[(2000000,[4], .box yhe),(2000001,[4,0], .sl .bool),(2000002,[4,1], .sl (.int .i64))],[]⟩) [] (fun v=>z8k N v.1.1 v.1.2.1) (by kernel_rfl)
def y69:SC PG:=fz (zi6) Tryz.func77 [zxz N,zy0 N] (.cons (.int .i64) (.int .i64)) (.tup (.cons (.val Q1) (.int .i64))) [] (fun v=>znv N v.1 v.2) (by kernel_rfl)
def zp8:SE PG:=E0 [] [] []
def zsa:SL PG Tryz.f305.ntmps (Y0 Tryz.f305):=lz N (zp8) [] 26 ⟨[0,3],(.cons (.list Y1) (.int .i64)),[],[]⟩ (1,⟨[2], .bool,[],[]⟩) [(2,⟨[], .nil,[],[]⟩)] (z7v N N) (z4x N) (fun f v=>f v.1.1 v.1.2) (fun r b0 b1=>r ((b0,b1),())) rfl (fun _=>rfl) (fun _ _=>rfl) (by kernel_rfl)
def y02:SC PG:=fz (zp8) Tryz.func305 [zsa N] (.list Y1) .bool [] (fun v=>zhx N v) (by kernel_rfl)
def zx3:SC PG:=fz (E0 [] [] []) Tryz.func278 [] (.cons (.int .i64) (.cons (.int .i64) (.int .i64))) .bool [] (fun v=>zjp N v.1 v.2.1 v.2.2) (by kernel_rfl)
def zth:SE PG:=E0 [] [] [y02 N,zjw N,zx3 N]
def zva:SL PG Tryz.f276.ntmps (Y0 Tryz.f276):=lz N (zth N) [] 58 ⟨[2,3,5],Sh8_,[(2000000,[2], .boxV Z9),(2000001,[3], .boxV Z2)],[]⟩ (1,⟨[4], .bool,[],[]⟩) [(2,⟨[], .nil,[],[]⟩)] (z9i N N) (z3a N) (fun f v=>f v.1.2.2 v.2.1 v.2.2.1) (fun r b0 b1 b2=>r (((),((),b0)),(b1,(b2,())))) rfl (fun _=>rfl) (fun _ _=>rfl) (by kernel_rfl)
def y3v:SC PG:=fz (zth N) Tryz.func276 [zva N] (.cons (.val Z9) (.val Z2)) .bool [] (fun v=>zkr N v.1 v.2) (by kernel_rfl)
def zaw:SE PG:=E0 [] [] []
def zpw:SL PG Tryz.f277.ntmps (Y0 Tryz.f277):=pz (zaw) [] 841 ⟨[0,3,5,48],(.cons (.list .str) (.cons (.ptr 2000000 0) (.cons (.int .i64) .bool))),[(2000000,[3], .boxV Z2)],[]⟩ (1,⟨[4], .bool,[],[]⟩) [(0,⟨[0,3,5],(.cons (.list .str) Sh4_),[(2000000,[3], .boxV Z2)],[]⟩)] (fun v=>g8 N v.1.1 v.1.2.2.1 v.1.2.2.2 v.2.1) (by kernel_rfl)
def zpx:SL PG Tryz.f277.ntmps (Y0 Tryz.f277):=pz (zaw) [] 211 ⟨[0,3,5],(.cons (.list .str) Sh4_),[(2000000,[3], .boxV Z2)],[]⟩ (0,⟨[0,3,5],(.cons (.list .str) Sh4_),[(2000000,[3], .boxV Z2)],[]⟩) [] (fun v=>g9 N v.1.1 v.1.2.2 v.2.1) (by kernel_rfl)
def zpy:SL PG Tryz.f277.ntmps (Y0 Tryz.f277):=lz N (zaw) [zpw N,zpx N] 26 ⟨[0,3,5],(.cons (.list .str) Sh4_),[(2000000,[3], .boxV Z2)],[]⟩ (1,⟨[4], .bool,[],[]⟩) [(2,⟨[], .nil,[],[]⟩)] (z1b N N) (z0l N) (fun f v=>f v.1.1 v.1.2.2 v.2.1) (fun r b0 b1 b2=>r ((b0,((),b1)),(b2,()))) rfl (fun _=>rfl) (fun _ _=>rfl) (by kernel_rfl)
def zyt:SC PG:=fz (zaw) Tryz.func277 [zpy N] (.cons (.list .str) (.val Z2)) .bool [] (fun v=>zex N v.1 v.2) (by kernel_rfl)
def zzq:SC PG:=fz (E0 [] [] []) Tryz.func279 [] (.val z5y) .bool [] (fun v=>zd7 N v) (by kernel_rfl)
def zme:SE PG:=E0 [] [] [zas N,z3w N,zkf N]
def zq0:SL PG Tryz.f280.ntmps (Y0 Tryz.f280):=lz N (zme N) [] 58 ⟨[3,5,6],Sh7_,[(2000000,[3], .boxV Z2),(2000001,[5], .sl Z2)],[]⟩ (1,⟨[4], .bool,[],[]⟩) [(2,⟨[], .nil,[],[]⟩)] (z6h N N) (z0n N) (fun f v=>f v.1.2.2 v.2.1 v.2.2.1) (fun r b0 b1 b2=>r (((),((),b0)),(b1,(b2,())))) rfl (fun _=>rfl) (fun _ _=>rfl) (by kernel_rfl)
def zyw:SC PG:=fz (zme N) Tryz.func280 [zq0 N] (.cons (.val Z8) (.val Z2)) .bool [] (fun v=>zey N v.1 v.2) (by kernel_rfl)
def zct:SE PG:=E0 [] [] [y3v N,zyt N,zx3 N,zzq N,zfz N,zyw N]
def zrp:SL PG Tryz.f236.ntmps (Y0 Tryz.f236):=lz N (zct N) [] 250 ⟨[2,3,6],Sh8_,[(2000000,[2], .boxV Z9),(2000001,[3], .boxV Z2)],[]⟩ (1,⟨[4], .bool,[],[]⟩) [(4,⟨[], .nil,[],[]⟩)] (z7h N N) (z1n N) (fun f v=>f v.1.2.2 v.2.1 v.2.2.1) (fun r b0 b1 b2=>r (((),((),b0)),(b1,(b2,())))) rfl (fun _=>rfl) (fun _ _=>rfl) (by kernel_rfl)
def zrq:SL PG Tryz.f236.ntmps (Y0 Tryz.f236):=lz N (zct N) [] 122 ⟨[2,3,5],Sh8_,[(2000000,[2], .boxV Z9),(2000001,[3], .boxV Z2)],[]⟩ (1,⟨[4], .bool,[],[]⟩) [(2,⟨[2,3],Sh3_,[(2000000,[2], .boxV Z9),(2000001,[3], .boxV Z2)],[]⟩)] (z5e N N) (z1o N) (fun f v=>f v.1.2.2 v.2.1 v.2.2.1) (fun r b0 b1 b2=>r (((),((),b0)),(b1,(b2,())))) rfl (fun _=>rfl) (fun _ _=>rfl) (by kernel_rfl)
def zro:SL PG Tryz.f236.ntmps (Y0 Tryz.f236):=pz (zct N) [zrq N,zrp N] 15 ⟨[2,3],Sh3_,[(2000000,[2], .boxV Z9),(2000001,[3], .boxV Z2)],[]⟩ (1,⟨[4], .bool,[],[]⟩) [] (fun v=>zat N v.2.1 v.2.2.1) (by kernel_rfl)
def zzr:SC PG:=fz (zct N) Tryz.func236 [zro N] (.cons (.val Z9) (.val Z2)) .bool [] (fun v=>zhs N v.1 v.2) (by kernel_rfl)
def zmd:SE PG:=E0 [] [] []
def zpz:SL PG Tryz.f239.ntmps (Y0 Tryz.f239):=lz N (zmd) [] 58 ⟨[0,5,6],(.cons (.int .i64) Sh9_),[(2000000,[5], .sl (.int .u8))],[]⟩ (2,⟨[5],(.own 2000000),[(2000000,[5], .sl (.int .u8))],[]⟩) [] (z6g N N) (z0m N) (fun f v=>f v.1.1 v.1.2.2 v.2.1) (fun r b0 b1 b2=>r ((b0,((),b1)),(b2,()))) rfl (fun _=>rfl) (fun _ _=>rfl) (by kernel_rfl)
def zkc:SC PG:=fz (zmd) Tryz.func239 [zpz N] (.cons (.int .i64) (.int .i64)) (.fresh (.int .u8)) [] (fun v=>V8 N v.1 v.2) (by kernel_rfl)
def y3u:SC PG:=fz (E0 [] [] [zkc N]) Tryz.func240 [] .str (.fresh (.int .u8)) [] (fun v=>zce N v) (by kernel_rfl)
def zmg:SE PG:=E0 [] [] []
def zq2:SL PG Tryz.f287.ntmps (Y0 Tryz.f287):=lz N (zmg) [] 58 ⟨[0,5,6],(.cons (.int .i64) Sh9_),[(2000000,[5], .sl (.int .u8))],[]⟩ (2,⟨[5],(.own 2000000),[(2000000,[5], .sl (.int .u8))],[]⟩) [] (z9x N N) (z78 N) (fun f v=>f v.1.1 v.1.2.2 v.2.1) (fun r b0 b1 b2=>r ((b0,((),b1)),(b2,()))) rfl (fun _=>rfl) (fun _ _=>rfl) (by kernel_rfl)
def zke:SC PG:=fz (zmg) Tryz.func287 [zq2 N] (.cons (.int .i64) (.int .i64)) (.fresh (.int .u8)) [] (fun v=>z63 N v.1 v.2) (by kernel_rfl)
def zp5:SE PG:=E0 [] [] [zke N]
def zs3:SL PG Tryz.f286.ntmps (Y0 Tryz.f286):=lz N (zp5 N) [] 58 ⟨[0,3,4],(.cons (.list .str) Sh9_),[(2000000,[3], .sl (.int .u8))],[]⟩ (2,⟨[3],(.own 2000000),[(2000000,[3], .sl (.int .u8))],[]⟩) [] (z7q N N) (z1y N) (fun f v=>f v.1.1 v.1.2.2 v.2.1) (fun r b0 b1 b2=>r ((b0,((),b1)),(b2,()))) rfl (fun _=>rfl) (fun _ _=>rfl) (by kernel_rfl)
def zzz:SC PG:=fz (zp5 N) Tryz.func286 [zs3 N] (.list .str) (.fresh (.int .u8)) [] (fun v=>J3 N v) (by kernel_rfl)
def zp7:SE PG:=E0 [] [] [zfz N,zzz N,zke N]
def zs7:SL PG Tryz.f241.ntmps (Y0 Tryz.f241):=pz (zp7 N) [] 31 ⟨[1,3],y85,[(2000000,[1], .boxV Z8),(2000001,[3], .sl (.int .u8))],[]⟩ (1,⟨[2],(.own 2000000),[(2000000,[2], .sl (.int .u8))],[]⟩) [] (fun v=>u9 N v.2.1 v.2.2.1) (by kernel_rfl)
def zm0:SC PG:=fz (zp7 N) Tryz.func241 [zs7 N] (.val Z8) (.fresh (.int .u8)) [] (fun v=>zd9 N v) (by kernel_rfl)
def z4v:SE PG:=E0 [] [] [zzr N,zkc N,y3u N,zm0 N]
def zrs:SL PG Tryz.f183.ntmps (Y0 Tryz.f183):=lz N (z4v N) [] 130342 ⟨[1,5,8,9,10],(.cons (.ptr 2000000 0) (.cons (.own 2000001) (.cons (.int .i64) (.cons (.ptr 2000002 0) (.int .i64))))),[(2000000,[1], .boxV Z9),(2000001,[5], .sl (.int .u8)),(2000002,[9], .boxV ybg)],[]⟩ (10,⟨[1,5,8],Sh7_,[(2000000,[1], .boxV Z9),(2000001,[5], .sl (.int .u8))],[]⟩) [] (z12 N N) (J0 N) (fun f v=>f v.1.2.2.1 v.1.2.2.2.2 v.2.1 v.2.2.1 v.2.2.2.1) (fun r b0 b1 b2 b3 b4=>r (((),((),(b0,((),b1)))),(b2,(b3,(b4,()))))) rfl (fun _=>rfl) (fun _ _=>rfl) (by kernel_rfl)
def zrt:SL PG Tryz.f183.ntmps (Y0 Tryz.f183):=lz N (z4v N) [] 4090 ⟨[1,5,11],Sh7_,[(2000000,[1], .boxV Z9),(2000001,[5], .sl (.int .u8))],[]⟩ (12,⟨[5],(.own 2000000),[(2000000,[5], .sl (.int .u8))],[]⟩) [] (z7j N N) (z1r N) (fun f v=>f v.1.2.2 v.2.1 v.2.2.1) (fun r b0 b1 b2=>r (((),((),b0)),(b1,(b2,())))) rfl (fun _=>rfl) (fun _ _=>rfl) (by kernel_rfl)
def zru:SL PG Tryz.f183.ntmps (Y0 Tryz.f183):=lz N (z4v N) [zrs N] 1018 ⟨[1,5,8],Sh7_,[(2000000,[1], .boxV Z9),(2000001,[5], .sl (.int .u8))],[]⟩ (8,⟨[1,5],y85,[(2000000,[1], .boxV Z9),(2000001,[5], .sl (.int .u8))],[]⟩) [] (z7k N N) (z1s N) (fun f v=>f v.1.2.2 v.2.1 v.2.2.1) (fun r b0 b1 b2=>r (((),((),b0)),(b1,(b2,())))) rfl (fun _=>rfl) (fun _ _=>rfl) (by kernel_rfl)
def zrv:SL PG Tryz.f183.ntmps (Y0 Tryz.f183):=lz N (z4v N) [] 938 ⟨[1,3,4],Sh7_,[(2000000,[1], .boxV Z9),(2000001,[3], .sl (.int .u8))],[]⟩ (2,⟨[3],(.own 2000000),[(2000000,[3], .sl (.int .u8))],[]⟩) [] (z7l N N) (z1t N) (fun f v=>f v.1.2.2 v.2.1 v.2.2.1) (fun r b0 b1 b2=>r (((),((),b0)),(b1,(b2,())))) rfl (fun _=>rfl) (fun _ _=>rfl) (by kernel_rfl)
def zrw:SL PG Tryz.f183.ntmps (Y0 Tryz.f183):=lz N (z4v N) [] 506 ⟨[1,5,7],Sh7_,[(2000000,[1], .boxV Z9),(2000001,[5], .sl (.int .u8))],[]⟩ (6,⟨[1,5],y85,[(2000000,[1], .boxV Z9),(2000001,[5], .sl (.int .u8))],[]⟩) [] (z7m N N) (z1u N) (fun f v=>f v.1.2.2 v.2.1 v.2.2.1) (fun r b0 b1 b2=>r (((),((),b0)),(b1,(b2,())))) rfl (fun _=>rfl) (fun _ _=>rfl) (by kernel_rfl)
def zrx:SL PG Tryz.f183.ntmps (Y0 Tryz.f183):=lz N (z4v N) [] 250 ⟨[1,5,6],Sh7_,[(2000000,[1], .boxV Z9),(2000001,[5], .sl (.int .u8))],[]⟩ (4,⟨[1,5],y85,[(2000000,[1], .boxV Z9),(2000001,[5], .sl (.int .u8))],[]⟩) [] (z7n N N) (z1v N) (fun f v=>f v.1.2.2 v.2.1 v.2.2.1) (fun r b0 b1 b2=>r (((),((),b0)),(b1,(b2,())))) rfl (fun _=>rfl) (fun _ _=>rfl) (by kernel_rfl)
def zlx:SC PG:=fz (z4v N) Tryz.func183 [zrv N,zrx N,zrw N,zru N,zrt N] (.val Z9) (.fresh (.int .u8)) [] (fun v=>z4r N v) (by kernel_rfl)
def zp2:SE PG:=E0 [] [] []
def zrr:SL PG Tryz.f31.ntmps (Y0 Tryz.f31):=lz N (zp2) [] 58 ⟨[0,3,4],(.cons (.list (.int .u8)) (.cons (.int .u64) (.int .i64))),[],[]⟩ (2,⟨[3],(.int .u64),[],[]⟩) [] (z7i N N) (z1p N) (fun f v=>f v.1.1 v.1.2.1 v.1.2.2) (fun r b0 b1 b2=>r ((b0,(b1,b2)),())) rfl (fun _=>rfl) (fun _ _=>rfl) (by kernel_rfl)
def zlw:SC PG:=fz (zp2) Tryz.func31 [zrr N] (.list (.int .u8)) (.int .u64) [] (fun v=>z15 N v) (by kernel_rfl)
def zig:SC PG:=fz (E0 [] [] []) Tryz.func42 [] (.cons (.val Q4) (.int .i64)) .bool [] (fun v=>zc2 N v.1 v.2) (by kernel_rfl)
def zxk:SE PG:=E0 [] [] [zig N]
def zy5:SL PG Tryz.f20.ntmps (Y0 Tryz.f20):=lz N (zxk N) [] 122 ⟨[1,2,6,7],(.cons (.int .i64) (.cons (.ptr 2000000 0) (.cons (.list (.int .u8)) (.int .i64)))),[(2000000,[2], .boxV Q4)],[]⟩ (2,⟨[6],(.list (.int .u8)),[],[]⟩) [] (zes N N) (zar N) (fun f v=>f v.1.1 v.1.2.2.1 v.1.2.2.2 v.2.1) (fun r b0 b1 b2 b3=>r ((b0,((),(b1,b2))),(b3,()))) rfl (fun _=>rfl) (fun _ _=>rfl) (by kernel_rfl)
def zsp:SC PG:=fz (zxk N) Tryz.func20 [zy5 N] (.cons (.val Q4) (.int .i64)) (.tup (.cons (.list (.int .u8)) (.int .i64))) [] (fun v=>zwd N v.1 v.2) (by kernel_rfl)
def y3b:SC PG:=fz (E0 [] [] [zsp N,zlx N]) Tryz.func184 [] (.cons (.val X3) (.cons (.int .i64) (.val Z9))) .bool [] (fun v=>zkh N v.1 v.2.1 v.2.2) (by kernel_rfl)
def zox:SE PG:=E0 [] [] []
def zrh:SL PG Tryz.f288.ntmps (Y0 Tryz.f288):=lz N (zox) [] 58 ⟨[1,3,4],(.cons (.ptr 2000000 0) zob),[(2000000,[1], .boxV Q1)],[]⟩ (2,⟨[3],(.int .i64),[],[]⟩) [] (z7d N N) (z1j N) (fun f v=>f v.1.2.1 v.1.2.2 v.2.1) (fun r b0 b1 b2=>r (((),(b0,b1)),(b2,()))) rfl (fun _=>rfl) (fun _ _=>rfl) (by kernel_rfl)
def zzh:SC PG:=fz (zox) Tryz.func288 [zrh N] (.val Q1) (.int .i64) [] (fun v=>zmt N v) (by kernel_rfl)
def y3f:SC PG:=fz (E0 [] [] [zzh N]) Tryz.func242 [] (.val Q1) (.int .i64) [] (fun v=>zqo N v) (by kernel_rfl)
def zow:SE PG:=E0 [(J2,[2000001])] [] []
def zrg:SL PG Tryz.f243.ntmps (Y0 Tryz.f243):=lz N (zow) [] 58 ⟨[1,2,3,4],ycy,[(2000000,[1], .boxV Q1),(2000001,[2], .boxC [.nils, .nils, .int .i64 0, .int .i64 0, .int .i64 0]),(2000002,[3], .sl .bool)],[]⟩ (1,⟨[2],(.ptr 2000000 0),[(2000000,[2], .box (.cons (.own 2000001) (.cons (.list (.int .i64)) (.cons (.int .i64) zob)))),(2000001,[2,0], .sl .bool)],[]⟩) [(2,⟨[1,2],Sh3_,[(2000000,[1], .boxV Q1),(2000001,[2], .boxC [.nils, .nils, .int .i64 0, .int .i64 0, .int .i64 0])],[]⟩)] (z5d N N) (z1i N) (fun f v=>f v.1.2.2.2 v.2.1 v.2.2.2.1) (fun r b0 b1 b2=>r (((),((),((),b0))),(b1,((),(b2,()))))) rfl (fun _=>rfl) (fun _ _=>rfl) (by kernel_rfl)
def zzg:SC PG:=fz (zow) Tryz.func243 [zrg N] (.val Q1) (.val ziz) [] (fun v=>zms N v) (by kernel_rfl)
def zog:SC PG:=fz (E0 [] [] [y3f N,zzg N]) Tryz.func189 [] (.val Q1) (.val ziz) [] (fun v=>ref25_Take N v) (by kernel_rfl)
def z9v:SC PG:=fz (E0 [] [] []) Tryz.func75 [] (.val Q4) (.agg (.cons (.int .i64) (.cons (.fresh (.list (.int .u8))) (.fresh J4)))) [] (fun v=>z2l N v) (by kernel_rfl)
def zju:SC PG:=fz (E0 [(J2,[22,31]),(3000028,[28])] [] [zig N,z9v N]) Tryz.func130 [] (.cons (.val Q4) (.cons (.int .i64) (.list (.int .u8)))) (.tup (.cons (.val Q4) (.int .i64))) [] (fun v=>ref23_Put N v.1 v.2.1 v.2.2) (by kernel_rfl)
def zze:SC PG:=fz (E0 [] [] [zog N,zju N]) Tryz.func129 [] (.cons (.val X3) (.list (.int .u8))) (.tup (.cons (.val X3) (.int .i64))) [] (fun v=>z82 N v.1 v.2) (by kernel_rfl)
def zuo:SM PG:=mz (E0 [(4,[5000002])] [] [zog N,zju N]) Tryz.func129 [] ⟨[0,1],(.cons ynm (.own 5000002)),[(5000000,[0,9], .sl (.int .i64)),(5000001,[0,10], .sl (.int .u64)),(5000002,[1], .sl (.int .u8))],[]⟩ ⟨[0],(.tup (.cons ynm (.int .i64))),[(5000000,[5000000], .sl (.int .i64)),(5000001,[5000001], .sl (.int .u64))],[]⟩ [] (fun v=>zbx N v.1.1.1 v.1.1.2.1 v.1.1.2.2.1 v.1.1.2.2.2.1 v.1.1.2.2.2.2.1 v.1.1.2.2.2.2.2.1 v.1.1.2.2.2.2.2.2.1 v.1.1.2.2.2.2.2.2.2.1 v.1.1.2.2.2.2.2.2.2.2.1 v.1.1.2.2.2.2.2.2.2.2.2.2.2 v.2.1 v.2.2.1 v.2.2.2.1) (by kernel_rfl)
def z70:SE PG:=E0 [(J2,[2000001,2000002,2000004])] [93] [zlx N,zlw N,y3b N] [zuo N]
def zrb:SL PG Tryz.f126.ntmps (Y0 Tryz.f126):=pz (z70 N) [] 31311 ⟨[2,3,4,7,8,9,11,12],yky,[(2000000,[2], .box Sh1_),(2000001,[2,9], .sl (.int .i64)),(2000002,[2,10], .sl (.int .u64)),(2000003,[3], .boxV Y2),(2000004,[4], .boxC [.int .i64 0, .nils, .nils, .nils, .nils, .int .i64 0, .int .i64 0, .int .i64 0, .int .i64 0, .nils, .nils, .nils]),(2000005,[7], .boxV X3),(2000006,[8], .sl (.int .i64))],[]⟩ (0,⟨[2,3,4,7,8,9],Sh6_,[(2000000,[2], .box Sh1_),(2000001,[2,9], .sl (.int .i64)),(2000002,[2,10], .sl (.int .u64)),(2000003,[3], .boxV Y2),(2000004,[4], .boxC [.int .i64 0, .nils, .nils, .nils, .nils, .int .i64 0, .int .i64 0, .int .i64 0, .int .i64 0, .nils, .nils, .nils]),(2000005,[7], .boxV X3),(2000006,[8], .sl (.int .i64))],[]⟩) [] (fun v=>z5c N v.1.2.2.2.2.2.1 v.1.2.2.2.2.2.2.1 v.1.2.2.2.2.2.2.2 v.2.1.1 v.2.1.2.1 v.2.1.2.2.1 v.2.1.2.2.2.1 v.2.1.2.2.2.2.1 v.2.1.2.2.2.2.2.1 v.2.1.2.2.2.2.2.2.1 v.2.1.2.2.2.2.2.2.2.1 v.2.1.2.2.2.2.2.2.2.2.1 v.2.1.2.2.2.2.2.2.2.2.2.2.2 v.2.2.1 v.2.2.2.1 v.2.2.2.2.1 v.2.2.2.2.2.2.1 v.2.2.2.2.2.2.2.1) (by kernel_rfl)
def zrc:SL PG Tryz.f126.ntmps (Y0 Tryz.f126):=pz (z70 N) [] 31309 ⟨[2,3,4,7,8,9,10,11,12,57],(.cons (.ptr 2000000 0) (.cons (.ptr 2000003 0) (.cons (.ptr 2000004 0) (.cons (.ptr 2000005 0) (.cons (.own 2000006) (.cons (.int .i64) (.cons (.ptr 2000007 0) (.cons (.int .i64) (.cons (.int .u64) .bool))))))))),[(2000000,[2], .box Sh1_),(2000001,[2,9], .sl (.int .i64)),(2000002,[2,10], .sl (.int .u64)),(2000003,[3], .boxV Y2),(2000004,[4], .boxC [.int .i64 0, .nils, .nils, .nils, .nils, .int .i64 0, .int .i64 0, .int .i64 0, .int .i64 0, .nils, .nils, .nils]),(2000005,[7], .boxV X3),(2000006,[8], .sl (.int .i64)),(2000007,[10], .boxV Y8)],[]⟩ (0,⟨[2,3,4,7,8,9,11,12],yky,[(2000000,[2], .box Sh1_),(2000001,[2,9], .sl (.int .i64)),(2000002,[2,10], .sl (.int .u64)),(2000003,[3], .boxV Y2),(2000004,[4], .boxC [.int .i64 0, .nils, .nils, .nils, .nils, .int .i64 0, .int .i64 0, .int .i64 0, .int .i64 0, .nils, .nils, .nils]),(2000005,[7], .boxV X3),(2000006,[8], .sl (.int .i64))],[]⟩) [(1,⟨[4,5,6],(.cons (.ptr 2000000 0) (.cons (.list (.int .i64)) .bool)),[(2000000,[4], .boxV X3)],[]⟩)] (fun v=>z3j N v.1.2.2.2.2.2.1 v.1.2.2.2.2.2.2.2.1 v.1.2.2.2.2.2.2.2.2.1 v.1.2.2.2.2.2.2.2.2.2 v.2.1.1 v.2.1.2.1 v.2.1.2.2.1 v.2.1.2.2.2.1 v.2.1.2.2.2.2.1 v.2.1.2.2.2.2.2.1 v.2.1.2.2.2.2.2.2.1 v.2.1.2.2.2.2.2.2.2.1 v.2.1.2.2.2.2.2.2.2.2.1 v.2.1.2.2.2.2.2.2.2.2.2.2.2 v.2.2.1 v.2.2.2.1 v.2.2.2.2.1 v.2.2.2.2.2.2.1 v.2.2.2.2.2.2.2.1 v.2.2.2.2.2.2.2.2.1) (by kernel_rfl)
def zrd:SL PG Tryz.f126.ntmps (Y0 Tryz.f126):=pz (z70 N) [zrb N] 15655 ⟨[2,3,4,7,8,9,11,12],yky,[(2000000,[2], .box Sh1_),(2000001,[2,9], .sl (.int .i64)),(2000002,[2,10], .sl (.int .u64)),(2000003,[3], .boxV Y2),(2000004,[4], .boxC [.int .i64 0, .nils, .nils, .nils, .nils, .int .i64 0, .int .i64 0, .int .i64 0, .int .i64 0, .nils, .nils, .nils]),(2000005,[7], .boxV X3),(2000006,[8], .sl (.int .i64))],[]⟩ (0,⟨[2,3,4,7,8,9],Sh6_,[(2000000,[2], .box Sh1_),(2000001,[2,9], .sl (.int .i64)),(2000002,[2,10], .sl (.int .u64)),(2000003,[3], .boxV Y2),(2000004,[4], .boxC [.int .i64 0, .nils, .nils, .nils, .nils, .int .i64 0, .int .i64 0, .int .i64 0, .int .i64 0, .nils, .nils, .nils]),(2000005,[7], .boxV X3),(2000006,[8], .sl (.int .i64))],[]⟩) [] (fun v=>z3k N v.1.2.2.2.2.2.1 v.1.2.2.2.2.2.2.1 v.1.2.2.2.2.2.2.2 v.2.1.1 v.2.1.2.1 v.2.1.2.2.1 v.2.1.2.2.2.1 v.2.1.2.2.2.2.1 v.2.1.2.2.2.2.2.1 v.2.1.2.2.2.2.2.2.1 v.2.1.2.2.2.2.2.2.2.1 v.2.1.2.2.2.2.2.2.2.2.1 v.2.1.2.2.2.2.2.2.2.2.2.2.2 v.2.2.1 v.2.2.2.1 v.2.2.2.2.1 v.2.2.2.2.2.2.1 v.2.2.2.2.2.2.2.1) (by kernel_rfl)
def zre:SL PG Tryz.f126.ntmps (Y0 Tryz.f126):=pz (z70 N) [] 979 ⟨[2,3,4,7,8,9],Sh6_,[(2000000,[2], .box Sh1_),(2000001,[2,9], .sl (.int .i64)),(2000002,[2,10], .sl (.int .u64)),(2000003,[3], .boxV Y2),(2000004,[4], .boxC [.int .i64 0, .nils, .nils, .nils, .nils, .int .i64 0, .int .i64 0, .int .i64 0, .int .i64 0, .nils, .nils, .nils]),(2000005,[7], .boxV X3),(2000006,[8], .sl (.int .i64))],[]⟩ (0,⟨[2,3,4,7,8,9],Sh6_,[(2000000,[2], .box Sh1_),(2000001,[2,9], .sl (.int .i64)),(2000002,[2,10], .sl (.int .u64)),(2000003,[3], .boxV Y2),(2000004,[4], .boxC [.int .i64 0, .nils, .nils, .nils, .nils, .int .i64 0, .int .i64 0, .int .i64 0, .int .i64 0, .nils, .nils, .nils]),(2000005,[7], .boxV X3),(2000006,[8], .sl (.int .i64))],[]⟩) [] (fun v=>z3l N v.1.2.2.2.2.2 v.2.1.1 v.2.1.2.1 v.2.1.2.2.1 v.2.1.2.2.2.1 v.2.1.2.2.2.2.1 v.2.1.2.2.2.2.2.1 v.2.1.2.2.2.2.2.2.1 v.2.1.2.2.2.2.2.2.2.1 v.2.1.2.2.2.2.2.2.2.2.1 v.2.1.2.2.2.2.2.2.2.2.2.2.2 v.2.2.1 v.2.2.2.1 v.2.2.2.2.1 v.2.2.2.2.2.2.1 v.2.2.2.2.2.2.2.1) (by kernel_rfl)
def zrf:SL PG Tryz.f126.ntmps (Y0 Tryz.f126):=lz N (z70 N) [zrc N,zrd N,zre N] 122 ⟨[2,3,4,7,8,9],Sh6_,[(2000000,[2], .box Sh1_),(2000001,[2,9], .sl (.int .i64)),(2000002,[2,10], .sl (.int .u64)),(2000003,[3], .boxV Y2),(2000004,[4], .boxC [.int .i64 0, .nils, .nils, .nils, .nils, .int .i64 0, .int .i64 0, .int .i64 0, .int .i64 0, .nils, .nils, .nils]),(2000005,[7], .boxV X3),(2000006,[8], .sl (.int .i64))],[]⟩ (1,⟨[4,5,6],(.cons (.ptr 2000000 0) (.cons (.list (.int .i64)) .bool)),[(2000000,[4], .boxV X3)],[]⟩) [(2,⟨[2,4,8],(.cons (.ptr 2000000 0) (.cons (.ptr 2000003 0) (.own 2000004))),[(2000000,[2], .box Sh1_),(2000001,[2,9], .sl (.int .i64)),(2000002,[2,10], .sl (.int .u64)),(2000003,[4], .boxC [.int .i64 0, .nils, .nils, .nils, .nils, .int .i64 0, .int .i64 0, .int .i64 0, .int .i64 0, .nils, .nils, .nils]),(2000004,[8], .sl (.int .i64))],[]⟩)] (z10 N N) (z1h N) (fun f v=>f v.1.2.2.2.2.2 v.2.1.1 v.2.1.2.1 v.2.1.2.2.1 v.2.1.2.2.2.1 v.2.1.2.2.2.2.1 v.2.1.2.2.2.2.2.1 v.2.1.2.2.2.2.2.2.1 v.2.1.2.2.2.2.2.2.2.1 v.2.1.2.2.2.2.2.2.2.2.1 v.2.1.2.2.2.2.2.2.2.2.2.2.2 v.2.2.1 v.2.2.2.1 v.2.2.2.2.1 v.2.2.2.2.2.2.1 v.2.2.2.2.2.2.2.1) (fun r b0 b1 b2 b3 b4 b5 b6 b7 b8 b9 b10 b11 b12 b13 b14 b15=>r (((),((),((),((),((),b0))))),((b1,(b2,(b3,(b4,(b5,(b6,(b7,(b8,(b9,((),((),b10))))))))))),(b11,(b12,(b13,((),(b14,(b15,()))))))))) rfl (fun _=>rfl) (fun _ _=>rfl) (by kernel_rfl)
def zzf:SC PG:=fz (z70 N) Tryz.func126 [zrf N] (.cons (.val X3) (.val Y2)) (.tup (.cons (.val X3) (.cons (.list (.int .i64)) .bool))) [] (fun v=>zd5 N v.1 v.2) (by kernel_rfl)
def zm5:SE PG:=E0 [] [] []
def zpm:SL PG Tryz.f188.ntmps (Y0 Tryz.f188):=lz N (zm5) [] 58 ⟨[0,5,6],(.cons (.int .u64) Sh9_),[(2000000,[5], .sl (.int .u8))],[]⟩ (2,⟨[5],(.own 2000000),[(2000000,[5], .sl (.int .u8))],[]⟩) [] (z68 N N) (z0d N) (fun f v=>f v.1.1 v.1.2.2 v.2.1) (fun r b0 b1 b2=>r ((b0,((),b1)),(b2,()))) rfl (fun _=>rfl) (fun _ _=>rfl) (by kernel_rfl)
def zdh:SC PG:=fz (zm5) Tryz.func188 [zpm N] (.cons (.int .u64) (.int .i64)) (.fresh (.int .u8)) [] (fun v=>z2k N v.1 v.2) (by kernel_rfl)
def zls:SC PG:=fz (E0 [] [] [zdh N]) Tryz.func186 [] (.cons (.int .i64) (.int .i64)) (.fresh (.int .u8)) [] (fun v=>y8 N v.1 v.2) (by kernel_rfl)
def zt7:SE PG:=E0 [] [] []
def zuq:SL PG Tryz.f185.ntmps (Y0 Tryz.f185):=lz N (zt7) [] 58 ⟨[0,3,4],(.cons (.list (.list (.int .u8))) Sh9_),[(2000000,[3], .sl (.int .u8))],[]⟩ (2,⟨[3],(.own 2000000),[(2000000,[3], .sl (.int .u8))],[]⟩) [] (z96 N N) (z2x N) (fun f v=>f v.1.1 v.1.2.2 v.2.1) (fun r b0 b1 b2=>r ((b0,((),b1)),(b2,()))) rfl (fun _=>rfl) (fun _ _=>rfl) (by kernel_rfl)
def zof:SC PG:=fz (zt7) Tryz.func185 [zuq N] (.list (.list (.int .u8))) (.fresh (.int .u8)) [] (fun v=>z6a N v) (by kernel_rfl)
def zvm:SC PG:=fz (E0 [(J2,[8])] [] [zdh N]) Tryz.func186 [] (.cons (.int .i64) (.int .i64)) (.list (.int .u8)) [] (fun v=>W2 N v.1 v.2) (by kernel_rfl)
def zm6:SE PG:=E0 [(J2,[2000000])] [] [zls N,zm0 N]
def zpn:SL PG Tryz.f187.ntmps (Y0 Tryz.f187):=lz N (zm6 N) [] 58 ⟨[0,3,4],(.cons (.list Z8) Sh9_),[(2000000,[3], .sl (.int .u8))],[]⟩ (2,⟨[3],(.own 2000000),[(2000000,[3], .sl (.int .u8))],[]⟩) [] (z69 N N) (z0e N) (fun f v=>f v.1.1 v.1.2.2 v.2.1) (fun r b0 b1 b2=>r ((b0,((),b1)),(b2,()))) rfl (fun _=>rfl) (fun _ _=>rfl) (by kernel_rfl)
def zyk:SC PG:=fz (zm6 N) Tryz.func187 [zpn N] (.list Z8) (.list (.int .u8)) [] (fun v=>zaz N v) (by kernel_rfl)
def zj9:SE PG:=E0 [(J2,[2000000])] [] []
def zlk:SL PG Tryz.f188.ntmps (Y0 Tryz.f188):=lz N (zj9) [] 58 ⟨[0,5,6],(.cons (.int .u64) Sh9_),[(2000000,[5], .sl (.int .u8))],[]⟩ (2,⟨[5],(.own 2000000),[(2000000,[5], .sl (.int .u8))],[]⟩) [] (z49 N N) (w9 N) (fun f v=>f v.1.1 v.1.2.2 v.2.1) (fun r b0 b1 b2=>r ((b0,((),b1)),(b2,()))) rfl (fun _=>rfl) (fun _ _=>rfl) (by kernel_rfl)
def zsl:SC PG:=fz (zj9) Tryz.func188 [zlk N] (.cons (.int .u64) (.int .i64)) (.list (.int .u8)) [] (fun v=>z5b N v.1 v.2) (by kernel_rfl)
def zdl:SE PG:=E0 [(2000040,[23]),(3000070,[70]),(3000108,[108])] [] [zvm N,zyk N,zof N,zsl N]
def zn8:SL PG Tryz.f127.ntmps (Y0 Tryz.f127):=lz N (zdl N) [] 250 ⟨[2,3,5,8],ycy,[(2000000,[2], .boxV Y2),(2000001,[3], .boxV X3),(2000002,[5], .sl (.int .u8))],[]⟩ (4,⟨[5],(.own 2000000),[(2000000,[5], .sl (.int .u8))],[]⟩) [] (z2n N N) (z02 N) (fun f v=>f v.1.2.2.2 v.2.1 v.2.2.1 v.2.2.2.1) (fun r b0 b1 b2 b3=>r (((),((),((),b0))),(b1,(b2,(b3,()))))) rfl (fun _=>rfl) (fun _ _=>rfl) (by kernel_rfl)
def zn9:SL PG Tryz.f127.ntmps (Y0 Tryz.f127):=lz N (zdl N) [] 58 ⟨[2,3,5,6],ycy,[(2000000,[2], .boxV Y2),(2000001,[3], .boxV X3),(2000002,[5], .sl (.int .u8))],[]⟩ (2,⟨[2,3,5],ykx,[(2000000,[2], .boxV Y2),(2000001,[3], .boxV X3),(2000002,[5], .sl (.int .u8))],[]⟩) [] (z54 N N) (z03 N) (fun f v=>f v.1.2.2.2 v.2.1 v.2.2.1 v.2.2.2.1) (fun r b0 b1 b2 b3=>r (((),((),((),b0))),(b1,(b2,(b3,()))))) rfl (fun _=>rfl) (fun _ _=>rfl) (by kernel_rfl)
def zvo:SC PG:=fz (zdl N) Tryz.func127 [zn9 N,zn8 N] (.cons (.val Y2) (.val X3)) (.fresh (.int .u8)) [] (fun v=>zc1 N v.1 v.2) (by kernel_rfl)
def zm7:SE PG:=E0 [] [] []
def zpo:SL PG Tryz.f128.ntmps (Y0 Tryz.f128):=lz N (zm7) [] 28 ⟨[0,1,5],(.cons (.list (.int .u8)) (.cons (.int .i64) (.own 2000000))),[(2000000,[5], .sl (.list (.int .u8)))],[]⟩ (2,⟨[0,5],(.cons (.list (.int .u8)) (.own 2000000)),[(2000000,[5], .sl (.list (.int .u8)))],[]⟩) [] (z6b N N) (z3y N) (fun f v=>f v.1.1 v.1.2.1 v.2.1) (fun r b0 b1 b2=>r ((b0,(b1,())),(b2,()))) rfl (fun _=>rfl) (fun _ _=>rfl) (by kernel_rfl)
def zyl:SC PG:=fz (zm7) Tryz.func128 [zpo N] (.cons (.list (.int .u8)) (.int .i64)) (.fresh (.list (.int .u8))) [] (fun v=>zeq N v.1 v.2) (by kernel_rfl)
def zzi:SC PG:=fz (E0 [(J2,[5,10])] [] [z9v N]) Tryz.func131 [] (.val Q4) (.val Q4) [] (fun v=>z83 N v) (by kernel_rfl)
def zl4:SE PG:=E0 [(J2,[40]),(2000021,[9,11,14,17,20])] [] [zls N,zlw N,zdh N,zof N]
def zn7:SL PG Tryz.f132.ntmps (Y0 Tryz.f132):=lz N (zl4 N) [] 58 ⟨[2,7,8],(.cons (.list (.int .i64)) Sh9_),[(2000000,[7], .sl (.int .u8))],[]⟩ (2,⟨[7],(.own 2000000),[(2000000,[7], .sl (.int .u8))],[]⟩) [] (z52 N N) (z01 N) (fun f v=>f v.1.1 v.1.2.2 v.2.1) (fun r b0 b1 b2=>r ((b0,((),b1)),(b2,()))) rfl (fun _=>rfl) (fun _ _=>rfl) (by kernel_rfl)
def zvn:SC PG:=fz (zl4 N) Tryz.func132 [zn7 N] (.cons (.int .i64) (.cons (.list (.int .u8)) (.list (.int .i64)))) (.list (.int .u8)) [] (fun v=>zc0 N v.1 v.2.1 v.2.2) (by kernel_rfl)
def zxj:SE PG:=E0 [] [] []
def zy2:SL PG Tryz.f190.ntmps (Y0 Tryz.f190):=lz N (zxj) [] 26 ⟨[0,1,5],(.cons (.list (.int .i64)) zob),[],[]⟩ (1,⟨[4], .bool,[],[]⟩) [(2,⟨[], .nil,[],[]⟩)] (zer N N) (zaq N) (fun f v=>f v.1.1 v.1.2.1 v.1.2.2) (fun r b0 b1 b2=>r ((b0,(b1,b2)),())) rfl (fun _=>rfl) (fun _ _=>rfl) (by kernel_rfl)
def y6a:SC PG:=fz (zxj) Tryz.func190 [zy2 N] (.cons (.list (.int .i64)) (.int .i64)) .bool [] (fun v=>y50 N v.1 v.2) (by kernel_rfl)
def zk1:SE PG:=E0 [(J2,[2000001])] [] [y6a N]
def zut:SL PG Tryz.f133.ntmps (Y0 Tryz.f133):=pz (zk1 N) [] 13 ⟨[1,2,4,29],(.cons (.int .i64) (.cons (.ptr 2000000 0) (.cons (.ptr 2000001 0) .bool))),[(2000000,[2], .boxV Q1),(2000001,[4], .boxC [.nils, .nils, .int .i64 0])],[]⟩ (1,⟨[4,5],Sh4_,[(2000000,[4], .boxV Q1)],[]⟩) [(0,⟨[1,2,4],(.cons (.int .i64) Sh3_),[(2000000,[2], .boxV Q1),(2000001,[4], .boxC [.nils, .nils, .int .i64 0])],[]⟩)] (fun v=>z97 N v.1.1 v.1.2.2.2 v.2.1) (by kernel_rfl)
def zuu:SL PG Tryz.f133.ntmps (Y0 Tryz.f133):=pz (zk1 N) [] 7 ⟨[1,2,4],(.cons (.int .i64) Sh3_),[(2000000,[2], .boxV Q1),(2000001,[4], .boxC [.nils, .nils, .int .i64 0])],[]⟩ (1,⟨[4,5],Sh4_,[(2000000,[4], .box (.cons (.list .bool) y84)),(2000001,[4,1], .sl (.int .i64))],[]⟩) [] (fun v=>z98 N v.1.1 v.2.1) (by kernel_rfl)
def y3g:SC PG:=fz (zk1 N) Tryz.func133 [zut N,zuu N] (.cons (.val Q1) (.int .i64)) (.tup (.cons (.val Q1) (.int .i64))) [] (fun v=>y0q N v.1 v.2) (by kernel_rfl)
def zm8:SE PG:=E0 [(J2,[2000002])] [] []
def zpp:SL PG Tryz.f134.ntmps (Y0 Tryz.f134):=lz N (zm8) [] 58 ⟨[1,2,3,4],ycy,[(2000000,[1], .boxV Q1),(2000001,[2], .boxC [.nils, .nils, .int .i64 0]),(2000002,[3], .sl .bool)],[]⟩ (2,⟨[1,2,3],ykx,[(2000000,[1], .boxV Q1),(2000001,[2], .boxC [.nils, .nils, .int .i64 0]),(2000002,[3], .sl .bool)],[]⟩) [] (z19 N N) (z3z N) (fun f v=>f v.1.2.2.2 v.2.1 v.2.2.2.1) (fun r b0 b1 b2=>r (((),((),((),b0))),(b1,((),(b2,()))))) rfl (fun _=>rfl) (fun _ _=>rfl) (by kernel_rfl)
def zym:SC PG:=fz (zm8) Tryz.func134 [zpp N] (.val Q1) (.val Q1) [] (fun v=>zb1 N v) (by kernel_rfl)
def zk0:SE PG:=E0 [(6,[30]),(16,[2000003])] [] [zzf N,zvo N,zyl N,zze N,zzi N,zvn N,zju N,y3g N,zym N]
def zur:SL PG Tryz.f78.ntmps (Y0 Tryz.f78):=lz N (zk0 N) [] 65530 ⟨[2,4,6,10,15],(.cons (.ptr 2000000 0) (.cons (.ptr 2000001 0) (.cons (.own 2000002) (.cons (.list (.int .i64)) (.int .i64))))),[(2000000,[2], .boxV X3),(2000001,[4], .boxC [.int .i64 0, .nils, .nils, .nils, .nils, .int .i64 0, .int .i64 0, .int .i64 0, .int .i64 0, .nils, .nils, .nils, .int .i64 0]),(2000002,[6], .sl (.int .i64))],[]⟩ (4,⟨[2,4,10],(.cons (.ptr 2000000 0) (.cons (.ptr 2000001 0) (.list (.int .i64)))),[(2000000,[2], .boxV X3),(2000001,[4], .boxC [.int .i64 0, .nils, .nils, .nils, .nils, .int .i64 0, .int .i64 0, .int .i64 0, .int .i64 0, .nils, .nils, .nils, .int .i64 0])],[]⟩) [] (z4t N N) (z5l N) (fun f v=>f v.1.2.2.2.1 v.1.2.2.2.2 v.2.1 v.2.2.2.1) (fun r b0 b1 b2 b3=>r (((),((),((),(b0,b1)))),(b2,((),(b3,()))))) rfl (fun _=>rfl) (fun _ _=>rfl) (by kernel_rfl)
def zus:SL PG Tryz.f78.ntmps (Y0 Tryz.f78):=lz N (zk0 N) [] 1018 ⟨[2,4,5,6,8,9,10,11],(.cons (.ptr 2000000 0) (.cons (.ptr 2000001 0) (.cons (.ptr 2000002 0) (.cons (.list (.int .i64)) (.cons (.list (.int .u8)) (.cons (.own 2000003) (.cons (.own 2000004) (.int .i64)))))))),[(2000000,[2], .boxV X3),(2000001,[4], .boxC [.int .i64 0, .nils, .nils, .nils, .nils, .int .i64 0, .int .i64 0, .int .i64 0, .int .i64 0, .nils, .nils, .nils, .int .i64 0]),(2000002,[5], .boxV X3),(2000003,[9], .sl (.list (.int .u8))),(2000004,[10], .sl (.int .i64))],[]⟩ (1,⟨[4],(.ptr 2000000 0),[(2000000,[4], .boxV zcx)],[]⟩) [(2,⟨[2,4,5,6,8,10],(.cons (.ptr 2000000 0) (.cons (.ptr 2000001 0) (.cons (.ptr 2000002 0) (.cons (.list (.int .i64)) (.cons (.list (.int .u8)) (.own 2000003)))))),[(2000000,[2], .boxV X3),(2000001,[4], .boxC [.int .i64 0, .nils, .nils, .nils, .nils, .int .i64 0, .int .i64 0, .int .i64 0, .int .i64 0, .nils, .nils, .nils, .int .i64 0]),(2000002,[5], .boxV X3),(2000003,[10], .sl (.int .i64))],[]⟩)] (z6r N N) (z2y N) (fun f v=>f v.1.2.2.2.1 v.1.2.2.2.2.1 v.1.2.2.2.2.2.2.2 v.2.1 v.2.2.2.1 v.2.2.2.2.1 v.2.2.2.2.2.1) (fun r b0 b1 b2 b3 b4 b5 b6=>r (((),((),((),(b0,(b1,((),((),b2))))))),(b3,((),(b4,(b5,(b6,()))))))) rfl (fun _=>rfl) (fun _ _=>rfl) (by kernel_rfl)
def y3c:SC PG:=fz (zk0 N) Tryz.func78 [zus N,zur N] (.cons (.val X3) (.val Y2)) (.val zcx) [] (fun v=>zgn N v.1 v.2) (by kernel_rfl)
def zsn:SC PG:=fz (E0 [] [] [y69 N,y3c N]) Tryz.func35 [] (.cons (.val Q4) (.cons (.int .i64) (.val Y2))) (.val zcx) [] (fun v=>znu N v.1 v.2.1 v.2.2) (by kernel_rfl)
def zvu:SC PG:=fz (E0 [(2000017,[16])] [] [zsq N,zsr N,zso N,zsn N]) Tryz.func32 [] .nil (.val zay) [] (fun _=>zot N) (by kernel_rfl)
def y6i:SC PG:=fz (E0 [] [] []) Tryz.func136 [] (.cons (.val (.list Y8)) (.int .i64)) .bool [] (fun v=>znz N v.1 v.2) (by kernel_rfl)
def zpl:SM PG:=mz (E0 [] [] []) Tryz.func80 [] ⟨[0,1],(.cons (.int .i64) (.ptr 5000000 0)),[(5000000,[1], .box (.own 5000001)),(5000001,[1,0], .sl (.int .i64))],[]⟩ ⟨[0],(.tup .nil),[(5000000,[5000000], .box (.own 2000001)),(2000001,[5000000,0], .sl (.int .i64))],[]⟩ [] (fun v=>z9y N v.1.1 v.2.2.1) (by kernel_rfl)
def z0y(self:Int->(List Z6)->(List Int)->Bool->(List Int)->Option ((Unit×((List Z6)×(Unit×((List Int)×(Bool×((Unit×(Unit×(Unit×(Unit×Unit))))×(Unit×(Unit×((List Int)×Unit))))))))))):CtrM:=ctrM ⟨[0,1,2,3,4,5],(.cons (.int .i64) Sh2_),[(5000000,[1], .box (.list Y8)),(5000001,[2], .box (.own 5000002)),(5000002,[2,0], .sl (.int .i64)),(5000003,[3], .box .bool),(5000004,[4], .box (.clo 135 Sh2_)),(5000005,[4,0,4], .box (.clo 80 (.ptr 5000006 0))),(5000006,[4,0,4,0,0], .box (.own 5000007)),(5000007,[4,0,4,0,0,0], .sl (.int .i64))],[]⟩ ⟨[0],(.tup .nil),[(5000000,[5000000], .box (.list Y8)),(5000001,[5000001], .box (.own 5000002)),(5000002,[5000002], .sl (.int .i64)),(5000003,[5000003], .box .bool),(5000004,[5000004], .box (.clo 135 Sh2_)),(5000005,[5000005], .box (.clo 80 (.ptr 5000006 0))),(5000006,[5000006], .box (.own 2000007)),(2000007,[5000006,0], .sl (.int .i64))],[]⟩ [] (fun v=>self v.1.1 v.2.1 v.2.2.2.1 v.2.2.2.2.1 v.2.2.2.2.2.2.2.2.1)
def zhl(self:Int->(List Z6)->(List Int)->Bool->(List Int)->Option ((Unit×((List Z6)×(Unit×((List Int)×(Bool×((Unit×(Unit×(Unit×(Unit×Unit))))×(Unit×(Unit×((List Int)×Unit)))))))))))(hs:zbc PG 135 (z0y self)):SE PG:=E0 [] [42,49] [y6i N] [⟨135,z0y self,hs⟩,zpl N]
def zld(self:Int->(List Z6)->(List Int)->Bool->(List Int)->Option ((Unit×((List Z6)×(Unit×((List Int)×(Bool×((Unit×(Unit×(Unit×(Unit×Unit))))×(Unit×(Unit×((List Int)×Unit)))))))))))(hs:zbc PG 135 (z0y self)):SL PG Tryz.f135.ntmps (Y0 Tryz.f135):=lz N (zhl N self hs) [] 122 ⟨[0,2,4,5,34,35,36],(.cons (.int .i64) (.cons (.ptr 5000001 0) (.cons (.ptr 5000004 0) (.cons (.ptr 5000005 0) (.cons (.list (.int .i64)) zob))))),[(5000001,[5000001], .box (.own 5000002)),(5000002,[5000002], .sl (.int .i64)),(5000004,[5000004], .box (.clo 135 Sh2_)),(5000000,[5000000], .box (.list Y8)),(5000003,[5000003], .box .bool),(5000005,[5000005], .box (.clo 80 (.ptr 5000006 0))),(5000006,[5000006], .box (.own 2000007)),(2000007,[5000006,0], .sl (.int .i64))],[]⟩ (2,⟨[0,2,5],(.cons (.int .i64) (.cons (.ptr 5000001 0) (.ptr 5000005 0))),[(5000001,[5000001], .box (.own 5000002)),(5000002,[5000002], .sl (.int .i64)),(5000005,[5000005], .box (.clo 80 (.ptr 5000006 0))),(5000006,[5000006], .box (.own 2000004)),(2000004,[5000006,0], .sl (.int .i64)),(5000000,[5000000], .box (.list Y8)),(5000003,[5000003], .box .bool),(5000004,[5000004], .box (.clo 135 Sh2_))],[]⟩) [] (z09 N self N) (y0 N self) (fun f v=>f v.1.1 v.1.2.2.2.2.1 v.1.2.2.2.2.2.1 v.1.2.2.2.2.2.2 v.2.2.1 v.2.2.2.2.1 v.2.2.2.2.2.1 v.2.2.2.2.2.2.2.2.1) (fun r b0 b1 b2 b3 b4 b5 b6 b7=>r ((b0,((),((),((),(b1,(b2,b3)))))),((),(b4,(((),((),((),((),())))),(b5,(b6,((),((),(b7,())))))))))) rfl (fun _=>rfl) (fun _ _=>rfl) (by kernel_rfl)
def zqd(self:Int->(List Z6)->(List Int)->Bool->(List Int)->Option ((Unit×((List Z6)×(Unit×((List Int)×(Bool×((Unit×(Unit×(Unit×(Unit×Unit))))×(Unit×(Unit×((List Int)×Unit)))))))))))(hs:zbc PG 135 (z0y self)):SM PG:=mz (zhl N self hs) Tryz.func135 [zld N self hs] ⟨[0,1,2,3,4,5],(.cons (.int .i64) Sh2_),[(5000000,[1], .box (.list Y8)),(5000001,[2], .box (.own 5000002)),(5000002,[2,0], .sl (.int .i64)),(5000003,[3], .box .bool),(5000004,[4], .box (.clo 135 Sh2_)),(5000005,[4,0,4], .box (.clo 80 (.ptr 5000006 0))),(5000006,[4,0,4,0,0], .box (.own 5000007)),(5000007,[4,0,4,0,0,0], .sl (.int .i64))],[]⟩ ⟨[0],(.tup .nil),[(5000000,[5000000], .box (.list Y8)),(5000001,[5000001], .box (.own 5000002)),(5000002,[5000002], .sl (.int .i64)),(5000003,[5000003], .box .bool),(5000004,[5000004], .box (.clo 135 Sh2_)),(5000005,[5000005], .box (.clo 80 (.ptr 5000006 0))),(5000006,[5000006], .box (.own 2000007)),(2000007,[5000006,0], .sl (.int .i64))],[]⟩ [] (fun v=>z0w N self v.1.1 v.2.1 v.2.2.2.1 v.2.2.2.2.1 v.2.2.2.2.2.2.2.2.1) (by kernel_rfl)
def zpk:SM PG:=yok (f:=135) z0y (fun _ _ _ _ _=>none) (z0w N) (ygd fun _=>rfl) (fun self hs=>(zqd N self hs).h) N
def z5h:SE PG:=E0 [] [25] [] [zpk N]
def za2:SL PG Tryz.f79.ntmps (Y0 Tryz.f79):=lz N (z5h N) [] 506 ⟨[8,9,17,18,19],(.cons (.ptr 2000000 0) (.cons (.ptr 2000001 0) (.cons (.list (.int .i64)) zob))),[(2000000,[8], .box .bool),(2000001,[9], .box (.clo 135 (.cons (.ptr 2000002 0) (.cons (.ptr 2000003 0) (.cons (.ptr 2000000 0) (.cons (.ptr 2000001 0) (.ptr 2000005 0))))))),(2000002,[9,0,0], .box (.list Y8)),(2000003,[9,0,1], .box (.own 2000004)),(2000004,[9,0,1,0], .sl (.int .i64)),(2000005,[9,0,4], .box (.clo 80 (.ptr 5000000 0))),(5000000,[5000000], .box (.own 2000007)),(2000007,[5000000,0], .sl (.int .i64))],[]⟩ (2,⟨[8],(.ptr 2000000 0),[(2000000,[8], .box .bool),(5000000,[5000000], .box (.own 2000002)),(2000002,[5000000,0], .sl (.int .i64))],[]⟩) [] (U8 N N) (U5 N) (fun f v=>f v.1.2.2.1 v.1.2.2.2.1 v.1.2.2.2.2 v.2.1 v.2.2.2.1 v.2.2.2.2.2.1 v.2.2.2.2.2.2.2.2.1) (fun r b0 b1 b2 b3 b4 b5 b6=>r (((),((),(b0,(b1,b2)))),(b3,(((),((),((),((),())))),(b4,((),(b5,((),((),(b6,())))))))))) rfl (fun _=>rfl) (fun _ _=>rfl) (by kernel_rfl)
def zbk:SM PG:=mz (z5h N) Tryz.func79 [za2 N] ⟨[0,1,2],(.cons (.val (.list Y8)) (.cons (.list (.int .i64)) (.clo 80 (.ptr 5000000 0)))),[(5000000,[2,0], .box (.own 5000001)),(5000001,[2,0,0], .sl (.int .i64))],[]⟩ ⟨[0], .bool,[(5000000,[5000000], .box (.own 2000001)),(2000001,[5000000,0], .sl (.int .i64))],[]⟩ [] (fun v=>pool_visit_m__pool_Reach_c1 N v.1.1 v.1.2.1 v.2.2.1) (by kernel_rfl)
def lay_slices_Sort_s_int_int_m_ren:Go.Shelf.Ren:=⟨fun | 189=>81 | 125=>138 | 257=>137 | 128=>200 | 129=>201 | 294=>191 | 295=>192 | 296=>193 | 297=>194 | 298=>195 | 299=>196 | 216=>197 | 300=>198 | 301=>199 | 328=>244 | 329=>245 | 330=>246 | 331=>247 | 332=>248 | 215=>249 | 343=>289 | n=>n,fun | 28=>27 | 3=>3 | 46=>240 | 0=>0 | 51=>310 | 53=>103 | 4=>4 | 183=>304 | 182=>303 | 131=>117 | 5=>5 | 9=>9 | 218=>347 | 222=>351 | 228=>404 | 229=>366 | n=>n,fun n=>n⟩
theorem zem:Go.Proofs.Lays.n189 PG lay_slices_Sort_s_int_int_m_ren:={
 mixed:=by kernel_rfl
 f125:=Tryz.func138.trans (congrArg some (by kernel_rfl))
 f128:=Tryz.func200.trans (congrArg some (by kernel_rfl))
 f129:=Tryz.func201.trans (congrArg some (by kernel_rfl))
 f189:=Tryz.func81.trans (congrArg some (by kernel_rfl))
 f215:=Tryz.func249.trans (congrArg some (by kernel_rfl))
 f216:=Tryz.func197.trans (congrArg some (by kernel_rfl))
 f257:=Tryz.func137.trans (congrArg some (by kernel_rfl))
 f294:=Tryz.func191.trans (congrArg some (by kernel_rfl))
 f295:=Tryz.func192.trans (congrArg some (by kernel_rfl))
 f296:=Tryz.func193.trans (congrArg some (by kernel_rfl))
 f297:=Tryz.func194.trans (congrArg some (by kernel_rfl))
 f298:=Tryz.func195.trans (congrArg some (by kernel_rfl))
 f299:=Tryz.func196.trans (congrArg some (by kernel_rfl))
 f300:=Tryz.func198.trans (congrArg some (by kernel_rfl))
 f301:=Tryz.func199.trans (congrArg some (by kernel_rfl))
 f328:=Tryz.func244.trans (congrArg some (by kernel_rfl))
 f329:=Tryz.func245.trans (congrArg some (by kernel_rfl))
 f330:=Tryz.func246.trans (congrArg some (by kernel_rfl))
 f331:=Tryz.func247.trans (congrArg some (by kernel_rfl))
 f332:=Tryz.func248.trans (congrArg some (by kernel_rfl))
 f343:=Tryz.func289.trans (congrArg some (by kernel_rfl))
 t0:=Tryz.underlying0
 a0:=Tryz.isAgg0
 z0:=Tryz.sizeOf0
 v0:=Tryz.zeroValue0
 t3:=Tryz.underlying3
 a3:=Tryz.isAgg3
 z3:=Tryz.sizeOf3
 v3:=Tryz.zeroValue3
 t4:=Tryz.underlying4
 a4:=Tryz.isAgg4
 z4:=Tryz.sizeOf4
 v4:=Tryz.zeroValue4
 t5:=Tryz.underlying5
 a5:=Tryz.isAgg5
 z5:=Tryz.sizeOf5
 v5:=Tryz.zeroValue5
 t9:=Tryz.underlying9
 a9:=Tryz.isAgg9
 z9:=Tryz.sizeOf9
 v9:=Tryz.zeroValue9
 t28:=Tryz.underlying27
 a28:=Tryz.isAgg27
 z28:=Tryz.sizeOf27
 v28:=Tryz.zeroValue27
 t46:=Tryz.underlying240
 a46:=Tryz.isAgg240
 z46:=Tryz.sizeOf240
 v46:=Tryz.zeroValue240
 t51:=Tryz.underlying310
 a51:=Tryz.isAgg310
 z51:=Tryz.sizeOf310
 v51:=Tryz.zeroValue310
 t53:=Tryz.underlying103
 a53:=Tryz.isAgg103
 z53:=Tryz.sizeOf103
 v53:=Tryz.zeroValue103
 t131:=Tryz.underlying117
 a131:=Tryz.isAgg117
 z131:=Tryz.sizeOf117
 v131:=Tryz.zeroValue117
 t182:=Tryz.underlying303
 a182:=Tryz.isAgg303
 z182:=Tryz.sizeOf303
 v182:=Tryz.zeroValue303
 t183:=Tryz.underlying304
 a183:=Tryz.isAgg304
 z183:=Tryz.sizeOf304
 v183:=Tryz.zeroValue304
 t218:=Tryz.underlying347
 a218:=Tryz.isAgg347
 z218:=Tryz.sizeOf347
 v218:=Tryz.zeroValue347
 t222:=Tryz.underlying351
 a222:=Tryz.isAgg351
 z222:=Tryz.sizeOf351
 v222:=Tryz.zeroValue351
 t228:=Tryz.underlying404
 a228:=Tryz.isAgg404
 z228:=Tryz.sizeOf404
 v228:=Tryz.zeroValue404
 t229:=Tryz.underlying366
 a229:=Tryz.isAgg366
 z229:=Tryz.sizeOf366
 v229:=Tryz.zeroValue366
 }
def zgz:Code:=match Tryz.f81.body with | some c=>c | none=> .skip
def z71(N:Nat):CtrM:=ctrM sortIn sortOut [] (fun v=>z13 N v.2.1)
theorem zbp(N:Nat):zbc PG 81 (z71 N):=by
 have e1:lay_slices_Sort_s_int_int_m_ren.f 189=81:=by kernel_rfl
 have h:=ybt zem (fn:=Tryz.f81) (c:=zgz) (by rw[e1];exact Tryz.func81) (by kernel_rfl) (by kernel_rfl)
 rw[e1]at h
 exact h
def zfc:SM PG:=⟨81,z71 N,zbp N⟩
def y47:SC PG:=fz (E0 [] [9,11] [] [zbk N,zfc N]) Tryz.func38 [] (.cons (.val (.list Y8)) (.list (.int .i64))) (.fresh (.int .i64)) [] (fun v=>za7 N v.1 v.2) (by kernel_rfl)
def zod:SC PG:=fz (E0 [] [] []) Tryz.func39 [] (.cons (.val X3) (.int .i64)) (.tup (.cons (.int .i64) .bool)) [] (fun v=>zbt N v.1 v.2) (by kernel_rfl)
def ziq:SE PG:=E0 [(J2,[2000002,2000003])] [] [y47 N,zod N]
def zr9:SL PG Tryz.f16.ntmps (Y0 Tryz.f16):=lz N (ziq N) [] 250 ⟨[2,4,8,32,33,34],(.cons (.ptr 2000000 0) (.cons (.ptr 2000001 0) (.cons (.ptr 2000002 0) (.cons (.own 2000005) zob)))),[(2000000,[2], .boxV X3),(2000001,[4], .boxC [.nils, .nils, .int .i64 0]),(2000002,[8], .box (.cons (.own 2000003) (.cons (.own 2000004) (.int .i64)))),(2000003,[8,0], .sl (.int .i64)),(2000004,[8,1], .sl (.int .i64)),(2000005,[32], .sl (.int .i64))],[]⟩ (4,⟨[4,8],Sh3_,[(2000000,[4], .boxC [.nils, .nils, .int .i64 0]),(2000001,[8], .box yku),(2000002,[8,0], .sl (.int .i64)),(2000003,[8,1], .sl (.int .i64))],[]⟩) [] (z7a N N) (z1f N) (fun f v=>f v.1.2.2.2.2.1 v.1.2.2.2.2.2 v.2.1 v.2.2.2.1.2.2 v.2.2.2.2.1 v.2.2.2.2.2.1 v.2.2.2.2.2.2.1) (fun r b0 b1 b2 b3 b4 b5 b6=>r (((),((),((),((),(b0,b1))))),(b2,((),(((),((),b3)),(b4,(b5,(b6,())))))))) rfl (fun _=>rfl) (fun _ _=>rfl) (by kernel_rfl)
def zra:SL PG Tryz.f16.ntmps (Y0 Tryz.f16):=lz N (ziq N) [] 58 ⟨[2,3,4,5,17,18,19],(.cons (.ptr 2000000 0) (.cons (.ptr 2000001 0) (.cons (.ptr 2000002 0) (.cons (.own 2000003) (.cons (.list z5z) zob))))),[(2000000,[2], .boxV X3),(2000001,[3], .boxV Y2),(2000002,[4], .boxC [.nils, .nils, .int .i64 0]),(2000003,[5], .sl (.int .i64))],[]⟩ (2,⟨[2,3,4,5],(.cons (.ptr 2000000 0) (.cons (.ptr 2000001 0) (.cons (.ptr 2000002 0) (.own 2000003)))),[(2000000,[2], .boxV X3),(2000001,[3], .boxV Y2),(2000002,[4], .boxC [.nils, .nils, .int .i64 0]),(2000003,[5], .sl (.int .i64))],[]⟩) [] (z7b N N) (z1g N) (fun f v=>f v.1.2.2.2.2.1 v.1.2.2.2.2.2.1 v.1.2.2.2.2.2.2 v.2.1 v.2.2.1 v.2.2.2.2.1) (fun r b0 b1 b2 b3 b4 b5=>r (((),((),((),((),(b0,(b1,b2)))))),(b3,(b4,((),(b5,())))))) rfl (fun _=>rfl) (fun _ _=>rfl) (by kernel_rfl)
def zlr:SC PG:=fz (ziq N) Tryz.func16 [zra N,zr9 N] (.cons (.val X3) (.val Y2)) (.val z16) [] (fun v=>zaa N v.1 v.2) (by kernel_rfl)
def y39:SC PG:=fz (E0 [] [] []) Tryz.func19 [] (.val z16) .bool [] (fun v=>zqi N v) (by kernel_rfl)
def clone82_ren:Go.Shelf.Ren:=⟨fun | 41=>82 | n=>n,fun | 22=>27 | 23=>3 | n=>n,fun n=>n⟩
theorem ym1:CloneL PG clone82_ren:={
 mixed:=by kernel_rfl
 f41:=⟨Tryz.f82.name,by decide,Tryz.func82.trans (congrArg some (by kernel_rfl))⟩
 t4:=Tryz.underlying4
 a4:=Tryz.isAgg4
 z4:=Tryz.sizeOf4
 v4:=Tryz.zeroValue4
 t22:=Tryz.underlying27
 a22:=Tryz.isAgg27
 z22:=Tryz.sizeOf27
 v22:=Tryz.zeroValue27
 }
def zho:Code:=match Tryz.f82.body with | some c=>c | none=> .skip
def z76(N:Nat):Ctr:=zl8 (.list (.int .i64)) (.fresh (.int .i64)) [] (fun v=>z5i N v)
def ti_slices_Clone_s_int_int:TI:=match ycc tyRows 3 with | some t=>t | none=>⟨.other,0,0,[],none⟩
theorem zd3(N:Nat):z5r PG 82 (fun vs=>(z76 N).run vs some):=by
 have e1:clone82_ren.f 41=82:=by kernel_rfl
 have e2:clone82_ren.t 23=3:=by kernel_rfl
 have h:=y8z ym1 (ei:=ti_slices_Clone_s_int_int) (ty:=(.int .i64)) (fn:=Tryz.f82) (c:=zho) (by rw[e2];exact y2t y4o 3 _ (by kernel_rfl)) (by kernel_rfl) (by rw[e1];exact Tryz.func82) (by kernel_rfl) (by kernel_rfl)
 rw[e1,show ti_slices_Clone_s_int_int.bytes=8 by kernel_rfl]at h
 exact h
def zgm:SC PG:=⟨82,z76 N,zd3 N⟩
def y8k:SC PG:=fz (E0 [] [] []) Tryz.func43 [] (.cons (.val Q4) (.int .i64)) .bool [] (fun v=>y2v N v.1 v.2) (by kernel_rfl)
def z67:SC PG:=fz (E0 [(J2,[1])] [] []) Tryz.func156 [] (.list J4) (.clo 229 (.bx (.list J4) 0)) [] (fun v=>J6 N v) (by kernel_rfl)
def zpj:SR PG:=rz (E0 [] [] []) 1 ([]:List (SL PG Tryz.f97.ntmps (Y0 Tryz.f97))) ([]:List (SL PG Tryz.f97.ntmps (Y0 Tryz.f97))) 116 117 ⟨[15,16,3,4,5],(.cons (.int .i64) (.cons (.agg (.cons .bool (.cons (.int .i64) (.list (.int .u8))))) (.cons (.ptr 5000000 0) (.cons (.ptr 5000001 0) (.ptr 5000003 0))))),[(5000000,[3], .box (.int .i64)),(5000001,[4], .box (.own 5000002)),(5000002,[4,0], .sl (.int .u8)),(5000003,[5], .box (.int .i64))],[]⟩ (1,⟨[], .nil,[(5000000,[5000000], .box (.int .i64)),(5000001,[5000001], .box (.list (.int .u8))),(5000002,[5000002], .sl (.int .u8)),(5000003,[5000003], .boxC [.int .i64 0])],[]⟩) [(0,⟨[], .nil,[(5000000,[5000000], .box (.int .i64)),(5000001,[5000001], .box (.own 5000002)),(5000002,[5000002], .sl (.int .u8)),(5000003,[5000003], .box (.int .i64))],[]⟩)] (fun v=>zl7 N v.1.1 v.1.2.1.1 v.1.2.1.2.1 v.1.2.1.2.2 v.2.1 v.2.2.2.1 v.2.2.2.2.1) (by kernel_rfl)
def G8:SE PG:=E0 [] [17] [] [] [zpj N]
def z2w:SL PG Tryz.f229.ntmps (Y0 Tryz.f229):=lz N (G8 N) [] 6 ⟨[0,1,3],(.cons (.yld 5000000) (.cons (.bx (.list J4) 0) (.int .i64))),[(5000000,[5000000], .rng 1 y87 0),(5000001,[5000001], .box (.int .i64)),(5000002,[5000002], .box (.own 5000003)),(5000003,[5000003], .sl (.int .u8)),(5000004,[5000004], .box (.int .i64))],[]⟩ (1,⟨[], .nil,[(5000000,[5000000], .rng 1 y87 1),(5000001,[5000001], .box (.int .i64)),(5000002,[5000002], .box (.list (.int .u8))),(5000004,[5000004], .boxC [.int .i64 0]),(5000003,[5000003], .sl (.int .u8))],[]⟩) [(2,⟨[], .nil,[(5000000,[5000000], .rng 1 y87 0),(5000001,[5000001], .box (.int .i64)),(5000002,[5000002], .box (.own 5000003)),(5000003,[5000003], .sl (.int .u8)),(5000004,[5000004], .box (.int .i64))],[]⟩)] (X5 N N) (V4 N) (fun f v=>f v.1.2.1 v.1.2.2 v.2.2.1 v.2.2.2.2.1 v.2.2.2.2.2.1) (fun r b0 b1 b2 b3 b4=>r (((),(b0,b1)),(((),((),())),(b2,((),(b3,(b4,()))))))) rfl (fun _=>rfl) (fun _ _=>rfl) (by kernel_rfl)
def z48:SM PG:=mz (G8 N) Tryz.func229 [z2w N] ⟨[0,1],(.cons (.yld 5000000) (.bx (.list J4) 0)),[(5000000,[0], .rng 1 y87 0),(5000001,[0,0], .box (.int .i64)),(5000002,[0,1], .box (.own 5000003)),(5000003,[0,1,0], .sl (.int .u8)),(5000004,[0,2], .box (.int .i64))],[]⟩ ⟨[0],(.tup .nil),[(5000000,[5000000], .rng 1 y87 1),(5000001,[5000001], .box (.int .i64)),(5000002,[5000002], .box (.list (.int .u8))),(5000004,[5000004], .boxC [.int .i64 0]),(5000003,[5000003], .sl (.int .u8))],[]⟩ [⟨[0],(.tup .nil),[(5000000,[5000000], .rng 1 y87 0),(5000001,[5000001], .box (.int .i64)),(5000002,[5000002], .box (.own 5000003)),(5000003,[5000003], .sl (.int .u8)),(5000004,[5000004], .box (.int .i64))],[]⟩] (fun v=>U4 N v.1.2 v.2.2.1 v.2.2.2.2.1 v.2.2.2.2.2.1) (by kernel_rfl)
def y1f:SE PG:=E0 [] [] [y8k N,z67 N] [z48 N]
def zzd:SL PG Tryz.f97.ntmps (Y0 Tryz.f97):=gz (y1f N) 1 58 (.tmp 14) ⟨[2,3,4,5,14],(.cons (.ptr 2000000 0) (.cons (.ptr 2000001 0) (.cons (.ptr 2000002 0) (.cons (.ptr 2000003 0) (.clo 229 (.bx (.list J4) 0)))))),[(2000000,[2], .boxV Q4),(2000001,[3], .box (.int .i64)),(2000002,[4], .boxC [.nils]),(2000003,[5], .boxC [.int .i64 0])],[]⟩ (1,⟨[4,5],Sh3_,[(2000000,[4], .box (.list (.int .u8))),(2000001,[5], .boxC [.int .i64 0])],[]⟩) [(0,⟨[2,3,4,5],(.cons (.ptr 2000000 0) (.cons (.ptr 2000001 0) (.cons (.ptr 2000002 0) (.ptr 2000004 0)))),[(2000000,[2], .boxV Q4),(2000001,[3], .box (.int .i64)),(2000002,[4], .box (.own 2000003)),(2000003,[4,0], .sl (.int .u8)),(2000004,[5], .box (.int .i64))],[]⟩)] (fun v=>zn1 N v.1.2.2.2.2 v.2.1 v.2.2.1) (by kernel_rfl)
def y8l:SC PG:=fz (y1f N) Tryz.func97 [zzd N] (.cons (.val Q4) (.int .i64)) (.tup (.cons (.list (.int .u8)) (.int .i64))) [] (fun v=>zub N v.1 v.2) (by kernel_rfl)
def ztn:SE PG:=E0 [] [] []
def zvl:SL PG Tryz.f99.ntmps (Y0 Tryz.f99):=lz N (ztn) [] 58 ⟨[3,6,7,8],(.cons (.int .u64) (.cons (.list (.int .u8)) zob)),[],[]⟩ (2,⟨[3],(.int .u64),[],[]⟩) [] (z9p N N) (z3h N) (fun f v=>f v.1.1 v.1.2.1 v.1.2.2.1 v.1.2.2.2) (fun r b0 b1 b2 b3=>r ((b0,(b1,(b2,b3))),())) rfl (fun _=>rfl) (fun _ _=>rfl) (by kernel_rfl)
def y48:SC PG:=fz (ztn) Tryz.func99 [zvl N] (.list (.int .u8)) (.int .u64) [] (fun v=>zkz N v) (by kernel_rfl)
def zqc:SC PG:=fz (E0 [] [] [y8l N,y48 N]) Tryz.func84 [] (.cons (.bx (.cons (.list (.int .i64)) (.cons (.list (.int .i64)) (.cons (.int .i64) (.cons (.int .i64) (.cons (.list (.list (.int .u8))) (.cons (.list J4) (.cons (.list .bool) (.cons (.list (.int .i64)) (.cons (.int .i64) (.cons (.int .i64) (.cons (.int .i64) (.cons (.int .i64) (.cons (.list (.int .i64)) (.cons (.list (.int .u64)) (.list (.int .i64)))))))))))))))) 0) (.cons (.int .i64) (.int .i64))) .bool [] (fun v=>z9u N v.1.1 v.1.2.1 v.1.2.2.1 v.1.2.2.2.1 v.1.2.2.2.2.1 v.1.2.2.2.2.2.1 v.1.2.2.2.2.2.2.1 v.1.2.2.2.2.2.2.2.1 v.1.2.2.2.2.2.2.2.2.1 v.1.2.2.2.2.2.2.2.2.2.1 v.1.2.2.2.2.2.2.2.2.2.2.1 v.1.2.2.2.2.2.2.2.2.2.2.2.1 v.1.2.2.2.2.2.2.2.2.2.2.2.2.1 v.1.2.2.2.2.2.2.2.2.2.2.2.2.2.1 v.1.2.2.2.2.2.2.2.2.2.2.2.2.2.2 v.2.1 v.2.2) (by kernel_rfl)
def zlc:SM PG:=mz (E0 [] [] []) Tryz.func83 [] ⟨[0],(.ptr 5000000 0),[(5000000,[0], .box (.cons (.list (.int .i64)) (.cons (.own 5000001) Sh0_))),(5000001,[0,1], .sl (.int .i64))],[]⟩ ⟨[0],(.clo 139 (.ptr 2000000 0)),[(2000000,[0,0], .box (.ptr 5000000 0)),(5000000,[5000000], .box (.cons (.list (.int .i64)) (.cons (.own 5000001) Sh0_))),(5000001,[5000001], .sl (.int .i64))],[]⟩ [] (fun v=>za0 N v.2.1.1 v.2.1.2.2.1 v.2.1.2.2.2.1 v.2.1.2.2.2.2.1 v.2.1.2.2.2.2.2.1 v.2.1.2.2.2.2.2.2.1 v.2.1.2.2.2.2.2.2.2.1 v.2.1.2.2.2.2.2.2.2.2.1 v.2.1.2.2.2.2.2.2.2.2.2.1 v.2.1.2.2.2.2.2.2.2.2.2.2.1 v.2.1.2.2.2.2.2.2.2.2.2.2.2.1 v.2.1.2.2.2.2.2.2.2.2.2.2.2.2.1 v.2.1.2.2.2.2.2.2.2.2.2.2.2.2.2.1 v.2.1.2.2.2.2.2.2.2.2.2.2.2.2.2.2 v.2.2.1) (by kernel_rfl)
def zlj:SR PG:=rz (E0 [] [] [zqc N]) 0 ([]:List (SL PG Tryz.f40.ntmps (Y0 Tryz.f40))) ([]:List (SL PG Tryz.f40.ntmps (Y0 Tryz.f40))) 500 501 ⟨[27,28,5,8],(.cons (.int .i64) (.cons (.int .i64) (.cons (.ptr 5000000 0) (.ptr 5000001 0)))),[(5000000,[5], .box (.int .i64)),(5000001,[8], .box (.ptr 5000002 0)),(5000002,[8,0], .box (.cons (.list (.int .i64)) (.cons (.own 5000003) Sh0_))),(5000003,[8,0,1], .sl (.int .i64))],[]⟩ (2,⟨[], .nil,[(5000000,[5000000], .box (.int .i64)),(5000001,[5000001], .box (.ptr 5000002 0)),(5000002,[5000002], .box yhc),(2000003,[5000002,1], .sl (.int .i64))],[]⟩) [(0,⟨[], .nil,[(5000000,[5000000], .box (.int .i64)),(5000001,[5000001], .box (.ptr 5000002 0)),(5000002,[5000002], .box yhc),(2000003,[5000002,1], .sl (.int .i64))],[]⟩)] (fun v=>z73 N v.1.1 v.1.2.1 v.2.1 v.2.2.2.1.1 v.2.2.2.1.2.2.1 v.2.2.2.1.2.2.2.1 v.2.2.2.1.2.2.2.2.1 v.2.2.2.1.2.2.2.2.2.1 v.2.2.2.1.2.2.2.2.2.2.1 v.2.2.2.1.2.2.2.2.2.2.2.1 v.2.2.2.1.2.2.2.2.2.2.2.2.1 v.2.2.2.1.2.2.2.2.2.2.2.2.2.1 v.2.2.2.1.2.2.2.2.2.2.2.2.2.2.1 v.2.2.2.1.2.2.2.2.2.2.2.2.2.2.2.1 v.2.2.2.1.2.2.2.2.2.2.2.2.2.2.2.2.1 v.2.2.2.1.2.2.2.2.2.2.2.2.2.2.2.2.2.1 v.2.2.2.1.2.2.2.2.2.2.2.2.2.2.2.2.2.2 v.2.2.2.2.1) (by kernel_rfl)
def z8i:SE PG:=E0 [] [34] [zod N] [] [zlj N]
def zbq:SL PG Tryz.f139.ntmps (Y0 Tryz.f139):=lz N (z8i N) [] 2 ⟨[0,1],(.cons (.yld 5000000) (.ptr 5000005 0)),[(5000005,[5000005], .box (.ptr 5000003 0)),(5000003,[5000003], .box (.cons (.list (.int .i64)) (.cons (.own 2000002) Sh0_))),(2000002,[5000003,1], .sl (.int .i64)),(5000000,[5000000], .rng 0 y86 0),(5000001,[5000001], .box (.int .i64)),(5000002,[5000002], .box (.ptr 5000003 0))],[]⟩ (1,⟨[], .nil,[(5000000,[5000000], .rng 0 y86 2),(5000001,[5000001], .box (.int .i64)),(5000002,[5000002], .box (.ptr 5000003 0)),(5000003,[5000003], .box ycx),(2000004,[5000003,1], .sl (.int .i64)),(5000005,[5000005], .box (.ptr 5000003 0))],[]⟩) [(2,⟨[], .nil,[(5000000,[5000000], .rng 0 y86 0),(5000001,[5000001], .box (.int .i64)),(5000002,[5000002], .box (.ptr 5000003 0)),(5000003,[5000003], .box ycx),(2000004,[5000003,1], .sl (.int .i64)),(5000005,[5000005], .box (.ptr 5000003 0))],[]⟩)] (Q9 N N) (Q5 N) (fun f v=>f v.2.2.1.1 v.2.2.1.2.2.1 v.2.2.1.2.2.2.1 v.2.2.1.2.2.2.2.1 v.2.2.1.2.2.2.2.2.1 v.2.2.1.2.2.2.2.2.2.1 v.2.2.1.2.2.2.2.2.2.2.1 v.2.2.1.2.2.2.2.2.2.2.2.1 v.2.2.1.2.2.2.2.2.2.2.2.2.1 v.2.2.1.2.2.2.2.2.2.2.2.2.2.1 v.2.2.1.2.2.2.2.2.2.2.2.2.2.2.1 v.2.2.1.2.2.2.2.2.2.2.2.2.2.2.2.1 v.2.2.1.2.2.2.2.2.2.2.2.2.2.2.2.2.1 v.2.2.1.2.2.2.2.2.2.2.2.2.2.2.2.2.2 v.2.2.2.1 v.2.2.2.2.2.1) (fun r b0 b1 b2 b3 b4 b5 b6 b7 b8 b9 b10 b11 b12 b13 b14 b15=>r (((),()),((),((b0,((),(b1,(b2,(b3,(b4,(b5,(b6,(b7,(b8,(b9,(b10,(b11,(b12,b13)))))))))))))),(b14,(((),()),(b15,((),())))))))) rfl (fun _=>rfl) (fun _ _=>rfl) (by kernel_rfl)
def zfd:SM PG:=mz (z8i N) Tryz.func139 [zbq N] ⟨[0,1],(.cons (.yld 5000000) (.ptr 5000005 0)),[(5000000,[0], .rng 0 y86 0),(5000001,[0,0], .box (.int .i64)),(5000002,[0,1], .box (.ptr 5000003 0)),(5000003,[0,1,0], .box (.cons (.list (.int .i64)) (.cons (.own 5000004) Sh0_))),(5000004,[0,1,0,1], .sl (.int .i64)),(5000005,[1], .box (.ptr 5000003 0))],[]⟩ ⟨[0],(.tup .nil),[(5000000,[5000000], .rng 0 y86 2),(5000001,[5000001], .box (.int .i64)),(5000002,[5000002], .box (.ptr 5000003 0)),(5000003,[5000003], .box ycx),(2000004,[5000003,1], .sl (.int .i64)),(5000005,[5000005], .box (.ptr 5000003 0))],[]⟩ [⟨[0],(.tup .nil),[(5000000,[5000000], .rng 0 y86 0),(5000001,[5000001], .box (.int .i64)),(5000002,[5000002], .box (.ptr 5000003 0)),(5000003,[5000003], .box ycx),(2000004,[5000003,1], .sl (.int .i64)),(5000005,[5000005], .box (.ptr 5000003 0))],[]⟩] (fun v=>z50 N v.2.2.1 v.2.2.2.2.1.1 v.2.2.2.2.1.2.2.1 v.2.2.2.2.1.2.2.2.1 v.2.2.2.2.1.2.2.2.2.1 v.2.2.2.2.1.2.2.2.2.2.1 v.2.2.2.2.1.2.2.2.2.2.2.1 v.2.2.2.2.1.2.2.2.2.2.2.2.1 v.2.2.2.2.1.2.2.2.2.2.2.2.2.1 v.2.2.2.2.1.2.2.2.2.2.2.2.2.2.1 v.2.2.2.2.1.2.2.2.2.2.2.2.2.2.2.1 v.2.2.2.2.1.2.2.2.2.2.2.2.2.2.2.2.1 v.2.2.2.2.1.2.2.2.2.2.2.2.2.2.2.2.2.1 v.2.2.2.2.1.2.2.2.2.2.2.2.2.2.2.2.2.2.1 v.2.2.2.2.1.2.2.2.2.2.2.2.2.2.2.2.2.2.2 v.2.2.2.2.2.1) (by kernel_rfl)
def zt6:SE PG:=E0 [(J2,[2000003])] [26] [zgm N] [zlc N,zfd N]
def zup:SL PG Tryz.f40.ntmps (Y0 Tryz.f40):=gz (zt6 N) 0 250 (.tmp 26) ⟨[5,6,8,26],(.cons (.ptr 2000000 0) (.cons (.ptr 2000001 0) (.cons (.ptr 2000002 0) (.clo 139 (.ptr 2000005 0))))),[(2000000,[5], .box (.int .i64)),(2000001,[6], .boxC [.nils, .nils, .int .i64 0]),(2000002,[8], .box (.ptr 2000003 0)),(2000003,[8,0], .box ycx),(2000004,[8,0,1], .sl (.int .i64)),(2000005,[26,0], .box (.ptr 2000003 0))],[]⟩ (2,⟨[6,8],Sh3_,[(2000000,[6], .boxC [.nils, .nils, .int .i64 0]),(2000001,[8], .box (.ptr 2000002 0)),(2000002,[8,0], .box yhc),(2000003,[8,0,1], .sl (.int .i64))],[]⟩) [(0,⟨[6,8],Sh3_,[(2000000,[6], .boxC [.nils, .nils, .int .i64 0]),(2000001,[8], .box (.ptr 2000002 0)),(2000002,[8,0], .box yhc),(2000003,[8,0,1], .sl (.int .i64))],[]⟩)] (fun v=>zif N v.2.1 v.2.2.2.2.1.1 v.2.2.2.2.1.2.2.1 v.2.2.2.2.1.2.2.2.1 v.2.2.2.2.1.2.2.2.2.1 v.2.2.2.2.1.2.2.2.2.2.1 v.2.2.2.2.1.2.2.2.2.2.2.1 v.2.2.2.2.1.2.2.2.2.2.2.2.1 v.2.2.2.2.1.2.2.2.2.2.2.2.2.1 v.2.2.2.2.1.2.2.2.2.2.2.2.2.2.1 v.2.2.2.2.1.2.2.2.2.2.2.2.2.2.2.1 v.2.2.2.2.1.2.2.2.2.2.2.2.2.2.2.2.1 v.2.2.2.2.1.2.2.2.2.2.2.2.2.2.2.2.2.1 v.2.2.2.2.1.2.2.2.2.2.2.2.2.2.2.2.2.2.1 v.2.2.2.2.1.2.2.2.2.2.2.2.2.2.2.2.2.2.2 v.2.2.2.2.2.1) (by kernel_rfl)
def y38:SC PG:=fz (zt6 N) Tryz.func40 [zup N] (.cons (.val z16) (.cons (.val X3) (.int .i64))) (.tup (.cons (.val z16) (.int .i64))) [] (fun v=>zkb N v.1 v.2.1 v.2.2) (by kernel_rfl)
def zol:SC PG:=fz (E0 [] [] [y38 N]) Tryz.func17 [] (.cons (.val z16) (.cons (.val X3) (.int .i64))) (.val ztt) [] (fun v=>G7 N v.1 v.2.1 v.2.2) (by kernel_rfl)
def zt8:SE PG:=E0 [(J2,[2000002])] [] [z9v N]
def zuv:SL PG Tryz.f33.ntmps (Y0 Tryz.f33):=lz N (zt8 N) [] 58 ⟨[1,2,3,4],Sh5_,[(2000000,[1], .boxV Q4),(2000001,[2], .boxC [.int .i64 0, .nils, .nils]),(2000002,[3], .box (.cons (.int .i64) (.cons (.own 2000003) (.own 2000004)))),(2000003,[3,1], .sl (.list (.int .u8))),(2000004,[3,2], .sl J4)],[]⟩ (2,⟨[2,3],Sh3_,[(2000000,[2], .boxC [.int .i64 0, .nils, .nils]),(2000001,[3], .box (.cons (.int .i64) (.cons (.own 2000002) (.own 2000003)))),(2000002,[3,1], .sl (.list (.int .u8))),(2000003,[3,2], .sl J4)],[]⟩) [] (z99 N N) (z2z N) (fun f v=>f v.1.2.2.2 v.2.1 v.2.2.2.1.1 v.2.2.2.2.1 v.2.2.2.2.2.1) (fun r b0 b1 b2 b3 b4=>r (((),((),((),b0))),(b1,((),((b2,((),())),(b3,(b4,()))))))) rfl (fun _=>rfl) (fun _ _=>rfl) (by kernel_rfl)
def zoh:SC PG:=fz (zt8 N) Tryz.func33 [zuv N] (.val Q4) (.val Q4) [] (fun v=>zc3 N v) (by kernel_rfl)
def y3a:SC PG:=fz (E0 [] [] []) Tryz.func21 [] (.cons (.val X3) (.int .i64)) (.int .i64) [] (fun v=>zqn N v.1 v.2) (by kernel_rfl)
def y6b:SC PG:=fz (E0 [(J2,[42,30,30,4126])] [] [zig N,z9v N]) Tryz.func37 [] (.cons (.val Q4) (.val zts)) (.tup (.cons (.val Q4) (.int .i64))) [] (fun v=>y51 N v.1 v.2) (by kernel_rfl)
def zyj:SC PG:=fz (E0 [] [] [y3a N,zsp N,y6b N]) Tryz.func14 [] (.cons (.val X3) (.cons (.list (.int .i64)) (.val zxs))) (.tup (.cons (.val X3) (.int .i64))) [] (fun v=>zsy N v.1 v.2.1 v.2.2) (by kernel_rfl)
def ztf:SE PG:=E0 [] [] []
def zv8:SL PG Tryz.f23.ntmps (Y0 Tryz.f23):=lz N (ztf) [] 58 ⟨[0,1,5],(.cons (.list (.int .i64)) (.cons (.list (.int .i64)) (.int .i64))),[],[]⟩ (1,⟨[4], .bool,[],[]⟩) [(2,⟨[], .nil,[],[]⟩)] (z9h N N) (z38 N) (fun f v=>f v.1.1 v.1.2.1 v.1.2.2) (fun r b0 b1 b2=>r ((b0,(b1,b2)),())) rfl (fun _=>rfl) (fun _ _=>rfl) (by kernel_rfl)
def zoj:SC PG:=fz (ztf) Tryz.func23 [zv8 N] (.cons (.list (.int .i64)) (.list (.int .i64))) .bool [] (fun v=>zcd N v.1 v.2) (by kernel_rfl)
def zoe:SC PG:=fz (E0 [] [] [zoj N]) Tryz.func15 [] (.cons (.val z16) (.val z16)) .bool [] (fun v=>z3t N v.1 v.2) (by kernel_rfl)
def zg6:SE PG:=E0 [] [] [zvu N,zlr N,y39 N,zol N,zoh N,zyj N,zoj N,zoe N]
def zqa:SL PG Tryz.f11.ntmps (Y0 Tryz.f11):=pz (zg6 N) [] 4095 ⟨[0], .bool,[],[]⟩ (1,⟨[0], .bool,[],[]⟩) [] (fun v=>z7 N v.1) (by kernel_rfl)
def zqb:SL PG Tryz.f11.ntmps (Y0 Tryz.f11):=pz (zg6 N) [zqa N] 31 ⟨[1,2],Sh3_,[(2000000,[1], .boxV zay),(2000001,[2], .boxV z16)],[]⟩ (1,⟨[0], .bool,[],[]⟩) [] (fun v=>zl2 N v.2.1 v.2.2.1) (by kernel_rfl)
def zz2:SC PG:=fz (zg6 N) Tryz.func11 [zqb N] .nil .bool [] (fun _=>zba N) (by kernel_rfl)
def zzj:SC PG:=fz (E0 [] [] []) Tryz.func76 [] (.int .u8) (.val z2v) [] (fun v=>zhp N v) (by kernel_rfl)
def zok:SC PG:=fz (E0 [] [] []) Tryz.func147 [] (.int .u8) .str [] (fun v=>za6 N v) (by kernel_rfl)
def y6f:SC PG:=fz (E0 [] [] [zok N]) Tryz.func145 [] (.int .u8) .str [] (fun v=>zjh N v) (by kernel_rfl)
def y00:SC PG:=fz (E0 [] [] []) Tryz.func150 [] (.int .u8) .str [] (fun v=>zhv N v) (by kernel_rfl)
def zk5:SE PG:=E0 [] [] [y6f N,zok N,j8 N,z9w N,y00 N,zep N]
def zve:SL PG Tryz.f90.ntmps (Y0 Tryz.f90):=pz (zk5 N) [] 127 ⟨[1,2,3,5,6,7],(.cons (.ptr 2000000 0) (.cons (.ptr 2000001 0) (.cons .str (.cons (.ptr 2000002 0) (.cons .str .str))))),[(2000000,[1], .boxV w5),(2000001,[2], .boxC [.int .i64 0, .str [], .str [], .str [], .str [], .str [], .str [], .int .i64 0]),(2000002,[5], .boxV Z2)],[]⟩ (1,⟨[2],(.ptr 2000000 0),[(2000000,[2], .boxV Z8)],[]⟩) [] (fun v=>z0q N v.1.2.2.1 v.1.2.2.2.2.1 v.1.2.2.2.2.2 v.2.1 v.2.2.2.1) (by kernel_rfl)
def zvf:SL PG Tryz.f90.ntmps (Y0 Tryz.f90):=pz (zk5 N) [zve N] 31 ⟨[1,2,3,5],(.cons (.ptr 2000000 0) (.cons (.ptr 2000001 0) (.cons .str (.ptr 2000002 0)))),[(2000000,[1], .boxV w5),(2000001,[2], .boxC [.int .i64 0, .str [], .str [], .str [], .str [], .str [], .str [], .int .i64 0]),(2000002,[5], .boxV Z2)],[]⟩ (1,⟨[2],(.ptr 2000000 0),[(2000000,[2], .boxV Z8)],[]⟩) [] (fun v=>z0r N v.1.2.2.1 v.2.1 v.2.2.2.1) (by kernel_rfl)
def y44:SC PG:=fz (zk5 N) Tryz.func90 [zvf N] (.val w5) (.val Z8) [] (fun v=>zck N v) (by kernel_rfl)
def zmi:SE PG:=E0 [(J2,[2000000])] [] [y44 N]
def zq4:SL PG Tryz.f47.ntmps (Y0 Tryz.f47):=lz N (zmi N) [] 58 ⟨[0,1,5,6],(.cons (.list w5) (.cons (.int .i64) Sh9_)),[(2000000,[5], .sl Z8)],[]⟩ (2,⟨[5],(.own 2000000),[(2000000,[5], .sl Z8)],[]⟩) [] (z6j N N) (y5 N) (fun f v=>f v.1.1 v.1.2.1 v.1.2.2.2 v.2.1) (fun r b0 b1 b2 b3=>r ((b0,(b1,((),b2))),(b3,()))) rfl (fun _=>rfl) (fun _ _=>rfl) (by kernel_rfl)
def zyy:SC PG:=fz (zmi N) Tryz.func47 [zq4 N] (.cons (.list w5) (.int .i64)) (.list Z8) [] (fun v=>zf0 N v.1 v.2) (by kernel_rfl)
def y3l:SC PG:=fz (E0 [] [] []) Tryz.func49 [] (.int .u8) .str [] (fun v=>zgp N v) (by kernel_rfl)
def zt9:SE PG:=E0 [(J2,[63])] [] [zik N,zii N]
def zuy:SL PG Tryz.f48.ntmps (Y0 Tryz.f48):=lz N (zt9 N) [] 58 ⟨[1,2,4,5],(.cons .str Sh8_),[(2000000,[2], .boxV Y2),(2000001,[4], .boxC [.nils, .int .i64 0, .int .i64 0, .int .i64 0, .nils, .int .i64 0, .int .i64 0, .int .i64 0, .nils, .int .i64 0, .int .i64 0])],[]⟩ (1,⟨[4],(.ptr 2000000 0),[(2000000,[4], .boxV zdn)],[]⟩) [(2,⟨[1,2,4],(.cons .str Sh3_),[(2000000,[2], .boxV Y2),(2000001,[4], .boxC [.nils, .int .i64 0, .int .i64 0, .int .i64 0, .nils, .int .i64 0, .int .i64 0, .int .i64 0, .nils, .int .i64 0, .int .i64 0])],[]⟩)] (z6s N N) (z30 N) (fun f v=>f v.1.1 v.1.2.2.2 v.2.1) (fun r b0 b1 b2=>r ((b0,((),((),b1))),(b2,((),())))) rfl (fun _=>rfl) (fun _ _=>rfl) (by kernel_rfl)
def y3k:SC PG:=fz (zt9 N) Tryz.func48 [zuy N] (.cons (.val Y2) .str) (.val zdn) [] (fun v=>zgo N v.1 v.2) (by kernel_rfl)
def y8i:SC PG:=fz (E0 [] [] []) Tryz.func51 [] (.cons (.val Y2) (.int .u8)) (.int .i64) [] (fun v=>zne N v.1 v.2) (by kernel_rfl)
def zyo:SC PG:=fz (E0 [] [] [zih N,zii N,zbv N]) Tryz.func50 [] (.cons (.val Y2) (.int .i64)) (.tup (.cons (.val Y2) (.int .i64))) [] (fun v=>zeu N v.1 v.2) (by kernel_rfl)
def zzy:SC PG:=fz (E0 [(2000012,[11])] [] [zkd N]) Tryz.func94 [] (.cons (.list Z8) (.list Z8)) (.list Z8) [] (fun v=>z86 N v.1 v.2) (by kernel_rfl)
def zm9:SE PG:=E0 [(J2,[2000004])] [] [zih N,zbv N,zzy N]
def zpq:SL PG Tryz.f52.ntmps (Y0 Tryz.f52):=lz N (zm9 N) [] 1018 ⟨[1,2,4,6,7,8,9],(.cons (.int .i64) (.cons (.ptr 2000000 0) (.cons (.ptr 2000001 0) (.cons (.int .i64) (.cons (.ptr 2000002 0) (.cons (.ptr 2000003 0) (.int .i64))))))),[(2000000,[2], .boxV Y2),(2000001,[4], .boxC [.nils, .int .i64 0, .int .i64 0, .int .i64 0, .nils, .int .i64 0, .int .i64 0, .int .i64 0, .nils]),(2000002,[7], .boxV z5z),(2000003,[8], .box ynl),(2000004,[8,4], .sl z5z)],[]⟩ (2,⟨[1,2,4,7,8],(.cons (.int .i64) (.cons (.ptr 2000000 0) (.cons (.ptr 2000001 0) (.cons (.ptr 2000002 0) (.ptr 2000003 0))))),[(2000000,[2], .boxV Y2),(2000001,[4], .boxC [.nils, .int .i64 0, .int .i64 0, .int .i64 0, .nils, .int .i64 0, .int .i64 0, .int .i64 0, .nils]),(2000002,[7], .boxV z5z),(2000003,[8], .box ynl),(2000004,[8,4], .sl z5z)],[]⟩) [] (z40 N N) (z0g N) (fun f v=>f v.1.1 v.1.2.2.2.1 v.1.2.2.2.2.2.2 v.2.1 v.2.2.2.1 v.2.2.2.2.1.1 v.2.2.2.2.1.2.1 v.2.2.2.2.1.2.2.1 v.2.2.2.2.1.2.2.2.1 v.2.2.2.2.1.2.2.2.2.2.1 v.2.2.2.2.1.2.2.2.2.2.2.1 v.2.2.2.2.1.2.2.2.2.2.2.2.1 v.2.2.2.2.1.2.2.2.2.2.2.2.2 v.2.2.2.2.2.1) (fun r b0 b1 b2 b3 b4 b5 b6 b7 b8 b9 b10 b11 b12 b13=>r ((b0,((),((),(b1,((),((),b2)))))),(b3,((),(b4,((b5,(b6,(b7,(b8,((),(b9,(b10,(b11,b12)))))))),(b13,()))))))) rfl (fun _=>rfl) (fun _ _=>rfl) (by kernel_rfl)
def zyn:SC PG:=fz (zm9 N) Tryz.func52 [zpq N] (.cons (.val Y2) (.int .i64)) (.tup (.cons (.val Y2) (.int .i64))) [] (fun v=>zet N v.1 v.2) (by kernel_rfl)
def zk2:SE PG:=E0 [] [] [zyy N,zsr N,y3l N,y3k N,y8i N,zyo N,zyn N]
def zuw:SL PG Tryz.f24.ntmps (Y0 Tryz.f24):=pz (zk2 N) [] 53 ⟨[2,3,4,13,14],(.cons (.ptr 2000000 0) (.cons (.ptr 2000001 0) (.cons (.ptr 2000002 0) (.cons (.int .u8) .bool)))),[(2000000,[2], .boxV Y2),(2000001,[3], .boxV y9),(2000002,[4], .boxC [.nils, .int .i64 0, .int .i64 0, .int .i64 0, .nils, .int .i64 0, .int .i64 0, .int .i64 0, .nils])],[]⟩ (1,⟨[4],(.ptr 2000000 0),[(2000000,[4], .boxV Y2)],[]⟩) [(0,⟨[2,3,4],y1u,[(2000000,[2], .boxV Y2),(2000001,[3], .boxV y9),(2000002,[4], .boxC [.nils, .int .i64 0, .int .i64 0, .int .i64 0, .nils, .int .i64 0, .int .i64 0, .int .i64 0, .nils])],[]⟩)] (fun v=>z0f N v.1.2.2.2.1 v.1.2.2.2.2 v.2.1 v.2.2.1) (by kernel_rfl)
def zux:SL PG Tryz.f24.ntmps (Y0 Tryz.f24):=pz (zk2 N) [] 7 ⟨[2,3,4],y1u,[(2000000,[2], .boxV Y2),(2000001,[3], .boxV y9),(2000002,[4], .boxC [.nils, .int .i64 0, .int .i64 0, .int .i64 0, .nils, .int .i64 0, .int .i64 0, .int .i64 0, .nils])],[]⟩ (1,⟨[4],(.ptr 2000000 0),[(2000000,[4], .boxV Y2)],[]⟩) [] (fun v=>z2o N v.2.1 v.2.2.1) (by kernel_rfl)
def y3j:SC PG:=fz (zk2 N) Tryz.func24 [zuw N,zux N] (.cons (.val Y2) (.val y9)) (.val Y2) [] (fun v=>zkk N v.1 v.2) (by kernel_rfl)
def zta:SE PG:=E0 [] [] [zzj N,zsq N,y3j N]
def zuz:SL PG Tryz.f34.ntmps (Y0 Tryz.f34):=lz N (zta N) [] 58 ⟨[1,4,5,7],(.cons (.list y9) Sh8_),[(2000000,[4], .boxC [.nils, .int .i64 0, .int .i64 0, .int .i64 0, .nils, .int .i64 0, .int .i64 0, .int .i64 0, .nils]),(2000001,[5], .boxV Y2)],[]⟩ (2,⟨[4,5],Sh3_,[(2000000,[4], .boxC [.nils, .int .i64 0, .int .i64 0, .int .i64 0, .nils, .int .i64 0, .int .i64 0, .int .i64 0, .nils]),(2000001,[5], .boxV Y2)],[]⟩) [] (z9a N N) (z5m N) (fun f v=>f v.1.1 v.1.2.2.2 v.2.2.1) (fun r b0 b1 b2=>r ((b0,((),((),b1))),((),(b2,())))) rfl (fun _=>rfl) (fun _ _=>rfl) (by kernel_rfl)
def y3m:SC PG:=fz (zta N) Tryz.func34 [zuz N] (.cons (.int .u8) (.list y9)) (.val Y2) [] (fun v=>zkl N v.1 v.2) (by kernel_rfl)
def y3e:SC PG:=fz (E0 [] [] [zso N]) Tryz.func36 [] (.val zr8) (.val Q4) [] (fun v=>zkj N v) (by kernel_rfl)
def y3d:SC PG:=fz (E0 [] [] [y3m N,y3e N,zsn N,zoh N]) Tryz.func12 [] (.val zai) (.val zay) [] (fun v=>zki N v) (by kernel_rfl)
def zcu:SE PG:=E0 [] [] [zz2 N,y3d N,zlr N,zol N,zoe N]
def zhn:SL PG Tryz.f6.ntmps (Y0 Tryz.f6):=pz (zcu N) [] 1023 ⟨[4], .bool,[],[]⟩ (1,⟨[4], .bool,[],[]⟩) [] (fun v=>W5 N v.1) (by kernel_rfl)
def zbd:SC PG:=fz (zcu N) Tryz.func6 [zhn N] (.cons (.val zai) (.int .i16)) .bool [] (fun v=>z5o N v.1 v.2) (by kernel_rfl)
theorem zhm:z5r PG 6 (fun vs=>(zbd N).c.run vs some):=(zbd N).h
end
end Go.Proofs.YtljffhpbdmkplaaGreat
