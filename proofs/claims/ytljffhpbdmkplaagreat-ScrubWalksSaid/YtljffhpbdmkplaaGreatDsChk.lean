/- Printed by a program of the session's: what the program's functions compute, and that they do. -/
import Derived.Test.YtljffhpbdmkplaaGreatDsPure
import Derived.Test.YtljffhpbdmkplaaGreatProg
import Derived.KernelRfl
set_option linter.all false
namespace Go.Proofs.YtljffhpbdmkplaaGreat
open Go Go.Dv Ds
set_option maxRecDepth 100000
noncomputable section
abbrev PG:=Tryz.prog
abbrev Sh0_:Sh:=(.cons (.int .i64) (.cons (.int .i64) (.cons (.list (.list (.int .u8))) (.cons (.list J6) (.cons (.list .bool) (.cons (.list (.int .i64)) (.cons (.int .i64) (.cons (.int .i64) (.cons (.int .i64) (.cons (.int .i64) (.cons (.list (.int .i64)) (.cons (.list (.int .u64)) (.list (.int .i64))))))))))))))
abbrev Sh1_:Sh:=(.cons (.int .i64) (.cons (.list (.list (.int .u8))) (.cons (.list J6) (.cons (.list .bool) (.cons (.list (.int .i64)) (.cons (.int .i64) (.cons (.int .i64) (.cons (.int .i64) (.cons (.int .i64) (.cons (.own 2000001) (.cons (.own 2000002) (.list (.int .i64)))))))))))))
abbrev Sh2_:Sh:=(.cons (.ptr 2000000 0) (.ptr 2000001 0))
abbrev Sh3_:Sh:=(.cons (.ptr 5000000 0) (.cons (.ptr 5000001 0) (.cons (.ptr 5000003 0) (.cons (.ptr 5000004 0) (.ptr 5000005 0)))))
abbrev Sh4_:Sh:=(.cons (.ptr 2000000 0) (.int .i64))
abbrev Sh5_:Sh:=(.cons (.ptr 2000000 0) (.cons (.ptr 2000001 0) (.cons (.ptr 2000002 0) (.int .i64))))
abbrev Sh6_:Sh:=(.cons (.ptr 2000000 0) (.cons (.own 2000001) (.int .i64)))
abbrev Sh7_:Sh:=(.cons (.ptr 2000000 0) (.cons (.ptr 2000003 0) (.cons (.ptr 2000004 0) (.cons (.ptr 2000005 0) (.cons (.own 2000006) (.int .i64))))))
abbrev Sh8_:Sh:=(.cons (.ptr 2000000 0) (.cons (.ptr 2000001 0) (.int .i64)))
abbrev Sh9_:Sh:=(.cons (.own 2000000) (.int .i64))
abbrev y38:Sh:=(.cons (.ptr 2000000 0) (.cons (.ptr 2000001 0) (.ptr 2000002 0)))
abbrev zmd:Sh:=(.cons (.int .i64) (.int .i64))
abbrev ymp:Sh:=(.cons (.ptr 2000000 0) (.cons (.ptr 2000003 0) (.cons (.ptr 2000004 0) (.cons (.ptr 2000005 0) (.cons (.own 2000006) (.cons (.int .i64) (.cons (.int .i64) (.int .u64))))))))
abbrev yem:Sh:=(.cons (.ptr 2000000 0) (.cons (.ptr 2000001 0) (.cons (.own 2000002) (.int .i64))))
abbrev yj5:Sh:=(.cons (.ptr 2000000 0) (.cons (.ptr 2000001 0) (.cons (.ptr 2000002 0) (.cons (.own 2000003) (.int .i64)))))
abbrev y9n:Sh:=(.cons (.ptr 5000001 0) (.cons (.ptr 5000002 0) (.ptr 5000004 0)))
abbrev ypb:Sh:=(.agg (.cons (.int .i64) (.cons (.list (.list (.int .u8))) (.cons (.list J6) (.cons (.list .bool) (.cons (.list (.int .i64)) (.cons (.int .i64) (.cons (.int .i64) (.cons (.int .i64) (.cons (.int .i64) (.cons (.own 5000000) (.cons (.own 5000001) (.list (.int .i64))))))))))))))
abbrev yj4:Sh:=(.cons (.ptr 2000000 0) (.cons (.own 2000001) (.cons .bool (.int .i64))))
abbrev yel:Sh:=(.cons (.list (.int .i64)) (.cons (.own 2000004) Sh0_))
abbrev ypa:Sh:=(.cons (.list Y8) (.cons (.int .i64) (.cons (.int .i64) (.cons (.int .i64) (.cons (.own 2000004) (.cons (.int .i64) (.cons (.int .i64) (.cons (.int .i64) (.list Z8)))))))))
abbrev y9m:Sh:=(.cons (.ptr 5000001 0) (.ptr 5000002 0))
abbrev y5z:Sh:=(.cons (.own 2000001) (.int .i64))
abbrev y9l:Sh:=(.cons (.ptr 2000000 0) (.own 2000001))
abbrev yj3:Sh:=(.cons (.own 2000001) (.cons (.own 2000002) (.int .i64)))
abbrev yj2:Sh:=(.cons (.own 2000002) (.cons (.own 2000003) (.int .i64)))
abbrev yp9:Sh:=(.cons (.list (.int .i64)) (.cons (.ptr 2000000 0) (.cons (.ptr 2000001 0) (.cons (.ptr 2000002 0) (.cons (.int .i64) (.cons (.ptr 2000003 0) (.int .i64)))))))
abbrev yj1:Sh:=(.cons (.int .i64) (.cons (.int .i64) (.ptr 2000000 0)))
abbrev yj0:Sh:=(.cons (.list (.int .i64)) (.cons (.own 2000003) Sh0_))
abbrev yp8:Sh:=(.cons (.own 2000001) (.cons (.own 2000002) (.cons (.own 2000003) (.cons (.own 2000004) (.cons (.own 2000005) (.cons .str (.cons .str (.int .i64))))))))
abbrev ymo:Sh:=(.cons .bool (.cons (.ptr 2000000 0) (.cons (.ptr 2000001 0) zmd)))
abbrev ymn:Sh:=(.cons (.ptr 2000000 0) (.cons (.ptr 2000001 0) (.own 2000002)))
abbrev yek:Sh:=(.cons (.own 2000004) (.int .i64))
abbrev ymm:Sh:=(.cons (.own 2000002) (.cons (.own 2000003) (.own 2000004)))
abbrev yml:Sh:=(.cons (.list Y2) (.cons (.list Z2) Sh9_))
instance :LTab:=⟨fun i=>bif Nat.beq i 0 then⟨#[27,28],[5,8],cA (Z9 Tryz.f40) 500,cA (Z9 Tryz.f40) 501,66⟩else bif Nat.beq i 1 then⟨#[15,16],[3,4,5],cA (Z9 Tryz.f97) 116,cA (Z9 Tryz.f97) 117,33⟩else⟨#[],[], .skip, .skip,0⟩⟩
def tyRows:List (Nat×TI):=[
 (3,⟨.int .i64,1,8,[.int .i64],some (.int .i64)⟩),
 (4,⟨.bool,1,1,[.bool],some .bool⟩),
 (5,⟨.int .u8,1,1,[.int .u8],some (.int .u8)⟩),
 (9,⟨.str,1,16,[.str],some .str⟩),
 (22,⟨.slice 85,1,24,[.slice],some (.list v7)⟩),
 (23,⟨.arr 3 5,3,3,[.int .u8, .int .u8, .int .u8],some zsf⟩),
 (25,⟨.struct [(0,5),(1,22),(2,23)],5,40,[.int .u8, .slice, .int .u8, .int .u8, .int .u8],some zbd⟩),
 (26,⟨.slice 59,1,24,[.slice],some (.list z59)⟩),
 (27,⟨.slice 3,1,24,[.slice],some (.list (.int .i64))⟩),
 (29,⟨.struct [(0,27),(1,27),(2,3)],3,56,[.slice, .slice, .int .i64],some Q2⟩),
 (31,⟨.slice 71,1,24,[.slice],some (.list (.list (.int .u8)))⟩),
 (32,⟨.slice 122,1,24,[.slice],some (.list J6)⟩),
 (34,⟨.struct [(0,3),(1,31),(2,32)],3,56,[.int .i64, .slice, .slice],some Q5⟩),
 (35,⟨.slice 4,1,24,[.slice],some (.list .bool)⟩),
 (37,⟨.struct [(0,35),(1,27),(2,3)],3,56,[.slice, .slice, .int .i64],some Q1⟩),
 (38,⟨.slice 103,1,24,[.slice],some (.list (.int .u64))⟩),
 (40,⟨.struct [(0,34),(3,37),(6,3),(7,3),(8,3),(9,27),(10,38),(11,27)],12,208,[.int .i64, .slice, .slice, .slice, .slice, .int .i64, .int .i64, .int .i64, .int .i64, .slice, .slice, .slice],some Y9⟩),
 (41,⟨.slice 101,1,24,[.slice],some (.list Y8)⟩),
 (43,⟨.struct [(0,41)],1,24,[.slice],some (.list Y8)⟩),
 (45,⟨.struct [(0,3),(1,3),(2,3)],3,24,[.int .i64, .int .i64, .int .i64],some z36⟩),
 (46,⟨.slice 116,1,24,[.slice],some (.list z6h)⟩),
 (47,⟨.slice 159,1,24,[.slice],some (.list Z8)⟩),
 (49,⟨.struct [(0,43),(1,45),(4,46),(5,3),(6,3),(7,3),(8,47)],9,120,[.slice, .int .i64, .int .i64, .int .i64, .slice, .int .i64, .int .i64, .int .i64, .slice],some Y1⟩),
 (50,⟨.int .i64,1,8,[.int .i64],some (.int .i64)⟩),
 (52,⟨.struct [(0,40),(12,49),(21,50)],22,336,[.int .i64, .slice, .slice, .slice, .slice, .int .i64, .int .i64, .int .i64, .int .i64, .slice, .slice, .slice, .slice, .int .i64, .int .i64, .int .i64, .slice, .int .i64, .int .i64, .int .i64, .slice, .int .i64],some z8n⟩),
 (57,⟨.int .u16,1,2,[.int .u16],some (.int .u16)⟩),
 (59,⟨.struct [(0,5),(1,57),(2,5)],3,6,[.int .u8, .int .u16, .int .u8],some z59⟩),
 (63,⟨.struct [(0,29),(3,50)],4,64,[.slice, .slice, .int .i64, .int .i64],some zv3⟩),
 (71,⟨.slice 5,1,24,[.slice],some (.list (.int .u8))⟩),
 (83,⟨.slice 187,1,24,[.slice],some (.list v8)⟩),
 (85,⟨.struct [(0,5),(1,5),(2,83)],3,32,[.int .u8, .int .u8, .slice],some v7⟩),
 (95,⟨.slice 257,1,24,[.slice],some (.list Y2)⟩),
 (96,⟨.slice 9,1,24,[.slice],some (.list .str)⟩),
 (97,⟨.slice 262,1,24,[.slice],some (.list J1)⟩),
 (99,⟨.struct [(0,95),(1,96),(2,27),(3,97),(4,47)],5,120,[.slice, .slice, .slice, .slice, .slice],some Y0⟩),
 (101,⟨.struct [(0,4),(1,4),(2,3),(3,99)],8,136,[.bool, .bool, .int .i64, .slice, .slice, .slice, .slice, .slice],some Y8⟩),
 (103,⟨.int .u64,1,8,[.int .u64],some (.int .u64)⟩),
 (109,⟨.struct [(0,40),(12,50)],13,216,[.int .i64, .slice, .slice, .slice, .slice, .int .i64, .int .i64, .int .i64, .int .i64, .slice, .slice, .slice, .int .i64],some zdm⟩),
 (114,⟨.struct [(0,3),(1,3),(2,5)],3,24,[.int .i64, .int .i64, .int .u8],some zv2⟩),
 (116,⟨.struct [(0,3),(1,3),(2,3),(3,9),(4,47)],5,64,[.int .i64, .int .i64, .int .i64, .str, .slice],some z6h⟩),
 (122,⟨.struct [(0,4),(1,3),(2,71)],3,40,[.bool, .int .i64, .slice],some J6⟩),
 (129,⟨.struct [(0,49),(9,3),(10,50)],11,136,[.slice, .int .i64, .int .i64, .int .i64, .slice, .int .i64, .int .i64, .int .i64, .slice, .int .i64, .int .i64],some zee⟩),
 (157,⟨.struct [(0,9),(1,9)],2,32,[.str, .str],some Z2⟩),
 (159,⟨.struct [(0,3),(1,9),(2,9),(3,157),(5,9),(6,9),(7,3)],8,112,[.int .i64, .str, .str, .str, .str, .str, .str, .int .i64],some Z8⟩),
 (165,⟨.func,1,8,[.func],none⟩),
 (167,⟨.ptr,1,8,[.ptr],none⟩),
 (169,⟨.struct [(0,29),(3,40)],15,264,[.slice, .slice, .int .i64, .int .i64, .slice, .slice, .slice, .slice, .int .i64, .int .i64, .int .i64, .int .i64, .slice, .slice, .slice],some y81⟩),
 (176,⟨.struct [(0,43),(1,3),(2,45)],5,56,[.slice, .int .i64, .int .i64, .int .i64, .int .i64],some X9⟩),
 (181,⟨.struct [(0,176),(5,3),(6,50)],7,72,[.slice, .int .i64, .int .i64, .int .i64, .int .i64, .int .i64, .int .i64],some z8o⟩),
 (187,⟨.arr 6 5,6,6,[.int .u8, .int .u8, .int .u8, .int .u8, .int .u8, .int .u8],some v8⟩),
 (240,⟨.int .u64,1,8,[.int .u64],some (.int .u64)⟩),
 (244,⟨.struct [(0,43),(1,3),(2,50)],3,40,[.slice, .int .i64, .int .i64],some zjv⟩),
 (247,⟨.slice 157,1,24,[.slice],some (.list Z2)⟩),
 (249,⟨.struct [(0,47),(1,247)],2,48,[.slice, .slice],some znq⟩),
 (257,⟨.struct [(0,9),(1,9),(2,3)],3,40,[.str, .str, .int .i64],some Y2⟩),
 (260,⟨.struct [(0,3),(1,3)],2,16,[.int .i64, .int .i64],some z6g⟩),
 (262,⟨.struct [(0,260),(2,260)],4,32,[.int .i64, .int .i64, .int .i64, .int .i64],some J1⟩),
 (300,⟨.struct [(0,37),(3,3),(4,50)],5,72,[.slice, .slice, .int .i64, .int .i64, .int .i64],some zjs⟩),
 (318,⟨.struct [(0,27),(1,4)],2,32,[.slice, .bool],some zg6⟩),
 (346,⟨.arr 4 3,4,32,[.int .i64, .int .i64, .int .i64, .int .i64],some yd0⟩),
 (356,⟨.struct [(0,99),(5,157),(7,50)],8,160,[.slice, .slice, .slice, .slice, .slice, .str, .str, .int .i64],some zl9⟩),
 (360,⟨.slice 99,1,24,[.slice],some (.list Y0)⟩),
 (362,⟨.struct [(0,360),(1,96),(2,47)],3,72,[.slice, .slice, .slice],some zju⟩),
 (365,⟨.struct [(0,360),(1,96),(2,47)],3,72,[.slice, .slice, .slice],some ze6⟩),
 (368,⟨.struct [(0,176),(5,3),(6,50)],7,72,[.slice, .int .i64, .int .i64, .int .i64, .int .i64, .int .i64, .int .i64],some z7a⟩),
 (399,⟨.struct [(0,3),(1,3)],2,16,[.int .i64, .int .i64],some zha⟩),
 (406,⟨.slice 95,1,24,[.slice],some (.list (.list Y2))⟩),
 (410,⟨.struct [(0,47),(1,47),(2,247)],3,72,[.slice, .slice, .slice],some zo7⟩),
 (415,⟨.struct [(0,43),(1,27),(2,50)],3,56,[.slice, .slice, .int .i64],some zjt⟩),
 (433,⟨.struct [(0,9),(1,3),(2,3),(3,9)],4,48,[.str, .int .i64, .int .i64, .str],some z1e⟩)]
theorem y62:(tyRows.all fun r=>tiOk PG r.1 r.2)=true:=by kernel_rfl
theorem mixed:PG.follows .mixedOrders=true:=by kernel_rfl
def eqRows:List (Nat×List Nat):=[(159,[0,2,2,2,2,2,2,0])]
theorem yhv:(eqRows.all fun r=>eqB PG r.1 r.2)=true:=by kernel_rfl
def yby:List (Nat×String×Nat):=[]
theorem ya9:y9o PG yby:=trivial
def E0(st:List (Nat×List Nat))(pre:List Nat)(tc:List (SC PG))(tm:List (SM PG):=[])(tr:List (SR PG):=[]):SE PG:=
 ⟨yor tyRows eqRows yby st pre (tabC tc) (tabM tm) (tabR tr),yjw y62 yhv ya9 (yfb tc) (yfa tm) (yf9 tr),mixed⟩
variable (N:Nat)
def y10:SC PG:=fz (E0 [] [] []) Tryz.func69 [] (.val z36) .bool [] (fun v=>zdv N v) (by kernel_rfl)
def z9w:SC PG:=fz (E0 [] [] []) Tryz.func66 [] (.cons (.val (.list Y8)) (.int .i64)) .bool [] (fun v=>z6y N v.1 v.2) (by kernel_rfl)
def ze9:SC PG:=fz (E0 [] [] []) Tryz.func151 [] (.val (.list Y8)) (.agg (.fresh Y8)) [] (fun v=>z9d N v) (by kernel_rfl)
def zj1:SE PG:=E0 [(K8,[2000002])] [] [z9w N,ze9 N]
def zzo:SL PG Tryz.f142.ntmps (Z9 Tryz.f142):=lz N (zj1 N) [] 4090 ⟨[3,4,6,7,8],(.cons (.ptr 2000000 0) (.cons (.ptr 2000001 0) (.cons (.int .i64) (.cons (.ptr 2000002 0) (.int .i64))))),[(2000000,[3], .boxV Y0),(2000001,[4], .boxC [.nils, .int .i64 0, .int .i64 0]),(2000002,[7], .box (.own 2000003)),(2000003,[7,0], .sl Y8)],[]⟩ (6,⟨[4,6,7],(.cons (.ptr 2000000 0) (.cons (.int .i64) (.ptr 2000001 0))),[(2000000,[4], .boxC [.nils, .int .i64 0, .int .i64 0]),(2000001,[7], .box (.own 2000002)),(2000002,[7,0], .sl Y8)],[]⟩) [] (z52 N N) (z4r N) (fun f v=>f v.1.2.2.1 v.1.2.2.2.2 v.2.1 v.2.2.2.2.1) (fun r b0 b1 b2 b3=>r (((),((),(b0,((),b1)))),(b2,((),((),(b3,())))))) rfl (fun _=>rfl) (fun _ _=>rfl) (by kernel_rfl)
def zzp:SL PG Tryz.f142.ntmps (Z9 Tryz.f142):=lz N (zj1 N) [] 60 ⟨[2,3,4,6],Sh5_,[(2000000,[2], .box (.list Y8)),(2000001,[3], .boxV Y0),(2000002,[4], .boxC [.nils, .int .i64 0, .int .i64 0])],[]⟩ (4,⟨[2,3,4,6],Sh5_,[(2000000,[2], .box (.list Y8)),(2000001,[3], .boxV Y0),(2000002,[4], .boxC [.nils, .int .i64 0, .int .i64 0])],[]⟩) [] (z9e N N) (z4s N) (fun f v=>f v.1.2.2.2 v.2.1 v.2.2.1) (fun r b0 b1 b2=>r (((),((),((),b0))),(b1,(b2,((),()))))) rfl (fun _=>rfl) (fun _ _=>rfl) (by kernel_rfl)
def zzq:SL PG Tryz.f142.ntmps (Z9 Tryz.f142):=lz N (zj1 N) [] 26 ⟨[2,3,4,5],Sh5_,[(2000000,[2], .box (.list Y8)),(2000001,[3], .boxV Y0),(2000002,[4], .boxC [.nils, .int .i64 0, .int .i64 0])],[]⟩ (1,⟨[4],(.ptr 2000000 0),[(2000000,[4], .boxV zjv)],[]⟩) [(2,⟨[2,3,4],y38,[(2000000,[2], .box (.list Y8)),(2000001,[3], .boxV Y0),(2000002,[4], .boxC [.nils, .int .i64 0, .int .i64 0])],[]⟩)] (z9f N N) (z4t N) (fun f v=>f v.1.2.2.2 v.2.1 v.2.2.1) (fun r b0 b1 b2=>r (((),((),((),b0))),(b1,(b2,((),()))))) rfl (fun _=>rfl) (fun _ _=>rfl) (by kernel_rfl)
def zkv:SC PG:=fz (zj1 N) Tryz.func142 [zzq N,zzp N,zzo N] (.cons (.val (.list Y8)) (.val Y0)) (.val zjv) [] (fun v=>z60 N v.1 v.2) (by kernel_rfl)
def y7p:SC PG:=fz (E0 [] [] [y10 N,zkv N]) Tryz.func125 [] (.val z36) (.tup (.cons (.val X9) (.int .i64))) [] (fun v=>zxn N v) (by kernel_rfl)
def zu1:SC PG:=fz (E0 [] [] [y7p N]) Tryz.func73 [] (.val z36) (.tup (.cons (.val Y1) (.int .i64))) [] (fun v=>zkc N v) (by kernel_rfl)
def zul:SE PG:=E0 [] [] []
def zw9:SL PG Tryz.f92.ntmps (Z9 Tryz.f92):=lz N (zul) [] 26 ⟨[1,2,5],(.cons (.int .i64) Sh4_),[(2000000,[2], .boxV Y1)],[]⟩ (1,⟨[4],(.int .i64),[],[]⟩) [(2,⟨[], .nil,[],[]⟩)] (za3 N N) (z3c N) (fun f v=>f v.1.1 v.1.2.2 v.2.1) (fun r b0 b1 b2=>r ((b0,((),b1)),(b2,()))) rfl (fun _=>rfl) (fun _ _=>rfl) (by kernel_rfl)
def zja:SC PG:=fz (zul) Tryz.func92 [zw9 N] (.cons (.val Y1) (.int .i64)) (.int .i64) [] (fun v=>zcu N v.1 v.2) (by kernel_rfl)
def y4v:SC PG:=fz (E0 [] [] [zja N]) Tryz.func85 [] (.cons (.val Y1) (.int .i64)) (.tup (.cons (.val X9) (.int .i64))) [] (fun v=>zrx N v.1 v.2) (by kernel_rfl)
def y9z:SC PG:=fz (E0 [] [] []) Tryz.func179 [] (.cons (.int .i64) (.cons (.int .i64) (.int .i64))) .bool [] (fun v=>zi0 N v.1 v.2.1 v.2.2) (by kernel_rfl)
def z3t:SC PG:=fz (E0 [] [] []) Tryz.func235 [] (.val Z2) .bool [] (fun v=>z0a N v) (by kernel_rfl)
def y5g:SC PG:=fz (E0 [] [] [z3t N]) Tryz.func180 [] (.val Z2) .bool [] (fun v=>zhm N v) (by kernel_rfl)
def zao:SC PG:=fz (E0 [] [] []) Tryz.func149 [] (.cons .str .str) .bool [] (fun v=>j9 N v.1 v.2) (by kernel_rfl)
def zqe:SE PG:=E0 [] [] [y9z N,y5g N,zao N]
def zte:SL PG Tryz.f120.ntmps (Z9 Tryz.f120):=pz (zqe N) [] 7551 ⟨[1,4,14,66],(.cons (.ptr 2000000 0) (.cons .bool (.cons (.int .i64) .bool))),[(2000000,[1], .boxV Z8)],[]⟩ (1,⟨[2], .bool,[],[]⟩) [(0,⟨[], .nil,[],[]⟩)] (fun v=>z8d N v.1.2.1 v.1.2.2.1 v.1.2.2.2 v.2.1) (by kernel_rfl)
def zgt:SC PG:=fz (zqe N) Tryz.func120 [zte N] (.val Z8) .bool [] (fun v=>zb8 N v) (by kernel_rfl)
def zfk:SC PG:=fz (E0 [] [] [z9w N]) Tryz.func140 [] (.cons (.val (.list Y8)) (.int .i64)) (.tup (.cons (.val Y0) (.int .i64))) [] (fun v=>z9o N v.1 v.2) (by kernel_rfl)
def zgz:SE PG:=E0 [] [] []
def zrd:SL PG Tryz.f202.ntmps (Z9 Tryz.f202):=pz (zgz) [] 1865 ⟨[0,3,5,6,7],(.cons (.list Y2) yj4),[(2000000,[3], .boxV Y2),(2000001,[5], .sl Y2)],[]⟩ (0,⟨[0,3,5,6,7],(.cons (.list Y2) yj4),[(2000000,[3], .boxV Y2),(2000001,[5], .sl Y2)],[]⟩) [] (fun v=>z1j N v.1.1 v.1.2.2.2.1 v.1.2.2.2.2 v.2.1 v.2.2.1) (by kernel_rfl)
def zre:SL PG Tryz.f202.ntmps (Z9 Tryz.f202):=lz N (zgz) [zrd N] 58 ⟨[0,3,5,6,7],(.cons (.list Y2) yj4),[(2000000,[3], .boxV Y2),(2000001,[5], .sl Y2)],[]⟩ (2,⟨[3,5,6],(.cons (.ptr 2000000 0) (.cons (.own 2000001) .bool)),[(2000000,[3], .boxV Y2),(2000001,[5], .sl Y2)],[]⟩) [] (z1k N N) (z0z N) (fun f v=>f v.1.1 v.1.2.2.2.1 v.1.2.2.2.2 v.2.1 v.2.2.1) (fun r b0 b1 b2 b3 b4=>r ((b0,((),((),(b1,b2)))),(b3,(b4,())))) rfl (fun _=>rfl) (fun _ _=>rfl) (by kernel_rfl)
def y09:SC PG:=fz (zgz) Tryz.func202 [zre N] (.cons (.list Y2) (.val Y2)) (.fresh Y2) [] (fun v=>z9g N v.1 v.2) (by kernel_rfl)
def zfl:SC PG:=fz (E0 [] [] []) Tryz.func148 [] .str (.val Z2) [] (fun v=>z9p N v) (by kernel_rfl)
def zkw:SC PG:=fz (E0 [] [] []) Tryz.func204 [] (.cons (.val Z2) .str) .bool [] (fun v=>zbi N v.1 v.2) (by kernel_rfl)
def y2s:SE PG:=E0 [] [] [zkw N]
def y0m:SL PG Tryz.f250.ntmps (Z9 Tryz.f250):=lz N (y2s N) [] 26 ⟨[0,1,5],(.cons (.list Z2) (.cons .str (.int .i64))),[],[]⟩ (1,⟨[4], .bool,[],[]⟩) [(2,⟨[], .nil,[],[]⟩)] (ze1 N N) (z5m N) (fun f v=>f v.1.1 v.1.2.1 v.1.2.2) (fun r b0 b1 b2=>r ((b0,(b1,b2)),())) rfl (fun _=>rfl) (fun _ _=>rfl) (by kernel_rfl)
def zyh:SC PG:=fz (y2s N) Tryz.func250 [y0m N] (.cons (.list Z2) .str) .bool [] (fun v=>zol N v.1 v.2) (by kernel_rfl)
def zm7:SE PG:=E0 [] [] [zyh N]
def zof:SL PG Tryz.f203.ntmps (Z9 Tryz.f203):=lz N (zm7 N) [] 58 ⟨[0,1,5,6],yml,[(2000000,[5], .sl Y2)],[]⟩ (2,⟨[5],(.own 2000000),[(2000000,[5], .sl Y2)],[]⟩) [] (z5l N N) (z09 N) (fun f v=>f v.1.1 v.1.2.1 v.1.2.2.2 v.2.1) (fun r b0 b1 b2 b3=>r ((b0,(b1,((),b2))),(b3,()))) rfl (fun _=>rfl) (fun _ _=>rfl) (by kernel_rfl)
def zx2:SC PG:=fz (zm7 N) Tryz.func203 [zof N] (.cons (.list Y2) (.list Z2)) (.fresh Y2) [] (fun v=>z5b N v.1 v.2) (by kernel_rfl)
def znm:SE PG:=E0 [] [] []
def zrg:SL PG Tryz.f146.ntmps (Z9 Tryz.f146):=lz N (znm) [] 28 ⟨[0,2,3],(.cons .str Sh4_),[(2000000,[2], .boxC [.str [], .str []])],[]⟩ (2,⟨[0,2,3],(.cons .str Sh4_),[(2000000,[2], .boxC [.str [], .str []])],[]⟩) [] (G1 N N) (z4g N) (fun f v=>f v.1.1 v.1.2.2) (fun r b0 b1=>r ((b0,((),b1)),((),()))) rfl (fun _=>rfl) (fun _ _=>rfl) (by kernel_rfl)
def z00:SC PG:=fz (znm) Tryz.func146 [zrg N] .str (.val Z2) [] (fun v=>U2 N v) (by kernel_rfl)
def znj:SE PG:=E0 [] [] [zyh N]
def zrb:SL PG Tryz.f205.ntmps (Z9 Tryz.f205):=lz N (znj N) [] 58 ⟨[0,1,5,6],yml,[(2000000,[5], .sl Y2)],[]⟩ (2,⟨[5],(.own 2000000),[(2000000,[5], .sl Y2)],[]⟩) [] (z71 N N) (z0w N) (fun f v=>f v.1.1 v.1.2.1 v.1.2.2.2 v.2.1) (fun r b0 b1 b2 b3=>r ((b0,(b1,((),b2))),(b3,()))) rfl (fun _=>rfl) (fun _ _=>rfl) (by kernel_rfl)
def y07:SC PG:=fz (znj N) Tryz.func205 [zrb N] (.cons (.list Y2) (.list Z2)) (.fresh Y2) [] (fun v=>zfu N v.1 v.2) (by kernel_rfl)
def y1h:SC PG:=fz (E0 [] [] [zao N]) Tryz.func206 [] (.cons .str (.cons .str .str)) (.tup (.cons .str .bool)) [] (fun v=>zit N v.1 v.2.1 v.2.2) (by kernel_rfl)
def zjn:SE PG:=E0 [] [] [y09 N,zfl N,zx2 N,zkw N,z00 N,y07 N,y1h N]
def zti:SL PG Tryz.f141.ntmps (Z9 Tryz.f141):=lz N (zjn N) [] 110570 ⟨[3,5,6],Sh6_,[(2000000,[3], .boxV Z8),(2000001,[5], .sl Y2)],[]⟩ (3,⟨[5],(.own 2000000),[(2000000,[5], .sl Y2)],[]⟩) [] (z8g N N) (z2e N) (fun f v=>f v.1.2.2 v.2.1 v.2.2.1) (fun r b0 b1 b2=>r (((),((),b0)),(b1,(b2,())))) rfl (fun _=>rfl) (fun _ _=>rfl) (by kernel_rfl)
def ztj:SL PG Tryz.f141.ntmps (Z9 Tryz.f141):=lz N (zjn N) [] 250 ⟨[3,7,8,9],(.cons (.ptr 2000000 0) yj3),[(2000000,[3], .boxV Z8),(2000001,[7], .sl Y2),(2000002,[8], .sl Y2)],[]⟩ (5,⟨[7],(.own 2000000),[(2000000,[7], .sl Y2)],[]⟩) [] (z3z N N) (z2f N) (fun f v=>f v.1.2.2.2 v.2.1 v.2.2.1 v.2.2.2.1) (fun r b0 b1 b2 b3=>r (((),((),((),b0))),(b1,(b2,(b3,()))))) rfl (fun _=>rfl) (fun _ _=>rfl) (by kernel_rfl)
def zn3:SC PG:=fz (zjn N) Tryz.func141 [zti N,ztj N] (.cons (.list Y2) (.val Z8)) (.fresh Y2) [] (fun v=>z35 N v.1 v.2) (by kernel_rfl)
def zuq:SE PG:=E0 [(K8,[2000002]),(6,[2000003])] [] [z9w N,ze9 N]
def zwi:SL PG Tryz.f93.ntmps (Z9 Tryz.f93):=lz N (zuq N) [] 60 ⟨[4,6,7],(.cons (.ptr 2000000 0) (.cons (.ptr 2000001 0) (.list (.int .i64)))),[(2000000,[4], .boxC [.nils]),(2000001,[6], .box (.own 2000002)),(2000002,[6,0], .sl Y8)],[17,56]⟩ (2,⟨[4,6],Sh2_,[(2000000,[4], .boxC [.nils]),(2000001,[6], .box (.own 2000002)),(2000002,[6,0], .sl Y8)],[]⟩) [] (z7f N N) (z3j N) (fun f v=>f v.1.2.2 v.2.2.2.1) (fun r b0 b1=>r (((),((),b0)),((),((),(b1,()))))) rfl (fun _=>rfl) (fun _ _=>rfl) (by kernel_rfl)
def zck:SC PG:=fz (zuq N) Tryz.func93 [zwi N] (.cons (.val (.list Y8)) (.int .i64)) (.tup (.cons (.val (.list Y8)) (.int .i64))) [] (fun v=>z2r N v.1 v.2) (by kernel_rfl)
def y7q:SC PG:=fz (E0 [(10,[34,45])] [] [zgt N,zfk N,zn3 N,zkv N,zck N]) Tryz.func86 [] (.cons (.val X9) (.val Z8)) (.tup (.cons (.val X9) (.int .i64))) [] (fun v=>zke N v.1 v.2) (by kernel_rfl)
def zjc:SC PG:=fz (E0 [] [] []) Tryz.func261 [] (.cons .str .str) .bool [] (fun v=>zde N v.1 v.2) (by kernel_rfl)
def y5i:SC PG:=fz (E0 [] [] []) Tryz.func300 [] .nil (.val Z2) [] (fun _=>zlx N) (by kernel_rfl)
def z9x:SC PG:=fz (E0 [] [] [zjc N,z3t N,y5i N]) Tryz.func262 [] (.cons (.val Z2) (.val Z2)) (.val Z2) [] (fun v=>z2s N v.1 v.2) (by kernel_rfl)
def zqi:SE PG:=E0 [] [] [z9x N]
def ztm:SL PG Tryz.f281.ntmps (Z9 Tryz.f281):=lz N (zqi N) [] 58 ⟨[1,2,5,6,7],(.cons (.list .str) (.cons (.ptr 2000000 0) (.cons (.own 2000001) (.cons .str (.int .i64))))),[(2000000,[2], .boxV Z2),(2000001,[5], .sl Z2)],[]⟩ (2,⟨[2,5,6],(.cons (.ptr 2000000 0) (.cons (.own 2000001) .str)),[(2000000,[2], .boxV Z2),(2000001,[5], .sl Z2)],[]⟩) [] (z8j N N) (z2h N) (fun f v=>f v.1.1 v.1.2.2.2.1 v.1.2.2.2.2 v.2.1 v.2.2.1) (fun r b0 b1 b2 b3 b4=>r ((b0,((),((),(b1,b2)))),(b3,(b4,())))) rfl (fun _=>rfl) (fun _ _=>rfl) (by kernel_rfl)
def zn4:SC PG:=fz (zqi N) Tryz.func281 [ztm N] (.cons (.val Z2) (.list .str)) (.fresh Z2) [] (fun v=>ze0 N v.1 v.2) (by kernel_rfl)
def zmx:SC PG:=fz (E0 [] [] [zn4 N]) Tryz.func237 [] (.cons (.val Y0) (.val Z2)) (.fresh Z2) [] (fun v=>z8s N v.1 v.2) (by kernel_rfl)
def zl3:SE PG:=E0 [(K8,[2000001,2000002,2000003,2000004,2000005])] [] [zfk N,zmx N]
def zwc:SL PG Tryz.f251.ntmps (Z9 Tryz.f251):=pz (zl3 N) [] 489 ⟨[1,2,4,5,7,8],(.cons (.list (.int .i64)) (.cons (.ptr 2000000 0) (.cons (.ptr 2000001 0) (.cons (.ptr 2000002 0) (.cons (.ptr 2000003 0) (.int .i64)))))),[(2000000,[2], .boxV X9),(2000001,[4], .boxC [.nils, .nils, .nils, .nils, .nils, .str [], .str [], .int .i64 0]),(2000002,[5], .boxV Y0),(2000003,[7], .boxV Z2)],[]⟩ (1,⟨[4],(.ptr 2000000 0),[(2000000,[4], .box yp8),(2000001,[4,0], .sl Y2),(2000002,[4,1], .sl .str),(2000003,[4,2], .sl (.int .i64)),(2000004,[4,3], .sl J1),(2000005,[4,4], .sl Z8)],[]⟩) [(0,⟨[1,2,4,5,6,7,8],yp9,[(2000000,[2], .boxV X9),(2000001,[4], .boxC [.nils, .nils, .nils, .nils, .nils, .str [], .str [], .int .i64 0]),(2000002,[5], .boxV Y0),(2000003,[7], .boxV Z2)],[]⟩)] (fun v=>zje N v.1.1 v.1.2.2.2.2.2 v.2.1 v.2.2.2.1 v.2.2.2.2.1) (by kernel_rfl)
def zwd:SL PG Tryz.f251.ntmps (Z9 Tryz.f251):=lz N (zl3 N) [zwc N] 122 ⟨[1,2,4,5,6,7,8],yp9,[(2000000,[2], .boxV X9),(2000001,[4], .boxC [.nils, .nils, .nils, .nils, .nils, .str [], .str [], .int .i64 0]),(2000002,[5], .boxV Y0),(2000003,[7], .boxV Z2)],[]⟩ (1,⟨[4],(.ptr 2000000 0),[(2000000,[4], .box yp8),(2000001,[4,0], .sl Y2),(2000002,[4,1], .sl .str),(2000003,[4,2], .sl (.int .i64)),(2000004,[4,3], .sl J1),(2000005,[4,4], .sl Z8)],[]⟩) [(2,⟨[4,5,6,7],(.cons (.ptr 2000000 0) (.cons (.ptr 2000001 0) (.cons (.int .i64) (.ptr 2000002 0)))),[(2000000,[4], .boxC [.nils, .nils, .nils, .nils, .nils, .str [], .str [], .int .i64 0]),(2000001,[5], .boxV Y0),(2000002,[7], .boxV Z2)],[]⟩)] (za6 N N) (z3f N) (fun f v=>f v.1.1 v.1.2.2.2.2.1 v.1.2.2.2.2.2.2 v.2.1 v.2.2.2.1 v.2.2.2.2.1) (fun r b0 b1 b2 b3 b4 b5=>r ((b0,((),((),((),(b1,((),b2)))))),(b3,((),(b4,(b5,())))))) rfl (fun _=>rfl) (fun _ _=>rfl) (by kernel_rfl)
def z9v:SC PG:=fz (zl3 N) Tryz.func251 [zwd N] (.cons (.val X9) (.list (.int .i64))) (.val zl9) [] (fun v=>z8z N v.1 v.2) (by kernel_rfl)
def y5a:SC PG:=fz (E0 [] [] []) Tryz.func252 [] (.cons (.val Y0) (.val z36)) .bool [] (fun v=>zlt N v.1 v.2) (by kernel_rfl)
def zwy:SC PG:=fz (E0 [(K8,[12])] [] []) Tryz.func253 [] (.cons (.list (.int .i64)) (.int .i64)) (.list (.int .i64)) [] (fun v=>zcx N v.1 v.2) (by kernel_rfl)
def z5p(self:Y5->(List Int)->Bool->Option (K1)):Ctr:=zm9 (.cons (.val X9) (.cons (.list (.int .i64)) .bool)) (.val zg6) [] (fun v=>self v.1 v.2.1 v.2.2)
def zq7(self:Y5->(List Int)->Bool->Option (K1))(hs:z69 PG 207 fun xs=>(z5p self).run xs some):SE PG:=E0 [] [] [⟨207,z5p self,hs⟩,z9v N,y5a N,zwy N]
def zss(self:Y5->(List Int)->Bool->Option (K1))(hs:z69 PG 207 fun xs=>(z5p self).run xs some):SL PG Tryz.f207.ntmps (Z9 Tryz.f207):=lz N (zq7 N self hs) [] 250 ⟨[1,2,3,6,7,8],(.cons (.list (.int .i64)) (.cons .bool Sh5_)),[(2000000,[3], .boxV X9),(2000001,[6], .boxC [.nils, .bool false]),(2000002,[7], .boxV zl9)],[]⟩ (1,⟨[6],(.ptr 2000000 0),[(2000000,[6], .boxV zg6)],[]⟩) [(2,⟨[6],(.ptr 2000000 0),[(2000000,[6], .boxC [.nils, .bool false])],[]⟩)] (G0 N self N) (z1s N self) (fun f v=>f v.1.1 v.1.2.1 v.1.2.2.2.2.2 v.2.1 v.2.2.2.1) (fun r b0 b1 b2 b3 b4=>r ((b0,(b1,((),((),((),b2))))),(b3,((),(b4,()))))) rfl (fun _=>rfl) (fun _ _=>rfl) (by kernel_rfl)
def y1l(self:Y5->(List Int)->Bool->Option (K1))(hs:z69 PG 207 fun xs=>(z5p self).run xs some):SC PG:=fz (zq7 N self hs) Tryz.func207 [zss N self hs] (.cons (.val X9) (.cons (.list (.int .i64)) .bool)) (.val zg6) [] (fun v=>z5k N self v.1 v.2.1 v.2.2) (by kernel_rfl)
def y0x:SC PG:=recz (f:=207) z5p (fun _ _ _=>none) (z5k N) (y2v fun _=>rfl) (fun self hs=>(y1l N self hs).h) N
def zq8:SE PG:=E0 [] [] []
def zsv:SL PG Tryz.f292.ntmps (Z9 Tryz.f292):=lz N (zq8) [] 250 ⟨[0,5,6,7],(.cons (.int .i64) (.cons (.int .i64) Sh9_)),[(2000000,[6], .sl (.int .i64))],[]⟩ (2,⟨[6],(.own 2000000),[(2000000,[6], .sl (.int .i64))],[]⟩) [] (z81 N N) (z1t N) (fun f v=>f v.1.1 v.1.2.1 v.1.2.2.2 v.2.1) (fun r b0 b1 b2 b3=>r ((b0,(b1,((),b2))),(b3,()))) rfl (fun _=>rfl) (fun _ _=>rfl) (by kernel_rfl)
def zmw:SC PG:=fz (zq8) Tryz.func292 [zsv N] (.cons (.int .i64) (.int .i64)) (.fresh (.int .i64)) [] (fun v=>z56 N v.1 v.2) (by kernel_rfl)
def zne:SE PG:=E0 [] [] [zmw N]
def zr1:SL PG Tryz.f290.ntmps (Z9 Tryz.f290):=lz N (zne N) [] 122 ⟨[0,5,6,7,8],(.cons (.list Y2) (.cons (.own 2000000) (.cons (.int .i64) y5z))),[(2000000,[5], .sl (.list Y2)),(2000001,[7], .sl (.int .i64))],[]⟩ (2,⟨[5],(.own 2000000),[(2000000,[5], .sl (.list Y2))],[]⟩) [] (z6v N N) (z0p N) (fun f v=>f v.1.1 v.1.2.2.1 v.1.2.2.2.2 v.2.1 v.2.2.1) (fun r b0 b1 b2 b3 b4=>r ((b0,((),(b1,((),b2)))),(b3,(b4,())))) rfl (fun _=>rfl) (fun _ _=>rfl) (by kernel_rfl)
def y01:SC PG:=fz (zne N) Tryz.func290 [zr1 N] (.cons (.list Y2) (.int .i64)) (.fresh (.list Y2)) [] (fun v=>zfr N v.1 v.2) (by kernel_rfl)
def zuo:SE PG:=E0 [(K8,[17,2000002,2000003,2000004])] [] [y01 N]
def zwe:SL PG Tryz.f254.ntmps (Z9 Tryz.f254):=lz N (zuo N) [] 250 ⟨[4,5,6,7],(.cons (.ptr 2000000 0) (.cons (.own 2000001) (.cons (.ptr 2000002 0) (.int .i64)))),[(2000000,[4], .boxC [.nils, .nils, .nils]),(2000001,[5], .sl (.list Y2)),(2000002,[6], .box (.cons (.own 2000003) (.cons (.own 2000004) (.own 2000005)))),(2000003,[6,0], .sl Y0),(2000004,[6,1], .sl .str),(2000005,[6,2], .sl Z8)],[]⟩ (2,⟨[4,6],Sh2_,[(2000000,[4], .boxC [.nils, .nils, .nils]),(2000001,[6], .box ymm),(2000002,[6,0], .sl Y0),(2000003,[6,1], .sl .str),(2000004,[6,2], .sl Z8)],[]⟩) [] (za7 N N) (z3g N) (fun f v=>f v.1.2.2.2 v.2.2.1 v.2.2.2.2.1 v.2.2.2.2.2.1 v.2.2.2.2.2.2.1) (fun r b0 b1 b2 b3 b4=>r (((),((),((),b0))),((),(b1,(((),((),())),(b2,(b3,(b4,())))))))) rfl (fun _=>rfl) (fun _ _=>rfl) (by kernel_rfl)
def zpo:SC PG:=fz (zuo N) Tryz.func254 [zwe N] (.cons (.val Y0) (.val z36)) (.val zju) [] (fun v=>zcz N v.1 v.2) (by kernel_rfl)
def zz0:SE PG:=E0 [(K8,[2000001,2000002])] [] [zkv N]
def zzm:SL PG Tryz.f296.ntmps (Z9 Tryz.f296):=lz N (zz0 N) [] 58 ⟨[1,4,5,6],(.cons (.list Y0) Sh8_),[(2000000,[4], .boxC [.nils, .nils, .int .i64 0]),(2000001,[5], .box (.cons (.list Y8) (.cons (.own 2000002) (.int .i64)))),(2000002,[5,1], .sl (.int .i64))],[]⟩ (1,⟨[4],(.ptr 2000000 0),[(2000000,[4], .box yj3),(2000001,[4,0], .sl Y8),(2000002,[4,1], .sl (.int .i64))],[]⟩) [(2,⟨[4,5],Sh2_,[(2000000,[4], .boxC [.nils, .nils, .int .i64 0]),(2000001,[5], .box (.cons (.list Y8) (.cons (.own 2000002) (.int .i64)))),(2000002,[5,1], .sl (.int .i64))],[]⟩)] (z50 N N) (z4q N) (fun f v=>f v.1.1 v.1.2.2.2 v.2.2.1.1 v.2.2.1.2.2 v.2.2.2.1) (fun r b0 b1 b2 b3 b4=>r ((b0,((),((),b1))),((),((b2,((),b3)),(b4,()))))) rfl (fun _=>rfl) (fun _ _=>rfl) (by kernel_rfl)
def zu5:SC PG:=fz (zz0 N) Tryz.func296 [zzm N] (.cons (.val (.list Y8)) (.list Y0)) (.val zjt) [] (fun v=>zdo N v.1 v.2) (by kernel_rfl)
def zqj:SE PG:=E0 [] [] []
def ztr:SL PG Tryz.f325.ntmps (Z9 Tryz.f325):=pz (zqj) [] 31 ⟨[0,1,4,5,6],(.cons .str (.cons (.int .i64) (.cons (.ptr 2000000 0) (.cons (.ptr 2000001 0) .str)))),[(2000000,[4], .boxC [.str [], .int .i64 0, .int .i64 0, .str []]),(2000001,[5], .boxV z1e)],[]⟩ (1,⟨[4],(.ptr 2000000 0),[(2000000,[4], .boxV z1e)],[]⟩) [] (fun v=>z40 N v.1.1 v.1.2.1 v.1.2.2.2.2 v.2.2.1) (by kernel_rfl)
def y1j:SC PG:=fz (zqj) Tryz.func325 [ztr N] (.cons .str (.int .i64)) (.val z1e) [] (fun v=>ziv N v.1 v.2) (by kernel_rfl)
def zqm:SE PG:=E0 [] [] []
def ztu:SL PG Tryz.f327.ntmps (Z9 Tryz.f327):=lz N (zqm) [] 58 ⟨[0,4,5,6],(.cons .str (.cons (.own 2000000) (.cons .str (.int .i64)))),[(2000000,[4], .sl .str)],[]⟩ (2,⟨[4,5],(.cons (.own 2000000) .str),[(2000000,[4], .sl .str)],[]⟩) [] (z8m N N) (z2l N) (fun f v=>f v.1.1 v.1.2.2.1 v.1.2.2.2 v.2.1) (fun r b0 b1 b2 b3=>r ((b0,((),(b1,b2))),(b3,()))) rfl (fun _=>rfl) (fun _ _=>rfl) (by kernel_rfl)
def y1k:SC PG:=fz (zqm) Tryz.func327 [ztu N] .str (.tup (.cons (.fresh .str) .bool)) [] (fun v=>ziw N v) (by kernel_rfl)
def zuv:SE PG:=E0 [] [] []
def zws:SL PG Tryz.f71.ntmps (Z9 Tryz.f71):=lz N (zuv) [] 58 ⟨[0,3],(.cons .str (.int .i64)),[],[]⟩ (1,⟨[2], .bool,[],[]⟩) [(2,⟨[], .nil,[],[]⟩)] (zae N N) (z3p N) (fun f v=>f v.1.1 v.1.2) (fun r b0 b1=>r ((b0,b1),())) rfl (fun _=>rfl) (fun _ _=>rfl) (by kernel_rfl)
def zjd:SC PG:=fz (zuv) Tryz.func71 [zws N] .str .bool [] (fun v=>z91 N v) (by kernel_rfl)
def zqk:SE PG:=E0 [] [] [y1k N,zjd N]
def zts:SL PG Tryz.f320.ntmps (Z9 Tryz.f320):=lz N (zqk N) [] 58 ⟨[3,4,5],(.cons (.own 2000000) (.cons .bool (.int .i64))),[(2000000,[3], .sl .str)],[]⟩ (1,⟨[2], .bool,[],[]⟩) [(2,⟨[4], .bool,[],[]⟩)] (z8k N N) (z2j N) (fun f v=>f v.1.2.1 v.1.2.2 v.2.1) (fun r b0 b1 b2=>r (((),(b0,b1)),(b2,()))) rfl (fun _=>rfl) (fun _ _=>rfl) (by kernel_rfl)
def zn5:SC PG:=fz (zqk N) Tryz.func320 [zts N] .str .bool [] (fun v=>z8v N v) (by kernel_rfl)
def zuw:SE PG:=E0 [] [] []
def zwt:SL PG Tryz.f328.ntmps (Z9 Tryz.f328):=lz N (zuw) [] 122 ⟨[0,3,4],(.cons (.int .i64) (.cons .str (.int .i64))),[],[]⟩ (2,⟨[3], .str,[],[]⟩) [] (zaf N N) (z3q N) (fun f v=>f v.1.1 v.1.2.1 v.1.2.2) (fun r b0 b1 b2=>r ((b0,(b1,b2)),())) rfl (fun _=>rfl) (fun _ _=>rfl) (by kernel_rfl)
def y5j:SC PG:=fz (zuw) Tryz.func328 [zwt N] (.int .i64) .str [] (fun v=>zly N v) (by kernel_rfl)
def znn:SE PG:=E0 [] [] [y5j N]
def zrh:SL PG Tryz.f321.ntmps (Z9 Tryz.f321):=lz N (znn N) [] 122 ⟨[0,3,4],(.cons .str zmd),[],[]⟩ (2,⟨[0,3],(.cons .str (.int .i64)),[],[]⟩) [] (z74 N N) (z12 N) (fun f v=>f v.1.1 v.1.2.1 v.1.2.2) (fun r b0 b1 b2=>r ((b0,(b1,b2)),())) rfl (fun _=>rfl) (fun _ _=>rfl) (by kernel_rfl)
def zlg:SC PG:=fz (znn N) Tryz.func321 [zrh N] .str .bool [] (fun v=>z9h N v) (by kernel_rfl)
def zjp:SE PG:=E0 [] [] [zn5 N,zlg N,zjd N]
def ztp:SL PG Tryz.f329.ntmps (Z9 Tryz.f329):=pz (zjp N) [] 13 ⟨[1,32],(.cons (.ptr 2000000 0) .bool),[(2000000,[1], .boxV z1e)],[]⟩ (1,⟨[2], .bool,[],[]⟩) [(0,⟨[1],(.ptr 2000000 0),[(2000000,[1], .boxV z1e)],[]⟩)] (fun v=>K3 N v.1.2 v.2.1) (by kernel_rfl)
def ztq:SL PG Tryz.f329.ntmps (Z9 Tryz.f329):=pz (zjp N) [] 7 ⟨[1],(.ptr 2000000 0),[(2000000,[1], .boxV z1e)],[]⟩ (1,⟨[2], .bool,[],[]⟩) [] (fun v=>Q4 N v.2.1) (by kernel_rfl)
def y1i:SC PG:=fz (zjp N) Tryz.func329 [ztp N,ztq N] (.val z1e) .bool [] (fun v=>ziu N v) (by kernel_rfl)
def y7t:SC PG:=fz (E0 [] [] [y1i N]) Tryz.func326 [] (.val z1e) (.tup (.cons .str (.int .i64))) [] (fun v=>zp2 N v) (by kernel_rfl)
def zql:SE PG:=E0 [] [] [y1j N,y7t N]
def ztt:SL PG Tryz.f319.ntmps (Z9 Tryz.f319):=lz N (zql N) [] 26 ⟨[0,2,4],(.cons .str Sh4_),[(2000000,[2], .boxC [.str [], .int .i64 0, .int .i64 0, .str []])],[]⟩ (1,⟨[2,3],Sh4_,[(2000000,[2], .boxV z1e)],[]⟩) [(2,⟨[2],(.ptr 2000000 0),[(2000000,[2], .boxC [.str [], .int .i64 0, .int .i64 0, .str []])],[]⟩)] (z8l N N) (z2k N) (fun f v=>f v.1.1 v.1.2.2) (fun r b0 b1=>r ((b0,((),b1)),((),()))) rfl (fun _=>rfl) (fun _ _=>rfl) (by kernel_rfl)
def zn6:SC PG:=fz (zql N) Tryz.func319 [ztt N] .str (.tup (.cons (.val z1e) (.int .i64))) [] (fun v=>ze2 N v) (by kernel_rfl)
def y0a:SC PG:=fz (E0 [] [] [zn6 N]) Tryz.func307 [] (.val Y2) (.val zha) [] (fun v=>zfw N v) (by kernel_rfl)
def zqh:SE PG:=E0 [] [] [y0a N]
def ztl:SL PG Tryz.f283.ntmps (Z9 Tryz.f283):=lz N (zqh N) [] 58 ⟨[0,2,3,4],(.cons (.list Y2) Sh8_),[(2000000,[2], .boxC [.int .i64 0, .int .i64 0]),(2000001,[3], .boxV zha)],[]⟩ (2,⟨[2,3],Sh2_,[(2000000,[2], .boxC [.int .i64 0, .int .i64 0]),(2000001,[3], .boxV zha)],[]⟩) [] (z8i N N) (z2g N) (fun f v=>f v.1.1 v.1.2.2.2 v.2.2.1) (fun r b0 b1 b2=>r ((b0,((),((),b1))),((),(b2,())))) rfl (fun _=>rfl) (fun _ _=>rfl) (by kernel_rfl)
def y1g:SC PG:=fz (zqh N) Tryz.func283 [ztl N] (.list Y2) (.val zha) [] (fun v=>zis N v) (by kernel_rfl)
def y15:SC PG:=fz (E0 [] [] []) Tryz.func282 [] (.val zha) (.val J1) [] (fun v=>zny N v) (by kernel_rfl)
def y59:SC PG:=fz (E0 [] [] []) Tryz.func284 [] (.cons (.val J1) (.val J1)) (.val J1) [] (fun v=>zry N v.1 v.2) (by kernel_rfl)
def zx0:SC PG:=fz (E0 [] [] [zn6 N]) Tryz.func308 [] .str .bool [] (fun v=>zaa N v) (by kernel_rfl)
def y04:SC PG:=fz (E0 [] [] []) Tryz.func309 [] (.cons (.val z6g) (.int .i64)) (.val z6g) [] (fun v=>z54 N v.1 v.2) (by kernel_rfl)
def y12:SC PG:=fz (E0 [] [] []) Tryz.func310 [] (.cons (.val z6g) (.int .i64)) (.val z6g) [] (fun v=>zb6 N v.1 v.2) (by kernel_rfl)
def zjl:SE PG:=E0 [] [] [zn5 N,zlg N]
def zt9:SL PG Tryz.f311.ntmps (Z9 Tryz.f311):=pz (zjl N) [] 15 ⟨[0,1,5,6],(.cons .str (.cons .str (.cons .bool .bool))),[],[]⟩ (1,⟨[4], .bool,[],[]⟩) [] (fun v=>z3x N v.1.1 v.1.2.1 v.1.2.2.1 v.1.2.2.2) (by kernel_rfl)
def zta:SL PG Tryz.f311.ntmps (Z9 Tryz.f311):=pz (zjl N) [zt9 N] 7 ⟨[0,1,5],(.cons .str (.cons .str .bool)),[],[]⟩ (1,⟨[4], .bool,[],[]⟩) [] (fun v=>z3y N v.1.1 v.1.2.1 v.1.2.2) (by kernel_rfl)
def y16:SC PG:=fz (zjl N) Tryz.func311 [zta N] (.cons .str .str) .bool [] (fun v=>zdy N v.1 v.2) (by kernel_rfl)
def y05:SC PG:=fz (E0 [] [] [zx0 N,y04 N,y12 N,y16 N]) Tryz.func285 [] (.cons (.val J1) (.val Z8)) (.val J1) [] (fun v=>z6l N v.1 v.2) (by kernel_rfl)
def zo3:SE PG:=E0 [] [] [y1g N,y15 N,y59 N,y05 N]
def zzr:SL PG Tryz.f238.ntmps (Z9 Tryz.f238):=lz N (zo3 N) [] 250 ⟨[1,2,3,5],Sh5_,[(2000000,[1], .boxV Y0),(2000001,[2], .boxC [.int .i64 0, .int .i64 0, .int .i64 0, .int .i64 0]),(2000002,[3], .boxV J1)],[]⟩ (4,⟨[2,3],Sh2_,[(2000000,[2], .boxC [.int .i64 0, .int .i64 0, .int .i64 0, .int .i64 0]),(2000001,[3], .boxV J1)],[]⟩) [] (zbx N N) (z4u N) (fun f v=>f v.1.2.2.2 v.2.1 v.2.2.2.1) (fun r b0 b1 b2=>r (((),((),((),b0))),(b1,((),(b2,()))))) rfl (fun _=>rfl) (fun _ _=>rfl) (by kernel_rfl)
def zzs:SL PG Tryz.f238.ntmps (Z9 Tryz.f238):=lz N (zo3 N) [] 122 ⟨[1,2,3,4],Sh5_,[(2000000,[1], .boxV Y0),(2000001,[2], .boxC [.int .i64 0, .int .i64 0, .int .i64 0, .int .i64 0]),(2000002,[3], .boxV J1)],[]⟩ (2,⟨[1,2,3],y38,[(2000000,[1], .boxV Y0),(2000001,[2], .boxC [.int .i64 0, .int .i64 0, .int .i64 0, .int .i64 0]),(2000002,[3], .boxV J1)],[]⟩) [] (zby N N) (z4v N) (fun f v=>f v.1.2.2.2 v.2.1 v.2.2.2.1) (fun r b0 b1 b2=>r (((),((),((),b0))),(b1,((),(b2,()))))) rfl (fun _=>rfl) (fun _ _=>rfl) (by kernel_rfl)
def zu6:SC PG:=fz (zo3 N) Tryz.func238 [zzs N,zzr N] (.val Y0) (.val J1) [] (fun v=>zkf N v) (by kernel_rfl)
def zun:SE PG:=E0 [] [] [zu6 N]
def zwb:SL PG Tryz.f312.ntmps (Z9 Tryz.f312):=lz N (zun N) [] 58 ⟨[0,3,4],(.cons (.list Y0) Sh9_),[(2000000,[3], .sl J1)],[]⟩ (2,⟨[3],(.own 2000000),[(2000000,[3], .sl J1)],[]⟩) [] (za5 N N) (z3e N) (fun f v=>f v.1.1 v.1.2.2 v.2.1) (fun r b0 b1 b2=>r ((b0,((),b1)),(b2,()))) rfl (fun _=>rfl) (fun _ _=>rfl) (by kernel_rfl)
def y53:SC PG:=fz (zun N) Tryz.func312 [zwb N] (.list Y0) (.fresh J1) [] (fun v=>zlp N v) (by kernel_rfl)
def zmv:SC PG:=fz (E0 [(K8,[23,40,55,63])] [] [y53 N]) Tryz.func297 [] (.cons (.val Y0) (.cons (.int .i64) (.cons (.val ze6) (.list (.int .i64))))) (.val Y0) [] (fun v=>z8r N v.1 v.2.1 v.2.2.1 v.2.2.2) (by kernel_rfl)
def znd:SE PG:=E0 [(K8,[2000000])] [] [zu6 N]
def zr0:SL PG Tryz.f312.ntmps (Z9 Tryz.f312):=lz N (znd N) [] 58 ⟨[0,3,4],(.cons (.list Y0) Sh9_),[(2000000,[3], .sl J1)],[]⟩ (2,⟨[3],(.own 2000000),[(2000000,[3], .sl J1)],[]⟩) [] (z6u N N) (z7r N) (fun f v=>f v.1.1 v.1.2.2 v.2.1) (fun r b0 b1 b2=>r ((b0,((),b1)),(b2,()))) rfl (fun _=>rfl) (fun _ _=>rfl) (by kernel_rfl)
def y00:SC PG:=fz (znd N) Tryz.func312 [zr0 N] (.list Y0) (.list J1) [] (fun v=>zfq N v) (by kernel_rfl)
def zjb:SC PG:=fz (E0 [(K8,[13])] [] [z9w N,ze9 N]) Tryz.func91 [] (.cons (.val (.list Y8)) (.int .i64)) (.tup (.cons (.val (.list Y8)) (.int .i64))) [] (fun v=>z90 N v.1 v.2) (by kernel_rfl)
def zyz:SE PG:=E0 [] [] [zck N]
def zzl:SL PG Tryz.f298.ntmps (Z9 Tryz.f298):=lz N (zyz N) [] 26 ⟨[1,2,4,5],(.cons (.list (.int .i64)) Sh8_),[(2000000,[2], .box (.list Y8)),(2000001,[4], .boxC [.nils])],[]⟩ (2,⟨[2,4],Sh2_,[(2000000,[2], .box (.list Y8)),(2000001,[4], .boxC [.nils])],[]⟩) [] (zbv N N) (z4p N) (fun f v=>f v.1.1 v.1.2.2.2 v.2.1) (fun r b0 b1 b2=>r ((b0,((),((),b1))),(b2,((),())))) rfl (fun _=>rfl) (fun _ _=>rfl) (by kernel_rfl)
def zu4:SC PG:=fz (zyz N) Tryz.func298 [zzl N] (.cons (.val (.list Y8)) (.list (.int .i64))) (.val (.list Y8)) [] (fun v=>zh2 N v.1 v.2) (by kernel_rfl)
def zj0:SE PG:=E0 [(19,[2000003]),(2000114,[113]),(3000084,[84])] [] [zu5 N,z9v N,zmv N,y00 N,zjb N,zu4 N]
def zzi:SL PG Tryz.f291.ntmps (Z9 Tryz.f291):=pz (zj0 N) [] 30845 ⟨[3,5,6,8,9,11,12,72],(.cons (.ptr 2000000 0) (.cons (.ptr 2000001 0) (.cons (.ptr 2000002 0) (.cons (.ptr 2000003 0) (.cons (.own 2000004) (.cons (.ptr 2000005 0) (.cons (.int .i64) .bool))))))),[(2000000,[3], .boxV X9),(2000001,[5], .box (.cons (.list Y0) (.cons (.list .str) (.list Z8)))),(2000002,[6], .boxC [.nils, .int .i64 0, .int .i64 0, .int .i64 0, .int .i64 0]),(2000003,[8], .box (.list Y8)),(2000004,[9], .sl (.int .i64)),(2000005,[11], .boxV zjt)],[]⟩ (1,⟨[6,7],Sh4_,[(2000000,[6], .boxV X9)],[]⟩) [(0,⟨[3,6,8,9,12],yj5,[(2000000,[3], .boxV X9),(2000001,[6], .boxC [.nils, .int .i64 0, .int .i64 0, .int .i64 0, .int .i64 0]),(2000002,[8], .box (.list Y8)),(2000003,[9], .sl (.int .i64))],[]⟩)] (fun v=>z9b N v.1.2.2.2.2.2.2.1 v.1.2.2.2.2.2.2.2 v.2.1 v.2.2.1.1 v.2.2.1.2.1 v.2.2.1.2.2 v.2.2.2.2.1 v.2.2.2.2.2.1 v.2.2.2.2.2.2.1) (by kernel_rfl)
def zzj:SL PG Tryz.f291.ntmps (Z9 Tryz.f291):=pz (zj0 N) [] 15423 ⟨[3,6,8,9,12],yj5,[(2000000,[3], .boxV X9),(2000001,[6], .boxC [.nils, .int .i64 0, .int .i64 0, .int .i64 0, .int .i64 0]),(2000002,[8], .box (.list Y8)),(2000003,[9], .sl (.int .i64))],[]⟩ (1,⟨[6,7],Sh4_,[(2000000,[6], .boxV X9)],[]⟩) [] (fun v=>z9c N v.1.2.2.2.2 v.2.1 v.2.2.2.1 v.2.2.2.2.1) (by kernel_rfl)
def zzk:SL PG Tryz.f291.ntmps (Z9 Tryz.f291):=lz N (zj0 N) [zzi N,zzj N] 30 ⟨[1,3,5,6,8,9,10],(.cons (.list (.int .i64)) (.cons (.ptr 2000000 0) (.cons (.ptr 2000001 0) (.cons (.ptr 2000002 0) (.cons (.ptr 2000003 0) yek))))),[(2000000,[3], .boxV X9),(2000001,[5], .box (.cons (.list Y0) (.cons (.list .str) (.list Z8)))),(2000002,[6], .boxC [.nils, .int .i64 0, .int .i64 0, .int .i64 0, .int .i64 0]),(2000003,[8], .box (.list Y8)),(2000004,[9], .sl (.int .i64))],[61]⟩ (1,⟨[6,7],Sh4_,[(2000000,[6], .boxV X9)],[]⟩) [] (zbu N N) (z4o N) (fun f v=>f v.1.1 v.1.2.2.2.2.2.2 v.2.1 v.2.2.1.1 v.2.2.1.2.1 v.2.2.1.2.2 v.2.2.2.2.1 v.2.2.2.2.2.1) (fun r b0 b1 b2 b3 b4 b5 b6 b7=>r ((b0,((),((),((),((),((),b1)))))),(b2,((b3,(b4,b5)),((),(b6,(b7,()))))))) rfl (fun _=>rfl) (fun _ _=>rfl) (by kernel_rfl)
def zu3:SC PG:=fz (zj0 N) Tryz.func291 [zzk N] (.cons (.val X9) (.cons (.list (.int .i64)) (.val ze6))) (.tup (.cons (.val X9) (.int .i64))) [] (fun v=>zbh N v.1 v.2.1 v.2.2) (by kernel_rfl)
def zz1:SE PG:=E0 [] [] [z9v N,zu3 N]
def zzn:SL PG Tryz.f255.ntmps (Z9 Tryz.f255):=pz (zz1 N) [] 7 ⟨[1,3,5,6],(.cons (.list (.int .i64)) y38),[(2000000,[3], .boxV X9),(2000001,[5], .boxV ze6),(2000002,[6], .boxC [.nils, .int .i64 0, .int .i64 0, .int .i64 0, .int .i64 0])],[]⟩ (1,⟨[6,7],Sh4_,[(2000000,[6], .boxV X9)],[]⟩) [] (fun v=>zkx N v.1.1 v.2.1 v.2.2.1) (by kernel_rfl)
def y7o:SC PG:=fz (zz1 N) Tryz.func255 [zzn N] (.cons (.val X9) (.cons (.list (.int .i64)) (.val ze6))) (.tup (.cons (.val X9) (.int .i64))) [] (fun v=>zh3 N v.1 v.2.1 v.2.2) (by kernel_rfl)
def zq9:SE PG:=E0 [(K8,[2000002,2000003])] [] [zmw N]
def zsw:SL PG Tryz.f256.ntmps (Z9 Tryz.f256):=lz N (zq9 N) [] 122 ⟨[2,4,5,6,7,8],(.cons (.ptr 2000000 0) (.cons (.ptr 2000001 0) (.cons (.ptr 2000002 0) (.cons (.int .i64) (.cons (.own 2000005) (.int .i64)))))),[(2000000,[2], .boxV Y0),(2000001,[4], .boxC [.nils, .nils, .nils]),(2000002,[5], .box (.cons (.own 2000003) (.cons (.own 2000004) (.list Z8)))),(2000003,[5,0], .sl Y0),(2000004,[5,1], .sl .str),(2000005,[7], .sl (.int .i64))],[]⟩ (2,⟨[4,5],Sh2_,[(2000000,[4], .boxC [.nils, .nils, .nils]),(2000001,[5], .box (.cons (.own 2000002) (.cons (.own 2000003) (.list Z8)))),(2000002,[5,0], .sl Y0),(2000003,[5,1], .sl .str)],[]⟩) [] (z82 N N) (z1u N) (fun f v=>f v.1.2.2.2.1 v.1.2.2.2.2.2 v.2.1 v.2.2.2.1.2.2 v.2.2.2.2.1 v.2.2.2.2.2.1 v.2.2.2.2.2.2.1) (fun r b0 b1 b2 b3 b4 b5 b6=>r (((),((),((),(b0,((),b1))))),(b2,((),(((),((),b3)),(b4,(b5,(b6,())))))))) rfl (fun _=>rfl) (fun _ _=>rfl) (by kernel_rfl)
def y0z:SC PG:=fz (zq9 N) Tryz.func256 [zsw N] (.cons (.val Y0) (.val z36)) (.val zju) [] (fun v=>zik N v.1 v.2) (by kernel_rfl)
def y17:SC PG:=fz (E0 [] [] [zn4 N]) Tryz.func313 [] (.list .str) (.fresh Z2) [] (fun v=>znz N v) (by kernel_rfl)
def y18:SC PG:=fz (E0 [] [] []) Tryz.func322 [] (.val Z8) .bool [] (fun v=>zb7 N v) (by kernel_rfl)
def zbm:SC PG:=fz (E0 [] [] [z00 N]) Tryz.func213 [] (.val Z8) (.fresh Z2) [] (fun v=>z6d N v) (by kernel_rfl)
def z49:SC PG:=fz (E0 [] [] [zfl N,z00 N]) Tryz.func211 [] (.val Z8) (.fresh Z2) [] (fun v=>K7 N v) (by kernel_rfl)
def zlf:SC PG:=fz (E0 [] [] [z3t N,zjc N]) Tryz.func306 [] (.cons (.val Z2) (.val Z2)) .bool [] (fun v=>zc1 N v.1 v.2) (by kernel_rfl)
def zut:SE PG:=E0 [] [] [zbm N,z49 N,zlf N]
def zwl:SL PG Tryz.f323.ntmps (Z9 Tryz.f323):=lz N (zut N) [] 58 ⟨[3,5,6],Sh6_,[(2000000,[3], .boxV Z2),(2000001,[5], .sl Z2)],[]⟩ (1,⟨[4], .bool,[],[]⟩) [(2,⟨[], .nil,[],[]⟩)] (zac N N) (z3m N) (fun f v=>f v.1.2.2 v.2.1 v.2.2.1) (fun r b0 b1 b2=>r (((),((),b0)),(b1,(b2,())))) rfl (fun _=>rfl) (fun _ _=>rfl) (by kernel_rfl)
def y5e:SC PG:=fz (zut N) Tryz.func323 [zwl N] (.cons (.val Z8) (.val Z2)) .bool [] (fun v=>zlw N v.1 v.2) (by kernel_rfl)
def zjm:SE PG:=E0 [] [] [z9x N,z3t N]
def ztf:SL PG Tryz.f275.ntmps (Z9 Tryz.f275):=lz N (zjm N) [] 1682 ⟨[0,1,5,6],(.cons (.list Z2) (.cons (.list Z2) zmd)),[],[]⟩ (1,⟨[4], .bool,[],[]⟩) [(4,⟨[0,1,5],(.cons (.list Z2) (.cons (.list Z2) (.int .i64))),[],[]⟩)] (z8e N N) (z2c N) (fun f v=>f v.1.1 v.1.2.1 v.1.2.2.1 v.1.2.2.2) (fun r b0 b1 b2 b3=>r ((b0,(b1,(b2,b3))),())) rfl (fun _=>rfl) (fun _ _=>rfl) (by kernel_rfl)
def ztg:SL PG Tryz.f275.ntmps (Z9 Tryz.f275):=lz N (zjm N) [ztf N] 26 ⟨[0,1,5],(.cons (.list Z2) (.cons (.list Z2) (.int .i64))),[],[]⟩ (1,⟨[4], .bool,[],[]⟩) [(2,⟨[], .nil,[],[]⟩)] (z8f N N) (z2d N) (fun f v=>f v.1.1 v.1.2.1 v.1.2.2) (fun r b0 b1 b2=>r ((b0,(b1,b2)),())) rfl (fun _=>rfl) (fun _ _=>rfl) (by kernel_rfl)
def zgu:SC PG:=fz (zjm N) Tryz.func275 [ztg N] (.cons (.list Z2) (.list Z2)) .bool [] (fun v=>z8u N v.1 v.2) (by kernel_rfl)
def y5d:SC PG:=fz (E0 [] [] [z49 N,zgu N,z9x N]) Tryz.func324 [] (.cons (.val Z8) (.val Z2)) (.fresh Z8) [] (fun v=>zhl N v.1 v.2) (by kernel_rfl)
def znl:SE PG:=E0 [] [] [z3t N]
def zrf:SL PG Tryz.f260.ntmps (Z9 Tryz.f260):=lz N (znl N) [] 58 ⟨[0,3,5,6,7],(.cons (.list Z2) yj4),[(2000000,[3], .boxV Z2),(2000001,[5], .sl Z2)],[]⟩ (2,⟨[3,5,6],(.cons (.ptr 2000000 0) (.cons (.own 2000001) .bool)),[(2000000,[3], .boxV Z2),(2000001,[5], .sl Z2)],[]⟩) [] (z73 N N) (z10 N) (fun f v=>f v.1.1 v.1.2.2.2.1 v.1.2.2.2.2 v.2.1 v.2.2.1) (fun r b0 b1 b2 b3 b4=>r ((b0,((),((),(b1,b2)))),(b3,(b4,())))) rfl (fun _=>rfl) (fun _ _=>rfl) (by kernel_rfl)
def y0b:SC PG:=fz (znl N) Tryz.func260 [zrf N] (.cons (.list Z2) (.val Z2)) (.fresh Z2) [] (fun v=>zfx N v.1 v.2) (by kernel_rfl)
def zg2:SE PG:=E0 [] [] [y0b N,zjc N]
def zwp:SL PG Tryz.f209.ntmps (Z9 Tryz.f209):=pz (zg2 N) [] 7827 ⟨[3,4,6,7,53],(.cons (.own 2000000) (.cons (.own 2000001) (.cons (.int .i64) (.cons (.int .i64) .bool)))),[(2000000,[3], .sl Z2),(2000001,[4], .sl Z2)],[]⟩ (0,⟨[3,4,6],(.cons (.own 2000000) y5z),[(2000000,[3], .sl Z2),(2000001,[4], .sl Z2)],[]⟩) [] (fun v=>z31 N v.1.2.2.1 v.1.2.2.2.1 v.1.2.2.2.2 v.2.1 v.2.2.1) (by kernel_rfl)
def zwq:SL PG Tryz.f209.ntmps (Z9 Tryz.f209):=lz N (zg2 N) [zwp N] 122 ⟨[3,4,6],(.cons (.own 2000000) y5z),[(2000000,[3], .sl Z2),(2000001,[4], .sl Z2)],[]⟩ (4,⟨[4],(.own 2000000),[(2000000,[4], .sl Z2)],[]⟩) [] (z7g N N) (z3o N) (fun f v=>f v.1.2.2 v.2.1 v.2.2.1) (fun r b0 b1 b2=>r (((),((),b0)),(b1,(b2,())))) rfl (fun _=>rfl) (fun _ _=>rfl) (by kernel_rfl)
def zwr:SL PG Tryz.f209.ntmps (Z9 Tryz.f209):=lz N (zg2 N) [] 58 ⟨[0,3,4,5],(.cons (.list Z2) (.cons (.own 2000000) y5z)),[(2000000,[3], .sl Z2),(2000001,[4], .sl Z2)],[]⟩ (2,⟨[3,4],(.cons (.own 2000000) (.own 2000001)),[(2000000,[3], .sl Z2),(2000001,[4], .sl Z2)],[]⟩) [] (z7h N N) (y7 N) (fun f v=>f v.1.1 v.1.2.2.2 v.2.1 v.2.2.1) (fun r b0 b1 b2 b3=>r ((b0,((),((),b1))),(b2,(b3,())))) rfl (fun _=>rfl) (fun _ _=>rfl) (by kernel_rfl)
def zcl:SC PG:=fz (zg2 N) Tryz.func209 [zwr N,zwq N] (.list Z2) (.fresh Z2) [] (fun v=>z11 N v) (by kernel_rfl)
def zjo:SE PG:=E0 [] [] [zcl N,z3t N,z9x N]
def ztn:SL PG Tryz.f210.ntmps (Z9 Tryz.f210):=lz N (zjo N) [] 29850 ⟨[1,5,6,7,8],(.cons (.list Z2) (.cons (.own 2000000) (.cons (.int .i64) y5z))),[(2000000,[5], .sl Z2),(2000001,[7], .sl Z2)],[]⟩ (4,⟨[1,6,7],(.cons (.list Z2) (.cons (.int .i64) (.own 2000000))),[(2000000,[7], .sl Z2)],[]⟩) [] (z5w N N) (z2i N) (fun f v=>f v.1.1 v.1.2.2.1 v.1.2.2.2.2 v.2.1 v.2.2.1) (fun r b0 b1 b2 b3 b4=>r ((b0,((),(b1,((),b2)))),(b3,(b4,())))) rfl (fun _=>rfl) (fun _ _=>rfl) (by kernel_rfl)
def zto:SL PG Tryz.f210.ntmps (Z9 Tryz.f210):=lz N (zjo N) [ztn N] 58 ⟨[1,5,6],(.cons (.list Z2) Sh9_),[(2000000,[5], .sl Z2)],[]⟩ (2,⟨[5],(.own 2000000),[(2000000,[5], .sl Z2)],[]⟩) [] (z5x N N) (Q9 N) (fun f v=>f v.1.1 v.1.2.2 v.2.1) (fun r b0 b1 b2=>r ((b0,((),b1)),(b2,()))) rfl (fun _=>rfl) (fun _ _=>rfl) (by kernel_rfl)
def zgv:SC PG:=fz (zjo N) Tryz.func210 [zto N] (.cons (.list Z2) (.list Z2)) (.fresh Z2) [] (fun v=>Q8 N v.1 v.2) (by kernel_rfl)
def znh:SE PG:=E0 [] [] [y18 N,zbm N,z49 N,y5e N,zgu N,y5d N,zgv N]
def zr9:SL PG Tryz.f314.ntmps (Z9 Tryz.f314):=lz N (znh N) [] 8150 ⟨[3,4,6,9,10],(.cons (.ptr 2000000 0) (.cons (.ptr 2000004 0) (.cons (.ptr 2000005 0) (.cons (.own 2000006) (.int .i64))))),[(2000000,[3], .box (.cons (.own 2000001) (.cons (.own 2000002) (.own 2000003)))),(2000001,[3,0], .sl Z8),(2000002,[3,1], .sl Z8),(2000003,[3,2], .sl Z2),(2000004,[4], .boxV Z8),(2000005,[6], .boxC [.nils, .nils, .nils]),(2000006,[9], .sl Z2)],[]⟩ (2,⟨[3,6],(.cons (.ptr 2000000 0) (.ptr 2000004 0)),[(2000000,[3], .box (.cons (.own 2000001) (.cons (.own 2000002) (.own 2000003)))),(2000001,[3,0], .sl Z8),(2000002,[3,1], .sl Z8),(2000003,[3,2], .sl Z2),(2000004,[6], .boxC [.nils, .nils, .nils])],[]⟩) [] (z4f N N) (z0v N) (fun f v=>f v.1.2.2.2.2 v.2.2.1 v.2.2.2.1 v.2.2.2.2.1 v.2.2.2.2.2.1 v.2.2.2.2.2.2.2.1) (fun r b0 b1 b2 b3 b4 b5=>r (((),((),((),((),b0)))),(((),((),())),(b1,(b2,(b3,(b4,((),(b5,()))))))))) rfl (fun _=>rfl) (fun _ _=>rfl) (by kernel_rfl)
def zz9:SM PG:=mz (znh N) Tryz.func314 [zr9 N] ⟨[0,1,2],(.cons (.agg (.cons (.own 5000000) (.cons (.own 5000001) (.own 5000002)))) (.cons (.val Z8) (.val Z2))),[(5000000,[0,0], .sl Z8),(5000001,[0,1], .sl Z8),(5000002,[0,2], .sl Z2)],[]⟩ ⟨[0],(.agg (.cons (.own 2000000) (.cons (.own 2000001) (.own 2000002)))),[(2000000,[0,0], .sl Z8),(2000001,[0,1], .sl Z8),(2000002,[0,2], .sl Z2)],[]⟩ [] (fun v=>z2x N v.1.2.1 v.1.2.2 v.2.1 v.2.2.1 v.2.2.2.1) (by kernel_rfl)
def zqb:SE PG:=E0 [(K8,[2000002,2000003,2000004])] [30] [y17 N] [zz9 N]
def ztb:SL PG Tryz.f293.ntmps (Z9 Tryz.f293):=lz N (zqb N) [] 58 ⟨[0,6,7,8,9],(.cons (.list Z8) (.cons (.ptr 2000000 0) (.cons (.ptr 2000001 0) (.cons (.ptr 2000005 0) (.int .i64))))),[(2000000,[6], .boxC [.nils, .nils, .nils]),(2000001,[7], .box ymm),(2000002,[7,0], .sl Z8),(2000003,[7,1], .sl Z8),(2000004,[7,2], .sl Z2),(2000005,[8], .boxV Z2)],[]⟩ (2,⟨[6,7],Sh2_,[(2000000,[6], .boxC [.nils, .nils, .nils]),(2000001,[7], .box ymm),(2000002,[7,0], .sl Z8),(2000003,[7,1], .sl Z8),(2000004,[7,2], .sl Z2)],[]⟩) [] (z8a N N) (z29 N) (fun f v=>f v.1.1 v.1.2.2.2.2 v.2.2.2.1 v.2.2.2.2.1 v.2.2.2.2.2.1 v.2.2.2.2.2.2.1) (fun r b0 b1 b2 b3 b4 b5=>r ((b0,((),((),((),b1)))),((),(((),((),())),(b2,(b3,(b4,(b5,())))))))) rfl (fun _=>rfl) (fun _ _=>rfl) (by kernel_rfl)
def zn1:SC PG:=fz (zqb N) Tryz.func293 [ztb N] (.cons (.list Z8) (.cons (.list .str) (.int .i64))) (.val zo7) [] (fun v=>z6c N v.1 v.2.1 v.2.2) (by kernel_rfl)
def zum:SE PG:=E0 [] [] [zn1 N]
def zwa:SL PG Tryz.f257.ntmps (Z9 Tryz.f257):=lz N (zum N) [] 122 ⟨[1,4,5,6],(.cons (.ptr 2000000 0) (.cons (.int .i64) zmd)),[(2000000,[1], .boxV Y0)],[]⟩ (2,⟨[4,5],zmd,[],[]⟩) [] (z7d N N) (z3d N) (fun f v=>f v.1.2.1 v.1.2.2.1 v.1.2.2.2 v.2.1) (fun r b0 b1 b2 b3=>r (((),(b0,(b1,b2))),(b3,()))) rfl (fun _=>rfl) (fun _ _=>rfl) (by kernel_rfl)
def y50:SC PG:=fz (zum N) Tryz.func257 [zwa N] (.val Y0) (.tup (.cons (.int .i64) (.int .i64))) [] (fun v=>zlm N v) (by kernel_rfl)
def zwz:SC PG:=fz (E0 [(K8,[24,37,50])] [] []) Tryz.func294 [] (.cons (.val Y0) (.int .i64)) (.val Y0) [] (fun v=>za4 N v.1 v.2) (by kernel_rfl)
def y54:SC PG:=fz (E0 [] [] []) Tryz.func295 [] (.cons (.val X9) (.cons (.val X9) (.cons (.int .i64) (.int .i64)))) (.val z7a) [] (fun v=>zaz N v.1 v.2.1 v.2.2.1 v.2.2.2) (by kernel_rfl)
def zz2:SE PG:=E0 [] [] [zn3 N]
def zzt:SL PG Tryz.f124.ntmps (Z9 Tryz.f124):=lz N (zz2 N) [] 26 ⟨[0,1,5],(.cons (.list Y2) (.cons (.list Z8) (.int .i64))),[],[17]⟩ (2,⟨[0],(.list Y2),[],[]⟩) [] (zc0 N N) (z4w N) (fun f v=>f v.1.1 v.1.2.1 v.1.2.2) (fun r b0 b1 b2=>r ((b0,(b1,b2)),())) rfl (fun _=>rfl) (fun _ _=>rfl) (by kernel_rfl)
def zu7:SC PG:=fz (zz2 N) Tryz.func124 [zzt N] (.cons (.list Y2) (.list Z8)) (.list Y2) [] (fun v=>zkh N v.1 v.2) (by kernel_rfl)
def zjj:SE PG:=E0 [(17,[84]),(24,[2000005]),(27,[2000006,2000007]),(3000125,[125]),(3000164,[164])] [] [z9v N,zfk N,zn1 N,zwz N,zu3 N,y54 N,zu5 N,zmv N,zu4 N,zu7 N,zpo N]
def zst:SL PG Tryz.f258.ntmps (Z9 Tryz.f258):=pz (zjj N) [] 16383 ⟨[1,2,3,6,8,11,12],(.cons (.list (.int .i64)) (.cons (.int .i64) (.cons (.ptr 2000000 0) (.cons (.ptr 2000001 0) (.cons (.ptr 2000002 0) (.cons (.ptr 2000003 0) (.ptr 2000004 0))))))),[(2000000,[3], .boxV X9),(2000001,[6], .boxC [.nils, .int .i64 0, .int .i64 0, .int .i64 0, .int .i64 0, .int .i64 0, .int .i64 0]),(2000002,[8], .boxV Y0),(2000003,[11], .boxV zo7),(2000004,[12], .box (.cons (.list Y0) (.cons (.list .str) (.own 2000007)))),(2000007,[12,2], .sl Z8)],[87]⟩ (1,⟨[6],(.ptr 2000000 0),[(2000000,[6], .boxV z7a)],[]⟩) [] (fun v=>z19 N v.1.1 v.1.2.1 v.2.1 v.2.2.2.1 v.2.2.2.2.1 v.2.2.2.2.2.1.1 v.2.2.2.2.2.1.2.1 v.2.2.2.2.2.2.1) (by kernel_rfl)
def zsu:SL PG Tryz.f258.ntmps (Z9 Tryz.f258):=pz (zjj N) [zst N] 63 ⟨[1,2,3,6,8],(.cons (.list (.int .i64)) (.cons (.int .i64) y38)),[(2000000,[3], .boxV X9),(2000001,[6], .boxC [.nils, .int .i64 0, .int .i64 0, .int .i64 0, .int .i64 0, .int .i64 0, .int .i64 0]),(2000002,[8], .boxV Y0)],[]⟩ (1,⟨[6],(.ptr 2000000 0),[(2000000,[6], .boxV z7a)],[]⟩) [] (fun v=>zgw N v.1.1 v.1.2.1 v.2.1 v.2.2.2.1) (by kernel_rfl)
def y0y:SC PG:=fz (zjj N) Tryz.func258 [zsu N] (.cons (.val X9) (.cons (.list (.int .i64)) (.int .i64))) (.val z7a) [] (fun v=>zij N v.1 v.2.1 v.2.2) (by kernel_rfl)
def y7s:SC PG:=fz (E0 [] [] []) Tryz.func303 [] (.cons (.val Z2) .str) .bool [] (fun v=>zp1 N v.1 v.2) (by kernel_rfl)
def zgy:SE PG:=E0 [] [] [y7s N]
def zr2:SL PG Tryz.f273.ntmps (Z9 Tryz.f273):=lz N (zgy N) [] 14922 ⟨[0,1,5,6,7,8],(.cons (.list Y2) (.cons (.list Z2) (.cons (.own 2000000) (.cons (.int .i64) (.cons .bool (.int .i64)))))),[(2000000,[5], .sl Y2)],[]⟩ (4,⟨[0,1,5,6,7],(.cons (.list Y2) (.cons (.list Z2) (.cons (.own 2000000) (.cons (.int .i64) .bool)))),[(2000000,[5], .sl Y2)],[]⟩) [] (z6w N N) (z0q N) (fun f v=>f v.1.1 v.1.2.1 v.1.2.2.2.1 v.1.2.2.2.2.1 v.1.2.2.2.2.2 v.2.1) (fun r b0 b1 b2 b3 b4 b5=>r ((b0,(b1,((),(b2,(b3,b4))))),(b5,()))) rfl (fun _=>rfl) (fun _ _=>rfl) (by kernel_rfl)
def zr3:SL PG Tryz.f273.ntmps (Z9 Tryz.f273):=lz N (zgy N) [zr2 N] 58 ⟨[0,1,5,6],yml,[(2000000,[5], .sl Y2)],[]⟩ (2,⟨[5],(.own 2000000),[(2000000,[5], .sl Y2)],[]⟩) [] (z6x N N) (z0r N) (fun f v=>f v.1.1 v.1.2.1 v.1.2.2.2 v.2.1) (fun r b0 b1 b2 b3=>r ((b0,(b1,((),b2))),(b3,()))) rfl (fun _=>rfl) (fun _ _=>rfl) (by kernel_rfl)
def y02:SC PG:=fz (zgy N) Tryz.func273 [zr3 N] (.cons (.list Y2) (.list Z2)) (.fresh Y2) [] (fun v=>zbw N v.1 v.2) (by kernel_rfl)
def y1a:SC PG:=fz (E0 [] [] [z00 N,zao N]) Tryz.func318 [] (.cons (.val Z2) (.cons .str .str)) (.val Z2) [] (fun v=>zin N v.1 v.2.1 v.2.2) (by kernel_rfl)
def zm6:SE PG:=E0 [(K8,[20,27,73])] [] [zfl N,zgv N,z00 N,z9x N,z3t N,y1a N,zcl N]
def zoe:SL PG Tryz.f304.ntmps (Z9 Tryz.f304):=lz N (zm6 N) [] 1018 ⟨[0,3,5,7,8],(.cons (.list Z2) yem),[(2000000,[3], .boxV Z8),(2000001,[5], .boxV Z2),(2000002,[7], .sl Z2)],[]⟩ (3,⟨[7],(.own 2000000),[(2000000,[7], .sl Z2)],[]⟩) [] (z0h N N) (z08 N) (fun f v=>f v.1.1 v.1.2.2.2.2 v.2.1 v.2.2.1 v.2.2.2.1) (fun r b0 b1 b2 b3 b4=>r ((b0,((),((),((),b1)))),(b2,(b3,(b4,()))))) rfl (fun _=>rfl) (fun _ _=>rfl) (by kernel_rfl)
def zx1:SC PG:=fz (zm6 N) Tryz.func304 [zoe N] (.cons (.list Z2) (.val Z8)) (.list Z2) [] (fun v=>z30 N v.1 v.2) (by kernel_rfl)
def zqc:SE PG:=E0 [(5,[2000000])] [] [zcl N,zx1 N]
def ztc:SL PG Tryz.f274.ntmps (Z9 Tryz.f274):=lz N (zqc N) [] 58 ⟨[1,5,6],(.cons (.list Z8) (.cons (.list Z2) (.int .i64))),[],[9]⟩ (2,⟨[5],(.list Z2),[],[]⟩) [] (z8b N N) (z2a N) (fun f v=>f v.1.1 v.1.2.1 v.1.2.2) (fun r b0 b1 b2=>r ((b0,(b1,b2)),())) rfl (fun _=>rfl) (fun _ _=>rfl) (by kernel_rfl)
def y19:SC PG:=fz (zqc N) Tryz.func274 [ztc N] (.cons (.val Z2) (.list Z8)) (.list Z2) [] (fun v=>zim N v.1 v.2) (by kernel_rfl)
def z4j(self:(List Z7)->Int->Z0->(List Z0)->Option (((List Z3)×Int))):Ctr:=zm9 (.cons (.val (.list Y8)) (.cons (.int .i64) (.cons (.val Z2) (.list Z2)))) (.tup (.cons (.list Y2) (.int .i64))) [] (fun v=>self v.1 v.2.1 v.2.2.1 v.2.2.2)
def zl4(self:(List Z7)->Int->Z0->(List Z0)->Option (((List Z3)×Int)))(hs:z69 PG 234 fun xs=>(z4j self).run xs some):SE PG:=E0 [(K8,[35,97]),(16,[2000003]),(17,[2000002]),(21,[2000001])] [] [⟨234,z4j self,hs⟩,zfk N,y02 N,y19 N,zmx N,zgu N,zu7 N]
def zwf(self:(List Z7)->Int->Z0->(List Z0)->Option (((List Z3)×Int)))(hs:z69 PG 234 fun xs=>(z4j self).run xs some):SL PG Tryz.f234.ntmps (Z9 Tryz.f234):=lz N (zl4 N self hs) [] 4090 ⟨[3,4,10,12,14,15,16],(.cons (.list Z2) (.cons (.ptr 2000000 0) (.cons (.ptr 2000001 0) (.cons (.list Z2) (.cons (.list Z2) yek))))),[(2000000,[4], .box (.list Y8)),(2000001,[10], .boxV Y0),(2000004,[15], .sl Y2)],[54,2000003]⟩ (1,⟨[8,9],(.cons (.list Y2) (.int .i64)),[],[]⟩) [(4,⟨[3,10,15],(.cons (.list Z2) y9l),[(2000000,[10], .boxV Y0),(2000001,[15], .sl Y2)],[]⟩)] (z7e N self N) (z3h N self) (fun f v=>f v.1.1 v.1.2.2.2.1 v.1.2.2.2.2.1 v.1.2.2.2.2.2.2 v.2.1 v.2.2.1 v.2.2.2.1) (fun r b0 b1 b2 b3 b4 b5 b6=>r ((b0,((),((),(b1,(b2,((),b3)))))),(b4,(b5,(b6,()))))) rfl (fun _=>rfl) (fun _ _=>rfl) (by kernel_rfl)
def zwg(self:(List Z7)->Int->Z0->(List Z0)->Option (((List Z3)×Int)))(hs:z69 PG 234 fun xs=>(z4j self).run xs some):SL PG Tryz.f234.ntmps (Z9 Tryz.f234):=lz N (zl4 N self hs) [] 506 ⟨[3,4,6,10,12,13],(.cons (.list Z2) yj5),[(2000000,[4], .box (.list Y8)),(2000001,[6], .boxV Z2),(2000002,[10], .boxV Y0),(2000003,[12], .sl Z2)],[]⟩ (2,⟨[3,4,6,10,12],(.cons (.list Z2) (.cons (.ptr 2000000 0) (.cons (.ptr 2000001 0) (.cons (.ptr 2000002 0) (.own 2000003))))),[(2000000,[4], .box (.list Y8)),(2000001,[6], .boxV Z2),(2000002,[10], .boxV Y0),(2000003,[12], .sl Z2)],[]⟩) [] (za8 N self N) (z3i N self) (fun f v=>f v.1.1 v.1.2.2.2.2.2 v.2.1 v.2.2.1 v.2.2.2.1 v.2.2.2.2.1) (fun r b0 b1 b2 b3 b4 b5=>r ((b0,((),((),((),((),b1))))),(b2,(b3,(b4,(b5,())))))) rfl (fun _=>rfl) (fun _ _=>rfl) (by kernel_rfl)
def y5m(self:(List Z7)->Int->Z0->(List Z0)->Option (((List Z3)×Int)))(hs:z69 PG 234 fun xs=>(z4j self).run xs some):SC PG:=fz (zl4 N self hs) Tryz.func234 [zwg N self hs,zwf N self hs] (.cons (.val (.list Y8)) (.cons (.int .i64) (.cons (.val Z2) (.list Z2)))) (.tup (.cons (.list Y2) (.int .i64))) [] (fun v=>z4e N self v.1 v.2.1 v.2.2.1 v.2.2.2) (by kernel_rfl)
def y55:SC PG:=recz (f:=234) z4j (fun _ _ _ _=>none) (z4e N) (y2v fun _=>rfl) (fun self hs=>(y5m N self hs).h) N
def y56:SC PG:=fz (E0 [(2000013,[12])] [] [y55 N]) Tryz.func178 [] (.cons (.val X9) (.val Z2)) (.tup (.cons (.list Y2) (.int .i64))) [] (fun v=>zlq N v.1 v.2) (by kernel_rfl)
def zn0:SC PG:=fz (E0 [] [] []) Tryz.func315 [] (.val Z8) .bool [] (fun v=>z6b N v) (by kernel_rfl)
def zus:SE PG:=E0 [] [] [zn0 N,z00 N]
def zwk:SL PG Tryz.f316.ntmps (Z9 Tryz.f316):=lz N (zus N) [] 122 ⟨[1,2,5,6],(.cons (.list Y2) Sh6_),[(2000000,[2], .boxV Z8),(2000001,[5], .sl Z8)],[]⟩ (2,⟨[2,5],y9l,[(2000000,[2], .boxV Z8),(2000001,[5], .sl Z8)],[]⟩) [] (zab N N) (z3l N) (fun f v=>f v.1.1 v.1.2.2.2 v.2.1 v.2.2.1) (fun r b0 b1 b2 b3=>r ((b0,((),((),b1))),(b2,(b3,())))) rfl (fun _=>rfl) (fun _ _=>rfl) (by kernel_rfl)
def y5c:SC PG:=fz (zus N) Tryz.func316 [zwk N] (.cons (.val Z8) (.list Y2)) (.fresh Z8) [] (fun v=>zlv N v.1 v.2) (by kernel_rfl)
def y5b:SC PG:=fz (E0 [] [] [zn0 N,y5c N]) Tryz.func299 [] (.cons (.list Z8) (.list Y2)) (.tup (.cons (.fresh Z8) (.int .i64))) [] (fun v=>zlu N v.1 v.2) (by kernel_rfl)
def znc:SE PG:=E0 [(K8,[51])] [] [z00 N,y56 N,y5b N]
def zqz:SL PG Tryz.f259.ntmps (Z9 Tryz.f259):=lz N (znc N) [] 58 ⟨[2,3,4,6,7],yj5,[(2000000,[2], .boxV X9),(2000001,[3], .boxV Y0),(2000002,[4], .boxC [.nils, .nils, .nils, .nils, .nils]),(2000003,[6], .sl Y2)],[]⟩ (1,⟨[4,5],Sh4_,[(2000000,[4], .boxV Y0)],[]⟩) [(2,⟨[3,4,6],ymn,[(2000000,[3], .boxV Y0),(2000001,[4], .boxC [.nils, .nils, .nils, .nils, .nils]),(2000002,[6], .sl Y2)],[]⟩)] (z1h N N) (z0o N) (fun f v=>f v.1.2.2.2.2 v.2.1 v.2.2.1 v.2.2.2.2.1) (fun r b0 b1 b2 b3=>r (((),((),((),((),b0)))),(b1,(b2,((),(b3,())))))) rfl (fun _=>rfl) (fun _ _=>rfl) (by kernel_rfl)
def zzz:SC PG:=fz (znc N) Tryz.func259 [zqz N] (.cons (.val X9) (.val Y0)) (.tup (.cons (.val Y0) (.int .i64))) [] (fun v=>z6k N v.1 v.2) (by kernel_rfl)
def y51:SC PG:=fz (E0 [(2000105,[103])] [] [z9v N,zpo N,y7o N,y0z N,y50 N,y0y N,zzz N]) Tryz.func208 [] (.cons (.val X9) (.list (.int .i64))) (.tup (.cons (.val X9) (.int .i64))) [] (fun v=>zln N v.1 v.2) (by kernel_rfl)
def zq6:SE PG:=E0 [(2000015,[13])] [] [y0x N,y51 N]
def zsr:SL PG Tryz.f143.ntmps (Z9 Tryz.f143):=lz N (zq6 N) [] 14 ⟨[1,2,4,5],(.cons .bool y38),[(2000000,[2], .boxV X9),(2000001,[4], .boxC [.nils, .int .i64 0, .int .i64 0, .int .i64 0, .int .i64 0, .int .i64 0, .int .i64 0]),(2000002,[5], .boxV z8o)],[]⟩ (1,⟨[4],(.ptr 2000000 0),[(2000000,[4], .boxV z8o)],[]⟩) [] (z80 N N) (z5d N) (fun f v=>f v.1.1 v.2.1 v.2.2.2.1) (fun r b0 b1 b2=>r ((b0,((),((),()))),(b1,((),(b2,()))))) rfl (fun _=>rfl) (fun _ _=>rfl) (by kernel_rfl)
def y0w:SC PG:=fz (zq6 N) Tryz.func143 [zsr N] (.cons (.val X9) .bool) (.val z8o) [] (fun v=>znx N v.1 v.2) (by kernel_rfl)
def y52:SC PG:=fz (E0 [] [] [y0w N]) Tryz.func87 [] (.val X9) (.val z8o) [] (fun v=>zlo N v) (by kernel_rfl)
def y4u:SC PG:=fz (E0 [] [] []) Tryz.func88 [] (.cons (.val Y1) (.val X9)) (.val Y1) [] (fun v=>zrw N v.1 v.2) (by kernel_rfl)
def y1e:SC PG:=fz (E0 [] [] [z49 N]) Tryz.func212 [] (.val Z8) (.fresh Z2) [] (fun v=>ziq N v) (by kernel_rfl)
def zuu:SE PG:=E0 [(K8,[2000001,2000002])] [] [zcl N,z49 N,zgv N,y1e N,zbm N]
def zwm:SL PG Tryz.f144.ntmps (Z9 Tryz.f144):=lz N (zuu N) [] 122 ⟨[0,4,5,6,7],(.cons (.list Z8) (.cons (.ptr 2000000 0) yj3)),[(2000000,[4], .boxC [.nils, .nils]),(2000001,[5], .sl Z8),(2000002,[6], .sl Z2)],[]⟩ (2,⟨[4,5,6],(.cons (.ptr 2000000 0) (.cons (.own 2000001) (.own 2000002))),[(2000000,[4], .boxC [.nils, .nils]),(2000001,[5], .sl Z8),(2000002,[6], .sl Z2)],[]⟩) [] (zad N N) (z3n N) (fun f v=>f v.1.1 v.1.2.2.2.2 v.2.2.1 v.2.2.2.1) (fun r b0 b1 b2 b3=>r ((b0,((),((),((),b1)))),((),(b2,(b3,()))))) rfl (fun _=>rfl) (fun _ _=>rfl) (by kernel_rfl)
def y5f:SC PG:=fz (zuu N) Tryz.func144 [zwm N] (.cons (.list Z8) (.list Z2)) (.val znq) [] (fun v=>zrz N v.1 v.2) (by kernel_rfl)
def zld:SC PG:=fz (E0 [] [] [y5f N]) Tryz.func89 [] (.list Z8) (.list Z8) [] (fun v=>zbz N v) (by kernel_rfl)
def zyy:SE PG:=E0 [(2000058,[57])] [] [y4v N,y7q N,y52 N,y4u N,zld N]
def zzh:SL PG Tryz.f46.ntmps (Z9 Tryz.f46):=lz N (zyy N) [] 58 ⟨[1,2,4,6,8],(.cons (.list Z8) Sh5_),[(2000000,[2], .boxV Y1),(2000001,[4], .boxC [.nils, .int .i64 0, .int .i64 0, .int .i64 0, .nils, .int .i64 0, .int .i64 0, .int .i64 0, .nils]),(2000002,[6], .boxV X9)],[]⟩ (1,⟨[4,5],Sh4_,[(2000000,[4], .boxV Y1)],[]⟩) [(2,⟨[1,2,4,6],(.cons (.list Z8) y38),[(2000000,[2], .boxV Y1),(2000001,[4], .boxC [.nils, .int .i64 0, .int .i64 0, .int .i64 0, .nils, .int .i64 0, .int .i64 0, .int .i64 0, .nils]),(2000002,[6], .boxV X9)],[]⟩)] (z4z N N) (z4n N) (fun f v=>f v.1.1 v.1.2.2.2.2 v.2.1 v.2.2.2.1) (fun r b0 b1 b2 b3=>r ((b0,((),((),((),b1)))),(b2,((),(b3,()))))) rfl (fun _=>rfl) (fun _ _=>rfl) (by kernel_rfl)
def zu2:SC PG:=fz (zyy N) Tryz.func46 [zzh N] (.cons (.val Y1) (.list Z8)) (.tup (.cons (.val Y1) (.int .i64))) [] (fun v=>zkd N v.1 v.2) (by kernel_rfl)
def zo2:SE PG:=E0 [(K8,[2000001,2000002])] [] []
def zze:SL PG Tryz.f74.ntmps (Z9 Tryz.f74):=pz (zo2) [] 13 ⟨[0,1,4,19],(.cons (.int .i64) (.cons (.int .i64) (.cons (.ptr 2000000 0) .bool))),[(2000000,[4], .boxC [.int .i64 0, .nils, .nils])],[]⟩ (1,⟨[4,5],Sh4_,[(2000000,[4], .boxC [.int .i64 0, .nils, .nils])],[]⟩) [(0,⟨[0,1,4],yj1,[(2000000,[4], .boxC [.int .i64 0, .nils, .nils])],[]⟩)] (fun v=>z99 N v.1.1 v.1.2.1 v.1.2.2.2) (by kernel_rfl)
def zzf:SL PG Tryz.f74.ntmps (Z9 Tryz.f74):=pz (zo2) [] 7 ⟨[0,1,4],yj1,[(2000000,[4], .boxC [.int .i64 0, .nils, .nils])],[]⟩ (1,⟨[4,5],Sh4_,[(2000000,[4], .box (.cons (.int .i64) (.cons (.own 2000001) (.own 2000002)))),(2000001,[4,1], .sl (.list (.int .u8))),(2000002,[4,2], .sl J6)],[]⟩) [] (fun v=>z9a N v.1.1 v.1.2.1) (by kernel_rfl)
def ztz:SC PG:=fz (zo2) Tryz.func74 [zze N,zzf N] (.cons (.int .i64) (.int .i64)) (.tup (.cons (.val Q5) (.int .i64))) [] (fun v=>zbg N v.1 v.2) (by kernel_rfl)
def ziz:SE PG:=E0 [(K8,[2000001,2000002])] [] []
def zzc:SL PG Tryz.f77.ntmps (Z9 Tryz.f77):=lz N (ziz) [] 122 ⟨[0,1,4,6,7],(.cons (.int .i64) (.cons (.int .i64) Sh8_)),[(2000000,[4], .boxC [.nils, .nils, .int .i64 0]),(2000001,[6], .box yj2),(2000002,[6,0], .sl .bool),(2000003,[6,1], .sl (.int .i64))],[]⟩ (2,⟨[4,6],Sh2_,[(2000000,[4], .boxC [.nils, .nils, .int .i64 0]),(2000001,[6], .box yj2),(2000002,[6,0], .sl .bool),(2000003,[6,1], .sl (.int .i64))],[]⟩) [] (zbs N N) (z4m N) (fun f v=>f v.1.1 v.1.2.1 v.1.2.2.2.2 v.2.2.1.2.2 v.2.2.2.1 v.2.2.2.2.1) (fun r b0 b1 b2 b3 b4 b5=>r ((b0,(b1,((),((),b2)))),((),(((),((),b3)),(b4,(b5,())))))) rfl (fun _=>rfl) (fun _ _=>rfl) (by kernel_rfl)
def zza:SL PG Tryz.f77.ntmps (Z9 Tryz.f77):=pz (ziz) [] 13 ⟨[0,1,4,22],(.cons (.int .i64) (.cons (.int .i64) (.cons (.ptr 2000000 0) .bool))),[(2000000,[4], .boxC [.nils, .nils, .int .i64 0])],[]⟩ (1,⟨[4,5],Sh4_,[(2000000,[4], .boxC [.nils, .nils, .int .i64 0])],[]⟩) [(0,⟨[0,1,4],yj1,[(2000000,[4], .boxC [.nils, .nils, .int .i64 0])],[]⟩)] (fun v=>z97 N v.1.1 v.1.2.1 v.1.2.2.2) (by kernel_rfl)
def zzb:SL PG Tryz.f77.ntmps (Z9 Tryz.f77):=pz (ziz) [zzc N] 7 ⟨[0,1,4],yj1,[(2000000,[4], .boxC [.nils, .nils, .int .i64 0])],[]⟩ (1,⟨[4,5],Sh4_,[(2000000,[4], .box yj3),(2000001,[4,0], .sl .bool),(2000002,[4,1], .sl (.int .i64))],[]⟩) [] (fun v=>z98 N v.1.1 v.1.2.1) (by kernel_rfl)
def y7l:SC PG:=fz (ziz) Tryz.func77 [zza N,zzb N] (.cons (.int .i64) (.int .i64)) (.tup (.cons (.val Q1) (.int .i64))) [] (fun v=>zoz N v.1 v.2) (by kernel_rfl)
def zqg:SE PG:=E0 [] [] []
def ztk:SL PG Tryz.f305.ntmps (Z9 Tryz.f305):=lz N (zqg) [] 26 ⟨[0,3],(.cons (.list Y2) (.int .i64)),[],[]⟩ (1,⟨[2], .bool,[],[]⟩) [(2,⟨[], .nil,[],[]⟩)] (z8h N N) (z5e N) (fun f v=>f v.1.1 v.1.2) (fun r b0 b1=>r ((b0,b1),())) rfl (fun _=>rfl) (fun _ _=>rfl) (by kernel_rfl)
def y1f:SC PG:=fz (zqg) Tryz.func305 [ztk N] (.list Y2) .bool [] (fun v=>zir N v) (by kernel_rfl)
def zyg:SC PG:=fz (E0 [] [] []) Tryz.func278 [] (.cons (.int .i64) (.cons (.int .i64) (.int .i64))) .bool [] (fun v=>zkp N v.1 v.2.1 v.2.2) (by kernel_rfl)
def zur:SE PG:=E0 [] [] [y1f N,zkw N,zyg N]
def zwj:SL PG Tryz.f276.ntmps (Z9 Tryz.f276):=lz N (zur N) [] 58 ⟨[2,3,5],Sh8_,[(2000000,[2], .boxV Y0),(2000001,[3], .boxV Z2)],[]⟩ (1,⟨[4], .bool,[],[]⟩) [(2,⟨[], .nil,[],[]⟩)] (za9 N N) (z3k N) (fun f v=>f v.1.2.2 v.2.1 v.2.2.1) (fun r b0 b1 b2=>r (((),((),b0)),(b1,(b2,())))) rfl (fun _=>rfl) (fun _ _=>rfl) (by kernel_rfl)
def y58:SC PG:=fz (zur N) Tryz.func276 [zwj N] (.cons (.val Y0) (.val Z2)) .bool [] (fun v=>zls N v.1 v.2) (by kernel_rfl)
def zbq:SE PG:=E0 [] [] []
def zr4:SL PG Tryz.f277.ntmps (Z9 Tryz.f277):=pz (zbq) [] 841 ⟨[0,3,5,48],(.cons (.list .str) (.cons (.ptr 2000000 0) (.cons (.int .i64) .bool))),[(2000000,[3], .boxV Z2)],[]⟩ (1,⟨[4], .bool,[],[]⟩) [(0,⟨[0,3,5],(.cons (.list .str) Sh4_),[(2000000,[3], .boxV Z2)],[]⟩)] (fun v=>z02 N v.1.1 v.1.2.2.1 v.1.2.2.2 v.2.1) (by kernel_rfl)
def zr5:SL PG Tryz.f277.ntmps (Z9 Tryz.f277):=pz (zbq) [] 211 ⟨[0,3,5],(.cons (.list .str) Sh4_),[(2000000,[3], .boxV Z2)],[]⟩ (0,⟨[0,3,5],(.cons (.list .str) Sh4_),[(2000000,[3], .boxV Z2)],[]⟩) [] (fun v=>z03 N v.1.1 v.1.2.2 v.2.1) (by kernel_rfl)
def zr6:SL PG Tryz.f277.ntmps (Z9 Tryz.f277):=lz N (zbq) [zr4 N,zr5 N] 26 ⟨[0,3,5],(.cons (.list .str) Sh4_),[(2000000,[3], .boxV Z2)],[]⟩ (1,⟨[4], .bool,[],[]⟩) [(2,⟨[], .nil,[],[]⟩)] (z1i N N) (z0s N) (fun f v=>f v.1.1 v.1.2.2 v.2.1) (fun r b0 b1 b2=>r ((b0,((),b1)),(b2,()))) rfl (fun _=>rfl) (fun _ _=>rfl) (by kernel_rfl)
def y03:SC PG:=fz (zbq) Tryz.func277 [zr6 N] (.cons (.list .str) (.val Z2)) .bool [] (fun v=>zfs N v.1 v.2) (by kernel_rfl)
def y13:SC PG:=fz (E0 [] [] []) Tryz.func279 [] (.val z6g) .bool [] (fun v=>zdx N v) (by kernel_rfl)
def zng:SE PG:=E0 [] [] [zbm N,z49 N,zlf N]
def zr8:SL PG Tryz.f280.ntmps (Z9 Tryz.f280):=lz N (zng N) [] 58 ⟨[3,5,6],Sh6_,[(2000000,[3], .boxV Z2),(2000001,[5], .sl Z2)],[]⟩ (1,⟨[4], .bool,[],[]⟩) [(2,⟨[], .nil,[],[]⟩)] (z70 N N) (z0u N) (fun f v=>f v.1.2.2 v.2.1 v.2.2.1) (fun r b0 b1 b2=>r (((),((),b0)),(b1,(b2,())))) rfl (fun _=>rfl) (fun _ _=>rfl) (by kernel_rfl)
def y06:SC PG:=fz (zng N) Tryz.func280 [zr8 N] (.cons (.val Z8) (.val Z2)) .bool [] (fun v=>zft N v.1 v.2) (by kernel_rfl)
def zdj:SE PG:=E0 [] [] [y58 N,y03 N,zyg N,y13 N,zgt N,y06 N]
def zt0:SL PG Tryz.f236.ntmps (Z9 Tryz.f236):=lz N (zdj N) [] 250 ⟨[2,3,6],Sh8_,[(2000000,[2], .boxV Y0),(2000001,[3], .boxV Z2)],[]⟩ (1,⟨[4], .bool,[],[]⟩) [(4,⟨[], .nil,[],[]⟩)] (z83 N N) (z1x N) (fun f v=>f v.1.2.2 v.2.1 v.2.2.1) (fun r b0 b1 b2=>r (((),((),b0)),(b1,(b2,())))) rfl (fun _=>rfl) (fun _ _=>rfl) (by kernel_rfl)
def zt1:SL PG Tryz.f236.ntmps (Z9 Tryz.f236):=lz N (zdj N) [] 122 ⟨[2,3,5],Sh8_,[(2000000,[2], .boxV Y0),(2000001,[3], .boxV Z2)],[]⟩ (1,⟨[4], .bool,[],[]⟩) [(2,⟨[2,3],Sh2_,[(2000000,[2], .boxV Y0),(2000001,[3], .boxV Z2)],[]⟩)] (z5v N N) (z1y N) (fun f v=>f v.1.2.2 v.2.1 v.2.2.1) (fun r b0 b1 b2=>r (((),((),b0)),(b1,(b2,())))) rfl (fun _=>rfl) (fun _ _=>rfl) (by kernel_rfl)
def zsz:SL PG Tryz.f236.ntmps (Z9 Tryz.f236):=pz (zdj N) [zt1 N,zt0 N] 15 ⟨[2,3],Sh2_,[(2000000,[2], .boxV Y0),(2000001,[3], .boxV Z2)],[]⟩ (1,⟨[4], .bool,[],[]⟩) [] (fun v=>zbn N v.2.1 v.2.2.1) (by kernel_rfl)
def y14:SC PG:=fz (zdj N) Tryz.func236 [zsz N] (.cons (.val Y0) (.val Z2)) .bool [] (fun v=>zil N v.1 v.2) (by kernel_rfl)
def znf:SE PG:=E0 [] [] []
def zr7:SL PG Tryz.f239.ntmps (Z9 Tryz.f239):=lz N (znf) [] 58 ⟨[0,5,6],(.cons (.int .i64) Sh9_),[(2000000,[5], .sl (.int .u8))],[]⟩ (2,⟨[5],(.own 2000000),[(2000000,[5], .sl (.int .u8))],[]⟩) [] (z6z N N) (z0t N) (fun f v=>f v.1.1 v.1.2.2 v.2.1) (fun r b0 b1 b2=>r ((b0,((),b1)),(b2,()))) rfl (fun _=>rfl) (fun _ _=>rfl) (by kernel_rfl)
def zlc:SC PG:=fz (znf) Tryz.func239 [zr7 N] (.cons (.int .i64) (.int .i64)) (.fresh (.int .u8)) [] (fun v=>V9 N v.1 v.2) (by kernel_rfl)
def y57:SC PG:=fz (E0 [] [] [zlc N]) Tryz.func240 [] .str (.fresh (.int .u8)) [] (fun v=>zd4 N v) (by kernel_rfl)
def zni:SE PG:=E0 [] [] []
def zra:SL PG Tryz.f287.ntmps (Z9 Tryz.f287):=lz N (zni) [] 58 ⟨[0,5,6],(.cons (.int .i64) Sh9_),[(2000000,[5], .sl (.int .u8))],[]⟩ (2,⟨[5],(.own 2000000),[(2000000,[5], .sl (.int .u8))],[]⟩) [] (zap N N) (z7s N) (fun f v=>f v.1.1 v.1.2.2 v.2.1) (fun r b0 b1 b2=>r ((b0,((),b1)),(b2,()))) rfl (fun _=>rfl) (fun _ _=>rfl) (by kernel_rfl)
def zle:SC PG:=fz (zni) Tryz.func287 [zra N] (.cons (.int .i64) (.int .i64)) (.fresh (.int .u8)) [] (fun v=>z6m N v.1 v.2) (by kernel_rfl)
def zqd:SE PG:=E0 [] [] [zle N]
def ztd:SL PG Tryz.f286.ntmps (Z9 Tryz.f286):=lz N (zqd N) [] 58 ⟨[0,3,4],(.cons (.list .str) Sh9_),[(2000000,[3], .sl (.int .u8))],[]⟩ (2,⟨[3],(.own 2000000),[(2000000,[3], .sl (.int .u8))],[]⟩) [] (z8c N N) (z2b N) (fun f v=>f v.1.1 v.1.2.2 v.2.1) (fun r b0 b1 b2=>r ((b0,((),b1)),(b2,()))) rfl (fun _=>rfl) (fun _ _=>rfl) (by kernel_rfl)
def y1c:SC PG:=fz (zqd N) Tryz.func286 [ztd N] (.list .str) (.fresh (.int .u8)) [] (fun v=>J5 N v) (by kernel_rfl)
def zqf:SE PG:=E0 [] [] [zgt N,y1c N,zle N]
def zth:SL PG Tryz.f241.ntmps (Z9 Tryz.f241):=pz (zqf N) [] 31 ⟨[1,3],y9l,[(2000000,[1], .boxV Z8),(2000001,[3], .sl (.int .u8))],[]⟩ (1,⟨[2],(.own 2000000),[(2000000,[2], .sl (.int .u8))],[]⟩) [] (fun v=>j0 N v.2.1 v.2.2.1) (by kernel_rfl)
def zn2:SC PG:=fz (zqf N) Tryz.func241 [zth N] (.val Z8) (.fresh (.int .u8)) [] (fun v=>zdz N v) (by kernel_rfl)
def z5c:SE PG:=E0 [] [] [y14 N,zlc N,y57 N,zn2 N]
def zt3:SL PG Tryz.f183.ntmps (Z9 Tryz.f183):=lz N (z5c N) [] 130342 ⟨[1,5,8,9,10],(.cons (.ptr 2000000 0) (.cons (.own 2000001) (.cons (.int .i64) (.cons (.ptr 2000002 0) (.int .i64))))),[(2000000,[1], .boxV Y0),(2000001,[5], .sl (.int .u8)),(2000002,[9], .boxV yd0)],[]⟩ (10,⟨[1,5,8],Sh6_,[(2000000,[1], .boxV Y0),(2000001,[5], .sl (.int .u8))],[]⟩) [] (z1a N N) (J3 N) (fun f v=>f v.1.2.2.1 v.1.2.2.2.2 v.2.1 v.2.2.1 v.2.2.2.1) (fun r b0 b1 b2 b3 b4=>r (((),((),(b0,((),b1)))),(b2,(b3,(b4,()))))) rfl (fun _=>rfl) (fun _ _=>rfl) (by kernel_rfl)
def zt4:SL PG Tryz.f183.ntmps (Z9 Tryz.f183):=lz N (z5c N) [] 4090 ⟨[1,5,11],Sh6_,[(2000000,[1], .boxV Y0),(2000001,[5], .sl (.int .u8))],[]⟩ (12,⟨[5],(.own 2000000),[(2000000,[5], .sl (.int .u8))],[]⟩) [] (z85 N N) (z21 N) (fun f v=>f v.1.2.2 v.2.1 v.2.2.1) (fun r b0 b1 b2=>r (((),((),b0)),(b1,(b2,())))) rfl (fun _=>rfl) (fun _ _=>rfl) (by kernel_rfl)
def zt5:SL PG Tryz.f183.ntmps (Z9 Tryz.f183):=lz N (z5c N) [zt3 N] 1018 ⟨[1,5,8],Sh6_,[(2000000,[1], .boxV Y0),(2000001,[5], .sl (.int .u8))],[]⟩ (8,⟨[1,5],y9l,[(2000000,[1], .boxV Y0),(2000001,[5], .sl (.int .u8))],[]⟩) [] (z86 N N) (z24 N) (fun f v=>f v.1.2.2 v.2.1 v.2.2.1) (fun r b0 b1 b2=>r (((),((),b0)),(b1,(b2,())))) rfl (fun _=>rfl) (fun _ _=>rfl) (by kernel_rfl)
def zt6:SL PG Tryz.f183.ntmps (Z9 Tryz.f183):=lz N (z5c N) [] 938 ⟨[1,3,4],Sh6_,[(2000000,[1], .boxV Y0),(2000001,[3], .sl (.int .u8))],[]⟩ (2,⟨[3],(.own 2000000),[(2000000,[3], .sl (.int .u8))],[]⟩) [] (z87 N N) (z25 N) (fun f v=>f v.1.2.2 v.2.1 v.2.2.1) (fun r b0 b1 b2=>r (((),((),b0)),(b1,(b2,())))) rfl (fun _=>rfl) (fun _ _=>rfl) (by kernel_rfl)
def zt7:SL PG Tryz.f183.ntmps (Z9 Tryz.f183):=lz N (z5c N) [] 506 ⟨[1,5,7],Sh6_,[(2000000,[1], .boxV Y0),(2000001,[5], .sl (.int .u8))],[]⟩ (6,⟨[1,5],y9l,[(2000000,[1], .boxV Y0),(2000001,[5], .sl (.int .u8))],[]⟩) [] (z88 N N) (z26 N) (fun f v=>f v.1.2.2 v.2.1 v.2.2.1) (fun r b0 b1 b2=>r (((),((),b0)),(b1,(b2,())))) rfl (fun _=>rfl) (fun _ _=>rfl) (by kernel_rfl)
def zt8:SL PG Tryz.f183.ntmps (Z9 Tryz.f183):=lz N (z5c N) [] 250 ⟨[1,5,6],Sh6_,[(2000000,[1], .boxV Y0),(2000001,[5], .sl (.int .u8))],[]⟩ (4,⟨[1,5],y9l,[(2000000,[1], .boxV Y0),(2000001,[5], .sl (.int .u8))],[]⟩) [] (z89 N N) (z27 N) (fun f v=>f v.1.2.2 v.2.1 v.2.2.1) (fun r b0 b1 b2=>r (((),((),b0)),(b1,(b2,())))) rfl (fun _=>rfl) (fun _ _=>rfl) (by kernel_rfl)
def zmz:SC PG:=fz (z5c N) Tryz.func183 [zt6 N,zt8 N,zt7 N,zt5 N,zt4 N] (.val Y0) (.fresh (.int .u8)) [] (fun v=>z57 N v) (by kernel_rfl)
def zqa:SE PG:=E0 [] [] []
def zt2:SL PG Tryz.f31.ntmps (Z9 Tryz.f31):=lz N (zqa) [] 58 ⟨[0,3,4],(.cons (.list (.int .u8)) (.cons (.int .u64) (.int .i64))),[],[]⟩ (2,⟨[3],(.int .u64),[],[]⟩) [] (z84 N N) (z1z N) (fun f v=>f v.1.1 v.1.2.1 v.1.2.2) (fun r b0 b1 b2=>r ((b0,(b1,b2)),())) rfl (fun _=>rfl) (fun _ _=>rfl) (by kernel_rfl)
def zmy:SC PG:=fz (zqa) Tryz.func31 [zt2 N] (.list (.int .u8)) (.int .u64) [] (fun v=>z1d N v) (by kernel_rfl)
def zj9:SC PG:=fz (E0 [] [] []) Tryz.func42 [] (.cons (.val Q5) (.int .i64)) .bool [] (fun v=>zcs N v.1 v.2) (by kernel_rfl)
def zyx:SE PG:=E0 [] [] [zj9 N]
def zzg:SL PG Tryz.f20.ntmps (Z9 Tryz.f20):=lz N (zyx N) [] 122 ⟨[1,2,6,7],(.cons (.int .i64) (.cons (.ptr 2000000 0) (.cons (.list (.int .u8)) (.int .i64)))),[(2000000,[2], .boxV Q5)],[]⟩ (2,⟨[6],(.list (.int .u8)),[],[]⟩) [] (z6j N N) (z7o N) (fun f v=>f v.1.1 v.1.2.2.1 v.1.2.2.2 v.2.1) (fun r b0 b1 b2 b3=>r ((b0,((),(b1,b2))),(b3,()))) rfl (fun _=>rfl) (fun _ _=>rfl) (by kernel_rfl)
def zu0:SC PG:=fz (zyx N) Tryz.func20 [zzg N] (.cons (.val Q5) (.int .i64)) (.tup (.cons (.list (.int .u8)) (.int .i64))) [] (fun v=>zkb N v.1 v.2) (by kernel_rfl)
def y4o:SC PG:=fz (E0 [] [] [zu0 N,zmz N]) Tryz.func184 [] (.cons (.val Y9) (.cons (.int .i64) (.val Y0))) .bool [] (fun v=>zlh N v.1 v.2.1 v.2.2) (by kernel_rfl)
def zq4:SE PG:=E0 [] [] []
def zsp:SL PG Tryz.f288.ntmps (Z9 Tryz.f288):=lz N (zq4) [] 58 ⟨[1,3,4],(.cons (.ptr 2000000 0) zmd),[(2000000,[1], .boxV Q1)],[]⟩ (2,⟨[3],(.int .i64),[],[]⟩) [] (z7y N N) (z1q N) (fun f v=>f v.1.2.1 v.1.2.2 v.2.1) (fun r b0 b1 b2=>r (((),(b0,b1)),(b2,()))) rfl (fun _=>rfl) (fun _ _=>rfl) (by kernel_rfl)
def y0s:SC PG:=fz (zq4) Tryz.func288 [zsp N] (.val Q1) (.int .i64) [] (fun v=>znv N v) (by kernel_rfl)
def y4s:SC PG:=fz (E0 [] [] [y0s N]) Tryz.func242 [] (.val Q1) (.int .i64) [] (fun v=>zrv N v) (by kernel_rfl)
def zq3:SE PG:=E0 [(K8,[2000001])] [] []
def zso:SL PG Tryz.f243.ntmps (Z9 Tryz.f243):=lz N (zq3) [] 58 ⟨[1,2,3,4],yem,[(2000000,[1], .boxV Q1),(2000001,[2], .boxC [.nils, .nils, .int .i64 0, .int .i64 0, .int .i64 0]),(2000002,[3], .sl .bool)],[]⟩ (1,⟨[2],(.ptr 2000000 0),[(2000000,[2], .box (.cons (.own 2000001) (.cons (.list (.int .i64)) (.cons (.int .i64) zmd)))),(2000001,[2,0], .sl .bool)],[]⟩) [(2,⟨[1,2],Sh2_,[(2000000,[1], .boxV Q1),(2000001,[2], .boxC [.nils, .nils, .int .i64 0, .int .i64 0, .int .i64 0])],[]⟩)] (z5s N N) (z1p N) (fun f v=>f v.1.2.2.2 v.2.1 v.2.2.2.1) (fun r b0 b1 b2=>r (((),((),((),b0))),(b1,((),(b2,()))))) rfl (fun _=>rfl) (fun _ _=>rfl) (by kernel_rfl)
def y0r:SC PG:=fz (zq3) Tryz.func243 [zso N] (.val Q1) (.val zjs) [] (fun v=>znu N v) (by kernel_rfl)
def zpm:SC PG:=fz (E0 [] [] [y4s N,y0r N]) Tryz.func189 [] (.val Q1) (.val zjs) [] (fun v=>ref25_Take N v) (by kernel_rfl)
def zan:SC PG:=fz (E0 [] [] []) Tryz.func75 [] (.val Q5) (.agg (.cons (.int .i64) (.cons (.fresh (.list (.int .u8))) (.fresh J6)))) [] (fun v=>z17 N v) (by kernel_rfl)
def zku:SC PG:=fz (E0 [(K8,[22,31]),(3000028,[28])] [] [zj9 N,zan N]) Tryz.func130 [] (.cons (.val Q5) (.cons (.int .i64) (.list (.int .u8)))) (.tup (.cons (.val Q5) (.int .i64))) [] (fun v=>ref23_Put N v.1 v.2.1 v.2.2) (by kernel_rfl)
def y0p:SC PG:=fz (E0 [] [] [zpm N,zku N]) Tryz.func129 [] (.cons (.val Y9) (.list (.int .u8))) (.tup (.cons (.val Y9) (.int .i64))) [] (fun v=>z8p N v.1 v.2) (by kernel_rfl)
def zvx:SM PG:=mz (E0 [(4,[5000002])] [] [zpm N,zku N]) Tryz.func129 [] ⟨[0,1],(.cons ypb (.own 5000002)),[(5000000,[0,9], .sl (.int .i64)),(5000001,[0,10], .sl (.int .u64)),(5000002,[1], .sl (.int .u8))],[]⟩ ⟨[0],(.tup (.cons ypb (.int .i64))),[(5000000,[5000000], .sl (.int .i64)),(5000001,[5000001], .sl (.int .u64))],[]⟩ [] (fun v=>zcn N v.1.1.1 v.1.1.2.1 v.1.1.2.2.1 v.1.1.2.2.2.1 v.1.1.2.2.2.2.1 v.1.1.2.2.2.2.2.1 v.1.1.2.2.2.2.2.2.1 v.1.1.2.2.2.2.2.2.2.1 v.1.1.2.2.2.2.2.2.2.2.1 v.1.1.2.2.2.2.2.2.2.2.2.2.2 v.2.1 v.2.2.1 v.2.2.2.1) (by kernel_rfl)
def z7j:SE PG:=E0 [(K8,[2000001,2000002,2000004])] [93] [zmz N,zmy N,y4o N] [zvx N]
def zsj:SL PG Tryz.f126.ntmps (Z9 Tryz.f126):=pz (z7j N) [] 31311 ⟨[2,3,4,7,8,9,11,12],ymp,[(2000000,[2], .box Sh1_),(2000001,[2,9], .sl (.int .i64)),(2000002,[2,10], .sl (.int .u64)),(2000003,[3], .boxV Y1),(2000004,[4], .boxC [.int .i64 0, .nils, .nils, .nils, .nils, .int .i64 0, .int .i64 0, .int .i64 0, .int .i64 0, .nils, .nils, .nils]),(2000005,[7], .boxV Y9),(2000006,[8], .sl (.int .i64))],[]⟩ (0,⟨[2,3,4,7,8,9],Sh7_,[(2000000,[2], .box Sh1_),(2000001,[2,9], .sl (.int .i64)),(2000002,[2,10], .sl (.int .u64)),(2000003,[3], .boxV Y1),(2000004,[4], .boxC [.int .i64 0, .nils, .nils, .nils, .nils, .int .i64 0, .int .i64 0, .int .i64 0, .int .i64 0, .nils, .nils, .nils]),(2000005,[7], .boxV Y9),(2000006,[8], .sl (.int .i64))],[]⟩) [] (fun v=>z5r N v.1.2.2.2.2.2.1 v.1.2.2.2.2.2.2.1 v.1.2.2.2.2.2.2.2 v.2.1.1 v.2.1.2.1 v.2.1.2.2.1 v.2.1.2.2.2.1 v.2.1.2.2.2.2.1 v.2.1.2.2.2.2.2.1 v.2.1.2.2.2.2.2.2.1 v.2.1.2.2.2.2.2.2.2.1 v.2.1.2.2.2.2.2.2.2.2.1 v.2.1.2.2.2.2.2.2.2.2.2.2.2 v.2.2.1 v.2.2.2.1 v.2.2.2.2.1 v.2.2.2.2.2.2.1 v.2.2.2.2.2.2.2.1) (by kernel_rfl)
def zsk:SL PG Tryz.f126.ntmps (Z9 Tryz.f126):=pz (z7j N) [] 31309 ⟨[2,3,4,7,8,9,10,11,12,57],(.cons (.ptr 2000000 0) (.cons (.ptr 2000003 0) (.cons (.ptr 2000004 0) (.cons (.ptr 2000005 0) (.cons (.own 2000006) (.cons (.int .i64) (.cons (.ptr 2000007 0) (.cons (.int .i64) (.cons (.int .u64) .bool))))))))),[(2000000,[2], .box Sh1_),(2000001,[2,9], .sl (.int .i64)),(2000002,[2,10], .sl (.int .u64)),(2000003,[3], .boxV Y1),(2000004,[4], .boxC [.int .i64 0, .nils, .nils, .nils, .nils, .int .i64 0, .int .i64 0, .int .i64 0, .int .i64 0, .nils, .nils, .nils]),(2000005,[7], .boxV Y9),(2000006,[8], .sl (.int .i64)),(2000007,[10], .boxV Y8)],[]⟩ (0,⟨[2,3,4,7,8,9,11,12],ymp,[(2000000,[2], .box Sh1_),(2000001,[2,9], .sl (.int .i64)),(2000002,[2,10], .sl (.int .u64)),(2000003,[3], .boxV Y1),(2000004,[4], .boxC [.int .i64 0, .nils, .nils, .nils, .nils, .int .i64 0, .int .i64 0, .int .i64 0, .int .i64 0, .nils, .nils, .nils]),(2000005,[7], .boxV Y9),(2000006,[8], .sl (.int .i64))],[]⟩) [(1,⟨[4,5,6],(.cons (.ptr 2000000 0) (.cons (.list (.int .i64)) .bool)),[(2000000,[4], .boxV Y9)],[]⟩)] (fun v=>z3u N v.1.2.2.2.2.2.1 v.1.2.2.2.2.2.2.2.1 v.1.2.2.2.2.2.2.2.2.1 v.1.2.2.2.2.2.2.2.2.2 v.2.1.1 v.2.1.2.1 v.2.1.2.2.1 v.2.1.2.2.2.1 v.2.1.2.2.2.2.1 v.2.1.2.2.2.2.2.1 v.2.1.2.2.2.2.2.2.1 v.2.1.2.2.2.2.2.2.2.1 v.2.1.2.2.2.2.2.2.2.2.1 v.2.1.2.2.2.2.2.2.2.2.2.2.2 v.2.2.1 v.2.2.2.1 v.2.2.2.2.1 v.2.2.2.2.2.2.1 v.2.2.2.2.2.2.2.1 v.2.2.2.2.2.2.2.2.1) (by kernel_rfl)
def zsl:SL PG Tryz.f126.ntmps (Z9 Tryz.f126):=pz (z7j N) [zsj N] 15655 ⟨[2,3,4,7,8,9,11,12],ymp,[(2000000,[2], .box Sh1_),(2000001,[2,9], .sl (.int .i64)),(2000002,[2,10], .sl (.int .u64)),(2000003,[3], .boxV Y1),(2000004,[4], .boxC [.int .i64 0, .nils, .nils, .nils, .nils, .int .i64 0, .int .i64 0, .int .i64 0, .int .i64 0, .nils, .nils, .nils]),(2000005,[7], .boxV Y9),(2000006,[8], .sl (.int .i64))],[]⟩ (0,⟨[2,3,4,7,8,9],Sh7_,[(2000000,[2], .box Sh1_),(2000001,[2,9], .sl (.int .i64)),(2000002,[2,10], .sl (.int .u64)),(2000003,[3], .boxV Y1),(2000004,[4], .boxC [.int .i64 0, .nils, .nils, .nils, .nils, .int .i64 0, .int .i64 0, .int .i64 0, .int .i64 0, .nils, .nils, .nils]),(2000005,[7], .boxV Y9),(2000006,[8], .sl (.int .i64))],[]⟩) [] (fun v=>z3v N v.1.2.2.2.2.2.1 v.1.2.2.2.2.2.2.1 v.1.2.2.2.2.2.2.2 v.2.1.1 v.2.1.2.1 v.2.1.2.2.1 v.2.1.2.2.2.1 v.2.1.2.2.2.2.1 v.2.1.2.2.2.2.2.1 v.2.1.2.2.2.2.2.2.1 v.2.1.2.2.2.2.2.2.2.1 v.2.1.2.2.2.2.2.2.2.2.1 v.2.1.2.2.2.2.2.2.2.2.2.2.2 v.2.2.1 v.2.2.2.1 v.2.2.2.2.1 v.2.2.2.2.2.2.1 v.2.2.2.2.2.2.2.1) (by kernel_rfl)
def zsm:SL PG Tryz.f126.ntmps (Z9 Tryz.f126):=pz (z7j N) [] 979 ⟨[2,3,4,7,8,9],Sh7_,[(2000000,[2], .box Sh1_),(2000001,[2,9], .sl (.int .i64)),(2000002,[2,10], .sl (.int .u64)),(2000003,[3], .boxV Y1),(2000004,[4], .boxC [.int .i64 0, .nils, .nils, .nils, .nils, .int .i64 0, .int .i64 0, .int .i64 0, .int .i64 0, .nils, .nils, .nils]),(2000005,[7], .boxV Y9),(2000006,[8], .sl (.int .i64))],[]⟩ (0,⟨[2,3,4,7,8,9],Sh7_,[(2000000,[2], .box Sh1_),(2000001,[2,9], .sl (.int .i64)),(2000002,[2,10], .sl (.int .u64)),(2000003,[3], .boxV Y1),(2000004,[4], .boxC [.int .i64 0, .nils, .nils, .nils, .nils, .int .i64 0, .int .i64 0, .int .i64 0, .int .i64 0, .nils, .nils, .nils]),(2000005,[7], .boxV Y9),(2000006,[8], .sl (.int .i64))],[]⟩) [] (fun v=>z3w N v.1.2.2.2.2.2 v.2.1.1 v.2.1.2.1 v.2.1.2.2.1 v.2.1.2.2.2.1 v.2.1.2.2.2.2.1 v.2.1.2.2.2.2.2.1 v.2.1.2.2.2.2.2.2.1 v.2.1.2.2.2.2.2.2.2.1 v.2.1.2.2.2.2.2.2.2.2.1 v.2.1.2.2.2.2.2.2.2.2.2.2.2 v.2.2.1 v.2.2.2.1 v.2.2.2.2.1 v.2.2.2.2.2.2.1 v.2.2.2.2.2.2.2.1) (by kernel_rfl)
def zsn:SL PG Tryz.f126.ntmps (Z9 Tryz.f126):=lz N (z7j N) [zsk N,zsl N,zsm N] 122 ⟨[2,3,4,7,8,9],Sh7_,[(2000000,[2], .box Sh1_),(2000001,[2,9], .sl (.int .i64)),(2000002,[2,10], .sl (.int .u64)),(2000003,[3], .boxV Y1),(2000004,[4], .boxC [.int .i64 0, .nils, .nils, .nils, .nils, .int .i64 0, .int .i64 0, .int .i64 0, .int .i64 0, .nils, .nils, .nils]),(2000005,[7], .boxV Y9),(2000006,[8], .sl (.int .i64))],[]⟩ (1,⟨[4,5,6],(.cons (.ptr 2000000 0) (.cons (.list (.int .i64)) .bool)),[(2000000,[4], .boxV Y9)],[]⟩) [(2,⟨[2,4,8],(.cons (.ptr 2000000 0) (.cons (.ptr 2000003 0) (.own 2000004))),[(2000000,[2], .box Sh1_),(2000001,[2,9], .sl (.int .i64)),(2000002,[2,10], .sl (.int .u64)),(2000003,[4], .boxC [.int .i64 0, .nils, .nils, .nils, .nils, .int .i64 0, .int .i64 0, .int .i64 0, .int .i64 0, .nils, .nils, .nils]),(2000004,[8], .sl (.int .i64))],[]⟩)] (z18 N N) (z1o N) (fun f v=>f v.1.2.2.2.2.2 v.2.1.1 v.2.1.2.1 v.2.1.2.2.1 v.2.1.2.2.2.1 v.2.1.2.2.2.2.1 v.2.1.2.2.2.2.2.1 v.2.1.2.2.2.2.2.2.1 v.2.1.2.2.2.2.2.2.2.1 v.2.1.2.2.2.2.2.2.2.2.1 v.2.1.2.2.2.2.2.2.2.2.2.2.2 v.2.2.1 v.2.2.2.1 v.2.2.2.2.1 v.2.2.2.2.2.2.1 v.2.2.2.2.2.2.2.1) (fun r b0 b1 b2 b3 b4 b5 b6 b7 b8 b9 b10 b11 b12 b13 b14 b15=>r (((),((),((),((),((),b0))))),((b1,(b2,(b3,(b4,(b5,(b6,(b7,(b8,(b9,((),((),b10))))))))))),(b11,(b12,(b13,((),(b14,(b15,()))))))))) rfl (fun _=>rfl) (fun _ _=>rfl) (by kernel_rfl)
def y0q:SC PG:=fz (z7j N) Tryz.func126 [zsn N] (.cons (.val Y9) (.val Y1)) (.tup (.cons (.val Y9) (.cons (.list (.int .i64)) .bool))) [] (fun v=>zdu N v.1 v.2) (by kernel_rfl)
def zn7:SE PG:=E0 [] [] []
def zqu:SL PG Tryz.f188.ntmps (Z9 Tryz.f188):=lz N (zn7) [] 58 ⟨[0,5,6],(.cons (.int .u64) Sh9_),[(2000000,[5], .sl (.int .u8))],[]⟩ (2,⟨[5],(.own 2000000),[(2000000,[5], .sl (.int .u8))],[]⟩) [] (z6q N N) (z0k N) (fun f v=>f v.1.1 v.1.2.2 v.2.1) (fun r b0 b1 b2=>r ((b0,((),b1)),(b2,()))) rfl (fun _=>rfl) (fun _ _=>rfl) (by kernel_rfl)
def ze8:SC PG:=fz (zn7) Tryz.func188 [zqu N] (.cons (.int .u64) (.int .i64)) (.fresh (.int .u8)) [] (fun v=>z2w N v.1 v.2) (by kernel_rfl)
def zmu:SC PG:=fz (E0 [] [] [ze8 N]) Tryz.func186 [] (.cons (.int .i64) (.int .i64)) (.fresh (.int .u8)) [] (fun v=>w9 N v.1 v.2) (by kernel_rfl)
def zuh:SE PG:=E0 [] [] []
def zvz:SL PG Tryz.f185.ntmps (Z9 Tryz.f185):=lz N (zuh) [] 58 ⟨[0,3,4],(.cons (.list (.list (.int .u8))) Sh9_),[(2000000,[3], .sl (.int .u8))],[]⟩ (2,⟨[3],(.own 2000000),[(2000000,[3], .sl (.int .u8))],[]⟩) [] (z9y N N) (z38 N) (fun f v=>f v.1.1 v.1.2.2 v.2.1) (fun r b0 b1 b2=>r ((b0,((),b1)),(b2,()))) rfl (fun _=>rfl) (fun _ _=>rfl) (by kernel_rfl)
def zpl:SC PG:=fz (zuh) Tryz.func185 [zvz N] (.list (.list (.int .u8))) (.fresh (.int .u8)) [] (fun v=>z6s N v) (by kernel_rfl)
def zwv:SC PG:=fz (E0 [(K8,[8])] [] [ze8 N]) Tryz.func186 [] (.cons (.int .i64) (.int .i64)) (.list (.int .u8)) [] (fun v=>W3 N v.1 v.2) (by kernel_rfl)
def zn8:SE PG:=E0 [(K8,[2000000])] [] [zmu N,zn2 N]
def zqv:SL PG Tryz.f187.ntmps (Z9 Tryz.f187):=lz N (zn8 N) [] 58 ⟨[0,3,4],(.cons (.list Z8) Sh9_),[(2000000,[3], .sl (.int .u8))],[]⟩ (2,⟨[3],(.own 2000000),[(2000000,[3], .sl (.int .u8))],[]⟩) [] (z6r N N) (z0l N) (fun f v=>f v.1.1 v.1.2.2 v.2.1) (fun r b0 b1 b2=>r ((b0,((),b1)),(b2,()))) rfl (fun _=>rfl) (fun _ _=>rfl) (by kernel_rfl)
def zzu:SC PG:=fz (zn8 N) Tryz.func187 [zqv N] (.list Z8) (.list (.int .u8)) [] (fun v=>zbr N v) (by kernel_rfl)
def zk1:SE PG:=E0 [(K8,[2000000])] [] []
def zmm:SL PG Tryz.f188.ntmps (Z9 Tryz.f188):=lz N (zk1) [] 58 ⟨[0,5,6],(.cons (.int .u64) Sh9_),[(2000000,[5], .sl (.int .u8))],[]⟩ (2,⟨[5],(.own 2000000),[(2000000,[5], .sl (.int .u8))],[]⟩) [] (z4l N N) (u9 N) (fun f v=>f v.1.1 v.1.2.2 v.2.1) (fun r b0 b1 b2=>r ((b0,((),b1)),(b2,()))) rfl (fun _=>rfl) (fun _ _=>rfl) (by kernel_rfl)
def ztv:SC PG:=fz (zk1) Tryz.func188 [zmm N] (.cons (.int .u64) (.int .i64)) (.list (.int .u8)) [] (fun v=>z5q N v.1 v.2) (by kernel_rfl)
def zec:SE PG:=E0 [(2000040,[23]),(3000070,[70]),(3000108,[108])] [] [zwv N,zzu N,zpl N,ztv N]
def zoc:SL PG Tryz.f127.ntmps (Z9 Tryz.f127):=lz N (zec N) [] 250 ⟨[2,3,5,8],yem,[(2000000,[2], .boxV Y1),(2000001,[3], .boxV Y9),(2000002,[5], .sl (.int .u8))],[]⟩ (4,⟨[5],(.own 2000000),[(2000000,[5], .sl (.int .u8))],[]⟩) [] (z2y N N) (z06 N) (fun f v=>f v.1.2.2.2 v.2.1 v.2.2.1 v.2.2.2.1) (fun r b0 b1 b2 b3=>r (((),((),((),b0))),(b1,(b2,(b3,()))))) rfl (fun _=>rfl) (fun _ _=>rfl) (by kernel_rfl)
def zod:SL PG Tryz.f127.ntmps (Z9 Tryz.f127):=lz N (zec N) [] 58 ⟨[2,3,5,6],yem,[(2000000,[2], .boxV Y1),(2000001,[3], .boxV Y9),(2000002,[5], .sl (.int .u8))],[]⟩ (2,⟨[2,3,5],ymn,[(2000000,[2], .boxV Y1),(2000001,[3], .boxV Y9),(2000002,[5], .sl (.int .u8))],[]⟩) [] (z5j N N) (z07 N) (fun f v=>f v.1.2.2.2 v.2.1 v.2.2.1 v.2.2.2.1) (fun r b0 b1 b2 b3=>r (((),((),((),b0))),(b1,(b2,(b3,()))))) rfl (fun _=>rfl) (fun _ _=>rfl) (by kernel_rfl)
def zwx:SC PG:=fz (zec N) Tryz.func127 [zod N,zoc N] (.cons (.val Y1) (.val Y9)) (.fresh (.int .u8)) [] (fun v=>zcr N v.1 v.2) (by kernel_rfl)
def zn9:SE PG:=E0 [] [] []
def zqw:SL PG Tryz.f128.ntmps (Z9 Tryz.f128):=lz N (zn9) [] 28 ⟨[0,1,5],(.cons (.list (.int .u8)) (.cons (.int .i64) (.own 2000000))),[(2000000,[5], .sl (.list (.int .u8)))],[]⟩ (2,⟨[0,5],(.cons (.list (.int .u8)) (.own 2000000)),[(2000000,[5], .sl (.list (.int .u8)))],[]⟩) [] (z6t N N) (z4b N) (fun f v=>f v.1.1 v.1.2.1 v.2.1) (fun r b0 b1 b2=>r ((b0,(b1,())),(b2,()))) rfl (fun _=>rfl) (fun _ _=>rfl) (by kernel_rfl)
def zzv:SC PG:=fz (zn9) Tryz.func128 [zqw N] (.cons (.list (.int .u8)) (.int .i64)) (.fresh (.list (.int .u8))) [] (fun v=>zfm N v.1 v.2) (by kernel_rfl)
def y0t:SC PG:=fz (E0 [(K8,[5,10])] [] [zan N]) Tryz.func131 [] (.val Q5) (.val Q5) [] (fun v=>z8q N v) (by kernel_rfl)
def zm5:SE PG:=E0 [(K8,[40]),(2000021,[9,11,14,17,20])] [] [zmu N,zmy N,ze8 N,zpl N]
def zob:SL PG Tryz.f132.ntmps (Z9 Tryz.f132):=lz N (zm5 N) [] 58 ⟨[2,7,8],(.cons (.list (.int .i64)) Sh9_),[(2000000,[7], .sl (.int .u8))],[]⟩ (2,⟨[7],(.own 2000000),[(2000000,[7], .sl (.int .u8))],[]⟩) [] (z5i N N) (z05 N) (fun f v=>f v.1.1 v.1.2.2 v.2.1) (fun r b0 b1 b2=>r ((b0,((),b1)),(b2,()))) rfl (fun _=>rfl) (fun _ _=>rfl) (by kernel_rfl)
def zww:SC PG:=fz (zm5 N) Tryz.func132 [zob N] (.cons (.int .i64) (.cons (.list (.int .u8)) (.list (.int .i64)))) (.list (.int .u8)) [] (fun v=>zcq N v.1 v.2.1 v.2.2) (by kernel_rfl)
def zyw:SE PG:=E0 [] [] []
def zzd:SL PG Tryz.f190.ntmps (Z9 Tryz.f190):=lz N (zyw) [] 26 ⟨[0,1,5],(.cons (.list (.int .i64)) zmd),[],[]⟩ (1,⟨[4], .bool,[],[]⟩) [(2,⟨[], .nil,[],[]⟩)] (zfn N N) (zbl N) (fun f v=>f v.1.1 v.1.2.1 v.1.2.2) (fun r b0 b1 b2=>r ((b0,(b1,b2)),())) rfl (fun _=>rfl) (fun _ _=>rfl) (by kernel_rfl)
def y7m:SC PG:=fz (zyw) Tryz.func190 [zzd N] (.cons (.list (.int .i64)) (.int .i64)) .bool [] (fun v=>y6f N v.1 v.2) (by kernel_rfl)
def zl1:SE PG:=E0 [(K8,[2000001])] [] [y7m N]
def zw2:SL PG Tryz.f133.ntmps (Z9 Tryz.f133):=pz (zl1 N) [] 13 ⟨[1,2,4,29],(.cons (.int .i64) (.cons (.ptr 2000000 0) (.cons (.ptr 2000001 0) .bool))),[(2000000,[2], .boxV Q1),(2000001,[4], .boxC [.nils, .nils, .int .i64 0])],[]⟩ (1,⟨[4,5],Sh4_,[(2000000,[4], .boxV Q1)],[]⟩) [(0,⟨[1,2,4],(.cons (.int .i64) Sh2_),[(2000000,[2], .boxV Q1),(2000001,[4], .boxC [.nils, .nils, .int .i64 0])],[]⟩)] (fun v=>z9z N v.1.1 v.1.2.2.2 v.2.1) (by kernel_rfl)
def zw3:SL PG Tryz.f133.ntmps (Z9 Tryz.f133):=pz (zl1 N) [] 7 ⟨[1,2,4],(.cons (.int .i64) Sh2_),[(2000000,[2], .boxV Q1),(2000001,[4], .boxC [.nils, .nils, .int .i64 0])],[]⟩ (1,⟨[4,5],Sh4_,[(2000000,[4], .box (.cons (.list .bool) y5z)),(2000001,[4,1], .sl (.int .i64))],[]⟩) [] (fun v=>za0 N v.1.1 v.2.1) (by kernel_rfl)
def y4t:SC PG:=fz (zl1 N) Tryz.func133 [zw2 N,zw3 N] (.cons (.val Q1) (.int .i64)) (.tup (.cons (.val Q1) (.int .i64))) [] (fun v=>y24 N v.1 v.2) (by kernel_rfl)
def zna:SE PG:=E0 [(K8,[2000002])] [] []
def zqx:SL PG Tryz.f134.ntmps (Z9 Tryz.f134):=lz N (zna) [] 58 ⟨[1,2,3,4],yem,[(2000000,[1], .boxV Q1),(2000001,[2], .boxC [.nils, .nils, .int .i64 0]),(2000002,[3], .sl .bool)],[]⟩ (2,⟨[1,2,3],ymn,[(2000000,[1], .boxV Q1),(2000001,[2], .boxC [.nils, .nils, .int .i64 0]),(2000002,[3], .sl .bool)],[]⟩) [] (z1g N N) (z4c N) (fun f v=>f v.1.2.2.2 v.2.1 v.2.2.2.1) (fun r b0 b1 b2=>r (((),((),((),b0))),(b1,((),(b2,()))))) rfl (fun _=>rfl) (fun _ _=>rfl) (by kernel_rfl)
def zzw:SC PG:=fz (zna) Tryz.func134 [zqx N] (.val Q1) (.val Q1) [] (fun v=>zbt N v) (by kernel_rfl)
def zl0:SE PG:=E0 [(6,[30]),(16,[2000003])] [] [y0q N,zwx N,zzv N,y0p N,y0t N,zww N,zku N,y4t N,zzw N]
def zw0:SL PG Tryz.f78.ntmps (Z9 Tryz.f78):=lz N (zl0 N) [] 65530 ⟨[2,4,6,10,15],(.cons (.ptr 2000000 0) (.cons (.ptr 2000001 0) (.cons (.own 2000002) (.cons (.list (.int .i64)) (.int .i64))))),[(2000000,[2], .boxV Y9),(2000001,[4], .boxC [.int .i64 0, .nils, .nils, .nils, .nils, .int .i64 0, .int .i64 0, .int .i64 0, .int .i64 0, .nils, .nils, .nils, .int .i64 0]),(2000002,[6], .sl (.int .i64))],[]⟩ (4,⟨[2,4,10],(.cons (.ptr 2000000 0) (.cons (.ptr 2000001 0) (.list (.int .i64)))),[(2000000,[2], .boxV Y9),(2000001,[4], .boxC [.int .i64 0, .nils, .nils, .nils, .nils, .int .i64 0, .int .i64 0, .int .i64 0, .int .i64 0, .nils, .nils, .nils, .int .i64 0])],[]⟩) [] (z5a N N) (z62 N) (fun f v=>f v.1.2.2.2.1 v.1.2.2.2.2 v.2.1 v.2.2.2.1) (fun r b0 b1 b2 b3=>r (((),((),((),(b0,b1)))),(b2,((),(b3,()))))) rfl (fun _=>rfl) (fun _ _=>rfl) (by kernel_rfl)
def zw1:SL PG Tryz.f78.ntmps (Z9 Tryz.f78):=lz N (zl0 N) [] 1018 ⟨[2,4,5,6,8,9,10,11],(.cons (.ptr 2000000 0) (.cons (.ptr 2000001 0) (.cons (.ptr 2000002 0) (.cons (.list (.int .i64)) (.cons (.list (.int .u8)) (.cons (.own 2000003) yek)))))),[(2000000,[2], .boxV Y9),(2000001,[4], .boxC [.int .i64 0, .nils, .nils, .nils, .nils, .int .i64 0, .int .i64 0, .int .i64 0, .int .i64 0, .nils, .nils, .nils, .int .i64 0]),(2000002,[5], .boxV Y9),(2000003,[9], .sl (.list (.int .u8))),(2000004,[10], .sl (.int .i64))],[]⟩ (1,⟨[4],(.ptr 2000000 0),[(2000000,[4], .boxV zdm)],[]⟩) [(2,⟨[2,4,5,6,8,10],(.cons (.ptr 2000000 0) (.cons (.ptr 2000001 0) (.cons (.ptr 2000002 0) (.cons (.list (.int .i64)) (.cons (.list (.int .u8)) (.own 2000003)))))),[(2000000,[2], .boxV Y9),(2000001,[4], .boxC [.int .i64 0, .nils, .nils, .nils, .nils, .int .i64 0, .int .i64 0, .int .i64 0, .int .i64 0, .nils, .nils, .nils, .int .i64 0]),(2000002,[5], .boxV Y9),(2000003,[10], .sl (.int .i64))],[]⟩)] (z7b N N) (z39 N) (fun f v=>f v.1.2.2.2.1 v.1.2.2.2.2.1 v.1.2.2.2.2.2.2.2 v.2.1 v.2.2.2.1 v.2.2.2.2.1 v.2.2.2.2.2.1) (fun r b0 b1 b2 b3 b4 b5 b6=>r (((),((),((),(b0,(b1,((),((),b2))))))),(b3,((),(b4,(b5,(b6,()))))))) rfl (fun _=>rfl) (fun _ _=>rfl) (by kernel_rfl)
def y4p:SC PG:=fz (zl0 N) Tryz.func78 [zw1 N,zw0 N] (.cons (.val Y9) (.val Y1)) (.val zdm) [] (fun v=>zhi N v.1 v.2) (by kernel_rfl)
def zty:SC PG:=fz (E0 [] [] [y7l N,y4p N]) Tryz.func35 [] (.cons (.val Q5) (.cons (.int .i64) (.val Y1))) (.val zdm) [] (fun v=>zoy N v.1 v.2.1 v.2.2) (by kernel_rfl)
def zx3:SC PG:=fz (E0 [(2000017,[16])] [] [zu1 N,zu2 N,ztz N,zty N]) Tryz.func32 [] .nil (.val z8n) [] (fun _=>zpz N) (by kernel_rfl)
def y7u:SC PG:=fz (E0 [] [] []) Tryz.func136 [] (.cons (.val (.list Y8)) (.int .i64)) .bool [] (fun v=>zp4 N v.1 v.2) (by kernel_rfl)
def zqt:SM PG:=mz (E0 [] [] []) Tryz.func80 [] ⟨[0,1],(.cons (.int .i64) (.ptr 5000000 0)),[(5000000,[1], .box (.own 5000001)),(5000001,[1,0], .sl (.int .i64))],[]⟩ ⟨[0],(.tup .nil),[(5000000,[5000000], .box (.own 2000001)),(2000001,[5000000,0], .sl (.int .i64))],[]⟩ [] (fun v=>zaq N v.1.1 v.2.2.1) (by kernel_rfl)
def z15(self:Int->(List Z7)->(List Int)->Bool->(List Int)->Option ((Unit×((List Z7)×(Unit×((List Int)×(Bool×((Unit×(Unit×(Unit×(Unit×Unit))))×(Unit×(Unit×((List Int)×Unit))))))))))):CtrM:=ctrM ⟨[0,1,2,3,4,5],(.cons (.int .i64) Sh3_),[(5000000,[1], .box (.list Y8)),(5000001,[2], .box (.own 5000002)),(5000002,[2,0], .sl (.int .i64)),(5000003,[3], .box .bool),(5000004,[4], .box (.clo 135 Sh3_)),(5000005,[4,0,4], .box (.clo 80 (.ptr 5000006 0))),(5000006,[4,0,4,0,0], .box (.own 5000007)),(5000007,[4,0,4,0,0,0], .sl (.int .i64))],[]⟩ ⟨[0],(.tup .nil),[(5000000,[5000000], .box (.list Y8)),(5000001,[5000001], .box (.own 5000002)),(5000002,[5000002], .sl (.int .i64)),(5000003,[5000003], .box .bool),(5000004,[5000004], .box (.clo 135 Sh3_)),(5000005,[5000005], .box (.clo 80 (.ptr 5000006 0))),(5000006,[5000006], .box (.own 2000007)),(2000007,[5000006,0], .sl (.int .i64))],[]⟩ [] (fun v=>self v.1.1 v.2.1 v.2.2.2.1 v.2.2.2.2.1 v.2.2.2.2.2.2.2.2.1)
def zig(self:Int->(List Z7)->(List Int)->Bool->(List Int)->Option ((Unit×((List Z7)×(Unit×((List Int)×(Bool×((Unit×(Unit×(Unit×(Unit×Unit))))×(Unit×(Unit×((List Int)×Unit)))))))))))(hs:zc4 PG 135 (z15 self)):SE PG:=E0 [] [42,49] [y7u N] [⟨135,z15 self,hs⟩,zqt N]
def zmf(self:Int->(List Z7)->(List Int)->Bool->(List Int)->Option ((Unit×((List Z7)×(Unit×((List Int)×(Bool×((Unit×(Unit×(Unit×(Unit×Unit))))×(Unit×(Unit×((List Int)×Unit)))))))))))(hs:zc4 PG 135 (z15 self)):SL PG Tryz.f135.ntmps (Z9 Tryz.f135):=lz N (zig N self hs) [] 122 ⟨[0,2,4,5,34,35,36],(.cons (.int .i64) (.cons (.ptr 5000001 0) (.cons (.ptr 5000004 0) (.cons (.ptr 5000005 0) (.cons (.list (.int .i64)) zmd))))),[(5000001,[5000001], .box (.own 5000002)),(5000002,[5000002], .sl (.int .i64)),(5000004,[5000004], .box (.clo 135 Sh3_)),(5000000,[5000000], .box (.list Y8)),(5000003,[5000003], .box .bool),(5000005,[5000005], .box (.clo 80 (.ptr 5000006 0))),(5000006,[5000006], .box (.own 2000007)),(2000007,[5000006,0], .sl (.int .i64))],[]⟩ (2,⟨[0,2,5],(.cons (.int .i64) (.cons (.ptr 5000001 0) (.ptr 5000005 0))),[(5000001,[5000001], .box (.own 5000002)),(5000002,[5000002], .sl (.int .i64)),(5000005,[5000005], .box (.clo 80 (.ptr 5000006 0))),(5000006,[5000006], .box (.own 2000004)),(2000004,[5000006,0], .sl (.int .i64)),(5000000,[5000000], .box (.list Y8)),(5000003,[5000003], .box .bool),(5000004,[5000004], .box (.clo 135 Sh3_))],[]⟩) [] (z0g N self N) (y8 N self) (fun f v=>f v.1.1 v.1.2.2.2.2.1 v.1.2.2.2.2.2.1 v.1.2.2.2.2.2.2 v.2.2.1 v.2.2.2.2.1 v.2.2.2.2.2.1 v.2.2.2.2.2.2.2.2.1) (fun r b0 b1 b2 b3 b4 b5 b6 b7=>r ((b0,((),((),((),(b1,(b2,b3)))))),((),(b4,(((),((),((),((),())))),(b5,(b6,((),((),(b7,())))))))))) rfl (fun _=>rfl) (fun _ _=>rfl) (by kernel_rfl)
def zrl(self:Int->(List Z7)->(List Int)->Bool->(List Int)->Option ((Unit×((List Z7)×(Unit×((List Int)×(Bool×((Unit×(Unit×(Unit×(Unit×Unit))))×(Unit×(Unit×((List Int)×Unit)))))))))))(hs:zc4 PG 135 (z15 self)):SM PG:=mz (zig N self hs) Tryz.func135 [zmf N self hs] ⟨[0,1,2,3,4,5],(.cons (.int .i64) Sh3_),[(5000000,[1], .box (.list Y8)),(5000001,[2], .box (.own 5000002)),(5000002,[2,0], .sl (.int .i64)),(5000003,[3], .box .bool),(5000004,[4], .box (.clo 135 Sh3_)),(5000005,[4,0,4], .box (.clo 80 (.ptr 5000006 0))),(5000006,[4,0,4,0,0], .box (.own 5000007)),(5000007,[4,0,4,0,0,0], .sl (.int .i64))],[]⟩ ⟨[0],(.tup .nil),[(5000000,[5000000], .box (.list Y8)),(5000001,[5000001], .box (.own 5000002)),(5000002,[5000002], .sl (.int .i64)),(5000003,[5000003], .box .bool),(5000004,[5000004], .box (.clo 135 Sh3_)),(5000005,[5000005], .box (.clo 80 (.ptr 5000006 0))),(5000006,[5000006], .box (.own 2000007)),(2000007,[5000006,0], .sl (.int .i64))],[]⟩ [] (fun v=>z13 N self v.1.1 v.2.1 v.2.2.2.1 v.2.2.2.2.1 v.2.2.2.2.2.2.2.2.1) (by kernel_rfl)
def zqs:SM PG:=yq8 (f:=135) z15 (fun _ _ _ _ _=>none) (z13 N) (yhy fun _=>rfl) (fun self hs=>(zrl N self hs).h) N
def z5y:SE PG:=E0 [] [25] [] [zqs N]
def zav:SL PG Tryz.f79.ntmps (Z9 Tryz.f79):=lz N (z5y N) [] 506 ⟨[8,9,17,18,19],(.cons (.ptr 2000000 0) (.cons (.ptr 2000001 0) (.cons (.list (.int .i64)) zmd))),[(2000000,[8], .box .bool),(2000001,[9], .box (.clo 135 (.cons (.ptr 2000002 0) (.cons (.ptr 2000003 0) (.cons (.ptr 2000000 0) (.cons (.ptr 2000001 0) (.ptr 2000005 0))))))),(2000002,[9,0,0], .box (.list Y8)),(2000003,[9,0,1], .box (.own 2000004)),(2000004,[9,0,1,0], .sl (.int .i64)),(2000005,[9,0,4], .box (.clo 80 (.ptr 5000000 0))),(5000000,[5000000], .box (.own 2000007)),(2000007,[5000000,0], .sl (.int .i64))],[]⟩ (2,⟨[8],(.ptr 2000000 0),[(2000000,[8], .box .bool),(5000000,[5000000], .box (.own 2000002)),(2000002,[5000000,0], .sl (.int .i64))],[]⟩) [] (U9 N N) (U6 N) (fun f v=>f v.1.2.2.1 v.1.2.2.2.1 v.1.2.2.2.2 v.2.1 v.2.2.2.1 v.2.2.2.2.2.1 v.2.2.2.2.2.2.2.2.1) (fun r b0 b1 b2 b3 b4 b5 b6=>r (((),((),(b0,(b1,b2)))),(b3,(((),((),((),((),())))),(b4,((),(b5,((),((),(b6,())))))))))) rfl (fun _=>rfl) (fun _ _=>rfl) (by kernel_rfl)
def zca:SM PG:=mz (z5y N) Tryz.func79 [zav N] ⟨[0,1,2],(.cons (.val (.list Y8)) (.cons (.list (.int .i64)) (.clo 80 (.ptr 5000000 0)))),[(5000000,[2,0], .box (.own 5000001)),(5000001,[2,0,0], .sl (.int .i64))],[]⟩ ⟨[0], .bool,[(5000000,[5000000], .box (.own 2000001)),(2000001,[5000000,0], .sl (.int .i64))],[]⟩ [] (fun v=>pool_visit_m__pool_Reach_c1 N v.1.1 v.1.2.1 v.2.2.1) (by kernel_rfl)
def lay_slices_Sort_s_int_int_m_ren:Go.Shelf.Ren:=⟨fun | 189=>81 | 125=>138 | 257=>137 | 128=>200 | 129=>201 | 294=>191 | 295=>192 | 296=>193 | 297=>194 | 298=>195 | 299=>196 | 216=>197 | 300=>198 | 301=>199 | 328=>244 | 329=>245 | 330=>246 | 331=>247 | 332=>248 | 215=>249 | 343=>289 | n=>n,fun | 28=>27 | 3=>3 | 46=>240 | 0=>0 | 51=>310 | 53=>103 | 4=>4 | 183=>304 | 182=>303 | 131=>117 | 5=>5 | 9=>9 | 218=>347 | 222=>351 | 228=>404 | 229=>366 | n=>n,fun n=>n⟩
theorem zfi:Go.Proofs.Lays.n189 PG lay_slices_Sort_s_int_int_m_ren:={
 mixed:=by kernel_rfl
 f125:=Tryz.func138.trans (congrArg some (by kernel_rfl))
 f128:=Tryz.func200.trans (congrArg some (by kernel_rfl))
 f129:=Tryz.func201.trans (congrArg some (by kernel_rfl))
 f189:=Tryz.func81.trans (congrArg some (by kernel_rfl))
 f215:=Tryz.func249.trans (congrArg some (by kernel_rfl))
 f216:=Tryz.func197.trans (congrArg some (by kernel_rfl))
 f257:=Tryz.func137.trans (congrArg some (by kernel_rfl))
 f294:=Tryz.func191.trans (congrArg some (by kernel_rfl))
 f295:=Tryz.func192.trans (congrArg some (by kernel_rfl))
 f296:=Tryz.func193.trans (congrArg some (by kernel_rfl))
 f297:=Tryz.func194.trans (congrArg some (by kernel_rfl))
 f298:=Tryz.func195.trans (congrArg some (by kernel_rfl))
 f299:=Tryz.func196.trans (congrArg some (by kernel_rfl))
 f300:=Tryz.func198.trans (congrArg some (by kernel_rfl))
 f301:=Tryz.func199.trans (congrArg some (by kernel_rfl))
 f328:=Tryz.func244.trans (congrArg some (by kernel_rfl))
 f329:=Tryz.func245.trans (congrArg some (by kernel_rfl))
 f330:=Tryz.func246.trans (congrArg some (by kernel_rfl))
 f331:=Tryz.func247.trans (congrArg some (by kernel_rfl))
 f332:=Tryz.func248.trans (congrArg some (by kernel_rfl))
 f343:=Tryz.func289.trans (congrArg some (by kernel_rfl))
 t0:=Tryz.underlying0
 a0:=Tryz.isAgg0
 z0:=Tryz.sizeOf0
 v0:=Tryz.zeroValue0
 t3:=Tryz.underlying3
 a3:=Tryz.isAgg3
 z3:=Tryz.sizeOf3
 v3:=Tryz.zeroValue3
 t4:=Tryz.underlying4
 a4:=Tryz.isAgg4
 z4:=Tryz.sizeOf4
 v4:=Tryz.zeroValue4
 t5:=Tryz.underlying5
 a5:=Tryz.isAgg5
 z5:=Tryz.sizeOf5
 v5:=Tryz.zeroValue5
 t9:=Tryz.underlying9
 a9:=Tryz.isAgg9
 z9:=Tryz.sizeOf9
 v9:=Tryz.zeroValue9
 t28:=Tryz.underlying27
 a28:=Tryz.isAgg27
 z28:=Tryz.sizeOf27
 v28:=Tryz.zeroValue27
 t46:=Tryz.underlying240
 a46:=Tryz.isAgg240
 z46:=Tryz.sizeOf240
 v46:=Tryz.zeroValue240
 t51:=Tryz.underlying310
 a51:=Tryz.isAgg310
 z51:=Tryz.sizeOf310
 v51:=Tryz.zeroValue310
 t53:=Tryz.underlying103
 a53:=Tryz.isAgg103
 z53:=Tryz.sizeOf103
 v53:=Tryz.zeroValue103
 t131:=Tryz.underlying117
 a131:=Tryz.isAgg117
 z131:=Tryz.sizeOf117
 v131:=Tryz.zeroValue117
 t182:=Tryz.underlying303
 a182:=Tryz.isAgg303
 z182:=Tryz.sizeOf303
 v182:=Tryz.zeroValue303
 t183:=Tryz.underlying304
 a183:=Tryz.isAgg304
 z183:=Tryz.sizeOf304
 v183:=Tryz.zeroValue304
 t218:=Tryz.underlying347
 a218:=Tryz.isAgg347
 z218:=Tryz.sizeOf347
 v218:=Tryz.zeroValue347
 t222:=Tryz.underlying351
 a222:=Tryz.isAgg351
 z222:=Tryz.sizeOf351
 v222:=Tryz.zeroValue351
 t228:=Tryz.underlying404
 a228:=Tryz.isAgg404
 z228:=Tryz.sizeOf404
 v228:=Tryz.zeroValue404
 t229:=Tryz.underlying366
 a229:=Tryz.isAgg366
 z229:=Tryz.sizeOf366
 v229:=Tryz.zeroValue366
 }
def zhu:Code:=match Tryz.f81.body with | some c=>c | none=> .skip
def z7k(N:Nat):CtrM:=ctrM sortIn sortOut [] (fun v=>z1b N v.2.1)
theorem zcf(N:Nat):zc4 PG 81 (z7k N):=by
 have e1:lay_slices_Sort_s_int_int_m_ren.f 189=81:=by kernel_rfl
 have h:=yde zfi (fn:=Tryz.f81) (c:=zhu) (by rw[e1];exact Tryz.func81) (by kernel_rfl) (by kernel_rfl)
 rw[e1]at h
 exact h
def zg7:SM PG:=⟨81,z7k N,zcf N⟩
def y5k:SC PG:=fz (E0 [] [9,11] [] [zca N,zg7 N]) Tryz.func38 [] (.cons (.val (.list Y8)) (.list (.int .i64))) (.fresh (.int .i64)) [] (fun v=>zb1 N v.1 v.2) (by kernel_rfl)
def zpi:SC PG:=fz (E0 [] [] []) Tryz.func39 [] (.cons (.val Y9) (.int .i64)) (.tup (.cons (.int .i64) .bool)) [] (fun v=>zcj N v.1 v.2) (by kernel_rfl)
def zji:SE PG:=E0 [(K8,[2000002,2000003])] [] [y5k N,zpi N]
def zsg:SL PG Tryz.f16.ntmps (Z9 Tryz.f16):=lz N (zji N) [] 250 ⟨[2,4,8,32,33,34],(.cons (.ptr 2000000 0) (.cons (.ptr 2000001 0) (.cons (.ptr 2000002 0) (.cons (.own 2000005) zmd)))),[(2000000,[2], .boxV Y9),(2000001,[4], .boxC [.nils, .nils, .int .i64 0]),(2000002,[8], .box (.cons (.own 2000003) yek)),(2000003,[8,0], .sl (.int .i64)),(2000004,[8,1], .sl (.int .i64)),(2000005,[32], .sl (.int .i64))],[]⟩ (4,⟨[4,8],Sh2_,[(2000000,[4], .boxC [.nils, .nils, .int .i64 0]),(2000001,[8], .box yj2),(2000002,[8,0], .sl (.int .i64)),(2000003,[8,1], .sl (.int .i64))],[]⟩) [] (z7u N N) (z1l N) (fun f v=>f v.1.2.2.2.2.1 v.1.2.2.2.2.2 v.2.1 v.2.2.2.1.2.2 v.2.2.2.2.1 v.2.2.2.2.2.1 v.2.2.2.2.2.2.1) (fun r b0 b1 b2 b3 b4 b5 b6=>r (((),((),((),((),(b0,b1))))),(b2,((),(((),((),b3)),(b4,(b5,(b6,())))))))) rfl (fun _=>rfl) (fun _ _=>rfl) (by kernel_rfl)
def zsh:SL PG Tryz.f16.ntmps (Z9 Tryz.f16):=lz N (zji N) [] 58 ⟨[2,3,4,5,17,18,19],(.cons (.ptr 2000000 0) (.cons (.ptr 2000001 0) (.cons (.ptr 2000002 0) (.cons (.own 2000003) (.cons (.list z6h) zmd))))),[(2000000,[2], .boxV Y9),(2000001,[3], .boxV Y1),(2000002,[4], .boxC [.nils, .nils, .int .i64 0]),(2000003,[5], .sl (.int .i64))],[]⟩ (2,⟨[2,3,4,5],(.cons (.ptr 2000000 0) (.cons (.ptr 2000001 0) (.cons (.ptr 2000002 0) (.own 2000003)))),[(2000000,[2], .boxV Y9),(2000001,[3], .boxV Y1),(2000002,[4], .boxC [.nils, .nils, .int .i64 0]),(2000003,[5], .sl (.int .i64))],[]⟩) [] (z7v N N) (z1m N) (fun f v=>f v.1.2.2.2.2.1 v.1.2.2.2.2.2.1 v.1.2.2.2.2.2.2 v.2.1 v.2.2.1 v.2.2.2.2.1) (fun r b0 b1 b2 b3 b4 b5=>r (((),((),((),((),(b0,(b1,b2)))))),(b3,(b4,((),(b5,())))))) rfl (fun _=>rfl) (fun _ _=>rfl) (by kernel_rfl)
def zmt:SC PG:=fz (zji N) Tryz.func16 [zsh N,zsg N] (.cons (.val Y9) (.val Y1)) (.val Q2) [] (fun v=>zb4 N v.1 v.2) (by kernel_rfl)
def zpj:SC PG:=fz (E0 [] [] []) Tryz.func19 [] (.val Q2) .bool [] (fun v=>zay N v) (by kernel_rfl)
def clone82_ren:Go.Shelf.Ren:=⟨fun | 41=>82 | n=>n,fun | 22=>27 | 23=>3 | n=>n,fun n=>n⟩
theorem ynt:CloneL PG clone82_ren:={
 mixed:=by kernel_rfl
 f41:=⟨Tryz.f82.name,by decide,Tryz.func82.trans (congrArg some (by kernel_rfl))⟩
 t4:=Tryz.underlying4
 a4:=Tryz.isAgg4
 z4:=Tryz.sizeOf4
 v4:=Tryz.zeroValue4
 t22:=Tryz.underlying27
 a22:=Tryz.isAgg27
 z22:=Tryz.sizeOf27
 v22:=Tryz.zeroValue27
 }
def zih:Code:=match Tryz.f82.body with | some c=>c | none=> .skip
def z7q(N:Nat):Ctr:=zm9 (.list (.int .i64)) (.fresh (.int .i64)) [] (fun v=>z5z N v)
def ti_slices_Clone_s_int_int:TI:=match ydy tyRows 3 with | some t=>t | none=>⟨.other,0,0,[],none⟩
theorem zds(N:Nat):z69 PG 82 (fun vs=>(z7q N).run vs some):=by
 have e1:clone82_ren.f 41=82:=by kernel_rfl
 have e2:clone82_ren.t 23=3:=by kernel_rfl
 have h:=yaf ynt (ei:=ti_slices_Clone_s_int_int) (ty:=(.int .i64)) (fn:=Tryz.f82) (c:=zih) (by rw[e2];exact y47 y62 3 _ (by kernel_rfl)) (by kernel_rfl) (by rw[e1];exact Tryz.func82) (by kernel_rfl) (by kernel_rfl)
 rw[e1,show ti_slices_Clone_s_int_int.bytes=8 by kernel_rfl]at h
 exact h
def zhh:SC PG:=⟨82,z7q N,zds N⟩
def ya0:SC PG:=fz (E0 [] [] []) Tryz.func43 [] (.cons (.val Q5) (.int .i64)) .bool [] (fun v=>y49 N v.1 v.2) (by kernel_rfl)
def z6p:SC PG:=fz (E0 [(K8,[1])] [] []) Tryz.func156 [] (.list J6) (.clo 229 (.bx (.list J6) 0)) [] (fun v=>J9 N v) (by kernel_rfl)
def zqr:SR PG:=rz (E0 [] [] []) 1 ([]:List (SL PG Tryz.f97.ntmps (Z9 Tryz.f97))) ([]:List (SL PG Tryz.f97.ntmps (Z9 Tryz.f97))) 116 117 ⟨[15,16,3,4,5],(.cons (.int .i64) (.cons (.agg (.cons .bool (.cons (.int .i64) (.list (.int .u8))))) (.cons (.ptr 5000000 0) (.cons (.ptr 5000001 0) (.ptr 5000003 0))))),[(5000000,[3], .box (.int .i64)),(5000001,[4], .box (.own 5000002)),(5000002,[4,0], .sl (.int .u8)),(5000003,[5], .box (.int .i64))],[]⟩ (1,⟨[], .nil,[(5000000,[5000000], .box (.int .i64)),(5000001,[5000001], .box (.list (.int .u8))),(5000002,[5000002], .sl (.int .u8)),(5000003,[5000003], .boxC [.int .i64 0])],[]⟩) [(0,⟨[], .nil,[(5000000,[5000000], .box (.int .i64)),(5000001,[5000001], .box (.own 5000002)),(5000002,[5000002], .sl (.int .u8)),(5000003,[5000003], .box (.int .i64))],[]⟩)] (fun v=>zm8 N v.1.1 v.1.2.1.1 v.1.2.1.2.1 v.1.2.1.2.2 v.2.1 v.2.2.2.1 v.2.2.2.2.1) (by kernel_rfl)
def y0:SE PG:=E0 [] [17] [] [] [zqr N]
def z37:SL PG Tryz.f229.ntmps (Z9 Tryz.f229):=lz N (y0 N) [] 6 ⟨[0,1,3],(.cons (.yld 5000000) (.cons (.bx (.list J6) 0) (.int .i64))),[(5000000,[5000000], .rng 1 y9n 0),(5000001,[5000001], .box (.int .i64)),(5000002,[5000002], .box (.own 5000003)),(5000003,[5000003], .sl (.int .u8)),(5000004,[5000004], .box (.int .i64))],[]⟩ (1,⟨[], .nil,[(5000000,[5000000], .rng 1 y9n 1),(5000001,[5000001], .box (.int .i64)),(5000002,[5000002], .box (.list (.int .u8))),(5000004,[5000004], .boxC [.int .i64 0]),(5000003,[5000003], .sl (.int .u8))],[]⟩) [(2,⟨[], .nil,[(5000000,[5000000], .rng 1 y9n 0),(5000001,[5000001], .box (.int .i64)),(5000002,[5000002], .box (.own 5000003)),(5000003,[5000003], .sl (.int .u8)),(5000004,[5000004], .box (.int .i64))],[]⟩)] (X6 N N) (V5 N) (fun f v=>f v.1.2.1 v.1.2.2 v.2.2.1 v.2.2.2.2.1 v.2.2.2.2.2.1) (fun r b0 b1 b2 b3 b4=>r (((),(b0,b1)),(((),((),())),(b2,((),(b3,(b4,()))))))) rfl (fun _=>rfl) (fun _ _=>rfl) (by kernel_rfl)
def z4k:SM PG:=mz (y0 N) Tryz.func229 [z37 N] ⟨[0,1],(.cons (.yld 5000000) (.bx (.list J6) 0)),[(5000000,[0], .rng 1 y9n 0),(5000001,[0,0], .box (.int .i64)),(5000002,[0,1], .box (.own 5000003)),(5000003,[0,1,0], .sl (.int .u8)),(5000004,[0,2], .box (.int .i64))],[]⟩ ⟨[0],(.tup .nil),[(5000000,[5000000], .rng 1 y9n 1),(5000001,[5000001], .box (.int .i64)),(5000002,[5000002], .box (.list (.int .u8))),(5000004,[5000004], .boxC [.int .i64 0]),(5000003,[5000003], .sl (.int .u8))],[]⟩ [⟨[0],(.tup .nil),[(5000000,[5000000], .rng 1 y9n 0),(5000001,[5000001], .box (.int .i64)),(5000002,[5000002], .box (.own 5000003)),(5000003,[5000003], .sl (.int .u8)),(5000004,[5000004], .box (.int .i64))],[]⟩] (fun v=>U4 N v.1.2 v.2.2.1 v.2.2.2.2.1 v.2.2.2.2.2.1) (by kernel_rfl)
def y2t:SE PG:=E0 [] [] [ya0 N,z6p N] [z4k N]
def y0n:SL PG Tryz.f97.ntmps (Z9 Tryz.f97):=gz (y2t N) 1 58 (.tmp 14) ⟨[2,3,4,5,14],(.cons (.ptr 2000000 0) (.cons (.ptr 2000001 0) (.cons (.ptr 2000002 0) (.cons (.ptr 2000003 0) (.clo 229 (.bx (.list J6) 0)))))),[(2000000,[2], .boxV Q5),(2000001,[3], .box (.int .i64)),(2000002,[4], .boxC [.nils]),(2000003,[5], .boxC [.int .i64 0])],[]⟩ (1,⟨[4,5],Sh2_,[(2000000,[4], .box (.list (.int .u8))),(2000001,[5], .boxC [.int .i64 0])],[]⟩) [(0,⟨[2,3,4,5],(.cons (.ptr 2000000 0) (.cons (.ptr 2000001 0) (.cons (.ptr 2000002 0) (.ptr 2000004 0)))),[(2000000,[2], .boxV Q5),(2000001,[3], .box (.int .i64)),(2000002,[4], .box (.own 2000003)),(2000003,[4,0], .sl (.int .u8)),(2000004,[5], .box (.int .i64))],[]⟩)] (fun v=>zo4 N v.1.2.2.2.2 v.2.1 v.2.2.1) (by kernel_rfl)
def ya1:SC PG:=fz (y2t N) Tryz.func97 [y0n N] (.cons (.val Q5) (.int .i64)) (.tup (.cons (.list (.int .u8)) (.int .i64))) [] (fun v=>zvl N v.1 v.2) (by kernel_rfl)
def zux:SE PG:=E0 [] [] []
def zwu:SL PG Tryz.f99.ntmps (Z9 Tryz.f99):=lz N (zux) [] 58 ⟨[3,6,7,8],(.cons (.int .u64) (.cons (.list (.int .u8)) zmd)),[],[]⟩ (2,⟨[3],(.int .u64),[],[]⟩) [] (zag N N) (z3r N) (fun f v=>f v.1.1 v.1.2.1 v.1.2.2.1 v.1.2.2.2) (fun r b0 b1 b2 b3=>r ((b0,(b1,(b2,b3))),())) rfl (fun _=>rfl) (fun _ _=>rfl) (by kernel_rfl)
def y5l:SC PG:=fz (zux) Tryz.func99 [zwu N] (.list (.int .u8)) (.int .u64) [] (fun v=>zm0 N v) (by kernel_rfl)
def zrk:SC PG:=fz (E0 [] [] [ya1 N,y5l N]) Tryz.func84 [] (.cons (.bx (.cons (.list (.int .i64)) (.cons (.list (.int .i64)) (.cons (.int .i64) (.cons (.int .i64) (.cons (.list (.list (.int .u8))) (.cons (.list J6) (.cons (.list .bool) (.cons (.list (.int .i64)) (.cons (.int .i64) (.cons (.int .i64) (.cons (.int .i64) (.cons (.int .i64) (.cons (.list (.int .i64)) (.cons (.list (.int .u64)) (.list (.int .i64)))))))))))))))) 0) (.cons (.int .i64) (.int .i64))) .bool [] (fun v=>zam N v.1.1 v.1.2.1 v.1.2.2.1 v.1.2.2.2.1 v.1.2.2.2.2.1 v.1.2.2.2.2.2.1 v.1.2.2.2.2.2.2.1 v.1.2.2.2.2.2.2.2.1 v.1.2.2.2.2.2.2.2.2.1 v.1.2.2.2.2.2.2.2.2.2.1 v.1.2.2.2.2.2.2.2.2.2.2.1 v.1.2.2.2.2.2.2.2.2.2.2.2.1 v.1.2.2.2.2.2.2.2.2.2.2.2.2.1 v.1.2.2.2.2.2.2.2.2.2.2.2.2.2.1 v.1.2.2.2.2.2.2.2.2.2.2.2.2.2.2 v.2.1 v.2.2) (by kernel_rfl)
def zme:SM PG:=mz (E0 [] [] []) Tryz.func83 [] ⟨[0],(.ptr 5000000 0),[(5000000,[0], .box (.cons (.list (.int .i64)) (.cons (.own 5000001) Sh0_))),(5000001,[0,1], .sl (.int .i64))],[]⟩ ⟨[0],(.clo 139 (.ptr 2000000 0)),[(2000000,[0,0], .box (.ptr 5000000 0)),(5000000,[5000000], .box (.cons (.list (.int .i64)) (.cons (.own 5000001) Sh0_))),(5000001,[5000001], .sl (.int .i64))],[]⟩ [] (fun v=>zas N v.2.1.1 v.2.1.2.2.1 v.2.1.2.2.2.1 v.2.1.2.2.2.2.1 v.2.1.2.2.2.2.2.1 v.2.1.2.2.2.2.2.2.1 v.2.1.2.2.2.2.2.2.2.1 v.2.1.2.2.2.2.2.2.2.2.1 v.2.1.2.2.2.2.2.2.2.2.2.1 v.2.1.2.2.2.2.2.2.2.2.2.2.1 v.2.1.2.2.2.2.2.2.2.2.2.2.2.1 v.2.1.2.2.2.2.2.2.2.2.2.2.2.2.1 v.2.1.2.2.2.2.2.2.2.2.2.2.2.2.2.1 v.2.1.2.2.2.2.2.2.2.2.2.2.2.2.2.2 v.2.2.1) (by kernel_rfl)
def zml:SR PG:=rz (E0 [] [] [zrk N]) 0 ([]:List (SL PG Tryz.f40.ntmps (Z9 Tryz.f40))) ([]:List (SL PG Tryz.f40.ntmps (Z9 Tryz.f40))) 500 501 ⟨[27,28,5,8],(.cons (.int .i64) (.cons (.int .i64) (.cons (.ptr 5000000 0) (.ptr 5000001 0)))),[(5000000,[5], .box (.int .i64)),(5000001,[8], .box (.ptr 5000002 0)),(5000002,[8,0], .box (.cons (.list (.int .i64)) (.cons (.own 5000003) Sh0_))),(5000003,[8,0,1], .sl (.int .i64))],[]⟩ (2,⟨[], .nil,[(5000000,[5000000], .box (.int .i64)),(5000001,[5000001], .box (.ptr 5000002 0)),(5000002,[5000002], .box yj0),(2000003,[5000002,1], .sl (.int .i64))],[]⟩) [(0,⟨[], .nil,[(5000000,[5000000], .box (.int .i64)),(5000001,[5000001], .box (.ptr 5000002 0)),(5000002,[5000002], .box yj0),(2000003,[5000002,1], .sl (.int .i64))],[]⟩)] (fun v=>z7m N v.1.1 v.1.2.1 v.2.1 v.2.2.2.1.1 v.2.2.2.1.2.2.1 v.2.2.2.1.2.2.2.1 v.2.2.2.1.2.2.2.2.1 v.2.2.2.1.2.2.2.2.2.1 v.2.2.2.1.2.2.2.2.2.2.1 v.2.2.2.1.2.2.2.2.2.2.2.1 v.2.2.2.1.2.2.2.2.2.2.2.2.1 v.2.2.2.1.2.2.2.2.2.2.2.2.2.1 v.2.2.2.1.2.2.2.2.2.2.2.2.2.2.1 v.2.2.2.1.2.2.2.2.2.2.2.2.2.2.2.1 v.2.2.2.1.2.2.2.2.2.2.2.2.2.2.2.2.1 v.2.2.2.1.2.2.2.2.2.2.2.2.2.2.2.2.2.1 v.2.2.2.1.2.2.2.2.2.2.2.2.2.2.2.2.2.2 v.2.2.2.2.1) (by kernel_rfl)
def z96:SE PG:=E0 [] [34] [zpi N] [] [zml N]
def zcg:SL PG Tryz.f139.ntmps (Z9 Tryz.f139):=lz N (z96 N) [] 2 ⟨[0,1],(.cons (.yld 5000000) (.ptr 5000005 0)),[(5000005,[5000005], .box (.ptr 5000003 0)),(5000003,[5000003], .box (.cons (.list (.int .i64)) (.cons (.own 2000002) Sh0_))),(2000002,[5000003,1], .sl (.int .i64)),(5000000,[5000000], .rng 0 y9m 0),(5000001,[5000001], .box (.int .i64)),(5000002,[5000002], .box (.ptr 5000003 0))],[]⟩ (1,⟨[], .nil,[(5000000,[5000000], .rng 0 y9m 2),(5000001,[5000001], .box (.int .i64)),(5000002,[5000002], .box (.ptr 5000003 0)),(5000003,[5000003], .box yel),(2000004,[5000003,1], .sl (.int .i64)),(5000005,[5000005], .box (.ptr 5000003 0))],[]⟩) [(2,⟨[], .nil,[(5000000,[5000000], .rng 0 y9m 0),(5000001,[5000001], .box (.int .i64)),(5000002,[5000002], .box (.ptr 5000003 0)),(5000003,[5000003], .box yel),(2000004,[5000003,1], .sl (.int .i64)),(5000005,[5000005], .box (.ptr 5000003 0))],[]⟩)] (K0 N N) (Q6 N) (fun f v=>f v.2.2.1.1 v.2.2.1.2.2.1 v.2.2.1.2.2.2.1 v.2.2.1.2.2.2.2.1 v.2.2.1.2.2.2.2.2.1 v.2.2.1.2.2.2.2.2.2.1 v.2.2.1.2.2.2.2.2.2.2.1 v.2.2.1.2.2.2.2.2.2.2.2.1 v.2.2.1.2.2.2.2.2.2.2.2.2.1 v.2.2.1.2.2.2.2.2.2.2.2.2.2.1 v.2.2.1.2.2.2.2.2.2.2.2.2.2.2.1 v.2.2.1.2.2.2.2.2.2.2.2.2.2.2.2.1 v.2.2.1.2.2.2.2.2.2.2.2.2.2.2.2.2.1 v.2.2.1.2.2.2.2.2.2.2.2.2.2.2.2.2.2 v.2.2.2.1 v.2.2.2.2.2.1) (fun r b0 b1 b2 b3 b4 b5 b6 b7 b8 b9 b10 b11 b12 b13 b14 b15=>r (((),()),((),((b0,((),(b1,(b2,(b3,(b4,(b5,(b6,(b7,(b8,(b9,(b10,(b11,(b12,b13)))))))))))))),(b14,(((),()),(b15,((),())))))))) rfl (fun _=>rfl) (fun _ _=>rfl) (by kernel_rfl)
def zg8:SM PG:=mz (z96 N) Tryz.func139 [zcg N] ⟨[0,1],(.cons (.yld 5000000) (.ptr 5000005 0)),[(5000000,[0], .rng 0 y9m 0),(5000001,[0,0], .box (.int .i64)),(5000002,[0,1], .box (.ptr 5000003 0)),(5000003,[0,1,0], .box (.cons (.list (.int .i64)) (.cons (.own 5000004) Sh0_))),(5000004,[0,1,0,1], .sl (.int .i64)),(5000005,[1], .box (.ptr 5000003 0))],[]⟩ ⟨[0],(.tup .nil),[(5000000,[5000000], .rng 0 y9m 2),(5000001,[5000001], .box (.int .i64)),(5000002,[5000002], .box (.ptr 5000003 0)),(5000003,[5000003], .box yel),(2000004,[5000003,1], .sl (.int .i64)),(5000005,[5000005], .box (.ptr 5000003 0))],[]⟩ [⟨[0],(.tup .nil),[(5000000,[5000000], .rng 0 y9m 0),(5000001,[5000001], .box (.int .i64)),(5000002,[5000002], .box (.ptr 5000003 0)),(5000003,[5000003], .box yel),(2000004,[5000003,1], .sl (.int .i64)),(5000005,[5000005], .box (.ptr 5000003 0))],[]⟩] (fun v=>z5h N v.2.2.1 v.2.2.2.2.1.1 v.2.2.2.2.1.2.2.1 v.2.2.2.2.1.2.2.2.1 v.2.2.2.2.1.2.2.2.2.1 v.2.2.2.2.1.2.2.2.2.2.1 v.2.2.2.2.1.2.2.2.2.2.2.1 v.2.2.2.2.1.2.2.2.2.2.2.2.1 v.2.2.2.2.1.2.2.2.2.2.2.2.2.1 v.2.2.2.2.1.2.2.2.2.2.2.2.2.2.1 v.2.2.2.2.1.2.2.2.2.2.2.2.2.2.2.1 v.2.2.2.2.1.2.2.2.2.2.2.2.2.2.2.2.1 v.2.2.2.2.1.2.2.2.2.2.2.2.2.2.2.2.2.1 v.2.2.2.2.1.2.2.2.2.2.2.2.2.2.2.2.2.2.1 v.2.2.2.2.1.2.2.2.2.2.2.2.2.2.2.2.2.2.2 v.2.2.2.2.2.1) (by kernel_rfl)
def zug:SE PG:=E0 [(K8,[2000003])] [26] [zhh N] [zme N,zg8 N]
def zvy:SL PG Tryz.f40.ntmps (Z9 Tryz.f40):=gz (zug N) 0 250 (.tmp 26) ⟨[5,6,8,26],(.cons (.ptr 2000000 0) (.cons (.ptr 2000001 0) (.cons (.ptr 2000002 0) (.clo 139 (.ptr 2000005 0))))),[(2000000,[5], .box (.int .i64)),(2000001,[6], .boxC [.nils, .nils, .int .i64 0]),(2000002,[8], .box (.ptr 2000003 0)),(2000003,[8,0], .box yel),(2000004,[8,0,1], .sl (.int .i64)),(2000005,[26,0], .box (.ptr 2000003 0))],[]⟩ (2,⟨[6,8],Sh2_,[(2000000,[6], .boxC [.nils, .nils, .int .i64 0]),(2000001,[8], .box (.ptr 2000002 0)),(2000002,[8,0], .box yj0),(2000003,[8,0,1], .sl (.int .i64))],[]⟩) [(0,⟨[6,8],Sh2_,[(2000000,[6], .boxC [.nils, .nils, .int .i64 0]),(2000001,[8], .box (.ptr 2000002 0)),(2000002,[8,0], .box yj0),(2000003,[8,0,1], .sl (.int .i64))],[]⟩)] (fun v=>zj8 N v.2.1 v.2.2.2.2.1.1 v.2.2.2.2.1.2.2.1 v.2.2.2.2.1.2.2.2.1 v.2.2.2.2.1.2.2.2.2.1 v.2.2.2.2.1.2.2.2.2.2.1 v.2.2.2.2.1.2.2.2.2.2.2.1 v.2.2.2.2.1.2.2.2.2.2.2.2.1 v.2.2.2.2.1.2.2.2.2.2.2.2.2.1 v.2.2.2.2.1.2.2.2.2.2.2.2.2.2.1 v.2.2.2.2.1.2.2.2.2.2.2.2.2.2.2.1 v.2.2.2.2.1.2.2.2.2.2.2.2.2.2.2.2.1 v.2.2.2.2.1.2.2.2.2.2.2.2.2.2.2.2.2.1 v.2.2.2.2.1.2.2.2.2.2.2.2.2.2.2.2.2.2.1 v.2.2.2.2.1.2.2.2.2.2.2.2.2.2.2.2.2.2.2 v.2.2.2.2.2.1) (by kernel_rfl)
def y4m:SC PG:=fz (zug N) Tryz.func40 [zvy N] (.cons (.val Q2) (.cons (.val Y9) (.int .i64))) (.tup (.cons (.val Q2) (.int .i64))) [] (fun v=>zrq N v.1 v.2.1 v.2.2) (by kernel_rfl)
def zpr:SC PG:=fz (E0 [] [] [y4m N]) Tryz.func17 [] (.cons (.val Q2) (.cons (.val Y9) (.int .i64))) (.val zv3) [] (fun v=>z78 N v.1 v.2.1 v.2.2) (by kernel_rfl)
def zui:SE PG:=E0 [(K8,[2000002])] [] [zan N]
def zw4:SL PG Tryz.f33.ntmps (Z9 Tryz.f33):=lz N (zui N) [] 58 ⟨[1,2,3,4],Sh5_,[(2000000,[1], .boxV Q5),(2000001,[2], .boxC [.int .i64 0, .nils, .nils]),(2000002,[3], .box (.cons (.int .i64) (.cons (.own 2000003) (.own 2000004)))),(2000003,[3,1], .sl (.list (.int .u8))),(2000004,[3,2], .sl J6)],[]⟩ (2,⟨[2,3],Sh2_,[(2000000,[2], .boxC [.int .i64 0, .nils, .nils]),(2000001,[3], .box (.cons (.int .i64) (.cons (.own 2000002) (.own 2000003)))),(2000002,[3,1], .sl (.list (.int .u8))),(2000003,[3,2], .sl J6)],[]⟩) [] (za1 N N) (z3a N) (fun f v=>f v.1.2.2.2 v.2.1 v.2.2.2.1.1 v.2.2.2.2.1 v.2.2.2.2.2.1) (fun r b0 b1 b2 b3 b4=>r (((),((),((),b0))),(b1,((),((b2,((),())),(b3,(b4,()))))))) rfl (fun _=>rfl) (fun _ _=>rfl) (by kernel_rfl)
def zpn:SC PG:=fz (zui N) Tryz.func33 [zw4 N] (.val Q5) (.val Q5) [] (fun v=>zct N v) (by kernel_rfl)
def zpk:SC PG:=fz (E0 [] [] []) Tryz.func21 [] (.cons (.val Y9) (.int .i64)) (.int .i64) [] (fun v=>zcm N v.1 v.2) (by kernel_rfl)
def y7n:SC PG:=fz (E0 [(K8,[42,30,30,4126])] [] [zj9 N,zan N]) Tryz.func37 [] (.cons (.val Q5) (.val zv2)) (.tup (.cons (.val Q5) (.int .i64))) [] (fun v=>zp0 N v.1 v.2) (by kernel_rfl)
def zlb:SC PG:=fz (E0 [] [] [zpk N,zu0 N,y7n N]) Tryz.func14 [] (.cons (.val Y9) (.cons (.list (.int .i64)) (.val z59))) (.tup (.cons (.val Y9) (.int .i64))) [] (fun v=>z4y N v.1 v.2.1 v.2.2) (by kernel_rfl)
def zup:SE PG:=E0 [] [] []
def zwh:SL PG Tryz.f23.ntmps (Z9 Tryz.f23):=lz N (zup) [] 58 ⟨[0,1,5],(.cons (.list (.int .i64)) (.cons (.list (.int .i64)) (.int .i64))),[],[]⟩ (1,⟨[4], .bool,[],[]⟩) [(2,⟨[], .nil,[],[]⟩)] (zd3 N N) (zat N) (fun f v=>f v.1.1 v.1.2.1 v.1.2.2) (fun r b0 b1 b2=>r ((b0,(b1,b2)),())) rfl (fun _=>rfl) (fun _ _=>rfl) (by kernel_rfl)
def zpp:SC PG:=fz (zup) Tryz.func23 [zwh N] (.cons (.list (.int .i64)) (.list (.int .i64))) .bool [] (fun v=>zlr N v.1 v.2) (by kernel_rfl)
def y4n:SC PG:=fz (E0 [] [] [zpp N]) Tryz.func15 [] (.cons (.val Q2) (.val Q2)) .bool [] (fun v=>y23 N v.1 v.2) (by kernel_rfl)
def zh0:SE PG:=E0 [] [] [zx3 N,zmt N,zpj N,zpr N,zpn N,zlb N,zpp N,y4n N]
def zri:SL PG Tryz.f11.ntmps (Z9 Tryz.f11):=pz (zh0 N) [] 4095 ⟨[0], .bool,[],[]⟩ (1,⟨[0], .bool,[],[]⟩) [] (fun v=>y6 N v.1) (by kernel_rfl)
def zrj:SL PG Tryz.f11.ntmps (Z9 Tryz.f11):=pz (zh0 N) [zri N] 31 ⟨[1,2],Sh2_,[(2000000,[1], .boxV z8n),(2000001,[2], .boxV Q2)],[]⟩ (1,⟨[0], .bool,[],[]⟩) [] (fun v=>zm3 N v.2.1 v.2.2.1) (by kernel_rfl)
def y0c:SC PG:=fz (zh0 N) Tryz.func11 [zrj N] .nil .bool [] (fun _=>zc2 N) (by kernel_rfl)
def y0u:SC PG:=fz (E0 [] [] []) Tryz.func76 [] (.int .u8) (.val z36) [] (fun v=>zii N v) (by kernel_rfl)
def zpq:SC PG:=fz (E0 [] [] []) Tryz.func147 [] (.int .u8) .str [] (fun v=>zb0 N v) (by kernel_rfl)
def y7r:SC PG:=fz (E0 [] [] [zpq N]) Tryz.func145 [] (.int .u8) .str [] (fun v=>zkg N v) (by kernel_rfl)
def y1d:SC PG:=fz (E0 [] [] []) Tryz.func150 [] (.int .u8) .str [] (fun v=>zio N v) (by kernel_rfl)
def zl5:SE PG:=E0 [] [] [y7r N,zpq N,z00 N,zao N,y1d N,zfl N]
def zwn:SL PG Tryz.f90.ntmps (Z9 Tryz.f90):=pz (zl5 N) [] 127 ⟨[1,2,3,5,6,7],(.cons (.ptr 2000000 0) (.cons (.ptr 2000001 0) (.cons .str (.cons (.ptr 2000002 0) (.cons .str .str))))),[(2000000,[1], .boxV v8),(2000001,[2], .boxC [.int .i64 0, .str [], .str [], .str [], .str [], .str [], .str [], .int .i64 0]),(2000002,[5], .boxV Z2)],[]⟩ (1,⟨[2],(.ptr 2000000 0),[(2000000,[2], .boxV Z8)],[]⟩) [] (fun v=>z0x N v.1.2.2.1 v.1.2.2.2.2.1 v.1.2.2.2.2.2 v.2.1 v.2.2.2.1) (by kernel_rfl)
def zwo:SL PG Tryz.f90.ntmps (Z9 Tryz.f90):=pz (zl5 N) [zwn N] 31 ⟨[1,2,3,5],(.cons (.ptr 2000000 0) (.cons (.ptr 2000001 0) (.cons .str (.ptr 2000002 0)))),[(2000000,[1], .boxV v8),(2000001,[2], .boxC [.int .i64 0, .str [], .str [], .str [], .str [], .str [], .str [], .int .i64 0]),(2000002,[5], .boxV Z2)],[]⟩ (1,⟨[2],(.ptr 2000000 0),[(2000000,[2], .boxV Z8)],[]⟩) [] (fun v=>z0y N v.1.2.2.1 v.2.1 v.2.2.2.1) (by kernel_rfl)
def y5h:SC PG:=fz (zl5 N) Tryz.func90 [zwo N] (.val v8) (.val Z8) [] (fun v=>zda N v) (by kernel_rfl)
def znk:SE PG:=E0 [(K8,[2000000])] [] [y5h N]
def zrc:SL PG Tryz.f47.ntmps (Z9 Tryz.f47):=lz N (znk N) [] 58 ⟨[0,1,5,6],(.cons (.list v8) (.cons (.int .i64) Sh9_)),[(2000000,[5], .sl Z8)],[]⟩ (2,⟨[5],(.own 2000000),[(2000000,[5], .sl Z8)],[]⟩) [] (z72 N N) (y9 N) (fun f v=>f v.1.1 v.1.2.1 v.1.2.2.2 v.2.1) (fun r b0 b1 b2 b3=>r ((b0,(b1,((),b2))),(b3,()))) rfl (fun _=>rfl) (fun _ _=>rfl) (by kernel_rfl)
def y08:SC PG:=fz (znk N) Tryz.func47 [zrc N] (.cons (.list v8) (.int .i64)) (.list Z8) [] (fun v=>zfv N v.1 v.2) (by kernel_rfl)
def y4y:SC PG:=fz (E0 [] [] []) Tryz.func49 [] (.int .u8) .str [] (fun v=>zhk N v) (by kernel_rfl)
def zuj:SE PG:=E0 [(K8,[63])] [] [zjd N,zjb N]
def zw7:SL PG Tryz.f48.ntmps (Z9 Tryz.f48):=lz N (zuj N) [] 58 ⟨[1,2,4,5],(.cons .str Sh8_),[(2000000,[2], .boxV Y1),(2000001,[4], .boxC [.nils, .int .i64 0, .int .i64 0, .int .i64 0, .nils, .int .i64 0, .int .i64 0, .int .i64 0, .nils, .int .i64 0, .int .i64 0])],[]⟩ (1,⟨[4],(.ptr 2000000 0),[(2000000,[4], .boxV zee)],[]⟩) [(2,⟨[1,2,4],(.cons .str Sh2_),[(2000000,[2], .boxV Y1),(2000001,[4], .boxC [.nils, .int .i64 0, .int .i64 0, .int .i64 0, .nils, .int .i64 0, .int .i64 0, .int .i64 0, .nils, .int .i64 0, .int .i64 0])],[]⟩)] (z7c N N) (z3b N) (fun f v=>f v.1.1 v.1.2.2.2 v.2.1) (fun r b0 b1 b2=>r ((b0,((),((),b1))),(b2,((),())))) rfl (fun _=>rfl) (fun _ _=>rfl) (by kernel_rfl)
def y4x:SC PG:=fz (zuj N) Tryz.func48 [zw7 N] (.cons (.val Y1) .str) (.val zee) [] (fun v=>zhj N v.1 v.2) (by kernel_rfl)
def y9y:SC PG:=fz (E0 [] [] []) Tryz.func51 [] (.cons (.val Y1) (.int .u8)) (.int .i64) [] (fun v=>zoi N v.1 v.2) (by kernel_rfl)
def zzy:SC PG:=fz (E0 [] [] [zja N,zjb N,zck N]) Tryz.func50 [] (.cons (.val Y1) (.int .i64)) (.tup (.cons (.val Y1) (.int .i64))) [] (fun v=>zfp N v.1 v.2) (by kernel_rfl)
def y1b:SC PG:=fz (E0 [(2000012,[11])] [] [zld N]) Tryz.func94 [] (.cons (.list Z8) (.list Z8)) (.list Z8) [] (fun v=>z8t N v.1 v.2) (by kernel_rfl)
def znb:SE PG:=E0 [(K8,[2000004])] [] [zja N,zck N,y1b N]
def zqy:SL PG Tryz.f52.ntmps (Z9 Tryz.f52):=lz N (znb N) [] 1018 ⟨[1,2,4,6,7,8,9],(.cons (.int .i64) (.cons (.ptr 2000000 0) (.cons (.ptr 2000001 0) (.cons (.int .i64) (.cons (.ptr 2000002 0) (.cons (.ptr 2000003 0) (.int .i64))))))),[(2000000,[2], .boxV Y1),(2000001,[4], .boxC [.nils, .int .i64 0, .int .i64 0, .int .i64 0, .nils, .int .i64 0, .int .i64 0, .int .i64 0, .nils]),(2000002,[7], .boxV z6h),(2000003,[8], .box ypa),(2000004,[8,4], .sl z6h)],[]⟩ (2,⟨[1,2,4,7,8],(.cons (.int .i64) (.cons (.ptr 2000000 0) (.cons (.ptr 2000001 0) (.cons (.ptr 2000002 0) (.ptr 2000003 0))))),[(2000000,[2], .boxV Y1),(2000001,[4], .boxC [.nils, .int .i64 0, .int .i64 0, .int .i64 0, .nils, .int .i64 0, .int .i64 0, .int .i64 0, .nils]),(2000002,[7], .boxV z6h),(2000003,[8], .box ypa),(2000004,[8,4], .sl z6h)],[]⟩) [] (z4d N N) (z0n N) (fun f v=>f v.1.1 v.1.2.2.2.1 v.1.2.2.2.2.2.2 v.2.1 v.2.2.2.1 v.2.2.2.2.1.1 v.2.2.2.2.1.2.1 v.2.2.2.2.1.2.2.1 v.2.2.2.2.1.2.2.2.1 v.2.2.2.2.1.2.2.2.2.2.1 v.2.2.2.2.1.2.2.2.2.2.2.1 v.2.2.2.2.1.2.2.2.2.2.2.2.1 v.2.2.2.2.1.2.2.2.2.2.2.2.2 v.2.2.2.2.2.1) (fun r b0 b1 b2 b3 b4 b5 b6 b7 b8 b9 b10 b11 b12 b13=>r ((b0,((),((),(b1,((),((),b2)))))),(b3,((),(b4,((b5,(b6,(b7,(b8,((),(b9,(b10,(b11,b12)))))))),(b13,()))))))) rfl (fun _=>rfl) (fun _ _=>rfl) (by kernel_rfl)
def zzx:SC PG:=fz (znb N) Tryz.func52 [zqy N] (.cons (.val Y1) (.int .i64)) (.tup (.cons (.val Y1) (.int .i64))) [] (fun v=>zfo N v.1 v.2) (by kernel_rfl)
def zl2:SE PG:=E0 [] [] [y08 N,zu2 N,y4y N,y4x N,y9y N,zzy N,zzx N]
def zw5:SL PG Tryz.f24.ntmps (Z9 Tryz.f24):=pz (zl2 N) [] 53 ⟨[2,3,4,13,14],(.cons (.ptr 2000000 0) (.cons (.ptr 2000001 0) (.cons (.ptr 2000002 0) (.cons (.int .u8) .bool)))),[(2000000,[2], .boxV Y1),(2000001,[3], .boxV v7),(2000002,[4], .boxC [.nils, .int .i64 0, .int .i64 0, .int .i64 0, .nils, .int .i64 0, .int .i64 0, .int .i64 0, .nils])],[]⟩ (1,⟨[4],(.ptr 2000000 0),[(2000000,[4], .boxV Y1)],[]⟩) [(0,⟨[2,3,4],y38,[(2000000,[2], .boxV Y1),(2000001,[3], .boxV v7),(2000002,[4], .boxC [.nils, .int .i64 0, .int .i64 0, .int .i64 0, .nils, .int .i64 0, .int .i64 0, .int .i64 0, .nils])],[]⟩)] (fun v=>z0m N v.1.2.2.2.1 v.1.2.2.2.2 v.2.1 v.2.2.1) (by kernel_rfl)
def zw6:SL PG Tryz.f24.ntmps (Z9 Tryz.f24):=pz (zl2 N) [] 7 ⟨[2,3,4],y38,[(2000000,[2], .boxV Y1),(2000001,[3], .boxV v7),(2000002,[4], .boxC [.nils, .int .i64 0, .int .i64 0, .int .i64 0, .nils, .int .i64 0, .int .i64 0, .int .i64 0, .nils])],[]⟩ (1,⟨[4],(.ptr 2000000 0),[(2000000,[4], .boxV Y1)],[]⟩) [] (fun v=>z2z N v.2.1 v.2.2.1) (by kernel_rfl)
def y4w:SC PG:=fz (zl2 N) Tryz.func24 [zw5 N,zw6 N] (.cons (.val Y1) (.val v7)) (.val Y1) [] (fun v=>zlk N v.1 v.2) (by kernel_rfl)
def zuk:SE PG:=E0 [] [] [y0u N,zu1 N,y4w N]
def zw8:SL PG Tryz.f34.ntmps (Z9 Tryz.f34):=lz N (zuk N) [] 58 ⟨[1,4,5,7],(.cons (.list v7) Sh8_),[(2000000,[4], .boxC [.nils, .int .i64 0, .int .i64 0, .int .i64 0, .nils, .int .i64 0, .int .i64 0, .int .i64 0, .nils]),(2000001,[5], .boxV Y1)],[]⟩ (2,⟨[4,5],Sh2_,[(2000000,[4], .boxC [.nils, .int .i64 0, .int .i64 0, .int .i64 0, .nils, .int .i64 0, .int .i64 0, .int .i64 0, .nils]),(2000001,[5], .boxV Y1)],[]⟩) [] (za2 N N) (z63 N) (fun f v=>f v.1.1 v.1.2.2.2 v.2.2.1) (fun r b0 b1 b2=>r ((b0,((),((),b1))),((),(b2,())))) rfl (fun _=>rfl) (fun _ _=>rfl) (by kernel_rfl)
def y4z:SC PG:=fz (zuk N) Tryz.func34 [zw8 N] (.cons (.int .u8) (.list v7)) (.val Y1) [] (fun v=>zll N v.1 v.2) (by kernel_rfl)
def y4r:SC PG:=fz (E0 [] [] [ztz N]) Tryz.func36 [] (.val zsf) (.val Q5) [] (fun v=>zlj N v) (by kernel_rfl)
def y4q:SC PG:=fz (E0 [] [] [y4z N,y4r N,zty N,zpn N]) Tryz.func12 [] (.val zbd) (.val z8n) [] (fun v=>zli N v) (by kernel_rfl)
def zq5:SE PG:=E0 [] [] []
def zsq:SL PG Tryz.f27.ntmps (Z9 Tryz.f27):=lz N (zq5) [] 58 ⟨[1,3,4],Sh6_,[(2000000,[1], .boxV Y1),(2000001,[3], .sl (.int .i64))],[]⟩ (2,⟨[3],(.own 2000000),[(2000000,[3], .sl (.int .i64))],[]⟩) [] (z7z N N) (z1r N) (fun f v=>f v.1.2.2 v.2.1 v.2.2.1) (fun r b0 b1 b2=>r (((),((),b0)),(b1,(b2,())))) rfl (fun _=>rfl) (fun _ _=>rfl) (by kernel_rfl)
def y0v:SC PG:=fz (zq5) Tryz.func27 [zsq N] (.val Y1) (.fresh (.int .i64)) [] (fun v=>znw N v) (by kernel_rfl)
def zjk:SE PG:=E0 [(5,[2000002])] [] [z9w N]
def zsx:SL PG Tryz.f26.ntmps (Z9 Tryz.f26):=lz N (zjk N) [] 506 ⟨[5,8,9],(.cons (.own 2000000) y5z),[(2000000,[5], .sl .bool),(2000001,[8], .sl (.int .i64))],[]⟩ (4,⟨[8],(.own 2000000),[(2000000,[8], .sl (.int .i64))],[]⟩) [] (z5t N N) (z1v N) (fun f v=>f v.1.2.2 v.2.1 v.2.2.1) (fun r b0 b1 b2=>r (((),((),b0)),(b1,(b2,())))) rfl (fun _=>rfl) (fun _ _=>rfl) (by kernel_rfl)
def zsy:SL PG Tryz.f26.ntmps (Z9 Tryz.f26):=lz N (zjk N) [] 60 ⟨[2,5,6],(.cons (.ptr 2000000 0) (.cons (.own 2000001) (.list (.int .i64)))),[(2000000,[2], .box (.list Y8)),(2000001,[5], .sl .bool)],[16,48]⟩ (2,⟨[5],(.own 2000000),[(2000000,[5], .sl .bool)],[]⟩) [] (z5u N N) (z1w N) (fun f v=>f v.1.2.2 v.2.1 v.2.2.1) (fun r b0 b1 b2=>r (((),((),b0)),(b1,(b2,())))) rfl (fun _=>rfl) (fun _ _=>rfl) (by kernel_rfl)
def y11:SC PG:=fz (zjk N) Tryz.func26 [zsy N,zsx N] (.cons (.val (.list Y8)) (.list (.int .i64))) (.fresh (.int .i64)) [] (fun v=>zdw N v.1 v.2) (by kernel_rfl)
def zq2:SE PG:=E0 [(K8,[2000002,2000003])] [] [y0v N,y11 N,zpk N]
def zsi:SL PG Tryz.f13.ntmps (Z9 Tryz.f13):=lz N (zq2 N) [] 58 ⟨[2,4,5,6,7],(.cons (.ptr 2000000 0) (.cons (.ptr 2000001 0) (.cons (.ptr 2000002 0) (.cons (.own 2000005) (.int .i64))))),[(2000000,[2], .boxV Y9),(2000001,[4], .boxC [.nils, .nils, .int .i64 0]),(2000002,[5], .box (.cons (.own 2000003) yek)),(2000003,[5,0], .sl (.int .i64)),(2000004,[5,1], .sl (.int .i64)),(2000005,[6], .sl (.int .i64))],[]⟩ (2,⟨[4,5],Sh2_,[(2000000,[4], .boxC [.nils, .nils, .int .i64 0]),(2000001,[5], .box yj2),(2000002,[5,0], .sl (.int .i64)),(2000003,[5,1], .sl (.int .i64))],[]⟩) [] (z7x N N) (z1n N) (fun f v=>f v.1.2.2.2.2 v.2.1 v.2.2.2.1.2.2 v.2.2.2.2.1 v.2.2.2.2.2.1 v.2.2.2.2.2.2.1) (fun r b0 b1 b2 b3 b4 b5=>r (((),((),((),((),b0)))),(b1,((),(((),((),b2)),(b3,(b4,(b5,())))))))) rfl (fun _=>rfl) (fun _ _=>rfl) (by kernel_rfl)
def y0o:SC PG:=fz (zq2 N) Tryz.func13 [zsi N] (.cons (.val Y9) (.val Y1)) (.val Q2) [] (fun v=>zdt N v.1 v.2) (by kernel_rfl)
def z3s:SE PG:=E0 [] [] [y0c N,y4q N,zmt N,y0o N,zlb N,zpr N,zpj N]
def zk6:SL PG Tryz.f4.ntmps (Z9 Tryz.f4):=pz (z3s N) [] 8169 ⟨[5,7,8,10,11],ymo,[(2000000,[7], .boxV Q2),(2000001,[8], .boxV Y9)],[]⟩ (1,⟨[4], .bool,[],[]⟩) [(0,⟨[5,7,8,10,11],ymo,[(2000000,[7], .boxV Q2),(2000001,[8], .boxV Y9)],[]⟩)] (fun v=>z9m N v.1.1 v.1.2.2.2.1 v.1.2.2.2.2 v.2.1 v.2.2.1) (by kernel_rfl)
def zk7:SL PG Tryz.f4.ntmps (Z9 Tryz.f4):=lz N (z3s N) [] 4090 ⟨[5,7,10,13],(.cons .bool (.cons (.ptr 2000000 0) zmd)),[(2000000,[7], .boxV Q2)],[]⟩ (1,⟨[4], .bool,[],[]⟩) [(6,⟨[5,7,10],(.cons .bool Sh4_),[(2000000,[7], .boxV Q2)],[]⟩)] (z2m N N) (G7 N) (fun f v=>f v.1.1 v.1.2.2.1 v.1.2.2.2 v.2.1) (fun r b0 b1 b2 b3=>r ((b0,((),(b1,b2))),(b3,()))) rfl (fun _=>rfl) (fun _ _=>rfl) (by kernel_rfl)
def zk8:SL PG Tryz.f4.ntmps (Z9 Tryz.f4):=lz N (z3s N) [zk6 N] 2042 ⟨[5,7,8,10,11],ymo,[(2000000,[7], .boxV Q2),(2000001,[8], .boxV Y9)],[]⟩ (1,⟨[4], .bool,[],[]⟩) [(4,⟨[5,7,10],(.cons .bool Sh4_),[(2000000,[7], .boxV Q2)],[]⟩)] (z2n N N) (G8 N) (fun f v=>f v.1.1 v.1.2.2.2.1 v.1.2.2.2.2 v.2.1 v.2.2.1) (fun r b0 b1 b2 b3 b4=>r ((b0,((),((),(b1,b2)))),(b3,(b4,())))) rfl (fun _=>rfl) (fun _ _=>rfl) (by kernel_rfl)
def zk9:SL PG Tryz.f4.ntmps (Z9 Tryz.f4):=lz N (z3s N) [] 506 ⟨[1,5,6,7,8,9],(.cons (.list z59) (.cons .bool Sh5_)),[(2000000,[6], .boxV z8n),(2000001,[7], .boxV Q2),(2000002,[8], .boxV Y9)],[]⟩ (2,⟨[5,7,8],(.cons .bool Sh2_),[(2000000,[7], .boxV Q2),(2000001,[8], .boxV Y9)],[]⟩) [] (z2o N N) (G9 N) (fun f v=>f v.1.1 v.1.2.1 v.1.2.2.2.2.2 v.2.1 v.2.2.1 v.2.2.2.1) (fun r b0 b1 b2 b3 b4 b5=>r ((b0,(b1,((),((),((),b2))))),(b3,(b4,(b5,()))))) rfl (fun _=>rfl) (fun _ _=>rfl) (by kernel_rfl)
def zeh:SC PG:=fz (z3s N) Tryz.func4 [zk9 N,zk8 N,zk7 N] (.cons (.val zbd) (.list z59)) .bool [] (fun v=>z94 N v.1 v.2) (by kernel_rfl)
theorem zk5:z69 PG 4 (fun vs=>(zeh N).c.run vs some):=(zeh N).h
end
end Go.Proofs.YtljffhpbdmkplaaGreat
