/- Printed by a program of the session's: what the program's functions compute, and that they do. -/
import Derived.Test.YtljffhpbdmkplaaGreatDsPure
import Derived.Test.YtljffhpbdmkplaaGreatProg
import Derived.KernelRfl
set_option linter.all false
namespace Go.Proofs.YtljffhpbdmkplaaGreat
open Go Go.Dv Ds
set_option maxRecDepth 100000
noncomputable section
abbrev PG:=Tryz.prog
abbrev Sh0_:Sh:=(.cons (.int .i64) (.cons (.int .i64) (.cons (.list (.list (.int .u8))) (.cons (.list J4) (.cons (.list .bool) (.cons (.list (.int .i64)) (.cons (.int .i64) (.cons (.int .i64) (.cons (.int .i64) (.cons (.int .i64) (.cons (.list (.int .i64)) (.cons (.list (.int .u64)) (.list (.int .i64))))))))))))))
abbrev Sh1_:Sh:=(.cons (.int .i64) (.cons (.list (.list (.int .u8))) (.cons (.list J4) (.cons (.list .bool) (.cons (.list (.int .i64)) (.cons (.int .i64) (.cons (.int .i64) (.cons (.int .i64) (.cons (.int .i64) (.cons (.own 2000001) (.cons (.own 2000002) (.list (.int .i64)))))))))))))
abbrev Sh2_:Sh:=(.cons (.ptr 2000000 0) (.ptr 2000001 0))
abbrev Sh3_:Sh:=(.cons (.ptr 5000000 0) (.cons (.ptr 5000001 0) (.cons (.ptr 5000003 0) (.cons (.ptr 5000004 0) (.ptr 5000005 0)))))
abbrev Sh4_:Sh:=(.cons (.ptr 2000000 0) (.cons (.ptr 2000001 0) (.cons (.ptr 2000002 0) (.int .i64))))
abbrev Sh5_:Sh:=(.cons (.ptr 2000000 0) (.int .i64))
abbrev Sh6_:Sh:=(.cons (.ptr 2000000 0) (.cons (.own 2000001) (.int .i64)))
abbrev Sh7_:Sh:=(.cons (.ptr 2000000 0) (.cons (.ptr 2000003 0) (.cons (.ptr 2000004 0) (.cons (.ptr 2000005 0) (.cons (.own 2000006) (.int .i64))))))
abbrev Sh8_:Sh:=(.cons (.ptr 2000000 0) (.cons (.ptr 2000001 0) (.ptr 2000002 0)))
abbrev Sh9_:Sh:=(.cons (.ptr 2000000 0) (.cons (.ptr 2000001 0) (.int .i64)))
abbrev zm8:Sh:=(.cons (.own 2000000) (.int .i64))
abbrev ymh:Sh:=(.cons (.ptr 2000000 0) (.cons (.ptr 2000003 0) (.cons (.ptr 2000004 0) (.cons (.ptr 2000005 0) (.cons (.own 2000006) (.cons (.int .i64) (.cons (.int .i64) (.int .u64))))))))
abbrev yeg:Sh:=(.cons (.ptr 2000000 0) (.cons (.ptr 2000001 0) (.cons (.own 2000002) (.int .i64))))
abbrev yix:Sh:=(.cons (.ptr 2000000 0) (.cons (.ptr 2000001 0) (.cons (.ptr 2000002 0) (.cons (.own 2000003) (.int .i64)))))
abbrev y9l:Sh:=(.cons (.ptr 5000001 0) (.cons (.ptr 5000002 0) (.ptr 5000004 0)))
abbrev zpb:Sh:=(.cons (.int .i64) (.int .i64))
abbrev yp4:Sh:=(.agg (.cons (.int .i64) (.cons (.list (.list (.int .u8))) (.cons (.list J4) (.cons (.list .bool) (.cons (.list (.int .i64)) (.cons (.int .i64) (.cons (.int .i64) (.cons (.int .i64) (.cons (.int .i64) (.cons (.own 5000000) (.cons (.own 5000001) (.list (.int .i64))))))))))))))
abbrev yiw:Sh:=(.cons (.ptr 2000000 0) (.cons (.own 2000001) (.cons .bool (.int .i64))))
abbrev yef:Sh:=(.cons (.list (.int .i64)) (.cons (.own 2000004) Sh0_))
abbrev yp3:Sh:=(.cons (.list Y8) (.cons (.int .i64) (.cons (.int .i64) (.cons (.int .i64) (.cons (.own 2000004) (.cons (.int .i64) (.cons (.int .i64) (.cons (.int .i64) (.list Z8)))))))))
abbrev y9k:Sh:=(.cons (.ptr 5000001 0) (.ptr 5000002 0))
abbrev y5s:Sh:=(.cons (.own 2000001) (.int .i64))
abbrev y9j:Sh:=(.cons (.ptr 2000000 0) (.own 2000001))
abbrev yiv:Sh:=(.cons (.own 2000001) (.cons (.own 2000002) (.int .i64)))
abbrev yiu:Sh:=(.cons (.own 2000002) (.cons (.own 2000003) (.int .i64)))
abbrev yp2:Sh:=(.cons (.list (.int .i64)) (.cons (.ptr 2000000 0) (.cons (.ptr 2000001 0) (.cons (.ptr 2000002 0) (.cons (.int .i64) (.cons (.ptr 2000003 0) (.int .i64)))))))
abbrev yit:Sh:=(.cons (.int .i64) (.cons (.int .i64) (.ptr 2000000 0)))
abbrev yis:Sh:=(.cons (.list (.int .i64)) (.cons (.own 2000003) Sh0_))
abbrev yp1:Sh:=(.cons (.own 2000001) (.cons (.own 2000002) (.cons (.own 2000003) (.cons (.own 2000004) (.cons (.own 2000005) (.cons .str (.cons .str (.int .i64))))))))
abbrev ymg:Sh:=(.cons (.ptr 2000000 0) (.cons (.ptr 2000001 0) (.own 2000002)))
abbrev yee:Sh:=(.cons (.own 2000004) (.int .i64))
abbrev ymf:Sh:=(.cons (.own 2000002) (.cons (.own 2000003) (.own 2000004)))
abbrev yme:Sh:=(.cons (.list Y2) (.cons (.list Z2) zm8))
instance :LTab:=⟨fun i=>bif Nat.beq i 0 then⟨#[27,28],[5,8],cA (Y0 Tryz.f40) 500,cA (Y0 Tryz.f40) 501,66⟩else bif Nat.beq i 1 then⟨#[15,16],[3,4,5],cA (Y0 Tryz.f97) 116,cA (Y0 Tryz.f97) 117,33⟩else⟨#[],[], .skip, .skip,0⟩⟩
def tyRows:List (Nat×TI):=[
 (3,⟨.int .i64,1,8,[.int .i64],some (.int .i64)⟩),
 (4,⟨.bool,1,1,[.bool],some .bool⟩),
 (5,⟨.int .u8,1,1,[.int .u8],some (.int .u8)⟩),
 (9,⟨.str,1,16,[.str],some .str⟩),
 (22,⟨.slice 85,1,24,[.slice],some (.list w6)⟩),
 (23,⟨.arr 3 5,3,3,[.int .u8, .int .u8, .int .u8],some zsb⟩),
 (25,⟨.struct [(0,5),(1,22),(2,23)],5,40,[.int .u8, .slice, .int .u8, .int .u8, .int .u8],some zb0⟩),
 (27,⟨.slice 3,1,24,[.slice],some (.list (.int .i64))⟩),
 (29,⟨.struct [(0,27),(1,27),(2,3)],3,56,[.slice, .slice, .int .i64],some G9⟩),
 (31,⟨.slice 71,1,24,[.slice],some (.list (.list (.int .u8)))⟩),
 (32,⟨.slice 122,1,24,[.slice],some (.list J4)⟩),
 (34,⟨.struct [(0,3),(1,31),(2,32)],3,56,[.int .i64, .slice, .slice],some Q3⟩),
 (35,⟨.slice 4,1,24,[.slice],some (.list .bool)⟩),
 (37,⟨.struct [(0,35),(1,27),(2,3)],3,56,[.slice, .slice, .int .i64],some Q0⟩),
 (38,⟨.slice 103,1,24,[.slice],some (.list (.int .u64))⟩),
 (40,⟨.struct [(0,34),(3,37),(6,3),(7,3),(8,3),(9,27),(10,38),(11,27)],12,208,[.int .i64, .slice, .slice, .slice, .slice, .int .i64, .int .i64, .int .i64, .int .i64, .slice, .slice, .slice],some X1⟩),
 (41,⟨.slice 101,1,24,[.slice],some (.list Y8)⟩),
 (43,⟨.struct [(0,41)],1,24,[.slice],some (.list Y8)⟩),
 (45,⟨.struct [(0,3),(1,3),(2,3)],3,24,[.int .i64, .int .i64, .int .i64],some z31⟩),
 (46,⟨.slice 116,1,24,[.slice],some (.list z68)⟩),
 (47,⟨.slice 159,1,24,[.slice],some (.list Z8)⟩),
 (49,⟨.struct [(0,43),(1,45),(4,46),(5,3),(6,3),(7,3),(8,47)],9,120,[.slice, .int .i64, .int .i64, .int .i64, .slice, .int .i64, .int .i64, .int .i64, .slice],some Y1⟩),
 (50,⟨.int .i64,1,8,[.int .i64],some (.int .i64)⟩),
 (52,⟨.struct [(0,40),(12,49),(21,50)],22,336,[.int .i64, .slice, .slice, .slice, .slice, .int .i64, .int .i64, .int .i64, .int .i64, .slice, .slice, .slice, .slice, .int .i64, .int .i64, .int .i64, .slice, .int .i64, .int .i64, .int .i64, .slice, .int .i64],some zbh⟩),
 (57,⟨.int .u16,1,2,[.int .u16],some (.int .u16)⟩),
 (59,⟨.struct [(0,5),(1,57),(2,5)],3,6,[.int .u8, .int .u16, .int .u8],some zj3⟩),
 (63,⟨.struct [(0,29),(3,50)],4,64,[.slice, .slice, .int .i64, .int .i64],some zfz⟩),
 (70,⟨.arr 2 59,6,12,[.int .u8, .int .u16, .int .u8, .int .u8, .int .u16, .int .u8],some zbi⟩),
 (71,⟨.slice 5,1,24,[.slice],some (.list (.int .u8))⟩),
 (83,⟨.slice 187,1,24,[.slice],some (.list w7)⟩),
 (85,⟨.struct [(0,5),(1,5),(2,83)],3,32,[.int .u8, .int .u8, .slice],some w6⟩),
 (95,⟨.slice 257,1,24,[.slice],some (.list Y2)⟩),
 (96,⟨.slice 9,1,24,[.slice],some (.list .str)⟩),
 (97,⟨.slice 262,1,24,[.slice],some (.list K9)⟩),
 (99,⟨.struct [(0,95),(1,96),(2,27),(3,97),(4,47)],5,120,[.slice, .slice, .slice, .slice, .slice],some Z9⟩),
 (101,⟨.struct [(0,4),(1,4),(2,3),(3,99)],8,136,[.bool, .bool, .int .i64, .slice, .slice, .slice, .slice, .slice],some Y8⟩),
 (103,⟨.int .u64,1,8,[.int .u64],some (.int .u64)⟩),
 (109,⟨.struct [(0,40),(12,50)],13,216,[.int .i64, .slice, .slice, .slice, .slice, .int .i64, .int .i64, .int .i64, .int .i64, .slice, .slice, .slice, .int .i64],some zdf⟩),
 (114,⟨.struct [(0,3),(1,3),(2,5)],3,24,[.int .i64, .int .i64, .int .u8],some zux⟩),
 (116,⟨.struct [(0,3),(1,3),(2,3),(3,9),(4,47)],5,64,[.int .i64, .int .i64, .int .i64, .str, .slice],some z68⟩),
 (122,⟨.struct [(0,4),(1,3),(2,71)],3,40,[.bool, .int .i64, .slice],some J4⟩),
 (129,⟨.struct [(0,49),(9,3),(10,50)],11,136,[.slice, .int .i64, .int .i64, .int .i64, .slice, .int .i64, .int .i64, .int .i64, .slice, .int .i64, .int .i64],some ze6⟩),
 (157,⟨.struct [(0,9),(1,9)],2,32,[.str, .str],some Z2⟩),
 (159,⟨.struct [(0,3),(1,9),(2,9),(3,157),(5,9),(6,9),(7,3)],8,112,[.int .i64, .str, .str, .str, .str, .str, .str, .int .i64],some Z8⟩),
 (165,⟨.func,1,8,[.func],none⟩),
 (167,⟨.ptr,1,8,[.ptr],none⟩),
 (169,⟨.struct [(0,29),(3,40)],15,264,[.slice, .slice, .int .i64, .int .i64, .slice, .slice, .slice, .slice, .int .i64, .int .i64, .int .i64, .int .i64, .slice, .slice, .slice],some y7z⟩),
 (176,⟨.struct [(0,43),(1,3),(2,45)],5,56,[.slice, .int .i64, .int .i64, .int .i64, .int .i64],some X9⟩),
 (181,⟨.struct [(0,176),(5,3),(6,50)],7,72,[.slice, .int .i64, .int .i64, .int .i64, .int .i64, .int .i64, .int .i64],some z8e⟩),
 (187,⟨.arr 6 5,6,6,[.int .u8, .int .u8, .int .u8, .int .u8, .int .u8, .int .u8],some w7⟩),
 (240,⟨.int .u64,1,8,[.int .u64],some (.int .u64)⟩),
 (244,⟨.struct [(0,43),(1,3),(2,50)],3,40,[.slice, .int .i64, .int .i64],some zjs⟩),
 (247,⟨.slice 157,1,24,[.slice],some (.list Z2)⟩),
 (249,⟨.struct [(0,47),(1,247)],2,48,[.slice, .slice],some znl⟩),
 (257,⟨.struct [(0,9),(1,9),(2,3)],3,40,[.str, .str, .int .i64],some Y2⟩),
 (260,⟨.struct [(0,3),(1,3)],2,16,[.int .i64, .int .i64],some z67⟩),
 (262,⟨.struct [(0,260),(2,260)],4,32,[.int .i64, .int .i64, .int .i64, .int .i64],some K9⟩),
 (300,⟨.struct [(0,37),(3,3),(4,50)],5,72,[.slice, .slice, .int .i64, .int .i64, .int .i64],some zjp⟩),
 (318,⟨.struct [(0,27),(1,4)],2,32,[.slice, .bool],some zfy⟩),
 (346,⟨.arr 4 3,4,32,[.int .i64, .int .i64, .int .i64, .int .i64],some ycv⟩),
 (356,⟨.struct [(0,99),(5,157),(7,50)],8,160,[.slice, .slice, .slice, .slice, .slice, .str, .str, .int .i64],some zl5⟩),
 (360,⟨.slice 99,1,24,[.slice],some (.list Z9)⟩),
 (362,⟨.struct [(0,360),(1,96),(2,47)],3,72,[.slice, .slice, .slice],some zjr⟩),
 (365,⟨.struct [(0,360),(1,96),(2,47)],3,72,[.slice, .slice, .slice],some zdy⟩),
 (368,⟨.struct [(0,176),(5,3),(6,50)],7,72,[.slice, .int .i64, .int .i64, .int .i64, .int .i64, .int .i64, .int .i64],some z71⟩),
 (399,⟨.struct [(0,3),(1,3)],2,16,[.int .i64, .int .i64],some zh5⟩),
 (406,⟨.slice 95,1,24,[.slice],some (.list (.list Y2))⟩),
 (410,⟨.struct [(0,47),(1,47),(2,247)],3,72,[.slice, .slice, .slice],some zo2⟩),
 (415,⟨.struct [(0,43),(1,27),(2,50)],3,56,[.slice, .slice, .int .i64],some zjq⟩),
 (433,⟨.struct [(0,9),(1,3),(2,3),(3,9)],4,48,[.str, .int .i64, .int .i64, .str],some z19⟩)]
theorem y5w:(tyRows.all fun r=>tiOk PG r.1 r.2)=true:=by kernel_rfl
theorem mixed:PG.follows .mixedOrders=true:=by kernel_rfl
def eqRows:List (Nat×List Nat):=[(159,[0,2,2,2,2,2,2,0])]
theorem yhp:(eqRows.all fun r=>eqB PG r.1 r.2)=true:=by kernel_rfl
def ybt:List (Nat×String×Nat):=[]
theorem ya7:y9m PG ybt:=trivial
def E0(st:List (Nat×List Nat))(pre:List Nat)(tc:List (SC PG))(tm:List (SM PG):=[])(tr:List (SR PG):=[]):SE PG:=
 ⟨yoj tyRows eqRows ybt st pre (tabC tc) (tabM tm) (tabR tr),yjp y5w yhp ya7 (yf5 tc) (yf4 tm) (yf3 tr),mixed⟩
variable (N:Nat)
def y0u:SC PG:=fz (E0 [] [] []) Tryz.func69 [] (.val z31) .bool [] (fun v=>zdn N v) (by kernel_rfl)
def z9k:SC PG:=fz (E0 [] [] []) Tryz.func66 [] (.cons (.val (.list Y8)) (.int .i64)) .bool [] (fun v=>z6p N v.1 v.2) (by kernel_rfl)
def ze1:SC PG:=fz (E0 [] [] []) Tryz.func151 [] (.val (.list Y8)) (.agg (.fresh Y8)) [] (fun v=>z93 N v) (by kernel_rfl)
def zix:SE PG:=E0 [(K7,[2000002])] [] [z9k N,ze1 N]
def zzi:SL PG Tryz.f142.ntmps (Y0 Tryz.f142):=lz N (zix N) [] 4090 ⟨[3,4,6,7,8],(.cons (.ptr 2000000 0) (.cons (.ptr 2000001 0) (.cons (.int .i64) (.cons (.ptr 2000002 0) (.int .i64))))),[(2000000,[3], .boxV Z9),(2000001,[4], .boxC [.nils, .int .i64 0, .int .i64 0]),(2000002,[7], .box (.own 2000003)),(2000003,[7,0], .sl Y8)],[]⟩ (6,⟨[4,6,7],(.cons (.ptr 2000000 0) (.cons (.int .i64) (.ptr 2000001 0))),[(2000000,[4], .boxC [.nils, .int .i64 0, .int .i64 0]),(2000001,[7], .box (.own 2000002)),(2000002,[7,0], .sl Y8)],[]⟩) [] (z4t N N) (z4k N) (fun f v=>f v.1.2.2.1 v.1.2.2.2.2 v.2.1 v.2.2.2.2.1) (fun r b0 b1 b2 b3=>r (((),((),(b0,((),b1)))),(b2,((),((),(b3,())))))) rfl (fun _=>rfl) (fun _ _=>rfl) (by kernel_rfl)
def zzj:SL PG Tryz.f142.ntmps (Y0 Tryz.f142):=lz N (zix N) [] 60 ⟨[2,3,4,6],Sh4_,[(2000000,[2], .box (.list Y8)),(2000001,[3], .boxV Z9),(2000002,[4], .boxC [.nils, .int .i64 0, .int .i64 0])],[]⟩ (4,⟨[2,3,4,6],Sh4_,[(2000000,[2], .box (.list Y8)),(2000001,[3], .boxV Z9),(2000002,[4], .boxC [.nils, .int .i64 0, .int .i64 0])],[]⟩) [] (z94 N N) (z4l N) (fun f v=>f v.1.2.2.2 v.2.1 v.2.2.1) (fun r b0 b1 b2=>r (((),((),((),b0))),(b1,(b2,((),()))))) rfl (fun _=>rfl) (fun _ _=>rfl) (by kernel_rfl)
def zzk:SL PG Tryz.f142.ntmps (Y0 Tryz.f142):=lz N (zix N) [] 26 ⟨[2,3,4,5],Sh4_,[(2000000,[2], .box (.list Y8)),(2000001,[3], .boxV Z9),(2000002,[4], .boxC [.nils, .int .i64 0, .int .i64 0])],[]⟩ (1,⟨[4],(.ptr 2000000 0),[(2000000,[4], .boxV zjs)],[]⟩) [(2,⟨[2,3,4],Sh8_,[(2000000,[2], .box (.list Y8)),(2000001,[3], .boxV Z9),(2000002,[4], .boxC [.nils, .int .i64 0, .int .i64 0])],[]⟩)] (z95 N N) (z4m N) (fun f v=>f v.1.2.2.2 v.2.1 v.2.2.1) (fun r b0 b1 b2=>r (((),((),((),b0))),(b1,(b2,((),()))))) rfl (fun _=>rfl) (fun _ _=>rfl) (by kernel_rfl)
def zkr:SC PG:=fz (zix N) Tryz.func142 [zzk N,zzj N,zzi N] (.cons (.val (.list Y8)) (.val Z9)) (.val zjs) [] (fun v=>z5s N v.1 v.2) (by kernel_rfl)
def y7n:SC PG:=fz (E0 [] [] [y0u N,zkr N]) Tryz.func125 [] (.val z31) (.tup (.cons (.val X9) (.int .i64))) [] (fun v=>zxg N v) (by kernel_rfl)
def ztx:SC PG:=fz (E0 [] [] [y7n N]) Tryz.func73 [] (.val z31) (.tup (.cons (.val Y1) (.int .i64))) [] (fun v=>zk5 N v) (by kernel_rfl)
def zuh:SE PG:=E0 [] [] []
def zw1:SL PG Tryz.f92.ntmps (Y0 Tryz.f92):=lz N (zuh) [] 26 ⟨[1,2,5],(.cons (.int .i64) Sh5_),[(2000000,[2], .boxV Y1)],[]⟩ (1,⟨[4],(.int .i64),[],[]⟩) [(2,⟨[], .nil,[],[]⟩)] (z9r N N) (z37 N) (fun f v=>f v.1.1 v.1.2.2 v.2.1) (fun r b0 b1 b2=>r ((b0,((),b1)),(b2,()))) rfl (fun _=>rfl) (fun _ _=>rfl) (by kernel_rfl)
def zj7:SC PG:=fz (zuh) Tryz.func92 [zw1 N] (.cons (.val Y1) (.int .i64)) (.int .i64) [] (fun v=>zcn N v.1 v.2) (by kernel_rfl)
def y4o:SC PG:=fz (E0 [] [] [zj7 N]) Tryz.func85 [] (.cons (.val Y1) (.int .i64)) (.tup (.cons (.val X9) (.int .i64))) [] (fun v=>zrt N v.1 v.2) (by kernel_rfl)
def y9x:SC PG:=fz (E0 [] [] []) Tryz.func179 [] (.cons (.int .i64) (.cons (.int .i64) (.int .i64))) .bool [] (fun v=>zhv N v.1 v.2.1 v.2.2) (by kernel_rfl)
def z3o:SC PG:=fz (E0 [] [] []) Tryz.func235 [] (.val Z2) .bool [] (fun v=>z07 N v) (by kernel_rfl)
def y59:SC PG:=fz (E0 [] [] [z3o N]) Tryz.func180 [] (.val Z2) .bool [] (fun v=>zhh N v) (by kernel_rfl)
def zac:SC PG:=fz (E0 [] [] []) Tryz.func149 [] (.cons .str .str) .bool [] (fun v=>j0 N v.1 v.2) (by kernel_rfl)
def zqa:SE PG:=E0 [] [] [y9x N,y59 N,zac N]
def zta:SL PG Tryz.f120.ntmps (Y0 Tryz.f120):=pz (zqa N) [] 7551 ⟨[1,4,14,66],(.cons (.ptr 2000000 0) (.cons .bool (.cons (.int .i64) .bool))),[(2000000,[1], .boxV Z8)],[]⟩ (1,⟨[2], .bool,[],[]⟩) [(0,⟨[], .nil,[],[]⟩)] (fun v=>z84 N v.1.2.1 v.1.2.2.1 v.1.2.2.2 v.2.1) (by kernel_rfl)
def zgo:SC PG:=fz (zqa N) Tryz.func120 [zta N] (.val Z8) .bool [] (fun v=>zau N v) (by kernel_rfl)
def zfc:SC PG:=fz (E0 [] [] [z9k N]) Tryz.func140 [] (.cons (.val (.list Y8)) (.int .i64)) (.tup (.cons (.val Z9) (.int .i64))) [] (fun v=>z9e N v.1 v.2) (by kernel_rfl)
def zgu:SE PG:=E0 [] [] []
def zr9:SL PG Tryz.f202.ntmps (Y0 Tryz.f202):=pz (zgu) [] 1865 ⟨[0,3,5,6,7],(.cons (.list Y2) yiw),[(2000000,[3], .boxV Y2),(2000001,[5], .sl Y2)],[]⟩ (0,⟨[0,3,5,6,7],(.cons (.list Y2) yiw),[(2000000,[3], .boxV Y2),(2000001,[5], .sl Y2)],[]⟩) [] (fun v=>z1e N v.1.1 v.1.2.2.2.1 v.1.2.2.2.2 v.2.1 v.2.2.1) (by kernel_rfl)
def zra:SL PG Tryz.f202.ntmps (Y0 Tryz.f202):=lz N (zgu) [zr9 N] 58 ⟨[0,3,5,6,7],(.cons (.list Y2) yiw),[(2000000,[3], .boxV Y2),(2000001,[5], .sl Y2)],[]⟩ (2,⟨[3,5,6],(.cons (.ptr 2000000 0) (.cons (.own 2000001) .bool)),[(2000000,[3], .boxV Y2),(2000001,[5], .sl Y2)],[]⟩) [] (z1f N N) (z0u N) (fun f v=>f v.1.1 v.1.2.2.2.1 v.1.2.2.2.2 v.2.1 v.2.2.1) (fun r b0 b1 b2 b3 b4=>r ((b0,((),((),(b1,b2)))),(b3,(b4,())))) rfl (fun _=>rfl) (fun _ _=>rfl) (by kernel_rfl)
def y03:SC PG:=fz (zgu) Tryz.func202 [zra N] (.cons (.list Y2) (.val Y2)) (.fresh Y2) [] (fun v=>z96 N v.1 v.2) (by kernel_rfl)
def zfd:SC PG:=fz (E0 [] [] []) Tryz.func148 [] .str (.val Z2) [] (fun v=>z9f N v) (by kernel_rfl)
def zks:SC PG:=fz (E0 [] [] []) Tryz.func204 [] (.cons (.val Z2) .str) .bool [] (fun v=>zb5 N v.1 v.2) (by kernel_rfl)
def y2m:SE PG:=E0 [] [] [zks N]
def y0g:SL PG Tryz.f250.ntmps (Y0 Tryz.f250):=lz N (y2m N) [] 26 ⟨[0,1,5],(.cons (.list Z2) (.cons .str (.int .i64))),[],[]⟩ (1,⟨[4], .bool,[],[]⟩) [(2,⟨[], .nil,[],[]⟩)] (zdt N N) (z5e N) (fun f v=>f v.1.1 v.1.2.1 v.1.2.2) (fun r b0 b1 b2=>r ((b0,(b1,b2)),())) rfl (fun _=>rfl) (fun _ _=>rfl) (by kernel_rfl)
def zya:SC PG:=fz (y2m N) Tryz.func250 [y0g N] (.cons (.list Z2) .str) .bool [] (fun v=>zof N v.1 v.2) (by kernel_rfl)
def zm2:SE PG:=E0 [] [] [zya N]
def zo9:SL PG Tryz.f203.ntmps (Y0 Tryz.f203):=lz N (zm2 N) [] 58 ⟨[0,1,5,6],yme,[(2000000,[5], .sl Y2)],[]⟩ (2,⟨[5],(.own 2000000),[(2000000,[5], .sl Y2)],[]⟩) [] (z5d N N) (z06 N) (fun f v=>f v.1.1 v.1.2.1 v.1.2.2.2 v.2.1) (fun r b0 b1 b2 b3=>r ((b0,(b1,((),b2))),(b3,()))) rfl (fun _=>rfl) (fun _ _=>rfl) (by kernel_rfl)
def zwu:SC PG:=fz (zm2 N) Tryz.func203 [zo9 N] (.cons (.list Y2) (.list Z2)) (.fresh Y2) [] (fun v=>z50 N v.1 v.2) (by kernel_rfl)
def znh:SE PG:=E0 [] [] []
def zrc:SL PG Tryz.f146.ntmps (Y0 Tryz.f146):=lz N (znh) [] 28 ⟨[0,2,3],(.cons .str Sh5_),[(2000000,[2], .boxC [.str [], .str []])],[]⟩ (2,⟨[0,2,3],(.cons .str Sh5_),[(2000000,[2], .boxC [.str [], .str []])],[]⟩) [] (J9 N N) (z49 N) (fun f v=>f v.1.1 v.1.2.2) (fun r b0 b1=>r ((b0,((),b1)),((),()))) rfl (fun _=>rfl) (fun _ _=>rfl) (by kernel_rfl)
def j9:SC PG:=fz (znh) Tryz.func146 [zrc N] .str (.val Z2) [] (fun v=>U2 N v) (by kernel_rfl)
def zne:SE PG:=E0 [] [] [zya N]
def zr7:SL PG Tryz.f205.ntmps (Y0 Tryz.f205):=lz N (zne N) [] 58 ⟨[0,1,5,6],yme,[(2000000,[5], .sl Y2)],[]⟩ (2,⟨[5],(.own 2000000),[(2000000,[5], .sl Y2)],[]⟩) [] (z6s N N) (z0r N) (fun f v=>f v.1.1 v.1.2.1 v.1.2.2.2 v.2.1) (fun r b0 b1 b2 b3=>r ((b0,(b1,((),b2))),(b3,()))) rfl (fun _=>rfl) (fun _ _=>rfl) (by kernel_rfl)
def y01:SC PG:=fz (zne N) Tryz.func205 [zr7 N] (.cons (.list Y2) (.list Z2)) (.fresh Y2) [] (fun v=>zfm N v.1 v.2) (by kernel_rfl)
def y1b:SC PG:=fz (E0 [] [] [zac N]) Tryz.func206 [] (.cons .str (.cons .str .str)) (.tup (.cons .str .bool)) [] (fun v=>zio N v.1 v.2.1 v.2.2) (by kernel_rfl)
def zjk:SE PG:=E0 [] [] [y03 N,zfd N,zwu N,zks N,j9 N,y01 N,y1b N]
def zte:SL PG Tryz.f141.ntmps (Y0 Tryz.f141):=lz N (zjk N) [] 110570 ⟨[3,5,6],Sh6_,[(2000000,[3], .boxV Z8),(2000001,[5], .sl Y2)],[]⟩ (3,⟨[5],(.own 2000000),[(2000000,[5], .sl Y2)],[]⟩) [] (z87 N N) (z29 N) (fun f v=>f v.1.2.2 v.2.1 v.2.2.1) (fun r b0 b1 b2=>r (((),((),b0)),(b1,(b2,())))) rfl (fun _=>rfl) (fun _ _=>rfl) (by kernel_rfl)
def ztf:SL PG Tryz.f141.ntmps (Y0 Tryz.f141):=lz N (zjk N) [] 250 ⟨[3,7,8,9],(.cons (.ptr 2000000 0) yiv),[(2000000,[3], .boxV Z8),(2000001,[7], .sl Y2),(2000002,[8], .sl Y2)],[]⟩ (5,⟨[7],(.own 2000000),[(2000000,[7], .sl Y2)],[]⟩) [] (z3u N N) (z2a N) (fun f v=>f v.1.2.2.2 v.2.1 v.2.2.1 v.2.2.2.1) (fun r b0 b1 b2 b3=>r (((),((),((),b0))),(b1,(b2,(b3,()))))) rfl (fun _=>rfl) (fun _ _=>rfl) (by kernel_rfl)
def zmy:SC PG:=fz (zjk N) Tryz.func141 [zte N,ztf N] (.cons (.list Y2) (.val Z8)) (.fresh Y2) [] (fun v=>z30 N v.1 v.2) (by kernel_rfl)
def zum:SE PG:=E0 [(K7,[2000002]),(6,[2000003])] [] [z9k N,ze1 N]
def zwa:SL PG Tryz.f93.ntmps (Y0 Tryz.f93):=lz N (zum N) [] 60 ⟨[4,6,7],(.cons (.ptr 2000000 0) (.cons (.ptr 2000001 0) (.list (.int .i64)))),[(2000000,[4], .boxC [.nils]),(2000001,[6], .box (.own 2000002)),(2000002,[6,0], .sl Y8)],[17,56]⟩ (2,⟨[4,6],Sh2_,[(2000000,[4], .boxC [.nils]),(2000001,[6], .box (.own 2000002)),(2000002,[6,0], .sl Y8)],[]⟩) [] (z76 N N) (z3f N) (fun f v=>f v.1.2.2 v.2.2.2.1) (fun r b0 b1=>r (((),((),b0)),((),((),(b1,()))))) rfl (fun _=>rfl) (fun _ _=>rfl) (by kernel_rfl)
def zcc:SC PG:=fz (zum N) Tryz.func93 [zwa N] (.cons (.val (.list Y8)) (.int .i64)) (.tup (.cons (.val (.list Y8)) (.int .i64))) [] (fun v=>z2k N v.1 v.2) (by kernel_rfl)
def y7o:SC PG:=fz (E0 [(10,[34,45])] [] [zgo N,zfc N,zmy N,zkr N,zcc N]) Tryz.func86 [] (.cons (.val X9) (.val Z8)) (.tup (.cons (.val X9) (.int .i64))) [] (fun v=>zk7 N v.1 v.2) (by kernel_rfl)
def zj9:SC PG:=fz (E0 [] [] []) Tryz.func261 [] (.cons .str .str) .bool [] (fun v=>zd7 N v.1 v.2) (by kernel_rfl)
def y5b:SC PG:=fz (E0 [] [] []) Tryz.func300 [] .nil (.val Z2) [] (fun _=>zls N) (by kernel_rfl)
def z9l:SC PG:=fz (E0 [] [] [zj9 N,z3o N,y5b N]) Tryz.func262 [] (.cons (.val Z2) (.val Z2)) (.val Z2) [] (fun v=>z2l N v.1 v.2) (by kernel_rfl)
def zqe:SE PG:=E0 [] [] [z9l N]
def zti:SL PG Tryz.f281.ntmps (Y0 Tryz.f281):=lz N (zqe N) [] 58 ⟨[1,2,5,6,7],(.cons (.list .str) (.cons (.ptr 2000000 0) (.cons (.own 2000001) (.cons .str (.int .i64))))),[(2000000,[2], .boxV Z2),(2000001,[5], .sl Z2)],[]⟩ (2,⟨[2,5,6],(.cons (.ptr 2000000 0) (.cons (.own 2000001) .str)),[(2000000,[2], .boxV Z2),(2000001,[5], .sl Z2)],[]⟩) [] (z8a N N) (z2c N) (fun f v=>f v.1.1 v.1.2.2.2.1 v.1.2.2.2.2 v.2.1 v.2.2.1) (fun r b0 b1 b2 b3 b4=>r ((b0,((),((),(b1,b2)))),(b3,(b4,())))) rfl (fun _=>rfl) (fun _ _=>rfl) (by kernel_rfl)
def zmz:SC PG:=fz (zqe N) Tryz.func281 [zti N] (.cons (.val Z2) (.list .str)) (.fresh Z2) [] (fun v=>zds N v.1 v.2) (by kernel_rfl)
def zms:SC PG:=fz (E0 [] [] [zmz N]) Tryz.func237 [] (.cons (.val Z9) (.val Z2)) (.fresh Z2) [] (fun v=>z8i N v.1 v.2) (by kernel_rfl)
def zkz:SE PG:=E0 [(K7,[2000001,2000002,2000003,2000004,2000005])] [] [zfc N,zms N]
def zw4:SL PG Tryz.f251.ntmps (Y0 Tryz.f251):=pz (zkz N) [] 489 ⟨[1,2,4,5,7,8],(.cons (.list (.int .i64)) (.cons (.ptr 2000000 0) (.cons (.ptr 2000001 0) (.cons (.ptr 2000002 0) (.cons (.ptr 2000003 0) (.int .i64)))))),[(2000000,[2], .boxV X9),(2000001,[4], .boxC [.nils, .nils, .nils, .nils, .nils, .str [], .str [], .int .i64 0]),(2000002,[5], .boxV Z9),(2000003,[7], .boxV Z2)],[]⟩ (1,⟨[4],(.ptr 2000000 0),[(2000000,[4], .box yp1),(2000001,[4,0], .sl Y2),(2000002,[4,1], .sl .str),(2000003,[4,2], .sl (.int .i64)),(2000004,[4,3], .sl K9),(2000005,[4,4], .sl Z8)],[]⟩) [(0,⟨[1,2,4,5,6,7,8],yp2,[(2000000,[2], .boxV X9),(2000001,[4], .boxC [.nils, .nils, .nils, .nils, .nils, .str [], .str [], .int .i64 0]),(2000002,[5], .boxV Z9),(2000003,[7], .boxV Z2)],[]⟩)] (fun v=>zjb N v.1.1 v.1.2.2.2.2.2 v.2.1 v.2.2.2.1 v.2.2.2.2.1) (by kernel_rfl)
def zw5:SL PG Tryz.f251.ntmps (Y0 Tryz.f251):=lz N (zkz N) [zw4 N] 122 ⟨[1,2,4,5,6,7,8],yp2,[(2000000,[2], .boxV X9),(2000001,[4], .boxC [.nils, .nils, .nils, .nils, .nils, .str [], .str [], .int .i64 0]),(2000002,[5], .boxV Z9),(2000003,[7], .boxV Z2)],[]⟩ (1,⟨[4],(.ptr 2000000 0),[(2000000,[4], .box yp1),(2000001,[4,0], .sl Y2),(2000002,[4,1], .sl .str),(2000003,[4,2], .sl (.int .i64)),(2000004,[4,3], .sl K9),(2000005,[4,4], .sl Z8)],[]⟩) [(2,⟨[4,5,6,7],(.cons (.ptr 2000000 0) (.cons (.ptr 2000001 0) (.cons (.int .i64) (.ptr 2000002 0)))),[(2000000,[4], .boxC [.nils, .nils, .nils, .nils, .nils, .str [], .str [], .int .i64 0]),(2000001,[5], .boxV Z9),(2000002,[7], .boxV Z2)],[]⟩)] (z9u N N) (z3a N) (fun f v=>f v.1.1 v.1.2.2.2.2.1 v.1.2.2.2.2.2.2 v.2.1 v.2.2.2.1 v.2.2.2.2.1) (fun r b0 b1 b2 b3 b4 b5=>r ((b0,((),((),((),(b1,((),b2)))))),(b3,((),(b4,(b5,())))))) rfl (fun _=>rfl) (fun _ _=>rfl) (by kernel_rfl)
def z9j:SC PG:=fz (zkz N) Tryz.func251 [zw5 N] (.cons (.val X9) (.list (.int .i64))) (.val zl5) [] (fun v=>z8p N v.1 v.2) (by kernel_rfl)
def y53:SC PG:=fz (E0 [] [] []) Tryz.func252 [] (.cons (.val Z9) (.val z31)) .bool [] (fun v=>zlo N v.1 v.2) (by kernel_rfl)
def zwq:SC PG:=fz (E0 [(K7,[12])] [] []) Tryz.func253 [] (.cons (.list (.int .i64)) (.int .i64)) (.list (.int .i64)) [] (fun v=>zcq N v.1 v.2) (by kernel_rfl)
def z5h(self:Y5->(List Int)->Bool->Option (Q9)):Ctr:=zm4 (.cons (.val X9) (.cons (.list (.int .i64)) .bool)) (.val zfy) [] (fun v=>self v.1 v.2.1 v.2.2)
def zq3(self:Y5->(List Int)->Bool->Option (Q9))(hs:z60 PG 207 fun xs=>(z5h self).run xs some):SE PG:=E0 [] [] [⟨207,z5h self,hs⟩,z9j N,y53 N,zwq N]
def zso(self:Y5->(List Int)->Bool->Option (Q9))(hs:z60 PG 207 fun xs=>(z5h self).run xs some):SL PG Tryz.f207.ntmps (Y0 Tryz.f207):=lz N (zq3 N self hs) [] 250 ⟨[1,2,3,6,7,8],(.cons (.list (.int .i64)) (.cons .bool Sh4_)),[(2000000,[3], .boxV X9),(2000001,[6], .boxC [.nils, .bool false]),(2000002,[7], .boxV zl5)],[]⟩ (1,⟨[6],(.ptr 2000000 0),[(2000000,[6], .boxV zfy)],[]⟩) [(2,⟨[6],(.ptr 2000000 0),[(2000000,[6], .boxC [.nils, .bool false])],[]⟩)] (J8 N self N) (z1n N self) (fun f v=>f v.1.1 v.1.2.1 v.1.2.2.2.2.2 v.2.1 v.2.2.2.1) (fun r b0 b1 b2 b3 b4=>r ((b0,(b1,((),((),((),b2))))),(b3,((),(b4,()))))) rfl (fun _=>rfl) (fun _ _=>rfl) (by kernel_rfl)
def y1f(self:Y5->(List Int)->Bool->Option (Q9))(hs:z60 PG 207 fun xs=>(z5h self).run xs some):SC PG:=fz (zq3 N self hs) Tryz.func207 [zso N self hs] (.cons (.val X9) (.cons (.list (.int .i64)) .bool)) (.val zfy) [] (fun v=>z5c N self v.1 v.2.1 v.2.2) (by kernel_rfl)
def y0r:SC PG:=recz (f:=207) z5h (fun _ _ _=>none) (z5c N) (y2p fun _=>rfl) (fun self hs=>(y1f N self hs).h) N
def zq4:SE PG:=E0 [] [] []
def zsr:SL PG Tryz.f292.ntmps (Y0 Tryz.f292):=lz N (zq4) [] 250 ⟨[0,5,6,7],(.cons (.int .i64) (.cons (.int .i64) zm8)),[(2000000,[6], .sl (.int .i64))],[]⟩ (2,⟨[6],(.own 2000000),[(2000000,[6], .sl (.int .i64))],[]⟩) [] (z7s N N) (z1o N) (fun f v=>f v.1.1 v.1.2.1 v.1.2.2.2 v.2.1) (fun r b0 b1 b2 b3=>r ((b0,(b1,((),b2))),(b3,()))) rfl (fun _=>rfl) (fun _ _=>rfl) (by kernel_rfl)
def zmr:SC PG:=fz (zq4) Tryz.func292 [zsr N] (.cons (.int .i64) (.int .i64)) (.fresh (.int .i64)) [] (fun v=>z4w N v.1 v.2) (by kernel_rfl)
def zn9:SE PG:=E0 [] [] [zmr N]
def zqx:SL PG Tryz.f290.ntmps (Y0 Tryz.f290):=lz N (zn9 N) [] 122 ⟨[0,5,6,7,8],(.cons (.list Y2) (.cons (.own 2000000) (.cons (.int .i64) y5s))),[(2000000,[5], .sl (.list Y2)),(2000001,[7], .sl (.int .i64))],[]⟩ (2,⟨[5],(.own 2000000),[(2000000,[5], .sl (.list Y2))],[]⟩) [] (z6m N N) (z0k N) (fun f v=>f v.1.1 v.1.2.2.1 v.1.2.2.2.2 v.2.1 v.2.2.1) (fun r b0 b1 b2 b3 b4=>r ((b0,((),(b1,((),b2)))),(b3,(b4,())))) rfl (fun _=>rfl) (fun _ _=>rfl) (by kernel_rfl)
def zzv:SC PG:=fz (zn9 N) Tryz.func290 [zqx N] (.cons (.list Y2) (.int .i64)) (.fresh (.list Y2)) [] (fun v=>zfj N v.1 v.2) (by kernel_rfl)
def zuk:SE PG:=E0 [(K7,[17,2000002,2000003,2000004])] [] [zzv N]
def zw6:SL PG Tryz.f254.ntmps (Y0 Tryz.f254):=lz N (zuk N) [] 250 ⟨[4,5,6,7],(.cons (.ptr 2000000 0) (.cons (.own 2000001) (.cons (.ptr 2000002 0) (.int .i64)))),[(2000000,[4], .boxC [.nils, .nils, .nils]),(2000001,[5], .sl (.list Y2)),(2000002,[6], .box (.cons (.own 2000003) (.cons (.own 2000004) (.own 2000005)))),(2000003,[6,0], .sl Z9),(2000004,[6,1], .sl .str),(2000005,[6,2], .sl Z8)],[]⟩ (2,⟨[4,6],Sh2_,[(2000000,[4], .boxC [.nils, .nils, .nils]),(2000001,[6], .box ymf),(2000002,[6,0], .sl Z9),(2000003,[6,1], .sl .str),(2000004,[6,2], .sl Z8)],[]⟩) [] (z9v N N) (z3b N) (fun f v=>f v.1.2.2.2 v.2.2.1 v.2.2.2.2.1 v.2.2.2.2.2.1 v.2.2.2.2.2.2.1) (fun r b0 b1 b2 b3 b4=>r (((),((),((),b0))),((),(b1,(((),((),())),(b2,(b3,(b4,())))))))) rfl (fun _=>rfl) (fun _ _=>rfl) (by kernel_rfl)
def zpk:SC PG:=fz (zuk N) Tryz.func254 [zw6 N] (.cons (.val Z9) (.val z31)) (.val zjr) [] (fun v=>zcs N v.1 v.2) (by kernel_rfl)
def zyt:SE PG:=E0 [(K7,[2000001,2000002])] [] [zkr N]
def zzg:SL PG Tryz.f296.ntmps (Y0 Tryz.f296):=lz N (zyt N) [] 58 ⟨[1,4,5,6],(.cons (.list Z9) Sh9_),[(2000000,[4], .boxC [.nils, .nils, .int .i64 0]),(2000001,[5], .box (.cons (.list Y8) (.cons (.own 2000002) (.int .i64)))),(2000002,[5,1], .sl (.int .i64))],[]⟩ (1,⟨[4],(.ptr 2000000 0),[(2000000,[4], .box yiv),(2000001,[4,0], .sl Y8),(2000002,[4,1], .sl (.int .i64))],[]⟩) [(2,⟨[4,5],Sh2_,[(2000000,[4], .boxC [.nils, .nils, .int .i64 0]),(2000001,[5], .box (.cons (.list Y8) (.cons (.own 2000002) (.int .i64)))),(2000002,[5,1], .sl (.int .i64))],[]⟩)] (z4s N N) (z4j N) (fun f v=>f v.1.1 v.1.2.2.2 v.2.2.1.1 v.2.2.1.2.2 v.2.2.2.1) (fun r b0 b1 b2 b3 b4=>r ((b0,((),((),b1))),((),((b2,((),b3)),(b4,()))))) rfl (fun _=>rfl) (fun _ _=>rfl) (by kernel_rfl)
def zu1:SC PG:=fz (zyt N) Tryz.func296 [zzg N] (.cons (.val (.list Y8)) (.list Z9)) (.val zjq) [] (fun v=>zdh N v.1 v.2) (by kernel_rfl)
def zqf:SE PG:=E0 [] [] []
def ztn:SL PG Tryz.f325.ntmps (Y0 Tryz.f325):=pz (zqf) [] 31 ⟨[0,1,4,5,6],(.cons .str (.cons (.int .i64) (.cons (.ptr 2000000 0) (.cons (.ptr 2000001 0) .str)))),[(2000000,[4], .boxC [.str [], .int .i64 0, .int .i64 0, .str []]),(2000001,[5], .boxV z19)],[]⟩ (1,⟨[4],(.ptr 2000000 0),[(2000000,[4], .boxV z19)],[]⟩) [] (fun v=>z3v N v.1.1 v.1.2.1 v.1.2.2.2.2 v.2.2.1) (by kernel_rfl)
def y1d:SC PG:=fz (zqf) Tryz.func325 [ztn N] (.cons .str (.int .i64)) (.val z19) [] (fun v=>zir N v.1 v.2) (by kernel_rfl)
def zqi:SE PG:=E0 [] [] []
def ztq:SL PG Tryz.f327.ntmps (Y0 Tryz.f327):=lz N (zqi) [] 58 ⟨[0,4,5,6],(.cons .str (.cons (.own 2000000) (.cons .str (.int .i64)))),[(2000000,[4], .sl .str)],[]⟩ (2,⟨[4,5],(.cons (.own 2000000) .str),[(2000000,[4], .sl .str)],[]⟩) [] (z8d N N) (z2g N) (fun f v=>f v.1.1 v.1.2.2.1 v.1.2.2.2 v.2.1) (fun r b0 b1 b2 b3=>r ((b0,((),(b1,b2))),(b3,()))) rfl (fun _=>rfl) (fun _ _=>rfl) (by kernel_rfl)
def y1e:SC PG:=fz (zqi) Tryz.func327 [ztq N] .str (.tup (.cons (.fresh .str) .bool)) [] (fun v=>zis N v) (by kernel_rfl)
def zur:SE PG:=E0 [] [] []
def zwk:SL PG Tryz.f71.ntmps (Y0 Tryz.f71):=lz N (zur) [] 58 ⟨[0,3],(.cons .str (.int .i64)),[],[]⟩ (1,⟨[2], .bool,[],[]⟩) [(2,⟨[], .nil,[],[]⟩)] (za3 N N) (z3l N) (fun f v=>f v.1.1 v.1.2) (fun r b0 b1=>r ((b0,b1),())) rfl (fun _=>rfl) (fun _ _=>rfl) (by kernel_rfl)
def zja:SC PG:=fz (zur) Tryz.func71 [zwk N] .str .bool [] (fun v=>z8r N v) (by kernel_rfl)
def zqg:SE PG:=E0 [] [] [y1e N,zja N]
def zto:SL PG Tryz.f320.ntmps (Y0 Tryz.f320):=lz N (zqg N) [] 58 ⟨[3,4,5],(.cons (.own 2000000) (.cons .bool (.int .i64))),[(2000000,[3], .sl .str)],[]⟩ (1,⟨[2], .bool,[],[]⟩) [(2,⟨[4], .bool,[],[]⟩)] (z8b N N) (z2e N) (fun f v=>f v.1.2.1 v.1.2.2 v.2.1) (fun r b0 b1 b2=>r (((),(b0,b1)),(b2,()))) rfl (fun _=>rfl) (fun _ _=>rfl) (by kernel_rfl)
def zn0:SC PG:=fz (zqg N) Tryz.func320 [zto N] .str .bool [] (fun v=>z8l N v) (by kernel_rfl)
def zus:SE PG:=E0 [] [] []
def zwl:SL PG Tryz.f328.ntmps (Y0 Tryz.f328):=lz N (zus) [] 122 ⟨[0,3,4],(.cons (.int .i64) (.cons .str (.int .i64))),[],[]⟩ (2,⟨[3], .str,[],[]⟩) [] (za4 N N) (z3m N) (fun f v=>f v.1.1 v.1.2.1 v.1.2.2) (fun r b0 b1 b2=>r ((b0,(b1,b2)),())) rfl (fun _=>rfl) (fun _ _=>rfl) (by kernel_rfl)
def y5c:SC PG:=fz (zus) Tryz.func328 [zwl N] (.int .i64) .str [] (fun v=>zlt N v) (by kernel_rfl)
def zni:SE PG:=E0 [] [] [y5c N]
def zrd:SL PG Tryz.f321.ntmps (Y0 Tryz.f321):=lz N (zni N) [] 122 ⟨[0,3,4],(.cons .str zpb),[],[]⟩ (2,⟨[0,3],(.cons .str (.int .i64)),[],[]⟩) [] (z6v N N) (z0x N) (fun f v=>f v.1.1 v.1.2.1 v.1.2.2) (fun r b0 b1 b2=>r ((b0,(b1,b2)),())) rfl (fun _=>rfl) (fun _ _=>rfl) (by kernel_rfl)
def zlc:SC PG:=fz (zni N) Tryz.func321 [zrd N] .str .bool [] (fun v=>z97 N v) (by kernel_rfl)
def zjm:SE PG:=E0 [] [] [zn0 N,zlc N,zja N]
def ztl:SL PG Tryz.f329.ntmps (Y0 Tryz.f329):=pz (zjm N) [] 13 ⟨[1,32],(.cons (.ptr 2000000 0) .bool),[(2000000,[1], .boxV z19)],[]⟩ (1,⟨[2], .bool,[],[]⟩) [(0,⟨[1],(.ptr 2000000 0),[(2000000,[1], .boxV z19)],[]⟩)] (fun v=>K2 N v.1.2 v.2.1) (by kernel_rfl)
def ztm:SL PG Tryz.f329.ntmps (Y0 Tryz.f329):=pz (zjm N) [] 7 ⟨[1],(.ptr 2000000 0),[(2000000,[1], .boxV z19)],[]⟩ (1,⟨[2], .bool,[],[]⟩) [] (fun v=>Q2 N v.2.1) (by kernel_rfl)
def y1c:SC PG:=fz (zjm N) Tryz.func329 [ztl N,ztm N] (.val z19) .bool [] (fun v=>ziq N v) (by kernel_rfl)
def y7r:SC PG:=fz (E0 [] [] [y1c N]) Tryz.func326 [] (.val z19) (.tup (.cons .str (.int .i64))) [] (fun v=>zow N v) (by kernel_rfl)
def zqh:SE PG:=E0 [] [] [y1d N,y7r N]
def ztp:SL PG Tryz.f319.ntmps (Y0 Tryz.f319):=lz N (zqh N) [] 26 ⟨[0,2,4],(.cons .str Sh5_),[(2000000,[2], .boxC [.str [], .int .i64 0, .int .i64 0, .str []])],[]⟩ (1,⟨[2,3],Sh5_,[(2000000,[2], .boxV z19)],[]⟩) [(2,⟨[2],(.ptr 2000000 0),[(2000000,[2], .boxC [.str [], .int .i64 0, .int .i64 0, .str []])],[]⟩)] (z8c N N) (z2f N) (fun f v=>f v.1.1 v.1.2.2) (fun r b0 b1=>r ((b0,((),b1)),((),()))) rfl (fun _=>rfl) (fun _ _=>rfl) (by kernel_rfl)
def zn1:SC PG:=fz (zqh N) Tryz.func319 [ztp N] .str (.tup (.cons (.val z19) (.int .i64))) [] (fun v=>zdu N v) (by kernel_rfl)
def y04:SC PG:=fz (E0 [] [] [zn1 N]) Tryz.func307 [] (.val Y2) (.val zh5) [] (fun v=>zfo N v) (by kernel_rfl)
def zqd:SE PG:=E0 [] [] [y04 N]
def zth:SL PG Tryz.f283.ntmps (Y0 Tryz.f283):=lz N (zqd N) [] 58 ⟨[0,2,3,4],(.cons (.list Y2) Sh9_),[(2000000,[2], .boxC [.int .i64 0, .int .i64 0]),(2000001,[3], .boxV zh5)],[]⟩ (2,⟨[2,3],Sh2_,[(2000000,[2], .boxC [.int .i64 0, .int .i64 0]),(2000001,[3], .boxV zh5)],[]⟩) [] (z89 N N) (z2b N) (fun f v=>f v.1.1 v.1.2.2.2 v.2.2.1) (fun r b0 b1 b2=>r ((b0,((),((),b1))),((),(b2,())))) rfl (fun _=>rfl) (fun _ _=>rfl) (by kernel_rfl)
def y1a:SC PG:=fz (zqd N) Tryz.func283 [zth N] (.list Y2) (.val zh5) [] (fun v=>zin N v) (by kernel_rfl)
def y0z:SC PG:=fz (E0 [] [] []) Tryz.func282 [] (.val zh5) (.val K9) [] (fun v=>znt N v) (by kernel_rfl)
def y52:SC PG:=fz (E0 [] [] []) Tryz.func284 [] (.cons (.val K9) (.val K9)) (.val K9) [] (fun v=>zru N v.1 v.2) (by kernel_rfl)
def zws:SC PG:=fz (E0 [] [] [zn1 N]) Tryz.func308 [] .str .bool [] (fun v=>z9z N v) (by kernel_rfl)
def zzy:SC PG:=fz (E0 [] [] []) Tryz.func309 [] (.cons (.val z67) (.int .i64)) (.val z67) [] (fun v=>z4u N v.1 v.2) (by kernel_rfl)
def y0w:SC PG:=fz (E0 [] [] []) Tryz.func310 [] (.cons (.val z67) (.int .i64)) (.val z67) [] (fun v=>zas N v.1 v.2) (by kernel_rfl)
def zji:SE PG:=E0 [] [] [zn0 N,zlc N]
def zt5:SL PG Tryz.f311.ntmps (Y0 Tryz.f311):=pz (zji N) [] 15 ⟨[0,1,5,6],(.cons .str (.cons .str (.cons .bool .bool))),[],[]⟩ (1,⟨[4], .bool,[],[]⟩) [] (fun v=>z3s N v.1.1 v.1.2.1 v.1.2.2.1 v.1.2.2.2) (by kernel_rfl)
def zt6:SL PG Tryz.f311.ntmps (Y0 Tryz.f311):=pz (zji N) [zt5 N] 7 ⟨[0,1,5],(.cons .str (.cons .str .bool)),[],[]⟩ (1,⟨[4], .bool,[],[]⟩) [] (fun v=>z3t N v.1.1 v.1.2.1 v.1.2.2) (by kernel_rfl)
def y10:SC PG:=fz (zji N) Tryz.func311 [zt6 N] (.cons .str .str) .bool [] (fun v=>zdq N v.1 v.2) (by kernel_rfl)
def zzz:SC PG:=fz (E0 [] [] [zws N,zzy N,y0w N,y10 N]) Tryz.func285 [] (.cons (.val K9) (.val Z8)) (.val K9) [] (fun v=>z6c N v.1 v.2) (by kernel_rfl)
def zny:SE PG:=E0 [] [] [y1a N,y0z N,y52 N,zzz N]
def zzl:SL PG Tryz.f238.ntmps (Y0 Tryz.f238):=lz N (zny N) [] 250 ⟨[1,2,3,5],Sh4_,[(2000000,[1], .boxV Z9),(2000001,[2], .boxC [.int .i64 0, .int .i64 0, .int .i64 0, .int .i64 0]),(2000002,[3], .boxV K9)],[]⟩ (4,⟨[2,3],Sh2_,[(2000000,[2], .boxC [.int .i64 0, .int .i64 0, .int .i64 0, .int .i64 0]),(2000001,[3], .boxV K9)],[]⟩) [] (zbp N N) (z4n N) (fun f v=>f v.1.2.2.2 v.2.1 v.2.2.2.1) (fun r b0 b1 b2=>r (((),((),((),b0))),(b1,((),(b2,()))))) rfl (fun _=>rfl) (fun _ _=>rfl) (by kernel_rfl)
def zzm:SL PG Tryz.f238.ntmps (Y0 Tryz.f238):=lz N (zny N) [] 122 ⟨[1,2,3,4],Sh4_,[(2000000,[1], .boxV Z9),(2000001,[2], .boxC [.int .i64 0, .int .i64 0, .int .i64 0, .int .i64 0]),(2000002,[3], .boxV K9)],[]⟩ (2,⟨[1,2,3],Sh8_,[(2000000,[1], .boxV Z9),(2000001,[2], .boxC [.int .i64 0, .int .i64 0, .int .i64 0, .int .i64 0]),(2000002,[3], .boxV K9)],[]⟩) [] (zbq N N) (z4o N) (fun f v=>f v.1.2.2.2 v.2.1 v.2.2.2.1) (fun r b0 b1 b2=>r (((),((),((),b0))),(b1,((),(b2,()))))) rfl (fun _=>rfl) (fun _ _=>rfl) (by kernel_rfl)
def zu2:SC PG:=fz (zny N) Tryz.func238 [zzm N,zzl N] (.val Z9) (.val K9) [] (fun v=>zk8 N v) (by kernel_rfl)
def zuj:SE PG:=E0 [] [] [zu2 N]
def zw3:SL PG Tryz.f312.ntmps (Y0 Tryz.f312):=lz N (zuj N) [] 58 ⟨[0,3,4],(.cons (.list Z9) zm8),[(2000000,[3], .sl K9)],[]⟩ (2,⟨[3],(.own 2000000),[(2000000,[3], .sl K9)],[]⟩) [] (z9t N N) (z39 N) (fun f v=>f v.1.1 v.1.2.2 v.2.1) (fun r b0 b1 b2=>r ((b0,((),b1)),(b2,()))) rfl (fun _=>rfl) (fun _ _=>rfl) (by kernel_rfl)
def y4w:SC PG:=fz (zuj N) Tryz.func312 [zw3 N] (.list Z9) (.fresh K9) [] (fun v=>zll N v) (by kernel_rfl)
def zmq:SC PG:=fz (E0 [(K7,[23,40,55,63])] [] [y4w N]) Tryz.func297 [] (.cons (.val Z9) (.cons (.int .i64) (.cons (.val zdy) (.list (.int .i64))))) (.val Z9) [] (fun v=>z8h N v.1 v.2.1 v.2.2.1 v.2.2.2) (by kernel_rfl)
def zn8:SE PG:=E0 [(K7,[2000000])] [] [zu2 N]
def zqw:SL PG Tryz.f312.ntmps (Y0 Tryz.f312):=lz N (zn8 N) [] 58 ⟨[0,3,4],(.cons (.list Z9) zm8),[(2000000,[3], .sl K9)],[]⟩ (2,⟨[3],(.own 2000000),[(2000000,[3], .sl K9)],[]⟩) [] (z6l N N) (z7i N) (fun f v=>f v.1.1 v.1.2.2 v.2.1) (fun r b0 b1 b2=>r ((b0,((),b1)),(b2,()))) rfl (fun _=>rfl) (fun _ _=>rfl) (by kernel_rfl)
def zzu:SC PG:=fz (zn8 N) Tryz.func312 [zqw N] (.list Z9) (.list K9) [] (fun v=>zfi N v) (by kernel_rfl)
def zj8:SC PG:=fz (E0 [(K7,[13])] [] [z9k N,ze1 N]) Tryz.func91 [] (.cons (.val (.list Y8)) (.int .i64)) (.tup (.cons (.val (.list Y8)) (.int .i64))) [] (fun v=>z8q N v.1 v.2) (by kernel_rfl)
def zys:SE PG:=E0 [] [] [zcc N]
def zzf:SL PG Tryz.f298.ntmps (Y0 Tryz.f298):=lz N (zys N) [] 26 ⟨[1,2,4,5],(.cons (.list (.int .i64)) Sh9_),[(2000000,[2], .box (.list Y8)),(2000001,[4], .boxC [.nils])],[]⟩ (2,⟨[2,4],Sh2_,[(2000000,[2], .box (.list Y8)),(2000001,[4], .boxC [.nils])],[]⟩) [] (zbn N N) (z4i N) (fun f v=>f v.1.1 v.1.2.2.2 v.2.1) (fun r b0 b1 b2=>r ((b0,((),((),b1))),(b2,((),())))) rfl (fun _=>rfl) (fun _ _=>rfl) (by kernel_rfl)
def zu0:SC PG:=fz (zys N) Tryz.func298 [zzf N] (.cons (.val (.list Y8)) (.list (.int .i64))) (.val (.list Y8)) [] (fun v=>zgx N v.1 v.2) (by kernel_rfl)
def ziw:SE PG:=E0 [(19,[2000003]),(2000114,[113]),(3000084,[84])] [] [zu1 N,z9j N,zmq N,zzu N,zj8 N,zu0 N]
def zzc:SL PG Tryz.f291.ntmps (Y0 Tryz.f291):=pz (ziw N) [] 30845 ⟨[3,5,6,8,9,11,12,72],(.cons (.ptr 2000000 0) (.cons (.ptr 2000001 0) (.cons (.ptr 2000002 0) (.cons (.ptr 2000003 0) (.cons (.own 2000004) (.cons (.ptr 2000005 0) (.cons (.int .i64) .bool))))))),[(2000000,[3], .boxV X9),(2000001,[5], .box (.cons (.list Z9) (.cons (.list .str) (.list Z8)))),(2000002,[6], .boxC [.nils, .int .i64 0, .int .i64 0, .int .i64 0, .int .i64 0]),(2000003,[8], .box (.list Y8)),(2000004,[9], .sl (.int .i64)),(2000005,[11], .boxV zjq)],[]⟩ (1,⟨[6,7],Sh5_,[(2000000,[6], .boxV X9)],[]⟩) [(0,⟨[3,6,8,9,12],yix,[(2000000,[3], .boxV X9),(2000001,[6], .boxC [.nils, .int .i64 0, .int .i64 0, .int .i64 0, .int .i64 0]),(2000002,[8], .box (.list Y8)),(2000003,[9], .sl (.int .i64))],[]⟩)] (fun v=>z91 N v.1.2.2.2.2.2.2.1 v.1.2.2.2.2.2.2.2 v.2.1 v.2.2.1.1 v.2.2.1.2.1 v.2.2.1.2.2 v.2.2.2.2.1 v.2.2.2.2.2.1 v.2.2.2.2.2.2.1) (by kernel_rfl)
def zzd:SL PG Tryz.f291.ntmps (Y0 Tryz.f291):=pz (ziw N) [] 15423 ⟨[3,6,8,9,12],yix,[(2000000,[3], .boxV X9),(2000001,[6], .boxC [.nils, .int .i64 0, .int .i64 0, .int .i64 0, .int .i64 0]),(2000002,[8], .box (.list Y8)),(2000003,[9], .sl (.int .i64))],[]⟩ (1,⟨[6,7],Sh5_,[(2000000,[6], .boxV X9)],[]⟩) [] (fun v=>z92 N v.1.2.2.2.2 v.2.1 v.2.2.2.1 v.2.2.2.2.1) (by kernel_rfl)
def zze:SL PG Tryz.f291.ntmps (Y0 Tryz.f291):=lz N (ziw N) [zzc N,zzd N] 30 ⟨[1,3,5,6,8,9,10],(.cons (.list (.int .i64)) (.cons (.ptr 2000000 0) (.cons (.ptr 2000001 0) (.cons (.ptr 2000002 0) (.cons (.ptr 2000003 0) yee))))),[(2000000,[3], .boxV X9),(2000001,[5], .box (.cons (.list Z9) (.cons (.list .str) (.list Z8)))),(2000002,[6], .boxC [.nils, .int .i64 0, .int .i64 0, .int .i64 0, .int .i64 0]),(2000003,[8], .box (.list Y8)),(2000004,[9], .sl (.int .i64))],[61]⟩ (1,⟨[6,7],Sh5_,[(2000000,[6], .boxV X9)],[]⟩) [] (zbm N N) (z4h N) (fun f v=>f v.1.1 v.1.2.2.2.2.2.2 v.2.1 v.2.2.1.1 v.2.2.1.2.1 v.2.2.1.2.2 v.2.2.2.2.1 v.2.2.2.2.2.1) (fun r b0 b1 b2 b3 b4 b5 b6 b7=>r ((b0,((),((),((),((),((),b1)))))),(b2,((b3,(b4,b5)),((),(b6,(b7,()))))))) rfl (fun _=>rfl) (fun _ _=>rfl) (by kernel_rfl)
def ztz:SC PG:=fz (ziw N) Tryz.func291 [zze N] (.cons (.val X9) (.cons (.list (.int .i64)) (.val zdy))) (.tup (.cons (.val X9) (.int .i64))) [] (fun v=>zb4 N v.1 v.2.1 v.2.2) (by kernel_rfl)
def zyu:SE PG:=E0 [] [] [z9j N,ztz N]
def zzh:SL PG Tryz.f255.ntmps (Y0 Tryz.f255):=pz (zyu N) [] 7 ⟨[1,3,5,6],(.cons (.list (.int .i64)) Sh8_),[(2000000,[3], .boxV X9),(2000001,[5], .boxV zdy),(2000002,[6], .boxC [.nils, .int .i64 0, .int .i64 0, .int .i64 0, .int .i64 0])],[]⟩ (1,⟨[6,7],Sh5_,[(2000000,[6], .boxV X9)],[]⟩) [] (fun v=>zkt N v.1.1 v.2.1 v.2.2.1) (by kernel_rfl)
def y7m:SC PG:=fz (zyu N) Tryz.func255 [zzh N] (.cons (.val X9) (.cons (.list (.int .i64)) (.val zdy))) (.tup (.cons (.val X9) (.int .i64))) [] (fun v=>zgy N v.1 v.2.1 v.2.2) (by kernel_rfl)
def zq5:SE PG:=E0 [(K7,[2000002,2000003])] [] [zmr N]
def zss:SL PG Tryz.f256.ntmps (Y0 Tryz.f256):=lz N (zq5 N) [] 122 ⟨[2,4,5,6,7,8],(.cons (.ptr 2000000 0) (.cons (.ptr 2000001 0) (.cons (.ptr 2000002 0) (.cons (.int .i64) (.cons (.own 2000005) (.int .i64)))))),[(2000000,[2], .boxV Z9),(2000001,[4], .boxC [.nils, .nils, .nils]),(2000002,[5], .box (.cons (.own 2000003) (.cons (.own 2000004) (.list Z8)))),(2000003,[5,0], .sl Z9),(2000004,[5,1], .sl .str),(2000005,[7], .sl (.int .i64))],[]⟩ (2,⟨[4,5],Sh2_,[(2000000,[4], .boxC [.nils, .nils, .nils]),(2000001,[5], .box (.cons (.own 2000002) (.cons (.own 2000003) (.list Z8)))),(2000002,[5,0], .sl Z9),(2000003,[5,1], .sl .str)],[]⟩) [] (z7t N N) (z1p N) (fun f v=>f v.1.2.2.2.1 v.1.2.2.2.2.2 v.2.1 v.2.2.2.1.2.2 v.2.2.2.2.1 v.2.2.2.2.2.1 v.2.2.2.2.2.2.1) (fun r b0 b1 b2 b3 b4 b5 b6=>r (((),((),((),(b0,((),b1))))),(b2,((),(((),((),b3)),(b4,(b5,(b6,())))))))) rfl (fun _=>rfl) (fun _ _=>rfl) (by kernel_rfl)
def y0t:SC PG:=fz (zq5 N) Tryz.func256 [zss N] (.cons (.val Z9) (.val z31)) (.val zjr) [] (fun v=>zig N v.1 v.2) (by kernel_rfl)
def y11:SC PG:=fz (E0 [] [] [zmz N]) Tryz.func313 [] (.list .str) (.fresh Z2) [] (fun v=>znu N v) (by kernel_rfl)
def y12:SC PG:=fz (E0 [] [] []) Tryz.func322 [] (.val Z8) .bool [] (fun v=>zat N v) (by kernel_rfl)
def zba:SC PG:=fz (E0 [] [] [j9 N]) Tryz.func213 [] (.val Z8) (.fresh Z2) [] (fun v=>z64 N v) (by kernel_rfl)
def z41:SC PG:=fz (E0 [] [] [zfd N,j9 N]) Tryz.func211 [] (.val Z8) (.fresh Z2) [] (fun v=>K6 N v) (by kernel_rfl)
def zlb:SC PG:=fz (E0 [] [] [z3o N,zj9 N]) Tryz.func306 [] (.cons (.val Z2) (.val Z2)) .bool [] (fun v=>zbt N v.1 v.2) (by kernel_rfl)
def zup:SE PG:=E0 [] [] [zba N,z41 N,zlb N]
def zwd:SL PG Tryz.f323.ntmps (Y0 Tryz.f323):=lz N (zup N) [] 58 ⟨[3,5,6],Sh6_,[(2000000,[3], .boxV Z2),(2000001,[5], .sl Z2)],[]⟩ (1,⟨[4], .bool,[],[]⟩) [(2,⟨[], .nil,[],[]⟩)] (za1 N N) (z3i N) (fun f v=>f v.1.2.2 v.2.1 v.2.2.1) (fun r b0 b1 b2=>r (((),((),b0)),(b1,(b2,())))) rfl (fun _=>rfl) (fun _ _=>rfl) (by kernel_rfl)
def y57:SC PG:=fz (zup N) Tryz.func323 [zwd N] (.cons (.val Z8) (.val Z2)) .bool [] (fun v=>zlr N v.1 v.2) (by kernel_rfl)
def zjj:SE PG:=E0 [] [] [z9l N,z3o N]
def ztb:SL PG Tryz.f275.ntmps (Y0 Tryz.f275):=lz N (zjj N) [] 1682 ⟨[0,1,5,6],(.cons (.list Z2) (.cons (.list Z2) zpb)),[],[]⟩ (1,⟨[4], .bool,[],[]⟩) [(4,⟨[0,1,5],(.cons (.list Z2) (.cons (.list Z2) (.int .i64))),[],[]⟩)] (z85 N N) (z26 N) (fun f v=>f v.1.1 v.1.2.1 v.1.2.2.1 v.1.2.2.2) (fun r b0 b1 b2 b3=>r ((b0,(b1,(b2,b3))),())) rfl (fun _=>rfl) (fun _ _=>rfl) (by kernel_rfl)
def ztc:SL PG Tryz.f275.ntmps (Y0 Tryz.f275):=lz N (zjj N) [ztb N] 26 ⟨[0,1,5],(.cons (.list Z2) (.cons (.list Z2) (.int .i64))),[],[]⟩ (1,⟨[4], .bool,[],[]⟩) [(2,⟨[], .nil,[],[]⟩)] (z86 N N) (z27 N) (fun f v=>f v.1.1 v.1.2.1 v.1.2.2) (fun r b0 b1 b2=>r ((b0,(b1,b2)),())) rfl (fun _=>rfl) (fun _ _=>rfl) (by kernel_rfl)
def zgp:SC PG:=fz (zjj N) Tryz.func275 [ztc N] (.cons (.list Z2) (.list Z2)) .bool [] (fun v=>z8k N v.1 v.2) (by kernel_rfl)
def y56:SC PG:=fz (E0 [] [] [z41 N,zgp N,z9l N]) Tryz.func324 [] (.cons (.val Z8) (.val Z2)) (.fresh Z8) [] (fun v=>zhg N v.1 v.2) (by kernel_rfl)
def zng:SE PG:=E0 [] [] [z3o N]
def zrb:SL PG Tryz.f260.ntmps (Y0 Tryz.f260):=lz N (zng N) [] 58 ⟨[0,3,5,6,7],(.cons (.list Z2) yiw),[(2000000,[3], .boxV Z2),(2000001,[5], .sl Z2)],[]⟩ (2,⟨[3,5,6],(.cons (.ptr 2000000 0) (.cons (.own 2000001) .bool)),[(2000000,[3], .boxV Z2),(2000001,[5], .sl Z2)],[]⟩) [] (z6u N N) (z0v N) (fun f v=>f v.1.1 v.1.2.2.2.1 v.1.2.2.2.2 v.2.1 v.2.2.1) (fun r b0 b1 b2 b3 b4=>r ((b0,((),((),(b1,b2)))),(b3,(b4,())))) rfl (fun _=>rfl) (fun _ _=>rfl) (by kernel_rfl)
def y05:SC PG:=fz (zng N) Tryz.func260 [zrb N] (.cons (.list Z2) (.val Z2)) (.fresh Z2) [] (fun v=>zfp N v.1 v.2) (by kernel_rfl)
def zfu:SE PG:=E0 [] [] [y05 N,zj9 N]
def zwh:SL PG Tryz.f209.ntmps (Y0 Tryz.f209):=pz (zfu N) [] 7827 ⟨[3,4,6,7,53],(.cons (.own 2000000) (.cons (.own 2000001) (.cons (.int .i64) (.cons (.int .i64) .bool)))),[(2000000,[3], .sl Z2),(2000001,[4], .sl Z2)],[]⟩ (0,⟨[3,4,6],(.cons (.own 2000000) y5s),[(2000000,[3], .sl Z2),(2000001,[4], .sl Z2)],[]⟩) [] (fun v=>z2w N v.1.2.2.1 v.1.2.2.2.1 v.1.2.2.2.2 v.2.1 v.2.2.1) (by kernel_rfl)
def zwi:SL PG Tryz.f209.ntmps (Y0 Tryz.f209):=lz N (zfu N) [zwh N] 122 ⟨[3,4,6],(.cons (.own 2000000) y5s),[(2000000,[3], .sl Z2),(2000001,[4], .sl Z2)],[]⟩ (4,⟨[4],(.own 2000000),[(2000000,[4], .sl Z2)],[]⟩) [] (z77 N N) (z3k N) (fun f v=>f v.1.2.2 v.2.1 v.2.2.1) (fun r b0 b1 b2=>r (((),((),b0)),(b1,(b2,())))) rfl (fun _=>rfl) (fun _ _=>rfl) (by kernel_rfl)
def zwj:SL PG Tryz.f209.ntmps (Y0 Tryz.f209):=lz N (zfu N) [] 58 ⟨[0,3,4,5],(.cons (.list Z2) (.cons (.own 2000000) y5s)),[(2000000,[3], .sl Z2),(2000001,[4], .sl Z2)],[]⟩ (2,⟨[3,4],(.cons (.own 2000000) (.own 2000001)),[(2000000,[3], .sl Z2),(2000001,[4], .sl Z2)],[]⟩) [] (z78 N N) (y0 N) (fun f v=>f v.1.1 v.1.2.2.2 v.2.1 v.2.2.1) (fun r b0 b1 b2 b3=>r ((b0,((),((),b1))),(b2,(b3,())))) rfl (fun _=>rfl) (fun _ _=>rfl) (by kernel_rfl)
def zcd:SC PG:=fz (zfu N) Tryz.func209 [zwj N,zwi N] (.list Z2) (.fresh Z2) [] (fun v=>z0w N v) (by kernel_rfl)
def zjl:SE PG:=E0 [] [] [zcd N,z3o N,z9l N]
def ztj:SL PG Tryz.f210.ntmps (Y0 Tryz.f210):=lz N (zjl N) [] 29850 ⟨[1,5,6,7,8],(.cons (.list Z2) (.cons (.own 2000000) (.cons (.int .i64) y5s))),[(2000000,[5], .sl Z2),(2000001,[7], .sl Z2)],[]⟩ (4,⟨[1,6,7],(.cons (.list Z2) (.cons (.int .i64) (.own 2000000))),[(2000000,[7], .sl Z2)],[]⟩) [] (z5o N N) (z2d N) (fun f v=>f v.1.1 v.1.2.2.1 v.1.2.2.2.2 v.2.1 v.2.2.1) (fun r b0 b1 b2 b3 b4=>r ((b0,((),(b1,((),b2)))),(b3,(b4,())))) rfl (fun _=>rfl) (fun _ _=>rfl) (by kernel_rfl)
def ztk:SL PG Tryz.f210.ntmps (Y0 Tryz.f210):=lz N (zjl N) [ztj N] 58 ⟨[1,5,6],(.cons (.list Z2) zm8),[(2000000,[5], .sl Z2)],[]⟩ (2,⟨[5],(.own 2000000),[(2000000,[5], .sl Z2)],[]⟩) [] (z5p N N) (Q7 N) (fun f v=>f v.1.1 v.1.2.2 v.2.1) (fun r b0 b1 b2=>r ((b0,((),b1)),(b2,()))) rfl (fun _=>rfl) (fun _ _=>rfl) (by kernel_rfl)
def zgq:SC PG:=fz (zjl N) Tryz.func210 [ztk N] (.cons (.list Z2) (.list Z2)) (.fresh Z2) [] (fun v=>Q6 N v.1 v.2) (by kernel_rfl)
def znc:SE PG:=E0 [] [] [y12 N,zba N,z41 N,y57 N,zgp N,y56 N,zgq N]
def zr5:SL PG Tryz.f314.ntmps (Y0 Tryz.f314):=lz N (znc N) [] 8150 ⟨[3,4,6,9,10],(.cons (.ptr 2000000 0) (.cons (.ptr 2000004 0) (.cons (.ptr 2000005 0) (.cons (.own 2000006) (.int .i64))))),[(2000000,[3], .box (.cons (.own 2000001) (.cons (.own 2000002) (.own 2000003)))),(2000001,[3,0], .sl Z8),(2000002,[3,1], .sl Z8),(2000003,[3,2], .sl Z2),(2000004,[4], .boxV Z8),(2000005,[6], .boxC [.nils, .nils, .nils]),(2000006,[9], .sl Z2)],[]⟩ (2,⟨[3,6],(.cons (.ptr 2000000 0) (.ptr 2000004 0)),[(2000000,[3], .box (.cons (.own 2000001) (.cons (.own 2000002) (.own 2000003)))),(2000001,[3,0], .sl Z8),(2000002,[3,1], .sl Z8),(2000003,[3,2], .sl Z2),(2000004,[6], .boxC [.nils, .nils, .nils])],[]⟩) [] (z48 N N) (z0q N) (fun f v=>f v.1.2.2.2.2 v.2.2.1 v.2.2.2.1 v.2.2.2.2.1 v.2.2.2.2.2.1 v.2.2.2.2.2.2.2.1) (fun r b0 b1 b2 b3 b4 b5=>r (((),((),((),((),b0)))),(((),((),())),(b1,(b2,(b3,(b4,((),(b5,()))))))))) rfl (fun _=>rfl) (fun _ _=>rfl) (by kernel_rfl)
def zz3:SM PG:=mz (znc N) Tryz.func314 [zr5 N] ⟨[0,1,2],(.cons (.agg (.cons (.own 5000000) (.cons (.own 5000001) (.own 5000002)))) (.cons (.val Z8) (.val Z2))),[(5000000,[0,0], .sl Z8),(5000001,[0,1], .sl Z8),(5000002,[0,2], .sl Z2)],[]⟩ ⟨[0],(.agg (.cons (.own 2000000) (.cons (.own 2000001) (.own 2000002)))),[(2000000,[0,0], .sl Z8),(2000001,[0,1], .sl Z8),(2000002,[0,2], .sl Z2)],[]⟩ [] (fun v=>z2s N v.1.2.1 v.1.2.2 v.2.1 v.2.2.1 v.2.2.2.1) (by kernel_rfl)
def zq7:SE PG:=E0 [(K7,[2000002,2000003,2000004])] [30] [y11 N] [zz3 N]
def zt7:SL PG Tryz.f293.ntmps (Y0 Tryz.f293):=lz N (zq7 N) [] 58 ⟨[0,6,7,8,9],(.cons (.list Z8) (.cons (.ptr 2000000 0) (.cons (.ptr 2000001 0) (.cons (.ptr 2000005 0) (.int .i64))))),[(2000000,[6], .boxC [.nils, .nils, .nils]),(2000001,[7], .box ymf),(2000002,[7,0], .sl Z8),(2000003,[7,1], .sl Z8),(2000004,[7,2], .sl Z2),(2000005,[8], .boxV Z2)],[]⟩ (2,⟨[6,7],Sh2_,[(2000000,[6], .boxC [.nils, .nils, .nils]),(2000001,[7], .box ymf),(2000002,[7,0], .sl Z8),(2000003,[7,1], .sl Z8),(2000004,[7,2], .sl Z2)],[]⟩) [] (z81 N N) (z21 N) (fun f v=>f v.1.1 v.1.2.2.2.2 v.2.2.2.1 v.2.2.2.2.1 v.2.2.2.2.2.1 v.2.2.2.2.2.2.1) (fun r b0 b1 b2 b3 b4 b5=>r ((b0,((),((),((),b1)))),((),(((),((),())),(b2,(b3,(b4,(b5,())))))))) rfl (fun _=>rfl) (fun _ _=>rfl) (by kernel_rfl)
def zmw:SC PG:=fz (zq7 N) Tryz.func293 [zt7 N] (.cons (.list Z8) (.cons (.list .str) (.int .i64))) (.val zo2) [] (fun v=>z63 N v.1 v.2.1 v.2.2) (by kernel_rfl)
def zui:SE PG:=E0 [] [] [zmw N]
def zw2:SL PG Tryz.f257.ntmps (Y0 Tryz.f257):=lz N (zui N) [] 122 ⟨[1,4,5,6],(.cons (.ptr 2000000 0) (.cons (.int .i64) zpb)),[(2000000,[1], .boxV Z9)],[]⟩ (2,⟨[4,5],zpb,[],[]⟩) [] (z74 N N) (z38 N) (fun f v=>f v.1.2.1 v.1.2.2.1 v.1.2.2.2 v.2.1) (fun r b0 b1 b2 b3=>r (((),(b0,(b1,b2))),(b3,()))) rfl (fun _=>rfl) (fun _ _=>rfl) (by kernel_rfl)
def y4t:SC PG:=fz (zui N) Tryz.func257 [zw2 N] (.val Z9) (.tup (.cons (.int .i64) (.int .i64))) [] (fun v=>zli N v) (by kernel_rfl)
def zwr:SC PG:=fz (E0 [(K7,[24,37,50])] [] []) Tryz.func294 [] (.cons (.val Z9) (.int .i64)) (.val Z9) [] (fun v=>z9s N v.1 v.2) (by kernel_rfl)
def y4x:SC PG:=fz (E0 [] [] []) Tryz.func295 [] (.cons (.val X9) (.cons (.val X9) (.cons (.int .i64) (.int .i64)))) (.val z71) [] (fun v=>zal N v.1 v.2.1 v.2.2.1 v.2.2.2) (by kernel_rfl)
def zyv:SE PG:=E0 [] [] [zmy N]
def zzn:SL PG Tryz.f124.ntmps (Y0 Tryz.f124):=lz N (zyv N) [] 26 ⟨[0,1,5],(.cons (.list Y2) (.cons (.list Z8) (.int .i64))),[],[17]⟩ (2,⟨[0],(.list Y2),[],[]⟩) [] (zbs N N) (z4p N) (fun f v=>f v.1.1 v.1.2.1 v.1.2.2) (fun r b0 b1 b2=>r ((b0,(b1,b2)),())) rfl (fun _=>rfl) (fun _ _=>rfl) (by kernel_rfl)
def zu3:SC PG:=fz (zyv N) Tryz.func124 [zzn N] (.cons (.list Y2) (.list Z8)) (.list Y2) [] (fun v=>zka N v.1 v.2) (by kernel_rfl)
def zjg:SE PG:=E0 [(17,[84]),(24,[2000005]),(27,[2000006,2000007]),(3000125,[125]),(3000164,[164])] [] [z9j N,zfc N,zmw N,zwr N,ztz N,y4x N,zu1 N,zmq N,zu0 N,zu3 N,zpk N]
def zsp:SL PG Tryz.f258.ntmps (Y0 Tryz.f258):=pz (zjg N) [] 16383 ⟨[1,2,3,6,8,11,12],(.cons (.list (.int .i64)) (.cons (.int .i64) (.cons (.ptr 2000000 0) (.cons (.ptr 2000001 0) (.cons (.ptr 2000002 0) (.cons (.ptr 2000003 0) (.ptr 2000004 0))))))),[(2000000,[3], .boxV X9),(2000001,[6], .boxC [.nils, .int .i64 0, .int .i64 0, .int .i64 0, .int .i64 0, .int .i64 0, .int .i64 0]),(2000002,[8], .boxV Z9),(2000003,[11], .boxV zo2),(2000004,[12], .box (.cons (.list Z9) (.cons (.list .str) (.own 2000007)))),(2000007,[12,2], .sl Z8)],[87]⟩ (1,⟨[6],(.ptr 2000000 0),[(2000000,[6], .boxV z71)],[]⟩) [] (fun v=>z14 N v.1.1 v.1.2.1 v.2.1 v.2.2.2.1 v.2.2.2.2.1 v.2.2.2.2.2.1.1 v.2.2.2.2.2.1.2.1 v.2.2.2.2.2.2.1) (by kernel_rfl)
def zsq:SL PG Tryz.f258.ntmps (Y0 Tryz.f258):=pz (zjg N) [zsp N] 63 ⟨[1,2,3,6,8],(.cons (.list (.int .i64)) (.cons (.int .i64) Sh8_)),[(2000000,[3], .boxV X9),(2000001,[6], .boxC [.nils, .int .i64 0, .int .i64 0, .int .i64 0, .int .i64 0, .int .i64 0, .int .i64 0]),(2000002,[8], .boxV Z9)],[]⟩ (1,⟨[6],(.ptr 2000000 0),[(2000000,[6], .boxV z71)],[]⟩) [] (fun v=>zgr N v.1.1 v.1.2.1 v.2.1 v.2.2.2.1) (by kernel_rfl)
def y0s:SC PG:=fz (zjg N) Tryz.func258 [zsq N] (.cons (.val X9) (.cons (.list (.int .i64)) (.int .i64))) (.val z71) [] (fun v=>zif N v.1 v.2.1 v.2.2) (by kernel_rfl)
def y7q:SC PG:=fz (E0 [] [] []) Tryz.func303 [] (.cons (.val Z2) .str) .bool [] (fun v=>zov N v.1 v.2) (by kernel_rfl)
def zgt:SE PG:=E0 [] [] [y7q N]
def zqy:SL PG Tryz.f273.ntmps (Y0 Tryz.f273):=lz N (zgt N) [] 14922 ⟨[0,1,5,6,7,8],(.cons (.list Y2) (.cons (.list Z2) (.cons (.own 2000000) (.cons (.int .i64) (.cons .bool (.int .i64)))))),[(2000000,[5], .sl Y2)],[]⟩ (4,⟨[0,1,5,6,7],(.cons (.list Y2) (.cons (.list Z2) (.cons (.own 2000000) (.cons (.int .i64) .bool)))),[(2000000,[5], .sl Y2)],[]⟩) [] (z6n N N) (z0l N) (fun f v=>f v.1.1 v.1.2.1 v.1.2.2.2.1 v.1.2.2.2.2.1 v.1.2.2.2.2.2 v.2.1) (fun r b0 b1 b2 b3 b4 b5=>r ((b0,(b1,((),(b2,(b3,b4))))),(b5,()))) rfl (fun _=>rfl) (fun _ _=>rfl) (by kernel_rfl)
def zqz:SL PG Tryz.f273.ntmps (Y0 Tryz.f273):=lz N (zgt N) [zqy N] 58 ⟨[0,1,5,6],yme,[(2000000,[5], .sl Y2)],[]⟩ (2,⟨[5],(.own 2000000),[(2000000,[5], .sl Y2)],[]⟩) [] (z6o N N) (z0m N) (fun f v=>f v.1.1 v.1.2.1 v.1.2.2.2 v.2.1) (fun r b0 b1 b2 b3=>r ((b0,(b1,((),b2))),(b3,()))) rfl (fun _=>rfl) (fun _ _=>rfl) (by kernel_rfl)
def zzw:SC PG:=fz (zgt N) Tryz.func273 [zqz N] (.cons (.list Y2) (.list Z2)) (.fresh Y2) [] (fun v=>zbo N v.1 v.2) (by kernel_rfl)
def y14:SC PG:=fz (E0 [] [] [j9 N,zac N]) Tryz.func318 [] (.cons (.val Z2) (.cons .str .str)) (.val Z2) [] (fun v=>zij N v.1 v.2.1 v.2.2) (by kernel_rfl)
def zm1:SE PG:=E0 [(K7,[20,27,73])] [] [zfd N,zgq N,j9 N,z9l N,z3o N,y14 N,zcd N]
def zo8:SL PG Tryz.f304.ntmps (Y0 Tryz.f304):=lz N (zm1 N) [] 1018 ⟨[0,3,5,7,8],(.cons (.list Z2) yeg),[(2000000,[3], .boxV Z8),(2000001,[5], .boxV Z2),(2000002,[7], .sl Z2)],[]⟩ (3,⟨[7],(.own 2000000),[(2000000,[7], .sl Z2)],[]⟩) [] (z0c N N) (z05 N) (fun f v=>f v.1.1 v.1.2.2.2.2 v.2.1 v.2.2.1 v.2.2.2.1) (fun r b0 b1 b2 b3 b4=>r ((b0,((),((),((),b1)))),(b2,(b3,(b4,()))))) rfl (fun _=>rfl) (fun _ _=>rfl) (by kernel_rfl)
def zwt:SC PG:=fz (zm1 N) Tryz.func304 [zo8 N] (.cons (.list Z2) (.val Z8)) (.list Z2) [] (fun v=>z2v N v.1 v.2) (by kernel_rfl)
def zq8:SE PG:=E0 [(5,[2000000])] [] [zcd N,zwt N]
def zt8:SL PG Tryz.f274.ntmps (Y0 Tryz.f274):=lz N (zq8 N) [] 58 ⟨[1,5,6],(.cons (.list Z8) (.cons (.list Z2) (.int .i64))),[],[9]⟩ (2,⟨[5],(.list Z2),[],[]⟩) [] (z82 N N) (z24 N) (fun f v=>f v.1.1 v.1.2.1 v.1.2.2) (fun r b0 b1 b2=>r ((b0,(b1,b2)),())) rfl (fun _=>rfl) (fun _ _=>rfl) (by kernel_rfl)
def y13:SC PG:=fz (zq8 N) Tryz.func274 [zt8 N] (.cons (.val Z2) (.list Z8)) (.list Z2) [] (fun v=>zii N v.1 v.2) (by kernel_rfl)
def z4c(self:(List Z7)->Int->Z0->(List Z0)->Option (((List Z3)×Int))):Ctr:=zm4 (.cons (.val (.list Y8)) (.cons (.int .i64) (.cons (.val Z2) (.list Z2)))) (.tup (.cons (.list Y2) (.int .i64))) [] (fun v=>self v.1 v.2.1 v.2.2.1 v.2.2.2)
def zl0(self:(List Z7)->Int->Z0->(List Z0)->Option (((List Z3)×Int)))(hs:z60 PG 234 fun xs=>(z4c self).run xs some):SE PG:=E0 [(K7,[35,97]),(16,[2000003]),(17,[2000002]),(21,[2000001])] [] [⟨234,z4c self,hs⟩,zfc N,zzw N,y13 N,zms N,zgp N,zu3 N]
def zw7(self:(List Z7)->Int->Z0->(List Z0)->Option (((List Z3)×Int)))(hs:z60 PG 234 fun xs=>(z4c self).run xs some):SL PG Tryz.f234.ntmps (Y0 Tryz.f234):=lz N (zl0 N self hs) [] 4090 ⟨[3,4,10,12,14,15,16],(.cons (.list Z2) (.cons (.ptr 2000000 0) (.cons (.ptr 2000001 0) (.cons (.list Z2) (.cons (.list Z2) yee))))),[(2000000,[4], .box (.list Y8)),(2000001,[10], .boxV Z9),(2000004,[15], .sl Y2)],[54,2000003]⟩ (1,⟨[8,9],(.cons (.list Y2) (.int .i64)),[],[]⟩) [(4,⟨[3,10,15],(.cons (.list Z2) y9j),[(2000000,[10], .boxV Z9),(2000001,[15], .sl Y2)],[]⟩)] (z75 N self N) (z3c N self) (fun f v=>f v.1.1 v.1.2.2.2.1 v.1.2.2.2.2.1 v.1.2.2.2.2.2.2 v.2.1 v.2.2.1 v.2.2.2.1) (fun r b0 b1 b2 b3 b4 b5 b6=>r ((b0,((),((),(b1,(b2,((),b3)))))),(b4,(b5,(b6,()))))) rfl (fun _=>rfl) (fun _ _=>rfl) (by kernel_rfl)
def zw8(self:(List Z7)->Int->Z0->(List Z0)->Option (((List Z3)×Int)))(hs:z60 PG 234 fun xs=>(z4c self).run xs some):SL PG Tryz.f234.ntmps (Y0 Tryz.f234):=lz N (zl0 N self hs) [] 506 ⟨[3,4,6,10,12,13],(.cons (.list Z2) yix),[(2000000,[4], .box (.list Y8)),(2000001,[6], .boxV Z2),(2000002,[10], .boxV Z9),(2000003,[12], .sl Z2)],[]⟩ (2,⟨[3,4,6,10,12],(.cons (.list Z2) (.cons (.ptr 2000000 0) (.cons (.ptr 2000001 0) (.cons (.ptr 2000002 0) (.own 2000003))))),[(2000000,[4], .box (.list Y8)),(2000001,[6], .boxV Z2),(2000002,[10], .boxV Z9),(2000003,[12], .sl Z2)],[]⟩) [] (z9w N self N) (z3d N self) (fun f v=>f v.1.1 v.1.2.2.2.2.2 v.2.1 v.2.2.1 v.2.2.2.1 v.2.2.2.2.1) (fun r b0 b1 b2 b3 b4 b5=>r ((b0,((),((),((),((),b1))))),(b2,(b3,(b4,(b5,())))))) rfl (fun _=>rfl) (fun _ _=>rfl) (by kernel_rfl)
def y5f(self:(List Z7)->Int->Z0->(List Z0)->Option (((List Z3)×Int)))(hs:z60 PG 234 fun xs=>(z4c self).run xs some):SC PG:=fz (zl0 N self hs) Tryz.func234 [zw8 N self hs,zw7 N self hs] (.cons (.val (.list Y8)) (.cons (.int .i64) (.cons (.val Z2) (.list Z2)))) (.tup (.cons (.list Y2) (.int .i64))) [] (fun v=>z47 N self v.1 v.2.1 v.2.2.1 v.2.2.2) (by kernel_rfl)
def y4y:SC PG:=recz (f:=234) z4c (fun _ _ _ _=>none) (z47 N) (y2p fun _=>rfl) (fun self hs=>(y5f N self hs).h) N
def y4z:SC PG:=fz (E0 [(2000013,[12])] [] [y4y N]) Tryz.func178 [] (.cons (.val X9) (.val Z2)) (.tup (.cons (.list Y2) (.int .i64))) [] (fun v=>zlm N v.1 v.2) (by kernel_rfl)
def zmv:SC PG:=fz (E0 [] [] []) Tryz.func315 [] (.val Z8) .bool [] (fun v=>z62 N v) (by kernel_rfl)
def zuo:SE PG:=E0 [] [] [zmv N,j9 N]
def zwc:SL PG Tryz.f316.ntmps (Y0 Tryz.f316):=lz N (zuo N) [] 122 ⟨[1,2,5,6],(.cons (.list Y2) Sh6_),[(2000000,[2], .boxV Z8),(2000001,[5], .sl Z8)],[]⟩ (2,⟨[2,5],y9j,[(2000000,[2], .boxV Z8),(2000001,[5], .sl Z8)],[]⟩) [] (za0 N N) (z3h N) (fun f v=>f v.1.1 v.1.2.2.2 v.2.1 v.2.2.1) (fun r b0 b1 b2 b3=>r ((b0,((),((),b1))),(b2,(b3,())))) rfl (fun _=>rfl) (fun _ _=>rfl) (by kernel_rfl)
def y55:SC PG:=fz (zuo N) Tryz.func316 [zwc N] (.cons (.val Z8) (.list Y2)) (.fresh Z8) [] (fun v=>zlq N v.1 v.2) (by kernel_rfl)
def y54:SC PG:=fz (E0 [] [] [zmv N,y55 N]) Tryz.func299 [] (.cons (.list Z8) (.list Y2)) (.tup (.cons (.fresh Z8) (.int .i64))) [] (fun v=>zlp N v.1 v.2) (by kernel_rfl)
def zn7:SE PG:=E0 [(K7,[51])] [] [j9 N,y4z N,y54 N]
def zqv:SL PG Tryz.f259.ntmps (Y0 Tryz.f259):=lz N (zn7 N) [] 58 ⟨[2,3,4,6,7],yix,[(2000000,[2], .boxV X9),(2000001,[3], .boxV Z9),(2000002,[4], .boxC [.nils, .nils, .nils, .nils, .nils]),(2000003,[6], .sl Y2)],[]⟩ (1,⟨[4,5],Sh5_,[(2000000,[4], .boxV Z9)],[]⟩) [(2,⟨[3,4,6],ymg,[(2000000,[3], .boxV Z9),(2000001,[4], .boxC [.nils, .nils, .nils, .nils, .nils]),(2000002,[6], .sl Y2)],[]⟩)] (z1c N N) (z0j N) (fun f v=>f v.1.2.2.2.2 v.2.1 v.2.2.1 v.2.2.2.2.1) (fun r b0 b1 b2 b3=>r (((),((),((),((),b0)))),(b1,(b2,((),(b3,())))))) rfl (fun _=>rfl) (fun _ _=>rfl) (by kernel_rfl)
def zzt:SC PG:=fz (zn7 N) Tryz.func259 [zqv N] (.cons (.val X9) (.val Z9)) (.tup (.cons (.val Z9) (.int .i64))) [] (fun v=>z6b N v.1 v.2) (by kernel_rfl)
def y4u:SC PG:=fz (E0 [(2000105,[103])] [] [z9j N,zpk N,y7m N,y0t N,y4t N,y0s N,zzt N]) Tryz.func208 [] (.cons (.val X9) (.list (.int .i64))) (.tup (.cons (.val X9) (.int .i64))) [] (fun v=>zlj N v.1 v.2) (by kernel_rfl)
def zq2:SE PG:=E0 [(2000015,[13])] [] [y0r N,y4u N]
def zsn:SL PG Tryz.f143.ntmps (Y0 Tryz.f143):=lz N (zq2 N) [] 14 ⟨[1,2,4,5],(.cons .bool Sh8_),[(2000000,[2], .boxV X9),(2000001,[4], .boxC [.nils, .int .i64 0, .int .i64 0, .int .i64 0, .int .i64 0, .int .i64 0, .int .i64 0]),(2000002,[5], .boxV z8e)],[]⟩ (1,⟨[4],(.ptr 2000000 0),[(2000000,[4], .boxV z8e)],[]⟩) [] (z7r N N) (z55 N) (fun f v=>f v.1.1 v.2.1 v.2.2.2.1) (fun r b0 b1 b2=>r ((b0,((),((),()))),(b1,((),(b2,()))))) rfl (fun _=>rfl) (fun _ _=>rfl) (by kernel_rfl)
def y0q:SC PG:=fz (zq2 N) Tryz.func143 [zsn N] (.cons (.val X9) .bool) (.val z8e) [] (fun v=>zns N v.1 v.2) (by kernel_rfl)
def y4v:SC PG:=fz (E0 [] [] [y0q N]) Tryz.func87 [] (.val X9) (.val z8e) [] (fun v=>zlk N v) (by kernel_rfl)
def y4n:SC PG:=fz (E0 [] [] []) Tryz.func88 [] (.cons (.val Y1) (.val X9)) (.val Y1) [] (fun v=>zrs N v.1 v.2) (by kernel_rfl)
def y18:SC PG:=fz (E0 [] [] [z41 N]) Tryz.func212 [] (.val Z8) (.fresh Z2) [] (fun v=>zil N v) (by kernel_rfl)
def zuq:SE PG:=E0 [(K7,[2000001,2000002])] [] [zcd N,z41 N,zgq N,y18 N,zba N]
def zwe:SL PG Tryz.f144.ntmps (Y0 Tryz.f144):=lz N (zuq N) [] 122 ⟨[0,4,5,6,7],(.cons (.list Z8) (.cons (.ptr 2000000 0) yiv)),[(2000000,[4], .boxC [.nils, .nils]),(2000001,[5], .sl Z8),(2000002,[6], .sl Z2)],[]⟩ (2,⟨[4,5,6],(.cons (.ptr 2000000 0) (.cons (.own 2000001) (.own 2000002))),[(2000000,[4], .boxC [.nils, .nils]),(2000001,[5], .sl Z8),(2000002,[6], .sl Z2)],[]⟩) [] (za2 N N) (z3j N) (fun f v=>f v.1.1 v.1.2.2.2.2 v.2.2.1 v.2.2.2.1) (fun r b0 b1 b2 b3=>r ((b0,((),((),((),b1)))),((),(b2,(b3,()))))) rfl (fun _=>rfl) (fun _ _=>rfl) (by kernel_rfl)
def y58:SC PG:=fz (zuq N) Tryz.func144 [zwe N] (.cons (.list Z8) (.list Z2)) (.val znl) [] (fun v=>zrv N v.1 v.2) (by kernel_rfl)
def zl9:SC PG:=fz (E0 [] [] [y58 N]) Tryz.func89 [] (.list Z8) (.list Z8) [] (fun v=>zbr N v) (by kernel_rfl)
def zyr:SE PG:=E0 [(2000058,[57])] [] [y4o N,y7o N,y4v N,y4n N,zl9 N]
def zzb:SL PG Tryz.f46.ntmps (Y0 Tryz.f46):=lz N (zyr N) [] 58 ⟨[1,2,4,6,8],(.cons (.list Z8) Sh4_),[(2000000,[2], .boxV Y1),(2000001,[4], .boxC [.nils, .int .i64 0, .int .i64 0, .int .i64 0, .nils, .int .i64 0, .int .i64 0, .int .i64 0, .nils]),(2000002,[6], .boxV X9)],[]⟩ (1,⟨[4,5],Sh5_,[(2000000,[4], .boxV Y1)],[]⟩) [(2,⟨[1,2,4,6],(.cons (.list Z8) Sh8_),[(2000000,[2], .boxV Y1),(2000001,[4], .boxC [.nils, .int .i64 0, .int .i64 0, .int .i64 0, .nils, .int .i64 0, .int .i64 0, .int .i64 0, .nils]),(2000002,[6], .boxV X9)],[]⟩)] (z4r N N) (z4g N) (fun f v=>f v.1.1 v.1.2.2.2.2 v.2.1 v.2.2.2.1) (fun r b0 b1 b2 b3=>r ((b0,((),((),((),b1)))),(b2,((),(b3,()))))) rfl (fun _=>rfl) (fun _ _=>rfl) (by kernel_rfl)
def zty:SC PG:=fz (zyr N) Tryz.func46 [zzb N] (.cons (.val Y1) (.list Z8)) (.tup (.cons (.val Y1) (.int .i64))) [] (fun v=>zk6 N v.1 v.2) (by kernel_rfl)
def znx:SE PG:=E0 [(K7,[2000001,2000002])] [] []
def zz8:SL PG Tryz.f74.ntmps (Y0 Tryz.f74):=pz (znx) [] 13 ⟨[0,1,4,19],(.cons (.int .i64) (.cons (.int .i64) (.cons (.ptr 2000000 0) .bool))),[(2000000,[4], .boxC [.int .i64 0, .nils, .nils])],[]⟩ (1,⟨[4,5],Sh5_,[(2000000,[4], .boxC [.int .i64 0, .nils, .nils])],[]⟩) [(0,⟨[0,1,4],yit,[(2000000,[4], .boxC [.int .i64 0, .nils, .nils])],[]⟩)] (fun v=>z8z N v.1.1 v.1.2.1 v.1.2.2.2) (by kernel_rfl)
def zz9:SL PG Tryz.f74.ntmps (Y0 Tryz.f74):=pz (znx) [] 7 ⟨[0,1,4],yit,[(2000000,[4], .boxC [.int .i64 0, .nils, .nils])],[]⟩ (1,⟨[4,5],Sh5_,[(2000000,[4], .box (.cons (.int .i64) (.cons (.own 2000001) (.own 2000002)))),(2000001,[4,1], .sl (.list (.int .u8))),(2000002,[4,2], .sl J4)],[]⟩) [] (fun v=>z90 N v.1.1 v.1.2.1) (by kernel_rfl)
def ztv:SC PG:=fz (znx) Tryz.func74 [zz8 N,zz9 N] (.cons (.int .i64) (.int .i64)) (.tup (.cons (.val Q3) (.int .i64))) [] (fun v=>zb3 N v.1 v.2) (by kernel_rfl)
def ziv:SE PG:=E0 [(K7,[2000001,2000002])] [] []
def zz6:SL PG Tryz.f77.ntmps (Y0 Tryz.f77):=lz N (ziv) [] 122 ⟨[0,1,4,6,7],(.cons (.int .i64) (.cons (.int .i64) Sh9_)),[(2000000,[4], .boxC [.nils, .nils, .int .i64 0]),(2000001,[6], .box yiu),(2000002,[6,0], .sl .bool),(2000003,[6,1], .sl (.int .i64))],[]⟩ (2,⟨[4,6],Sh2_,[(2000000,[4], .boxC [.nils, .nils, .int .i64 0]),(2000001,[6], .box yiu),(2000002,[6,0], .sl .bool),(2000003,[6,1], .sl (.int .i64))],[]⟩) [] (zbk N N) (z4f N) (fun f v=>f v.1.1 v.1.2.1 v.1.2.2.2.2 v.2.2.1.2.2 v.2.2.2.1 v.2.2.2.2.1) (fun r b0 b1 b2 b3 b4 b5=>r ((b0,(b1,((),((),b2)))),((),(((),((),b3)),(b4,(b5,())))))) rfl (fun _=>rfl) (fun _ _=>rfl) (by kernel_rfl)
def zz4:SL PG Tryz.f77.ntmps (Y0 Tryz.f77):=pz (ziv) [] 13 ⟨[0,1,4,22],(.cons (.int .i64) (.cons (.int .i64) (.cons (.ptr 2000000 0) .bool))),[(2000000,[4], .boxC [.nils, .nils, .int .i64 0])],[]⟩ (1,⟨[4,5],Sh5_,[(2000000,[4], .boxC [.nils, .nils, .int .i64 0])],[]⟩) [(0,⟨[0,1,4],yit,[(2000000,[4], .boxC [.nils, .nils, .int .i64 0])],[]⟩)] (fun v=>z8x N v.1.1 v.1.2.1 v.1.2.2.2) (by kernel_rfl)
def zz5:SL PG Tryz.f77.ntmps (Y0 Tryz.f77):=pz (ziv) [zz6 N] 7 ⟨[0,1,4],yit,[(2000000,[4], .boxC [.nils, .nils, .int .i64 0])],[]⟩ (1,⟨[4,5],Sh5_,[(2000000,[4], .box yiv),(2000001,[4,0], .sl .bool),(2000002,[4,1], .sl (.int .i64))],[]⟩) [] (fun v=>z8y N v.1.1 v.1.2.1) (by kernel_rfl)
def y7j:SC PG:=fz (ziv) Tryz.func77 [zz4 N,zz5 N] (.cons (.int .i64) (.int .i64)) (.tup (.cons (.val Q0) (.int .i64))) [] (fun v=>zot N v.1 v.2) (by kernel_rfl)
def zqc:SE PG:=E0 [] [] []
def ztg:SL PG Tryz.f305.ntmps (Y0 Tryz.f305):=lz N (zqc) [] 26 ⟨[0,3],(.cons (.list Y2) (.int .i64)),[],[]⟩ (1,⟨[2], .bool,[],[]⟩) [(2,⟨[], .nil,[],[]⟩)] (z88 N N) (z56 N) (fun f v=>f v.1.1 v.1.2) (fun r b0 b1=>r ((b0,b1),())) rfl (fun _=>rfl) (fun _ _=>rfl) (by kernel_rfl)
def y19:SC PG:=fz (zqc) Tryz.func305 [ztg N] (.list Y2) .bool [] (fun v=>zim N v) (by kernel_rfl)
def zy9:SC PG:=fz (E0 [] [] []) Tryz.func278 [] (.cons (.int .i64) (.cons (.int .i64) (.int .i64))) .bool [] (fun v=>zkl N v.1 v.2.1 v.2.2) (by kernel_rfl)
def zun:SE PG:=E0 [] [] [y19 N,zks N,zy9 N]
def zwb:SL PG Tryz.f276.ntmps (Y0 Tryz.f276):=lz N (zun N) [] 58 ⟨[2,3,5],Sh9_,[(2000000,[2], .boxV Z9),(2000001,[3], .boxV Z2)],[]⟩ (1,⟨[4], .bool,[],[]⟩) [(2,⟨[], .nil,[],[]⟩)] (z9y N N) (z3g N) (fun f v=>f v.1.2.2 v.2.1 v.2.2.1) (fun r b0 b1 b2=>r (((),((),b0)),(b1,(b2,())))) rfl (fun _=>rfl) (fun _ _=>rfl) (by kernel_rfl)
def y51:SC PG:=fz (zun N) Tryz.func276 [zwb N] (.cons (.val Z9) (.val Z2)) .bool [] (fun v=>zln N v.1 v.2) (by kernel_rfl)
def zbe:SE PG:=E0 [] [] []
def zr0:SL PG Tryz.f277.ntmps (Y0 Tryz.f277):=pz (zbe) [] 841 ⟨[0,3,5,48],(.cons (.list .str) (.cons (.ptr 2000000 0) (.cons (.int .i64) .bool))),[(2000000,[3], .boxV Z2)],[]⟩ (1,⟨[4], .bool,[],[]⟩) [(0,⟨[0,3,5],(.cons (.list .str) Sh5_),[(2000000,[3], .boxV Z2)],[]⟩)] (fun v=>g9 N v.1.1 v.1.2.2.1 v.1.2.2.2 v.2.1) (by kernel_rfl)
def zr1:SL PG Tryz.f277.ntmps (Y0 Tryz.f277):=pz (zbe) [] 211 ⟨[0,3,5],(.cons (.list .str) Sh5_),[(2000000,[3], .boxV Z2)],[]⟩ (0,⟨[0,3,5],(.cons (.list .str) Sh5_),[(2000000,[3], .boxV Z2)],[]⟩) [] (fun v=>z00 N v.1.1 v.1.2.2 v.2.1) (by kernel_rfl)
def zr2:SL PG Tryz.f277.ntmps (Y0 Tryz.f277):=lz N (zbe) [zr0 N,zr1 N] 26 ⟨[0,3,5],(.cons (.list .str) Sh5_),[(2000000,[3], .boxV Z2)],[]⟩ (1,⟨[4], .bool,[],[]⟩) [(2,⟨[], .nil,[],[]⟩)] (z1d N N) (z0n N) (fun f v=>f v.1.1 v.1.2.2 v.2.1) (fun r b0 b1 b2=>r ((b0,((),b1)),(b2,()))) rfl (fun _=>rfl) (fun _ _=>rfl) (by kernel_rfl)
def zzx:SC PG:=fz (zbe) Tryz.func277 [zr2 N] (.cons (.list .str) (.val Z2)) .bool [] (fun v=>zfk N v.1 v.2) (by kernel_rfl)
def y0x:SC PG:=fz (E0 [] [] []) Tryz.func279 [] (.val z67) .bool [] (fun v=>zdp N v) (by kernel_rfl)
def znb:SE PG:=E0 [] [] [zba N,z41 N,zlb N]
def zr4:SL PG Tryz.f280.ntmps (Y0 Tryz.f280):=lz N (znb N) [] 58 ⟨[3,5,6],Sh6_,[(2000000,[3], .boxV Z2),(2000001,[5], .sl Z2)],[]⟩ (1,⟨[4], .bool,[],[]⟩) [(2,⟨[], .nil,[],[]⟩)] (z6r N N) (z0p N) (fun f v=>f v.1.2.2 v.2.1 v.2.2.1) (fun r b0 b1 b2=>r (((),((),b0)),(b1,(b2,())))) rfl (fun _=>rfl) (fun _ _=>rfl) (by kernel_rfl)
def y00:SC PG:=fz (znb N) Tryz.func280 [zr4 N] (.cons (.val Z8) (.val Z2)) .bool [] (fun v=>zfl N v.1 v.2) (by kernel_rfl)
def zdc:SE PG:=E0 [] [] [y51 N,zzx N,zy9 N,y0x N,zgo N,y00 N]
def zsw:SL PG Tryz.f236.ntmps (Y0 Tryz.f236):=lz N (zdc N) [] 250 ⟨[2,3,6],Sh9_,[(2000000,[2], .boxV Z9),(2000001,[3], .boxV Z2)],[]⟩ (1,⟨[4], .bool,[],[]⟩) [(4,⟨[], .nil,[],[]⟩)] (z7u N N) (z1s N) (fun f v=>f v.1.2.2 v.2.1 v.2.2.1) (fun r b0 b1 b2=>r (((),((),b0)),(b1,(b2,())))) rfl (fun _=>rfl) (fun _ _=>rfl) (by kernel_rfl)
def zsx:SL PG Tryz.f236.ntmps (Y0 Tryz.f236):=lz N (zdc N) [] 122 ⟨[2,3,5],Sh9_,[(2000000,[2], .boxV Z9),(2000001,[3], .boxV Z2)],[]⟩ (1,⟨[4], .bool,[],[]⟩) [(2,⟨[2,3],Sh2_,[(2000000,[2], .boxV Z9),(2000001,[3], .boxV Z2)],[]⟩)] (z5n N N) (z1t N) (fun f v=>f v.1.2.2 v.2.1 v.2.2.1) (fun r b0 b1 b2=>r (((),((),b0)),(b1,(b2,())))) rfl (fun _=>rfl) (fun _ _=>rfl) (by kernel_rfl)
def zsv:SL PG Tryz.f236.ntmps (Y0 Tryz.f236):=pz (zdc N) [zsx N,zsw N] 15 ⟨[2,3],Sh2_,[(2000000,[2], .boxV Z9),(2000001,[3], .boxV Z2)],[]⟩ (1,⟨[4], .bool,[],[]⟩) [] (fun v=>zbb N v.2.1 v.2.2.1) (by kernel_rfl)
def y0y:SC PG:=fz (zdc N) Tryz.func236 [zsv N] (.cons (.val Z9) (.val Z2)) .bool [] (fun v=>zih N v.1 v.2) (by kernel_rfl)
def zna:SE PG:=E0 [] [] []
def zr3:SL PG Tryz.f239.ntmps (Y0 Tryz.f239):=lz N (zna) [] 58 ⟨[0,5,6],(.cons (.int .i64) zm8),[(2000000,[5], .sl (.int .u8))],[]⟩ (2,⟨[5],(.own 2000000),[(2000000,[5], .sl (.int .u8))],[]⟩) [] (z6q N N) (z0o N) (fun f v=>f v.1.1 v.1.2.2 v.2.1) (fun r b0 b1 b2=>r ((b0,((),b1)),(b2,()))) rfl (fun _=>rfl) (fun _ _=>rfl) (by kernel_rfl)
def zl8:SC PG:=fz (zna) Tryz.func239 [zr3 N] (.cons (.int .i64) (.int .i64)) (.fresh (.int .u8)) [] (fun v=>V8 N v.1 v.2) (by kernel_rfl)
def y50:SC PG:=fz (E0 [] [] [zl8 N]) Tryz.func240 [] .str (.fresh (.int .u8)) [] (fun v=>zcx N v) (by kernel_rfl)
def znd:SE PG:=E0 [] [] []
def zr6:SL PG Tryz.f287.ntmps (Y0 Tryz.f287):=lz N (znd) [] 58 ⟨[0,5,6],(.cons (.int .i64) zm8),[(2000000,[5], .sl (.int .u8))],[]⟩ (2,⟨[5],(.own 2000000),[(2000000,[5], .sl (.int .u8))],[]⟩) [] (zad N N) (z7j N) (fun f v=>f v.1.1 v.1.2.2 v.2.1) (fun r b0 b1 b2=>r ((b0,((),b1)),(b2,()))) rfl (fun _=>rfl) (fun _ _=>rfl) (by kernel_rfl)
def zla:SC PG:=fz (znd) Tryz.func287 [zr6 N] (.cons (.int .i64) (.int .i64)) (.fresh (.int .u8)) [] (fun v=>z6d N v.1 v.2) (by kernel_rfl)
def zq9:SE PG:=E0 [] [] [zla N]
def zt9:SL PG Tryz.f286.ntmps (Y0 Tryz.f286):=lz N (zq9 N) [] 58 ⟨[0,3,4],(.cons (.list .str) zm8),[(2000000,[3], .sl (.int .u8))],[]⟩ (2,⟨[3],(.own 2000000),[(2000000,[3], .sl (.int .u8))],[]⟩) [] (z83 N N) (z25 N) (fun f v=>f v.1.1 v.1.2.2 v.2.1) (fun r b0 b1 b2=>r ((b0,((),b1)),(b2,()))) rfl (fun _=>rfl) (fun _ _=>rfl) (by kernel_rfl)
def y16:SC PG:=fz (zq9 N) Tryz.func286 [zt9 N] (.list .str) (.fresh (.int .u8)) [] (fun v=>J3 N v) (by kernel_rfl)
def zqb:SE PG:=E0 [] [] [zgo N,y16 N,zla N]
def ztd:SL PG Tryz.f241.ntmps (Y0 Tryz.f241):=pz (zqb N) [] 31 ⟨[1,3],y9j,[(2000000,[1], .boxV Z8),(2000001,[3], .sl (.int .u8))],[]⟩ (1,⟨[2],(.own 2000000),[(2000000,[2], .sl (.int .u8))],[]⟩) [] (fun v=>q9 N v.2.1 v.2.2.1) (by kernel_rfl)
def zmx:SC PG:=fz (zqb N) Tryz.func241 [ztd N] (.val Z8) (.fresh (.int .u8)) [] (fun v=>zdr N v) (by kernel_rfl)
def z52:SE PG:=E0 [] [] [y0y N,zl8 N,y50 N,zmx N]
def zsz:SL PG Tryz.f183.ntmps (Y0 Tryz.f183):=lz N (z52 N) [] 130342 ⟨[1,5,8,9,10],(.cons (.ptr 2000000 0) (.cons (.own 2000001) (.cons (.int .i64) (.cons (.ptr 2000002 0) (.int .i64))))),[(2000000,[1], .boxV Z9),(2000001,[5], .sl (.int .u8)),(2000002,[9], .boxV ycv)],[]⟩ (10,⟨[1,5,8],Sh6_,[(2000000,[1], .boxV Z9),(2000001,[5], .sl (.int .u8))],[]⟩) [] (z15 N N) (J1 N) (fun f v=>f v.1.2.2.1 v.1.2.2.2.2 v.2.1 v.2.2.1 v.2.2.2.1) (fun r b0 b1 b2 b3 b4=>r (((),((),(b0,((),b1)))),(b2,(b3,(b4,()))))) rfl (fun _=>rfl) (fun _ _=>rfl) (by kernel_rfl)
def zt0:SL PG Tryz.f183.ntmps (Y0 Tryz.f183):=lz N (z52 N) [] 4090 ⟨[1,5,11],Sh6_,[(2000000,[1], .boxV Z9),(2000001,[5], .sl (.int .u8))],[]⟩ (12,⟨[5],(.own 2000000),[(2000000,[5], .sl (.int .u8))],[]⟩) [] (z7w N N) (z1w N) (fun f v=>f v.1.2.2 v.2.1 v.2.2.1) (fun r b0 b1 b2=>r (((),((),b0)),(b1,(b2,())))) rfl (fun _=>rfl) (fun _ _=>rfl) (by kernel_rfl)
def zt1:SL PG Tryz.f183.ntmps (Y0 Tryz.f183):=lz N (z52 N) [zsz N] 1018 ⟨[1,5,8],Sh6_,[(2000000,[1], .boxV Z9),(2000001,[5], .sl (.int .u8))],[]⟩ (8,⟨[1,5],y9j,[(2000000,[1], .boxV Z9),(2000001,[5], .sl (.int .u8))],[]⟩) [] (z7x N N) (z1x N) (fun f v=>f v.1.2.2 v.2.1 v.2.2.1) (fun r b0 b1 b2=>r (((),((),b0)),(b1,(b2,())))) rfl (fun _=>rfl) (fun _ _=>rfl) (by kernel_rfl)
def zt2:SL PG Tryz.f183.ntmps (Y0 Tryz.f183):=lz N (z52 N) [] 938 ⟨[1,3,4],Sh6_,[(2000000,[1], .boxV Z9),(2000001,[3], .sl (.int .u8))],[]⟩ (2,⟨[3],(.own 2000000),[(2000000,[3], .sl (.int .u8))],[]⟩) [] (z7y N N) (z1y N) (fun f v=>f v.1.2.2 v.2.1 v.2.2.1) (fun r b0 b1 b2=>r (((),((),b0)),(b1,(b2,())))) rfl (fun _=>rfl) (fun _ _=>rfl) (by kernel_rfl)
def zt3:SL PG Tryz.f183.ntmps (Y0 Tryz.f183):=lz N (z52 N) [] 506 ⟨[1,5,7],Sh6_,[(2000000,[1], .boxV Z9),(2000001,[5], .sl (.int .u8))],[]⟩ (6,⟨[1,5],y9j,[(2000000,[1], .boxV Z9),(2000001,[5], .sl (.int .u8))],[]⟩) [] (z7z N N) (z1z N) (fun f v=>f v.1.2.2 v.2.1 v.2.2.1) (fun r b0 b1 b2=>r (((),((),b0)),(b1,(b2,())))) rfl (fun _=>rfl) (fun _ _=>rfl) (by kernel_rfl)
def zt4:SL PG Tryz.f183.ntmps (Y0 Tryz.f183):=lz N (z52 N) [] 250 ⟨[1,5,6],Sh6_,[(2000000,[1], .boxV Z9),(2000001,[5], .sl (.int .u8))],[]⟩ (4,⟨[1,5],y9j,[(2000000,[1], .boxV Z9),(2000001,[5], .sl (.int .u8))],[]⟩) [] (z80 N N) (z20 N) (fun f v=>f v.1.2.2 v.2.1 v.2.2.1) (fun r b0 b1 b2=>r (((),((),b0)),(b1,(b2,())))) rfl (fun _=>rfl) (fun _ _=>rfl) (by kernel_rfl)
def zmu:SC PG:=fz (z52 N) Tryz.func183 [zt2 N,zt4 N,zt3 N,zt1 N,zt0 N] (.val Z9) (.fresh (.int .u8)) [] (fun v=>z4x N v) (by kernel_rfl)
def zq6:SE PG:=E0 [] [] []
def zsy:SL PG Tryz.f31.ntmps (Y0 Tryz.f31):=lz N (zq6) [] 58 ⟨[0,3,4],(.cons (.list (.int .u8)) (.cons (.int .u64) (.int .i64))),[],[]⟩ (2,⟨[3],(.int .u64),[],[]⟩) [] (z7v N N) (z1u N) (fun f v=>f v.1.1 v.1.2.1 v.1.2.2) (fun r b0 b1 b2=>r ((b0,(b1,b2)),())) rfl (fun _=>rfl) (fun _ _=>rfl) (by kernel_rfl)
def zmt:SC PG:=fz (zq6) Tryz.func31 [zsy N] (.list (.int .u8)) (.int .u64) [] (fun v=>z18 N v) (by kernel_rfl)
def zj6:SC PG:=fz (E0 [] [] []) Tryz.func42 [] (.cons (.val Q3) (.int .i64)) .bool [] (fun v=>zcl N v.1 v.2) (by kernel_rfl)
def zyq:SE PG:=E0 [] [] [zj6 N]
def zza:SL PG Tryz.f20.ntmps (Y0 Tryz.f20):=lz N (zyq N) [] 122 ⟨[1,2,6,7],(.cons (.int .i64) (.cons (.ptr 2000000 0) (.cons (.list (.int .u8)) (.int .i64)))),[(2000000,[2], .boxV Q3)],[]⟩ (2,⟨[6],(.list (.int .u8)),[],[]⟩) [] (z6a N N) (z7f N) (fun f v=>f v.1.1 v.1.2.2.1 v.1.2.2.2 v.2.1) (fun r b0 b1 b2 b3=>r ((b0,((),(b1,b2))),(b3,()))) rfl (fun _=>rfl) (fun _ _=>rfl) (by kernel_rfl)
def ztw:SC PG:=fz (zyq N) Tryz.func20 [zza N] (.cons (.val Q3) (.int .i64)) (.tup (.cons (.list (.int .u8)) (.int .i64))) [] (fun v=>zk4 N v.1 v.2) (by kernel_rfl)
def y4h:SC PG:=fz (E0 [] [] [ztw N,zmu N]) Tryz.func184 [] (.cons (.val X1) (.cons (.int .i64) (.val Z9))) .bool [] (fun v=>zld N v.1 v.2.1 v.2.2) (by kernel_rfl)
def zq0:SE PG:=E0 [] [] []
def zsl:SL PG Tryz.f288.ntmps (Y0 Tryz.f288):=lz N (zq0) [] 58 ⟨[1,3,4],(.cons (.ptr 2000000 0) zpb),[(2000000,[1], .boxV Q0)],[]⟩ (2,⟨[3],(.int .i64),[],[]⟩) [] (z7p N N) (z1l N) (fun f v=>f v.1.2.1 v.1.2.2 v.2.1) (fun r b0 b1 b2=>r (((),(b0,b1)),(b2,()))) rfl (fun _=>rfl) (fun _ _=>rfl) (by kernel_rfl)
def y0m:SC PG:=fz (zq0) Tryz.func288 [zsl N] (.val Q0) (.int .i64) [] (fun v=>znq N v) (by kernel_rfl)
def y4l:SC PG:=fz (E0 [] [] [y0m N]) Tryz.func242 [] (.val Q0) (.int .i64) [] (fun v=>zrr N v) (by kernel_rfl)
def zpz:SE PG:=E0 [(K7,[2000001])] [] []
def zsk:SL PG Tryz.f243.ntmps (Y0 Tryz.f243):=lz N (zpz) [] 58 ⟨[1,2,3,4],yeg,[(2000000,[1], .boxV Q0),(2000001,[2], .boxC [.nils, .nils, .int .i64 0, .int .i64 0, .int .i64 0]),(2000002,[3], .sl .bool)],[]⟩ (1,⟨[2],(.ptr 2000000 0),[(2000000,[2], .box (.cons (.own 2000001) (.cons (.list (.int .i64)) (.cons (.int .i64) zpb)))),(2000001,[2,0], .sl .bool)],[]⟩) [(2,⟨[1,2],Sh2_,[(2000000,[1], .boxV Q0),(2000001,[2], .boxC [.nils, .nils, .int .i64 0, .int .i64 0, .int .i64 0])],[]⟩)] (z5k N N) (z1k N) (fun f v=>f v.1.2.2.2 v.2.1 v.2.2.2.1) (fun r b0 b1 b2=>r (((),((),((),b0))),(b1,((),(b2,()))))) rfl (fun _=>rfl) (fun _ _=>rfl) (by kernel_rfl)
def y0l:SC PG:=fz (zpz) Tryz.func243 [zsk N] (.val Q0) (.val zjp) [] (fun v=>znp N v) (by kernel_rfl)
def zpi:SC PG:=fz (E0 [] [] [y4l N,y0l N]) Tryz.func189 [] (.val Q0) (.val zjp) [] (fun v=>ref25_Take N v) (by kernel_rfl)
def zab:SC PG:=fz (E0 [] [] []) Tryz.func75 [] (.val Q3) (.agg (.cons (.int .i64) (.cons (.fresh (.list (.int .u8))) (.fresh J4)))) [] (fun v=>z12 N v) (by kernel_rfl)
def zkq:SC PG:=fz (E0 [(K7,[22,31]),(3000028,[28])] [] [zj6 N,zab N]) Tryz.func130 [] (.cons (.val Q3) (.cons (.int .i64) (.list (.int .u8)))) (.tup (.cons (.val Q3) (.int .i64))) [] (fun v=>ref23_Put N v.1 v.2.1 v.2.2) (by kernel_rfl)
def y0j:SC PG:=fz (E0 [] [] [zpi N,zkq N]) Tryz.func129 [] (.cons (.val X1) (.list (.int .u8))) (.tup (.cons (.val X1) (.int .i64))) [] (fun v=>z8f N v.1 v.2) (by kernel_rfl)
def zvp:SM PG:=mz (E0 [(4,[5000002])] [] [zpi N,zkq N]) Tryz.func129 [] ⟨[0,1],(.cons yp4 (.own 5000002)),[(5000000,[0,9], .sl (.int .i64)),(5000001,[0,10], .sl (.int .u64)),(5000002,[1], .sl (.int .u8))],[]⟩ ⟨[0],(.tup (.cons yp4 (.int .i64))),[(5000000,[5000000], .sl (.int .i64)),(5000001,[5000001], .sl (.int .u64))],[]⟩ [] (fun v=>zcg N v.1.1.1 v.1.1.2.1 v.1.1.2.2.1 v.1.1.2.2.2.1 v.1.1.2.2.2.2.1 v.1.1.2.2.2.2.2.1 v.1.1.2.2.2.2.2.2.1 v.1.1.2.2.2.2.2.2.2.1 v.1.1.2.2.2.2.2.2.2.2.1 v.1.1.2.2.2.2.2.2.2.2.2.2.2 v.2.1 v.2.2.1 v.2.2.2.1) (by kernel_rfl)
def z7a:SE PG:=E0 [(K7,[2000001,2000002,2000004])] [93] [zmu N,zmt N,y4h N] [zvp N]
def zsf:SL PG Tryz.f126.ntmps (Y0 Tryz.f126):=pz (z7a N) [] 31311 ⟨[2,3,4,7,8,9,11,12],ymh,[(2000000,[2], .box Sh1_),(2000001,[2,9], .sl (.int .i64)),(2000002,[2,10], .sl (.int .u64)),(2000003,[3], .boxV Y1),(2000004,[4], .boxC [.int .i64 0, .nils, .nils, .nils, .nils, .int .i64 0, .int .i64 0, .int .i64 0, .int .i64 0, .nils, .nils, .nils]),(2000005,[7], .boxV X1),(2000006,[8], .sl (.int .i64))],[]⟩ (0,⟨[2,3,4,7,8,9],Sh7_,[(2000000,[2], .box Sh1_),(2000001,[2,9], .sl (.int .i64)),(2000002,[2,10], .sl (.int .u64)),(2000003,[3], .boxV Y1),(2000004,[4], .boxC [.int .i64 0, .nils, .nils, .nils, .nils, .int .i64 0, .int .i64 0, .int .i64 0, .int .i64 0, .nils, .nils, .nils]),(2000005,[7], .boxV X1),(2000006,[8], .sl (.int .i64))],[]⟩) [] (fun v=>z5j N v.1.2.2.2.2.2.1 v.1.2.2.2.2.2.2.1 v.1.2.2.2.2.2.2.2 v.2.1.1 v.2.1.2.1 v.2.1.2.2.1 v.2.1.2.2.2.1 v.2.1.2.2.2.2.1 v.2.1.2.2.2.2.2.1 v.2.1.2.2.2.2.2.2.1 v.2.1.2.2.2.2.2.2.2.1 v.2.1.2.2.2.2.2.2.2.2.1 v.2.1.2.2.2.2.2.2.2.2.2.2.2 v.2.2.1 v.2.2.2.1 v.2.2.2.2.1 v.2.2.2.2.2.2.1 v.2.2.2.2.2.2.2.1) (by kernel_rfl)
def zsg:SL PG Tryz.f126.ntmps (Y0 Tryz.f126):=pz (z7a N) [] 31309 ⟨[2,3,4,7,8,9,10,11,12,57],(.cons (.ptr 2000000 0) (.cons (.ptr 2000003 0) (.cons (.ptr 2000004 0) (.cons (.ptr 2000005 0) (.cons (.own 2000006) (.cons (.int .i64) (.cons (.ptr 2000007 0) (.cons (.int .i64) (.cons (.int .u64) .bool))))))))),[(2000000,[2], .box Sh1_),(2000001,[2,9], .sl (.int .i64)),(2000002,[2,10], .sl (.int .u64)),(2000003,[3], .boxV Y1),(2000004,[4], .boxC [.int .i64 0, .nils, .nils, .nils, .nils, .int .i64 0, .int .i64 0, .int .i64 0, .int .i64 0, .nils, .nils, .nils]),(2000005,[7], .boxV X1),(2000006,[8], .sl (.int .i64)),(2000007,[10], .boxV Y8)],[]⟩ (0,⟨[2,3,4,7,8,9,11,12],ymh,[(2000000,[2], .box Sh1_),(2000001,[2,9], .sl (.int .i64)),(2000002,[2,10], .sl (.int .u64)),(2000003,[3], .boxV Y1),(2000004,[4], .boxC [.int .i64 0, .nils, .nils, .nils, .nils, .int .i64 0, .int .i64 0, .int .i64 0, .int .i64 0, .nils, .nils, .nils]),(2000005,[7], .boxV X1),(2000006,[8], .sl (.int .i64))],[]⟩) [(1,⟨[4,5,6],(.cons (.ptr 2000000 0) (.cons (.list (.int .i64)) .bool)),[(2000000,[4], .boxV X1)],[]⟩)] (fun v=>z3p N v.1.2.2.2.2.2.1 v.1.2.2.2.2.2.2.2.1 v.1.2.2.2.2.2.2.2.2.1 v.1.2.2.2.2.2.2.2.2.2 v.2.1.1 v.2.1.2.1 v.2.1.2.2.1 v.2.1.2.2.2.1 v.2.1.2.2.2.2.1 v.2.1.2.2.2.2.2.1 v.2.1.2.2.2.2.2.2.1 v.2.1.2.2.2.2.2.2.2.1 v.2.1.2.2.2.2.2.2.2.2.1 v.2.1.2.2.2.2.2.2.2.2.2.2.2 v.2.2.1 v.2.2.2.1 v.2.2.2.2.1 v.2.2.2.2.2.2.1 v.2.2.2.2.2.2.2.1 v.2.2.2.2.2.2.2.2.1) (by kernel_rfl)
def zsh:SL PG Tryz.f126.ntmps (Y0 Tryz.f126):=pz (z7a N) [zsf N] 15655 ⟨[2,3,4,7,8,9,11,12],ymh,[(2000000,[2], .box Sh1_),(2000001,[2,9], .sl (.int .i64)),(2000002,[2,10], .sl (.int .u64)),(2000003,[3], .boxV Y1),(2000004,[4], .boxC [.int .i64 0, .nils, .nils, .nils, .nils, .int .i64 0, .int .i64 0, .int .i64 0, .int .i64 0, .nils, .nils, .nils]),(2000005,[7], .boxV X1),(2000006,[8], .sl (.int .i64))],[]⟩ (0,⟨[2,3,4,7,8,9],Sh7_,[(2000000,[2], .box Sh1_),(2000001,[2,9], .sl (.int .i64)),(2000002,[2,10], .sl (.int .u64)),(2000003,[3], .boxV Y1),(2000004,[4], .boxC [.int .i64 0, .nils, .nils, .nils, .nils, .int .i64 0, .int .i64 0, .int .i64 0, .int .i64 0, .nils, .nils, .nils]),(2000005,[7], .boxV X1),(2000006,[8], .sl (.int .i64))],[]⟩) [] (fun v=>z3q N v.1.2.2.2.2.2.1 v.1.2.2.2.2.2.2.1 v.1.2.2.2.2.2.2.2 v.2.1.1 v.2.1.2.1 v.2.1.2.2.1 v.2.1.2.2.2.1 v.2.1.2.2.2.2.1 v.2.1.2.2.2.2.2.1 v.2.1.2.2.2.2.2.2.1 v.2.1.2.2.2.2.2.2.2.1 v.2.1.2.2.2.2.2.2.2.2.1 v.2.1.2.2.2.2.2.2.2.2.2.2.2 v.2.2.1 v.2.2.2.1 v.2.2.2.2.1 v.2.2.2.2.2.2.1 v.2.2.2.2.2.2.2.1) (by kernel_rfl)
def zsi:SL PG Tryz.f126.ntmps (Y0 Tryz.f126):=pz (z7a N) [] 979 ⟨[2,3,4,7,8,9],Sh7_,[(2000000,[2], .box Sh1_),(2000001,[2,9], .sl (.int .i64)),(2000002,[2,10], .sl (.int .u64)),(2000003,[3], .boxV Y1),(2000004,[4], .boxC [.int .i64 0, .nils, .nils, .nils, .nils, .int .i64 0, .int .i64 0, .int .i64 0, .int .i64 0, .nils, .nils, .nils]),(2000005,[7], .boxV X1),(2000006,[8], .sl (.int .i64))],[]⟩ (0,⟨[2,3,4,7,8,9],Sh7_,[(2000000,[2], .box Sh1_),(2000001,[2,9], .sl (.int .i64)),(2000002,[2,10], .sl (.int .u64)),(2000003,[3], .boxV Y1),(2000004,[4], .boxC [.int .i64 0, .nils, .nils, .nils, .nils, .int .i64 0, .int .i64 0, .int .i64 0, .int .i64 0, .nils, .nils, .nils]),(2000005,[7], .boxV X1),(2000006,[8], .sl (.int .i64))],[]⟩) [] (fun v=>z3r N v.1.2.2.2.2.2 v.2.1.1 v.2.1.2.1 v.2.1.2.2.1 v.2.1.2.2.2.1 v.2.1.2.2.2.2.1 v.2.1.2.2.2.2.2.1 v.2.1.2.2.2.2.2.2.1 v.2.1.2.2.2.2.2.2.2.1 v.2.1.2.2.2.2.2.2.2.2.1 v.2.1.2.2.2.2.2.2.2.2.2.2.2 v.2.2.1 v.2.2.2.1 v.2.2.2.2.1 v.2.2.2.2.2.2.1 v.2.2.2.2.2.2.2.1) (by kernel_rfl)
def zsj:SL PG Tryz.f126.ntmps (Y0 Tryz.f126):=lz N (z7a N) [zsg N,zsh N,zsi N] 122 ⟨[2,3,4,7,8,9],Sh7_,[(2000000,[2], .box Sh1_),(2000001,[2,9], .sl (.int .i64)),(2000002,[2,10], .sl (.int .u64)),(2000003,[3], .boxV Y1),(2000004,[4], .boxC [.int .i64 0, .nils, .nils, .nils, .nils, .int .i64 0, .int .i64 0, .int .i64 0, .int .i64 0, .nils, .nils, .nils]),(2000005,[7], .boxV X1),(2000006,[8], .sl (.int .i64))],[]⟩ (1,⟨[4,5,6],(.cons (.ptr 2000000 0) (.cons (.list (.int .i64)) .bool)),[(2000000,[4], .boxV X1)],[]⟩) [(2,⟨[2,4,8],(.cons (.ptr 2000000 0) (.cons (.ptr 2000003 0) (.own 2000004))),[(2000000,[2], .box Sh1_),(2000001,[2,9], .sl (.int .i64)),(2000002,[2,10], .sl (.int .u64)),(2000003,[4], .boxC [.int .i64 0, .nils, .nils, .nils, .nils, .int .i64 0, .int .i64 0, .int .i64 0, .int .i64 0, .nils, .nils, .nils]),(2000004,[8], .sl (.int .i64))],[]⟩)] (z13 N N) (z1j N) (fun f v=>f v.1.2.2.2.2.2 v.2.1.1 v.2.1.2.1 v.2.1.2.2.1 v.2.1.2.2.2.1 v.2.1.2.2.2.2.1 v.2.1.2.2.2.2.2.1 v.2.1.2.2.2.2.2.2.1 v.2.1.2.2.2.2.2.2.2.1 v.2.1.2.2.2.2.2.2.2.2.1 v.2.1.2.2.2.2.2.2.2.2.2.2.2 v.2.2.1 v.2.2.2.1 v.2.2.2.2.1 v.2.2.2.2.2.2.1 v.2.2.2.2.2.2.2.1) (fun r b0 b1 b2 b3 b4 b5 b6 b7 b8 b9 b10 b11 b12 b13 b14 b15=>r (((),((),((),((),((),b0))))),((b1,(b2,(b3,(b4,(b5,(b6,(b7,(b8,(b9,((),((),b10))))))))))),(b11,(b12,(b13,((),(b14,(b15,()))))))))) rfl (fun _=>rfl) (fun _ _=>rfl) (by kernel_rfl)
def y0k:SC PG:=fz (z7a N) Tryz.func126 [zsj N] (.cons (.val X1) (.val Y1)) (.tup (.cons (.val X1) (.cons (.list (.int .i64)) .bool))) [] (fun v=>zdm N v.1 v.2) (by kernel_rfl)
def zn2:SE PG:=E0 [] [] []
def zqq:SL PG Tryz.f188.ntmps (Y0 Tryz.f188):=lz N (zn2) [] 58 ⟨[0,5,6],(.cons (.int .u64) zm8),[(2000000,[5], .sl (.int .u8))],[]⟩ (2,⟨[5],(.own 2000000),[(2000000,[5], .sl (.int .u8))],[]⟩) [] (z6h N N) (z0f N) (fun f v=>f v.1.1 v.1.2.2 v.2.1) (fun r b0 b1 b2=>r ((b0,((),b1)),(b2,()))) rfl (fun _=>rfl) (fun _ _=>rfl) (by kernel_rfl)
def ze0:SC PG:=fz (zn2) Tryz.func188 [zqq N] (.cons (.int .u64) (.int .i64)) (.fresh (.int .u8)) [] (fun v=>z2r N v.1 v.2) (by kernel_rfl)
def zmp:SC PG:=fz (E0 [] [] [ze0 N]) Tryz.func186 [] (.cons (.int .i64) (.int .i64)) (.fresh (.int .u8)) [] (fun v=>w5 N v.1 v.2) (by kernel_rfl)
def zud:SE PG:=E0 [] [] []
def zvr:SL PG Tryz.f185.ntmps (Y0 Tryz.f185):=lz N (zud) [] 58 ⟨[0,3,4],(.cons (.list (.list (.int .u8))) zm8),[(2000000,[3], .sl (.int .u8))],[]⟩ (2,⟨[3],(.own 2000000),[(2000000,[3], .sl (.int .u8))],[]⟩) [] (z9m N N) (z33 N) (fun f v=>f v.1.1 v.1.2.2 v.2.1) (fun r b0 b1 b2=>r ((b0,((),b1)),(b2,()))) rfl (fun _=>rfl) (fun _ _=>rfl) (by kernel_rfl)
def zph:SC PG:=fz (zud) Tryz.func185 [zvr N] (.list (.list (.int .u8))) (.fresh (.int .u8)) [] (fun v=>z6j N v) (by kernel_rfl)
def zwn:SC PG:=fz (E0 [(K7,[8])] [] [ze0 N]) Tryz.func186 [] (.cons (.int .i64) (.int .i64)) (.list (.int .u8)) [] (fun v=>W3 N v.1 v.2) (by kernel_rfl)
def zn3:SE PG:=E0 [(K7,[2000000])] [] [zmp N,zmx N]
def zqr:SL PG Tryz.f187.ntmps (Y0 Tryz.f187):=lz N (zn3 N) [] 58 ⟨[0,3,4],(.cons (.list Z8) zm8),[(2000000,[3], .sl (.int .u8))],[]⟩ (2,⟨[3],(.own 2000000),[(2000000,[3], .sl (.int .u8))],[]⟩) [] (z6i N N) (z0g N) (fun f v=>f v.1.1 v.1.2.2 v.2.1) (fun r b0 b1 b2=>r ((b0,((),b1)),(b2,()))) rfl (fun _=>rfl) (fun _ _=>rfl) (by kernel_rfl)
def zzo:SC PG:=fz (zn3 N) Tryz.func187 [zqr N] (.list Z8) (.list (.int .u8)) [] (fun v=>zbj N v) (by kernel_rfl)
def zjy:SE PG:=E0 [(K7,[2000000])] [] []
def zmh:SL PG Tryz.f188.ntmps (Y0 Tryz.f188):=lz N (zjy) [] 58 ⟨[0,5,6],(.cons (.int .u64) zm8),[(2000000,[5], .sl (.int .u8))],[]⟩ (2,⟨[5],(.own 2000000),[(2000000,[5], .sl (.int .u8))],[]⟩) [] (z4e N N) (v7 N) (fun f v=>f v.1.1 v.1.2.2 v.2.1) (fun r b0 b1 b2=>r ((b0,((),b1)),(b2,()))) rfl (fun _=>rfl) (fun _ _=>rfl) (by kernel_rfl)
def ztr:SC PG:=fz (zjy) Tryz.func188 [zmh N] (.cons (.int .u64) (.int .i64)) (.list (.int .u8)) [] (fun v=>z5i N v.1 v.2) (by kernel_rfl)
def ze4:SE PG:=E0 [(2000040,[23]),(3000070,[70]),(3000108,[108])] [] [zwn N,zzo N,zph N,ztr N]
def zo6:SL PG Tryz.f127.ntmps (Y0 Tryz.f127):=lz N (ze4 N) [] 250 ⟨[2,3,5,8],yeg,[(2000000,[2], .boxV Y1),(2000001,[3], .boxV X1),(2000002,[5], .sl (.int .u8))],[]⟩ (4,⟨[5],(.own 2000000),[(2000000,[5], .sl (.int .u8))],[]⟩) [] (z2t N N) (z03 N) (fun f v=>f v.1.2.2.2 v.2.1 v.2.2.1 v.2.2.2.1) (fun r b0 b1 b2 b3=>r (((),((),((),b0))),(b1,(b2,(b3,()))))) rfl (fun _=>rfl) (fun _ _=>rfl) (by kernel_rfl)
def zo7:SL PG Tryz.f127.ntmps (Y0 Tryz.f127):=lz N (ze4 N) [] 58 ⟨[2,3,5,6],yeg,[(2000000,[2], .boxV Y1),(2000001,[3], .boxV X1),(2000002,[5], .sl (.int .u8))],[]⟩ (2,⟨[2,3,5],ymg,[(2000000,[2], .boxV Y1),(2000001,[3], .boxV X1),(2000002,[5], .sl (.int .u8))],[]⟩) [] (z5b N N) (z04 N) (fun f v=>f v.1.2.2.2 v.2.1 v.2.2.1 v.2.2.2.1) (fun r b0 b1 b2 b3=>r (((),((),((),b0))),(b1,(b2,(b3,()))))) rfl (fun _=>rfl) (fun _ _=>rfl) (by kernel_rfl)
def zwp:SC PG:=fz (ze4 N) Tryz.func127 [zo7 N,zo6 N] (.cons (.val Y1) (.val X1)) (.fresh (.int .u8)) [] (fun v=>zck N v.1 v.2) (by kernel_rfl)
def zn4:SE PG:=E0 [] [] []
def zqs:SL PG Tryz.f128.ntmps (Y0 Tryz.f128):=lz N (zn4) [] 28 ⟨[0,1,5],(.cons (.list (.int .u8)) (.cons (.int .i64) (.own 2000000))),[(2000000,[5], .sl (.list (.int .u8)))],[]⟩ (2,⟨[0,5],(.cons (.list (.int .u8)) (.own 2000000)),[(2000000,[5], .sl (.list (.int .u8)))],[]⟩) [] (z6k N N) (z43 N) (fun f v=>f v.1.1 v.1.2.1 v.2.1) (fun r b0 b1 b2=>r ((b0,(b1,())),(b2,()))) rfl (fun _=>rfl) (fun _ _=>rfl) (by kernel_rfl)
def zzp:SC PG:=fz (zn4) Tryz.func128 [zqs N] (.cons (.list (.int .u8)) (.int .i64)) (.fresh (.list (.int .u8))) [] (fun v=>zfe N v.1 v.2) (by kernel_rfl)
def y0n:SC PG:=fz (E0 [(K7,[5,10])] [] [zab N]) Tryz.func131 [] (.val Q3) (.val Q3) [] (fun v=>z8g N v) (by kernel_rfl)
def zm0:SE PG:=E0 [(K7,[40]),(2000021,[9,11,14,17,20])] [] [zmp N,zmt N,ze0 N,zph N]
def zo5:SL PG Tryz.f132.ntmps (Y0 Tryz.f132):=lz N (zm0 N) [] 58 ⟨[2,7,8],(.cons (.list (.int .i64)) zm8),[(2000000,[7], .sl (.int .u8))],[]⟩ (2,⟨[7],(.own 2000000),[(2000000,[7], .sl (.int .u8))],[]⟩) [] (z5a N N) (z02 N) (fun f v=>f v.1.1 v.1.2.2 v.2.1) (fun r b0 b1 b2=>r ((b0,((),b1)),(b2,()))) rfl (fun _=>rfl) (fun _ _=>rfl) (by kernel_rfl)
def zwo:SC PG:=fz (zm0 N) Tryz.func132 [zo5 N] (.cons (.int .i64) (.cons (.list (.int .u8)) (.list (.int .i64)))) (.list (.int .u8)) [] (fun v=>zcj N v.1 v.2.1 v.2.2) (by kernel_rfl)
def zyp:SE PG:=E0 [] [] []
def zz7:SL PG Tryz.f190.ntmps (Y0 Tryz.f190):=lz N (zyp) [] 26 ⟨[0,1,5],(.cons (.list (.int .i64)) zpb),[],[]⟩ (1,⟨[4], .bool,[],[]⟩) [(2,⟨[], .nil,[],[]⟩)] (zff N N) (zb8 N) (fun f v=>f v.1.1 v.1.2.1 v.1.2.2) (fun r b0 b1 b2=>r ((b0,(b1,b2)),())) rfl (fun _=>rfl) (fun _ _=>rfl) (by kernel_rfl)
def y7k:SC PG:=fz (zyp) Tryz.func190 [zz7 N] (.cons (.list (.int .i64)) (.int .i64)) .bool [] (fun v=>y69 N v.1 v.2) (by kernel_rfl)
def zkx:SE PG:=E0 [(K7,[2000001])] [] [y7k N]
def zvu:SL PG Tryz.f133.ntmps (Y0 Tryz.f133):=pz (zkx N) [] 13 ⟨[1,2,4,29],(.cons (.int .i64) (.cons (.ptr 2000000 0) (.cons (.ptr 2000001 0) .bool))),[(2000000,[2], .boxV Q0),(2000001,[4], .boxC [.nils, .nils, .int .i64 0])],[]⟩ (1,⟨[4,5],Sh5_,[(2000000,[4], .boxV Q0)],[]⟩) [(0,⟨[1,2,4],(.cons (.int .i64) Sh2_),[(2000000,[2], .boxV Q0),(2000001,[4], .boxC [.nils, .nils, .int .i64 0])],[]⟩)] (fun v=>z9n N v.1.1 v.1.2.2.2 v.2.1) (by kernel_rfl)
def zvv:SL PG Tryz.f133.ntmps (Y0 Tryz.f133):=pz (zkx N) [] 7 ⟨[1,2,4],(.cons (.int .i64) Sh2_),[(2000000,[2], .boxV Q0),(2000001,[4], .boxC [.nils, .nils, .int .i64 0])],[]⟩ (1,⟨[4,5],Sh5_,[(2000000,[4], .box (.cons (.list .bool) y5s)),(2000001,[4,1], .sl (.int .i64))],[]⟩) [] (fun v=>z9o N v.1.1 v.2.1) (by kernel_rfl)
def y4m:SC PG:=fz (zkx N) Tryz.func133 [zvu N,zvv N] (.cons (.val Q0) (.int .i64)) (.tup (.cons (.val Q0) (.int .i64))) [] (fun v=>y1y N v.1 v.2) (by kernel_rfl)
def zn5:SE PG:=E0 [(K7,[2000002])] [] []
def zqt:SL PG Tryz.f134.ntmps (Y0 Tryz.f134):=lz N (zn5) [] 58 ⟨[1,2,3,4],yeg,[(2000000,[1], .boxV Q0),(2000001,[2], .boxC [.nils, .nils, .int .i64 0]),(2000002,[3], .sl .bool)],[]⟩ (2,⟨[1,2,3],ymg,[(2000000,[1], .boxV Q0),(2000001,[2], .boxC [.nils, .nils, .int .i64 0]),(2000002,[3], .sl .bool)],[]⟩) [] (z1b N N) (z44 N) (fun f v=>f v.1.2.2.2 v.2.1 v.2.2.2.1) (fun r b0 b1 b2=>r (((),((),((),b0))),(b1,((),(b2,()))))) rfl (fun _=>rfl) (fun _ _=>rfl) (by kernel_rfl)
def zzq:SC PG:=fz (zn5) Tryz.func134 [zqt N] (.val Q0) (.val Q0) [] (fun v=>zbl N v) (by kernel_rfl)
def zkw:SE PG:=E0 [(6,[30]),(16,[2000003])] [] [y0k N,zwp N,zzp N,y0j N,y0n N,zwo N,zkq N,y4m N,zzq N]
def zvs:SL PG Tryz.f78.ntmps (Y0 Tryz.f78):=lz N (zkw N) [] 65530 ⟨[2,4,6,10,15],(.cons (.ptr 2000000 0) (.cons (.ptr 2000001 0) (.cons (.own 2000002) (.cons (.list (.int .i64)) (.int .i64))))),[(2000000,[2], .boxV X1),(2000001,[4], .boxC [.int .i64 0, .nils, .nils, .nils, .nils, .int .i64 0, .int .i64 0, .int .i64 0, .int .i64 0, .nils, .nils, .nils, .int .i64 0]),(2000002,[6], .sl (.int .i64))],[]⟩ (4,⟨[2,4,10],(.cons (.ptr 2000000 0) (.cons (.ptr 2000001 0) (.list (.int .i64)))),[(2000000,[2], .boxV X1),(2000001,[4], .boxC [.int .i64 0, .nils, .nils, .nils, .nils, .int .i64 0, .int .i64 0, .int .i64 0, .int .i64 0, .nils, .nils, .nils, .int .i64 0])],[]⟩) [] (z4z N N) (z5u N) (fun f v=>f v.1.2.2.2.1 v.1.2.2.2.2 v.2.1 v.2.2.2.1) (fun r b0 b1 b2 b3=>r (((),((),((),(b0,b1)))),(b2,((),(b3,()))))) rfl (fun _=>rfl) (fun _ _=>rfl) (by kernel_rfl)
def zvt:SL PG Tryz.f78.ntmps (Y0 Tryz.f78):=lz N (zkw N) [] 1018 ⟨[2,4,5,6,8,9,10,11],(.cons (.ptr 2000000 0) (.cons (.ptr 2000001 0) (.cons (.ptr 2000002 0) (.cons (.list (.int .i64)) (.cons (.list (.int .u8)) (.cons (.own 2000003) yee)))))),[(2000000,[2], .boxV X1),(2000001,[4], .boxC [.int .i64 0, .nils, .nils, .nils, .nils, .int .i64 0, .int .i64 0, .int .i64 0, .int .i64 0, .nils, .nils, .nils, .int .i64 0]),(2000002,[5], .boxV X1),(2000003,[9], .sl (.list (.int .u8))),(2000004,[10], .sl (.int .i64))],[]⟩ (1,⟨[4],(.ptr 2000000 0),[(2000000,[4], .boxV zdf)],[]⟩) [(2,⟨[2,4,5,6,8,10],(.cons (.ptr 2000000 0) (.cons (.ptr 2000001 0) (.cons (.ptr 2000002 0) (.cons (.list (.int .i64)) (.cons (.list (.int .u8)) (.own 2000003)))))),[(2000000,[2], .boxV X1),(2000001,[4], .boxC [.int .i64 0, .nils, .nils, .nils, .nils, .int .i64 0, .int .i64 0, .int .i64 0, .int .i64 0, .nils, .nils, .nils, .int .i64 0]),(2000002,[5], .boxV X1),(2000003,[10], .sl (.int .i64))],[]⟩)] (z72 N N) (z34 N) (fun f v=>f v.1.2.2.2.1 v.1.2.2.2.2.1 v.1.2.2.2.2.2.2.2 v.2.1 v.2.2.2.1 v.2.2.2.2.1 v.2.2.2.2.2.1) (fun r b0 b1 b2 b3 b4 b5 b6=>r (((),((),((),(b0,(b1,((),((),b2))))))),(b3,((),(b4,(b5,(b6,()))))))) rfl (fun _=>rfl) (fun _ _=>rfl) (by kernel_rfl)
def y4i:SC PG:=fz (zkw N) Tryz.func78 [zvt N,zvs N] (.cons (.val X1) (.val Y1)) (.val zdf) [] (fun v=>zhd N v.1 v.2) (by kernel_rfl)
def ztu:SC PG:=fz (E0 [] [] [y7j N,y4i N]) Tryz.func35 [] (.cons (.val Q3) (.cons (.int .i64) (.val Y1))) (.val zdf) [] (fun v=>zos N v.1 v.2.1 v.2.2) (by kernel_rfl)
def zwv:SC PG:=fz (E0 [(2000017,[16])] [] [ztx N,zty N,ztv N,ztu N]) Tryz.func32 [] .nil (.val zbh) [] (fun _=>zpv N) (by kernel_rfl)
def y7s:SC PG:=fz (E0 [] [] []) Tryz.func136 [] (.cons (.val (.list Y8)) (.int .i64)) .bool [] (fun v=>zoy N v.1 v.2) (by kernel_rfl)
def zqp:SM PG:=mz (E0 [] [] []) Tryz.func80 [] ⟨[0,1],(.cons (.int .i64) (.ptr 5000000 0)),[(5000000,[1], .box (.own 5000001)),(5000001,[1,0], .sl (.int .i64))],[]⟩ ⟨[0],(.tup .nil),[(5000000,[5000000], .box (.own 2000001)),(2000001,[5000000,0], .sl (.int .i64))],[]⟩ [] (fun v=>zae N v.1.1 v.2.2.1) (by kernel_rfl)
def z10(self:Int->(List Z7)->(List Int)->Bool->(List Int)->Option ((Unit×((List Z7)×(Unit×((List Int)×(Bool×((Unit×(Unit×(Unit×(Unit×Unit))))×(Unit×(Unit×((List Int)×Unit))))))))))):CtrM:=ctrM ⟨[0,1,2,3,4,5],(.cons (.int .i64) Sh3_),[(5000000,[1], .box (.list Y8)),(5000001,[2], .box (.own 5000002)),(5000002,[2,0], .sl (.int .i64)),(5000003,[3], .box .bool),(5000004,[4], .box (.clo 135 Sh3_)),(5000005,[4,0,4], .box (.clo 80 (.ptr 5000006 0))),(5000006,[4,0,4,0,0], .box (.own 5000007)),(5000007,[4,0,4,0,0,0], .sl (.int .i64))],[]⟩ ⟨[0],(.tup .nil),[(5000000,[5000000], .box (.list Y8)),(5000001,[5000001], .box (.own 5000002)),(5000002,[5000002], .sl (.int .i64)),(5000003,[5000003], .box .bool),(5000004,[5000004], .box (.clo 135 Sh3_)),(5000005,[5000005], .box (.clo 80 (.ptr 5000006 0))),(5000006,[5000006], .box (.own 2000007)),(2000007,[5000006,0], .sl (.int .i64))],[]⟩ [] (fun v=>self v.1.1 v.2.1 v.2.2.2.1 v.2.2.2.2.1 v.2.2.2.2.2.2.2.2.1)
def zib(self:Int->(List Z7)->(List Int)->Bool->(List Int)->Option ((Unit×((List Z7)×(Unit×((List Int)×(Bool×((Unit×(Unit×(Unit×(Unit×Unit))))×(Unit×(Unit×((List Int)×Unit)))))))))))(hs:zbw PG 135 (z10 self)):SE PG:=E0 [] [42,49] [y7s N] [⟨135,z10 self,hs⟩,zqp N]
def zma(self:Int->(List Z7)->(List Int)->Bool->(List Int)->Option ((Unit×((List Z7)×(Unit×((List Int)×(Bool×((Unit×(Unit×(Unit×(Unit×Unit))))×(Unit×(Unit×((List Int)×Unit)))))))))))(hs:zbw PG 135 (z10 self)):SL PG Tryz.f135.ntmps (Y0 Tryz.f135):=lz N (zib N self hs) [] 122 ⟨[0,2,4,5,34,35,36],(.cons (.int .i64) (.cons (.ptr 5000001 0) (.cons (.ptr 5000004 0) (.cons (.ptr 5000005 0) (.cons (.list (.int .i64)) zpb))))),[(5000001,[5000001], .box (.own 5000002)),(5000002,[5000002], .sl (.int .i64)),(5000004,[5000004], .box (.clo 135 Sh3_)),(5000000,[5000000], .box (.list Y8)),(5000003,[5000003], .box .bool),(5000005,[5000005], .box (.clo 80 (.ptr 5000006 0))),(5000006,[5000006], .box (.own 2000007)),(2000007,[5000006,0], .sl (.int .i64))],[]⟩ (2,⟨[0,2,5],(.cons (.int .i64) (.cons (.ptr 5000001 0) (.ptr 5000005 0))),[(5000001,[5000001], .box (.own 5000002)),(5000002,[5000002], .sl (.int .i64)),(5000005,[5000005], .box (.clo 80 (.ptr 5000006 0))),(5000006,[5000006], .box (.own 2000004)),(2000004,[5000006,0], .sl (.int .i64)),(5000000,[5000000], .box (.list Y8)),(5000003,[5000003], .box .bool),(5000004,[5000004], .box (.clo 135 Sh3_))],[]⟩) [] (z0b N self N) (y5 N self) (fun f v=>f v.1.1 v.1.2.2.2.2.1 v.1.2.2.2.2.2.1 v.1.2.2.2.2.2.2 v.2.2.1 v.2.2.2.2.1 v.2.2.2.2.2.1 v.2.2.2.2.2.2.2.2.1) (fun r b0 b1 b2 b3 b4 b5 b6 b7=>r ((b0,((),((),((),(b1,(b2,b3)))))),((),(b4,(((),((),((),((),())))),(b5,(b6,((),((),(b7,())))))))))) rfl (fun _=>rfl) (fun _ _=>rfl) (by kernel_rfl)
def zrh(self:Int->(List Z7)->(List Int)->Bool->(List Int)->Option ((Unit×((List Z7)×(Unit×((List Int)×(Bool×((Unit×(Unit×(Unit×(Unit×Unit))))×(Unit×(Unit×((List Int)×Unit)))))))))))(hs:zbw PG 135 (z10 self)):SM PG:=mz (zib N self hs) Tryz.func135 [zma N self hs] ⟨[0,1,2,3,4,5],(.cons (.int .i64) Sh3_),[(5000000,[1], .box (.list Y8)),(5000001,[2], .box (.own 5000002)),(5000002,[2,0], .sl (.int .i64)),(5000003,[3], .box .bool),(5000004,[4], .box (.clo 135 Sh3_)),(5000005,[4,0,4], .box (.clo 80 (.ptr 5000006 0))),(5000006,[4,0,4,0,0], .box (.own 5000007)),(5000007,[4,0,4,0,0,0], .sl (.int .i64))],[]⟩ ⟨[0],(.tup .nil),[(5000000,[5000000], .box (.list Y8)),(5000001,[5000001], .box (.own 5000002)),(5000002,[5000002], .sl (.int .i64)),(5000003,[5000003], .box .bool),(5000004,[5000004], .box (.clo 135 Sh3_)),(5000005,[5000005], .box (.clo 80 (.ptr 5000006 0))),(5000006,[5000006], .box (.own 2000007)),(2000007,[5000006,0], .sl (.int .i64))],[]⟩ [] (fun v=>z0y N self v.1.1 v.2.1 v.2.2.2.1 v.2.2.2.2.1 v.2.2.2.2.2.2.2.2.1) (by kernel_rfl)
def zqo:SM PG:=yq1 (f:=135) z10 (fun _ _ _ _ _=>none) (z0y N) (yhs fun _=>rfl) (fun self hs=>(zrh N self hs).h) N
def z5q:SE PG:=E0 [] [25] [] [zqo N]
def zai:SL PG Tryz.f79.ntmps (Y0 Tryz.f79):=lz N (z5q N) [] 506 ⟨[8,9,17,18,19],(.cons (.ptr 2000000 0) (.cons (.ptr 2000001 0) (.cons (.list (.int .i64)) zpb))),[(2000000,[8], .box .bool),(2000001,[9], .box (.clo 135 (.cons (.ptr 2000002 0) (.cons (.ptr 2000003 0) (.cons (.ptr 2000000 0) (.cons (.ptr 2000001 0) (.ptr 2000005 0))))))),(2000002,[9,0,0], .box (.list Y8)),(2000003,[9,0,1], .box (.own 2000004)),(2000004,[9,0,1,0], .sl (.int .i64)),(2000005,[9,0,4], .box (.clo 80 (.ptr 5000000 0))),(5000000,[5000000], .box (.own 2000007)),(2000007,[5000000,0], .sl (.int .i64))],[]⟩ (2,⟨[8],(.ptr 2000000 0),[(2000000,[8], .box .bool),(5000000,[5000000], .box (.own 2000002)),(2000002,[5000000,0], .sl (.int .i64))],[]⟩) [] (U8 N N) (U5 N) (fun f v=>f v.1.2.2.1 v.1.2.2.2.1 v.1.2.2.2.2 v.2.1 v.2.2.2.1 v.2.2.2.2.2.1 v.2.2.2.2.2.2.2.2.1) (fun r b0 b1 b2 b3 b4 b5 b6=>r (((),((),(b0,(b1,b2)))),(b3,(((),((),((),((),())))),(b4,((),(b5,((),((),(b6,())))))))))) rfl (fun _=>rfl) (fun _ _=>rfl) (by kernel_rfl)
def zc2:SM PG:=mz (z5q N) Tryz.func79 [zai N] ⟨[0,1,2],(.cons (.val (.list Y8)) (.cons (.list (.int .i64)) (.clo 80 (.ptr 5000000 0)))),[(5000000,[2,0], .box (.own 5000001)),(5000001,[2,0,0], .sl (.int .i64))],[]⟩ ⟨[0], .bool,[(5000000,[5000000], .box (.own 2000001)),(2000001,[5000000,0], .sl (.int .i64))],[]⟩ [] (fun v=>pool_visit_m__pool_Reach_c1 N v.1.1 v.1.2.1 v.2.2.1) (by kernel_rfl)
def lay_slices_Sort_s_int_int_m_ren:Go.Shelf.Ren:=⟨fun | 189=>81 | 125=>138 | 257=>137 | 128=>200 | 129=>201 | 294=>191 | 295=>192 | 296=>193 | 297=>194 | 298=>195 | 299=>196 | 216=>197 | 300=>198 | 301=>199 | 328=>244 | 329=>245 | 330=>246 | 331=>247 | 332=>248 | 215=>249 | 343=>289 | n=>n,fun | 28=>27 | 3=>3 | 46=>240 | 0=>0 | 51=>310 | 53=>103 | 4=>4 | 183=>304 | 182=>303 | 131=>117 | 5=>5 | 9=>9 | 218=>347 | 222=>351 | 228=>404 | 229=>366 | n=>n,fun n=>n⟩
theorem zfa:Go.Proofs.Lays.n189 PG lay_slices_Sort_s_int_int_m_ren:={
 mixed:=by kernel_rfl
 f125:=Tryz.func138.trans (congrArg some (by kernel_rfl))
 f128:=Tryz.func200.trans (congrArg some (by kernel_rfl))
 f129:=Tryz.func201.trans (congrArg some (by kernel_rfl))
 f189:=Tryz.func81.trans (congrArg some (by kernel_rfl))
 f215:=Tryz.func249.trans (congrArg some (by kernel_rfl))
 f216:=Tryz.func197.trans (congrArg some (by kernel_rfl))
 f257:=Tryz.func137.trans (congrArg some (by kernel_rfl))
 f294:=Tryz.func191.trans (congrArg some (by kernel_rfl))
 f295:=Tryz.func192.trans (congrArg some (by kernel_rfl))
 f296:=Tryz.func193.trans (congrArg some (by kernel_rfl))
 f297:=Tryz.func194.trans (congrArg some (by kernel_rfl))
 f298:=Tryz.func195.trans (congrArg some (by kernel_rfl))
 f299:=Tryz.func196.trans (congrArg some (by kernel_rfl))
 f300:=Tryz.func198.trans (congrArg some (by kernel_rfl))
 f301:=Tryz.func199.trans (congrArg some (by kernel_rfl))
 f328:=Tryz.func244.trans (congrArg some (by kernel_rfl))
 f329:=Tryz.func245.trans (congrArg some (by kernel_rfl))
 f330:=Tryz.func246.trans (congrArg some (by kernel_rfl))
 f331:=Tryz.func247.trans (congrArg some (by kernel_rfl))
 f332:=Tryz.func248.trans (congrArg some (by kernel_rfl))
 f343:=Tryz.func289.trans (congrArg some (by kernel_rfl))
 t0:=Tryz.underlying0
 a0:=Tryz.isAgg0
 z0:=Tryz.sizeOf0
 v0:=Tryz.zeroValue0
 t3:=Tryz.underlying3
 a3:=Tryz.isAgg3
 z3:=Tryz.sizeOf3
 v3:=Tryz.zeroValue3
 t4:=Tryz.underlying4
 a4:=Tryz.isAgg4
 z4:=Tryz.sizeOf4
 v4:=Tryz.zeroValue4
 t5:=Tryz.underlying5
 a5:=Tryz.isAgg5
 z5:=Tryz.sizeOf5
 v5:=Tryz.zeroValue5
 t9:=Tryz.underlying9
 a9:=Tryz.isAgg9
 z9:=Tryz.sizeOf9
 v9:=Tryz.zeroValue9
 t28:=Tryz.underlying27
 a28:=Tryz.isAgg27
 z28:=Tryz.sizeOf27
 v28:=Tryz.zeroValue27
 t46:=Tryz.underlying240
 a46:=Tryz.isAgg240
 z46:=Tryz.sizeOf240
 v46:=Tryz.zeroValue240
 t51:=Tryz.underlying310
 a51:=Tryz.isAgg310
 z51:=Tryz.sizeOf310
 v51:=Tryz.zeroValue310
 t53:=Tryz.underlying103
 a53:=Tryz.isAgg103
 z53:=Tryz.sizeOf103
 v53:=Tryz.zeroValue103
 t131:=Tryz.underlying117
 a131:=Tryz.isAgg117
 z131:=Tryz.sizeOf117
 v131:=Tryz.zeroValue117
 t182:=Tryz.underlying303
 a182:=Tryz.isAgg303
 z182:=Tryz.sizeOf303
 v182:=Tryz.zeroValue303
 t183:=Tryz.underlying304
 a183:=Tryz.isAgg304
 z183:=Tryz.sizeOf304
 v183:=Tryz.zeroValue304
 t218:=Tryz.underlying347
 a218:=Tryz.isAgg347
 z218:=Tryz.sizeOf347
 v218:=Tryz.zeroValue347
 t222:=Tryz.underlying351
 a222:=Tryz.isAgg351
 z222:=Tryz.sizeOf351
 v222:=Tryz.zeroValue351
 t228:=Tryz.underlying404
 a228:=Tryz.isAgg404
 z228:=Tryz.sizeOf404
 v228:=Tryz.zeroValue404
 t229:=Tryz.underlying366
 a229:=Tryz.isAgg366
 z229:=Tryz.sizeOf366
 v229:=Tryz.zeroValue366
 }
def zhp:Code:=match Tryz.f81.body with | some c=>c | none=> .skip
def z7b(N:Nat):CtrM:=ctrM sortIn sortOut [] (fun v=>z16 N v.2.1)
theorem zc7(N:Nat):zbw PG 81 (z7b N):=by
 have e1:lay_slices_Sort_s_int_int_m_ren.f 189=81:=by kernel_rfl
 have h:=yd9 zfa (fn:=Tryz.f81) (c:=zhp) (by rw[e1];exact Tryz.func81) (by kernel_rfl) (by kernel_rfl)
 rw[e1]at h
 exact h
def zg0:SM PG:=⟨81,z7b N,zc7 N⟩
def y5d:SC PG:=fz (E0 [] [9,11] [] [zc2 N,zg0 N]) Tryz.func38 [] (.cons (.val (.list Y8)) (.list (.int .i64))) (.fresh (.int .i64)) [] (fun v=>zan N v.1 v.2) (by kernel_rfl)
def zpd:SC PG:=fz (E0 [] [] []) Tryz.func39 [] (.cons (.val X1) (.int .i64)) (.tup (.cons (.int .i64) .bool)) [] (fun v=>zcb N v.1 v.2) (by kernel_rfl)
def zjf:SE PG:=E0 [(K7,[2000002,2000003])] [] [y5d N,zpd N]
def zsc:SL PG Tryz.f16.ntmps (Y0 Tryz.f16):=lz N (zjf N) [] 250 ⟨[2,4,8,32,33,34],(.cons (.ptr 2000000 0) (.cons (.ptr 2000001 0) (.cons (.ptr 2000002 0) (.cons (.own 2000005) zpb)))),[(2000000,[2], .boxV X1),(2000001,[4], .boxC [.nils, .nils, .int .i64 0]),(2000002,[8], .box (.cons (.own 2000003) yee)),(2000003,[8,0], .sl (.int .i64)),(2000004,[8,1], .sl (.int .i64)),(2000005,[32], .sl (.int .i64))],[]⟩ (4,⟨[4,8],Sh2_,[(2000000,[4], .boxC [.nils, .nils, .int .i64 0]),(2000001,[8], .box yiu),(2000002,[8,0], .sl (.int .i64)),(2000003,[8,1], .sl (.int .i64))],[]⟩) [] (z7l N N) (z1g N) (fun f v=>f v.1.2.2.2.2.1 v.1.2.2.2.2.2 v.2.1 v.2.2.2.1.2.2 v.2.2.2.2.1 v.2.2.2.2.2.1 v.2.2.2.2.2.2.1) (fun r b0 b1 b2 b3 b4 b5 b6=>r (((),((),((),((),(b0,b1))))),(b2,((),(((),((),b3)),(b4,(b5,(b6,())))))))) rfl (fun _=>rfl) (fun _ _=>rfl) (by kernel_rfl)
def zsd:SL PG Tryz.f16.ntmps (Y0 Tryz.f16):=lz N (zjf N) [] 58 ⟨[2,3,4,5,17,18,19],(.cons (.ptr 2000000 0) (.cons (.ptr 2000001 0) (.cons (.ptr 2000002 0) (.cons (.own 2000003) (.cons (.list z68) zpb))))),[(2000000,[2], .boxV X1),(2000001,[3], .boxV Y1),(2000002,[4], .boxC [.nils, .nils, .int .i64 0]),(2000003,[5], .sl (.int .i64))],[]⟩ (2,⟨[2,3,4,5],(.cons (.ptr 2000000 0) (.cons (.ptr 2000001 0) (.cons (.ptr 2000002 0) (.own 2000003)))),[(2000000,[2], .boxV X1),(2000001,[3], .boxV Y1),(2000002,[4], .boxC [.nils, .nils, .int .i64 0]),(2000003,[5], .sl (.int .i64))],[]⟩) [] (z7m N N) (z1h N) (fun f v=>f v.1.2.2.2.2.1 v.1.2.2.2.2.2.1 v.1.2.2.2.2.2.2 v.2.1 v.2.2.1 v.2.2.2.2.1) (fun r b0 b1 b2 b3 b4 b5=>r (((),((),((),((),(b0,(b1,b2)))))),(b3,(b4,((),(b5,())))))) rfl (fun _=>rfl) (fun _ _=>rfl) (by kernel_rfl)
def zmo:SC PG:=fz (zjf N) Tryz.func16 [zsd N,zsc N] (.cons (.val X1) (.val Y1)) (.val G9) [] (fun v=>zaq N v.1 v.2) (by kernel_rfl)
def zpe:SC PG:=fz (E0 [] [] []) Tryz.func19 [] (.val G9) .bool [] (fun v=>zhb N v) (by kernel_rfl)
def clone82_ren:Go.Shelf.Ren:=⟨fun | 41=>82 | n=>n,fun | 22=>27 | 23=>3 | n=>n,fun n=>n⟩
theorem ynl:CloneL PG clone82_ren:={
 mixed:=by kernel_rfl
 f41:=⟨Tryz.f82.name,by decide,Tryz.func82.trans (congrArg some (by kernel_rfl))⟩
 t4:=Tryz.underlying4
 a4:=Tryz.isAgg4
 z4:=Tryz.sizeOf4
 v4:=Tryz.zeroValue4
 t22:=Tryz.underlying27
 a22:=Tryz.isAgg27
 z22:=Tryz.sizeOf27
 v22:=Tryz.zeroValue27
 }
def zic:Code:=match Tryz.f82.body with | some c=>c | none=> .skip
def z7h(N:Nat):Ctr:=zm4 (.list (.int .i64)) (.fresh (.int .i64)) [] (fun v=>z5r N v)
def ti_slices_Clone_s_int_int:TI:=match yds tyRows 3 with | some t=>t | none=>⟨.other,0,0,[],none⟩
theorem zdl(N:Nat):z60 PG 82 (fun vs=>(z7h N).run vs some):=by
 have e1:clone82_ren.f 41=82:=by kernel_rfl
 have e2:clone82_ren.t 23=3:=by kernel_rfl
 have h:=yad ynl (ei:=ti_slices_Clone_s_int_int) (ty:=(.int .i64)) (fn:=Tryz.f82) (c:=zic) (by rw[e2];exact y40 y5w 3 _ (by kernel_rfl)) (by kernel_rfl) (by rw[e1];exact Tryz.func82) (by kernel_rfl) (by kernel_rfl)
 rw[e1,show ti_slices_Clone_s_int_int.bytes=8 by kernel_rfl]at h
 exact h
def zhc:SC PG:=⟨82,z7h N,zdl N⟩
def y9y:SC PG:=fz (E0 [] [] []) Tryz.func43 [] (.cons (.val Q3) (.int .i64)) .bool [] (fun v=>y42 N v.1 v.2) (by kernel_rfl)
def z6g:SC PG:=fz (E0 [(K7,[1])] [] []) Tryz.func156 [] (.list J4) (.clo 229 (.bx (.list J4) 0)) [] (fun v=>J7 N v) (by kernel_rfl)
def zqn:SR PG:=rz (E0 [] [] []) 1 ([]:List (SL PG Tryz.f97.ntmps (Y0 Tryz.f97))) ([]:List (SL PG Tryz.f97.ntmps (Y0 Tryz.f97))) 116 117 ⟨[15,16,3,4,5],(.cons (.int .i64) (.cons (.agg (.cons .bool (.cons (.int .i64) (.list (.int .u8))))) (.cons (.ptr 5000000 0) (.cons (.ptr 5000001 0) (.ptr 5000003 0))))),[(5000000,[3], .box (.int .i64)),(5000001,[4], .box (.own 5000002)),(5000002,[4,0], .sl (.int .u8)),(5000003,[5], .box (.int .i64))],[]⟩ (1,⟨[], .nil,[(5000000,[5000000], .box (.int .i64)),(5000001,[5000001], .box (.list (.int .u8))),(5000002,[5000002], .sl (.int .u8)),(5000003,[5000003], .boxC [.int .i64 0])],[]⟩) [(0,⟨[], .nil,[(5000000,[5000000], .box (.int .i64)),(5000001,[5000001], .box (.own 5000002)),(5000002,[5000002], .sl (.int .u8)),(5000003,[5000003], .box (.int .i64))],[]⟩)] (fun v=>zm3 N v.1.1 v.1.2.1.1 v.1.2.1.2.1 v.1.2.1.2.2 v.2.1 v.2.2.2.1 v.2.2.2.2.1) (by kernel_rfl)
def G8:SE PG:=E0 [] [17] [] [] [zqn N]
def z32:SL PG Tryz.f229.ntmps (Y0 Tryz.f229):=lz N (G8 N) [] 6 ⟨[0,1,3],(.cons (.yld 5000000) (.cons (.bx (.list J4) 0) (.int .i64))),[(5000000,[5000000], .rng 1 y9l 0),(5000001,[5000001], .box (.int .i64)),(5000002,[5000002], .box (.own 5000003)),(5000003,[5000003], .sl (.int .u8)),(5000004,[5000004], .box (.int .i64))],[]⟩ (1,⟨[], .nil,[(5000000,[5000000], .rng 1 y9l 1),(5000001,[5000001], .box (.int .i64)),(5000002,[5000002], .box (.list (.int .u8))),(5000004,[5000004], .boxC [.int .i64 0]),(5000003,[5000003], .sl (.int .u8))],[]⟩) [(2,⟨[], .nil,[(5000000,[5000000], .rng 1 y9l 0),(5000001,[5000001], .box (.int .i64)),(5000002,[5000002], .box (.own 5000003)),(5000003,[5000003], .sl (.int .u8)),(5000004,[5000004], .box (.int .i64))],[]⟩)] (X6 N N) (V5 N) (fun f v=>f v.1.2.1 v.1.2.2 v.2.2.1 v.2.2.2.2.1 v.2.2.2.2.2.1) (fun r b0 b1 b2 b3 b4=>r (((),(b0,b1)),(((),((),())),(b2,((),(b3,(b4,()))))))) rfl (fun _=>rfl) (fun _ _=>rfl) (by kernel_rfl)
def z4d:SM PG:=mz (G8 N) Tryz.func229 [z32 N] ⟨[0,1],(.cons (.yld 5000000) (.bx (.list J4) 0)),[(5000000,[0], .rng 1 y9l 0),(5000001,[0,0], .box (.int .i64)),(5000002,[0,1], .box (.own 5000003)),(5000003,[0,1,0], .sl (.int .u8)),(5000004,[0,2], .box (.int .i64))],[]⟩ ⟨[0],(.tup .nil),[(5000000,[5000000], .rng 1 y9l 1),(5000001,[5000001], .box (.int .i64)),(5000002,[5000002], .box (.list (.int .u8))),(5000004,[5000004], .boxC [.int .i64 0]),(5000003,[5000003], .sl (.int .u8))],[]⟩ [⟨[0],(.tup .nil),[(5000000,[5000000], .rng 1 y9l 0),(5000001,[5000001], .box (.int .i64)),(5000002,[5000002], .box (.own 5000003)),(5000003,[5000003], .sl (.int .u8)),(5000004,[5000004], .box (.int .i64))],[]⟩] (fun v=>U4 N v.1.2 v.2.2.1 v.2.2.2.2.1 v.2.2.2.2.2.1) (by kernel_rfl)
def y2n:SE PG:=E0 [] [] [y9y N,z6g N] [z4d N]
def y0h:SL PG Tryz.f97.ntmps (Y0 Tryz.f97):=gz (y2n N) 1 58 (.tmp 14) ⟨[2,3,4,5,14],(.cons (.ptr 2000000 0) (.cons (.ptr 2000001 0) (.cons (.ptr 2000002 0) (.cons (.ptr 2000003 0) (.clo 229 (.bx (.list J4) 0)))))),[(2000000,[2], .boxV Q3),(2000001,[3], .box (.int .i64)),(2000002,[4], .boxC [.nils]),(2000003,[5], .boxC [.int .i64 0])],[]⟩ (1,⟨[4,5],Sh2_,[(2000000,[4], .box (.list (.int .u8))),(2000001,[5], .boxC [.int .i64 0])],[]⟩) [(0,⟨[2,3,4,5],(.cons (.ptr 2000000 0) (.cons (.ptr 2000001 0) (.cons (.ptr 2000002 0) (.ptr 2000004 0)))),[(2000000,[2], .boxV Q3),(2000001,[3], .box (.int .i64)),(2000002,[4], .box (.own 2000003)),(2000003,[4,0], .sl (.int .u8)),(2000004,[5], .box (.int .i64))],[]⟩)] (fun v=>znz N v.1.2.2.2.2 v.2.1 v.2.2.1) (by kernel_rfl)
def y9z:SC PG:=fz (y2n N) Tryz.func97 [y0h N] (.cons (.val Q3) (.int .i64)) (.tup (.cons (.list (.int .u8)) (.int .i64))) [] (fun v=>zvd N v.1 v.2) (by kernel_rfl)
def zut:SE PG:=E0 [] [] []
def zwm:SL PG Tryz.f99.ntmps (Y0 Tryz.f99):=lz N (zut) [] 58 ⟨[3,6,7,8],(.cons (.int .u64) (.cons (.list (.int .u8)) zpb)),[],[]⟩ (2,⟨[3],(.int .u64),[],[]⟩) [] (za5 N N) (z3n N) (fun f v=>f v.1.1 v.1.2.1 v.1.2.2.1 v.1.2.2.2) (fun r b0 b1 b2 b3=>r ((b0,(b1,(b2,b3))),())) rfl (fun _=>rfl) (fun _ _=>rfl) (by kernel_rfl)
def y5e:SC PG:=fz (zut) Tryz.func99 [zwm N] (.list (.int .u8)) (.int .u64) [] (fun v=>zlv N v) (by kernel_rfl)
def zrg:SC PG:=fz (E0 [] [] [y9z N,y5e N]) Tryz.func84 [] (.cons (.bx (.cons (.list (.int .i64)) (.cons (.list (.int .i64)) (.cons (.int .i64) (.cons (.int .i64) (.cons (.list (.list (.int .u8))) (.cons (.list J4) (.cons (.list .bool) (.cons (.list (.int .i64)) (.cons (.int .i64) (.cons (.int .i64) (.cons (.int .i64) (.cons (.int .i64) (.cons (.list (.int .i64)) (.cons (.list (.int .u64)) (.list (.int .i64)))))))))))))))) 0) (.cons (.int .i64) (.int .i64))) .bool [] (fun v=>zaa N v.1.1 v.1.2.1 v.1.2.2.1 v.1.2.2.2.1 v.1.2.2.2.2.1 v.1.2.2.2.2.2.1 v.1.2.2.2.2.2.2.1 v.1.2.2.2.2.2.2.2.1 v.1.2.2.2.2.2.2.2.2.1 v.1.2.2.2.2.2.2.2.2.2.1 v.1.2.2.2.2.2.2.2.2.2.2.1 v.1.2.2.2.2.2.2.2.2.2.2.2.1 v.1.2.2.2.2.2.2.2.2.2.2.2.2.1 v.1.2.2.2.2.2.2.2.2.2.2.2.2.2.1 v.1.2.2.2.2.2.2.2.2.2.2.2.2.2.2 v.2.1 v.2.2) (by kernel_rfl)
def zm9:SM PG:=mz (E0 [] [] []) Tryz.func83 [] ⟨[0],(.ptr 5000000 0),[(5000000,[0], .box (.cons (.list (.int .i64)) (.cons (.own 5000001) Sh0_))),(5000001,[0,1], .sl (.int .i64))],[]⟩ ⟨[0],(.clo 139 (.ptr 2000000 0)),[(2000000,[0,0], .box (.ptr 5000000 0)),(5000000,[5000000], .box (.cons (.list (.int .i64)) (.cons (.own 5000001) Sh0_))),(5000001,[5000001], .sl (.int .i64))],[]⟩ [] (fun v=>zag N v.2.1.1 v.2.1.2.2.1 v.2.1.2.2.2.1 v.2.1.2.2.2.2.1 v.2.1.2.2.2.2.2.1 v.2.1.2.2.2.2.2.2.1 v.2.1.2.2.2.2.2.2.2.1 v.2.1.2.2.2.2.2.2.2.2.1 v.2.1.2.2.2.2.2.2.2.2.2.1 v.2.1.2.2.2.2.2.2.2.2.2.2.1 v.2.1.2.2.2.2.2.2.2.2.2.2.2.1 v.2.1.2.2.2.2.2.2.2.2.2.2.2.2.1 v.2.1.2.2.2.2.2.2.2.2.2.2.2.2.2.1 v.2.1.2.2.2.2.2.2.2.2.2.2.2.2.2.2 v.2.2.1) (by kernel_rfl)
def zmg:SR PG:=rz (E0 [] [] [zrg N]) 0 ([]:List (SL PG Tryz.f40.ntmps (Y0 Tryz.f40))) ([]:List (SL PG Tryz.f40.ntmps (Y0 Tryz.f40))) 500 501 ⟨[27,28,5,8],(.cons (.int .i64) (.cons (.int .i64) (.cons (.ptr 5000000 0) (.ptr 5000001 0)))),[(5000000,[5], .box (.int .i64)),(5000001,[8], .box (.ptr 5000002 0)),(5000002,[8,0], .box (.cons (.list (.int .i64)) (.cons (.own 5000003) Sh0_))),(5000003,[8,0,1], .sl (.int .i64))],[]⟩ (2,⟨[], .nil,[(5000000,[5000000], .box (.int .i64)),(5000001,[5000001], .box (.ptr 5000002 0)),(5000002,[5000002], .box yis),(2000003,[5000002,1], .sl (.int .i64))],[]⟩) [(0,⟨[], .nil,[(5000000,[5000000], .box (.int .i64)),(5000001,[5000001], .box (.ptr 5000002 0)),(5000002,[5000002], .box yis),(2000003,[5000002,1], .sl (.int .i64))],[]⟩)] (fun v=>z7d N v.1.1 v.1.2.1 v.2.1 v.2.2.2.1.1 v.2.2.2.1.2.2.1 v.2.2.2.1.2.2.2.1 v.2.2.2.1.2.2.2.2.1 v.2.2.2.1.2.2.2.2.2.1 v.2.2.2.1.2.2.2.2.2.2.1 v.2.2.2.1.2.2.2.2.2.2.2.1 v.2.2.2.1.2.2.2.2.2.2.2.2.1 v.2.2.2.1.2.2.2.2.2.2.2.2.2.1 v.2.2.2.1.2.2.2.2.2.2.2.2.2.2.1 v.2.2.2.1.2.2.2.2.2.2.2.2.2.2.2.1 v.2.2.2.1.2.2.2.2.2.2.2.2.2.2.2.2.1 v.2.2.2.1.2.2.2.2.2.2.2.2.2.2.2.2.2.1 v.2.2.2.1.2.2.2.2.2.2.2.2.2.2.2.2.2.2 v.2.2.2.2.1) (by kernel_rfl)
def z8w:SE PG:=E0 [] [34] [zpd N] [] [zmg N]
def zc8:SL PG Tryz.f139.ntmps (Y0 Tryz.f139):=lz N (z8w N) [] 2 ⟨[0,1],(.cons (.yld 5000000) (.ptr 5000005 0)),[(5000005,[5000005], .box (.ptr 5000003 0)),(5000003,[5000003], .box (.cons (.list (.int .i64)) (.cons (.own 2000002) Sh0_))),(2000002,[5000003,1], .sl (.int .i64)),(5000000,[5000000], .rng 0 y9k 0),(5000001,[5000001], .box (.int .i64)),(5000002,[5000002], .box (.ptr 5000003 0))],[]⟩ (1,⟨[], .nil,[(5000000,[5000000], .rng 0 y9k 2),(5000001,[5000001], .box (.int .i64)),(5000002,[5000002], .box (.ptr 5000003 0)),(5000003,[5000003], .box yef),(2000004,[5000003,1], .sl (.int .i64)),(5000005,[5000005], .box (.ptr 5000003 0))],[]⟩) [(2,⟨[], .nil,[(5000000,[5000000], .rng 0 y9k 0),(5000001,[5000001], .box (.int .i64)),(5000002,[5000002], .box (.ptr 5000003 0)),(5000003,[5000003], .box yef),(2000004,[5000003,1], .sl (.int .i64)),(5000005,[5000005], .box (.ptr 5000003 0))],[]⟩)] (Q8 N N) (Q4 N) (fun f v=>f v.2.2.1.1 v.2.2.1.2.2.1 v.2.2.1.2.2.2.1 v.2.2.1.2.2.2.2.1 v.2.2.1.2.2.2.2.2.1 v.2.2.1.2.2.2.2.2.2.1 v.2.2.1.2.2.2.2.2.2.2.1 v.2.2.1.2.2.2.2.2.2.2.2.1 v.2.2.1.2.2.2.2.2.2.2.2.2.1 v.2.2.1.2.2.2.2.2.2.2.2.2.2.1 v.2.2.1.2.2.2.2.2.2.2.2.2.2.2.1 v.2.2.1.2.2.2.2.2.2.2.2.2.2.2.2.1 v.2.2.1.2.2.2.2.2.2.2.2.2.2.2.2.2.1 v.2.2.1.2.2.2.2.2.2.2.2.2.2.2.2.2.2 v.2.2.2.1 v.2.2.2.2.2.1) (fun r b0 b1 b2 b3 b4 b5 b6 b7 b8 b9 b10 b11 b12 b13 b14 b15=>r (((),()),((),((b0,((),(b1,(b2,(b3,(b4,(b5,(b6,(b7,(b8,(b9,(b10,(b11,(b12,b13)))))))))))))),(b14,(((),()),(b15,((),())))))))) rfl (fun _=>rfl) (fun _ _=>rfl) (by kernel_rfl)
def zg1:SM PG:=mz (z8w N) Tryz.func139 [zc8 N] ⟨[0,1],(.cons (.yld 5000000) (.ptr 5000005 0)),[(5000000,[0], .rng 0 y9k 0),(5000001,[0,0], .box (.int .i64)),(5000002,[0,1], .box (.ptr 5000003 0)),(5000003,[0,1,0], .box (.cons (.list (.int .i64)) (.cons (.own 5000004) Sh0_))),(5000004,[0,1,0,1], .sl (.int .i64)),(5000005,[1], .box (.ptr 5000003 0))],[]⟩ ⟨[0],(.tup .nil),[(5000000,[5000000], .rng 0 y9k 2),(5000001,[5000001], .box (.int .i64)),(5000002,[5000002], .box (.ptr 5000003 0)),(5000003,[5000003], .box yef),(2000004,[5000003,1], .sl (.int .i64)),(5000005,[5000005], .box (.ptr 5000003 0))],[]⟩ [⟨[0],(.tup .nil),[(5000000,[5000000], .rng 0 y9k 0),(5000001,[5000001], .box (.int .i64)),(5000002,[5000002], .box (.ptr 5000003 0)),(5000003,[5000003], .box yef),(2000004,[5000003,1], .sl (.int .i64)),(5000005,[5000005], .box (.ptr 5000003 0))],[]⟩] (fun v=>z59 N v.2.2.1 v.2.2.2.2.1.1 v.2.2.2.2.1.2.2.1 v.2.2.2.2.1.2.2.2.1 v.2.2.2.2.1.2.2.2.2.1 v.2.2.2.2.1.2.2.2.2.2.1 v.2.2.2.2.1.2.2.2.2.2.2.1 v.2.2.2.2.1.2.2.2.2.2.2.2.1 v.2.2.2.2.1.2.2.2.2.2.2.2.2.1 v.2.2.2.2.1.2.2.2.2.2.2.2.2.2.1 v.2.2.2.2.1.2.2.2.2.2.2.2.2.2.2.1 v.2.2.2.2.1.2.2.2.2.2.2.2.2.2.2.2.1 v.2.2.2.2.1.2.2.2.2.2.2.2.2.2.2.2.2.1 v.2.2.2.2.1.2.2.2.2.2.2.2.2.2.2.2.2.2.1 v.2.2.2.2.1.2.2.2.2.2.2.2.2.2.2.2.2.2.2 v.2.2.2.2.2.1) (by kernel_rfl)
def zuc:SE PG:=E0 [(K7,[2000003])] [26] [zhc N] [zm9 N,zg1 N]
def zvq:SL PG Tryz.f40.ntmps (Y0 Tryz.f40):=gz (zuc N) 0 250 (.tmp 26) ⟨[5,6,8,26],(.cons (.ptr 2000000 0) (.cons (.ptr 2000001 0) (.cons (.ptr 2000002 0) (.clo 139 (.ptr 2000005 0))))),[(2000000,[5], .box (.int .i64)),(2000001,[6], .boxC [.nils, .nils, .int .i64 0]),(2000002,[8], .box (.ptr 2000003 0)),(2000003,[8,0], .box yef),(2000004,[8,0,1], .sl (.int .i64)),(2000005,[26,0], .box (.ptr 2000003 0))],[]⟩ (2,⟨[6,8],Sh2_,[(2000000,[6], .boxC [.nils, .nils, .int .i64 0]),(2000001,[8], .box (.ptr 2000002 0)),(2000002,[8,0], .box yis),(2000003,[8,0,1], .sl (.int .i64))],[]⟩) [(0,⟨[6,8],Sh2_,[(2000000,[6], .boxC [.nils, .nils, .int .i64 0]),(2000001,[8], .box (.ptr 2000002 0)),(2000002,[8,0], .box yis),(2000003,[8,0,1], .sl (.int .i64))],[]⟩)] (fun v=>zj5 N v.2.1 v.2.2.2.2.1.1 v.2.2.2.2.1.2.2.1 v.2.2.2.2.1.2.2.2.1 v.2.2.2.2.1.2.2.2.2.1 v.2.2.2.2.1.2.2.2.2.2.1 v.2.2.2.2.1.2.2.2.2.2.2.1 v.2.2.2.2.1.2.2.2.2.2.2.2.1 v.2.2.2.2.1.2.2.2.2.2.2.2.2.1 v.2.2.2.2.1.2.2.2.2.2.2.2.2.2.1 v.2.2.2.2.1.2.2.2.2.2.2.2.2.2.2.1 v.2.2.2.2.1.2.2.2.2.2.2.2.2.2.2.2.1 v.2.2.2.2.1.2.2.2.2.2.2.2.2.2.2.2.2.1 v.2.2.2.2.1.2.2.2.2.2.2.2.2.2.2.2.2.2.1 v.2.2.2.2.1.2.2.2.2.2.2.2.2.2.2.2.2.2.2 v.2.2.2.2.2.1) (by kernel_rfl)
def y4g:SC PG:=fz (zuc N) Tryz.func40 [zvq N] (.cons (.val G9) (.cons (.val X1) (.int .i64))) (.tup (.cons (.val G9) (.int .i64))) [] (fun v=>zrm N v.1 v.2.1 v.2.2) (by kernel_rfl)
def zpn:SC PG:=fz (E0 [] [] [y4g N]) Tryz.func17 [] (.cons (.val G9) (.cons (.val X1) (.int .i64))) (.val zfz) [] (fun v=>z2n N v.1 v.2.1 v.2.2) (by kernel_rfl)
def zue:SE PG:=E0 [(K7,[2000002])] [] [zab N]
def zvw:SL PG Tryz.f33.ntmps (Y0 Tryz.f33):=lz N (zue N) [] 58 ⟨[1,2,3,4],Sh4_,[(2000000,[1], .boxV Q3),(2000001,[2], .boxC [.int .i64 0, .nils, .nils]),(2000002,[3], .box (.cons (.int .i64) (.cons (.own 2000003) (.own 2000004)))),(2000003,[3,1], .sl (.list (.int .u8))),(2000004,[3,2], .sl J4)],[]⟩ (2,⟨[2,3],Sh2_,[(2000000,[2], .boxC [.int .i64 0, .nils, .nils]),(2000001,[3], .box (.cons (.int .i64) (.cons (.own 2000002) (.own 2000003)))),(2000002,[3,1], .sl (.list (.int .u8))),(2000003,[3,2], .sl J4)],[]⟩) [] (z9p N N) (z35 N) (fun f v=>f v.1.2.2.2 v.2.1 v.2.2.2.1.1 v.2.2.2.2.1 v.2.2.2.2.2.1) (fun r b0 b1 b2 b3 b4=>r (((),((),((),b0))),(b1,((),((b2,((),())),(b3,(b4,()))))))) rfl (fun _=>rfl) (fun _ _=>rfl) (by kernel_rfl)
def zpj:SC PG:=fz (zue N) Tryz.func33 [zvw N] (.val Q3) (.val Q3) [] (fun v=>zcm N v) (by kernel_rfl)
def zpg:SC PG:=fz (E0 [] [] []) Tryz.func21 [] (.cons (.val X1) (.int .i64)) (.int .i64) [] (fun v=>zcf N v.1 v.2) (by kernel_rfl)
def y7l:SC PG:=fz (E0 [(K7,[42,30,30,4126])] [] [zj6 N,zab N]) Tryz.func37 [] (.cons (.val Q3) (.val zux)) (.tup (.cons (.val Q3) (.int .i64))) [] (fun v=>zou N v.1 v.2) (by kernel_rfl)
def zl7:SC PG:=fz (E0 [] [] [zpg N,ztw N,y7l N]) Tryz.func14 [] (.cons (.val X1) (.cons (.list (.int .i64)) (.val zj3))) (.tup (.cons (.val X1) (.int .i64))) [] (fun v=>z2q N v.1 v.2.1 v.2.2) (by kernel_rfl)
def zul:SE PG:=E0 [] [] []
def zw9:SL PG Tryz.f23.ntmps (Y0 Tryz.f23):=lz N (zul) [] 58 ⟨[0,1,5],(.cons (.list (.int .i64)) (.cons (.list (.int .i64)) (.int .i64))),[],[]⟩ (1,⟨[4], .bool,[],[]⟩) [(2,⟨[], .nil,[],[]⟩)] (z9x N N) (z3e N) (fun f v=>f v.1.1 v.1.2.1 v.1.2.2) (fun r b0 b1 b2=>r ((b0,(b1,b2)),())) rfl (fun _=>rfl) (fun _ _=>rfl) (by kernel_rfl)
def zpl:SC PG:=fz (zul) Tryz.func23 [zw9 N] (.cons (.list (.int .i64)) (.list (.int .i64))) .bool [] (fun v=>zcw N v.1 v.2) (by kernel_rfl)
def zpf:SC PG:=fz (E0 [] [] [zpl N]) Tryz.func15 [] (.cons (.val G9) (.val G9)) .bool [] (fun v=>zce N v.1 v.2) (by kernel_rfl)
def zgv:SE PG:=E0 [] [] [zwv N,zmo N,zpe N,zpn N,zpj N,zl7 N,zpl N,zpf N]
def zre:SL PG Tryz.f11.ntmps (Y0 Tryz.f11):=pz (zgv N) [] 4095 ⟨[0], .bool,[],[]⟩ (1,⟨[0], .bool,[],[]⟩) [] (fun v=>z8 N v.1) (by kernel_rfl)
def zrf:SL PG Tryz.f11.ntmps (Y0 Tryz.f11):=pz (zgv N) [zre N] 31 ⟨[1,2],Sh2_,[(2000000,[1], .boxV zbh),(2000001,[2], .boxV G9)],[]⟩ (1,⟨[0], .bool,[],[]⟩) [] (fun v=>zly N v.2.1 v.2.2.1) (by kernel_rfl)
def y06:SC PG:=fz (zgv N) Tryz.func11 [zrf N] .nil .bool [] (fun _=>zbu N) (by kernel_rfl)
def y0o:SC PG:=fz (E0 [] [] []) Tryz.func76 [] (.int .u8) (.val z31) [] (fun v=>zie N v) (by kernel_rfl)
def zpm:SC PG:=fz (E0 [] [] []) Tryz.func147 [] (.int .u8) .str [] (fun v=>zam N v) (by kernel_rfl)
def y7p:SC PG:=fz (E0 [] [] [zpm N]) Tryz.func145 [] (.int .u8) .str [] (fun v=>zk9 N v) (by kernel_rfl)
def y17:SC PG:=fz (E0 [] [] []) Tryz.func150 [] (.int .u8) .str [] (fun v=>zik N v) (by kernel_rfl)
def zl1:SE PG:=E0 [] [] [y7p N,zpm N,j9 N,zac N,y17 N,zfd N]
def zwf:SL PG Tryz.f90.ntmps (Y0 Tryz.f90):=pz (zl1 N) [] 127 ⟨[1,2,3,5,6,7],(.cons (.ptr 2000000 0) (.cons (.ptr 2000001 0) (.cons .str (.cons (.ptr 2000002 0) (.cons .str .str))))),[(2000000,[1], .boxV w7),(2000001,[2], .boxC [.int .i64 0, .str [], .str [], .str [], .str [], .str [], .str [], .int .i64 0]),(2000002,[5], .boxV Z2)],[]⟩ (1,⟨[2],(.ptr 2000000 0),[(2000000,[2], .boxV Z8)],[]⟩) [] (fun v=>z0s N v.1.2.2.1 v.1.2.2.2.2.1 v.1.2.2.2.2.2 v.2.1 v.2.2.2.1) (by kernel_rfl)
def zwg:SL PG Tryz.f90.ntmps (Y0 Tryz.f90):=pz (zl1 N) [zwf N] 31 ⟨[1,2,3,5],(.cons (.ptr 2000000 0) (.cons (.ptr 2000001 0) (.cons .str (.ptr 2000002 0)))),[(2000000,[1], .boxV w7),(2000001,[2], .boxC [.int .i64 0, .str [], .str [], .str [], .str [], .str [], .str [], .int .i64 0]),(2000002,[5], .boxV Z2)],[]⟩ (1,⟨[2],(.ptr 2000000 0),[(2000000,[2], .boxV Z8)],[]⟩) [] (fun v=>z0t N v.1.2.2.1 v.2.1 v.2.2.2.1) (by kernel_rfl)
def y5a:SC PG:=fz (zl1 N) Tryz.func90 [zwg N] (.val w7) (.val Z8) [] (fun v=>zd3 N v) (by kernel_rfl)
def znf:SE PG:=E0 [(K7,[2000000])] [] [y5a N]
def zr8:SL PG Tryz.f47.ntmps (Y0 Tryz.f47):=lz N (znf N) [] 58 ⟨[0,1,5,6],(.cons (.list w7) (.cons (.int .i64) zm8)),[(2000000,[5], .sl Z8)],[]⟩ (2,⟨[5],(.own 2000000),[(2000000,[5], .sl Z8)],[]⟩) [] (z6t N N) (y6 N) (fun f v=>f v.1.1 v.1.2.1 v.1.2.2.2 v.2.1) (fun r b0 b1 b2 b3=>r ((b0,(b1,((),b2))),(b3,()))) rfl (fun _=>rfl) (fun _ _=>rfl) (by kernel_rfl)
def y02:SC PG:=fz (znf N) Tryz.func47 [zr8 N] (.cons (.list w7) (.int .i64)) (.list Z8) [] (fun v=>zfn N v.1 v.2) (by kernel_rfl)
def y4r:SC PG:=fz (E0 [] [] []) Tryz.func49 [] (.int .u8) .str [] (fun v=>zhf N v) (by kernel_rfl)
def zuf:SE PG:=E0 [(K7,[63])] [] [zja N,zj8 N]
def zvz:SL PG Tryz.f48.ntmps (Y0 Tryz.f48):=lz N (zuf N) [] 58 ⟨[1,2,4,5],(.cons .str Sh9_),[(2000000,[2], .boxV Y1),(2000001,[4], .boxC [.nils, .int .i64 0, .int .i64 0, .int .i64 0, .nils, .int .i64 0, .int .i64 0, .int .i64 0, .nils, .int .i64 0, .int .i64 0])],[]⟩ (1,⟨[4],(.ptr 2000000 0),[(2000000,[4], .boxV ze6)],[]⟩) [(2,⟨[1,2,4],(.cons .str Sh2_),[(2000000,[2], .boxV Y1),(2000001,[4], .boxC [.nils, .int .i64 0, .int .i64 0, .int .i64 0, .nils, .int .i64 0, .int .i64 0, .int .i64 0, .nils, .int .i64 0, .int .i64 0])],[]⟩)] (z73 N N) (z36 N) (fun f v=>f v.1.1 v.1.2.2.2 v.2.1) (fun r b0 b1 b2=>r ((b0,((),((),b1))),(b2,((),())))) rfl (fun _=>rfl) (fun _ _=>rfl) (by kernel_rfl)
def y4q:SC PG:=fz (zuf N) Tryz.func48 [zvz N] (.cons (.val Y1) .str) (.val ze6) [] (fun v=>zhe N v.1 v.2) (by kernel_rfl)
def y9w:SC PG:=fz (E0 [] [] []) Tryz.func51 [] (.cons (.val Y1) (.int .u8)) (.int .i64) [] (fun v=>zoc N v.1 v.2) (by kernel_rfl)
def zzs:SC PG:=fz (E0 [] [] [zj7 N,zj8 N,zcc N]) Tryz.func50 [] (.cons (.val Y1) (.int .i64)) (.tup (.cons (.val Y1) (.int .i64))) [] (fun v=>zfh N v.1 v.2) (by kernel_rfl)
def y15:SC PG:=fz (E0 [(2000012,[11])] [] [zl9 N]) Tryz.func94 [] (.cons (.list Z8) (.list Z8)) (.list Z8) [] (fun v=>z8j N v.1 v.2) (by kernel_rfl)
def zn6:SE PG:=E0 [(K7,[2000004])] [] [zj7 N,zcc N,y15 N]
def zqu:SL PG Tryz.f52.ntmps (Y0 Tryz.f52):=lz N (zn6 N) [] 1018 ⟨[1,2,4,6,7,8,9],(.cons (.int .i64) (.cons (.ptr 2000000 0) (.cons (.ptr 2000001 0) (.cons (.int .i64) (.cons (.ptr 2000002 0) (.cons (.ptr 2000003 0) (.int .i64))))))),[(2000000,[2], .boxV Y1),(2000001,[4], .boxC [.nils, .int .i64 0, .int .i64 0, .int .i64 0, .nils, .int .i64 0, .int .i64 0, .int .i64 0, .nils]),(2000002,[7], .boxV z68),(2000003,[8], .box yp3),(2000004,[8,4], .sl z68)],[]⟩ (2,⟨[1,2,4,7,8],(.cons (.int .i64) (.cons (.ptr 2000000 0) (.cons (.ptr 2000001 0) (.cons (.ptr 2000002 0) (.ptr 2000003 0))))),[(2000000,[2], .boxV Y1),(2000001,[4], .boxC [.nils, .int .i64 0, .int .i64 0, .int .i64 0, .nils, .int .i64 0, .int .i64 0, .int .i64 0, .nils]),(2000002,[7], .boxV z68),(2000003,[8], .box yp3),(2000004,[8,4], .sl z68)],[]⟩) [] (z45 N N) (z0i N) (fun f v=>f v.1.1 v.1.2.2.2.1 v.1.2.2.2.2.2.2 v.2.1 v.2.2.2.1 v.2.2.2.2.1.1 v.2.2.2.2.1.2.1 v.2.2.2.2.1.2.2.1 v.2.2.2.2.1.2.2.2.1 v.2.2.2.2.1.2.2.2.2.2.1 v.2.2.2.2.1.2.2.2.2.2.2.1 v.2.2.2.2.1.2.2.2.2.2.2.2.1 v.2.2.2.2.1.2.2.2.2.2.2.2.2 v.2.2.2.2.2.1) (fun r b0 b1 b2 b3 b4 b5 b6 b7 b8 b9 b10 b11 b12 b13=>r ((b0,((),((),(b1,((),((),b2)))))),(b3,((),(b4,((b5,(b6,(b7,(b8,((),(b9,(b10,(b11,b12)))))))),(b13,()))))))) rfl (fun _=>rfl) (fun _ _=>rfl) (by kernel_rfl)
def zzr:SC PG:=fz (zn6 N) Tryz.func52 [zqu N] (.cons (.val Y1) (.int .i64)) (.tup (.cons (.val Y1) (.int .i64))) [] (fun v=>zfg N v.1 v.2) (by kernel_rfl)
def zky:SE PG:=E0 [] [] [y02 N,zty N,y4r N,y4q N,y9w N,zzs N,zzr N]
def zvx:SL PG Tryz.f24.ntmps (Y0 Tryz.f24):=pz (zky N) [] 53 ⟨[2,3,4,13,14],(.cons (.ptr 2000000 0) (.cons (.ptr 2000001 0) (.cons (.ptr 2000002 0) (.cons (.int .u8) .bool)))),[(2000000,[2], .boxV Y1),(2000001,[3], .boxV w6),(2000002,[4], .boxC [.nils, .int .i64 0, .int .i64 0, .int .i64 0, .nils, .int .i64 0, .int .i64 0, .int .i64 0, .nils])],[]⟩ (1,⟨[4],(.ptr 2000000 0),[(2000000,[4], .boxV Y1)],[]⟩) [(0,⟨[2,3,4],Sh8_,[(2000000,[2], .boxV Y1),(2000001,[3], .boxV w6),(2000002,[4], .boxC [.nils, .int .i64 0, .int .i64 0, .int .i64 0, .nils, .int .i64 0, .int .i64 0, .int .i64 0, .nils])],[]⟩)] (fun v=>z0h N v.1.2.2.2.1 v.1.2.2.2.2 v.2.1 v.2.2.1) (by kernel_rfl)
def zvy:SL PG Tryz.f24.ntmps (Y0 Tryz.f24):=pz (zky N) [] 7 ⟨[2,3,4],Sh8_,[(2000000,[2], .boxV Y1),(2000001,[3], .boxV w6),(2000002,[4], .boxC [.nils, .int .i64 0, .int .i64 0, .int .i64 0, .nils, .int .i64 0, .int .i64 0, .int .i64 0, .nils])],[]⟩ (1,⟨[4],(.ptr 2000000 0),[(2000000,[4], .boxV Y1)],[]⟩) [] (fun v=>z2u N v.2.1 v.2.2.1) (by kernel_rfl)
def y4p:SC PG:=fz (zky N) Tryz.func24 [zvx N,zvy N] (.cons (.val Y1) (.val w6)) (.val Y1) [] (fun v=>zlg N v.1 v.2) (by kernel_rfl)
def zug:SE PG:=E0 [] [] [y0o N,ztx N,y4p N]
def zw0:SL PG Tryz.f34.ntmps (Y0 Tryz.f34):=lz N (zug N) [] 58 ⟨[1,4,5,7],(.cons (.list w6) Sh9_),[(2000000,[4], .boxC [.nils, .int .i64 0, .int .i64 0, .int .i64 0, .nils, .int .i64 0, .int .i64 0, .int .i64 0, .nils]),(2000001,[5], .boxV Y1)],[]⟩ (2,⟨[4,5],Sh2_,[(2000000,[4], .boxC [.nils, .int .i64 0, .int .i64 0, .int .i64 0, .nils, .int .i64 0, .int .i64 0, .int .i64 0, .nils]),(2000001,[5], .boxV Y1)],[]⟩) [] (z9q N N) (z5v N) (fun f v=>f v.1.1 v.1.2.2.2 v.2.2.1) (fun r b0 b1 b2=>r ((b0,((),((),b1))),((),(b2,())))) rfl (fun _=>rfl) (fun _ _=>rfl) (by kernel_rfl)
def y4s:SC PG:=fz (zug N) Tryz.func34 [zw0 N] (.cons (.int .u8) (.list w6)) (.val Y1) [] (fun v=>zlh N v.1 v.2) (by kernel_rfl)
def y4k:SC PG:=fz (E0 [] [] [ztv N]) Tryz.func36 [] (.val zsb) (.val Q3) [] (fun v=>zlf N v) (by kernel_rfl)
def y4j:SC PG:=fz (E0 [] [] [y4s N,y4k N,ztu N,zpj N]) Tryz.func12 [] (.val zb0) (.val zbh) [] (fun v=>zle N v) (by kernel_rfl)
def zq1:SE PG:=E0 [] [] []
def zsm:SL PG Tryz.f27.ntmps (Y0 Tryz.f27):=lz N (zq1) [] 58 ⟨[1,3,4],Sh6_,[(2000000,[1], .boxV Y1),(2000001,[3], .sl (.int .i64))],[]⟩ (2,⟨[3],(.own 2000000),[(2000000,[3], .sl (.int .i64))],[]⟩) [] (z7q N N) (z1m N) (fun f v=>f v.1.2.2 v.2.1 v.2.2.1) (fun r b0 b1 b2=>r (((),((),b0)),(b1,(b2,())))) rfl (fun _=>rfl) (fun _ _=>rfl) (by kernel_rfl)
def y0p:SC PG:=fz (zq1) Tryz.func27 [zsm N] (.val Y1) (.fresh (.int .i64)) [] (fun v=>znr N v) (by kernel_rfl)
def zjh:SE PG:=E0 [(5,[2000002])] [] [z9k N]
def zst:SL PG Tryz.f26.ntmps (Y0 Tryz.f26):=lz N (zjh N) [] 506 ⟨[5,8,9],(.cons (.own 2000000) y5s),[(2000000,[5], .sl .bool),(2000001,[8], .sl (.int .i64))],[]⟩ (4,⟨[8],(.own 2000000),[(2000000,[8], .sl (.int .i64))],[]⟩) [] (z5l N N) (z1q N) (fun f v=>f v.1.2.2 v.2.1 v.2.2.1) (fun r b0 b1 b2=>r (((),((),b0)),(b1,(b2,())))) rfl (fun _=>rfl) (fun _ _=>rfl) (by kernel_rfl)
def zsu:SL PG Tryz.f26.ntmps (Y0 Tryz.f26):=lz N (zjh N) [] 60 ⟨[2,5,6],(.cons (.ptr 2000000 0) (.cons (.own 2000001) (.list (.int .i64)))),[(2000000,[2], .box (.list Y8)),(2000001,[5], .sl .bool)],[16,48]⟩ (2,⟨[5],(.own 2000000),[(2000000,[5], .sl .bool)],[]⟩) [] (z5m N N) (z1r N) (fun f v=>f v.1.2.2 v.2.1 v.2.2.1) (fun r b0 b1 b2=>r (((),((),b0)),(b1,(b2,())))) rfl (fun _=>rfl) (fun _ _=>rfl) (by kernel_rfl)
def y0v:SC PG:=fz (zjh N) Tryz.func26 [zsu N,zst N] (.cons (.val (.list Y8)) (.list (.int .i64))) (.fresh (.int .i64)) [] (fun v=>zdo N v.1 v.2) (by kernel_rfl)
def zpy:SE PG:=E0 [(K7,[2000002,2000003])] [] [y0p N,y0v N,zpg N]
def zse:SL PG Tryz.f13.ntmps (Y0 Tryz.f13):=lz N (zpy N) [] 58 ⟨[2,4,5,6,7],(.cons (.ptr 2000000 0) (.cons (.ptr 2000001 0) (.cons (.ptr 2000002 0) (.cons (.own 2000005) (.int .i64))))),[(2000000,[2], .boxV X1),(2000001,[4], .boxC [.nils, .nils, .int .i64 0]),(2000002,[5], .box (.cons (.own 2000003) yee)),(2000003,[5,0], .sl (.int .i64)),(2000004,[5,1], .sl (.int .i64)),(2000005,[6], .sl (.int .i64))],[]⟩ (2,⟨[4,5],Sh2_,[(2000000,[4], .boxC [.nils, .nils, .int .i64 0]),(2000001,[5], .box yiu),(2000002,[5,0], .sl (.int .i64)),(2000003,[5,1], .sl (.int .i64))],[]⟩) [] (z7o N N) (z1i N) (fun f v=>f v.1.2.2.2.2 v.2.1 v.2.2.2.1.2.2 v.2.2.2.2.1 v.2.2.2.2.2.1 v.2.2.2.2.2.2.1) (fun r b0 b1 b2 b3 b4 b5=>r (((),((),((),((),b0)))),(b1,((),(((),((),b2)),(b3,(b4,(b5,())))))))) rfl (fun _=>rfl) (fun _ _=>rfl) (by kernel_rfl)
def y0i:SC PG:=fz (zpy N) Tryz.func13 [zse N] (.cons (.val X1) (.val Y1)) (.val G9) [] (fun v=>zid N v.1 v.2) (by kernel_rfl)
def zgn:SE PG:=E0 [] [] [y06 N,y4j N,y0i N,zl7 N,zmo N,zpn N,zpf N,zpe N]
def zk2:SL PG Tryz.f5.ntmps (Y0 Tryz.f5):=lz N (zgn N) [] 8186 ⟨[2,7,10,13,14,15],(.cons (.list (.int .u8)) (.cons .bool Sh4_)),[(2000000,[10], .boxV X1),(2000001,[13], .boxV zfz),(2000002,[14], .boxV G9)],[]⟩ (2,⟨[7,10,13,14],(.cons .bool Sh8_),[(2000000,[10], .boxV X1),(2000001,[13], .boxV zfz),(2000002,[14], .boxV G9)],[]⟩) [] (z2h N N) (G5 N) (fun f v=>f v.1.1 v.1.2.1 v.1.2.2.2.2.2 v.2.1 v.2.2.1 v.2.2.2.1) (fun r b0 b1 b2 b3 b4 b5=>r ((b0,(b1,((),((),((),b2))))),(b3,(b4,(b5,()))))) rfl (fun _=>rfl) (fun _ _=>rfl) (by kernel_rfl)
def ze9:SC PG:=fz (zgn N) Tryz.func5 [zk2 N] (.cons (.val zb0) (.cons (.val zbi) (.list (.int .u8)))) .bool [] (fun v=>z8u N v.1 v.2.1 v.2.2) (by kernel_rfl)
theorem zk1:z60 PG 5 (fun vs=>(ze9 N).c.run vs some):=(ze9 N).h
end
end Go.Proofs.YtljffhpbdmkplaaGreat
