/- Printed by a program of the session's: what the program's functions compute, and that they do. -/
import Derived.Test.YtljffhpbdmkplaaGreatDsPure
import Derived.Test.YtljffhpbdmkplaaGreatProg
import Derived.KernelRfl
set_option linter.all false
namespace Go.Proofs.YtljffhpbdmkplaaGreat
open Go Go.Dv Ds
set_option maxRecDepth 100000
noncomputable section
abbrev PG:=Tryz.prog
abbrev Sh0_:Sh:=(.cons (.int .i64) (.cons (.int .i64) (.cons (.list (.list (.int .u8))) (.cons (.list G4) (.cons (.list .bool) (.cons (.list (.int .i64)) (.cons (.int .i64) (.cons (.int .i64) (.cons (.int .i64) (.cons (.int .i64) (.cons (.list (.int .i64)) (.cons (.list (.int .u64)) (.list (.int .i64))))))))))))))
abbrev Sh1_:Sh:=(.cons (.int .i64) (.cons (.list (.list (.int .u8))) (.cons (.list G4) (.cons (.list .bool) (.cons (.list (.int .i64)) (.cons (.int .i64) (.cons (.int .i64) (.cons (.int .i64) (.cons (.int .i64) (.cons (.own 2000001) (.cons (.own 2000002) (.list (.int .i64)))))))))))))
abbrev Sh2_:Sh:=(.cons (.ptr 2000000 0) (.ptr 2000001 0))
abbrev Sh3_:Sh:=(.cons (.ptr 5000000 0) (.cons (.ptr 5000001 0) (.cons (.ptr 5000003 0) (.cons (.ptr 5000004 0) (.ptr 5000005 0)))))
abbrev Sh4_:Sh:=(.cons (.ptr 2000000 0) (.cons (.ptr 2000001 0) (.int .i64)))
abbrev Sh5_:Sh:=(.cons (.ptr 2000000 0) (.int .i64))
abbrev Sh6_:Sh:=(.cons (.ptr 2000000 0) (.cons (.ptr 2000001 0) (.cons (.ptr 2000002 0) (.int .i64))))
abbrev Sh7_:Sh:=(.cons (.ptr 2000000 0) (.cons (.own 2000001) (.int .i64)))
abbrev Sh8_:Sh:=(.cons (.ptr 2000000 0) (.cons (.ptr 2000003 0) (.cons (.ptr 2000004 0) (.cons (.ptr 2000005 0) (.cons (.own 2000006) (.int .i64))))))
abbrev Sh9_:Sh:=(.cons (.own 2000000) (.int .i64))
abbrev y3n:Sh:=(.cons (.ptr 2000000 0) (.cons (.ptr 2000001 0) (.ptr 2000002 0)))
abbrev yng:Sh:=(.cons (.ptr 2000000 0) (.cons (.ptr 2000003 0) (.cons (.ptr 2000004 0) (.cons (.ptr 2000005 0) (.cons (.own 2000006) (.cons (.int .i64) (.cons (.int .i64) (.int .u64))))))))
abbrev yf4:Sh:=(.cons (.ptr 2000000 0) (.cons (.ptr 2000001 0) (.cons (.own 2000002) (.int .i64))))
abbrev yjr:Sh:=(.cons (.ptr 2000000 0) (.cons (.ptr 2000001 0) (.cons (.ptr 2000002 0) (.cons (.own 2000003) (.int .i64)))))
abbrev ya7:Sh:=(.cons (.ptr 5000001 0) (.cons (.ptr 5000002 0) (.ptr 5000004 0)))
abbrev zpw:Sh:=(.cons (.int .i64) (.int .i64))
abbrev yq5:Sh:=(.agg (.cons (.int .i64) (.cons (.list (.list (.int .u8))) (.cons (.list G4) (.cons (.list .bool) (.cons (.list (.int .i64)) (.cons (.int .i64) (.cons (.int .i64) (.cons (.int .i64) (.cons (.int .i64) (.cons (.own 5000000) (.cons (.own 5000001) (.list (.int .i64))))))))))))))
abbrev yjq:Sh:=(.cons (.ptr 2000000 0) (.cons (.own 2000001) (.cons .bool (.int .i64))))
abbrev yf3:Sh:=(.cons (.list (.int .i64)) (.cons (.own 2000004) Sh0_))
abbrev yq4:Sh:=(.cons (.list Y9) (.cons (.int .i64) (.cons (.int .i64) (.cons (.int .i64) (.cons (.own 2000004) (.cons (.int .i64) (.cons (.int .i64) (.cons (.int .i64) (.list Z9)))))))))
abbrev ya6:Sh:=(.cons (.ptr 5000001 0) (.ptr 5000002 0))
abbrev y6h:Sh:=(.cons (.own 2000001) (.int .i64))
abbrev ya5:Sh:=(.cons (.ptr 2000000 0) (.own 2000001))
abbrev yjp:Sh:=(.cons (.ptr 2000002 0) (.cons (.ptr 2000003 0) (.int .i64)))
abbrev yjo:Sh:=(.cons (.own 2000001) (.cons (.own 2000002) (.int .i64)))
abbrev yjn:Sh:=(.cons (.own 2000002) (.cons (.own 2000003) (.int .i64)))
abbrev yjm:Sh:=(.cons (.own 2000003) (.cons (.own 2000004) (.int .i64)))
abbrev yq3:Sh:=(.cons (.list (.int .i64)) (.cons (.ptr 2000000 0) (.cons (.ptr 2000001 0) (.cons (.ptr 2000002 0) (.cons (.int .i64) (.cons (.ptr 2000003 0) (.int .i64)))))))
abbrev yjl:Sh:=(.cons (.int .i64) (.cons (.int .i64) (.ptr 2000000 0)))
abbrev yjk:Sh:=(.cons (.list (.int .i64)) (.cons (.own 2000003) Sh0_))
abbrev yq2:Sh:=(.cons (.own 2000001) (.cons (.own 2000002) (.cons (.own 2000003) (.cons (.own 2000004) (.cons (.own 2000005) (.cons .str (.cons .str (.int .i64))))))))
abbrev yjj:Sh:=(.cons (.list T_ref28_Rot) (.cons .bool Sh4_))
abbrev ynf:Sh:=(.cons (.ptr 2000000 0) (.cons (.ptr 2000001 0) (.own 2000002)))
abbrev yq1:Sh:=(.cons (.list T_ref28_Rot) (.cons .bool (.cons (.ptr 2000000 0) (.cons (.ptr 2000001 0) (.cons (.int .i64) .bool)))))
abbrev yne:Sh:=(.cons (.own 2000002) (.cons (.own 2000003) (.own 2000004)))
abbrev ynd:Sh:=(.cons (.list Y2) (.cons (.list Z2) Sh9_))
instance :LTab:=⟨fun i=>bif Nat.beq i 0 then⟨#[27,28],[5,8],cA (Z8 Tryz.f40) 500,cA (Z8 Tryz.f40) 501,66⟩else bif Nat.beq i 1 then⟨#[15,16],[3,4,5],cA (Z8 Tryz.f97) 116,cA (Z8 Tryz.f97) 117,33⟩else⟨#[],[], .skip, .skip,0⟩⟩
def tyRows:List (Nat×TI):=[
 (3,⟨.int .i64,1,8,[.int .i64],some (.int .i64)⟩),
 (4,⟨.bool,1,1,[.bool],some .bool⟩),
 (5,⟨.int .u8,1,1,[.int .u8],some (.int .u8)⟩),
 (9,⟨.str,1,16,[.str],some .str⟩),
 (22,⟨.slice 85,1,24,[.slice],some (.list j9)⟩),
 (23,⟨.arr 3 5,3,3,[.int .u8, .int .u8, .int .u8],some zsu⟩),
 (25,⟨.struct [(0,5),(1,22),(2,23)],5,40,[.int .u8, .slice, .int .u8, .int .u8, .int .u8],some zbu⟩),
 (26,⟨.slice 59,1,24,[.slice],some (.list T_ref28_Rot)⟩),
 (27,⟨.slice 3,1,24,[.slice],some (.list (.int .i64))⟩),
 (29,⟨.struct [(0,27),(1,27),(2,3)],3,56,[.slice, .slice, .int .i64],some U2⟩),
 (31,⟨.slice 71,1,24,[.slice],some (.list (.list (.int .u8)))⟩),
 (32,⟨.slice 122,1,24,[.slice],some (.list G4)⟩),
 (34,⟨.struct [(0,3),(1,31),(2,32)],3,56,[.int .i64, .slice, .slice],some K3⟩),
 (35,⟨.slice 4,1,24,[.slice],some (.list .bool)⟩),
 (37,⟨.struct [(0,35),(1,27),(2,3)],3,56,[.slice, .slice, .int .i64],some K0⟩),
 (38,⟨.slice 103,1,24,[.slice],some (.list (.int .u64))⟩),
 (40,⟨.struct [(0,34),(3,37),(6,3),(7,3),(8,3),(9,27),(10,38),(11,27)],12,208,[.int .i64, .slice, .slice, .slice, .slice, .int .i64, .int .i64, .int .i64, .int .i64, .slice, .slice, .slice],some Y5⟩),
 (41,⟨.slice 101,1,24,[.slice],some (.list Y9)⟩),
 (43,⟨.struct [(0,41)],1,24,[.slice],some (.list Y9)⟩),
 (45,⟨.struct [(0,3),(1,3),(2,3)],3,24,[.int .i64, .int .i64, .int .i64],some z3i⟩),
 (46,⟨.slice 116,1,24,[.slice],some (.list z6x)⟩),
 (47,⟨.slice 159,1,24,[.slice],some (.list Z9)⟩),
 (49,⟨.struct [(0,43),(1,45),(4,46),(5,3),(6,3),(7,3),(8,47)],9,120,[.slice, .int .i64, .int .i64, .int .i64, .slice, .int .i64, .int .i64, .int .i64, .slice],some Y1⟩),
 (50,⟨.int .i64,1,8,[.int .i64],some (.int .i64)⟩),
 (52,⟨.struct [(0,40),(12,49),(21,50)],22,336,[.int .i64, .slice, .slice, .slice, .slice, .int .i64, .int .i64, .int .i64, .int .i64, .slice, .slice, .slice, .slice, .int .i64, .int .i64, .int .i64, .slice, .int .i64, .int .i64, .int .i64, .slice, .int .i64],some z4g⟩),
 (57,⟨.int .u16,1,2,[.int .u16],some (.int .u16)⟩),
 (59,⟨.struct [(0,5),(1,57),(2,5)],3,6,[.int .u8, .int .u16, .int .u8],some T_ref28_Rot⟩),
 (61,⟨.arr 2 29,6,112,[.slice, .slice, .int .i64, .slice, .slice, .int .i64],some z1o⟩),
 (63,⟨.struct [(0,29),(3,50)],4,64,[.slice, .slice, .int .i64, .int .i64],some zlo⟩),
 (71,⟨.slice 5,1,24,[.slice],some (.list (.int .u8))⟩),
 (83,⟨.slice 187,1,24,[.slice],some (.list g8)⟩),
 (85,⟨.struct [(0,5),(1,5),(2,83)],3,32,[.int .u8, .int .u8, .slice],some j9⟩),
 (95,⟨.slice 257,1,24,[.slice],some (.list Y2)⟩),
 (96,⟨.slice 9,1,24,[.slice],some (.list .str)⟩),
 (97,⟨.slice 262,1,24,[.slice],some (.list J9)⟩),
 (99,⟨.struct [(0,95),(1,96),(2,27),(3,97),(4,47)],5,120,[.slice, .slice, .slice, .slice, .slice],some Y0⟩),
 (101,⟨.struct [(0,4),(1,4),(2,3),(3,99)],8,136,[.bool, .bool, .int .i64, .slice, .slice, .slice, .slice, .slice],some Y9⟩),
 (103,⟨.int .u64,1,8,[.int .u64],some (.int .u64)⟩),
 (109,⟨.struct [(0,40),(12,50)],13,216,[.int .i64, .slice, .slice, .slice, .slice, .int .i64, .int .i64, .int .i64, .int .i64, .slice, .slice, .slice, .int .i64],some ze5⟩),
 (114,⟨.struct [(0,3),(1,3),(2,5)],3,24,[.int .i64, .int .i64, .int .u8],some zvg⟩),
 (116,⟨.struct [(0,3),(1,3),(2,3),(3,9),(4,47)],5,64,[.int .i64, .int .i64, .int .i64, .str, .slice],some z6x⟩),
 (122,⟨.struct [(0,4),(1,3),(2,71)],3,40,[.bool, .int .i64, .slice],some G4⟩),
 (129,⟨.struct [(0,49),(9,3),(10,50)],11,136,[.slice, .int .i64, .int .i64, .int .i64, .slice, .int .i64, .int .i64, .int .i64, .slice, .int .i64, .int .i64],some zex⟩),
 (157,⟨.struct [(0,9),(1,9)],2,32,[.str, .str],some Z2⟩),
 (159,⟨.struct [(0,3),(1,9),(2,9),(3,157),(5,9),(6,9),(7,3)],8,112,[.int .i64, .str, .str, .str, .str, .str, .str, .int .i64],some Z9⟩),
 (165,⟨.func,1,8,[.func],none⟩),
 (167,⟨.ptr,1,8,[.ptr],none⟩),
 (169,⟨.struct [(0,29),(3,40)],15,264,[.slice, .slice, .int .i64, .int .i64, .slice, .slice, .slice, .slice, .int .i64, .int .i64, .int .i64, .int .i64, .slice, .slice, .slice],some y8m⟩),
 (176,⟨.struct [(0,43),(1,3),(2,45)],5,56,[.slice, .int .i64, .int .i64, .int .i64, .int .i64],some W2⟩),
 (181,⟨.struct [(0,176),(5,3),(6,50)],7,72,[.slice, .int .i64, .int .i64, .int .i64, .int .i64, .int .i64, .int .i64],some z92⟩),
 (187,⟨.arr 6 5,6,6,[.int .u8, .int .u8, .int .u8, .int .u8, .int .u8, .int .u8],some g8⟩),
 (240,⟨.int .u64,1,8,[.int .u64],some (.int .u64)⟩),
 (244,⟨.struct [(0,43),(1,3),(2,50)],3,40,[.slice, .int .i64, .int .i64],some zkg⟩),
 (247,⟨.slice 157,1,24,[.slice],some (.list Z2)⟩),
 (249,⟨.struct [(0,47),(1,247)],2,48,[.slice, .slice],some zo5⟩),
 (257,⟨.struct [(0,9),(1,9),(2,3)],3,40,[.str, .str, .int .i64],some Y2⟩),
 (260,⟨.struct [(0,3),(1,3)],2,16,[.int .i64, .int .i64],some z6w⟩),
 (262,⟨.struct [(0,260),(2,260)],4,32,[.int .i64, .int .i64, .int .i64, .int .i64],some J9⟩),
 (300,⟨.struct [(0,37),(3,3),(4,50)],5,72,[.slice, .slice, .int .i64, .int .i64, .int .i64],some zkd⟩),
 (318,⟨.struct [(0,27),(1,4)],2,32,[.slice, .bool],some zgn⟩),
 (346,⟨.arr 4 3,4,32,[.int .i64, .int .i64, .int .i64, .int .i64],some ydk⟩),
 (356,⟨.struct [(0,99),(5,157),(7,50)],8,160,[.slice, .slice, .slice, .slice, .slice, .str, .str, .int .i64],some zln⟩),
 (360,⟨.slice 99,1,24,[.slice],some (.list Y0)⟩),
 (362,⟨.struct [(0,360),(1,96),(2,47)],3,72,[.slice, .slice, .slice],some zkf⟩),
 (365,⟨.struct [(0,360),(1,96),(2,47)],3,72,[.slice, .slice, .slice],some zep⟩),
 (368,⟨.struct [(0,176),(5,3),(6,50)],7,72,[.slice, .int .i64, .int .i64, .int .i64, .int .i64, .int .i64, .int .i64],some z7q⟩),
 (399,⟨.struct [(0,3),(1,3)],2,16,[.int .i64, .int .i64],some zhv⟩),
 (406,⟨.slice 95,1,24,[.slice],some (.list (.list Y2))⟩),
 (410,⟨.struct [(0,47),(1,47),(2,247)],3,72,[.slice, .slice, .slice],some zom⟩),
 (415,⟨.struct [(0,43),(1,27),(2,50)],3,56,[.slice, .slice, .int .i64],some zke⟩),
 (433,⟨.struct [(0,9),(1,3),(2,3),(3,9)],4,48,[.str, .int .i64, .int .i64, .str],some z1s⟩)]
theorem y6k:(tyRows.all fun r=>tiOk PG r.1 r.2)=true:=by kernel_rfl
theorem mixed:PG.follows .mixedOrders=true:=by kernel_rfl
def eqRows:List (Nat×List Nat):=[(159,[0,2,2,2,2,2,2,0])]
theorem yig:(eqRows.all fun r=>eqB PG r.1 r.2)=true:=by kernel_rfl
def ych:List (Nat×String×Nat):=[]
theorem yau:ya9 PG ych:=trivial
def E0(st:List (Nat×List Nat))(pre:List Nat)(tc:List (SC PG))(tm:List (SM PG):=[])(tr:List (SR PG):=[]):SE PG:=
 ⟨ypi tyRows eqRows ych st pre (tabC tc) (tabM tm) (tabR tr),ykl y6k yig yau (yfs tc) (yfr tm) (yfq tr),mixed⟩
variable (N:Nat)
def y1f:SC PG:=fz (E0 [] [] []) Tryz.func69 [] (.val z3i) .bool [] (fun v=>zee N v) (by kernel_rfl)
def za6:SC PG:=fz (E0 [] [] []) Tryz.func66 [] (.cons (.val (.list Y9)) (.int .i64)) .bool [] (fun v=>z7f N v.1 v.2) (by kernel_rfl)
def zes:SC PG:=fz (E0 [] [] []) Tryz.func151 [] (.val (.list Y9)) (.agg (.fresh Y9)) [] (fun v=>z9r N v) (by kernel_rfl)
def zjl:SE PG:=E0 [(J5,[2000002])] [] [za6 N,zes N]
def y03:SL PG Tryz.f142.ntmps (Z8 Tryz.f142):=lz N (zjl N) [] 4090 ⟨[3,4,6,7,8],(.cons (.ptr 2000000 0) (.cons (.ptr 2000001 0) (.cons (.int .i64) (.cons (.ptr 2000002 0) (.int .i64))))),[(2000000,[3], .boxV Y0),(2000001,[4], .boxC [.nils, .int .i64 0, .int .i64 0]),(2000002,[7], .box (.own 2000003)),(2000003,[7,0], .sl Y9)],[]⟩ (6,⟨[4,6,7],(.cons (.ptr 2000000 0) (.cons (.int .i64) (.ptr 2000001 0))),[(2000000,[4], .boxC [.nils, .int .i64 0, .int .i64 0]),(2000001,[7], .box (.own 2000002)),(2000002,[7,0], .sl Y9)],[]⟩) [] (z5f N N) (z55 N) (fun f v=>f v.1.2.2.1 v.1.2.2.2.2 v.2.1 v.2.2.2.2.1) (fun r b0 b1 b2 b3=>r (((),((),(b0,((),b1)))),(b2,((),((),(b3,())))))) rfl (fun _=>rfl) (fun _ _=>rfl) (by kernel_rfl)
def y04:SL PG Tryz.f142.ntmps (Z8 Tryz.f142):=lz N (zjl N) [] 60 ⟨[2,3,4,6],Sh6_,[(2000000,[2], .box (.list Y9)),(2000001,[3], .boxV Y0),(2000002,[4], .boxC [.nils, .int .i64 0, .int .i64 0])],[]⟩ (4,⟨[2,3,4,6],Sh6_,[(2000000,[2], .box (.list Y9)),(2000001,[3], .boxV Y0),(2000002,[4], .boxC [.nils, .int .i64 0, .int .i64 0])],[]⟩) [] (z9s N N) (z56 N) (fun f v=>f v.1.2.2.2 v.2.1 v.2.2.1) (fun r b0 b1 b2=>r (((),((),((),b0))),(b1,(b2,((),()))))) rfl (fun _=>rfl) (fun _ _=>rfl) (by kernel_rfl)
def y05:SL PG Tryz.f142.ntmps (Z8 Tryz.f142):=lz N (zjl N) [] 26 ⟨[2,3,4,5],Sh6_,[(2000000,[2], .box (.list Y9)),(2000001,[3], .boxV Y0),(2000002,[4], .boxC [.nils, .int .i64 0, .int .i64 0])],[]⟩ (1,⟨[4],(.ptr 2000000 0),[(2000000,[4], .boxV zkg)],[]⟩) [(2,⟨[2,3,4],y3n,[(2000000,[2], .box (.list Y9)),(2000001,[3], .boxV Y0),(2000002,[4], .boxC [.nils, .int .i64 0, .int .i64 0])],[]⟩)] (z9t N N) (z57 N) (fun f v=>f v.1.2.2.2 v.2.1 v.2.2.1) (fun r b0 b1 b2=>r (((),((),((),b0))),(b1,(b2,((),()))))) rfl (fun _=>rfl) (fun _ _=>rfl) (by kernel_rfl)
def zl9:SC PG:=fz (zjl N) Tryz.func142 [y05 N,y04 N,y03 N] (.cons (.val (.list Y9)) (.val Y0)) (.val zkg) [] (fun v=>z6g N v.1 v.2) (by kernel_rfl)
def y8a:SC PG:=fz (E0 [] [] [y1f N,zl9 N]) Tryz.func125 [] (.val z3i) (.tup (.cons (.val W2) (.int .i64))) [] (fun v=>zy2 N v) (by kernel_rfl)
def zuf:SC PG:=fz (E0 [] [] [y8a N]) Tryz.func73 [] (.val z3i) (.tup (.cons (.val Y1) (.int .i64))) [] (fun v=>zkq N v) (by kernel_rfl)
def zv0:SE PG:=E0 [] [] []
def zwn:SL PG Tryz.f92.ntmps (Z8 Tryz.f92):=lz N (zv0) [] 26 ⟨[1,2,5],(.cons (.int .i64) Sh5_),[(2000000,[2], .boxV Y1)],[]⟩ (1,⟨[4],(.int .i64),[],[]⟩) [(2,⟨[], .nil,[],[]⟩)] (zae N N) (z3p N) (fun f v=>f v.1.1 v.1.2.2 v.2.1) (fun r b0 b1 b2=>r ((b0,((),b1)),(b2,()))) rfl (fun _=>rfl) (fun _ _=>rfl) (by kernel_rfl)
def zjv:SC PG:=fz (zv0) Tryz.func92 [zwn N] (.cons (.val Y1) (.int .i64)) (.int .i64) [] (fun v=>zdd N v.1 v.2) (by kernel_rfl)
def y5c:SC PG:=fz (E0 [] [] [zjv N]) Tryz.func85 [] (.cons (.val Y1) (.int .i64)) (.tup (.cons (.val W2) (.int .i64))) [] (fun v=>zsd N v.1 v.2) (by kernel_rfl)
def yak:SC PG:=fz (E0 [] [] []) Tryz.func179 [] (.cons (.int .i64) (.cons (.int .i64) (.int .i64))) .bool [] (fun v=>zik N v.1 v.2.1 v.2.2) (by kernel_rfl)
def z47:SC PG:=fz (E0 [] [] []) Tryz.func235 [] (.val Z2) .bool [] (fun v=>z0n N v) (by kernel_rfl)
def y5x:SC PG:=fz (E0 [] [] [z47 N]) Tryz.func180 [] (.val Z2) .bool [] (fun v=>zi6 N v) (by kernel_rfl)
def zaz:SC PG:=fz (E0 [] [] []) Tryz.func149 [] (.cons .str .str) .bool [] (fun v=>z0a N v.1 v.2) (by kernel_rfl)
def zqu:SE PG:=E0 [] [] [yak N,y5x N,zaz N]
def ztt:SL PG Tryz.f120.ntmps (Z8 Tryz.f120):=pz (zqu N) [] 7551 ⟨[1,4,14,66],(.cons (.ptr 2000000 0) (.cons .bool (.cons (.int .i64) .bool))),[(2000000,[1], .boxV Z9)],[]⟩ (1,⟨[2], .bool,[],[]⟩) [(0,⟨[], .nil,[],[]⟩)] (fun v=>z8s N v.1.2.1 v.1.2.2.1 v.1.2.2.2 v.2.1) (by kernel_rfl)
def zhd:SC PG:=fz (zqu N) Tryz.func120 [ztt N] (.val Z9) .bool [] (fun v=>zbp N v) (by kernel_rfl)
def zg1:SC PG:=fz (E0 [] [] [za6 N]) Tryz.func140 [] (.cons (.val (.list Y9)) (.int .i64)) (.tup (.cons (.val Y0) (.int .i64))) [] (fun v=>za1 N v.1 v.2) (by kernel_rfl)
def zhj:SE PG:=E0 [] [] []
def zrt:SL PG Tryz.f202.ntmps (Z8 Tryz.f202):=pz (zhj) [] 1865 ⟨[0,3,5,6,7],(.cons (.list Y2) yjq),[(2000000,[3], .boxV Y2),(2000001,[5], .sl Y2)],[]⟩ (0,⟨[0,3,5,6,7],(.cons (.list Y2) yjq),[(2000000,[3], .boxV Y2),(2000001,[5], .sl Y2)],[]⟩) [] (fun v=>z1x N v.1.1 v.1.2.2.2.1 v.1.2.2.2.2 v.2.1 v.2.2.1) (by kernel_rfl)
def zru:SL PG Tryz.f202.ntmps (Z8 Tryz.f202):=lz N (zhj) [zrt N] 58 ⟨[0,3,5,6,7],(.cons (.list Y2) yjq),[(2000000,[3], .boxV Y2),(2000001,[5], .sl Y2)],[]⟩ (2,⟨[3,5,6],(.cons (.ptr 2000000 0) (.cons (.own 2000001) .bool)),[(2000000,[3], .boxV Y2),(2000001,[5], .sl Y2)],[]⟩) [] (z1y N N) (z1c N) (fun f v=>f v.1.1 v.1.2.2.2.1 v.1.2.2.2.2 v.2.1 v.2.2.1) (fun r b0 b1 b2 b3 b4=>r ((b0,((),((),(b1,b2)))),(b3,(b4,())))) rfl (fun _=>rfl) (fun _ _=>rfl) (by kernel_rfl)
def y0o:SC PG:=fz (zhj) Tryz.func202 [zru N] (.cons (.list Y2) (.val Y2)) (.fresh Y2) [] (fun v=>z9u N v.1 v.2) (by kernel_rfl)
def zg2:SC PG:=fz (E0 [] [] []) Tryz.func148 [] .str (.val Z2) [] (fun v=>za2 N v) (by kernel_rfl)
def zla:SC PG:=fz (E0 [] [] []) Tryz.func204 [] (.cons (.val Z2) .str) .bool [] (fun v=>zbz N v.1 v.2) (by kernel_rfl)
def y37:SE PG:=E0 [] [] [zla N]
def y11:SL PG Tryz.f250.ntmps (Z8 Tryz.f250):=lz N (y37 N) [] 26 ⟨[0,1,5],(.cons (.list Z2) (.cons .str (.int .i64))),[],[]⟩ (1,⟨[4], .bool,[],[]⟩) [(2,⟨[], .nil,[],[]⟩)] (zek N N) (z60 N) (fun f v=>f v.1.1 v.1.2.1 v.1.2.2) (fun r b0 b1 b2=>r ((b0,(b1,b2)),())) rfl (fun _=>rfl) (fun _ _=>rfl) (by kernel_rfl)
def zyx:SC PG:=fz (y37 N) Tryz.func250 [y11 N] (.cons (.list Z2) .str) .bool [] (fun v=>zoz N v.1 v.2) (by kernel_rfl)
def zmn:SE PG:=E0 [] [] [zyx N]
def zot:SL PG Tryz.f203.ntmps (Z8 Tryz.f203):=lz N (zmn N) [] 58 ⟨[0,1,5,6],ynd,[(2000000,[5], .sl Y2)],[]⟩ (2,⟨[5],(.own 2000000),[(2000000,[5], .sl Y2)],[]⟩) [] (z5z N N) (z0m N) (fun f v=>f v.1.1 v.1.2.1 v.1.2.2.2 v.2.1) (fun r b0 b1 b2 b3=>r ((b0,(b1,((),b2))),(b3,()))) rfl (fun _=>rfl) (fun _ _=>rfl) (by kernel_rfl)
def zxg:SC PG:=fz (zmn N) Tryz.func203 [zot N] (.cons (.list Y2) (.list Z2)) (.fresh Y2) [] (fun v=>z5m N v.1 v.2) (by kernel_rfl)
def zo1:SE PG:=E0 [] [] []
def zrw:SL PG Tryz.f146.ntmps (Z8 Tryz.f146):=lz N (zo1) [] 28 ⟨[0,2,3],(.cons .str Sh5_),[(2000000,[2], .boxC [.str [], .str []])],[]⟩ (2,⟨[0,2,3],(.cons .str Sh5_),[(2000000,[2], .boxC [.str [], .str []])],[]⟩) [] (G9 N N) (z4s N) (fun f v=>f v.1.1 v.1.2.2) (fun r b0 b1=>r ((b0,((),b1)),((),()))) rfl (fun _=>rfl) (fun _ _=>rfl) (by kernel_rfl)
def z0d:SC PG:=fz (zo1) Tryz.func146 [zrw N] .str (.val Z2) [] (fun v=>U8 N v) (by kernel_rfl)
def zny:SE PG:=E0 [] [] [zyx N]
def zrr:SL PG Tryz.f205.ntmps (Z8 Tryz.f205):=lz N (zny N) [] 58 ⟨[0,1,5,6],ynd,[(2000000,[5], .sl Y2)],[]⟩ (2,⟨[5],(.own 2000000),[(2000000,[5], .sl Y2)],[]⟩) [] (z7i N N) (z19 N) (fun f v=>f v.1.1 v.1.2.1 v.1.2.2.2 v.2.1) (fun r b0 b1 b2 b3=>r ((b0,(b1,((),b2))),(b3,()))) rfl (fun _=>rfl) (fun _ _=>rfl) (by kernel_rfl)
def y0m:SC PG:=fz (zny N) Tryz.func205 [zrr N] (.cons (.list Y2) (.list Z2)) (.fresh Y2) [] (fun v=>zgb N v.1 v.2) (by kernel_rfl)
def y1w:SC PG:=fz (E0 [] [] [zaz N]) Tryz.func206 [] (.cons .str (.cons .str .str)) (.tup (.cons .str .bool)) [] (fun v=>zjd N v.1 v.2.1 v.2.2) (by kernel_rfl)
def zk8:SE PG:=E0 [] [] [y0o N,zg2 N,zxg N,zla N,z0d N,y0m N,y1w N]
def ztx:SL PG Tryz.f141.ntmps (Z8 Tryz.f141):=lz N (zk8 N) [] 110570 ⟨[3,5,6],Sh7_,[(2000000,[3], .boxV Z9),(2000001,[5], .sl Y2)],[]⟩ (3,⟨[5],(.own 2000000),[(2000000,[5], .sl Y2)],[]⟩) [] (z8v N N) (z2r N) (fun f v=>f v.1.2.2 v.2.1 v.2.2.1) (fun r b0 b1 b2=>r (((),((),b0)),(b1,(b2,())))) rfl (fun _=>rfl) (fun _ _=>rfl) (by kernel_rfl)
def zty:SL PG Tryz.f141.ntmps (Z8 Tryz.f141):=lz N (zk8 N) [] 250 ⟨[3,7,8,9],(.cons (.ptr 2000000 0) yjo),[(2000000,[3], .boxV Z9),(2000001,[7], .sl Y2),(2000002,[8], .sl Y2)],[]⟩ (5,⟨[7],(.own 2000000),[(2000000,[7], .sl Y2)],[]⟩) [] (z4d N N) (z2s N) (fun f v=>f v.1.2.2.2 v.2.1 v.2.2.1 v.2.2.2.1) (fun r b0 b1 b2 b3=>r (((),((),((),b0))),(b1,(b2,(b3,()))))) rfl (fun _=>rfl) (fun _ _=>rfl) (by kernel_rfl)
def zni:SC PG:=fz (zk8 N) Tryz.func141 [ztx N,zty N] (.cons (.list Y2) (.val Z9)) (.fresh Y2) [] (fun v=>z3h N v.1 v.2) (by kernel_rfl)
def zv5:SE PG:=E0 [(J5,[2000002]),(6,[2000003])] [] [za6 N,zes N]
def zww:SL PG Tryz.f93.ntmps (Z8 Tryz.f93):=lz N (zv5 N) [] 60 ⟨[4,6,7],(.cons (.ptr 2000000 0) (.cons (.ptr 2000001 0) (.list (.int .i64)))),[(2000000,[4], .boxC [.nils]),(2000001,[6], .box (.own 2000002)),(2000002,[6,0], .sl Y9)],[17,56]⟩ (2,⟨[4,6],Sh2_,[(2000000,[4], .boxC [.nils]),(2000001,[6], .box (.own 2000002)),(2000002,[6,0], .sl Y9)],[]⟩) [] (z7v N N) (z3x N) (fun f v=>f v.1.2.2 v.2.2.2.1) (fun r b0 b1=>r (((),((),b0)),((),((),(b1,()))))) rfl (fun _=>rfl) (fun _ _=>rfl) (by kernel_rfl)
def zd4:SC PG:=fz (zv5 N) Tryz.func93 [zww N] (.cons (.val (.list Y9)) (.int .i64)) (.tup (.cons (.val (.list Y9)) (.int .i64))) [] (fun v=>z31 N v.1 v.2) (by kernel_rfl)
def y8b:SC PG:=fz (E0 [(10,[34,45])] [] [zhd N,zg1 N,zni N,zl9 N,zd4 N]) Tryz.func86 [] (.cons (.val W2) (.val Z9)) (.tup (.cons (.val W2) (.int .i64))) [] (fun v=>zks N v.1 v.2) (by kernel_rfl)
def zjx:SC PG:=fz (E0 [] [] []) Tryz.func261 [] (.cons .str .str) .bool [] (fun v=>zdx N v.1 v.2) (by kernel_rfl)
def y5z:SC PG:=fz (E0 [] [] []) Tryz.func300 [] .nil (.val Z2) [] (fun _=>zmd N) (by kernel_rfl)
def za7:SC PG:=fz (E0 [] [] [zjx N,z47 N,y5z N]) Tryz.func262 [] (.cons (.val Z2) (.val Z2)) (.val Z2) [] (fun v=>z32 N v.1 v.2) (by kernel_rfl)
def zqy:SE PG:=E0 [] [] [za7 N]
def zu1:SL PG Tryz.f281.ntmps (Z8 Tryz.f281):=lz N (zqy N) [] 58 ⟨[1,2,5,6,7],(.cons (.list .str) (.cons (.ptr 2000000 0) (.cons (.own 2000001) (.cons .str (.int .i64))))),[(2000000,[2], .boxV Z2),(2000001,[5], .sl Z2)],[]⟩ (2,⟨[2,5,6],(.cons (.ptr 2000000 0) (.cons (.own 2000001) .str)),[(2000000,[2], .boxV Z2),(2000001,[5], .sl Z2)],[]⟩) [] (z8y N N) (z2u N) (fun f v=>f v.1.1 v.1.2.2.2.1 v.1.2.2.2.2 v.2.1 v.2.2.1) (fun r b0 b1 b2 b3 b4=>r ((b0,((),((),(b1,b2)))),(b3,(b4,())))) rfl (fun _=>rfl) (fun _ _=>rfl) (by kernel_rfl)
def znj:SC PG:=fz (zqy N) Tryz.func281 [zu1 N] (.cons (.val Z2) (.list .str)) (.fresh Z2) [] (fun v=>zej N v.1 v.2) (by kernel_rfl)
def znd:SC PG:=fz (E0 [] [] [znj N]) Tryz.func237 [] (.cons (.val Y0) (.val Z2)) (.fresh Z2) [] (fun v=>z96 N v.1 v.2) (by kernel_rfl)
def zlh:SE PG:=E0 [(J5,[2000001,2000002,2000003,2000004,2000005])] [] [zg1 N,znd N]
def zwq:SL PG Tryz.f251.ntmps (Z8 Tryz.f251):=pz (zlh N) [] 489 ⟨[1,2,4,5,7,8],(.cons (.list (.int .i64)) (.cons (.ptr 2000000 0) (.cons (.ptr 2000001 0) yjp))),[(2000000,[2], .boxV W2),(2000001,[4], .boxC [.nils, .nils, .nils, .nils, .nils, .str [], .str [], .int .i64 0]),(2000002,[5], .boxV Y0),(2000003,[7], .boxV Z2)],[]⟩ (1,⟨[4],(.ptr 2000000 0),[(2000000,[4], .box yq2),(2000001,[4,0], .sl Y2),(2000002,[4,1], .sl .str),(2000003,[4,2], .sl (.int .i64)),(2000004,[4,3], .sl J9),(2000005,[4,4], .sl Z9)],[]⟩) [(0,⟨[1,2,4,5,6,7,8],yq3,[(2000000,[2], .boxV W2),(2000001,[4], .boxC [.nils, .nils, .nils, .nils, .nils, .str [], .str [], .int .i64 0]),(2000002,[5], .boxV Y0),(2000003,[7], .boxV Z2)],[]⟩)] (fun v=>zjz N v.1.1 v.1.2.2.2.2.2 v.2.1 v.2.2.2.1 v.2.2.2.2.1) (by kernel_rfl)
def zwr:SL PG Tryz.f251.ntmps (Z8 Tryz.f251):=lz N (zlh N) [zwq N] 122 ⟨[1,2,4,5,6,7,8],yq3,[(2000000,[2], .boxV W2),(2000001,[4], .boxC [.nils, .nils, .nils, .nils, .nils, .str [], .str [], .int .i64 0]),(2000002,[5], .boxV Y0),(2000003,[7], .boxV Z2)],[]⟩ (1,⟨[4],(.ptr 2000000 0),[(2000000,[4], .box yq2),(2000001,[4,0], .sl Y2),(2000002,[4,1], .sl .str),(2000003,[4,2], .sl (.int .i64)),(2000004,[4,3], .sl J9),(2000005,[4,4], .sl Z9)],[]⟩) [(2,⟨[4,5,6,7],(.cons (.ptr 2000000 0) (.cons (.ptr 2000001 0) (.cons (.int .i64) (.ptr 2000002 0)))),[(2000000,[4], .boxC [.nils, .nils, .nils, .nils, .nils, .str [], .str [], .int .i64 0]),(2000001,[5], .boxV Y0),(2000002,[7], .boxV Z2)],[]⟩)] (zah N N) (z3s N) (fun f v=>f v.1.1 v.1.2.2.2.2.1 v.1.2.2.2.2.2.2 v.2.1 v.2.2.2.1 v.2.2.2.2.1) (fun r b0 b1 b2 b3 b4 b5=>r ((b0,((),((),((),(b1,((),b2)))))),(b3,((),(b4,(b5,())))))) rfl (fun _=>rfl) (fun _ _=>rfl) (by kernel_rfl)
def za5:SC PG:=fz (zlh N) Tryz.func251 [zwr N] (.cons (.val W2) (.list (.int .i64))) (.val zln) [] (fun v=>z9e N v.1 v.2) (by kernel_rfl)
def y5r:SC PG:=fz (E0 [] [] []) Tryz.func252 [] (.cons (.val Y0) (.val z3i)) .bool [] (fun v=>zm9 N v.1 v.2) (by kernel_rfl)
def zxc:SC PG:=fz (E0 [(J5,[12])] [] []) Tryz.func253 [] (.cons (.list (.int .i64)) (.int .i64)) (.list (.int .i64)) [] (fun v=>zdg N v.1 v.2) (by kernel_rfl)
def z63(self:Y6->(List Int)->Bool->Option (J1)):Ctr:=zmp (.cons (.val W2) (.cons (.list (.int .i64)) .bool)) (.val zgn) [] (fun v=>self v.1 v.2.1 v.2.2)
def zqn(self:Y6->(List Int)->Bool->Option (J1))(hs:z6p PG 207 fun xs=>(z63 self).run xs some):SE PG:=E0 [] [] [⟨207,z63 self,hs⟩,za5 N,y5r N,zxc N]
def zt7(self:Y6->(List Int)->Bool->Option (J1))(hs:z6p PG 207 fun xs=>(z63 self).run xs some):SL PG Tryz.f207.ntmps (Z8 Tryz.f207):=lz N (zqn N self hs) [] 250 ⟨[1,2,3,6,7,8],(.cons (.list (.int .i64)) (.cons .bool Sh6_)),[(2000000,[3], .boxV W2),(2000001,[6], .boxC [.nils, .bool false]),(2000002,[7], .boxV zln)],[]⟩ (1,⟨[6],(.ptr 2000000 0),[(2000000,[6], .boxV zgn)],[]⟩) [(2,⟨[6],(.ptr 2000000 0),[(2000000,[6], .boxC [.nils, .bool false])],[]⟩)] (G8 N self N) (z29 N self) (fun f v=>f v.1.1 v.1.2.1 v.1.2.2.2.2.2 v.2.1 v.2.2.2.1) (fun r b0 b1 b2 b3 b4=>r ((b0,(b1,((),((),((),b2))))),(b3,((),(b4,()))))) rfl (fun _=>rfl) (fun _ _=>rfl) (by kernel_rfl)
def y20(self:Y6->(List Int)->Bool->Option (J1))(hs:z6p PG 207 fun xs=>(z63 self).run xs some):SC PG:=fz (zqn N self hs) Tryz.func207 [zt7 N self hs] (.cons (.val W2) (.cons (.list (.int .i64)) .bool)) (.val zgn) [] (fun v=>z5y N self v.1 v.2.1 v.2.2) (by kernel_rfl)
def y1c:SC PG:=recz (f:=207) z63 (fun _ _ _=>none) (z5y N) (y3a fun _=>rfl) (fun self hs=>(y20 N self hs).h) N
def zqo:SE PG:=E0 [] [] []
def zta:SL PG Tryz.f292.ntmps (Z8 Tryz.f292):=lz N (zqo) [] 250 ⟨[0,5,6,7],(.cons (.int .i64) (.cons (.int .i64) Sh9_)),[(2000000,[6], .sl (.int .i64))],[]⟩ (2,⟨[6],(.own 2000000),[(2000000,[6], .sl (.int .i64))],[]⟩) [] (z8h N N) (z2a N) (fun f v=>f v.1.1 v.1.2.1 v.1.2.2.2 v.2.1) (fun r b0 b1 b2 b3=>r ((b0,(b1,((),b2))),(b3,()))) rfl (fun _=>rfl) (fun _ _=>rfl) (by kernel_rfl)
def znc:SC PG:=fz (zqo) Tryz.func292 [zta N] (.cons (.int .i64) (.int .i64)) (.fresh (.int .i64)) [] (fun v=>z5i N v.1 v.2) (by kernel_rfl)
def znt:SE PG:=E0 [] [] [znc N]
def zrh:SL PG Tryz.f290.ntmps (Z8 Tryz.f290):=lz N (znt N) [] 122 ⟨[0,5,6,7,8],(.cons (.list Y2) (.cons (.own 2000000) (.cons (.int .i64) y6h))),[(2000000,[5], .sl (.list Y2)),(2000001,[7], .sl (.int .i64))],[]⟩ (2,⟨[5],(.own 2000000),[(2000000,[5], .sl (.list Y2))],[]⟩) [] (z7c N N) (z12 N) (fun f v=>f v.1.1 v.1.2.2.1 v.1.2.2.2.2 v.2.1 v.2.2.1) (fun r b0 b1 b2 b3 b4=>r ((b0,((),(b1,((),b2)))),(b3,(b4,())))) rfl (fun _=>rfl) (fun _ _=>rfl) (by kernel_rfl)
def y0g:SC PG:=fz (znt N) Tryz.func290 [zrh N] (.cons (.list Y2) (.int .i64)) (.fresh (.list Y2)) [] (fun v=>zg8 N v.1 v.2) (by kernel_rfl)
def zv3:SE PG:=E0 [(J5,[17,2000002,2000003,2000004])] [] [y0g N]
def zws:SL PG Tryz.f254.ntmps (Z8 Tryz.f254):=lz N (zv3 N) [] 250 ⟨[4,5,6,7],(.cons (.ptr 2000000 0) (.cons (.own 2000001) (.cons (.ptr 2000002 0) (.int .i64)))),[(2000000,[4], .boxC [.nils, .nils, .nils]),(2000001,[5], .sl (.list Y2)),(2000002,[6], .box (.cons (.own 2000003) (.cons (.own 2000004) (.own 2000005)))),(2000003,[6,0], .sl Y0),(2000004,[6,1], .sl .str),(2000005,[6,2], .sl Z9)],[]⟩ (2,⟨[4,6],Sh2_,[(2000000,[4], .boxC [.nils, .nils, .nils]),(2000001,[6], .box yne),(2000002,[6,0], .sl Y0),(2000003,[6,1], .sl .str),(2000004,[6,2], .sl Z9)],[]⟩) [] (zai N N) (z3t N) (fun f v=>f v.1.2.2.2 v.2.2.1 v.2.2.2.2.1 v.2.2.2.2.2.1 v.2.2.2.2.2.2.1) (fun r b0 b1 b2 b3 b4=>r (((),((),((),b0))),((),(b1,(((),((),())),(b2,(b3,(b4,())))))))) rfl (fun _=>rfl) (fun _ _=>rfl) (by kernel_rfl)
def zq4:SC PG:=fz (zv3 N) Tryz.func254 [zws N] (.cons (.val Y0) (.val z3i)) (.val zkf) [] (fun v=>zdi N v.1 v.2) (by kernel_rfl)
def zzg:SE PG:=E0 [(J5,[2000001,2000002])] [] [zl9 N]
def y01:SL PG Tryz.f296.ntmps (Z8 Tryz.f296):=lz N (zzg N) [] 58 ⟨[1,4,5,6],(.cons (.list Y0) Sh4_),[(2000000,[4], .boxC [.nils, .nils, .int .i64 0]),(2000001,[5], .box (.cons (.list Y9) (.cons (.own 2000002) (.int .i64)))),(2000002,[5,1], .sl (.int .i64))],[]⟩ (1,⟨[4],(.ptr 2000000 0),[(2000000,[4], .box yjo),(2000001,[4,0], .sl Y9),(2000002,[4,1], .sl (.int .i64))],[]⟩) [(2,⟨[4,5],Sh2_,[(2000000,[4], .boxC [.nils, .nils, .int .i64 0]),(2000001,[5], .box (.cons (.list Y9) (.cons (.own 2000002) (.int .i64)))),(2000002,[5,1], .sl (.int .i64))],[]⟩)] (z5e N N) (z54 N) (fun f v=>f v.1.1 v.1.2.2.2 v.2.2.1.1 v.2.2.1.2.2 v.2.2.2.1) (fun r b0 b1 b2 b3 b4=>r ((b0,((),((),b1))),((),((b2,((),b3)),(b4,()))))) rfl (fun _=>rfl) (fun _ _=>rfl) (by kernel_rfl)
def zuj:SC PG:=fz (zzg N) Tryz.func296 [y01 N] (.cons (.val (.list Y9)) (.list Y0)) (.val zke) [] (fun v=>ze7 N v.1 v.2) (by kernel_rfl)
def zqz:SE PG:=E0 [] [] []
def zu6:SL PG Tryz.f325.ntmps (Z8 Tryz.f325):=pz (zqz) [] 31 ⟨[0,1,4,5,6],(.cons .str (.cons (.int .i64) (.cons (.ptr 2000000 0) (.cons (.ptr 2000001 0) .str)))),[(2000000,[4], .boxC [.str [], .int .i64 0, .int .i64 0, .str []]),(2000001,[5], .boxV z1s)],[]⟩ (1,⟨[4],(.ptr 2000000 0),[(2000000,[4], .boxV z1s)],[]⟩) [] (fun v=>z4e N v.1.1 v.1.2.1 v.1.2.2.2.2 v.2.2.1) (by kernel_rfl)
def y1y:SC PG:=fz (zqz) Tryz.func325 [zu6 N] (.cons .str (.int .i64)) (.val z1s) [] (fun v=>zjf N v.1 v.2) (by kernel_rfl)
def zr2:SE PG:=E0 [] [] []
def zu9:SL PG Tryz.f327.ntmps (Z8 Tryz.f327):=lz N (zr2) [] 58 ⟨[0,4,5,6],(.cons .str (.cons (.own 2000000) (.cons .str (.int .i64)))),[(2000000,[4], .sl .str)],[]⟩ (2,⟨[4,5],(.cons (.own 2000000) .str),[(2000000,[4], .sl .str)],[]⟩) [] (z91 N N) (z2y N) (fun f v=>f v.1.1 v.1.2.2.1 v.1.2.2.2 v.2.1) (fun r b0 b1 b2 b3=>r ((b0,((),(b1,b2))),(b3,()))) rfl (fun _=>rfl) (fun _ _=>rfl) (by kernel_rfl)
def y1z:SC PG:=fz (zr2) Tryz.func327 [zu9 N] .str (.tup (.cons (.fresh .str) .bool)) [] (fun v=>zjg N v) (by kernel_rfl)
def zva:SE PG:=E0 [] [] []
def zx6:SL PG Tryz.f71.ntmps (Z8 Tryz.f71):=lz N (zva) [] 58 ⟨[0,3],(.cons .str (.int .i64)),[],[]⟩ (1,⟨[2], .bool,[],[]⟩) [(2,⟨[], .nil,[],[]⟩)] (zaq N N) (z43 N) (fun f v=>f v.1.1 v.1.2) (fun r b0 b1=>r ((b0,b1),())) rfl (fun _=>rfl) (fun _ _=>rfl) (by kernel_rfl)
def zjy:SC PG:=fz (zva) Tryz.func71 [zx6 N] .str .bool [] (fun v=>z9g N v) (by kernel_rfl)
def zr0:SE PG:=E0 [] [] [y1z N,zjy N]
def zu7:SL PG Tryz.f320.ntmps (Z8 Tryz.f320):=lz N (zr0 N) [] 58 ⟨[3,4,5],(.cons (.own 2000000) (.cons .bool (.int .i64))),[(2000000,[3], .sl .str)],[]⟩ (1,⟨[2], .bool,[],[]⟩) [(2,⟨[4], .bool,[],[]⟩)] (z8z N N) (z2w N) (fun f v=>f v.1.2.1 v.1.2.2 v.2.1) (fun r b0 b1 b2=>r (((),(b0,b1)),(b2,()))) rfl (fun _=>rfl) (fun _ _=>rfl) (by kernel_rfl)
def znk:SC PG:=fz (zr0 N) Tryz.func320 [zu7 N] .str .bool [] (fun v=>z99 N v) (by kernel_rfl)
def zvb:SE PG:=E0 [] [] []
def zx7:SL PG Tryz.f328.ntmps (Z8 Tryz.f328):=lz N (zvb) [] 122 ⟨[0,3,4],(.cons (.int .i64) (.cons .str (.int .i64))),[],[]⟩ (2,⟨[3], .str,[],[]⟩) [] (zar N N) (z44 N) (fun f v=>f v.1.1 v.1.2.1 v.1.2.2) (fun r b0 b1 b2=>r ((b0,(b1,b2)),())) rfl (fun _=>rfl) (fun _ _=>rfl) (by kernel_rfl)
def y60:SC PG:=fz (zvb) Tryz.func328 [zx7 N] (.int .i64) .str [] (fun v=>zme N v) (by kernel_rfl)
def zo2:SE PG:=E0 [] [] [y60 N]
def zrx:SL PG Tryz.f321.ntmps (Z8 Tryz.f321):=lz N (zo2 N) [] 122 ⟨[0,3,4],(.cons .str zpw),[],[]⟩ (2,⟨[0,3],(.cons .str (.int .i64)),[],[]⟩) [] (z7l N N) (z1f N) (fun f v=>f v.1.1 v.1.2.1 v.1.2.2) (fun r b0 b1 b2=>r ((b0,(b1,b2)),())) rfl (fun _=>rfl) (fun _ _=>rfl) (by kernel_rfl)
def zlw:SC PG:=fz (zo2 N) Tryz.func321 [zrx N] .str .bool [] (fun v=>z9v N v) (by kernel_rfl)
def zka:SE PG:=E0 [] [] [znk N,zlw N,zjy N]
def zu4:SL PG Tryz.f329.ntmps (Z8 Tryz.f329):=pz (zka N) [] 13 ⟨[1,32],(.cons (.ptr 2000000 0) .bool),[(2000000,[1], .boxV z1s)],[]⟩ (1,⟨[2], .bool,[],[]⟩) [(0,⟨[1],(.ptr 2000000 0),[(2000000,[1], .boxV z1s)],[]⟩)] (fun v=>J3 N v.1.2 v.2.1) (by kernel_rfl)
def zu5:SL PG Tryz.f329.ntmps (Z8 Tryz.f329):=pz (zka N) [] 7 ⟨[1],(.ptr 2000000 0),[(2000000,[1], .boxV z1s)],[]⟩ (1,⟨[2], .bool,[],[]⟩) [] (fun v=>K2 N v.2.1) (by kernel_rfl)
def y1x:SC PG:=fz (zka N) Tryz.func329 [zu4 N,zu5 N] (.val z1s) .bool [] (fun v=>zje N v) (by kernel_rfl)
def y8e:SC PG:=fz (E0 [] [] [y1x N]) Tryz.func326 [] (.val z1s) (.tup (.cons .str (.int .i64))) [] (fun v=>zph N v) (by kernel_rfl)
def zr1:SE PG:=E0 [] [] [y1y N,y8e N]
def zu8:SL PG Tryz.f319.ntmps (Z8 Tryz.f319):=lz N (zr1 N) [] 26 ⟨[0,2,4],(.cons .str Sh5_),[(2000000,[2], .boxC [.str [], .int .i64 0, .int .i64 0, .str []])],[]⟩ (1,⟨[2,3],Sh5_,[(2000000,[2], .boxV z1s)],[]⟩) [(2,⟨[2],(.ptr 2000000 0),[(2000000,[2], .boxC [.str [], .int .i64 0, .int .i64 0, .str []])],[]⟩)] (z90 N N) (z2x N) (fun f v=>f v.1.1 v.1.2.2) (fun r b0 b1=>r ((b0,((),b1)),((),()))) rfl (fun _=>rfl) (fun _ _=>rfl) (by kernel_rfl)
def znl:SC PG:=fz (zr1 N) Tryz.func319 [zu8 N] .str (.tup (.cons (.val z1s) (.int .i64))) [] (fun v=>zel N v) (by kernel_rfl)
def y0p:SC PG:=fz (E0 [] [] [znl N]) Tryz.func307 [] (.val Y2) (.val zhv) [] (fun v=>zgd N v) (by kernel_rfl)
def zqx:SE PG:=E0 [] [] [y0p N]
def zu0:SL PG Tryz.f283.ntmps (Z8 Tryz.f283):=lz N (zqx N) [] 58 ⟨[0,2,3,4],(.cons (.list Y2) Sh4_),[(2000000,[2], .boxC [.int .i64 0, .int .i64 0]),(2000001,[3], .boxV zhv)],[]⟩ (2,⟨[2,3],Sh2_,[(2000000,[2], .boxC [.int .i64 0, .int .i64 0]),(2000001,[3], .boxV zhv)],[]⟩) [] (z8x N N) (z2t N) (fun f v=>f v.1.1 v.1.2.2.2 v.2.2.1) (fun r b0 b1 b2=>r ((b0,((),((),b1))),((),(b2,())))) rfl (fun _=>rfl) (fun _ _=>rfl) (by kernel_rfl)
def y1v:SC PG:=fz (zqx N) Tryz.func283 [zu0 N] (.list Y2) (.val zhv) [] (fun v=>zjc N v) (by kernel_rfl)
def y1k:SC PG:=fz (E0 [] [] []) Tryz.func282 [] (.val zhv) (.val J9) [] (fun v=>zod N v) (by kernel_rfl)
def y5q:SC PG:=fz (E0 [] [] []) Tryz.func284 [] (.cons (.val J9) (.val J9)) (.val J9) [] (fun v=>zse N v.1 v.2) (by kernel_rfl)
def zxe:SC PG:=fz (E0 [] [] [znl N]) Tryz.func308 [] .str .bool [] (fun v=>zam N v) (by kernel_rfl)
def y0j:SC PG:=fz (E0 [] [] []) Tryz.func309 [] (.cons (.val z6w) (.int .i64)) (.val z6w) [] (fun v=>z5g N v.1 v.2) (by kernel_rfl)
def y1h:SC PG:=fz (E0 [] [] []) Tryz.func310 [] (.cons (.val z6w) (.int .i64)) (.val z6w) [] (fun v=>zbn N v.1 v.2) (by kernel_rfl)
def zk6:SE PG:=E0 [] [] [znk N,zlw N]
def zto:SL PG Tryz.f311.ntmps (Z8 Tryz.f311):=pz (zk6 N) [] 15 ⟨[0,1,5,6],(.cons .str (.cons .str (.cons .bool .bool))),[],[]⟩ (1,⟨[4], .bool,[],[]⟩) [] (fun v=>z4b N v.1.1 v.1.2.1 v.1.2.2.1 v.1.2.2.2) (by kernel_rfl)
def ztp:SL PG Tryz.f311.ntmps (Z8 Tryz.f311):=pz (zk6 N) [zto N] 7 ⟨[0,1,5],(.cons .str (.cons .str .bool)),[],[]⟩ (1,⟨[4], .bool,[],[]⟩) [] (fun v=>z4c N v.1.1 v.1.2.1 v.1.2.2) (by kernel_rfl)
def y1l:SC PG:=fz (zk6 N) Tryz.func311 [ztp N] (.cons .str .str) .bool [] (fun v=>zeh N v.1 v.2) (by kernel_rfl)
def y0k:SC PG:=fz (E0 [] [] [zxe N,y0j N,y1h N,y1l N]) Tryz.func285 [] (.cons (.val J9) (.val Z9)) (.val J9) [] (fun v=>z71 N v.1 v.2) (by kernel_rfl)
def zoi:SE PG:=E0 [] [] [y1v N,y1k N,y5q N,y0k N]
def y06:SL PG Tryz.f238.ntmps (Z8 Tryz.f238):=lz N (zoi N) [] 250 ⟨[1,2,3,5],Sh6_,[(2000000,[1], .boxV Y0),(2000001,[2], .boxC [.int .i64 0, .int .i64 0, .int .i64 0, .int .i64 0]),(2000002,[3], .boxV J9)],[]⟩ (4,⟨[2,3],Sh2_,[(2000000,[2], .boxC [.int .i64 0, .int .i64 0, .int .i64 0, .int .i64 0]),(2000001,[3], .boxV J9)],[]⟩) [] (zcf N N) (z58 N) (fun f v=>f v.1.2.2.2 v.2.1 v.2.2.2.1) (fun r b0 b1 b2=>r (((),((),((),b0))),(b1,((),(b2,()))))) rfl (fun _=>rfl) (fun _ _=>rfl) (by kernel_rfl)
def y07:SL PG Tryz.f238.ntmps (Z8 Tryz.f238):=lz N (zoi N) [] 122 ⟨[1,2,3,4],Sh6_,[(2000000,[1], .boxV Y0),(2000001,[2], .boxC [.int .i64 0, .int .i64 0, .int .i64 0, .int .i64 0]),(2000002,[3], .boxV J9)],[]⟩ (2,⟨[1,2,3],y3n,[(2000000,[1], .boxV Y0),(2000001,[2], .boxC [.int .i64 0, .int .i64 0, .int .i64 0, .int .i64 0]),(2000002,[3], .boxV J9)],[]⟩) [] (zcg N N) (z59 N) (fun f v=>f v.1.2.2.2 v.2.1 v.2.2.2.1) (fun r b0 b1 b2=>r (((),((),((),b0))),(b1,((),(b2,()))))) rfl (fun _=>rfl) (fun _ _=>rfl) (by kernel_rfl)
def zuk:SC PG:=fz (zoi N) Tryz.func238 [y07 N,y06 N] (.val Y0) (.val J9) [] (fun v=>zkt N v) (by kernel_rfl)
def zv2:SE PG:=E0 [] [] [zuk N]
def zwp:SL PG Tryz.f312.ntmps (Z8 Tryz.f312):=lz N (zv2 N) [] 58 ⟨[0,3,4],(.cons (.list Y0) Sh9_),[(2000000,[3], .sl J9)],[]⟩ (2,⟨[3],(.own 2000000),[(2000000,[3], .sl J9)],[]⟩) [] (zag N N) (z3r N) (fun f v=>f v.1.1 v.1.2.2 v.2.1) (fun r b0 b1 b2=>r ((b0,((),b1)),(b2,()))) rfl (fun _=>rfl) (fun _ _=>rfl) (by kernel_rfl)
def y5k:SC PG:=fz (zv2 N) Tryz.func312 [zwp N] (.list Y0) (.fresh J9) [] (fun v=>zm6 N v) (by kernel_rfl)
def znb:SC PG:=fz (E0 [(J5,[23,40,55,63])] [] [y5k N]) Tryz.func297 [] (.cons (.val Y0) (.cons (.int .i64) (.cons (.val zep) (.list (.int .i64))))) (.val Y0) [] (fun v=>z95 N v.1 v.2.1 v.2.2.1 v.2.2.2) (by kernel_rfl)
def zns:SE PG:=E0 [(J5,[2000000])] [] [zuk N]
def zrg:SL PG Tryz.f312.ntmps (Z8 Tryz.f312):=lz N (zns N) [] 58 ⟨[0,3,4],(.cons (.list Y0) Sh9_),[(2000000,[3], .sl J9)],[]⟩ (2,⟨[3],(.own 2000000),[(2000000,[3], .sl J9)],[]⟩) [] (z7b N N) (z87 N) (fun f v=>f v.1.1 v.1.2.2 v.2.1) (fun r b0 b1 b2=>r ((b0,((),b1)),(b2,()))) rfl (fun _=>rfl) (fun _ _=>rfl) (by kernel_rfl)
def y0f:SC PG:=fz (zns N) Tryz.func312 [zrg N] (.list Y0) (.list J9) [] (fun v=>zg7 N v) (by kernel_rfl)
def zjw:SC PG:=fz (E0 [(J5,[13])] [] [za6 N,zes N]) Tryz.func91 [] (.cons (.val (.list Y9)) (.int .i64)) (.tup (.cons (.val (.list Y9)) (.int .i64))) [] (fun v=>z9f N v.1 v.2) (by kernel_rfl)
def zzf:SE PG:=E0 [] [] [zd4 N]
def y00:SL PG Tryz.f298.ntmps (Z8 Tryz.f298):=lz N (zzf N) [] 26 ⟨[1,2,4,5],(.cons (.list (.int .i64)) Sh4_),[(2000000,[2], .box (.list Y9)),(2000001,[4], .boxC [.nils])],[]⟩ (2,⟨[2,4],Sh2_,[(2000000,[2], .box (.list Y9)),(2000001,[4], .boxC [.nils])],[]⟩) [] (zcd N N) (z52 N) (fun f v=>f v.1.1 v.1.2.2.2 v.2.1) (fun r b0 b1 b2=>r ((b0,((),((),b1))),(b2,((),())))) rfl (fun _=>rfl) (fun _ _=>rfl) (by kernel_rfl)
def zui:SC PG:=fz (zzf N) Tryz.func298 [y00 N] (.cons (.val (.list Y9)) (.list (.int .i64))) (.val (.list Y9)) [] (fun v=>zhn N v.1 v.2) (by kernel_rfl)
def zjk:SE PG:=E0 [(19,[2000003]),(2000114,[113]),(3000084,[84])] [] [zuj N,za5 N,znb N,y0f N,zjw N,zui N]
def zzx:SL PG Tryz.f291.ntmps (Z8 Tryz.f291):=pz (zjk N) [] 30845 ⟨[3,5,6,8,9,11,12,72],(.cons (.ptr 2000000 0) (.cons (.ptr 2000001 0) (.cons (.ptr 2000002 0) (.cons (.ptr 2000003 0) (.cons (.own 2000004) (.cons (.ptr 2000005 0) (.cons (.int .i64) .bool))))))),[(2000000,[3], .boxV W2),(2000001,[5], .box (.cons (.list Y0) (.cons (.list .str) (.list Z9)))),(2000002,[6], .boxC [.nils, .int .i64 0, .int .i64 0, .int .i64 0, .int .i64 0]),(2000003,[8], .box (.list Y9)),(2000004,[9], .sl (.int .i64)),(2000005,[11], .boxV zke)],[]⟩ (1,⟨[6,7],Sh5_,[(2000000,[6], .boxV W2)],[]⟩) [(0,⟨[3,6,8,9,12],yjr,[(2000000,[3], .boxV W2),(2000001,[6], .boxC [.nils, .int .i64 0, .int .i64 0, .int .i64 0, .int .i64 0]),(2000002,[8], .box (.list Y9)),(2000003,[9], .sl (.int .i64))],[]⟩)] (fun v=>z9p N v.1.2.2.2.2.2.2.1 v.1.2.2.2.2.2.2.2 v.2.1 v.2.2.1.1 v.2.2.1.2.1 v.2.2.1.2.2 v.2.2.2.2.1 v.2.2.2.2.2.1 v.2.2.2.2.2.2.1) (by kernel_rfl)
def zzy:SL PG Tryz.f291.ntmps (Z8 Tryz.f291):=pz (zjk N) [] 15423 ⟨[3,6,8,9,12],yjr,[(2000000,[3], .boxV W2),(2000001,[6], .boxC [.nils, .int .i64 0, .int .i64 0, .int .i64 0, .int .i64 0]),(2000002,[8], .box (.list Y9)),(2000003,[9], .sl (.int .i64))],[]⟩ (1,⟨[6,7],Sh5_,[(2000000,[6], .boxV W2)],[]⟩) [] (fun v=>z9q N v.1.2.2.2.2 v.2.1 v.2.2.2.1 v.2.2.2.2.1) (by kernel_rfl)
def zzz:SL PG Tryz.f291.ntmps (Z8 Tryz.f291):=lz N (zjk N) [zzx N,zzy N] 30 ⟨[1,3,5,6,8,9,10],(.cons (.list (.int .i64)) (.cons (.ptr 2000000 0) (.cons (.ptr 2000001 0) (.cons (.ptr 2000002 0) (.cons (.ptr 2000003 0) (.cons (.own 2000004) (.int .i64))))))),[(2000000,[3], .boxV W2),(2000001,[5], .box (.cons (.list Y0) (.cons (.list .str) (.list Z9)))),(2000002,[6], .boxC [.nils, .int .i64 0, .int .i64 0, .int .i64 0, .int .i64 0]),(2000003,[8], .box (.list Y9)),(2000004,[9], .sl (.int .i64))],[61]⟩ (1,⟨[6,7],Sh5_,[(2000000,[6], .boxV W2)],[]⟩) [] (zcc N N) (z50 N) (fun f v=>f v.1.1 v.1.2.2.2.2.2.2 v.2.1 v.2.2.1.1 v.2.2.1.2.1 v.2.2.1.2.2 v.2.2.2.2.1 v.2.2.2.2.2.1) (fun r b0 b1 b2 b3 b4 b5 b6 b7=>r ((b0,((),((),((),((),((),b1)))))),(b2,((b3,(b4,b5)),((),(b6,(b7,()))))))) rfl (fun _=>rfl) (fun _ _=>rfl) (by kernel_rfl)
def zuh:SC PG:=fz (zjk N) Tryz.func291 [zzz N] (.cons (.val W2) (.cons (.list (.int .i64)) (.val zep))) (.tup (.cons (.val W2) (.int .i64))) [] (fun v=>zby N v.1 v.2.1 v.2.2) (by kernel_rfl)
def zzh:SE PG:=E0 [] [] [za5 N,zuh N]
def y02:SL PG Tryz.f255.ntmps (Z8 Tryz.f255):=pz (zzh N) [] 7 ⟨[1,3,5,6],(.cons (.list (.int .i64)) y3n),[(2000000,[3], .boxV W2),(2000001,[5], .boxV zep),(2000002,[6], .boxC [.nils, .int .i64 0, .int .i64 0, .int .i64 0, .int .i64 0])],[]⟩ (1,⟨[6,7],Sh5_,[(2000000,[6], .boxV W2)],[]⟩) [] (fun v=>zlb N v.1.1 v.2.1 v.2.2.1) (by kernel_rfl)
def y89:SC PG:=fz (zzh N) Tryz.func255 [y02 N] (.cons (.val W2) (.cons (.list (.int .i64)) (.val zep))) (.tup (.cons (.val W2) (.int .i64))) [] (fun v=>zho N v.1 v.2.1 v.2.2) (by kernel_rfl)
def zqp:SE PG:=E0 [(J5,[2000002,2000003])] [] [znc N]
def ztb:SL PG Tryz.f256.ntmps (Z8 Tryz.f256):=lz N (zqp N) [] 122 ⟨[2,4,5,6,7,8],(.cons (.ptr 2000000 0) (.cons (.ptr 2000001 0) (.cons (.ptr 2000002 0) (.cons (.int .i64) (.cons (.own 2000005) (.int .i64)))))),[(2000000,[2], .boxV Y0),(2000001,[4], .boxC [.nils, .nils, .nils]),(2000002,[5], .box (.cons (.own 2000003) (.cons (.own 2000004) (.list Z9)))),(2000003,[5,0], .sl Y0),(2000004,[5,1], .sl .str),(2000005,[7], .sl (.int .i64))],[]⟩ (2,⟨[4,5],Sh2_,[(2000000,[4], .boxC [.nils, .nils, .nils]),(2000001,[5], .box (.cons (.own 2000002) (.cons (.own 2000003) (.list Z9)))),(2000002,[5,0], .sl Y0),(2000003,[5,1], .sl .str)],[]⟩) [] (z8i N N) (z2b N) (fun f v=>f v.1.2.2.2.1 v.1.2.2.2.2.2 v.2.1 v.2.2.2.1.2.2 v.2.2.2.2.1 v.2.2.2.2.2.1 v.2.2.2.2.2.2.1) (fun r b0 b1 b2 b3 b4 b5 b6=>r (((),((),((),(b0,((),b1))))),(b2,((),(((),((),b3)),(b4,(b5,(b6,())))))))) rfl (fun _=>rfl) (fun _ _=>rfl) (by kernel_rfl)
def y1e:SC PG:=fz (zqp N) Tryz.func256 [ztb N] (.cons (.val Y0) (.val z3i)) (.val zkf) [] (fun v=>zj5 N v.1 v.2) (by kernel_rfl)
def y1m:SC PG:=fz (E0 [] [] [znj N]) Tryz.func313 [] (.list .str) (.fresh Z2) [] (fun v=>zoe N v) (by kernel_rfl)
def y1n:SC PG:=fz (E0 [] [] []) Tryz.func322 [] (.val Z9) .bool [] (fun v=>zbo N v) (by kernel_rfl)
def zc4:SC PG:=fz (E0 [] [] [z0d N]) Tryz.func213 [] (.val Z9) (.fresh Z2) [] (fun v=>z6t N v) (by kernel_rfl)
def z4l:SC PG:=fz (E0 [] [] [zg2 N,z0d N]) Tryz.func211 [] (.val Z9) (.fresh Z2) [] (fun v=>J7 N v) (by kernel_rfl)
def zlv:SC PG:=fz (E0 [] [] [z47 N,zjx N]) Tryz.func306 [] (.cons (.val Z2) (.val Z2)) .bool [] (fun v=>zcj N v.1 v.2) (by kernel_rfl)
def zv8:SE PG:=E0 [] [] [zc4 N,z4l N,zlv N]
def zwz:SL PG Tryz.f323.ntmps (Z8 Tryz.f323):=lz N (zv8 N) [] 58 ⟨[3,5,6],Sh7_,[(2000000,[3], .boxV Z2),(2000001,[5], .sl Z2)],[]⟩ (1,⟨[4], .bool,[],[]⟩) [(2,⟨[], .nil,[],[]⟩)] (zao N N) (z40 N) (fun f v=>f v.1.2.2 v.2.1 v.2.2.1) (fun r b0 b1 b2=>r (((),((),b0)),(b1,(b2,())))) rfl (fun _=>rfl) (fun _ _=>rfl) (by kernel_rfl)
def y5v:SC PG:=fz (zv8 N) Tryz.func323 [zwz N] (.cons (.val Z9) (.val Z2)) .bool [] (fun v=>zmc N v.1 v.2) (by kernel_rfl)
def zk7:SE PG:=E0 [] [] [za7 N,z47 N]
def ztu:SL PG Tryz.f275.ntmps (Z8 Tryz.f275):=lz N (zk7 N) [] 1682 ⟨[0,1,5,6],(.cons (.list Z2) (.cons (.list Z2) zpw)),[],[]⟩ (1,⟨[4], .bool,[],[]⟩) [(4,⟨[0,1,5],(.cons (.list Z2) (.cons (.list Z2) (.int .i64))),[],[]⟩)] (z8t N N) (z2p N) (fun f v=>f v.1.1 v.1.2.1 v.1.2.2.1 v.1.2.2.2) (fun r b0 b1 b2 b3=>r ((b0,(b1,(b2,b3))),())) rfl (fun _=>rfl) (fun _ _=>rfl) (by kernel_rfl)
def ztv:SL PG Tryz.f275.ntmps (Z8 Tryz.f275):=lz N (zk7 N) [ztu N] 26 ⟨[0,1,5],(.cons (.list Z2) (.cons (.list Z2) (.int .i64))),[],[]⟩ (1,⟨[4], .bool,[],[]⟩) [(2,⟨[], .nil,[],[]⟩)] (z8u N N) (z2q N) (fun f v=>f v.1.1 v.1.2.1 v.1.2.2) (fun r b0 b1 b2=>r ((b0,(b1,b2)),())) rfl (fun _=>rfl) (fun _ _=>rfl) (by kernel_rfl)
def zhe:SC PG:=fz (zk7 N) Tryz.func275 [ztv N] (.cons (.list Z2) (.list Z2)) .bool [] (fun v=>z98 N v.1 v.2) (by kernel_rfl)
def y5u:SC PG:=fz (E0 [] [] [z4l N,zhe N,za7 N]) Tryz.func324 [] (.cons (.val Z9) (.val Z2)) (.fresh Z9) [] (fun v=>zi5 N v.1 v.2) (by kernel_rfl)
def zo0:SE PG:=E0 [] [] [z47 N]
def zrv:SL PG Tryz.f260.ntmps (Z8 Tryz.f260):=lz N (zo0 N) [] 58 ⟨[0,3,5,6,7],(.cons (.list Z2) yjq),[(2000000,[3], .boxV Z2),(2000001,[5], .sl Z2)],[]⟩ (2,⟨[3,5,6],(.cons (.ptr 2000000 0) (.cons (.own 2000001) .bool)),[(2000000,[3], .boxV Z2),(2000001,[5], .sl Z2)],[]⟩) [] (z7k N N) (z1d N) (fun f v=>f v.1.1 v.1.2.2.2.1 v.1.2.2.2.2 v.2.1 v.2.2.1) (fun r b0 b1 b2 b3 b4=>r ((b0,((),((),(b1,b2)))),(b3,(b4,())))) rfl (fun _=>rfl) (fun _ _=>rfl) (by kernel_rfl)
def y0q:SC PG:=fz (zo0 N) Tryz.func260 [zrv N] (.cons (.list Z2) (.val Z2)) (.fresh Z2) [] (fun v=>zge N v.1 v.2) (by kernel_rfl)
def zgj:SE PG:=E0 [] [] [y0q N,zjx N]
def zx3:SL PG Tryz.f209.ntmps (Z8 Tryz.f209):=pz (zgj N) [] 7827 ⟨[3,4,6,7,53],(.cons (.own 2000000) (.cons (.own 2000001) (.cons (.int .i64) (.cons (.int .i64) .bool)))),[(2000000,[3], .sl Z2),(2000001,[4], .sl Z2)],[]⟩ (0,⟨[3,4,6],(.cons (.own 2000000) y6h),[(2000000,[3], .sl Z2),(2000001,[4], .sl Z2)],[]⟩) [] (fun v=>z3d N v.1.2.2.1 v.1.2.2.2.1 v.1.2.2.2.2 v.2.1 v.2.2.1) (by kernel_rfl)
def zx4:SL PG Tryz.f209.ntmps (Z8 Tryz.f209):=lz N (zgj N) [zx3 N] 122 ⟨[3,4,6],(.cons (.own 2000000) y6h),[(2000000,[3], .sl Z2),(2000001,[4], .sl Z2)],[]⟩ (4,⟨[4],(.own 2000000),[(2000000,[4], .sl Z2)],[]⟩) [] (z7w N N) (z42 N) (fun f v=>f v.1.2.2 v.2.1 v.2.2.1) (fun r b0 b1 b2=>r (((),((),b0)),(b1,(b2,())))) rfl (fun _=>rfl) (fun _ _=>rfl) (by kernel_rfl)
def zx5:SL PG Tryz.f209.ntmps (Z8 Tryz.f209):=lz N (zgj N) [] 58 ⟨[0,3,4,5],(.cons (.list Z2) (.cons (.own 2000000) y6h)),[(2000000,[3], .sl Z2),(2000001,[4], .sl Z2)],[]⟩ (2,⟨[3,4],(.cons (.own 2000000) (.own 2000001)),[(2000000,[3], .sl Z2),(2000001,[4], .sl Z2)],[]⟩) [] (z7x N N) (u7 N) (fun f v=>f v.1.1 v.1.2.2.2 v.2.1 v.2.2.1) (fun r b0 b1 b2 b3=>r ((b0,((),((),b1))),(b2,(b3,())))) rfl (fun _=>rfl) (fun _ _=>rfl) (by kernel_rfl)
def zd5:SC PG:=fz (zgj N) Tryz.func209 [zx5 N,zx4 N] (.list Z2) (.fresh Z2) [] (fun v=>z1e N v) (by kernel_rfl)
def zk9:SE PG:=E0 [] [] [zd5 N,z47 N,za7 N]
def zu2:SL PG Tryz.f210.ntmps (Z8 Tryz.f210):=lz N (zk9 N) [] 29850 ⟨[1,5,6,7,8],(.cons (.list Z2) (.cons (.own 2000000) (.cons (.int .i64) y6h))),[(2000000,[5], .sl Z2),(2000001,[7], .sl Z2)],[]⟩ (4,⟨[1,6,7],(.cons (.list Z2) (.cons (.int .i64) (.own 2000000))),[(2000000,[7], .sl Z2)],[]⟩) [] (z6b N N) (z2v N) (fun f v=>f v.1.1 v.1.2.2.1 v.1.2.2.2.2 v.2.1 v.2.2.1) (fun r b0 b1 b2 b3 b4=>r ((b0,((),(b1,((),b2)))),(b3,(b4,())))) rfl (fun _=>rfl) (fun _ _=>rfl) (by kernel_rfl)
def zu3:SL PG Tryz.f210.ntmps (Z8 Tryz.f210):=lz N (zk9 N) [zu2 N] 58 ⟨[1,5,6],(.cons (.list Z2) Sh9_),[(2000000,[5], .sl Z2)],[]⟩ (2,⟨[5],(.own 2000000),[(2000000,[5], .sl Z2)],[]⟩) [] (z6c N N) (K7 N) (fun f v=>f v.1.1 v.1.2.2 v.2.1) (fun r b0 b1 b2=>r ((b0,((),b1)),(b2,()))) rfl (fun _=>rfl) (fun _ _=>rfl) (by kernel_rfl)
def zhf:SC PG:=fz (zk9 N) Tryz.func210 [zu3 N] (.cons (.list Z2) (.list Z2)) (.fresh Z2) [] (fun v=>K6 N v.1 v.2) (by kernel_rfl)
def znw:SE PG:=E0 [] [] [y1n N,zc4 N,z4l N,y5v N,zhe N,y5u N,zhf N]
def zrp:SL PG Tryz.f314.ntmps (Z8 Tryz.f314):=lz N (znw N) [] 8150 ⟨[3,4,6,9,10],(.cons (.ptr 2000000 0) (.cons (.ptr 2000004 0) (.cons (.ptr 2000005 0) (.cons (.own 2000006) (.int .i64))))),[(2000000,[3], .box (.cons (.own 2000001) (.cons (.own 2000002) (.own 2000003)))),(2000001,[3,0], .sl Z9),(2000002,[3,1], .sl Z9),(2000003,[3,2], .sl Z2),(2000004,[4], .boxV Z9),(2000005,[6], .boxC [.nils, .nils, .nils]),(2000006,[9], .sl Z2)],[]⟩ (2,⟨[3,6],(.cons (.ptr 2000000 0) (.ptr 2000004 0)),[(2000000,[3], .box (.cons (.own 2000001) (.cons (.own 2000002) (.own 2000003)))),(2000001,[3,0], .sl Z9),(2000002,[3,1], .sl Z9),(2000003,[3,2], .sl Z2),(2000004,[6], .boxC [.nils, .nils, .nils])],[]⟩) [] (z4r N N) (z18 N) (fun f v=>f v.1.2.2.2.2 v.2.2.1 v.2.2.2.1 v.2.2.2.2.1 v.2.2.2.2.2.1 v.2.2.2.2.2.2.2.1) (fun r b0 b1 b2 b3 b4 b5=>r (((),((),((),((),b0)))),(((),((),())),(b1,(b2,(b3,(b4,((),(b5,()))))))))) rfl (fun _=>rfl) (fun _ _=>rfl) (by kernel_rfl)
def zzo:SM PG:=mz (znw N) Tryz.func314 [zrp N] ⟨[0,1,2],(.cons (.agg (.cons (.own 5000000) (.cons (.own 5000001) (.own 5000002)))) (.cons (.val Z9) (.val Z2))),[(5000000,[0,0], .sl Z9),(5000001,[0,1], .sl Z9),(5000002,[0,2], .sl Z2)],[]⟩ ⟨[0],(.agg (.cons (.own 2000000) (.cons (.own 2000001) (.own 2000002)))),[(2000000,[0,0], .sl Z9),(2000001,[0,1], .sl Z9),(2000002,[0,2], .sl Z2)],[]⟩ [] (fun v=>z39 N v.1.2.1 v.1.2.2 v.2.1 v.2.2.1 v.2.2.2.1) (by kernel_rfl)
def zqr:SE PG:=E0 [(J5,[2000002,2000003,2000004])] [30] [y1m N] [zzo N]
def ztq:SL PG Tryz.f293.ntmps (Z8 Tryz.f293):=lz N (zqr N) [] 58 ⟨[0,6,7,8,9],(.cons (.list Z9) (.cons (.ptr 2000000 0) (.cons (.ptr 2000001 0) (.cons (.ptr 2000005 0) (.int .i64))))),[(2000000,[6], .boxC [.nils, .nils, .nils]),(2000001,[7], .box yne),(2000002,[7,0], .sl Z9),(2000003,[7,1], .sl Z9),(2000004,[7,2], .sl Z2),(2000005,[8], .boxV Z2)],[]⟩ (2,⟨[6,7],Sh2_,[(2000000,[6], .boxC [.nils, .nils, .nils]),(2000001,[7], .box yne),(2000002,[7,0], .sl Z9),(2000003,[7,1], .sl Z9),(2000004,[7,2], .sl Z2)],[]⟩) [] (z8p N N) (z2m N) (fun f v=>f v.1.1 v.1.2.2.2.2 v.2.2.2.1 v.2.2.2.2.1 v.2.2.2.2.2.1 v.2.2.2.2.2.2.1) (fun r b0 b1 b2 b3 b4 b5=>r ((b0,((),((),((),b1)))),((),(((),((),())),(b2,(b3,(b4,(b5,())))))))) rfl (fun _=>rfl) (fun _ _=>rfl) (by kernel_rfl)
def zng:SC PG:=fz (zqr N) Tryz.func293 [ztq N] (.cons (.list Z9) (.cons (.list .str) (.int .i64))) (.val zom) [] (fun v=>z6s N v.1 v.2.1 v.2.2) (by kernel_rfl)
def zv1:SE PG:=E0 [] [] [zng N]
def zwo:SL PG Tryz.f257.ntmps (Z8 Tryz.f257):=lz N (zv1 N) [] 122 ⟨[1,4,5,6],(.cons (.ptr 2000000 0) (.cons (.int .i64) zpw)),[(2000000,[1], .boxV Y0)],[]⟩ (2,⟨[4,5],zpw,[],[]⟩) [] (z7t N N) (z3q N) (fun f v=>f v.1.2.1 v.1.2.2.1 v.1.2.2.2 v.2.1) (fun r b0 b1 b2 b3=>r (((),(b0,(b1,b2))),(b3,()))) rfl (fun _=>rfl) (fun _ _=>rfl) (by kernel_rfl)
def y5h:SC PG:=fz (zv1 N) Tryz.func257 [zwo N] (.val Y0) (.tup (.cons (.int .i64) (.int .i64))) [] (fun v=>zm3 N v) (by kernel_rfl)
def zxd:SC PG:=fz (E0 [(J5,[24,37,50])] [] []) Tryz.func294 [] (.cons (.val Y0) (.int .i64)) (.val Y0) [] (fun v=>zaf N v.1 v.2) (by kernel_rfl)
def y5l:SC PG:=fz (E0 [] [] []) Tryz.func295 [] (.cons (.val W2) (.cons (.val W2) (.cons (.int .i64) (.int .i64)))) (.val z7q) [] (fun v=>zbg N v.1 v.2.1 v.2.2.1 v.2.2.2) (by kernel_rfl)
def zzi:SE PG:=E0 [] [] [zni N]
def y08:SL PG Tryz.f124.ntmps (Z8 Tryz.f124):=lz N (zzi N) [] 26 ⟨[0,1,5],(.cons (.list Y2) (.cons (.list Z9) (.int .i64))),[],[17]⟩ (2,⟨[0],(.list Y2),[],[]⟩) [] (zci N N) (z5a N) (fun f v=>f v.1.1 v.1.2.1 v.1.2.2) (fun r b0 b1 b2=>r ((b0,(b1,b2)),())) rfl (fun _=>rfl) (fun _ _=>rfl) (by kernel_rfl)
def zul:SC PG:=fz (zzi N) Tryz.func124 [y08 N] (.cons (.list Y2) (.list Z9)) (.list Y2) [] (fun v=>zkv N v.1 v.2) (by kernel_rfl)
def zk4:SE PG:=E0 [(17,[84]),(24,[2000005]),(27,[2000006,2000007]),(3000125,[125]),(3000164,[164])] [] [za5 N,zg1 N,zng N,zxd N,zuh N,y5l N,zuj N,znb N,zui N,zul N,zq4 N]
def zt8:SL PG Tryz.f258.ntmps (Z8 Tryz.f258):=pz (zk4 N) [] 16383 ⟨[1,2,3,6,8,11,12],(.cons (.list (.int .i64)) (.cons (.int .i64) (.cons (.ptr 2000000 0) (.cons (.ptr 2000001 0) (.cons (.ptr 2000002 0) (.cons (.ptr 2000003 0) (.ptr 2000004 0))))))),[(2000000,[3], .boxV W2),(2000001,[6], .boxC [.nils, .int .i64 0, .int .i64 0, .int .i64 0, .int .i64 0, .int .i64 0, .int .i64 0]),(2000002,[8], .boxV Y0),(2000003,[11], .boxV zom),(2000004,[12], .box (.cons (.list Y0) (.cons (.list .str) (.own 2000007)))),(2000007,[12,2], .sl Z9)],[87]⟩ (1,⟨[6],(.ptr 2000000 0),[(2000000,[6], .boxV z7q)],[]⟩) [] (fun v=>z1m N v.1.1 v.1.2.1 v.2.1 v.2.2.2.1 v.2.2.2.2.1 v.2.2.2.2.2.1.1 v.2.2.2.2.2.1.2.1 v.2.2.2.2.2.2.1) (by kernel_rfl)
def zt9:SL PG Tryz.f258.ntmps (Z8 Tryz.f258):=pz (zk4 N) [zt8 N] 63 ⟨[1,2,3,6,8],(.cons (.list (.int .i64)) (.cons (.int .i64) y3n)),[(2000000,[3], .boxV W2),(2000001,[6], .boxC [.nils, .int .i64 0, .int .i64 0, .int .i64 0, .int .i64 0, .int .i64 0, .int .i64 0]),(2000002,[8], .boxV Y0)],[]⟩ (1,⟨[6],(.ptr 2000000 0),[(2000000,[6], .boxV z7q)],[]⟩) [] (fun v=>zhg N v.1.1 v.1.2.1 v.2.1 v.2.2.2.1) (by kernel_rfl)
def y1d:SC PG:=fz (zk4 N) Tryz.func258 [zt9 N] (.cons (.val W2) (.cons (.list (.int .i64)) (.int .i64))) (.val z7q) [] (fun v=>zj4 N v.1 v.2.1 v.2.2) (by kernel_rfl)
def y8d:SC PG:=fz (E0 [] [] []) Tryz.func303 [] (.cons (.val Z2) .str) .bool [] (fun v=>zpg N v.1 v.2) (by kernel_rfl)
def zhi:SE PG:=E0 [] [] [y8d N]
def zri:SL PG Tryz.f273.ntmps (Z8 Tryz.f273):=lz N (zhi N) [] 14922 ⟨[0,1,5,6,7,8],(.cons (.list Y2) (.cons (.list Z2) (.cons (.own 2000000) (.cons (.int .i64) (.cons .bool (.int .i64)))))),[(2000000,[5], .sl Y2)],[]⟩ (4,⟨[0,1,5,6,7],(.cons (.list Y2) (.cons (.list Z2) (.cons (.own 2000000) (.cons (.int .i64) .bool)))),[(2000000,[5], .sl Y2)],[]⟩) [] (z7d N N) (z13 N) (fun f v=>f v.1.1 v.1.2.1 v.1.2.2.2.1 v.1.2.2.2.2.1 v.1.2.2.2.2.2 v.2.1) (fun r b0 b1 b2 b3 b4 b5=>r ((b0,(b1,((),(b2,(b3,b4))))),(b5,()))) rfl (fun _=>rfl) (fun _ _=>rfl) (by kernel_rfl)
def zrj:SL PG Tryz.f273.ntmps (Z8 Tryz.f273):=lz N (zhi N) [zri N] 58 ⟨[0,1,5,6],ynd,[(2000000,[5], .sl Y2)],[]⟩ (2,⟨[5],(.own 2000000),[(2000000,[5], .sl Y2)],[]⟩) [] (z7e N N) (z14 N) (fun f v=>f v.1.1 v.1.2.1 v.1.2.2.2 v.2.1) (fun r b0 b1 b2 b3=>r ((b0,(b1,((),b2))),(b3,()))) rfl (fun _=>rfl) (fun _ _=>rfl) (by kernel_rfl)
def y0h:SC PG:=fz (zhi N) Tryz.func273 [zrj N] (.cons (.list Y2) (.list Z2)) (.fresh Y2) [] (fun v=>zce N v.1 v.2) (by kernel_rfl)
def y1p:SC PG:=fz (E0 [] [] [z0d N,zaz N]) Tryz.func318 [] (.cons (.val Z2) (.cons .str .str)) (.val Z2) [] (fun v=>zj8 N v.1 v.2.1 v.2.2) (by kernel_rfl)
def zmm:SE PG:=E0 [(J5,[20,27,73])] [] [zg2 N,zhf N,z0d N,za7 N,z47 N,y1p N,zd5 N]
def zos:SL PG Tryz.f304.ntmps (Z8 Tryz.f304):=lz N (zmm N) [] 1018 ⟨[0,3,5,7,8],(.cons (.list Z2) yf4),[(2000000,[3], .boxV Z9),(2000001,[5], .boxV Z2),(2000002,[7], .sl Z2)],[]⟩ (3,⟨[7],(.own 2000000),[(2000000,[7], .sl Z2)],[]⟩) [] (z0u N N) (z0l N) (fun f v=>f v.1.1 v.1.2.2.2.2 v.2.1 v.2.2.1 v.2.2.2.1) (fun r b0 b1 b2 b3 b4=>r ((b0,((),((),((),b1)))),(b2,(b3,(b4,()))))) rfl (fun _=>rfl) (fun _ _=>rfl) (by kernel_rfl)
def zxf:SC PG:=fz (zmm N) Tryz.func304 [zos N] (.cons (.list Z2) (.val Z9)) (.list Z2) [] (fun v=>z3c N v.1 v.2) (by kernel_rfl)
def zqs:SE PG:=E0 [(5,[2000000])] [] [zd5 N,zxf N]
def ztr:SL PG Tryz.f274.ntmps (Z8 Tryz.f274):=lz N (zqs N) [] 58 ⟨[1,5,6],(.cons (.list Z9) (.cons (.list Z2) (.int .i64))),[],[9]⟩ (2,⟨[5],(.list Z2),[],[]⟩) [] (z8q N N) (z2n N) (fun f v=>f v.1.1 v.1.2.1 v.1.2.2) (fun r b0 b1 b2=>r ((b0,(b1,b2)),())) rfl (fun _=>rfl) (fun _ _=>rfl) (by kernel_rfl)
def y1o:SC PG:=fz (zqs N) Tryz.func274 [ztr N] (.cons (.val Z2) (.list Z9)) (.list Z2) [] (fun v=>zj7 N v.1 v.2) (by kernel_rfl)
def z4v(self:(List Z7)->Int->Z0->(List Z0)->Option (((List Z3)×Int))):Ctr:=zmp (.cons (.val (.list Y9)) (.cons (.int .i64) (.cons (.val Z2) (.list Z2)))) (.tup (.cons (.list Y2) (.int .i64))) [] (fun v=>self v.1 v.2.1 v.2.2.1 v.2.2.2)
def zli(self:(List Z7)->Int->Z0->(List Z0)->Option (((List Z3)×Int)))(hs:z6p PG 234 fun xs=>(z4v self).run xs some):SE PG:=E0 [(J5,[35,97]),(16,[2000003]),(17,[2000002]),(21,[2000001])] [] [⟨234,z4v self,hs⟩,zg1 N,y0h N,y1o N,znd N,zhe N,zul N]
def zwt(self:(List Z7)->Int->Z0->(List Z0)->Option (((List Z3)×Int)))(hs:z6p PG 234 fun xs=>(z4v self).run xs some):SL PG Tryz.f234.ntmps (Z8 Tryz.f234):=lz N (zli N self hs) [] 4090 ⟨[3,4,10,12,14,15,16],(.cons (.list Z2) (.cons (.ptr 2000000 0) (.cons (.ptr 2000001 0) (.cons (.list Z2) (.cons (.list Z2) (.cons (.own 2000004) (.int .i64))))))),[(2000000,[4], .box (.list Y9)),(2000001,[10], .boxV Y0),(2000004,[15], .sl Y2)],[54,2000003]⟩ (1,⟨[8,9],(.cons (.list Y2) (.int .i64)),[],[]⟩) [(4,⟨[3,10,15],(.cons (.list Z2) ya5),[(2000000,[10], .boxV Y0),(2000001,[15], .sl Y2)],[]⟩)] (z7u N self N) (z3u N self) (fun f v=>f v.1.1 v.1.2.2.2.1 v.1.2.2.2.2.1 v.1.2.2.2.2.2.2 v.2.1 v.2.2.1 v.2.2.2.1) (fun r b0 b1 b2 b3 b4 b5 b6=>r ((b0,((),((),(b1,(b2,((),b3)))))),(b4,(b5,(b6,()))))) rfl (fun _=>rfl) (fun _ _=>rfl) (by kernel_rfl)
def zwu(self:(List Z7)->Int->Z0->(List Z0)->Option (((List Z3)×Int)))(hs:z6p PG 234 fun xs=>(z4v self).run xs some):SL PG Tryz.f234.ntmps (Z8 Tryz.f234):=lz N (zli N self hs) [] 506 ⟨[3,4,6,10,12,13],(.cons (.list Z2) yjr),[(2000000,[4], .box (.list Y9)),(2000001,[6], .boxV Z2),(2000002,[10], .boxV Y0),(2000003,[12], .sl Z2)],[]⟩ (2,⟨[3,4,6,10,12],(.cons (.list Z2) (.cons (.ptr 2000000 0) (.cons (.ptr 2000001 0) (.cons (.ptr 2000002 0) (.own 2000003))))),[(2000000,[4], .box (.list Y9)),(2000001,[6], .boxV Z2),(2000002,[10], .boxV Y0),(2000003,[12], .sl Z2)],[]⟩) [] (zaj N self N) (z3v N self) (fun f v=>f v.1.1 v.1.2.2.2.2.2 v.2.1 v.2.2.1 v.2.2.2.1 v.2.2.2.2.1) (fun r b0 b1 b2 b3 b4 b5=>r ((b0,((),((),((),((),b1))))),(b2,(b3,(b4,(b5,())))))) rfl (fun _=>rfl) (fun _ _=>rfl) (by kernel_rfl)
def y63(self:(List Z7)->Int->Z0->(List Z0)->Option (((List Z3)×Int)))(hs:z6p PG 234 fun xs=>(z4v self).run xs some):SC PG:=fz (zli N self hs) Tryz.func234 [zwu N self hs,zwt N self hs] (.cons (.val (.list Y9)) (.cons (.int .i64) (.cons (.val Z2) (.list Z2)))) (.tup (.cons (.list Y2) (.int .i64))) [] (fun v=>z4q N self v.1 v.2.1 v.2.2.1 v.2.2.2) (by kernel_rfl)
def y5m:SC PG:=recz (f:=234) z4v (fun _ _ _ _=>none) (z4q N) (y3a fun _=>rfl) (fun self hs=>(y63 N self hs).h) N
def y5n:SC PG:=fz (E0 [(2000013,[12])] [] [y5m N]) Tryz.func178 [] (.cons (.val W2) (.val Z2)) (.tup (.cons (.list Y2) (.int .i64))) [] (fun v=>zm7 N v.1 v.2) (by kernel_rfl)
def znf:SC PG:=fz (E0 [] [] []) Tryz.func315 [] (.val Z9) .bool [] (fun v=>z6r N v) (by kernel_rfl)
def zv7:SE PG:=E0 [] [] [znf N,z0d N]
def zwy:SL PG Tryz.f316.ntmps (Z8 Tryz.f316):=lz N (zv7 N) [] 122 ⟨[1,2,5,6],(.cons (.list Y2) Sh7_),[(2000000,[2], .boxV Z9),(2000001,[5], .sl Z9)],[]⟩ (2,⟨[2,5],ya5,[(2000000,[2], .boxV Z9),(2000001,[5], .sl Z9)],[]⟩) [] (zan N N) (z3z N) (fun f v=>f v.1.1 v.1.2.2.2 v.2.1 v.2.2.1) (fun r b0 b1 b2 b3=>r ((b0,((),((),b1))),(b2,(b3,())))) rfl (fun _=>rfl) (fun _ _=>rfl) (by kernel_rfl)
def y5t:SC PG:=fz (zv7 N) Tryz.func316 [zwy N] (.cons (.val Z9) (.list Y2)) (.fresh Z9) [] (fun v=>zmb N v.1 v.2) (by kernel_rfl)
def y5s:SC PG:=fz (E0 [] [] [znf N,y5t N]) Tryz.func299 [] (.cons (.list Z9) (.list Y2)) (.tup (.cons (.fresh Z9) (.int .i64))) [] (fun v=>zma N v.1 v.2) (by kernel_rfl)
def znr:SE PG:=E0 [(J5,[51])] [] [z0d N,y5n N,y5s N]
def zrf:SL PG Tryz.f259.ntmps (Z8 Tryz.f259):=lz N (znr N) [] 58 ⟨[2,3,4,6,7],yjr,[(2000000,[2], .boxV W2),(2000001,[3], .boxV Y0),(2000002,[4], .boxC [.nils, .nils, .nils, .nils, .nils]),(2000003,[6], .sl Y2)],[]⟩ (1,⟨[4,5],Sh5_,[(2000000,[4], .boxV Y0)],[]⟩) [(2,⟨[3,4,6],ynf,[(2000000,[3], .boxV Y0),(2000001,[4], .boxC [.nils, .nils, .nils, .nils, .nils]),(2000002,[6], .sl Y2)],[]⟩)] (z1v N N) (z11 N) (fun f v=>f v.1.2.2.2.2 v.2.1 v.2.2.1 v.2.2.2.2.1) (fun r b0 b1 b2 b3=>r (((),((),((),((),b0)))),(b1,(b2,((),(b3,())))))) rfl (fun _=>rfl) (fun _ _=>rfl) (by kernel_rfl)
def y0e:SC PG:=fz (znr N) Tryz.func259 [zrf N] (.cons (.val W2) (.val Y0)) (.tup (.cons (.val Y0) (.int .i64))) [] (fun v=>z70 N v.1 v.2) (by kernel_rfl)
def y5i:SC PG:=fz (E0 [(2000105,[103])] [] [za5 N,zq4 N,y89 N,y1e N,y5h N,y1d N,y0e N]) Tryz.func208 [] (.cons (.val W2) (.list (.int .i64))) (.tup (.cons (.val W2) (.int .i64))) [] (fun v=>zm4 N v.1 v.2) (by kernel_rfl)
def zqm:SE PG:=E0 [(2000015,[13])] [] [y1c N,y5i N]
def zt6:SL PG Tryz.f143.ntmps (Z8 Tryz.f143):=lz N (zqm N) [] 14 ⟨[1,2,4,5],(.cons .bool y3n),[(2000000,[2], .boxV W2),(2000001,[4], .boxC [.nils, .int .i64 0, .int .i64 0, .int .i64 0, .int .i64 0, .int .i64 0, .int .i64 0]),(2000002,[5], .boxV z92)],[]⟩ (1,⟨[4],(.ptr 2000000 0),[(2000000,[4], .boxV z92)],[]⟩) [] (z8g N N) (z5q N) (fun f v=>f v.1.1 v.2.1 v.2.2.2.1) (fun r b0 b1 b2=>r ((b0,((),((),()))),(b1,((),(b2,()))))) rfl (fun _=>rfl) (fun _ _=>rfl) (by kernel_rfl)
def y1b:SC PG:=fz (zqm N) Tryz.func143 [zt6 N] (.cons (.val W2) .bool) (.val z92) [] (fun v=>zoc N v.1 v.2) (by kernel_rfl)
def y5j:SC PG:=fz (E0 [] [] [y1b N]) Tryz.func87 [] (.val W2) (.val z92) [] (fun v=>zm5 N v) (by kernel_rfl)
def y5b:SC PG:=fz (E0 [] [] []) Tryz.func88 [] (.cons (.val Y1) (.val W2)) (.val Y1) [] (fun v=>zsc N v.1 v.2) (by kernel_rfl)
def y1t:SC PG:=fz (E0 [] [] [z4l N]) Tryz.func212 [] (.val Z9) (.fresh Z2) [] (fun v=>zja N v) (by kernel_rfl)
def zv9:SE PG:=E0 [(J5,[2000001,2000002])] [] [zd5 N,z4l N,zhf N,y1t N,zc4 N]
def zx0:SL PG Tryz.f144.ntmps (Z8 Tryz.f144):=lz N (zv9 N) [] 122 ⟨[0,4,5,6,7],(.cons (.list Z9) (.cons (.ptr 2000000 0) yjo)),[(2000000,[4], .boxC [.nils, .nils]),(2000001,[5], .sl Z9),(2000002,[6], .sl Z2)],[]⟩ (2,⟨[4,5,6],(.cons (.ptr 2000000 0) (.cons (.own 2000001) (.own 2000002))),[(2000000,[4], .boxC [.nils, .nils]),(2000001,[5], .sl Z9),(2000002,[6], .sl Z2)],[]⟩) [] (zap N N) (z41 N) (fun f v=>f v.1.1 v.1.2.2.2.2 v.2.2.1 v.2.2.2.1) (fun r b0 b1 b2 b3=>r ((b0,((),((),((),b1)))),((),(b2,(b3,()))))) rfl (fun _=>rfl) (fun _ _=>rfl) (by kernel_rfl)
def y5w:SC PG:=fz (zv9 N) Tryz.func144 [zx0 N] (.cons (.list Z9) (.list Z2)) (.val zo5) [] (fun v=>zsf N v.1 v.2) (by kernel_rfl)
def zlt:SC PG:=fz (E0 [] [] [y5w N]) Tryz.func89 [] (.list Z9) (.list Z9) [] (fun v=>zch N v) (by kernel_rfl)
def zze:SE PG:=E0 [(2000058,[57])] [] [y5c N,y8b N,y5j N,y5b N,zlt N]
def zzw:SL PG Tryz.f46.ntmps (Z8 Tryz.f46):=lz N (zze N) [] 58 ⟨[1,2,4,6,8],(.cons (.list Z9) Sh6_),[(2000000,[2], .boxV Y1),(2000001,[4], .boxC [.nils, .int .i64 0, .int .i64 0, .int .i64 0, .nils, .int .i64 0, .int .i64 0, .int .i64 0, .nils]),(2000002,[6], .boxV W2)],[]⟩ (1,⟨[4,5],Sh5_,[(2000000,[4], .boxV Y1)],[]⟩) [(2,⟨[1,2,4,6],(.cons (.list Z9) y3n),[(2000000,[2], .boxV Y1),(2000001,[4], .boxC [.nils, .int .i64 0, .int .i64 0, .int .i64 0, .nils, .int .i64 0, .int .i64 0, .int .i64 0, .nils]),(2000002,[6], .boxV W2)],[]⟩)] (z5d N N) (z4z N) (fun f v=>f v.1.1 v.1.2.2.2.2 v.2.1 v.2.2.2.1) (fun r b0 b1 b2 b3=>r ((b0,((),((),((),b1)))),(b2,((),(b3,()))))) rfl (fun _=>rfl) (fun _ _=>rfl) (by kernel_rfl)
def zug:SC PG:=fz (zze N) Tryz.func46 [zzw N] (.cons (.val Y1) (.list Z9)) (.tup (.cons (.val Y1) (.int .i64))) [] (fun v=>zkr N v.1 v.2) (by kernel_rfl)
def zoh:SE PG:=E0 [(J5,[2000001,2000002])] [] []
def zzt:SL PG Tryz.f74.ntmps (Z8 Tryz.f74):=pz (zoh) [] 13 ⟨[0,1,4,19],(.cons (.int .i64) (.cons (.int .i64) (.cons (.ptr 2000000 0) .bool))),[(2000000,[4], .boxC [.int .i64 0, .nils, .nils])],[]⟩ (1,⟨[4,5],Sh5_,[(2000000,[4], .boxC [.int .i64 0, .nils, .nils])],[]⟩) [(0,⟨[0,1,4],yjl,[(2000000,[4], .boxC [.int .i64 0, .nils, .nils])],[]⟩)] (fun v=>z9n N v.1.1 v.1.2.1 v.1.2.2.2) (by kernel_rfl)
def zzu:SL PG Tryz.f74.ntmps (Z8 Tryz.f74):=pz (zoh) [] 7 ⟨[0,1,4],yjl,[(2000000,[4], .boxC [.int .i64 0, .nils, .nils])],[]⟩ (1,⟨[4,5],Sh5_,[(2000000,[4], .box (.cons (.int .i64) (.cons (.own 2000001) (.own 2000002)))),(2000001,[4,1], .sl (.list (.int .u8))),(2000002,[4,2], .sl G4)],[]⟩) [] (fun v=>z9o N v.1.1 v.1.2.1) (by kernel_rfl)
def zue:SC PG:=fz (zoh) Tryz.func74 [zzt N,zzu N] (.cons (.int .i64) (.int .i64)) (.tup (.cons (.val K3) (.int .i64))) [] (fun v=>zbx N v.1 v.2) (by kernel_rfl)
def zjj:SE PG:=E0 [(J5,[2000001,2000002])] [] []
def zzr:SL PG Tryz.f77.ntmps (Z8 Tryz.f77):=lz N (zjj) [] 122 ⟨[0,1,4,6,7],(.cons (.int .i64) (.cons (.int .i64) Sh4_)),[(2000000,[4], .boxC [.nils, .nils, .int .i64 0]),(2000001,[6], .box yjn),(2000002,[6,0], .sl .bool),(2000003,[6,1], .sl (.int .i64))],[]⟩ (2,⟨[4,6],Sh2_,[(2000000,[4], .boxC [.nils, .nils, .int .i64 0]),(2000001,[6], .box yjn),(2000002,[6,0], .sl .bool),(2000003,[6,1], .sl (.int .i64))],[]⟩) [] (zca N N) (z4y N) (fun f v=>f v.1.1 v.1.2.1 v.1.2.2.2.2 v.2.2.1.2.2 v.2.2.2.1 v.2.2.2.2.1) (fun r b0 b1 b2 b3 b4 b5=>r ((b0,(b1,((),((),b2)))),((),(((),((),b3)),(b4,(b5,())))))) rfl (fun _=>rfl) (fun _ _=>rfl) (by kernel_rfl)
def zzp:SL PG Tryz.f77.ntmps (Z8 Tryz.f77):=pz (zjj) [] 13 ⟨[0,1,4,22],(.cons (.int .i64) (.cons (.int .i64) (.cons (.ptr 2000000 0) .bool))),[(2000000,[4], .boxC [.nils, .nils, .int .i64 0])],[]⟩ (1,⟨[4,5],Sh5_,[(2000000,[4], .boxC [.nils, .nils, .int .i64 0])],[]⟩) [(0,⟨[0,1,4],yjl,[(2000000,[4], .boxC [.nils, .nils, .int .i64 0])],[]⟩)] (fun v=>z9l N v.1.1 v.1.2.1 v.1.2.2.2) (by kernel_rfl)
def zzq:SL PG Tryz.f77.ntmps (Z8 Tryz.f77):=pz (zjj) [zzr N] 7 ⟨[0,1,4],yjl,[(2000000,[4], .boxC [.nils, .nils, .int .i64 0])],[]⟩ (1,⟨[4,5],Sh5_,[(2000000,[4], .box yjo),(2000001,[4,0], .sl .bool),(2000002,[4,1], .sl (.int .i64))],[]⟩) [] (fun v=>z9m N v.1.1 v.1.2.1) (by kernel_rfl)
def y86:SC PG:=fz (zjj) Tryz.func77 [zzp N,zzq N] (.cons (.int .i64) (.int .i64)) (.tup (.cons (.val K0) (.int .i64))) [] (fun v=>zpe N v.1 v.2) (by kernel_rfl)
def zqw:SE PG:=E0 [] [] []
def ztz:SL PG Tryz.f305.ntmps (Z8 Tryz.f305):=lz N (zqw) [] 26 ⟨[0,3],(.cons (.list Y2) (.int .i64)),[],[]⟩ (1,⟨[2], .bool,[],[]⟩) [(2,⟨[], .nil,[],[]⟩)] (z8w N N) (z5s N) (fun f v=>f v.1.1 v.1.2) (fun r b0 b1=>r ((b0,b1),())) rfl (fun _=>rfl) (fun _ _=>rfl) (by kernel_rfl)
def y1u:SC PG:=fz (zqw) Tryz.func305 [ztz N] (.list Y2) .bool [] (fun v=>zjb N v) (by kernel_rfl)
def zyw:SC PG:=fz (E0 [] [] []) Tryz.func278 [] (.cons (.int .i64) (.cons (.int .i64) (.int .i64))) .bool [] (fun v=>zl2 N v.1 v.2.1 v.2.2) (by kernel_rfl)
def zv6:SE PG:=E0 [] [] [y1u N,zla N,zyw N]
def zwx:SL PG Tryz.f276.ntmps (Z8 Tryz.f276):=lz N (zv6 N) [] 58 ⟨[2,3,5],Sh4_,[(2000000,[2], .boxV Y0),(2000001,[3], .boxV Z2)],[]⟩ (1,⟨[4], .bool,[],[]⟩) [(2,⟨[], .nil,[],[]⟩)] (zal N N) (z3y N) (fun f v=>f v.1.2.2 v.2.1 v.2.2.1) (fun r b0 b1 b2=>r (((),((),b0)),(b1,(b2,())))) rfl (fun _=>rfl) (fun _ _=>rfl) (by kernel_rfl)
def y5p:SC PG:=fz (zv6 N) Tryz.func276 [zwx N] (.cons (.val Y0) (.val Z2)) .bool [] (fun v=>zm8 N v.1 v.2) (by kernel_rfl)
def zc8:SE PG:=E0 [] [] []
def zrk:SL PG Tryz.f277.ntmps (Z8 Tryz.f277):=pz (zc8) [] 841 ⟨[0,3,5,48],(.cons (.list .str) (.cons (.ptr 2000000 0) (.cons (.int .i64) .bool))),[(2000000,[3], .boxV Z2)],[]⟩ (1,⟨[4], .bool,[],[]⟩) [(0,⟨[0,3,5],(.cons (.list .str) Sh5_),[(2000000,[3], .boxV Z2)],[]⟩)] (fun v=>z0f N v.1.1 v.1.2.2.1 v.1.2.2.2 v.2.1) (by kernel_rfl)
def zrl:SL PG Tryz.f277.ntmps (Z8 Tryz.f277):=pz (zc8) [] 211 ⟨[0,3,5],(.cons (.list .str) Sh5_),[(2000000,[3], .boxV Z2)],[]⟩ (0,⟨[0,3,5],(.cons (.list .str) Sh5_),[(2000000,[3], .boxV Z2)],[]⟩) [] (fun v=>z0g N v.1.1 v.1.2.2 v.2.1) (by kernel_rfl)
def zrm:SL PG Tryz.f277.ntmps (Z8 Tryz.f277):=lz N (zc8) [zrk N,zrl N] 26 ⟨[0,3,5],(.cons (.list .str) Sh5_),[(2000000,[3], .boxV Z2)],[]⟩ (1,⟨[4], .bool,[],[]⟩) [(2,⟨[], .nil,[],[]⟩)] (z1w N N) (z15 N) (fun f v=>f v.1.1 v.1.2.2 v.2.1) (fun r b0 b1 b2=>r ((b0,((),b1)),(b2,()))) rfl (fun _=>rfl) (fun _ _=>rfl) (by kernel_rfl)
def y0i:SC PG:=fz (zc8) Tryz.func277 [zrm N] (.cons (.list .str) (.val Z2)) .bool [] (fun v=>zg9 N v.1 v.2) (by kernel_rfl)
def y1i:SC PG:=fz (E0 [] [] []) Tryz.func279 [] (.val z6w) .bool [] (fun v=>zeg N v) (by kernel_rfl)
def znv:SE PG:=E0 [] [] [zc4 N,z4l N,zlv N]
def zro:SL PG Tryz.f280.ntmps (Z8 Tryz.f280):=lz N (znv N) [] 58 ⟨[3,5,6],Sh7_,[(2000000,[3], .boxV Z2),(2000001,[5], .sl Z2)],[]⟩ (1,⟨[4], .bool,[],[]⟩) [(2,⟨[], .nil,[],[]⟩)] (z7h N N) (z17 N) (fun f v=>f v.1.2.2 v.2.1 v.2.2.1) (fun r b0 b1 b2=>r (((),((),b0)),(b1,(b2,())))) rfl (fun _=>rfl) (fun _ _=>rfl) (by kernel_rfl)
def y0l:SC PG:=fz (znv N) Tryz.func280 [zro N] (.cons (.val Z9) (.val Z2)) .bool [] (fun v=>zga N v.1 v.2) (by kernel_rfl)
def ze2:SE PG:=E0 [] [] [y5p N,y0i N,zyw N,y1i N,zhd N,y0l N]
def ztf:SL PG Tryz.f236.ntmps (Z8 Tryz.f236):=lz N (ze2 N) [] 250 ⟨[2,3,6],Sh4_,[(2000000,[2], .boxV Y0),(2000001,[3], .boxV Z2)],[]⟩ (1,⟨[4], .bool,[],[]⟩) [(4,⟨[], .nil,[],[]⟩)] (z8j N N) (z2e N) (fun f v=>f v.1.2.2 v.2.1 v.2.2.1) (fun r b0 b1 b2=>r (((),((),b0)),(b1,(b2,())))) rfl (fun _=>rfl) (fun _ _=>rfl) (by kernel_rfl)
def ztg:SL PG Tryz.f236.ntmps (Z8 Tryz.f236):=lz N (ze2 N) [] 122 ⟨[2,3,5],Sh4_,[(2000000,[2], .boxV Y0),(2000001,[3], .boxV Z2)],[]⟩ (1,⟨[4], .bool,[],[]⟩) [(2,⟨[2,3],Sh2_,[(2000000,[2], .boxV Y0),(2000001,[3], .boxV Z2)],[]⟩)] (z69 N N) (z2f N) (fun f v=>f v.1.2.2 v.2.1 v.2.2.1) (fun r b0 b1 b2=>r (((),((),b0)),(b1,(b2,())))) rfl (fun _=>rfl) (fun _ _=>rfl) (by kernel_rfl)
def zte:SL PG Tryz.f236.ntmps (Z8 Tryz.f236):=pz (ze2 N) [ztg N,ztf N] 15 ⟨[2,3],Sh2_,[(2000000,[2], .boxV Y0),(2000001,[3], .boxV Z2)],[]⟩ (1,⟨[4], .bool,[],[]⟩) [] (fun v=>zc5 N v.2.1 v.2.2.1) (by kernel_rfl)
def y1j:SC PG:=fz (ze2 N) Tryz.func236 [zte N] (.cons (.val Y0) (.val Z2)) .bool [] (fun v=>zj6 N v.1 v.2) (by kernel_rfl)
def znu:SE PG:=E0 [] [] []
def zrn:SL PG Tryz.f239.ntmps (Z8 Tryz.f239):=lz N (znu) [] 58 ⟨[0,5,6],(.cons (.int .i64) Sh9_),[(2000000,[5], .sl (.int .u8))],[]⟩ (2,⟨[5],(.own 2000000),[(2000000,[5], .sl (.int .u8))],[]⟩) [] (z7g N N) (z16 N) (fun f v=>f v.1.1 v.1.2.2 v.2.1) (fun r b0 b1 b2=>r ((b0,((),b1)),(b2,()))) rfl (fun _=>rfl) (fun _ _=>rfl) (by kernel_rfl)
def zls:SC PG:=fz (znu) Tryz.func239 [zrn N] (.cons (.int .i64) (.int .i64)) (.fresh (.int .u8)) [] (fun v=>U3 N v.1 v.2) (by kernel_rfl)
def y5o:SC PG:=fz (E0 [] [] [zls N]) Tryz.func240 [] .str (.fresh (.int .u8)) [] (fun v=>zdn N v) (by kernel_rfl)
def znx:SE PG:=E0 [] [] []
def zrq:SL PG Tryz.f287.ntmps (Z8 Tryz.f287):=lz N (znx) [] 58 ⟨[0,5,6],(.cons (.int .i64) Sh9_),[(2000000,[5], .sl (.int .u8))],[]⟩ (2,⟨[5],(.own 2000000),[(2000000,[5], .sl (.int .u8))],[]⟩) [] (zb0 N N) (z88 N) (fun f v=>f v.1.1 v.1.2.2 v.2.1) (fun r b0 b1 b2=>r ((b0,((),b1)),(b2,()))) rfl (fun _=>rfl) (fun _ _=>rfl) (by kernel_rfl)
def zlu:SC PG:=fz (znx) Tryz.func287 [zrq N] (.cons (.int .i64) (.int .i64)) (.fresh (.int .u8)) [] (fun v=>z72 N v.1 v.2) (by kernel_rfl)
def zqt:SE PG:=E0 [] [] [zlu N]
def zts:SL PG Tryz.f286.ntmps (Z8 Tryz.f286):=lz N (zqt N) [] 58 ⟨[0,3,4],(.cons (.list .str) Sh9_),[(2000000,[3], .sl (.int .u8))],[]⟩ (2,⟨[3],(.own 2000000),[(2000000,[3], .sl (.int .u8))],[]⟩) [] (z8r N N) (z2o N) (fun f v=>f v.1.1 v.1.2.2 v.2.1) (fun r b0 b1 b2=>r ((b0,((),b1)),(b2,()))) rfl (fun _=>rfl) (fun _ _=>rfl) (by kernel_rfl)
def y1r:SC PG:=fz (zqt N) Tryz.func286 [zts N] (.list .str) (.fresh (.int .u8)) [] (fun v=>G3 N v) (by kernel_rfl)
def zqv:SE PG:=E0 [] [] [zhd N,y1r N,zlu N]
def ztw:SL PG Tryz.f241.ntmps (Z8 Tryz.f241):=pz (zqv N) [] 31 ⟨[1,3],ya5,[(2000000,[1], .boxV Z9),(2000001,[3], .sl (.int .u8))],[]⟩ (1,⟨[2],(.own 2000000),[(2000000,[2], .sl (.int .u8))],[]⟩) [] (fun v=>z06 N v.2.1 v.2.2.1) (by kernel_rfl)
def znh:SC PG:=fz (zqv N) Tryz.func241 [ztw N] (.val Z9) (.fresh (.int .u8)) [] (fun v=>zei N v) (by kernel_rfl)
def z5n:SE PG:=E0 [] [] [y1j N,zls N,y5o N,znh N]
def zti:SL PG Tryz.f183.ntmps (Z8 Tryz.f183):=lz N (z5n N) [] 130342 ⟨[1,5,8,9,10],(.cons (.ptr 2000000 0) (.cons (.own 2000001) (.cons (.int .i64) (.cons (.ptr 2000002 0) (.int .i64))))),[(2000000,[1], .boxV Y0),(2000001,[5], .sl (.int .u8)),(2000002,[9], .boxV ydk)],[]⟩ (10,⟨[1,5,8],Sh7_,[(2000000,[1], .boxV Y0),(2000001,[5], .sl (.int .u8))],[]⟩) [] (z1n N N) (G1 N) (fun f v=>f v.1.2.2.1 v.1.2.2.2.2 v.2.1 v.2.2.1 v.2.2.2.1) (fun r b0 b1 b2 b3 b4=>r (((),((),(b0,((),b1)))),(b2,(b3,(b4,()))))) rfl (fun _=>rfl) (fun _ _=>rfl) (by kernel_rfl)
def ztj:SL PG Tryz.f183.ntmps (Z8 Tryz.f183):=lz N (z5n N) [] 4090 ⟨[1,5,11],Sh7_,[(2000000,[1], .boxV Y0),(2000001,[5], .sl (.int .u8))],[]⟩ (12,⟨[5],(.own 2000000),[(2000000,[5], .sl (.int .u8))],[]⟩) [] (z8k N N) (z2h N) (fun f v=>f v.1.2.2 v.2.1 v.2.2.1) (fun r b0 b1 b2=>r (((),((),b0)),(b1,(b2,())))) rfl (fun _=>rfl) (fun _ _=>rfl) (by kernel_rfl)
def ztk:SL PG Tryz.f183.ntmps (Z8 Tryz.f183):=lz N (z5n N) [zti N] 1018 ⟨[1,5,8],Sh7_,[(2000000,[1], .boxV Y0),(2000001,[5], .sl (.int .u8))],[]⟩ (8,⟨[1,5],ya5,[(2000000,[1], .boxV Y0),(2000001,[5], .sl (.int .u8))],[]⟩) [] (z8l N N) (z2i N) (fun f v=>f v.1.2.2 v.2.1 v.2.2.1) (fun r b0 b1 b2=>r (((),((),b0)),(b1,(b2,())))) rfl (fun _=>rfl) (fun _ _=>rfl) (by kernel_rfl)
def ztl:SL PG Tryz.f183.ntmps (Z8 Tryz.f183):=lz N (z5n N) [] 938 ⟨[1,3,4],Sh7_,[(2000000,[1], .boxV Y0),(2000001,[3], .sl (.int .u8))],[]⟩ (2,⟨[3],(.own 2000000),[(2000000,[3], .sl (.int .u8))],[]⟩) [] (z8m N N) (z2j N) (fun f v=>f v.1.2.2 v.2.1 v.2.2.1) (fun r b0 b1 b2=>r (((),((),b0)),(b1,(b2,())))) rfl (fun _=>rfl) (fun _ _=>rfl) (by kernel_rfl)
def ztm:SL PG Tryz.f183.ntmps (Z8 Tryz.f183):=lz N (z5n N) [] 506 ⟨[1,5,7],Sh7_,[(2000000,[1], .boxV Y0),(2000001,[5], .sl (.int .u8))],[]⟩ (6,⟨[1,5],ya5,[(2000000,[1], .boxV Y0),(2000001,[5], .sl (.int .u8))],[]⟩) [] (z8n N N) (z2k N) (fun f v=>f v.1.2.2 v.2.1 v.2.2.1) (fun r b0 b1 b2=>r (((),((),b0)),(b1,(b2,())))) rfl (fun _=>rfl) (fun _ _=>rfl) (by kernel_rfl)
def ztn:SL PG Tryz.f183.ntmps (Z8 Tryz.f183):=lz N (z5n N) [] 250 ⟨[1,5,6],Sh7_,[(2000000,[1], .boxV Y0),(2000001,[5], .sl (.int .u8))],[]⟩ (4,⟨[1,5],ya5,[(2000000,[1], .boxV Y0),(2000001,[5], .sl (.int .u8))],[]⟩) [] (z8o N N) (z2l N) (fun f v=>f v.1.2.2 v.2.1 v.2.2.1) (fun r b0 b1 b2=>r (((),((),b0)),(b1,(b2,())))) rfl (fun _=>rfl) (fun _ _=>rfl) (by kernel_rfl)
def zne:SC PG:=fz (z5n N) Tryz.func183 [ztl N,ztn N,ztm N,ztk N,ztj N] (.val Y0) (.fresh (.int .u8)) [] (fun v=>z5j N v) (by kernel_rfl)
def zqq:SE PG:=E0 [] [] []
def zth:SL PG Tryz.f31.ntmps (Z8 Tryz.f31):=lz N (zqq) [] 58 ⟨[0,3,4],(.cons (.list (.int .u8)) (.cons (.int .u64) (.int .i64))),[],[]⟩ (2,⟨[3],(.int .u64),[],[]⟩) [] (z6a N N) (y6 N) (fun f v=>f v.1.1 v.1.2.1 v.1.2.2) (fun r b0 b1 b2=>r ((b0,(b1,b2)),())) rfl (fun _=>rfl) (fun _ _=>rfl) (by kernel_rfl)
def zhc:SC PG:=fz (zqq) Tryz.func31 [zth N] (.list (.int .u8)) (.int .u64) [] (fun v=>y9 N v) (by kernel_rfl)
def zju:SC PG:=fz (E0 [] [] []) Tryz.func42 [] (.cons (.val K3) (.int .i64)) .bool [] (fun v=>zdb N v.1 v.2) (by kernel_rfl)
def zzd:SE PG:=E0 [] [] [zju N]
def zzv:SL PG Tryz.f20.ntmps (Z8 Tryz.f20):=lz N (zzd N) [] 122 ⟨[1,2,6,7],(.cons (.int .i64) (.cons (.ptr 2000000 0) (.cons (.list (.int .u8)) (.int .i64)))),[(2000000,[2], .boxV K3)],[]⟩ (2,⟨[6],(.list (.int .u8)),[],[]⟩) [] (z6z N N) (z84 N) (fun f v=>f v.1.1 v.1.2.2.1 v.1.2.2.2 v.2.1) (fun r b0 b1 b2 b3=>r ((b0,((),(b1,b2))),(b3,()))) rfl (fun _=>rfl) (fun _ _=>rfl) (by kernel_rfl)
def zl8:SC PG:=fz (zzd N) Tryz.func20 [zzv N] (.cons (.val K3) (.int .i64)) (.tup (.cons (.list (.int .u8)) (.int .i64))) [] (fun v=>zhm N v.1 v.2) (by kernel_rfl)
def y55:SC PG:=fz (E0 [] [] [zl8 N,zne N]) Tryz.func184 [] (.cons (.val Y5) (.cons (.int .i64) (.val Y0))) .bool [] (fun v=>zly N v.1 v.2.1 v.2.2) (by kernel_rfl)
def zqk:SE PG:=E0 [] [] []
def zt4:SL PG Tryz.f288.ntmps (Z8 Tryz.f288):=lz N (zqk) [] 58 ⟨[1,3,4],(.cons (.ptr 2000000 0) zpw),[(2000000,[1], .boxV K0)],[]⟩ (2,⟨[3],(.int .i64),[],[]⟩) [] (z8e N N) (z26 N) (fun f v=>f v.1.2.1 v.1.2.2 v.2.1) (fun r b0 b1 b2=>r (((),(b0,b1)),(b2,()))) rfl (fun _=>rfl) (fun _ _=>rfl) (by kernel_rfl)
def y17:SC PG:=fz (zqk) Tryz.func288 [zt4 N] (.val K0) (.int .i64) [] (fun v=>zoa N v) (by kernel_rfl)
def y59:SC PG:=fz (E0 [] [] [y17 N]) Tryz.func242 [] (.val K0) (.int .i64) [] (fun v=>zsb N v) (by kernel_rfl)
def zqj:SE PG:=E0 [(J5,[2000001])] [] []
def zt3:SL PG Tryz.f243.ntmps (Z8 Tryz.f243):=lz N (zqj) [] 58 ⟨[1,2,3,4],yf4,[(2000000,[1], .boxV K0),(2000001,[2], .boxC [.nils, .nils, .int .i64 0, .int .i64 0, .int .i64 0]),(2000002,[3], .sl .bool)],[]⟩ (1,⟨[2],(.ptr 2000000 0),[(2000000,[2], .box (.cons (.own 2000001) (.cons (.list (.int .i64)) (.cons (.int .i64) zpw)))),(2000001,[2,0], .sl .bool)],[]⟩) [(2,⟨[1,2],Sh2_,[(2000000,[1], .boxV K0),(2000001,[2], .boxC [.nils, .nils, .int .i64 0, .int .i64 0, .int .i64 0])],[]⟩)] (z66 N N) (z25 N) (fun f v=>f v.1.2.2.2 v.2.1 v.2.2.2.1) (fun r b0 b1 b2=>r (((),((),((),b0))),(b1,((),(b2,()))))) rfl (fun _=>rfl) (fun _ _=>rfl) (by kernel_rfl)
def y16:SC PG:=fz (zqj) Tryz.func243 [zt3 N] (.val K0) (.val zkd) [] (fun v=>zo9 N v) (by kernel_rfl)
def zq2:SC PG:=fz (E0 [] [] [y59 N,y16 N]) Tryz.func189 [] (.val K0) (.val zkd) [] (fun v=>ref25_Take N v) (by kernel_rfl)
def zay:SC PG:=fz (E0 [] [] []) Tryz.func75 [] (.val K3) (.agg (.cons (.int .i64) (.cons (.fresh (.list (.int .u8))) (.fresh G4)))) [] (fun v=>z1k N v) (by kernel_rfl)
def zl7:SC PG:=fz (E0 [(J5,[22,31]),(3000028,[28])] [] [zju N,zay N]) Tryz.func130 [] (.cons (.val K3) (.cons (.int .i64) (.list (.int .u8)))) (.tup (.cons (.val K3) (.int .i64))) [] (fun v=>ref23_Put N v.1 v.2.1 v.2.2) (by kernel_rfl)
def y14:SC PG:=fz (E0 [] [] [zq2 N,zl7 N]) Tryz.func129 [] (.cons (.val Y5) (.list (.int .u8))) (.tup (.cons (.val Y5) (.int .i64))) [] (fun v=>z93 N v.1 v.2) (by kernel_rfl)
def zwa:SM PG:=mz (E0 [(4,[5000002])] [] [zq2 N,zl7 N]) Tryz.func129 [] ⟨[0,1],(.cons yq5 (.own 5000002)),[(5000000,[0,9], .sl (.int .i64)),(5000001,[0,10], .sl (.int .u64)),(5000002,[1], .sl (.int .u8))],[]⟩ ⟨[0],(.tup (.cons yq5 (.int .i64))),[(5000000,[5000000], .sl (.int .i64)),(5000001,[5000001], .sl (.int .u64))],[]⟩ [] (fun v=>zd6 N v.1.1.1 v.1.1.2.1 v.1.1.2.2.1 v.1.1.2.2.2.1 v.1.1.2.2.2.2.1 v.1.1.2.2.2.2.2.1 v.1.1.2.2.2.2.2.2.1 v.1.1.2.2.2.2.2.2.2.1 v.1.1.2.2.2.2.2.2.2.2.1 v.1.1.2.2.2.2.2.2.2.2.2.2.2 v.2.1 v.2.2.1 v.2.2.2.1) (by kernel_rfl)
def z7z:SE PG:=E0 [(J5,[2000001,2000002,2000004])] [93] [zne N,zhc N,y55 N] [zwa N]
def zsy:SL PG Tryz.f126.ntmps (Z8 Tryz.f126):=pz (z7z N) [] 31311 ⟨[2,3,4,7,8,9,11,12],yng,[(2000000,[2], .box Sh1_),(2000001,[2,9], .sl (.int .i64)),(2000002,[2,10], .sl (.int .u64)),(2000003,[3], .boxV Y1),(2000004,[4], .boxC [.int .i64 0, .nils, .nils, .nils, .nils, .int .i64 0, .int .i64 0, .int .i64 0, .int .i64 0, .nils, .nils, .nils]),(2000005,[7], .boxV Y5),(2000006,[8], .sl (.int .i64))],[]⟩ (0,⟨[2,3,4,7,8,9],Sh8_,[(2000000,[2], .box Sh1_),(2000001,[2,9], .sl (.int .i64)),(2000002,[2,10], .sl (.int .u64)),(2000003,[3], .boxV Y1),(2000004,[4], .boxC [.int .i64 0, .nils, .nils, .nils, .nils, .int .i64 0, .int .i64 0, .int .i64 0, .int .i64 0, .nils, .nils, .nils]),(2000005,[7], .boxV Y5),(2000006,[8], .sl (.int .i64))],[]⟩) [] (fun v=>z65 N v.1.2.2.2.2.2.1 v.1.2.2.2.2.2.2.1 v.1.2.2.2.2.2.2.2 v.2.1.1 v.2.1.2.1 v.2.1.2.2.1 v.2.1.2.2.2.1 v.2.1.2.2.2.2.1 v.2.1.2.2.2.2.2.1 v.2.1.2.2.2.2.2.2.1 v.2.1.2.2.2.2.2.2.2.1 v.2.1.2.2.2.2.2.2.2.2.1 v.2.1.2.2.2.2.2.2.2.2.2.2.2 v.2.2.1 v.2.2.2.1 v.2.2.2.2.1 v.2.2.2.2.2.2.1 v.2.2.2.2.2.2.2.1) (by kernel_rfl)
def zsz:SL PG Tryz.f126.ntmps (Z8 Tryz.f126):=pz (z7z N) [] 31309 ⟨[2,3,4,7,8,9,10,11,12,57],(.cons (.ptr 2000000 0) (.cons (.ptr 2000003 0) (.cons (.ptr 2000004 0) (.cons (.ptr 2000005 0) (.cons (.own 2000006) (.cons (.int .i64) (.cons (.ptr 2000007 0) (.cons (.int .i64) (.cons (.int .u64) .bool))))))))),[(2000000,[2], .box Sh1_),(2000001,[2,9], .sl (.int .i64)),(2000002,[2,10], .sl (.int .u64)),(2000003,[3], .boxV Y1),(2000004,[4], .boxC [.int .i64 0, .nils, .nils, .nils, .nils, .int .i64 0, .int .i64 0, .int .i64 0, .int .i64 0, .nils, .nils, .nils]),(2000005,[7], .boxV Y5),(2000006,[8], .sl (.int .i64)),(2000007,[10], .boxV Y9)],[]⟩ (0,⟨[2,3,4,7,8,9,11,12],yng,[(2000000,[2], .box Sh1_),(2000001,[2,9], .sl (.int .i64)),(2000002,[2,10], .sl (.int .u64)),(2000003,[3], .boxV Y1),(2000004,[4], .boxC [.int .i64 0, .nils, .nils, .nils, .nils, .int .i64 0, .int .i64 0, .int .i64 0, .int .i64 0, .nils, .nils, .nils]),(2000005,[7], .boxV Y5),(2000006,[8], .sl (.int .i64))],[]⟩) [(1,⟨[4,5,6],(.cons (.ptr 2000000 0) (.cons (.list (.int .i64)) .bool)),[(2000000,[4], .boxV Y5)],[]⟩)] (fun v=>z48 N v.1.2.2.2.2.2.1 v.1.2.2.2.2.2.2.2.1 v.1.2.2.2.2.2.2.2.2.1 v.1.2.2.2.2.2.2.2.2.2 v.2.1.1 v.2.1.2.1 v.2.1.2.2.1 v.2.1.2.2.2.1 v.2.1.2.2.2.2.1 v.2.1.2.2.2.2.2.1 v.2.1.2.2.2.2.2.2.1 v.2.1.2.2.2.2.2.2.2.1 v.2.1.2.2.2.2.2.2.2.2.1 v.2.1.2.2.2.2.2.2.2.2.2.2.2 v.2.2.1 v.2.2.2.1 v.2.2.2.2.1 v.2.2.2.2.2.2.1 v.2.2.2.2.2.2.2.1 v.2.2.2.2.2.2.2.2.1) (by kernel_rfl)
def zt0:SL PG Tryz.f126.ntmps (Z8 Tryz.f126):=pz (z7z N) [zsy N] 15655 ⟨[2,3,4,7,8,9,11,12],yng,[(2000000,[2], .box Sh1_),(2000001,[2,9], .sl (.int .i64)),(2000002,[2,10], .sl (.int .u64)),(2000003,[3], .boxV Y1),(2000004,[4], .boxC [.int .i64 0, .nils, .nils, .nils, .nils, .int .i64 0, .int .i64 0, .int .i64 0, .int .i64 0, .nils, .nils, .nils]),(2000005,[7], .boxV Y5),(2000006,[8], .sl (.int .i64))],[]⟩ (0,⟨[2,3,4,7,8,9],Sh8_,[(2000000,[2], .box Sh1_),(2000001,[2,9], .sl (.int .i64)),(2000002,[2,10], .sl (.int .u64)),(2000003,[3], .boxV Y1),(2000004,[4], .boxC [.int .i64 0, .nils, .nils, .nils, .nils, .int .i64 0, .int .i64 0, .int .i64 0, .int .i64 0, .nils, .nils, .nils]),(2000005,[7], .boxV Y5),(2000006,[8], .sl (.int .i64))],[]⟩) [] (fun v=>z49 N v.1.2.2.2.2.2.1 v.1.2.2.2.2.2.2.1 v.1.2.2.2.2.2.2.2 v.2.1.1 v.2.1.2.1 v.2.1.2.2.1 v.2.1.2.2.2.1 v.2.1.2.2.2.2.1 v.2.1.2.2.2.2.2.1 v.2.1.2.2.2.2.2.2.1 v.2.1.2.2.2.2.2.2.2.1 v.2.1.2.2.2.2.2.2.2.2.1 v.2.1.2.2.2.2.2.2.2.2.2.2.2 v.2.2.1 v.2.2.2.1 v.2.2.2.2.1 v.2.2.2.2.2.2.1 v.2.2.2.2.2.2.2.1) (by kernel_rfl)
def zt1:SL PG Tryz.f126.ntmps (Z8 Tryz.f126):=pz (z7z N) [] 979 ⟨[2,3,4,7,8,9],Sh8_,[(2000000,[2], .box Sh1_),(2000001,[2,9], .sl (.int .i64)),(2000002,[2,10], .sl (.int .u64)),(2000003,[3], .boxV Y1),(2000004,[4], .boxC [.int .i64 0, .nils, .nils, .nils, .nils, .int .i64 0, .int .i64 0, .int .i64 0, .int .i64 0, .nils, .nils, .nils]),(2000005,[7], .boxV Y5),(2000006,[8], .sl (.int .i64))],[]⟩ (0,⟨[2,3,4,7,8,9],Sh8_,[(2000000,[2], .box Sh1_),(2000001,[2,9], .sl (.int .i64)),(2000002,[2,10], .sl (.int .u64)),(2000003,[3], .boxV Y1),(2000004,[4], .boxC [.int .i64 0, .nils, .nils, .nils, .nils, .int .i64 0, .int .i64 0, .int .i64 0, .int .i64 0, .nils, .nils, .nils]),(2000005,[7], .boxV Y5),(2000006,[8], .sl (.int .i64))],[]⟩) [] (fun v=>z4a N v.1.2.2.2.2.2 v.2.1.1 v.2.1.2.1 v.2.1.2.2.1 v.2.1.2.2.2.1 v.2.1.2.2.2.2.1 v.2.1.2.2.2.2.2.1 v.2.1.2.2.2.2.2.2.1 v.2.1.2.2.2.2.2.2.2.1 v.2.1.2.2.2.2.2.2.2.2.1 v.2.1.2.2.2.2.2.2.2.2.2.2.2 v.2.2.1 v.2.2.2.1 v.2.2.2.2.1 v.2.2.2.2.2.2.1 v.2.2.2.2.2.2.2.1) (by kernel_rfl)
def zt2:SL PG Tryz.f126.ntmps (Z8 Tryz.f126):=lz N (z7z N) [zsz N,zt0 N,zt1 N] 122 ⟨[2,3,4,7,8,9],Sh8_,[(2000000,[2], .box Sh1_),(2000001,[2,9], .sl (.int .i64)),(2000002,[2,10], .sl (.int .u64)),(2000003,[3], .boxV Y1),(2000004,[4], .boxC [.int .i64 0, .nils, .nils, .nils, .nils, .int .i64 0, .int .i64 0, .int .i64 0, .int .i64 0, .nils, .nils, .nils]),(2000005,[7], .boxV Y5),(2000006,[8], .sl (.int .i64))],[]⟩ (1,⟨[4,5,6],(.cons (.ptr 2000000 0) (.cons (.list (.int .i64)) .bool)),[(2000000,[4], .boxV Y5)],[]⟩) [(2,⟨[2,4,8],(.cons (.ptr 2000000 0) (.cons (.ptr 2000003 0) (.own 2000004))),[(2000000,[2], .box Sh1_),(2000001,[2,9], .sl (.int .i64)),(2000002,[2,10], .sl (.int .u64)),(2000003,[4], .boxC [.int .i64 0, .nils, .nils, .nils, .nils, .int .i64 0, .int .i64 0, .int .i64 0, .int .i64 0, .nils, .nils, .nils]),(2000004,[8], .sl (.int .i64))],[]⟩)] (z1l N N) (z24 N) (fun f v=>f v.1.2.2.2.2.2 v.2.1.1 v.2.1.2.1 v.2.1.2.2.1 v.2.1.2.2.2.1 v.2.1.2.2.2.2.1 v.2.1.2.2.2.2.2.1 v.2.1.2.2.2.2.2.2.1 v.2.1.2.2.2.2.2.2.2.1 v.2.1.2.2.2.2.2.2.2.2.1 v.2.1.2.2.2.2.2.2.2.2.2.2.2 v.2.2.1 v.2.2.2.1 v.2.2.2.2.1 v.2.2.2.2.2.2.1 v.2.2.2.2.2.2.2.1) (fun r b0 b1 b2 b3 b4 b5 b6 b7 b8 b9 b10 b11 b12 b13 b14 b15=>r (((),((),((),((),((),b0))))),((b1,(b2,(b3,(b4,(b5,(b6,(b7,(b8,(b9,((),((),b10))))))))))),(b11,(b12,(b13,((),(b14,(b15,()))))))))) rfl (fun _=>rfl) (fun _ _=>rfl) (by kernel_rfl)
def y15:SC PG:=fz (z7z N) Tryz.func126 [zt2 N] (.cons (.val Y5) (.val Y1)) (.tup (.cons (.val Y5) (.cons (.list (.int .i64)) .bool))) [] (fun v=>zed N v.1 v.2) (by kernel_rfl)
def znm:SE PG:=E0 [] [] []
def zra:SL PG Tryz.f188.ntmps (Z8 Tryz.f188):=lz N (znm) [] 58 ⟨[0,5,6],(.cons (.int .u64) Sh9_),[(2000000,[5], .sl (.int .u8))],[]⟩ (2,⟨[5],(.own 2000000),[(2000000,[5], .sl (.int .u8))],[]⟩) [] (z77 N N) (z0x N) (fun f v=>f v.1.1 v.1.2.2 v.2.1) (fun r b0 b1 b2=>r ((b0,((),b1)),(b2,()))) rfl (fun _=>rfl) (fun _ _=>rfl) (by kernel_rfl)
def zer:SC PG:=fz (znm) Tryz.func188 [zra N] (.cons (.int .u64) (.int .i64)) (.fresh (.int .u8)) [] (fun v=>z38 N v.1 v.2) (by kernel_rfl)
def zna:SC PG:=fz (E0 [] [] [zer N]) Tryz.func186 [] (.cons (.int .i64) (.int .i64)) (.fresh (.int .u8)) [] (fun v=>j8 N v.1 v.2) (by kernel_rfl)
def zuw:SE PG:=E0 [] [] []
def zwd:SL PG Tryz.f185.ntmps (Z8 Tryz.f185):=lz N (zuw) [] 58 ⟨[0,3,4],(.cons (.list (.list (.int .u8))) Sh9_),[(2000000,[3], .sl (.int .u8))],[]⟩ (2,⟨[3],(.own 2000000),[(2000000,[3], .sl (.int .u8))],[]⟩) [] (za9 N N) (z3l N) (fun f v=>f v.1.1 v.1.2.2 v.2.1) (fun r b0 b1 b2=>r ((b0,((),b1)),(b2,()))) rfl (fun _=>rfl) (fun _ _=>rfl) (by kernel_rfl)
def zq1:SC PG:=fz (zuw) Tryz.func185 [zwd N] (.list (.list (.int .u8))) (.fresh (.int .u8)) [] (fun v=>z79 N v) (by kernel_rfl)
def zx9:SC PG:=fz (E0 [(J5,[8])] [] [zer N]) Tryz.func186 [] (.cons (.int .i64) (.int .i64)) (.list (.int .u8)) [] (fun v=>W6 N v.1 v.2) (by kernel_rfl)
def znn:SE PG:=E0 [(J5,[2000000])] [] [zna N,znh N]
def zrb:SL PG Tryz.f187.ntmps (Z8 Tryz.f187):=lz N (znn N) [] 58 ⟨[0,3,4],(.cons (.list Z9) Sh9_),[(2000000,[3], .sl (.int .u8))],[]⟩ (2,⟨[3],(.own 2000000),[(2000000,[3], .sl (.int .u8))],[]⟩) [] (z78 N N) (z0y N) (fun f v=>f v.1.1 v.1.2.2 v.2.1) (fun r b0 b1 b2=>r ((b0,((),b1)),(b2,()))) rfl (fun _=>rfl) (fun _ _=>rfl) (by kernel_rfl)
def y09:SC PG:=fz (znn N) Tryz.func187 [zrb N] (.list Z9) (.list (.int .u8)) [] (fun v=>zc9 N v) (by kernel_rfl)
def zkm:SE PG:=E0 [(J5,[2000000])] [] []
def zn2:SL PG Tryz.f188.ntmps (Z8 Tryz.f188):=lz N (zkm) [] 58 ⟨[0,5,6],(.cons (.int .u64) Sh9_),[(2000000,[5], .sl (.int .u8))],[]⟩ (2,⟨[5],(.own 2000000),[(2000000,[5], .sl (.int .u8))],[]⟩) [] (z4x N N) (z02 N) (fun f v=>f v.1.1 v.1.2.2 v.2.1) (fun r b0 b1 b2=>r ((b0,((),b1)),(b2,()))) rfl (fun _=>rfl) (fun _ _=>rfl) (by kernel_rfl)
def zua:SC PG:=fz (zkm) Tryz.func188 [zn2 N] (.cons (.int .u64) (.int .i64)) (.list (.int .u8)) [] (fun v=>z64 N v.1 v.2) (by kernel_rfl)
def zev:SE PG:=E0 [(2000040,[23]),(3000070,[70]),(3000108,[108])] [] [zx9 N,y09 N,zq1 N,zua N]
def zoq:SL PG Tryz.f127.ntmps (Z8 Tryz.f127):=lz N (zev N) [] 250 ⟨[2,3,5,8],yf4,[(2000000,[2], .boxV Y1),(2000001,[3], .boxV Y5),(2000002,[5], .sl (.int .u8))],[]⟩ (4,⟨[5],(.own 2000000),[(2000000,[5], .sl (.int .u8))],[]⟩) [] (z3a N N) (z0j N) (fun f v=>f v.1.2.2.2 v.2.1 v.2.2.1 v.2.2.2.1) (fun r b0 b1 b2 b3=>r (((),((),((),b0))),(b1,(b2,(b3,()))))) rfl (fun _=>rfl) (fun _ _=>rfl) (by kernel_rfl)
def zor:SL PG Tryz.f127.ntmps (Z8 Tryz.f127):=lz N (zev N) [] 58 ⟨[2,3,5,6],yf4,[(2000000,[2], .boxV Y1),(2000001,[3], .boxV Y5),(2000002,[5], .sl (.int .u8))],[]⟩ (2,⟨[2,3,5],ynf,[(2000000,[2], .boxV Y1),(2000001,[3], .boxV Y5),(2000002,[5], .sl (.int .u8))],[]⟩) [] (z5x N N) (z0k N) (fun f v=>f v.1.2.2.2 v.2.1 v.2.2.1 v.2.2.2.1) (fun r b0 b1 b2 b3=>r (((),((),((),b0))),(b1,(b2,(b3,()))))) rfl (fun _=>rfl) (fun _ _=>rfl) (by kernel_rfl)
def zxb:SC PG:=fz (zev N) Tryz.func127 [zor N,zoq N] (.cons (.val Y1) (.val Y5)) (.fresh (.int .u8)) [] (fun v=>zda N v.1 v.2) (by kernel_rfl)
def zno:SE PG:=E0 [] [] []
def zrc:SL PG Tryz.f128.ntmps (Z8 Tryz.f128):=lz N (zno) [] 28 ⟨[0,1,5],(.cons (.list (.int .u8)) (.cons (.int .i64) (.own 2000000))),[(2000000,[5], .sl (.list (.int .u8)))],[]⟩ (2,⟨[0,5],(.cons (.list (.int .u8)) (.own 2000000)),[(2000000,[5], .sl (.list (.int .u8)))],[]⟩) [] (z7a N N) (z4n N) (fun f v=>f v.1.1 v.1.2.1 v.2.1) (fun r b0 b1 b2=>r ((b0,(b1,())),(b2,()))) rfl (fun _=>rfl) (fun _ _=>rfl) (by kernel_rfl)
def y0a:SC PG:=fz (zno) Tryz.func128 [zrc N] (.cons (.list (.int .u8)) (.int .i64)) (.fresh (.list (.int .u8))) [] (fun v=>zg3 N v.1 v.2) (by kernel_rfl)
def y18:SC PG:=fz (E0 [(J5,[5,10])] [] [zay N]) Tryz.func131 [] (.val K3) (.val K3) [] (fun v=>z94 N v) (by kernel_rfl)
def zml:SE PG:=E0 [(J5,[40]),(2000021,[9,11,14,17,20])] [] [zna N,zhc N,zer N,zq1 N]
def zop:SL PG Tryz.f132.ntmps (Z8 Tryz.f132):=lz N (zml N) [] 58 ⟨[2,7,8],(.cons (.list (.int .i64)) Sh9_),[(2000000,[7], .sl (.int .u8))],[]⟩ (2,⟨[7],(.own 2000000),[(2000000,[7], .sl (.int .u8))],[]⟩) [] (z5w N N) (z0i N) (fun f v=>f v.1.1 v.1.2.2 v.2.1) (fun r b0 b1 b2=>r ((b0,((),b1)),(b2,()))) rfl (fun _=>rfl) (fun _ _=>rfl) (by kernel_rfl)
def zxa:SC PG:=fz (zml N) Tryz.func132 [zop N] (.cons (.int .i64) (.cons (.list (.int .u8)) (.list (.int .i64)))) (.list (.int .u8)) [] (fun v=>zd9 N v.1 v.2.1 v.2.2) (by kernel_rfl)
def zzc:SE PG:=E0 [] [] []
def zzs:SL PG Tryz.f190.ntmps (Z8 Tryz.f190):=lz N (zzc) [] 26 ⟨[0,1,5],(.cons (.list (.int .i64)) zpw),[],[]⟩ (1,⟨[4], .bool,[],[]⟩) [(2,⟨[], .nil,[],[]⟩)] (zg4 N N) (zc2 N) (fun f v=>f v.1.1 v.1.2.1 v.1.2.2) (fun r b0 b1 b2=>r ((b0,(b1,b2)),())) rfl (fun _=>rfl) (fun _ _=>rfl) (by kernel_rfl)
def y87:SC PG:=fz (zzc) Tryz.func190 [zzs N] (.cons (.list (.int .i64)) (.int .i64)) .bool [] (fun v=>y6x N v.1 v.2) (by kernel_rfl)
def zlf:SE PG:=E0 [(J5,[2000001])] [] [y87 N]
def zwg:SL PG Tryz.f133.ntmps (Z8 Tryz.f133):=pz (zlf N) [] 13 ⟨[1,2,4,29],(.cons (.int .i64) (.cons (.ptr 2000000 0) (.cons (.ptr 2000001 0) .bool))),[(2000000,[2], .boxV K0),(2000001,[4], .boxC [.nils, .nils, .int .i64 0])],[]⟩ (1,⟨[4,5],Sh5_,[(2000000,[4], .boxV K0)],[]⟩) [(0,⟨[1,2,4],(.cons (.int .i64) Sh2_),[(2000000,[2], .boxV K0),(2000001,[4], .boxC [.nils, .nils, .int .i64 0])],[]⟩)] (fun v=>zaa N v.1.1 v.1.2.2.2 v.2.1) (by kernel_rfl)
def zwh:SL PG Tryz.f133.ntmps (Z8 Tryz.f133):=pz (zlf N) [] 7 ⟨[1,2,4],(.cons (.int .i64) Sh2_),[(2000000,[2], .boxV K0),(2000001,[4], .boxC [.nils, .nils, .int .i64 0])],[]⟩ (1,⟨[4,5],Sh5_,[(2000000,[4], .box (.cons (.list .bool) y6h)),(2000001,[4,1], .sl (.int .i64))],[]⟩) [] (fun v=>zab N v.1.1 v.2.1) (by kernel_rfl)
def y5a:SC PG:=fz (zlf N) Tryz.func133 [zwg N,zwh N] (.cons (.val K0) (.int .i64)) (.tup (.cons (.val K0) (.int .i64))) [] (fun v=>y2i N v.1 v.2) (by kernel_rfl)
def znp:SE PG:=E0 [(J5,[2000002])] [] []
def zrd:SL PG Tryz.f134.ntmps (Z8 Tryz.f134):=lz N (znp) [] 58 ⟨[1,2,3,4],yf4,[(2000000,[1], .boxV K0),(2000001,[2], .boxC [.nils, .nils, .int .i64 0]),(2000002,[3], .sl .bool)],[]⟩ (2,⟨[1,2,3],ynf,[(2000000,[1], .boxV K0),(2000001,[2], .boxC [.nils, .nils, .int .i64 0]),(2000002,[3], .sl .bool)],[]⟩) [] (z1u N N) (z4o N) (fun f v=>f v.1.2.2.2 v.2.1 v.2.2.2.1) (fun r b0 b1 b2=>r (((),((),((),b0))),(b1,((),(b2,()))))) rfl (fun _=>rfl) (fun _ _=>rfl) (by kernel_rfl)
def y0b:SC PG:=fz (znp) Tryz.func134 [zrd N] (.val K0) (.val K0) [] (fun v=>zcb N v) (by kernel_rfl)
def zle:SE PG:=E0 [(6,[30]),(16,[2000003])] [] [y15 N,zxb N,y0a N,y14 N,y18 N,zxa N,zl7 N,y5a N,y0b N]
def zwe:SL PG Tryz.f78.ntmps (Z8 Tryz.f78):=lz N (zle N) [] 65530 ⟨[2,4,6,10,15],(.cons (.ptr 2000000 0) (.cons (.ptr 2000001 0) (.cons (.own 2000002) (.cons (.list (.int .i64)) (.int .i64))))),[(2000000,[2], .boxV Y5),(2000001,[4], .boxC [.int .i64 0, .nils, .nils, .nils, .nils, .int .i64 0, .int .i64 0, .int .i64 0, .int .i64 0, .nils, .nils, .nils, .int .i64 0]),(2000002,[6], .sl (.int .i64))],[]⟩ (4,⟨[2,4,10],(.cons (.ptr 2000000 0) (.cons (.ptr 2000001 0) (.list (.int .i64)))),[(2000000,[2], .boxV Y5),(2000001,[4], .boxC [.int .i64 0, .nils, .nils, .nils, .nils, .int .i64 0, .int .i64 0, .int .i64 0, .int .i64 0, .nils, .nils, .nils, .int .i64 0])],[]⟩) [] (z5l N N) (z6i N) (fun f v=>f v.1.2.2.2.1 v.1.2.2.2.2 v.2.1 v.2.2.2.1) (fun r b0 b1 b2 b3=>r (((),((),((),(b0,b1)))),(b2,((),(b3,()))))) rfl (fun _=>rfl) (fun _ _=>rfl) (by kernel_rfl)
def zwf:SL PG Tryz.f78.ntmps (Z8 Tryz.f78):=lz N (zle N) [] 1018 ⟨[2,4,5,6,8,9,10,11],(.cons (.ptr 2000000 0) (.cons (.ptr 2000001 0) (.cons (.ptr 2000002 0) (.cons (.list (.int .i64)) (.cons (.list (.int .u8)) yjm))))),[(2000000,[2], .boxV Y5),(2000001,[4], .boxC [.int .i64 0, .nils, .nils, .nils, .nils, .int .i64 0, .int .i64 0, .int .i64 0, .int .i64 0, .nils, .nils, .nils, .int .i64 0]),(2000002,[5], .boxV Y5),(2000003,[9], .sl (.list (.int .u8))),(2000004,[10], .sl (.int .i64))],[]⟩ (1,⟨[4],(.ptr 2000000 0),[(2000000,[4], .boxV ze5)],[]⟩) [(2,⟨[2,4,5,6,8,10],(.cons (.ptr 2000000 0) (.cons (.ptr 2000001 0) (.cons (.ptr 2000002 0) (.cons (.list (.int .i64)) (.cons (.list (.int .u8)) (.own 2000003)))))),[(2000000,[2], .boxV Y5),(2000001,[4], .boxC [.int .i64 0, .nils, .nils, .nils, .nils, .int .i64 0, .int .i64 0, .int .i64 0, .int .i64 0, .nils, .nils, .nils, .int .i64 0]),(2000002,[5], .boxV Y5),(2000003,[10], .sl (.int .i64))],[]⟩)] (z7r N N) (z3m N) (fun f v=>f v.1.2.2.2.1 v.1.2.2.2.2.1 v.1.2.2.2.2.2.2.2 v.2.1 v.2.2.2.1 v.2.2.2.2.1 v.2.2.2.2.2.1) (fun r b0 b1 b2 b3 b4 b5 b6=>r (((),((),((),(b0,(b1,((),((),b2))))))),(b3,((),(b4,(b5,(b6,()))))))) rfl (fun _=>rfl) (fun _ _=>rfl) (by kernel_rfl)
def y56:SC PG:=fz (zle N) Tryz.func78 [zwf N,zwe N] (.cons (.val Y5) (.val Y1)) (.val ze5) [] (fun v=>zi2 N v.1 v.2) (by kernel_rfl)
def zud:SC PG:=fz (E0 [] [] [y86 N,y56 N]) Tryz.func35 [] (.cons (.val K3) (.cons (.int .i64) (.val Y1))) (.val ze5) [] (fun v=>zpd N v.1 v.2.1 v.2.2) (by kernel_rfl)
def zxh:SC PG:=fz (E0 [(2000017,[16])] [] [zuf N,zug N,zue N,zud N]) Tryz.func32 [] .nil (.val z4g) [] (fun _=>zqf N) (by kernel_rfl)
def y8f:SC PG:=fz (E0 [] [] []) Tryz.func136 [] (.cons (.val (.list Y9)) (.int .i64)) .bool [] (fun v=>zpj N v.1 v.2) (by kernel_rfl)
def zr9:SM PG:=mz (E0 [] [] []) Tryz.func80 [] ⟨[0,1],(.cons (.int .i64) (.ptr 5000000 0)),[(5000000,[1], .box (.own 5000001)),(5000001,[1,0], .sl (.int .i64))],[]⟩ ⟨[0],(.tup .nil),[(5000000,[5000000], .box (.own 2000001)),(2000001,[5000000,0], .sl (.int .i64))],[]⟩ [] (fun v=>zb1 N v.1.1 v.2.2.1) (by kernel_rfl)
def z1i(self:Int->(List Z7)->(List Int)->Bool->(List Int)->Option ((Unit×((List Z7)×(Unit×((List Int)×(Bool×((Unit×(Unit×(Unit×(Unit×Unit))))×(Unit×(Unit×((List Int)×Unit))))))))))):CtrM:=ctrM ⟨[0,1,2,3,4,5],(.cons (.int .i64) Sh3_),[(5000000,[1], .box (.list Y9)),(5000001,[2], .box (.own 5000002)),(5000002,[2,0], .sl (.int .i64)),(5000003,[3], .box .bool),(5000004,[4], .box (.clo 135 Sh3_)),(5000005,[4,0,4], .box (.clo 80 (.ptr 5000006 0))),(5000006,[4,0,4,0,0], .box (.own 5000007)),(5000007,[4,0,4,0,0,0], .sl (.int .i64))],[]⟩ ⟨[0],(.tup .nil),[(5000000,[5000000], .box (.list Y9)),(5000001,[5000001], .box (.own 5000002)),(5000002,[5000002], .sl (.int .i64)),(5000003,[5000003], .box .bool),(5000004,[5000004], .box (.clo 135 Sh3_)),(5000005,[5000005], .box (.clo 80 (.ptr 5000006 0))),(5000006,[5000006], .box (.own 2000007)),(2000007,[5000006,0], .sl (.int .i64))],[]⟩ [] (fun v=>self v.1.1 v.2.1 v.2.2.2.1 v.2.2.2.2.1 v.2.2.2.2.2.2.2.2.1)
def zj1(self:Int->(List Z7)->(List Int)->Bool->(List Int)->Option ((Unit×((List Z7)×(Unit×((List Int)×(Bool×((Unit×(Unit×(Unit×(Unit×Unit))))×(Unit×(Unit×((List Int)×Unit)))))))))))(hs:zcn PG 135 (z1i self)):SE PG:=E0 [] [42,49] [y8f N] [⟨135,z1i self,hs⟩,zr9 N]
def zmu(self:Int->(List Z7)->(List Int)->Bool->(List Int)->Option ((Unit×((List Z7)×(Unit×((List Int)×(Bool×((Unit×(Unit×(Unit×(Unit×Unit))))×(Unit×(Unit×((List Int)×Unit)))))))))))(hs:zcn PG 135 (z1i self)):SL PG Tryz.f135.ntmps (Z8 Tryz.f135):=lz N (zj1 N self hs) [] 122 ⟨[0,2,4,5,34,35,36],(.cons (.int .i64) (.cons (.ptr 5000001 0) (.cons (.ptr 5000004 0) (.cons (.ptr 5000005 0) (.cons (.list (.int .i64)) zpw))))),[(5000001,[5000001], .box (.own 5000002)),(5000002,[5000002], .sl (.int .i64)),(5000004,[5000004], .box (.clo 135 Sh3_)),(5000000,[5000000], .box (.list Y9)),(5000003,[5000003], .box .bool),(5000005,[5000005], .box (.clo 80 (.ptr 5000006 0))),(5000006,[5000006], .box (.own 2000007)),(2000007,[5000006,0], .sl (.int .i64))],[]⟩ (2,⟨[0,2,5],(.cons (.int .i64) (.cons (.ptr 5000001 0) (.ptr 5000005 0))),[(5000001,[5000001], .box (.own 5000002)),(5000002,[5000002], .sl (.int .i64)),(5000005,[5000005], .box (.clo 80 (.ptr 5000006 0))),(5000006,[5000006], .box (.own 2000004)),(2000004,[5000006,0], .sl (.int .i64)),(5000000,[5000000], .box (.list Y9)),(5000003,[5000003], .box .bool),(5000004,[5000004], .box (.clo 135 Sh3_))],[]⟩) [] (z0t N self N) (u9 N self) (fun f v=>f v.1.1 v.1.2.2.2.2.1 v.1.2.2.2.2.2.1 v.1.2.2.2.2.2.2 v.2.2.1 v.2.2.2.2.1 v.2.2.2.2.2.1 v.2.2.2.2.2.2.2.2.1) (fun r b0 b1 b2 b3 b4 b5 b6 b7=>r ((b0,((),((),((),(b1,(b2,b3)))))),((),(b4,(((),((),((),((),())))),(b5,(b6,((),((),(b7,())))))))))) rfl (fun _=>rfl) (fun _ _=>rfl) (by kernel_rfl)
def zs2(self:Int->(List Z7)->(List Int)->Bool->(List Int)->Option ((Unit×((List Z7)×(Unit×((List Int)×(Bool×((Unit×(Unit×(Unit×(Unit×Unit))))×(Unit×(Unit×((List Int)×Unit)))))))))))(hs:zcn PG 135 (z1i self)):SM PG:=mz (zj1 N self hs) Tryz.func135 [zmu N self hs] ⟨[0,1,2,3,4,5],(.cons (.int .i64) Sh3_),[(5000000,[1], .box (.list Y9)),(5000001,[2], .box (.own 5000002)),(5000002,[2,0], .sl (.int .i64)),(5000003,[3], .box .bool),(5000004,[4], .box (.clo 135 Sh3_)),(5000005,[4,0,4], .box (.clo 80 (.ptr 5000006 0))),(5000006,[4,0,4,0,0], .box (.own 5000007)),(5000007,[4,0,4,0,0,0], .sl (.int .i64))],[]⟩ ⟨[0],(.tup .nil),[(5000000,[5000000], .box (.list Y9)),(5000001,[5000001], .box (.own 5000002)),(5000002,[5000002], .sl (.int .i64)),(5000003,[5000003], .box .bool),(5000004,[5000004], .box (.clo 135 Sh3_)),(5000005,[5000005], .box (.clo 80 (.ptr 5000006 0))),(5000006,[5000006], .box (.own 2000007)),(2000007,[5000006,0], .sl (.int .i64))],[]⟩ [] (fun v=>z1g N self v.1.1 v.2.1 v.2.2.2.1 v.2.2.2.2.1 v.2.2.2.2.2.2.2.2.1) (by kernel_rfl)
def zr8:SM PG:=yr2 (f:=135) z1i (fun _ _ _ _ _=>none) (z1g N) (yij fun _=>rfl) (fun self hs=>(zs2 N self hs).h) N
def z6e:SE PG:=E0 [] [25] [] [zr8 N]
def zb6:SL PG Tryz.f79.ntmps (Z8 Tryz.f79):=lz N (z6e N) [] 506 ⟨[8,9,17,18,19],(.cons (.ptr 2000000 0) (.cons (.ptr 2000001 0) (.cons (.list (.int .i64)) zpw))),[(2000000,[8], .box .bool),(2000001,[9], .box (.clo 135 (.cons (.ptr 2000002 0) (.cons (.ptr 2000003 0) (.cons (.ptr 2000000 0) (.cons (.ptr 2000001 0) (.ptr 2000005 0))))))),(2000002,[9,0,0], .box (.list Y9)),(2000003,[9,0,1], .box (.own 2000004)),(2000004,[9,0,1,0], .sl (.int .i64)),(2000005,[9,0,4], .box (.clo 80 (.ptr 5000000 0))),(5000000,[5000000], .box (.own 2000007)),(2000007,[5000000,0], .sl (.int .i64))],[]⟩ (2,⟨[8],(.ptr 2000000 0),[(2000000,[8], .box .bool),(5000000,[5000000], .box (.own 2000002)),(2000002,[5000000,0], .sl (.int .i64))],[]⟩) [] (Q8 N N) (Q3 N) (fun f v=>f v.1.2.2.1 v.1.2.2.2.1 v.1.2.2.2.2 v.2.1 v.2.2.2.1 v.2.2.2.2.2.1 v.2.2.2.2.2.2.2.2.1) (fun r b0 b1 b2 b3 b4 b5 b6=>r (((),((),(b0,(b1,b2)))),(b3,(((),((),((),((),())))),(b4,((),(b5,((),((),(b6,())))))))))) rfl (fun _=>rfl) (fun _ _=>rfl) (by kernel_rfl)
def zct:SM PG:=mz (z6e N) Tryz.func79 [zb6 N] ⟨[0,1,2],(.cons (.val (.list Y9)) (.cons (.list (.int .i64)) (.clo 80 (.ptr 5000000 0)))),[(5000000,[2,0], .box (.own 5000001)),(5000001,[2,0,0], .sl (.int .i64))],[]⟩ ⟨[0], .bool,[(5000000,[5000000], .box (.own 2000001)),(2000001,[5000000,0], .sl (.int .i64))],[]⟩ [] (fun v=>pool_visit_m__pool_Reach_c1 N v.1.1 v.1.2.1 v.2.2.1) (by kernel_rfl)
def lay_slices_Sort_s_int_int_m_ren:Go.Shelf.Ren:=⟨fun | 189=>81 | 125=>138 | 257=>137 | 128=>200 | 129=>201 | 294=>191 | 295=>192 | 296=>193 | 297=>194 | 298=>195 | 299=>196 | 216=>197 | 300=>198 | 301=>199 | 328=>244 | 329=>245 | 330=>246 | 331=>247 | 332=>248 | 215=>249 | 343=>289 | n=>n,fun | 28=>27 | 3=>3 | 46=>240 | 0=>0 | 51=>310 | 53=>103 | 4=>4 | 183=>304 | 182=>303 | 131=>117 | 5=>5 | 9=>9 | 218=>347 | 222=>351 | 228=>404 | 229=>366 | n=>n,fun n=>n⟩
theorem zfz:Go.Proofs.Lays.n189 PG lay_slices_Sort_s_int_int_m_ren:={
 mixed:=by kernel_rfl
 f125:=Tryz.func138.trans (congrArg some (by kernel_rfl))
 f128:=Tryz.func200.trans (congrArg some (by kernel_rfl))
 f129:=Tryz.func201.trans (congrArg some (by kernel_rfl))
 f189:=Tryz.func81.trans (congrArg some (by kernel_rfl))
 f215:=Tryz.func249.trans (congrArg some (by kernel_rfl))
 f216:=Tryz.func197.trans (congrArg some (by kernel_rfl))
 f257:=Tryz.func137.trans (congrArg some (by kernel_rfl))
 f294:=Tryz.func191.trans (congrArg some (by kernel_rfl))
 f295:=Tryz.func192.trans (congrArg some (by kernel_rfl))
 f296:=Tryz.func193.trans (congrArg some (by kernel_rfl))
 f297:=Tryz.func194.trans (congrArg some (by kernel_rfl))
 f298:=Tryz.func195.trans (congrArg some (by kernel_rfl))
 f299:=Tryz.func196.trans (congrArg some (by kernel_rfl))
 f300:=Tryz.func198.trans (congrArg some (by kernel_rfl))
 f301:=Tryz.func199.trans (congrArg some (by kernel_rfl))
 f328:=Tryz.func244.trans (congrArg some (by kernel_rfl))
 f329:=Tryz.func245.trans (congrArg some (by kernel_rfl))
 f330:=Tryz.func246.trans (congrArg some (by kernel_rfl))
 f331:=Tryz.func247.trans (congrArg some (by kernel_rfl))
 f332:=Tryz.func248.trans (congrArg some (by kernel_rfl))
 f343:=Tryz.func289.trans (congrArg some (by kernel_rfl))
 t0:=Tryz.underlying0
 a0:=Tryz.isAgg0
 z0:=Tryz.sizeOf0
 v0:=Tryz.zeroValue0
 t3:=Tryz.underlying3
 a3:=Tryz.isAgg3
 z3:=Tryz.sizeOf3
 v3:=Tryz.zeroValue3
 t4:=Tryz.underlying4
 a4:=Tryz.isAgg4
 z4:=Tryz.sizeOf4
 v4:=Tryz.zeroValue4
 t5:=Tryz.underlying5
 a5:=Tryz.isAgg5
 z5:=Tryz.sizeOf5
 v5:=Tryz.zeroValue5
 t9:=Tryz.underlying9
 a9:=Tryz.isAgg9
 z9:=Tryz.sizeOf9
 v9:=Tryz.zeroValue9
 t28:=Tryz.underlying27
 a28:=Tryz.isAgg27
 z28:=Tryz.sizeOf27
 v28:=Tryz.zeroValue27
 t46:=Tryz.underlying240
 a46:=Tryz.isAgg240
 z46:=Tryz.sizeOf240
 v46:=Tryz.zeroValue240
 t51:=Tryz.underlying310
 a51:=Tryz.isAgg310
 z51:=Tryz.sizeOf310
 v51:=Tryz.zeroValue310
 t53:=Tryz.underlying103
 a53:=Tryz.isAgg103
 z53:=Tryz.sizeOf103
 v53:=Tryz.zeroValue103
 t131:=Tryz.underlying117
 a131:=Tryz.isAgg117
 z131:=Tryz.sizeOf117
 v131:=Tryz.zeroValue117
 t182:=Tryz.underlying303
 a182:=Tryz.isAgg303
 z182:=Tryz.sizeOf303
 v182:=Tryz.zeroValue303
 t183:=Tryz.underlying304
 a183:=Tryz.isAgg304
 z183:=Tryz.sizeOf304
 v183:=Tryz.zeroValue304
 t218:=Tryz.underlying347
 a218:=Tryz.isAgg347
 z218:=Tryz.sizeOf347
 v218:=Tryz.zeroValue347
 t222:=Tryz.underlying351
 a222:=Tryz.isAgg351
 z222:=Tryz.sizeOf351
 v222:=Tryz.zeroValue351
 t228:=Tryz.underlying404
 a228:=Tryz.isAgg404
 z228:=Tryz.sizeOf404
 v228:=Tryz.zeroValue404
 t229:=Tryz.underlying366
 a229:=Tryz.isAgg366
 z229:=Tryz.sizeOf366
 v229:=Tryz.zeroValue366
 }
def zie:Code:=match Tryz.f81.body with | some c=>c | none=> .skip
def z80(N:Nat):CtrM:=ctrM sortIn sortOut [] (fun v=>z1q N v.2.1)
theorem zcy(N:Nat):zcn PG 81 (z80 N):=by
 have e1:lay_slices_Sort_s_int_int_m_ren.f 189=81:=by kernel_rfl
 have h:=ydy zfz (fn:=Tryz.f81) (c:=zie) (by rw[e1];exact Tryz.func81) (by kernel_rfl) (by kernel_rfl)
 rw[e1]at h
 exact h
def zgo:SM PG:=⟨81,z80 N,zcy N⟩
def y61:SC PG:=fz (E0 [] [9,11] [] [zct N,zgo N]) Tryz.func38 [] (.cons (.val (.list Y9)) (.list (.int .i64))) (.fresh (.int .i64)) [] (fun v=>zbi N v.1 v.2) (by kernel_rfl)
def zpy:SC PG:=fz (E0 [] [] []) Tryz.func39 [] (.cons (.val Y5) (.int .i64)) (.tup (.cons (.int .i64) .bool)) [] (fun v=>zd2 N v.1 v.2) (by kernel_rfl)
def zk3:SE PG:=E0 [(J5,[2000002,2000003])] [] [y61 N,zpy N]
def zsv:SL PG Tryz.f16.ntmps (Z8 Tryz.f16):=lz N (zk3 N) [] 250 ⟨[2,4,8,32,33,34],(.cons (.ptr 2000000 0) (.cons (.ptr 2000001 0) (.cons (.ptr 2000002 0) (.cons (.own 2000005) zpw)))),[(2000000,[2], .boxV Y5),(2000001,[4], .boxC [.nils, .nils, .int .i64 0]),(2000002,[8], .box yjm),(2000003,[8,0], .sl (.int .i64)),(2000004,[8,1], .sl (.int .i64)),(2000005,[32], .sl (.int .i64))],[]⟩ (4,⟨[4,8],Sh2_,[(2000000,[4], .boxC [.nils, .nils, .int .i64 0]),(2000001,[8], .box yjn),(2000002,[8,0], .sl (.int .i64)),(2000003,[8,1], .sl (.int .i64))],[]⟩) [] (z8a N N) (z1z N) (fun f v=>f v.1.2.2.2.2.1 v.1.2.2.2.2.2 v.2.1 v.2.2.2.1.2.2 v.2.2.2.2.1 v.2.2.2.2.2.1 v.2.2.2.2.2.2.1) (fun r b0 b1 b2 b3 b4 b5 b6=>r (((),((),((),((),(b0,b1))))),(b2,((),(((),((),b3)),(b4,(b5,(b6,())))))))) rfl (fun _=>rfl) (fun _ _=>rfl) (by kernel_rfl)
def zsw:SL PG Tryz.f16.ntmps (Z8 Tryz.f16):=lz N (zk3 N) [] 58 ⟨[2,3,4,5,17,18,19],(.cons (.ptr 2000000 0) (.cons (.ptr 2000001 0) (.cons (.ptr 2000002 0) (.cons (.own 2000003) (.cons (.list z6x) zpw))))),[(2000000,[2], .boxV Y5),(2000001,[3], .boxV Y1),(2000002,[4], .boxC [.nils, .nils, .int .i64 0]),(2000003,[5], .sl (.int .i64))],[]⟩ (2,⟨[2,3,4,5],(.cons (.ptr 2000000 0) (.cons (.ptr 2000001 0) (.cons (.ptr 2000002 0) (.own 2000003)))),[(2000000,[2], .boxV Y5),(2000001,[3], .boxV Y1),(2000002,[4], .boxC [.nils, .nils, .int .i64 0]),(2000003,[5], .sl (.int .i64))],[]⟩) [] (z8b N N) (z20 N) (fun f v=>f v.1.2.2.2.2.1 v.1.2.2.2.2.2.1 v.1.2.2.2.2.2.2 v.2.1 v.2.2.1 v.2.2.2.2.1) (fun r b0 b1 b2 b3 b4 b5=>r (((),((),((),((),(b0,(b1,b2)))))),(b3,(b4,((),(b5,())))))) rfl (fun _=>rfl) (fun _ _=>rfl) (by kernel_rfl)
def zn9:SC PG:=fz (zk3 N) Tryz.func16 [zsw N,zsv N] (.cons (.val Y5) (.val Y1)) (.val U2) [] (fun v=>zbl N v.1 v.2) (by kernel_rfl)
def zpz:SC PG:=fz (E0 [] [] []) Tryz.func19 [] (.val U2) .bool [] (fun v=>zbf N v) (by kernel_rfl)
def clone82_ren:Go.Shelf.Ren:=⟨fun | 41=>82 | n=>n,fun | 22=>27 | 23=>3 | n=>n,fun n=>n⟩
theorem yok:CloneL PG clone82_ren:={
 mixed:=by kernel_rfl
 f41:=⟨Tryz.f82.name,by decide,Tryz.func82.trans (congrArg some (by kernel_rfl))⟩
 t4:=Tryz.underlying4
 a4:=Tryz.isAgg4
 z4:=Tryz.sizeOf4
 v4:=Tryz.zeroValue4
 t22:=Tryz.underlying27
 a22:=Tryz.isAgg27
 z22:=Tryz.sizeOf27
 v22:=Tryz.zeroValue27
 }
def zj2:Code:=match Tryz.f82.body with | some c=>c | none=> .skip
def z86(N:Nat):Ctr:=zmp (.list (.int .i64)) (.fresh (.int .i64)) [] (fun v=>z6f N v)
def ti_slices_Clone_s_int_int:TI:=match yeh tyRows 3 with | some t=>t | none=>⟨.other,0,0,[],none⟩
theorem zeb(N:Nat):z6p PG 82 (fun vs=>(z86 N).run vs some):=by
 have e1:clone82_ren.f 41=82:=by kernel_rfl
 have e2:clone82_ren.t 23=3:=by kernel_rfl
 have h:=yb0 yok (ei:=ti_slices_Clone_s_int_int) (ty:=(.int .i64)) (fn:=Tryz.f82) (c:=zj2) (by rw[e2];exact y4m y6k 3 _ (by kernel_rfl)) (by kernel_rfl) (by rw[e1];exact Tryz.func82) (by kernel_rfl) (by kernel_rfl)
 rw[e1,show ti_slices_Clone_s_int_int.bytes=8 by kernel_rfl]at h
 exact h
def zi1:SC PG:=⟨82,z86 N,zeb N⟩
def yal:SC PG:=fz (E0 [] [] []) Tryz.func43 [] (.cons (.val K3) (.int .i64)) .bool [] (fun v=>y4o N v.1 v.2) (by kernel_rfl)
def z75:SC PG:=fz (E0 [(J5,[1])] [] []) Tryz.func156 [] (.list G4) (.clo 229 (.bx (.list G4) 0)) [] (fun v=>G7 N v) (by kernel_rfl)
def zr7:SR PG:=rz (E0 [] [] []) 1 ([]:List (SL PG Tryz.f97.ntmps (Z8 Tryz.f97))) ([]:List (SL PG Tryz.f97.ntmps (Z8 Tryz.f97))) 116 117 ⟨[15,16,3,4,5],(.cons (.int .i64) (.cons (.agg (.cons .bool (.cons (.int .i64) (.list (.int .u8))))) (.cons (.ptr 5000000 0) (.cons (.ptr 5000001 0) (.ptr 5000003 0))))),[(5000000,[3], .box (.int .i64)),(5000001,[4], .box (.own 5000002)),(5000002,[4,0], .sl (.int .u8)),(5000003,[5], .box (.int .i64))],[]⟩ (1,⟨[], .nil,[(5000000,[5000000], .box (.int .i64)),(5000001,[5000001], .box (.list (.int .u8))),(5000002,[5000002], .sl (.int .u8)),(5000003,[5000003], .boxC [.int .i64 0])],[]⟩) [(0,⟨[], .nil,[(5000000,[5000000], .box (.int .i64)),(5000001,[5000001], .box (.own 5000002)),(5000002,[5000002], .sl (.int .u8)),(5000003,[5000003], .box (.int .i64))],[]⟩)] (fun v=>zmo N v.1.1 v.1.2.1.1 v.1.2.1.2.1 v.1.2.1.2.2 v.2.1 v.2.2.2.1 v.2.2.2.2.1) (by kernel_rfl)
def w7:SE PG:=E0 [] [17] [] [] [zr7 N]
def z3j:SL PG Tryz.f229.ntmps (Z8 Tryz.f229):=lz N (w7 N) [] 6 ⟨[0,1,3],(.cons (.yld 5000000) (.cons (.bx (.list G4) 0) (.int .i64))),[(5000000,[5000000], .rng 1 ya7 0),(5000001,[5000001], .box (.int .i64)),(5000002,[5000002], .box (.own 5000003)),(5000003,[5000003], .sl (.int .u8)),(5000004,[5000004], .box (.int .i64))],[]⟩ (1,⟨[], .nil,[(5000000,[5000000], .rng 1 ya7 1),(5000001,[5000001], .box (.int .i64)),(5000002,[5000002], .box (.list (.int .u8))),(5000004,[5000004], .boxC [.int .i64 0]),(5000003,[5000003], .sl (.int .u8))],[]⟩) [(2,⟨[], .nil,[(5000000,[5000000], .rng 1 ya7 0),(5000001,[5000001], .box (.int .i64)),(5000002,[5000002], .box (.own 5000003)),(5000003,[5000003], .sl (.int .u8)),(5000004,[5000004], .box (.int .i64))],[]⟩)] (X7 N N) (V9 N) (fun f v=>f v.1.2.1 v.1.2.2 v.2.2.1 v.2.2.2.2.1 v.2.2.2.2.2.1) (fun r b0 b1 b2 b3 b4=>r (((),(b0,b1)),(((),((),())),(b2,((),(b3,(b4,()))))))) rfl (fun _=>rfl) (fun _ _=>rfl) (by kernel_rfl)
def z4w:SM PG:=mz (w7 N) Tryz.func229 [z3j N] ⟨[0,1],(.cons (.yld 5000000) (.bx (.list G4) 0)),[(5000000,[0], .rng 1 ya7 0),(5000001,[0,0], .box (.int .i64)),(5000002,[0,1], .box (.own 5000003)),(5000003,[0,1,0], .sl (.int .u8)),(5000004,[0,2], .box (.int .i64))],[]⟩ ⟨[0],(.tup .nil),[(5000000,[5000000], .rng 1 ya7 1),(5000001,[5000001], .box (.int .i64)),(5000002,[5000002], .box (.list (.int .u8))),(5000004,[5000004], .boxC [.int .i64 0]),(5000003,[5000003], .sl (.int .u8))],[]⟩ [⟨[0],(.tup .nil),[(5000000,[5000000], .rng 1 ya7 0),(5000001,[5000001], .box (.int .i64)),(5000002,[5000002], .box (.own 5000003)),(5000003,[5000003], .sl (.int .u8)),(5000004,[5000004], .box (.int .i64))],[]⟩] (fun v=>Q2 N v.1.2 v.2.2.1 v.2.2.2.2.1 v.2.2.2.2.2.1) (by kernel_rfl)
def y38:SE PG:=E0 [] [] [yal N,z75 N] [z4w N]
def y12:SL PG Tryz.f97.ntmps (Z8 Tryz.f97):=gz (y38 N) 1 58 (.tmp 14) ⟨[2,3,4,5,14],(.cons (.ptr 2000000 0) (.cons (.ptr 2000001 0) (.cons (.ptr 2000002 0) (.cons (.ptr 2000003 0) (.clo 229 (.bx (.list G4) 0)))))),[(2000000,[2], .boxV K3),(2000001,[3], .box (.int .i64)),(2000002,[4], .boxC [.nils]),(2000003,[5], .boxC [.int .i64 0])],[]⟩ (1,⟨[4,5],Sh2_,[(2000000,[4], .box (.list (.int .u8))),(2000001,[5], .boxC [.int .i64 0])],[]⟩) [(0,⟨[2,3,4,5],(.cons (.ptr 2000000 0) (.cons (.ptr 2000001 0) (.cons (.ptr 2000002 0) (.ptr 2000004 0)))),[(2000000,[2], .boxV K3),(2000001,[3], .box (.int .i64)),(2000002,[4], .box (.own 2000003)),(2000003,[4,0], .sl (.int .u8)),(2000004,[5], .box (.int .i64))],[]⟩)] (fun v=>zoj N v.1.2.2.2.2 v.2.1 v.2.2.1) (by kernel_rfl)
def yam:SC PG:=fz (y38 N) Tryz.func97 [y12 N] (.cons (.val K3) (.int .i64)) (.tup (.cons (.list (.int .u8)) (.int .i64))) [] (fun v=>zvy N v.1 v.2) (by kernel_rfl)
def zvc:SE PG:=E0 [] [] []
def zx8:SL PG Tryz.f99.ntmps (Z8 Tryz.f99):=lz N (zvc) [] 58 ⟨[3,6,7,8],(.cons (.int .u64) (.cons (.list (.int .u8)) zpw)),[],[]⟩ (2,⟨[3],(.int .u64),[],[]⟩) [] (zas N N) (z45 N) (fun f v=>f v.1.1 v.1.2.1 v.1.2.2.1 v.1.2.2.2) (fun r b0 b1 b2 b3=>r ((b0,(b1,(b2,b3))),())) rfl (fun _=>rfl) (fun _ _=>rfl) (by kernel_rfl)
def y62:SC PG:=fz (zvc) Tryz.func99 [zx8 N] (.list (.int .u8)) (.int .u64) [] (fun v=>zmg N v) (by kernel_rfl)
def zs1:SC PG:=fz (E0 [] [] [yam N,y62 N]) Tryz.func84 [] (.cons (.bx (.cons (.list (.int .i64)) (.cons (.list (.int .i64)) (.cons (.int .i64) (.cons (.int .i64) (.cons (.list (.list (.int .u8))) (.cons (.list G4) (.cons (.list .bool) (.cons (.list (.int .i64)) (.cons (.int .i64) (.cons (.int .i64) (.cons (.int .i64) (.cons (.int .i64) (.cons (.list (.int .i64)) (.cons (.list (.int .u64)) (.list (.int .i64)))))))))))))))) 0) (.cons (.int .i64) (.int .i64))) .bool [] (fun v=>zax N v.1.1 v.1.2.1 v.1.2.2.1 v.1.2.2.2.1 v.1.2.2.2.2.1 v.1.2.2.2.2.2.1 v.1.2.2.2.2.2.2.1 v.1.2.2.2.2.2.2.2.1 v.1.2.2.2.2.2.2.2.2.1 v.1.2.2.2.2.2.2.2.2.2.1 v.1.2.2.2.2.2.2.2.2.2.2.1 v.1.2.2.2.2.2.2.2.2.2.2.2.1 v.1.2.2.2.2.2.2.2.2.2.2.2.2.1 v.1.2.2.2.2.2.2.2.2.2.2.2.2.2.1 v.1.2.2.2.2.2.2.2.2.2.2.2.2.2.2 v.2.1 v.2.2) (by kernel_rfl)
def zmt:SM PG:=mz (E0 [] [] []) Tryz.func83 [] ⟨[0],(.ptr 5000000 0),[(5000000,[0], .box (.cons (.list (.int .i64)) (.cons (.own 5000001) Sh0_))),(5000001,[0,1], .sl (.int .i64))],[]⟩ ⟨[0],(.clo 139 (.ptr 2000000 0)),[(2000000,[0,0], .box (.ptr 5000000 0)),(5000000,[5000000], .box (.cons (.list (.int .i64)) (.cons (.own 5000001) Sh0_))),(5000001,[5000001], .sl (.int .i64))],[]⟩ [] (fun v=>zb3 N v.2.1.1 v.2.1.2.2.1 v.2.1.2.2.2.1 v.2.1.2.2.2.2.1 v.2.1.2.2.2.2.2.1 v.2.1.2.2.2.2.2.2.1 v.2.1.2.2.2.2.2.2.2.1 v.2.1.2.2.2.2.2.2.2.2.1 v.2.1.2.2.2.2.2.2.2.2.2.1 v.2.1.2.2.2.2.2.2.2.2.2.2.1 v.2.1.2.2.2.2.2.2.2.2.2.2.2.1 v.2.1.2.2.2.2.2.2.2.2.2.2.2.2.1 v.2.1.2.2.2.2.2.2.2.2.2.2.2.2.2.1 v.2.1.2.2.2.2.2.2.2.2.2.2.2.2.2.2 v.2.2.1) (by kernel_rfl)
def zn1:SR PG:=rz (E0 [] [] [zs1 N]) 0 ([]:List (SL PG Tryz.f40.ntmps (Z8 Tryz.f40))) ([]:List (SL PG Tryz.f40.ntmps (Z8 Tryz.f40))) 500 501 ⟨[27,28,5,8],(.cons (.int .i64) (.cons (.int .i64) (.cons (.ptr 5000000 0) (.ptr 5000001 0)))),[(5000000,[5], .box (.int .i64)),(5000001,[8], .box (.ptr 5000002 0)),(5000002,[8,0], .box (.cons (.list (.int .i64)) (.cons (.own 5000003) Sh0_))),(5000003,[8,0,1], .sl (.int .i64))],[]⟩ (2,⟨[], .nil,[(5000000,[5000000], .box (.int .i64)),(5000001,[5000001], .box (.ptr 5000002 0)),(5000002,[5000002], .box yjk),(2000003,[5000002,1], .sl (.int .i64))],[]⟩) [(0,⟨[], .nil,[(5000000,[5000000], .box (.int .i64)),(5000001,[5000001], .box (.ptr 5000002 0)),(5000002,[5000002], .box yjk),(2000003,[5000002,1], .sl (.int .i64))],[]⟩)] (fun v=>z82 N v.1.1 v.1.2.1 v.2.1 v.2.2.2.1.1 v.2.2.2.1.2.2.1 v.2.2.2.1.2.2.2.1 v.2.2.2.1.2.2.2.2.1 v.2.2.2.1.2.2.2.2.2.1 v.2.2.2.1.2.2.2.2.2.2.1 v.2.2.2.1.2.2.2.2.2.2.2.1 v.2.2.2.1.2.2.2.2.2.2.2.2.1 v.2.2.2.1.2.2.2.2.2.2.2.2.2.1 v.2.2.2.1.2.2.2.2.2.2.2.2.2.2.1 v.2.2.2.1.2.2.2.2.2.2.2.2.2.2.2.1 v.2.2.2.1.2.2.2.2.2.2.2.2.2.2.2.2.1 v.2.2.2.1.2.2.2.2.2.2.2.2.2.2.2.2.2.1 v.2.2.2.1.2.2.2.2.2.2.2.2.2.2.2.2.2.2 v.2.2.2.2.1) (by kernel_rfl)
def z9k:SE PG:=E0 [] [34] [zpy N] [] [zn1 N]
def zcz:SL PG Tryz.f139.ntmps (Z8 Tryz.f139):=lz N (z9k N) [] 2 ⟨[0,1],(.cons (.yld 5000000) (.ptr 5000005 0)),[(5000005,[5000005], .box (.ptr 5000003 0)),(5000003,[5000003], .box (.cons (.list (.int .i64)) (.cons (.own 2000002) Sh0_))),(2000002,[5000003,1], .sl (.int .i64)),(5000000,[5000000], .rng 0 ya6 0),(5000001,[5000001], .box (.int .i64)),(5000002,[5000002], .box (.ptr 5000003 0))],[]⟩ (1,⟨[], .nil,[(5000000,[5000000], .rng 0 ya6 2),(5000001,[5000001], .box (.int .i64)),(5000002,[5000002], .box (.ptr 5000003 0)),(5000003,[5000003], .box yf3),(2000004,[5000003,1], .sl (.int .i64)),(5000005,[5000005], .box (.ptr 5000003 0))],[]⟩) [(2,⟨[], .nil,[(5000000,[5000000], .rng 0 ya6 0),(5000001,[5000001], .box (.int .i64)),(5000002,[5000002], .box (.ptr 5000003 0)),(5000003,[5000003], .box yf3),(2000004,[5000003,1], .sl (.int .i64)),(5000005,[5000005], .box (.ptr 5000003 0))],[]⟩)] (J0 N N) (K4 N) (fun f v=>f v.2.2.1.1 v.2.2.1.2.2.1 v.2.2.1.2.2.2.1 v.2.2.1.2.2.2.2.1 v.2.2.1.2.2.2.2.2.1 v.2.2.1.2.2.2.2.2.2.1 v.2.2.1.2.2.2.2.2.2.2.1 v.2.2.1.2.2.2.2.2.2.2.2.1 v.2.2.1.2.2.2.2.2.2.2.2.2.1 v.2.2.1.2.2.2.2.2.2.2.2.2.2.1 v.2.2.1.2.2.2.2.2.2.2.2.2.2.2.1 v.2.2.1.2.2.2.2.2.2.2.2.2.2.2.2.1 v.2.2.1.2.2.2.2.2.2.2.2.2.2.2.2.2.1 v.2.2.1.2.2.2.2.2.2.2.2.2.2.2.2.2.2 v.2.2.2.1 v.2.2.2.2.2.1) (fun r b0 b1 b2 b3 b4 b5 b6 b7 b8 b9 b10 b11 b12 b13 b14 b15=>r (((),()),((),((b0,((),(b1,(b2,(b3,(b4,(b5,(b6,(b7,(b8,(b9,(b10,(b11,(b12,b13)))))))))))))),(b14,(((),()),(b15,((),())))))))) rfl (fun _=>rfl) (fun _ _=>rfl) (by kernel_rfl)
def zgp:SM PG:=mz (z9k N) Tryz.func139 [zcz N] ⟨[0,1],(.cons (.yld 5000000) (.ptr 5000005 0)),[(5000000,[0], .rng 0 ya6 0),(5000001,[0,0], .box (.int .i64)),(5000002,[0,1], .box (.ptr 5000003 0)),(5000003,[0,1,0], .box (.cons (.list (.int .i64)) (.cons (.own 5000004) Sh0_))),(5000004,[0,1,0,1], .sl (.int .i64)),(5000005,[1], .box (.ptr 5000003 0))],[]⟩ ⟨[0],(.tup .nil),[(5000000,[5000000], .rng 0 ya6 2),(5000001,[5000001], .box (.int .i64)),(5000002,[5000002], .box (.ptr 5000003 0)),(5000003,[5000003], .box yf3),(2000004,[5000003,1], .sl (.int .i64)),(5000005,[5000005], .box (.ptr 5000003 0))],[]⟩ [⟨[0],(.tup .nil),[(5000000,[5000000], .rng 0 ya6 0),(5000001,[5000001], .box (.int .i64)),(5000002,[5000002], .box (.ptr 5000003 0)),(5000003,[5000003], .box yf3),(2000004,[5000003,1], .sl (.int .i64)),(5000005,[5000005], .box (.ptr 5000003 0))],[]⟩] (fun v=>z5v N v.2.2.1 v.2.2.2.2.1.1 v.2.2.2.2.1.2.2.1 v.2.2.2.2.1.2.2.2.1 v.2.2.2.2.1.2.2.2.2.1 v.2.2.2.2.1.2.2.2.2.2.1 v.2.2.2.2.1.2.2.2.2.2.2.1 v.2.2.2.2.1.2.2.2.2.2.2.2.1 v.2.2.2.2.1.2.2.2.2.2.2.2.2.1 v.2.2.2.2.1.2.2.2.2.2.2.2.2.2.1 v.2.2.2.2.1.2.2.2.2.2.2.2.2.2.2.1 v.2.2.2.2.1.2.2.2.2.2.2.2.2.2.2.2.1 v.2.2.2.2.1.2.2.2.2.2.2.2.2.2.2.2.2.1 v.2.2.2.2.1.2.2.2.2.2.2.2.2.2.2.2.2.2.1 v.2.2.2.2.1.2.2.2.2.2.2.2.2.2.2.2.2.2.2 v.2.2.2.2.2.1) (by kernel_rfl)
def zuu:SE PG:=E0 [(J5,[2000003])] [26] [zi1 N] [zmt N,zgp N]
def zwb:SL PG Tryz.f40.ntmps (Z8 Tryz.f40):=gz (zuu N) 0 250 (.tmp 26) ⟨[5,6,8,26],(.cons (.ptr 2000000 0) (.cons (.ptr 2000001 0) (.cons (.ptr 2000002 0) (.clo 139 (.ptr 2000005 0))))),[(2000000,[5], .box (.int .i64)),(2000001,[6], .boxC [.nils, .nils, .int .i64 0]),(2000002,[8], .box (.ptr 2000003 0)),(2000003,[8,0], .box yf3),(2000004,[8,0,1], .sl (.int .i64)),(2000005,[26,0], .box (.ptr 2000003 0))],[]⟩ (2,⟨[6,8],Sh2_,[(2000000,[6], .boxC [.nils, .nils, .int .i64 0]),(2000001,[8], .box (.ptr 2000002 0)),(2000002,[8,0], .box yjk),(2000003,[8,0,1], .sl (.int .i64))],[]⟩) [(0,⟨[6,8],Sh2_,[(2000000,[6], .boxC [.nils, .nils, .int .i64 0]),(2000001,[8], .box (.ptr 2000002 0)),(2000002,[8,0], .box yjk),(2000003,[8,0,1], .sl (.int .i64))],[]⟩)] (fun v=>zjt N v.2.1 v.2.2.2.2.1.1 v.2.2.2.2.1.2.2.1 v.2.2.2.2.1.2.2.2.1 v.2.2.2.2.1.2.2.2.2.1 v.2.2.2.2.1.2.2.2.2.2.1 v.2.2.2.2.1.2.2.2.2.2.2.1 v.2.2.2.2.1.2.2.2.2.2.2.2.1 v.2.2.2.2.1.2.2.2.2.2.2.2.2.1 v.2.2.2.2.1.2.2.2.2.2.2.2.2.2.1 v.2.2.2.2.1.2.2.2.2.2.2.2.2.2.2.1 v.2.2.2.2.1.2.2.2.2.2.2.2.2.2.2.2.1 v.2.2.2.2.1.2.2.2.2.2.2.2.2.2.2.2.2.1 v.2.2.2.2.1.2.2.2.2.2.2.2.2.2.2.2.2.2.1 v.2.2.2.2.1.2.2.2.2.2.2.2.2.2.2.2.2.2.2 v.2.2.2.2.2.1) (by kernel_rfl)
def y52:SC PG:=fz (zuu N) Tryz.func40 [zwb N] (.cons (.val U2) (.cons (.val Y5) (.int .i64))) (.tup (.cons (.val U2) (.int .i64))) [] (fun v=>zlq N v.1 v.2.1 v.2.2) (by kernel_rfl)
def zq7:SC PG:=fz (E0 [] [] [y52 N]) Tryz.func17 [] (.cons (.val U2) (.cons (.val Y5) (.int .i64))) (.val zlo) [] (fun v=>z34 N v.1 v.2.1 v.2.2) (by kernel_rfl)
def zux:SE PG:=E0 [(J5,[2000002])] [] [zay N]
def zwi:SL PG Tryz.f33.ntmps (Z8 Tryz.f33):=lz N (zux N) [] 58 ⟨[1,2,3,4],Sh6_,[(2000000,[1], .boxV K3),(2000001,[2], .boxC [.int .i64 0, .nils, .nils]),(2000002,[3], .box (.cons (.int .i64) (.cons (.own 2000003) (.own 2000004)))),(2000003,[3,1], .sl (.list (.int .u8))),(2000004,[3,2], .sl G4)],[]⟩ (2,⟨[2,3],Sh2_,[(2000000,[2], .boxC [.int .i64 0, .nils, .nils]),(2000001,[3], .box (.cons (.int .i64) (.cons (.own 2000002) (.own 2000003)))),(2000002,[3,1], .sl (.list (.int .u8))),(2000003,[3,2], .sl G4)],[]⟩) [] (zac N N) (z3n N) (fun f v=>f v.1.2.2.2 v.2.1 v.2.2.2.1.1 v.2.2.2.2.1 v.2.2.2.2.2.1) (fun r b0 b1 b2 b3 b4=>r (((),((),((),b0))),(b1,((),((b2,((),())),(b3,(b4,()))))))) rfl (fun _=>rfl) (fun _ _=>rfl) (by kernel_rfl)
def zq3:SC PG:=fz (zux N) Tryz.func33 [zwi N] (.val K3) (.val K3) [] (fun v=>zdc N v) (by kernel_rfl)
def zd3:SC PG:=fz (E0 [] [] []) Tryz.func21 [] (.cons (.val Y5) (.int .i64)) (.int .i64) [] (fun v=>z9d N v.1 v.2) (by kernel_rfl)
def y88:SC PG:=fz (E0 [(J5,[42,30,30,4126])] [] [zju N,zay N]) Tryz.func37 [] (.cons (.val K3) (.val zvg)) (.tup (.cons (.val K3) (.int .i64))) [] (fun v=>zpf N v.1 v.2) (by kernel_rfl)
def zlr:SC PG:=fz (E0 [] [] [zd3 N,zl8 N,y88 N]) Tryz.func14 [] (.cons (.val Y5) (.cons (.list (.int .i64)) (.val T_ref28_Rot))) (.tup (.cons (.val Y5) (.int .i64))) [] (fun v=>z5c N v.1 v.2.1 v.2.2) (by kernel_rfl)
def zv4:SE PG:=E0 [] [] []
def zwv:SL PG Tryz.f23.ntmps (Z8 Tryz.f23):=lz N (zv4) [] 58 ⟨[0,1,5],(.cons (.list (.int .i64)) (.cons (.list (.int .i64)) (.int .i64))),[],[]⟩ (1,⟨[4], .bool,[],[]⟩) [(2,⟨[], .nil,[],[]⟩)] (zak N N) (z3w N) (fun f v=>f v.1.1 v.1.2.1 v.1.2.2) (fun r b0 b1 b2=>r ((b0,(b1,b2)),())) rfl (fun _=>rfl) (fun _ _=>rfl) (by kernel_rfl)
def zq5:SC PG:=fz (zv4) Tryz.func23 [zwv N] (.cons (.list (.int .i64)) (.list (.int .i64))) .bool [] (fun v=>zdm N v.1 v.2) (by kernel_rfl)
def zq0:SC PG:=fz (E0 [] [] [zq5 N]) Tryz.func15 [] (.cons (.val U2) (.val U2)) .bool [] (fun v=>z76 N v.1 v.2) (by kernel_rfl)
def zhk:SE PG:=E0 [] [] [zxh N,zn9 N,zpz N,zq7 N,zq3 N,zlr N,zq5 N,zq0 N]
def zry:SL PG Tryz.f11.ntmps (Z8 Tryz.f11):=pz (zhk N) [] 4095 ⟨[0], .bool,[],[]⟩ (1,⟨[0], .bool,[],[]⟩) [] (fun v=>v8 N v.1) (by kernel_rfl)
def zrz:SL PG Tryz.f11.ntmps (Z8 Tryz.f11):=pz (zhk N) [zry N] 31 ⟨[1,2],Sh2_,[(2000000,[1], .boxV z4g),(2000001,[2], .boxV U2)],[]⟩ (1,⟨[0], .bool,[],[]⟩) [] (fun v=>zmj N v.2.1 v.2.2.1) (by kernel_rfl)
def y0r:SC PG:=fz (zhk N) Tryz.func11 [zrz N] .nil .bool [] (fun _=>zck N) (by kernel_rfl)
def y19:SC PG:=fz (E0 [] [] []) Tryz.func76 [] (.int .u8) (.val z3i) [] (fun v=>zj3 N v) (by kernel_rfl)
def zq6:SC PG:=fz (E0 [] [] []) Tryz.func147 [] (.int .u8) .str [] (fun v=>zbh N v) (by kernel_rfl)
def y8c:SC PG:=fz (E0 [] [] [zq6 N]) Tryz.func145 [] (.int .u8) .str [] (fun v=>zku N v) (by kernel_rfl)
def y1s:SC PG:=fz (E0 [] [] []) Tryz.func150 [] (.int .u8) .str [] (fun v=>zj9 N v) (by kernel_rfl)
def zlj:SE PG:=E0 [] [] [y8c N,zq6 N,z0d N,zaz N,y1s N,zg2 N]
def zx1:SL PG Tryz.f90.ntmps (Z8 Tryz.f90):=pz (zlj N) [] 127 ⟨[1,2,3,5,6,7],(.cons (.ptr 2000000 0) (.cons (.ptr 2000001 0) (.cons .str (.cons (.ptr 2000002 0) (.cons .str .str))))),[(2000000,[1], .boxV g8),(2000001,[2], .boxC [.int .i64 0, .str [], .str [], .str [], .str [], .str [], .str [], .int .i64 0]),(2000002,[5], .boxV Z2)],[]⟩ (1,⟨[2],(.ptr 2000000 0),[(2000000,[2], .boxV Z9)],[]⟩) [] (fun v=>z1a N v.1.2.2.1 v.1.2.2.2.2.1 v.1.2.2.2.2.2 v.2.1 v.2.2.2.1) (by kernel_rfl)
def zx2:SL PG Tryz.f90.ntmps (Z8 Tryz.f90):=pz (zlj N) [zx1 N] 31 ⟨[1,2,3,5],(.cons (.ptr 2000000 0) (.cons (.ptr 2000001 0) (.cons .str (.ptr 2000002 0)))),[(2000000,[1], .boxV g8),(2000001,[2], .boxC [.int .i64 0, .str [], .str [], .str [], .str [], .str [], .str [], .int .i64 0]),(2000002,[5], .boxV Z2)],[]⟩ (1,⟨[2],(.ptr 2000000 0),[(2000000,[2], .boxV Z9)],[]⟩) [] (fun v=>z1b N v.1.2.2.1 v.2.1 v.2.2.2.1) (by kernel_rfl)
def y5y:SC PG:=fz (zlj N) Tryz.func90 [zx2 N] (.val g8) (.val Z9) [] (fun v=>zdt N v) (by kernel_rfl)
def znz:SE PG:=E0 [(J5,[2000000])] [] [y5y N]
def zrs:SL PG Tryz.f47.ntmps (Z8 Tryz.f47):=lz N (znz N) [] 58 ⟨[0,1,5,6],(.cons (.list g8) (.cons (.int .i64) Sh9_)),[(2000000,[5], .sl Z9)],[]⟩ (2,⟨[5],(.own 2000000),[(2000000,[5], .sl Z9)],[]⟩) [] (z7j N N) (q9 N) (fun f v=>f v.1.1 v.1.2.1 v.1.2.2.2 v.2.1) (fun r b0 b1 b2 b3=>r ((b0,(b1,((),b2))),(b3,()))) rfl (fun _=>rfl) (fun _ _=>rfl) (by kernel_rfl)
def y0n:SC PG:=fz (znz N) Tryz.func47 [zrs N] (.cons (.list g8) (.int .i64)) (.list Z9) [] (fun v=>zgc N v.1 v.2) (by kernel_rfl)
def y5f:SC PG:=fz (E0 [] [] []) Tryz.func49 [] (.int .u8) .str [] (fun v=>zi4 N v) (by kernel_rfl)
def zuy:SE PG:=E0 [(J5,[63])] [] [zjy N,zjw N]
def zwl:SL PG Tryz.f48.ntmps (Z8 Tryz.f48):=lz N (zuy N) [] 58 ⟨[1,2,4,5],(.cons .str Sh4_),[(2000000,[2], .boxV Y1),(2000001,[4], .boxC [.nils, .int .i64 0, .int .i64 0, .int .i64 0, .nils, .int .i64 0, .int .i64 0, .int .i64 0, .nils, .int .i64 0, .int .i64 0])],[]⟩ (1,⟨[4],(.ptr 2000000 0),[(2000000,[4], .boxV zex)],[]⟩) [(2,⟨[1,2,4],(.cons .str Sh2_),[(2000000,[2], .boxV Y1),(2000001,[4], .boxC [.nils, .int .i64 0, .int .i64 0, .int .i64 0, .nils, .int .i64 0, .int .i64 0, .int .i64 0, .nils, .int .i64 0, .int .i64 0])],[]⟩)] (z7s N N) (z3o N) (fun f v=>f v.1.1 v.1.2.2.2 v.2.1) (fun r b0 b1 b2=>r ((b0,((),((),b1))),(b2,((),())))) rfl (fun _=>rfl) (fun _ _=>rfl) (by kernel_rfl)
def y5e:SC PG:=fz (zuy N) Tryz.func48 [zwl N] (.cons (.val Y1) .str) (.val zex) [] (fun v=>zi3 N v.1 v.2) (by kernel_rfl)
def yaj:SC PG:=fz (E0 [] [] []) Tryz.func51 [] (.cons (.val Y1) (.int .u8)) (.int .i64) [] (fun v=>zow N v.1 v.2) (by kernel_rfl)
def y0d:SC PG:=fz (E0 [] [] [zjv N,zjw N,zd4 N]) Tryz.func50 [] (.cons (.val Y1) (.int .i64)) (.tup (.cons (.val Y1) (.int .i64))) [] (fun v=>zg6 N v.1 v.2) (by kernel_rfl)
def y1q:SC PG:=fz (E0 [(2000012,[11])] [] [zlt N]) Tryz.func94 [] (.cons (.list Z9) (.list Z9)) (.list Z9) [] (fun v=>z97 N v.1 v.2) (by kernel_rfl)
def znq:SE PG:=E0 [(J5,[2000004])] [] [zjv N,zd4 N,y1q N]
def zre:SL PG Tryz.f52.ntmps (Z8 Tryz.f52):=lz N (znq N) [] 1018 ⟨[1,2,4,6,7,8,9],(.cons (.int .i64) (.cons (.ptr 2000000 0) (.cons (.ptr 2000001 0) (.cons (.int .i64) yjp)))),[(2000000,[2], .boxV Y1),(2000001,[4], .boxC [.nils, .int .i64 0, .int .i64 0, .int .i64 0, .nils, .int .i64 0, .int .i64 0, .int .i64 0, .nils]),(2000002,[7], .boxV z6x),(2000003,[8], .box yq4),(2000004,[8,4], .sl z6x)],[]⟩ (2,⟨[1,2,4,7,8],(.cons (.int .i64) (.cons (.ptr 2000000 0) (.cons (.ptr 2000001 0) (.cons (.ptr 2000002 0) (.ptr 2000003 0))))),[(2000000,[2], .boxV Y1),(2000001,[4], .boxC [.nils, .int .i64 0, .int .i64 0, .int .i64 0, .nils, .int .i64 0, .int .i64 0, .int .i64 0, .nils]),(2000002,[7], .boxV z6x),(2000003,[8], .box yq4),(2000004,[8,4], .sl z6x)],[]⟩) [] (z4p N N) (z10 N) (fun f v=>f v.1.1 v.1.2.2.2.1 v.1.2.2.2.2.2.2 v.2.1 v.2.2.2.1 v.2.2.2.2.1.1 v.2.2.2.2.1.2.1 v.2.2.2.2.1.2.2.1 v.2.2.2.2.1.2.2.2.1 v.2.2.2.2.1.2.2.2.2.2.1 v.2.2.2.2.1.2.2.2.2.2.2.1 v.2.2.2.2.1.2.2.2.2.2.2.2.1 v.2.2.2.2.1.2.2.2.2.2.2.2.2 v.2.2.2.2.2.1) (fun r b0 b1 b2 b3 b4 b5 b6 b7 b8 b9 b10 b11 b12 b13=>r ((b0,((),((),(b1,((),((),b2)))))),(b3,((),(b4,((b5,(b6,(b7,(b8,((),(b9,(b10,(b11,b12)))))))),(b13,()))))))) rfl (fun _=>rfl) (fun _ _=>rfl) (by kernel_rfl)
def y0c:SC PG:=fz (znq N) Tryz.func52 [zre N] (.cons (.val Y1) (.int .i64)) (.tup (.cons (.val Y1) (.int .i64))) [] (fun v=>zg5 N v.1 v.2) (by kernel_rfl)
def zlg:SE PG:=E0 [] [] [y0n N,zug N,y5f N,y5e N,yaj N,y0d N,y0c N]
def zwj:SL PG Tryz.f24.ntmps (Z8 Tryz.f24):=pz (zlg N) [] 53 ⟨[2,3,4,13,14],(.cons (.ptr 2000000 0) (.cons (.ptr 2000001 0) (.cons (.ptr 2000002 0) (.cons (.int .u8) .bool)))),[(2000000,[2], .boxV Y1),(2000001,[3], .boxV j9),(2000002,[4], .boxC [.nils, .int .i64 0, .int .i64 0, .int .i64 0, .nils, .int .i64 0, .int .i64 0, .int .i64 0, .nils])],[]⟩ (1,⟨[4],(.ptr 2000000 0),[(2000000,[4], .boxV Y1)],[]⟩) [(0,⟨[2,3,4],y3n,[(2000000,[2], .boxV Y1),(2000001,[3], .boxV j9),(2000002,[4], .boxC [.nils, .int .i64 0, .int .i64 0, .int .i64 0, .nils, .int .i64 0, .int .i64 0, .int .i64 0, .nils])],[]⟩)] (fun v=>z0z N v.1.2.2.2.1 v.1.2.2.2.2 v.2.1 v.2.2.1) (by kernel_rfl)
def zwk:SL PG Tryz.f24.ntmps (Z8 Tryz.f24):=pz (zlg N) [] 7 ⟨[2,3,4],y3n,[(2000000,[2], .boxV Y1),(2000001,[3], .boxV j9),(2000002,[4], .boxC [.nils, .int .i64 0, .int .i64 0, .int .i64 0, .nils, .int .i64 0, .int .i64 0, .int .i64 0, .nils])],[]⟩ (1,⟨[4],(.ptr 2000000 0),[(2000000,[4], .boxV Y1)],[]⟩) [] (fun v=>z3b N v.2.1 v.2.2.1) (by kernel_rfl)
def y5d:SC PG:=fz (zlg N) Tryz.func24 [zwj N,zwk N] (.cons (.val Y1) (.val j9)) (.val Y1) [] (fun v=>zm1 N v.1 v.2) (by kernel_rfl)
def zuz:SE PG:=E0 [] [] [y19 N,zuf N,y5d N]
def zwm:SL PG Tryz.f34.ntmps (Z8 Tryz.f34):=lz N (zuz N) [] 58 ⟨[1,4,5,7],(.cons (.list j9) Sh4_),[(2000000,[4], .boxC [.nils, .int .i64 0, .int .i64 0, .int .i64 0, .nils, .int .i64 0, .int .i64 0, .int .i64 0, .nils]),(2000001,[5], .boxV Y1)],[]⟩ (2,⟨[4,5],Sh2_,[(2000000,[4], .boxC [.nils, .int .i64 0, .int .i64 0, .int .i64 0, .nils, .int .i64 0, .int .i64 0, .int .i64 0, .nils]),(2000001,[5], .boxV Y1)],[]⟩) [] (zad N N) (z6j N) (fun f v=>f v.1.1 v.1.2.2.2 v.2.2.1) (fun r b0 b1 b2=>r ((b0,((),((),b1))),((),(b2,())))) rfl (fun _=>rfl) (fun _ _=>rfl) (by kernel_rfl)
def y5g:SC PG:=fz (zuz N) Tryz.func34 [zwm N] (.cons (.int .u8) (.list j9)) (.val Y1) [] (fun v=>zm2 N v.1 v.2) (by kernel_rfl)
def y58:SC PG:=fz (E0 [] [] [zue N]) Tryz.func36 [] (.val zsu) (.val K3) [] (fun v=>zm0 N v) (by kernel_rfl)
def y57:SC PG:=fz (E0 [] [] [y5g N,y58 N,zud N,zq3 N]) Tryz.func12 [] (.val zbu) (.val z4g) [] (fun v=>zlz N v) (by kernel_rfl)
def zql:SE PG:=E0 [] [] []
def zt5:SL PG Tryz.f27.ntmps (Z8 Tryz.f27):=lz N (zql) [] 58 ⟨[1,3,4],Sh7_,[(2000000,[1], .boxV Y1),(2000001,[3], .sl (.int .i64))],[]⟩ (2,⟨[3],(.own 2000000),[(2000000,[3], .sl (.int .i64))],[]⟩) [] (z8f N N) (z27 N) (fun f v=>f v.1.2.2 v.2.1 v.2.2.1) (fun r b0 b1 b2=>r (((),((),b0)),(b1,(b2,())))) rfl (fun _=>rfl) (fun _ _=>rfl) (by kernel_rfl)
def y1a:SC PG:=fz (zql) Tryz.func27 [zt5 N] (.val Y1) (.fresh (.int .i64)) [] (fun v=>zob N v) (by kernel_rfl)
def zk5:SE PG:=E0 [(5,[2000002])] [] [za6 N]
def ztc:SL PG Tryz.f26.ntmps (Z8 Tryz.f26):=lz N (zk5 N) [] 506 ⟨[5,8,9],(.cons (.own 2000000) y6h),[(2000000,[5], .sl .bool),(2000001,[8], .sl (.int .i64))],[]⟩ (4,⟨[8],(.own 2000000),[(2000000,[8], .sl (.int .i64))],[]⟩) [] (z67 N N) (z2c N) (fun f v=>f v.1.2.2 v.2.1 v.2.2.1) (fun r b0 b1 b2=>r (((),((),b0)),(b1,(b2,())))) rfl (fun _=>rfl) (fun _ _=>rfl) (by kernel_rfl)
def ztd:SL PG Tryz.f26.ntmps (Z8 Tryz.f26):=lz N (zk5 N) [] 60 ⟨[2,5,6],(.cons (.ptr 2000000 0) (.cons (.own 2000001) (.list (.int .i64)))),[(2000000,[2], .box (.list Y9)),(2000001,[5], .sl .bool)],[16,48]⟩ (2,⟨[5],(.own 2000000),[(2000000,[5], .sl .bool)],[]⟩) [] (z68 N N) (z2d N) (fun f v=>f v.1.2.2 v.2.1 v.2.2.1) (fun r b0 b1 b2=>r (((),((),b0)),(b1,(b2,())))) rfl (fun _=>rfl) (fun _ _=>rfl) (by kernel_rfl)
def y1g:SC PG:=fz (zk5 N) Tryz.func26 [ztd N,ztc N] (.cons (.val (.list Y9)) (.list (.int .i64))) (.fresh (.int .i64)) [] (fun v=>zef N v.1 v.2) (by kernel_rfl)
def zqi:SE PG:=E0 [(J5,[2000002,2000003])] [] [y1a N,y1g N,zd3 N]
def zsx:SL PG Tryz.f13.ntmps (Z8 Tryz.f13):=lz N (zqi N) [] 58 ⟨[2,4,5,6,7],(.cons (.ptr 2000000 0) (.cons (.ptr 2000001 0) (.cons (.ptr 2000002 0) (.cons (.own 2000005) (.int .i64))))),[(2000000,[2], .boxV Y5),(2000001,[4], .boxC [.nils, .nils, .int .i64 0]),(2000002,[5], .box yjm),(2000003,[5,0], .sl (.int .i64)),(2000004,[5,1], .sl (.int .i64)),(2000005,[6], .sl (.int .i64))],[]⟩ (2,⟨[4,5],Sh2_,[(2000000,[4], .boxC [.nils, .nils, .int .i64 0]),(2000001,[5], .box yjn),(2000002,[5,0], .sl (.int .i64)),(2000003,[5,1], .sl (.int .i64))],[]⟩) [] (z8d N N) (z21 N) (fun f v=>f v.1.2.2.2.2 v.2.1 v.2.2.2.1.2.2 v.2.2.2.2.1 v.2.2.2.2.2.1 v.2.2.2.2.2.2.1) (fun r b0 b1 b2 b3 b4 b5=>r (((),((),((),((),b0)))),(b1,((),(((),((),b2)),(b3,(b4,(b5,())))))))) rfl (fun _=>rfl) (fun _ _=>rfl) (by kernel_rfl)
def y13:SC PG:=fz (zqi N) Tryz.func13 [zsx N] (.cons (.val Y5) (.val Y1)) (.val U2) [] (fun v=>zec N v.1 v.2) (by kernel_rfl)
def y54:SC PG:=fz (E0 [] [] [zd3 N,zl8 N,zhc N]) Tryz.func41 [] (.cons (.val Y5) (.int .i64)) .bool [] (fun v=>zlx N v.1 v.2) (by kernel_rfl)
def zuv:SE PG:=E0 [(J5,[2000001,2000003])] [] [zd3 N,y54 N]
def zwc:SL PG Tryz.f18.ntmps (Z8 Tryz.f18):=lz N (zuv N) [] 250 ⟨[2,3,4,6,8,9,10],(.cons (.int .i64) (.cons (.ptr 2000000 0) (.cons (.ptr 2000001 0) (.cons (.ptr 2000002 0) (.cons (.own 2000003) (.cons (.ptr 2000004 0) (.int .i64))))))),[(2000000,[3], .boxV U2),(2000001,[4], .boxV Y5),(2000002,[6], .boxC [.nils, .nils, .int .i64 0]),(2000003,[8], .sl (.int .i64)),(2000004,[9], .box (.cons (.own 2000005) (.cons (.own 2000006) (.int .i64)))),(2000005,[9,0], .sl (.int .i64)),(2000006,[9,1], .sl (.int .i64))],[]⟩ (2,⟨[6,8,9],(.cons (.ptr 2000000 0) (.cons (.own 2000001) (.ptr 2000002 0))),[(2000000,[6], .boxC [.nils, .nils, .int .i64 0]),(2000001,[8], .sl (.int .i64)),(2000002,[9], .box yjm),(2000003,[9,0], .sl (.int .i64)),(2000004,[9,1], .sl (.int .i64))],[]⟩) [] (za8 N N) (z3k N) (fun f v=>f v.1.1 v.1.2.2.2.2.2.2 v.2.1 v.2.2.1 v.2.2.2.2.1 v.2.2.2.2.2.1.2.2 v.2.2.2.2.2.2.1 v.2.2.2.2.2.2.2.1) (fun r b0 b1 b2 b3 b4 b5 b6 b7=>r ((b0,((),((),((),((),((),b1)))))),(b2,(b3,((),(b4,(((),((),b5)),(b6,(b7,()))))))))) rfl (fun _=>rfl) (fun _ _=>rfl) (by kernel_rfl)
def y53:SC PG:=fz (zuv N) Tryz.func18 [zwc N] (.cons (.val U2) (.cons (.val Y5) (.int .i64))) (.tup (.cons (.val U2) (.int .i64))) [] (fun v=>z5p N v.1 v.2.1 v.2.2) (by kernel_rfl)
def Q0:SE PG:=E0 [] [] [y0r N,y57 N,y13 N,zlr N,zn9 N,zq0 N,zq7 N,y53 N,zpz N]
def zb8:SL PG Tryz.f3.ntmps (Z8 Tryz.f3):=pz (Q0 N) [] 1047119 ⟨[1,7,10,12,13,123],yq1,[(2000000,[10], .boxV Y5),(2000001,[12], .boxV z1o)],[]⟩ (1,⟨[6], .bool,[],[]⟩) [(0,⟨[1,7,10,12,13],yjj,[(2000000,[10], .boxV Y5),(2000001,[12], .boxV z1o)],[]⟩)] (fun v=>U6 N v.1.1 v.1.2.1 v.1.2.2.2.2.1 v.1.2.2.2.2.2 v.2.1 v.2.2.1) (by kernel_rfl)
def zb7:SL PG Tryz.f3.ntmps (Z8 Tryz.f3):=pzS (Q0 N) [] 1047118 ⟨[1,7,10,12,13,15,16,17],(.cons (.list T_ref28_Rot) (.cons .bool (.cons (.ptr 2000000 0) (.cons (.ptr 2000001 0) (.cons (.int .i64) yjp))))),[(2000000,[10], .boxV Y5),(2000001,[12], .boxV z1o),(2000002,[15], .boxV zlo),(2000003,[16], .boxV U2)],[]⟩ (0,⟨[1,7,10,12,13,123],yq1,[(2000000,[10], .boxV Y5),(2000001,[12], .boxV z1o)],[]⟩) [] (fun v=>W8 N v.1.1 v.1.2.1 v.1.2.2.2.2.1 v.1.2.2.2.2.2.2.2 v.2.1 v.2.2.1 v.2.2.2.1 v.2.2.2.2.1) (by kernel_rfl) (by
 intro v t h
 obtain⟨⟨b0,⟨b1,⟨_,⟨_,⟨b2,⟨_,⟨_,b3⟩⟩⟩⟩⟩⟩⟩,⟨b4,⟨b5,⟨b6,⟨b7,_⟩⟩⟩⟩⟩:=v
 replace h:W8 N b0 b1 b2 b3 b4 b5 b6 b7=some t:=h
 unfold W8 at h
 cases e1:eqi b2 (1:Int)
 case true=>
  rw[e1]at h;replace h:g9 N b0 b1 b3 b4 b5 b6 b7=some t:=h
  have e:=eq_of_beq e1;subst e;refine Eq.trans ?_ h;kernel_rfl
 rw[e1,cond_false]at h
 cases e0:eqi b2 (0:Int)
 case true=>
  rw[e0]at h;replace h:z00 N b0 b1 b3 b4 b5 b6 b7=some t:=h
  have e:=eq_of_beq e0;subst e;refine Eq.trans ?_ h;kernel_rfl
 rw[e0,cond_false]at h
 cases h)
def zb9:SL PG Tryz.f3.ntmps (Z8 Tryz.f3):=pz (Q0 N) [] 32723 ⟨[1,7,10,12,13],yjj,[(2000000,[10], .boxV Y5),(2000001,[12], .boxV z1o)],[]⟩ (0,⟨[1,7,10,12,13],yjj,[(2000000,[10], .boxV Y5),(2000001,[12], .boxV z1o)],[]⟩) [] (fun v=>U7 N v.1.1 v.1.2.1 v.1.2.2.2.2 v.2.1 v.2.2.1) (by kernel_rfl)
def zbb:SL PG Tryz.f3.ntmps (Z8 Tryz.f3):=lz N (Q0 N) [zb7 N,zb8 N,zb9 N] 4090 ⟨[1,7,10,12,13],yjj,[(2000000,[10], .boxV Y5),(2000001,[12], .boxV z1o)],[]⟩ (1,⟨[6], .bool,[],[]⟩) [(4,⟨[7], .bool,[],[]⟩)] (W0 N N) (Q4 N) (fun f v=>f v.1.1 v.1.2.1 v.1.2.2.2.2 v.2.1 v.2.2.1) (fun r b0 b1 b2 b3 b4=>r ((b0,(b1,((),((),b2)))),(b3,(b4,())))) rfl (fun _=>rfl) (fun _ _=>rfl) (by kernel_rfl)
def zbc:SL PG Tryz.f3.ntmps (Z8 Tryz.f3):=lz N (Q0 N) [] 506 ⟨[1,5,7,8,9,10,11],(.cons (.list T_ref28_Rot) (.cons (.ptr 2000000 0) (.cons .bool (.cons (.ptr 2000001 0) yjp)))),[(2000000,[5], .boxV U2),(2000001,[8], .boxV z4g),(2000002,[9], .boxV U2),(2000003,[10], .boxV Y5)],[]⟩ (2,⟨[1,5,7,8,9,10],(.cons (.list T_ref28_Rot) (.cons (.ptr 2000000 0) (.cons .bool (.cons (.ptr 2000001 0) (.cons (.ptr 2000002 0) (.ptr 2000003 0)))))),[(2000000,[5], .boxV U2),(2000001,[8], .boxV z4g),(2000002,[9], .boxV U2),(2000003,[10], .boxV Y5)],[]⟩) [] (K8 N N) (Q5 N) (fun f v=>f v.1.1 v.1.2.2.1 v.1.2.2.2.2.2.2 v.2.1 v.2.2.1 v.2.2.2.1 v.2.2.2.2.1) (fun r b0 b1 b2 b3 b4 b5 b6=>r ((b0,((),(b1,((),((),((),b2)))))),(b3,(b4,(b5,(b6,())))))) rfl (fun _=>rfl) (fun _ _=>rfl) (by kernel_rfl)
def zba:SL PG Tryz.f3.ntmps (Z8 Tryz.f3):=pz (Q0 N) [zbc N,zbb N] 31 ⟨[1,5,7,8],(.cons (.list T_ref28_Rot) (.cons (.ptr 2000000 0) (.cons .bool (.ptr 2000001 0)))),[(2000000,[5], .boxV U2),(2000001,[8], .boxV z4g)],[]⟩ (1,⟨[6], .bool,[],[]⟩) [] (fun v=>z0s N v.1.1 v.1.2.2.1 v.2.1 v.2.2.1) (by kernel_rfl)
def z5o:SC PG:=fz (Q0 N) Tryz.func3 [zba N] (.cons (.val zbu) (.cons (.list T_ref28_Rot) (.val U2))) .bool [] (fun v=>k8 N v.1 v.2.1 v.2.2) (by kernel_rfl)
theorem zb5:z6p PG 3 (fun vs=>(z5o N).c.run vs some):=(z5o N).h
end
end Go.Proofs.YtljffhpbdmkplaaGreat
