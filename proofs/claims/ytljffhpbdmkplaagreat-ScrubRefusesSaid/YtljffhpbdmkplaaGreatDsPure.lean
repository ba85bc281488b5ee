/- Printed by a program of the session's: what the program's functions compute, and that they do. -/
import Derived.Test.YtljffhpbdmkplaaGreatDvD
set_option linter.all false
namespace Ds
open Go Go.Dv
def w5:Ty:=(.pair (.int .u8) (.pair (.int .u8) (.pair (.int .u8) (.pair (.int .u8) (.pair (.int .u8) (.int .u8))))))
abbrev K1:Type:=(Int×(Int×(Int×(Int×(Int×Int)))))
abbrev zxt:K1:=((0:Int),((0:Int),((0:Int),((0:Int),((0:Int),(0:Int))))))
def y9:Ty:=(.pair (.int .u8) (.pair (.int .u8) (.list w5)))
abbrev G1:Type:=(Int×(Int×(List K1)))
abbrev zie:G1:=((0:Int),((0:Int),([]:List K1)))
def zr8:Ty:=(.pair (.int .u8) (.pair (.int .u8) (.int .u8)))
abbrev zlb:Type:=(Int×(Int×Int))
abbrev yd0:zlb:=((0:Int),((0:Int),(0:Int)))
def zai:Ty:=(.pair (.int .u8) (.pair (.list y9) zr8))
abbrev zah:Type:=(Int×((List G1)×zlb))
abbrev ymk:zah:=((0:Int),(([]:List G1),yd0))
def z16:Ty:=(.pair (.list (.int .i64)) (.pair (.list (.int .i64)) (.int .i64)))
abbrev G2:Type:=((List Int)×((List Int)×Int))
abbrev zxv:G2:=(([]:List Int),(([]:List Int),(0:Int)))
def J4:Ty:=(.pair .bool (.pair (.int .i64) (.list (.int .u8))))
abbrev Y9:Type:=(Bool×(Int×(List Int)))
abbrev z18:Y9:=(false,((0:Int),([]:List Int)))
def Q4:Ty:=(.pair (.int .i64) (.pair (.list (.list (.int .u8))) (.list J4)))
abbrev V5:Type:=(Int×((List (List Int))×(List Y9)))
abbrev ycz:V5:=((0:Int),(([]:List (List Int)),([]:List Y9)))
def Q1:Ty:=(.pair (.list .bool) (.pair (.list (.int .i64)) (.int .i64)))
abbrev W9:Type:=((List Bool)×((List Int)×Int))
abbrev zxx:W9:=(([]:List Bool),(([]:List Int),(0:Int)))
def X3:Ty:=(.pair Q4 (.pair Q1 (.pair (.int .i64) (.pair (.int .i64) (.pair (.int .i64) (.pair (.list (.int .i64)) (.pair (.list (.int .u64)) (.list (.int .i64)))))))))
abbrev Z7:Type:=(V5×(W9×(Int×(Int×(Int×((List Int)×((List Int)×(List Int))))))))
abbrev zn5:Z7:=(ycz,(zxx,((0:Int),((0:Int),((0:Int),(([]:List Int),(([]:List Int),([]:List Int))))))))
def Y1:Ty:=(.pair .str (.pair .str (.int .i64)))
abbrev Z3:Type:=((List UInt8)×((List UInt8)×Int))
abbrev X4:Z3:=(([]:List UInt8),(([]:List UInt8),(0:Int)))
def z5y:Ty:=(.pair (.int .i64) (.int .i64))
abbrev z4s:Type:=(Int×Int)
abbrev zxw:z4s:=((0:Int),(0:Int))
def K8:Ty:=(.pair z5y z5y)
abbrev Y6:Type:=(z4s×z4s)
abbrev z5k:Y6:=(zxw,zxw)
def Z2:Ty:=(.pair .str .str)
abbrev Z0:Type:=((List UInt8)×(List UInt8))
abbrev Y7:Z0:=(([]:List UInt8),([]:List UInt8))
def Z8:Ty:=(.pair (.int .i64) (.pair .str (.pair .str (.pair Z2 (.pair .str (.pair .str (.int .i64)))))))
abbrev Z1:Type:=(Int×((List UInt8)×((List UInt8)×(Z0×((List UInt8)×((List UInt8)×Int))))))
abbrev U7:Z1:=((0:Int),(([]:List UInt8),(([]:List UInt8),(Y7,(([]:List UInt8),(([]:List UInt8),(0:Int)))))))
def Z9:Ty:=(.pair (.list Y1) (.pair (.list .str) (.pair (.list (.int .i64)) (.pair (.list K8) (.list Z8)))))
abbrev Z5:Type:=((List Z3)×((List (List UInt8))×((List Int)×((List Y6)×(List Z1)))))
abbrev zh1:Z5:=(([]:List Z3),(([]:List (List UInt8)),(([]:List Int),(([]:List Y6),([]:List Z1)))))
def Y8:Ty:=(.pair .bool (.pair .bool (.pair (.int .i64) Z9)))
abbrev Z6:Type:=(Bool×(Bool×(Int×Z5)))
abbrev X2:Z6:=(false,(false,((0:Int),zh1)))
def z2v:Ty:=(.pair (.int .i64) (.pair (.int .i64) (.int .i64)))
abbrev V6:Type:=(Int×(Int×Int))
abbrev zxu:V6:=((0:Int),((0:Int),(0:Int)))
def z5z:Ty:=(.pair (.int .i64) (.pair (.int .i64) (.pair (.int .i64) (.pair .str (.list Z8)))))
abbrev W7:Type:=(Int×(Int×(Int×((List UInt8)×(List Z1)))))
abbrev X0:W7:=((0:Int),((0:Int),((0:Int),(([]:List UInt8),([]:List Z1)))))
def Y2:Ty:=(.pair (.list Y8) (.pair z2v (.pair (.list z5z) (.pair (.int .i64) (.pair (.int .i64) (.pair (.int .i64) (.list Z8)))))))
abbrev Z4:Type:=((List Z6)×(V6×((List W7)×(Int×(Int×(Int×(List Z1)))))))
abbrev ztu:Z4:=(([]:List Z6),(zxu,(([]:List W7),((0:Int),((0:Int),((0:Int),([]:List Z1)))))))
def zay:Ty:=(.pair X3 (.pair Y2 (.int .i64)))
abbrev zax:Type:=(Z7×(Z4×Int))
abbrev yhj:zax:=(zn5,(ztu,(0:Int)))
def zxs:Ty:=(.pair (.int .u8) (.pair (.int .u16) (.int .u8)))
abbrev zxr:Type:=(Int×(Int×Int))
abbrev ymj:zxr:=((0:Int),((0:Int),(0:Int)))
def ztt:Ty:=(.pair z16 (.int .i64))
abbrev ztr:Type:=(G2×Int)
abbrev yl3:ztr:=(zxv,(0:Int))
def zcx:Ty:=(.pair X3 (.int .i64))
abbrev zcv:Type:=(Z7×Int)
abbrev yka:zcv:=(zn5,(0:Int))
def zts:Ty:=(.pair (.int .i64) (.pair (.int .i64) (.int .u8)))
abbrev ztq:Type:=(Int×(Int×Int))
abbrev yl0:ztq:=((0:Int),((0:Int),(0:Int)))
def zdn:Ty:=(.pair Y2 (.pair (.int .i64) (.int .i64)))
abbrev zdm:Type:=(Z4×(Int×Int))
abbrev yhh:zdm:=(ztu,((0:Int),(0:Int)))
def y6p:Ty:=(.pair z16 X3)
abbrev y6o:Type:=(G2×Z7)
abbrev ykz:y6o:=(zxv,zn5)
def X8:Ty:=(.pair (.list Y8) (.pair (.int .i64) z2v))
abbrev Y5:Type:=((List Z6)×(Int×V6))
abbrev y1y:Y5:=(([]:List Z6),((0:Int),zxu))
def z81:Ty:=(.pair X8 (.pair (.int .i64) (.int .i64)))
abbrev z3q:Type:=(Y5×(Int×Int))
abbrev yhk:z3q:=(y1y,((0:Int),(0:Int)))
def zj2:Ty:=(.pair (.list Y8) (.pair (.int .i64) (.int .i64)))
abbrev zcw:Type:=((List Z6)×(Int×Int))
abbrev yke:zcw:=(([]:List Z6),((0:Int),(0:Int)))
def zmo:Ty:=(.pair (.list Z8) (.list Z2))
abbrev zmn:Type:=((List Z1)×(List Z0))
abbrev yhl:zmn:=(([]:List Z1),([]:List Z0))
def ziz:Ty:=(.pair Q1 (.pair (.int .i64) (.int .i64)))
abbrev zix:Type:=(W9×(Int×Int))
abbrev ykb:zix:=(zxx,((0:Int),(0:Int)))
def zfb:Ty:=(.pair (.list (.int .i64)) .bool)
abbrev K0:Type:=((List Int)×Bool)
abbrev yl1:K0:=(([]:List Int),false)
def ybg:Ty:=(.pair (.int .i64) (.pair (.int .i64) (.pair (.int .i64) (.int .i64))))
abbrev zuj:Type:=(Int×(Int×(Int×Int)))
abbrev yoj:zuj:=((0:Int),((0:Int),((0:Int),(0:Int))))
def zk9:Ty:=(.pair Z9 (.pair Z2 (.int .i64)))
abbrev zfa:Type:=(Z5×(Z0×Int))
abbrev yl2:zfa:=(zh1,(Y7,(0:Int)))
def zj1:Ty:=(.pair (.list Z9) (.pair (.list .str) (.list Z8)))
abbrev ziy:Type:=((List Z5)×((List (List UInt8))×(List Z1)))
abbrev ykd:ziy:=(([]:List Z5),(([]:List (List UInt8)),([]:List Z1)))
def zdf:Ty:=(.pair (.list Z9) (.pair (.list .str) (.list Z8)))
abbrev zde:Type:=((List Z5)×((List (List UInt8))×(List Z1)))
abbrev yml:zde:=(([]:List Z5),(([]:List (List UInt8)),([]:List Z1)))
def z6q:Ty:=(.pair X8 (.pair (.int .i64) (.int .i64)))
abbrev z6p:Type:=(Y5×(Int×Int))
abbrev yhi:z6p:=(y1y,((0:Int),(0:Int)))
def zgg:Ty:=(.pair (.int .i64) (.int .i64))
abbrev z93:Type:=(Int×Int)
abbrev yoi:z93:=((0:Int),(0:Int))
def zn4:Ty:=(.pair (.list Z8) (.pair (.list Z8) (.list Z2)))
abbrev zid:Type:=((List Z1)×((List Z1)×(List Z0)))
abbrev ymm:zid:=(([]:List Z1),(([]:List Z1),([]:List Z0)))
def zj0:Ty:=(.pair (.list Y8) (.pair (.list (.int .i64)) (.int .i64)))
abbrev z9t:Type:=((List Z6)×((List Int)×Int))
abbrev ykc:z9t:=(([]:List Z6),(([]:List Int),(0:Int)))
def z17:Ty:=(.pair .str (.pair (.int .i64) (.pair (.int .i64) .str)))
abbrev G3:Type:=((List UInt8)×(Int×(Int×(List UInt8))))
abbrev ymn:G3:=(([]:List UInt8),((0:Int),((0:Int),([]:List UInt8))))
abbrev Ty0_:Type:=((List Int)×(Unit×(Int×(Int×((List (List Int))×((List Y9)×((List Bool)×((List Int)×(Int×(Int×(Int×(Int×((List Int)×((List Int)×(List Int)))))))))))))))
abbrev Ty1_:Type:=((Unit×((List Z6)×(Unit×((List Int)×(Bool×((Unit×(Unit×(Unit×(Unit×Unit))))×(Unit×(Unit×((List Int)×Unit))))))))))
abbrev Ty2_:Type:=(Int×((List (List Int))×((List Y9)×((List Bool)×((List Int)×(Int×(Int×(Int×(Int×(Unit×(Unit×(List Int))))))))))))
abbrev Ty3_:Type:=((Bool×Unit)⊕(Unit×Unit))
abbrev Ty4_:Type:=(Unit×((Unit×(Unit×(Unit×(Unit×(Unit×((List UInt8)×((List UInt8)×Int)))))))×((List Z3)×((List (List UInt8))×((List Int)×((List Y6)×((List Z1)×Unit)))))))
abbrev Ty5_:Type:=(Unit×((Unit×Unit)×(Int×(Unit×(Ty0_×((List Int)×(Unit×Unit)))))))
abbrev Ty6_:Type:=((Unit×((Unit×(Unit×Unit))×(Int×((List Int)×(Unit×((List Int)×Unit))))))⊕(Unit×((Unit×(Unit×Unit))×(Int×(Unit×((List Int)×(Int×Unit)))))))
abbrev Ty7_:Type:=(Unit×((List Z3)×Unit))
abbrev Ty8_:Type:=(((Unit×(Unit×(Unit×(Unit×(Unit×Int)))))×(Ty2_×((List Int)×((List Int)×(Z4×(Unit×(Z7×((List Int)×Unit)))))))))
abbrev Ty9_:Type:=(((Unit×Unit)×(Z5×((List Int)×Unit))))
abbrev y81:Type:=(Unit×(Unit×(Unit×Unit)))
abbrev yni:Type:=(((Int×y81)×(Z4×(Unit×(W7×(((List Z6)×(Int×(Int×(Int×(Unit×(Int×(Int×(Int×(List Z1)))))))))×((List W7)×Unit)))))))
abbrev ykt:Type:=((Unit×(Unit×Unit))×((List Z1)×((List Z1)×((List Z0)×Unit))))
abbrev ynh:Type:=((Unit×((Unit×(Unit×Int))×((List Z6)×((List Int)×Unit))))⊕((Unit×Unit)×(Unit×(((List Z6)×(Unit×Int))×((List Int)×Unit)))))
abbrev yng:Type:=((Unit×(zcv×Unit))⊕((Unit×(Unit×(Unit×((List Int)×((List Int)×Unit)))))×(Z7×(Unit×(Z7×((List Int)×Unit))))))
abbrev y80:Type:=((Unit×((List Z0)×Unit)))
abbrev ynf:Type:=(((Unit×((List Int)×Bool))×(Z7×Unit))⊕((Unit×(Unit×Unit))×(Ty2_×((List Int)×((List Int)×(Unit×((List Int)×Unit)))))))
abbrev yks:Type:=((Int×(Unit×Unit))×((List (List Int))×((List Y9)×Unit)))
abbrev yne:Type:=(((Int×(Unit×Unit))×(Unit×((List Int)×(Unit×(Unit×((List Int)×((List Z6)×(Bool×((Unit×y81)×Unit))))))))))
abbrev yhb:Type:=((List Z6)×(Z5×(Unit×Unit)))
abbrev ynd:Type:=(((Unit×Int)×(Z4×Unit))⊕(((List Z1)×(Unit×(Unit×Unit)))×(Z4×(Unit×(Y5×Unit)))))
abbrev ycw:Type:=(Unit×(Ty0_×((List Int)×Unit)))
abbrev ync:Type:=((Unit×((Unit×((List Int)×(Int×(Int×Int))))×((List Bool)×Unit)))⊕((Unit×Unit)×(W9×(Unit×Unit))))
abbrev ycv:Type:=((Unit×Int)×(Y5×Unit))
abbrev ynb:Type:=(((Unit×Unit)×(Unit×((Unit×(Unit×Unit))×((List Z5)×((List (List UInt8))×((List Z1)×Unit)))))))
abbrev yna:Type:=(((Unit×Unit)×((Unit×(Unit×Unit))×((List Z1)×((List Z1)×((List Z0)×(Unit×Unit)))))))
abbrev yha:Type:=(Unit×(Unit×((List Z6)×Unit)))
abbrev ycu:Type:=(Z5×(Z0×Unit))
abbrev yn9:Type:=((((List Z3)×Int)×Unit)⊕(((List Z0)×(Unit×Unit))×(Z5×((List Z3)×Unit))))
abbrev ykr:Type:=((Unit×(Unit×Int))×((List Bool)×((List Int)×Unit)))
abbrev yn8:Type:=(((Unit×Unit)×(Unit×((Unit×(Unit×(List Z1)))×((List Z5)×((List (List UInt8))×Unit))))))
abbrev yh9:Type:=(Z0×((List Z0)×Unit))
abbrev yn7:Type:=((((List Z0)×y81)×((List Z6)×(Z0×(Z5×((List Z0)×Unit))))))
abbrev yn6:Type:=((Unit×(zdm×Unit))⊕(((List UInt8)×(Unit×Unit))×(Z4×(Unit×Unit))))
abbrev yh8:Type:=((Unit×((List Y6)×Unit)))
abbrev yn5:Type:=((((List Z3)×((List Z0)×(Unit×(Int×Bool))))×((List Z3)×Unit)))
abbrev yn4:Type:=(((Unit×Unit)×(Unit×((Unit×(Unit×Int))×((List Int)×((List Int)×Unit))))))
abbrev yn3:Type:=(((Unit×Int)×(Z5×Unit))⊕((Unit×(Unit×Unit))×(Z5×Ty7_)))
abbrev ykq:Type:=((List Z0)×((List Z0)×Unit))

def zd6(N:Nat)(a0:V6):Option (Bool):=
 bif (decide ((2:Int)<=a0.1))then
 (bif (decide (a0.1<=(64:Int)))then
 (bif (decide ((2:Int)<=a0.2.1))then
 (bif (decide (a0.2.1<=(16:Int)))then
 (bif (decide ((1:Int)<=a0.2.2))then
 (some (decide (a0.2.2<=(64:Int))))
 else
 (some false))
 else
 (some false))
 else
 (some false))
 else
 (some false))
 else
 (some false)
def z8c(N:Nat)(a0:(List Z6))(a1:Int):Option (Bool):=
 bif (decide ((0:Int)<=a1))then
 (bif (decide (a1<(a0.length:Int)))then
 (gd (inB a1 (a0.length))
 (some ((rdL a0 a1 X2).1)))
 else
 (some false))
 else
 (some false)
def z8p(N:Nat)(a0:(List Z6)):Option ((List Z6)):=
 gd (fits (0+a0.length) 136)
 (let x1:=(([]:List Z6)++a0)
 some x1)
def z4f(N:Nat)(rec:Int->Int->Z5->(List Z6)->Option (((Unit×(Int×Unit))×yha)))(b0 b1:Int)(b2:Z5)(b3:(List Z6)):Option (((Unit×(Int×Unit))×yha)):=
 bif (decide (b1<(b2.2.2.1.length:Int)))then
 (gd (inB b1 (b2.2.2.1.length))
 (gd (inB (rdL b2.2.2.1 b1 (0:Int)) (b3.length))
 (let x10:=(((rdL b3 (rdL b2.2.2.1 b1 (0:Int)) X2).2).2).1
 gd (inB (rdL b2.2.2.1 b1 (0:Int)) (b3.length))
 (let x11:=(setL b3 (rdL b2.2.2.1 b1 (0:Int)) ((rdL b3 (rdL b2.2.2.1 b1 (0:Int)) X2).1,(((rdL b3 (rdL b2.2.2.1 b1 (0:Int)) X2).2).1,((IntKind.wrap .i64 (x10+(1:Int))),((((rdL b3 (rdL b2.2.2.1 b1 (0:Int)) X2).2).2).2)))))
 rec b0 (IntKind.wrap .i64 (b1+(1:Int))) b2 x11))))
 else
 (some (((),(b0,())),((),((),(b3,())))))
def z4o(N:Nat)(n:Nat):=
 itF (fun _ _ _ _=>none) (z4f N) n
theorem zhf(N:Nat)(n:Nat):z4o N (n+1)=z4f N (z4o N n):=rfl
def z4g(N:Nat)(rec:Int->(List Z6)->Z5->Option (((Unit×(Unit×(Unit×Int)))×yhb)))(b0:Int)(b1:(List Z6))(b2:Z5):Option (((Unit×(Unit×(Unit×Int)))×yhb)):=
 bif (decide (b0<(b1.length:Int)))then
 (gd (inB b0 (b1.length))
 (bif (rdL b1 b0 X2).1 then
 (rec (IntKind.wrap .i64 (b0+(1:Int))) b1 b2)
 else
 (some (((),((),((),b0))),(b1,(b2,((),())))))))
 else
 (some (((),((),((),b0))),(b1,(b2,((),())))))
def z8q(N:Nat)(n:Nat):=
 itF (fun _ _ _=>none) (z4g N) n
theorem zhg(N:Nat)(n:Nat):z8q N (n+1)=z4g N (z8q N n):=rfl
def z4h(N:Nat)(rec:Int->(List Z6)->Z5->Option ((Unit×(zcw×Unit))⊕((Unit×(Unit×Unit))×yhb)))(b0:Int)(b1:(List Z6))(b2:Z5):Option ((Unit×(zcw×Unit))⊕((Unit×(Unit×Unit))×yhb)):=
 bif (decide (b0<(b2.2.2.1.length:Int)))then
 (gd (inB b0 (b2.2.2.1.length))
 (match z8c N b1 (rdL b2.2.2.1 b0 (0:Int))with
 | some r1=>(bif (!r1)then
 (some (.inl ((),((b1,((0:Int),(110:Int))),()))))
 else
 (rec (IntKind.wrap .i64 (b0+(1:Int))) b1 b2))
 | none=>none))
 else
 (some (.inr (((),((),())),(b1,(b2,((),()))))))
def z8r(N:Nat)(n:Nat):=
 itF (fun _ _ _=>none) (z4h N) n
theorem zhh(N:Nat)(n:Nat):z8r N (n+1)=z4h N (z8r N n):=rfl
def z5j(N:Nat)(a0:(List Z6))(a1:Z5):Option (zcw):=
 match z8r N N (0:Int) a0 a1 with
 | some r2=>(match r2 with
 | .inl r3=>(some r3.2.1)
 | .inr r4=>(match z8q N N (0:Int) r4.2.1 r4.2.2.1 with
 | some r5=>(bif (decide ((4096:Int)<=r5.1.2.2.2))then
 (some (r5.2.1,((0:Int),(111:Int))))
 else
 (match z8p N r5.2.1 with
 | some r6=>(bif (eqi r5.1.2.2.2 (r6.length:Int))then
 (let x7:=([(false,(false,((0:Int),(([]:List Z3),(([]:List (List UInt8)),(([]:List Int),(([]:List Y6),([]:List Z1))))))))]:List Z6)
 gd (fits (r6.length+x7.length) 136)
 (let x8:=(r6++x7)
 gd (inB r5.1.2.2.2 (x8.length))
 (let x9:=(setL x8 r5.1.2.2.2 (true,(false,((1:Int),r5.2.2.1))))
 match z4o N N r5.1.2.2.2 (0:Int) r5.2.2.1 x9 with
 | some r12=>(some (r12.2.2.2.1,(r12.1.2.1,(0:Int))))
 | none=>none)))
 else
 (gd (inB r5.1.2.2.2 (r6.length))
 (let x13:=(setL r6 r5.1.2.2.2 (true,(false,((1:Int),r5.2.2.1))))
 match z4o N N r5.1.2.2.2 (0:Int) r5.2.2.1 x13 with
 | some r14=>(some (r14.2.2.2.1,(r14.1.2.1,(0:Int))))
 | none=>none)))
 | none=>none))
 | none=>none))
 | none=>none
def zwe(N:Nat)(a0:V6):Option ((Y5×Int)):=
 (zd6 N a0).bind fun r1=>
 bif (!r1)then
 (some ((([]:List Z6),((0:Int),((0:Int),((0:Int),(0:Int))))),(120:Int)))
 else
 ((z5j N ([]:List Z6) (([]:List Z3),(([]:List (List UInt8)),(([]:List Int),(([]:List Y6),([]:List Z1)))))).bind fun r2=>
 some ((r2.1,(r2.2.1,a0)),(0:Int)))
def zjd(N:Nat)(a0:V6):Option ((Z4×Int)):=
 (zwe N a0).bind fun r1=>
 bif (!(eqi r1.2 (0:Int)))then
 (some ((([]:List Z6),(((0:Int),((0:Int),(0:Int))),(([]:List W7),((0:Int),((0:Int),((0:Int),([]:List Z1))))))),r1.2))
 else
 (some ((r1.1.1,(a0,(([]:List W7),((1:Int),(r1.1.2.1,((0:Int),([]:List Z1))))))),(0:Int)))
def z31(N:Nat)(rec:Int->Int->Z4->Option ((Int×Unit)⊕(Unit×Unit)))(b0 b1:Int)(b2:Z4):Option ((Int×Unit)⊕(Unit×Unit)):=
 bif (decide (b1<(b2.2.2.1.length:Int)))then
 (gd (inB b1 (b2.2.2.1.length))
 (bif (eqi ((rdL b2.2.2.1 b1 X0).1) b0)then
 (some (.inl (b1,())))
 else
 (rec b0 (IntKind.wrap .i64 (b1+(1:Int))) b2)))
 else
 (some (.inr ((),())))
def z9b(N:Nat)(n:Nat):=
 itF (fun _ _ _=>none) (z31 N) n
theorem zfi(N:Nat)(n:Nat):z9b N (n+1)=z31 N (z9b N n):=rfl
def zc4(N:Nat)(a0:Z4)(a1:Int):Option (Int):=
 (z9b N N a1 (0:Int) a0).bind fun r1=>
 match r1 with
 | .inl r2=>(some r2.1)
 | .inr r3=>(some (-1:Int))
def zqq(N:Nat)(a0:Z4)(a1:Int):Option ((Y5×Int)):=
 bif (eqi a1 (0:Int))then
 (some ((a0.1,(a0.2.2.2.2.1,a0.2.1)),(0:Int)))
 else
 ((zc4 N a0 a1).bind fun r1=>
 bif (decide (r1<(0:Int)))then
 (some ((([]:List Z6),((0:Int),((0:Int),((0:Int),(0:Int))))),(160:Int)))
 else
 (gd (inB r1 (a0.2.2.1.length))
 (some ((a0.1,((((rdL a0.2.2.1 r1 X0).2).2).1,a0.2.1)),(0:Int)))))
def zh5(N:Nat)(a0 a1 a2:Int):Option (Bool):=
 bif (decide (a1<=a0))then
 (some (decide (a0<=a2)))
 else
 (some false)
def z06(N:Nat)(a0:Z0):Option (Bool):=
 bif (!(eqs a0.2 ([]:List UInt8)))then
 (some (lts a0.2 a0.1 || eqs a0.2 a0.1))
 else
 (some false)
def zgr(N:Nat)(a0:Z0):Option (Bool):=
 match z06 N a0 with
 | some r1=>(bif (!r1)then
 (let x2:=(decide ((a0.1.length:Int)<=(65535:Int)))
 bif x2 then
 (let x3:=(decide ((a0.2.length:Int)<=(65535:Int)))
 some x3)
 else
 (some false))
 else
 (some false))
 | none=>none
def k9(N:Nat)(a0 a1:(List UInt8)):Option (Bool):=
 let x1:=(decide ((a1.length:Int)<=(a0.length:Int)))
 bif x1 then
 (gd (decide (0<=(0:Int))&&(decide ((0:Int)<=(a1.length:Int))&&decide ((a1.length:Int)<=(a0.length:Int))))
 (let x2:=(eqs (cut2 a0 (0:Int) (a1.length:Int)) a1)
 some x2))
 else
 (some false)
def z7r(N:Nat)(b0:Bool)(b1:Int)(b2:Bool)(b3:Z1):Option Ty3_:=
 bif b2 then
 (match k9 N b3.2.2.2.2.1 b3.2.2.2.2.2.1 with
 | some r8=>(bif (!r8)then
 (match k9 N b3.2.2.2.2.2.1 b3.2.2.2.2.1 with
 | some r9=>(bif (!r9)then
 (match zh5 N (b3.2.2.2.2.1.length:Int) (1:Int) (200:Int)with
 | some r10=>(bif r10 then
 (match zh5 N (b3.2.2.2.2.2.1.length:Int) (1:Int) (200:Int)with
 | some r11=>(bif r11 then
 (let x12:=(eqi b3.1 b3.1&&(eqs b3.2.1 ([]:List UInt8)&&(eqs b3.2.2.1 ([]:List UInt8)&&(eqs b3.2.2.2.1.1 ([]:List UInt8)&&(eqs b3.2.2.2.1.2 ([]:List UInt8)&&(eqs b3.2.2.2.2.1 b3.2.2.2.2.1&&(eqs b3.2.2.2.2.2.1 b3.2.2.2.2.2.1&&(eqi b3.2.2.2.2.2.2 (0:Int)&&true))))))))
 some (.inl (x12,())))
 else
 (some (.inl (false,()))))
 | none=>none)
 else
 (some (.inl (false,()))))
 | none=>none)
 else
 (some (.inl (false,()))))
 | none=>none)
 else
 (some (.inl (false,()))))
 | none=>none)
 else
 (bif (eqi b1 (6:Int))then
 (match zgr N b3.2.2.2.1 with
 | some r13=>(bif r13 then
 (bif b0 then
 (let x14:=(eqi b3.1 b3.1&&(eqs b3.2.1 ([]:List UInt8)&&(eqs b3.2.2.1 ([]:List UInt8)&&(eqs b3.2.2.2.1.1 b3.2.2.2.1.1&&(eqs b3.2.2.2.1.2 b3.2.2.2.1.2&&(eqs b3.2.2.2.2.1 ([]:List UInt8)&&(eqs b3.2.2.2.2.2.1 ([]:List UInt8)&&(eqi b3.2.2.2.2.2.2 b3.2.2.2.2.2.2&&true))))))))
 some (.inl (x14,())))
 else
 (some (.inl (false,()))))
 else
 (some (.inl (false,()))))
 | none=>none)
 else
 (some (.inr ((),()))))
def zad(N:Nat)(a0:Z1):Option (Bool):=
 match zh5 N (a0.2.1.length:Int) (1:Int) (65535:Int)with
 | some r1=>(match zh5 N a0.2.2.2.2.2.2 (0:Int) (1000000000:Int)with
 | some r2=>(bif (eqi a0.1 (1:Int))then
 (bif r1 then
 (let x3:=(decide ((a0.2.2.1.length:Int)<=(64:Int)))
 bif x3 then
 (bif r2 then
 (let x4:=(eqi a0.1 a0.1&&(eqs a0.2.1 a0.2.1&&(eqs a0.2.2.1 a0.2.2.1&&(eqs a0.2.2.2.1.1 ([]:List UInt8)&&(eqs a0.2.2.2.1.2 ([]:List UInt8)&&(eqs a0.2.2.2.2.1 ([]:List UInt8)&&(eqs a0.2.2.2.2.2.1 ([]:List UInt8)&&(eqi a0.2.2.2.2.2.2 a0.2.2.2.2.2.2&&true))))))))
 some x4)
 else
 (some false))
 else
 (some false))
 else
 (some false))
 else
 (bif (eqi a0.1 (2:Int))then
 (bif r1 then
 (let x5:=(eqi a0.1 a0.1&&(eqs a0.2.1 a0.2.1&&(eqs a0.2.2.1 ([]:List UInt8)&&(eqs a0.2.2.2.1.1 ([]:List UInt8)&&(eqs a0.2.2.2.1.2 ([]:List UInt8)&&(eqs a0.2.2.2.2.1 ([]:List UInt8)&&(eqs a0.2.2.2.2.2.1 ([]:List UInt8)&&(eqi a0.2.2.2.2.2.2 (0:Int)&&true))))))))
 some x5)
 else
 (some false))
 else
 (bif (eqi a0.1 (3:Int))then
 (match zgr N a0.2.2.2.1 with
 | some r6=>(bif r6 then
 (let x7:=(eqi a0.1 a0.1&&(eqs a0.2.1 ([]:List UInt8)&&(eqs a0.2.2.1 ([]:List UInt8)&&(eqs a0.2.2.2.1.1 a0.2.2.2.1.1&&(eqs a0.2.2.2.1.2 a0.2.2.2.1.2&&(eqs a0.2.2.2.2.1 ([]:List UInt8)&&(eqs a0.2.2.2.2.2.1 ([]:List UInt8)&&(eqi a0.2.2.2.2.2.2 (0:Int)&&true))))))))
 some x7)
 else
 (some false))
 | none=>none)
 else
 (bif (eqi a0.1 (4:Int))then
 (match z7r N r2 a0.1 true a0 with
 | some r15=>(match r15 with
 | .inl r16=>(some r16.1)
 | .inr r17=>(some false))
 | none=>none)
 else
 (match z7r N r2 a0.1 (eqi a0.1 (5:Int)) a0 with
 | some r18=>(match r18 with
 | .inl r19=>(some r19.1)
 | .inr r20=>(some false))
 | none=>none)))))
 | none=>none)
 | none=>none
def z90(N:Nat)(a0:(List Z6))(a1:Int):Option ((Z5×Int)):=
 match z8c N a0 a1 with
 | some r1=>(bif (!r1)then
 (some ((([]:List Z3),(([]:List (List UInt8)),(([]:List Int),(([]:List Y6),([]:List Z1))))),(110:Int)))
 else
 (gd (inB a1 (a0.length))
 (bif ((rdL a0 a1 X2).2).1 then
 (some ((([]:List Z3),(([]:List (List UInt8)),(([]:List Int),(([]:List Y6),([]:List Z1))))),(112:Int)))
 else
 (gd (inB a1 (a0.length))
 (some (((((rdL a0 a1 X2).2).2).2),(0:Int)))))))
 | none=>none
def z1c(N:Nat)(b0:(List Z3))(b1:Bool)(b2:Int)(b3:Z3)(b4:(List Z3)):Option ((((List Z3)×(Unit×(Unit×(Bool×Int))))×(Z3×((List Z3)×Unit)))):=
 gd (inB b2 (b0.length))
 (bif (!(eqs ((rdL b0 b2 X4).1) b3.1))then
 (gd (inB b2 (b0.length))
 (gd (fits (b4.length+1) 40)
 (let x3:=(b4++([(rdL b0 b2 X4)]:List Z3))
 some ((b0,((),((),(b1,b2)))),(b3,(x3,()))))))
 else
 (some ((b0,((),((),(b1,b2)))),(b3,(b4,())))))
def z0s(N:Nat)(rec:(List Z3)->Bool->Int->Z3->(List Z3)->Option (((Unit×(Unit×Bool))×(Z3×((List Z3)×Unit)))))(b0:(List Z3))(b1:Bool)(b2:Int)(b3:Z3)(b4:(List Z3)):Option (((Unit×(Unit×Bool))×(Z3×((List Z3)×Unit)))):=
 bif (decide (b2<(b0.length:Int)))then
 (bif (!b1)then
 (gd (inB b2 (b0.length))
 (let x1:=(lts b3.1 ((rdL b0 b2 X4).1) || eqs b3.1 ((rdL b0 b2 X4).1))
 bif x1 then
 (gd (fits (b4.length+1) 40)
 (let x2:=(b4++([b3]:List Z3))
 match z1c N b0 true b2 b3 x2 with
 | some r4=>(let x5:=(IntKind.wrap .i64 (r4.1.2.2.2.2+(1:Int)))
 rec r4.1.1 r4.1.2.2.2.1 x5 r4.2.1 r4.2.2.1)
 | none=>none))
 else
 (match z1c N b0 b1 b2 b3 b4 with
 | some r6=>(let x7:=(IntKind.wrap .i64 (r6.1.2.2.2.2+(1:Int)))
 rec r6.1.1 r6.1.2.2.2.1 x7 r6.2.1 r6.2.2.1)
 | none=>none)))
 else
 (match z1c N b0 b1 b2 b3 b4 with
 | some r8=>(let x9:=(IntKind.wrap .i64 (r8.1.2.2.2.2+(1:Int)))
 rec r8.1.1 r8.1.2.2.2.1 x9 r8.2.1 r8.2.2.1)
 | none=>none))
 else
 (some (((),((),b1)),(b3,(b4,()))))
def z1d(N:Nat)(n:Nat):=
 itF (fun _ _ _ _ _=>none) (z0s N) n
theorem zcl(N:Nat)(n:Nat):z1d N (n+1)=z0s N (z1d N n):=rfl
def z8s(N:Nat)(a0:(List Z3))(a1:Z3):Option ((List Z3)):=
 match z1d N N a0 false (0:Int) a1 ([]:List Z3)with
 | some r10=>(bif (!r10.1.2.2)then
 (gd (fits (r10.2.2.1.length+1) 40)
 (let x11:=(r10.2.2.1++([r10.2.1]:List Z3))
 some x11))
 else
 (some r10.2.2.1))
 | none=>none
def z91(N:Nat)(a0:(List UInt8)):Option (Z0):=
 gd (decide (a0.length+List.length ([0]:List UInt8)<maxS))
 (let x1:=(a0++([0]:List UInt8))
 some (a0,x1))
def zan(N:Nat)(a0:Z0)(a1:(List UInt8)):Option (Bool):=
 bif (!(lts a1 a0.1))then
 (bif (eqs a0.2 ([]:List UInt8))then
 (some true)
 else
 (some (lts a1 a0.2)))
 else
 (some false)
def z57(N:Nat)(rec:(List Z0)->(List UInt8)->Int->Option Ty3_)(b0:(List Z0))(b1:(List UInt8))(b2:Int):Option Ty3_:=
 bif (decide (b2<(b0.length:Int)))then
 (gd (inB b2 (b0.length))
 (match zan N (rdL b0 b2 Y7) b1 with
 | some r1=>(bif r1 then
 (some (.inl (true,())))
 else
 (rec b0 b1 (IntKind.wrap .i64 (b2+(1:Int)))))
 | none=>none))
 else
 (some (.inr ((),())))
def zdb(N:Nat)(n:Nat):=
 itF (fun _ _ _=>none) (z57 N) n
theorem zj5(N:Nat)(n:Nat):zdb N (n+1)=z57 N (zdb N n):=rfl
def znh(N:Nat)(a0:(List Z0))(a1:(List UInt8)):Option (Bool):=
 match zdb N N a0 a1 (0:Int)with
 | some r2=>(match r2 with
 | .inl r3=>(some r3.1)
 | .inr r4=>(some false))
 | none=>none
def z05(N:Nat)(rec:(List Z3)->(List Z0)->Int->(List Z3)->Option (Ty7_))(b0:(List Z3))(b1:(List Z0))(b2:Int)(b3:(List Z3)):Option (Ty7_):=
 bif (decide (b2<(b0.length:Int)))then
 (gd (inB b2 (b0.length))
 (match znh N b1 ((rdL b0 b2 X4).1)with
 | some r1=>(bif (!r1)then
 (gd (inB b2 (b0.length))
 (gd (fits (b3.length+1) 40)
 (let x2:=(b3++([(rdL b0 b2 X4)]:List Z3))
 rec b0 b1 (IntKind.wrap .i64 (b2+(1:Int))) x2)))
 else
 (rec b0 b1 (IntKind.wrap .i64 (b2+(1:Int))) b3))
 | none=>none))
 else
 (some ((),(b3,())))
def z56(N:Nat)(n:Nat):=
 itF (fun _ _ _ _=>none) (z05 N) n
theorem zbi(N:Nat)(n:Nat):z56 N (n+1)=z05 N (z56 N n):=rfl
def z4u(N:Nat)(a0:(List Z3))(a1:(List Z0)):Option ((List Z3)):=
 match z56 N N a0 a1 (0:Int) ([]:List Z3)with
 | some r3=>(some r3.2.1)
 | none=>none
def z43(N:Nat)(rec:(List UInt8)->Int->Option ((((List UInt8)×(Unit×Int))×(Unit×Unit))))(b0:(List UInt8))(b1:Int):Option ((((List UInt8)×(Unit×Int))×(Unit×Unit))):=
 bif (decide ((0:Int)<b1))then
 (gd (inB (IntKind.wrap .i64 (b1-(1:Int))) (b0.length))
 (let x1:=(eqi (bt b0 (IntKind.wrap .i64 (b1-(1:Int)))) (255:Int))
 bif x1 then
 (rec b0 (IntKind.wrap .i64 (b1-(1:Int))))
 else
 (some ((b0,((),b1)),((),())))))
 else
 (some ((b0,((),b1)),((),())))
def J8(N:Nat)(n:Nat):=
 itF (fun _ _=>none) (z43 N) n
theorem zcn(N:Nat)(n:Nat):J8 N (n+1)=z43 N (J8 N n):=rfl
def U0(N:Nat)(a0:(List UInt8)):Option (Z0):=
 match J8 N N a0 (a0.length:Int)with
 | some r2=>(bif (eqi r2.1.2.2 (0:Int))then
 (some (r2.1.1,([]:List UInt8)))
 else
 (gd (decide (0<=(0:Int))&&(decide ((0:Int)<=(IntKind.wrap .i64 (r2.1.2.2-(1:Int))))&&decide ((IntKind.wrap .i64 (r2.1.2.2-(1:Int)))<=(r2.1.1.length:Int))))
 (let x3:=(cut2 r2.1.1 (0:Int) (IntKind.wrap .i64 (r2.1.2.2-(1:Int))))
 gd (inB (IntKind.wrap .i64 (r2.1.2.2-(1:Int))) (r2.1.1.length))
 (let x4:=(bt r2.1.1 (IntKind.wrap .i64 (r2.1.2.2-(1:Int))))
 let x5:=([(IntKind.wrap .u8 (x4+(1:Int)))]:List Int)
 gd (decide (x3.length+List.length (zlq x5)<maxS))
 (let x6:=(x3++(zlq x5))
 some (r2.1.1,x6))))))
 | none=>none
def z0p(N:Nat)(rec:(List Z3)->(List Z0)->Int->(List Z3)->Option (Ty7_))(b0:(List Z3))(b1:(List Z0))(b2:Int)(b3:(List Z3)):Option (Ty7_):=
 bif (decide (b2<(b0.length:Int)))then
 (gd (inB b2 (b0.length))
 (match znh N b1 ((rdL b0 b2 X4).1)with
 | some r1=>(bif r1 then
 (gd (inB b2 (b0.length))
 (gd (fits (b3.length+1) 40)
 (let x2:=(b3++([(rdL b0 b2 X4)]:List Z3))
 rec b0 b1 (IntKind.wrap .i64 (b2+(1:Int))) x2)))
 else
 (rec b0 b1 (IntKind.wrap .i64 (b2+(1:Int))) b3))
 | none=>none))
 else
 (some ((),(b3,())))
def z6i(N:Nat)(n:Nat):=
 itF (fun _ _ _ _=>none) (z0p N) n
theorem zcj(N:Nat)(n:Nat):z6i N (n+1)=z0p N (z6i N n):=rfl
def zez(N:Nat)(a0:(List Z3))(a1:(List Z0)):Option ((List Z3)):=
 match z6i N N a0 a1 (0:Int) ([]:List Z3)with
 | some r3=>(some r3.2.1)
 | none=>none
def zhz(N:Nat)(a0 a1 a2:(List UInt8)):Option (((List UInt8)×Bool)):=
 match k9 N a0 a1 with
 | some r1=>(bif (!r1)then
 (some (([]:List UInt8),false))
 else
 (gd (decide (0<=(a1.length:Int))&&(decide ((a1.length:Int)<=(a0.length:Int))&&decide ((a0.length:Int)<=(a0.length:Int))))
 (let x2:=(cut2 a0 (a1.length:Int) (a0.length:Int))
 gd (decide (a2.length+x2.length<maxS))
 (let x3:=(a2++x2)
 some (x3,true)))))
 | none=>none
def z21(N:Nat)(rec:Int->Z1->(List Z3)->Option (Ty7_))(b0:Int)(b1:Z1)(b2:(List Z3)):Option (Ty7_):=
 bif (decide (b0<(b2.length:Int)))then
 (gd (inB b0 (b2.length))
 (match zan N b1.2.2.2.1 ((rdL b2 b0 X4).1)with
 | some r6=>(bif r6 then
 (gd (inB b0 (b2.length))
 (let x7:=(setL b2 b0 ((rdL b2 b0 X4).1,(((rdL b2 b0 X4).2).1,b1.2.2.2.2.2.2)))
 rec (IntKind.wrap .i64 (b0+(1:Int))) b1 x7))
 else
 (rec (IntKind.wrap .i64 (b0+(1:Int))) b1 b2))
 | none=>none))
 else
 (some ((),(b2,())))
def z7u(N:Nat)(n:Nat):=
 itF (fun _ _ _=>none) (z21 N) n
theorem ze8(N:Nat)(n:Nat):z7u N (n+1)=z21 N (z7u N n):=rfl
def z24(N:Nat)(rec:Int->Z1->(List Z3)->(List Z3)->Option (Ty7_))(b0:Int)(b1:Z1)(b2:(List Z3))(b3:(List Z3)):Option (Ty7_):=
 bif (decide (b0<(b3.length:Int)))then
 (gd (inB b0 (b3.length))
 (match zhz N ((rdL b3 b0 X4).1) b1.2.2.2.2.1 b1.2.2.2.2.2.1 with
 | some r15=>(gd (inB b0 (b3.length))
 (gd (inB b0 (b3.length))
 (match z8s N b2 (r15.1,((rdL b3 b0 X4).2))with
 | some r16=>(rec (IntKind.wrap .i64 (b0+(1:Int))) b1 r16 b3)
 | none=>none)))
 | none=>none))
 else
 (some ((),(b2,())))
def z3o(N:Nat)(n:Nat):=
 itF (fun _ _ _ _=>none) (z24 N) n
theorem ze9(N:Nat)(n:Nat):z3o N (n+1)=z24 N (z3o N n):=rfl
def z2u(N:Nat)(a0:(List Z3))(a1:Z1):Option ((List Z3)):=
 bif (eqi a1.1 (1:Int))then
 (match z8s N a0 (a1.2.1,(a1.2.2.1,a1.2.2.2.2.2.2))with
 | some r1=>(some r1)
 | none=>none)
 else
 (bif (eqi a1.1 (2:Int))then
 (match z91 N a1.2.1 with
 | some r2=>(match z4u N a0 ([r2]:List Z0)with
 | some r3=>(some r3)
 | none=>none)
 | none=>none)
 else
 (bif (eqi a1.1 (3:Int))then
 (match z4u N a0 ([a1.2.2.2.1]:List Z0)with
 | some r4=>(some r4)
 | none=>none)
 else
 (bif (eqi a1.1 (6:Int))then
 (gd (fits (0+a0.length) 40)
 (let x5:=(([]:List Z3)++a0)
 match z7u N N (0:Int) a1 x5 with
 | some r8=>(some r8.2.1)
 | none=>none))
 else
 (match U0 N a1.2.2.2.2.2.1 with
 | some r9=>(match z4u N a0 ([r9]:List Z0)with
 | some r10=>(match U0 N a1.2.2.2.2.1 with
 | some r11=>(match zez N a0 ([r11]:List Z0)with
 | some r12=>(bif (eqi a1.1 (4:Int))then
 (match U0 N a1.2.2.2.2.1 with
 | some r13=>(match z4u N r10 ([r13]:List Z0)with
 | some r14=>(match z3o N N (0:Int) a1 r14 r12 with
 | some r17=>(some r17.2.1)
 | none=>none)
 | none=>none)
 | none=>none)
 else
 (match z3o N N (0:Int) a1 r10 r12 with
 | some r18=>(some r18.2.1)
 | none=>none))
 | none=>none)
 | none=>none)
 | none=>none)
 | none=>none))))
def z39(N:Nat)(rec:(List Int)->(List Z6)->Option (((Unit×Unit)×yha)))(b0:(List Int))(b1:(List Z6)):Option (((Unit×Unit)×yha)):=
 let x3:=(decide ((0:Int)<(b0.length:Int)))
 bif x3 then
 (gd (inB (0:Int) (b0.length))
 (gd (decide (0<=(1:Int))&&(decide ((1:Int)<=(b0.length:Int))&&decide ((b0.length:Int)<=(b0.length:Int))))
 (match z8c N b1 (rdL b0 (0:Int) (0:Int))with
 | some r4=>(bif (!r4)then
 (rec (cut2 b0 (1:Int) (b0.length:Int)) b1)
 else
 (gd (inB (rdL b0 (0:Int) (0:Int)) (b1.length))
 (let x5:=(((rdL b1 (rdL b0 (0:Int) (0:Int)) X2).2).2).1
 gd (inB (rdL b0 (0:Int) (0:Int)) (b1.length))
 (let x6:=(setL b1 (rdL b0 (0:Int) (0:Int)) ((rdL b1 (rdL b0 (0:Int) (0:Int)) X2).1,(((rdL b1 (rdL b0 (0:Int) (0:Int)) X2).2).1,((IntKind.wrap .i64 (x5-(1:Int))),((((rdL b1 (rdL b0 (0:Int) (0:Int)) X2).2).2).2)))))
 gd (inB (rdL b0 (0:Int) (0:Int)) (x6.length))
 (let x7:=(((rdL x6 (rdL b0 (0:Int) (0:Int)) X2).2).2).1
 bif (eqi x7 (0:Int))then
 (gd (fits (0+List.length (cut2 b0 (1:Int) (b0.length:Int))) 8)
 (let x8:=(([]:List Int)++(cut2 b0 (1:Int) (b0.length:Int)))
 gd (inB (rdL b0 (0:Int) (0:Int)) (x6.length))
 (let x9:=((((((rdL x6 (rdL b0 (0:Int) (0:Int)) X2).2).2).2).2).2).1
 gd (fits (x8.length+x9.length) 8)
 (let x10:=(x8++x9)
 gd (inB (rdL b0 (0:Int) (0:Int)) (x6.length))
 (let x11:=(setL x6 (rdL b0 (0:Int) (0:Int)) (false,(false,((0:Int),(([]:List Z3),(([]:List (List UInt8)),(([]:List Int),(([]:List Y6),([]:List Z1)))))))))
 rec x10 x11)))))
 else
 (rec (cut2 b0 (1:Int) (b0.length:Int)) x6))))))
 | none=>none)))
 else
 (some (((),()),((),((),(b1,())))))
def z6v(N:Nat)(n:Nat):=
 itF (fun _ _=>none) (z39 N) n
theorem zfq(N:Nat)(n:Nat):z6v N (n+1)=z39 N (z6v N n):=rfl
def z2f(N:Nat)(a0:(List Z6))(a1:Int):Option (((List Z6)×Int)):=
 match z8c N a0 a1 with
 | some r1=>(bif (!r1)then
 (some (a0,(110:Int)))
 else
 (match z8p N a0 with
 | some r2=>(match z6v N N ([a1]:List Int) r2 with
 | some r12=>(some (r12.2.2.2.1,(0:Int)))
 | none=>none)
 | none=>none))
 | none=>none
def zjf(N:Nat)(a0:Y5)(a1:Z1):Option ((Y5×Int)):=
 (zad N a1).bind fun r1=>
 bif (!r1)then
 (some (a0,(50:Int)))
 else
 ((z90 N a0.1 a0.2.1).bind fun r2=>
 bif (!(eqi r2.2 (0:Int)))then
 (some (a0,r2.2))
 else
 (let x3:=(eqi (r2.1.2.2.1.length:Int) (0:Int))
 bif x3 then
 ((z2u N r2.1.1 a1).bind fun r4=>
 (z5j N a0.1 (r4,r2.1.2)).bind fun r5=>
 bif (!(eqi r5.2.2 (0:Int)))then
 (some (a0,r5.2.2))
 else
 ((z2f N r5.1 a0.2.1).bind fun r6=>
 some ((r6.1,(r5.2.1,a0.2.2)),(0:Int))))
 else
 (gd (fits (0+r2.1.2.2.2.2.length) 112)
 (let x7:=(([]:List Z1)++r2.1.2.2.2.2)
 gd (fits (x7.length+1) 112)
 (let x8:=(x7++([a1]:List Z1))
 (z5j N a0.1 (r2.1.1,(r2.1.2.1,(r2.1.2.2.1,(r2.1.2.2.2.1,x8))))).bind fun r9=>
 bif (!(eqi r9.2.2 (0:Int)))then
 (some (a0,r9.2.2))
 else
 ((z2f N r9.1 a0.2.1).bind fun r10=>
 some ((r10.1,(r9.2.1,a0.2.2)),(0:Int))))))))
def zco(N:Nat)(a0 a1:(List UInt8)):Option (Bool):=
 bif (!(eqs a0 ([]:List UInt8)))then
 (bif (eqs a1 ([]:List UInt8))then
 (some true)
 else
 (some (lts a0 a1)))
 else
 (some false)
def zkw(N:Nat):Option (Z0):=
 some (([97]:List UInt8),([97]:List UInt8))
def z2g(N:Nat)(a0 a1:Z0):Option (Z0):=
 match zco N a1.2 a0.2 with
 | some r1=>(bif r1 then
 (match z06 N ((bif !(lts a0.1 a1.1)then a0.1 else a1.1),a1.2)with
 | some r2=>(bif r2 then
 (match zkw N with
 | some r3=>(some r3)
 | none=>none)
 else
 (some ((bif !(lts a0.1 a1.1)then a0.1 else a1.1),a1.2)))
 | none=>none)
 else
 (match z06 N ((bif !(lts a0.1 a1.1)then a0.1 else a1.1),a0.2)with
 | some r4=>(bif r4 then
 (match zkw N with
 | some r5=>(some r5)
 | none=>none)
 else
 (some ((bif !(lts a0.1 a1.1)then a0.1 else a1.1),a0.2)))
 | none=>none))
 | none=>none
def z26(N:Nat)(rec:(List (List UInt8))->(List UInt8)->Int->Z0->(List Z0)->Option (((Unit×(Unit×(List UInt8)))×yh9)))(b0:(List (List UInt8)))(b1:(List UInt8))(b2:Int)(b3:Z0)(b4:(List Z0)):Option (((Unit×(Unit×(List UInt8)))×yh9)):=
 bif (decide (b2<(b0.length:Int)))then
 (gd (inB b2 (b0.length))
 (match z2g N b3 (b1,(rdL b0 b2 ([]:List UInt8)))with
 | some r1=>(gd (fits (b4.length+1) 32)
 (let x2:=(b4++([r1]:List Z0))
 gd (inB b2 (b0.length))
 (rec b0 (rdL b0 b2 ([]:List UInt8)) (IntKind.wrap .i64 (b2+(1:Int))) b3 x2)))
 | none=>none))
 else
 (some (((),((),b1)),(b3,(b4,()))))
def z7x(N:Nat)(n:Nat):=
 itF (fun _ _ _ _ _=>none) (z26 N) n
theorem zeb(N:Nat)(n:Nat):z7x N (n+1)=z26 N (z7x N n):=rfl
def zda(N:Nat)(a0:Z0)(a1:(List (List UInt8))):Option ((List Z0)):=
 match z7x N N a1 ([]:List UInt8) (0:Int) a0 ([]:List Z0)with
 | some r3=>(match z2g N r3.2.1 (r3.1.2.2,([]:List UInt8))with
 | some r4=>(gd (fits (r3.2.2.1.length+1) 32)
 (let x5:=(r3.2.2.1++([r4]:List Z0))
 some x5))
 | none=>none)
 | none=>none
def z85(N:Nat)(a0:Z5)(a1:Z0):Option ((List Z0)):=
 bif (eqi (a0.2.2.1.length:Int) (0:Int))then
 (some ([]:List Z0))
 else
 (match zda N a1 a0.2.1 with
 | some r1=>(some r1)
 | none=>none)
def zil(N:Nat)(b0:(List Int))(b1:Int)(b2:Y5)(b3:Z5)(b4:Z0):Option (Ty4_⊕(((List Int)×(Unit×(Unit×(Unit×(Int×(Unit×Int))))))×(Y5×(Unit×ycu)))):=
 gd (inB b1 (b0.length))
 (bif (decide ((rdL b0 b1 (0:Int))<(0:Int)))then
 (some (.inl ((),(((),((),((),((),((),(([]:List UInt8),(([]:List UInt8),(140:Int)))))))),(([]:List Z3),(([]:List (List UInt8)),(([]:List Int),(([]:List Y6),(([]:List Z1),())))))))))
 else
 (gd (inB b1 (b0.length))
 (let x2:=(decide ((b3.2.2.1.length:Int)<=(rdL b0 b1 (0:Int))))
 bif x2 then
 (some (.inl ((),(((),((),((),((),((),(([]:List UInt8),(([]:List UInt8),(140:Int)))))))),(([]:List Z3),(([]:List (List UInt8)),(([]:List Int),(([]:List Y6),(([]:List Z1),())))))))))
 else
 ((z85 N b3 b4).bind fun r3=>
 gd (inB b1 (b0.length))
 (gd (inB (rdL b0 b1 (0:Int)) (r3.length))
 (gd (inB b1 (b0.length))
 (gd (inB (rdL b0 b1 (0:Int)) (b3.2.2.1.length))
 (let x4:=(rdL b3.2.2.1 (rdL b0 b1 (0:Int)) (0:Int))
 (z90 N b2.1 x4).bind fun r5=>
 some (.inr ((b0,((),((),((),(r5.2,((),(IntKind.wrap .i64 (b1+(1:Int))))))))),(b2,((),(r5.1,((rdL r3 (rdL b0 b1 (0:Int)) Y7),()))))))))))))))
def z34(N:Nat)(rec:(List Int)->Int->Int->Y5->Z5->Z0->Option (Ty4_⊕((Unit×(Unit×(Int×Unit)))×(Unit×ycu))))(b0:(List Int))(b1 b2:Int)(b3:Y5)(b4:Z5)(b5:Z0):Option (Ty4_⊕((Unit×(Unit×(Int×Unit)))×(Unit×ycu))):=
 bif (decide (b2<(b0.length:Int)))then
 (bif (eqi b1 (0:Int))then
 ((zil N b0 b2 b3 b4 b5).bind fun r6=>
 match r6 with
 | .inl r7=>(some (.inl ((),(((),((),((),((),((),(r7.2.1.2.2.2.2.2.1,(r7.2.1.2.2.2.2.2.2.1,r7.2.1.2.2.2.2.2.2.2))))))),(r7.2.2.1,(r7.2.2.2.1,(r7.2.2.2.2.1,(r7.2.2.2.2.2.1,(r7.2.2.2.2.2.2.1,())))))))))
 | .inr r8=>(rec r8.1.1 r8.1.2.2.2.2.1 r8.1.2.2.2.2.2.2 r8.2.1 r8.2.2.2.1 r8.2.2.2.2.1))
 else
 (some (.inr (((),((),(b1,()))),((),(b4,(b5,())))))))
 else
 (some (.inr (((),((),(b1,()))),((),(b4,(b5,()))))))
def z9e(N:Nat)(n:Nat):=
 itF (fun _ _ _ _ _ _=>none) (z34 N) n
theorem zfl(N:Nat)(n:Nat):z9e N (n+1)=z34 N (z9e N n):=rfl
def z8b(N:Nat)(a0:Y5)(a1:(List Int)):Option (zfa):=
 (z90 N a0.1 a0.2.1).bind fun r1=>
 (z9e N N a1 r1.2 (0:Int) a0 r1.1 (([]:List UInt8),([]:List UInt8))).bind fun r9=>
 match r9 with
 | .inl r10=>(some ((r10.2.2.1,(r10.2.2.2.1,(r10.2.2.2.2.1,(r10.2.2.2.2.2.1,r10.2.2.2.2.2.2.1)))),((r10.2.1.2.2.2.2.2.1,r10.2.1.2.2.2.2.2.2.1),r10.2.1.2.2.2.2.2.2.2)))
 | .inr r11=>(bif (!(eqi r11.1.2.2.1 (0:Int)))then
 (some ((([]:List Z3),(([]:List (List UInt8)),(([]:List Int),(([]:List Y6),([]:List Z1))))),((([]:List UInt8),([]:List UInt8)),r11.1.2.2.1)))
 else
 (some (r11.2.2.1,(r11.2.2.2.1,(0:Int)))))
def zks(N:Nat)(a0:Z5)(a1:V6):Option (Bool):=
 bif (eqi (a0.2.2.1.length:Int) (0:Int))then
 (some (decide (a1.1<(a0.1.length:Int))))
 else
 (let x1:=(decide (a1.2.1<(a0.2.2.1.length:Int)))
 bif x1 then
 (some true)
 else
 (let x2:=(decide (a1.2.2<(a0.2.2.2.2.length:Int)))
 some x2))
def zc7(N:Nat)(a0:(List Int))(a1:Int):Option ((List Int)):=
 gd (fits (0+a0.length) 8)
 (let x1:=(([]:List Int)++a0)
 gd (fits (x1.length+1) 8)
 (let x2:=(x1++([a1]:List Int))
 some x2))
def z1k(N:Nat)(self:Y5->(List Int)->Bool->Option (K0))(rec:(List Int)->Bool->Int->Y5->zfa->Option ((Unit×(K0×Unit))⊕(Unit×(Unit×Unit))))(b0:(List Int))(b1:Bool)(b2:Int)(b3:Y5)(b4:zfa):Option ((Unit×(K0×Unit))⊕(Unit×(Unit×Unit))):=
 let x4:=(decide (b2<(b4.1.2.2.1.length:Int)))
 bif x4 then
 ((zc7 N b0 b2).bind fun r5=>
 (self b3 r5 b1).bind fun r6=>
 bif r6.2 then
 (some (.inl ((),(r6,()))))
 else
 (rec b0 b1 (IntKind.wrap .i64 (b2+(1:Int))) b3 b4))
 else
 (some (.inr ((),((),()))))
def J7(N:Nat)(self:Y5->(List Int)->Bool->Option (K0))(n:Nat):=
 itF (fun _ _ _ _ _=>none) (z1k N self) n
theorem z8w(N:Nat)(self:Y5->(List Int)->Bool->Option (K0))(n:Nat):J7 N self (n+1)=z1k N self (J7 N self n):=rfl
def z55(N:Nat)(self:Y5->(List Int)->Bool->Option (K0))(a0:Y5)(a1:(List Int))(a2:Bool):Option (K0):=
 (z8b N a0 a1).bind fun r1=>
 bif (!(eqi r1.2.2 (0:Int)))then
 (some (([]:List Int),false))
 else
 ((zks N r1.1 a0.2.2).bind fun r2=>
 bif r2 then
 (some (a1,true))
 else
 (bif a2 then
 (let x3:=(decide ((0:Int)<(r1.1.2.2.2.2.length:Int)))
 bif x3 then
 (some (a1,true))
 else
 ((J7 N self N a1 a2 (0:Int) a0 r1).bind fun r7=>
 match r7 with
 | .inl r8=>(some r8.2.1)
 | .inr r9=>(some (([]:List Int),false))))
 else
 ((J7 N self N a1 a2 (0:Int) a0 r1).bind fun r10=>
 match r10 with
 | .inl r11=>(some r11.2.1)
 | .inr r12=>(some (([]:List Int),false)))))
def y6(N n:Nat):Y5->(List Int)->Bool->Option (K0):=
 itF (fun _ _ _=>none) (z55 N) n
theorem zle(N n:Nat):y6 N (n+1)=z55 N (y6 N n):=rfl
def zx6(N:Nat):Y5->(List Int)->Bool->Option (K0):=
 y6 N N
def z1l(N:Nat)(rec:Int->Int->Int->(List Int)->Option ((Unit×((List Int)×Unit))))(b0 b1 b2:Int)(b3:(List Int)):Option ((Unit×((List Int)×Unit))):=
 bif (decide (b2<b1))then
 (gd (!(eqi b1 0))
 (gd (!(eqi b1 0))
 (bif (decide (b2<(Int.tmod b0 b1)))then
 (let x2:=(IntKind.wrap .i64 ((IntKind.wrap .i64 (Int.tdiv b0 b1))+(1:Int)))
 gd (fits (b3.length+1) 8)
 (let x3:=(b3++([x2]:List Int))
 rec b0 b1 (IntKind.wrap .i64 (b2+(1:Int))) x3))
 else
 (let x4:=([(IntKind.wrap .i64 (Int.tdiv b0 b1))]:List Int)
 gd (fits (b3.length+x4.length) 8)
 (let x5:=(b3++x4)
 rec b0 b1 (IntKind.wrap .i64 (b2+(1:Int))) x5)))))
 else
 (some ((),(b3,())))
def z7f(N:Nat)(n:Nat):=
 itF (fun _ _ _ _=>none) (z1l N) n
theorem zdt(N:Nat)(n:Nat):z7f N (n+1)=z1l N (z7f N n):=rfl
def z4q(N:Nat)(a0 a1:Int):Option ((List Int)):=
 bif (decide (a1<(1:Int)))then
 (some ([]:List Int))
 else
 (bif (decide (a0<(1:Int)))then
 (some ([]:List Int))
 else
 (gd (!(eqi a1 0))
 (let x1:=(IntKind.wrap .i64 (Int.tdiv (IntKind.wrap .i64 (a0-(1:Int))) a1))
 (z7f N N a0 (IntKind.wrap .i64 (x1+(1:Int))) (0:Int) ([]:List Int)).bind fun r6=>
 some r6.2.1)))
def z0i(N:Nat)(rec:(List Z3)->Int->Int->(List (List Z3))->(List Int)->Option ((Unit×((List (List Z3))×Unit))))(b0:(List Z3))(b1 b2:Int)(b3:(List (List Z3)))(b4:(List Int)):Option ((Unit×((List (List Z3))×Unit))):=
 bif (decide (b2<(b4.length:Int)))then
 (gd (inB b2 (b4.length))
 (let x2:=(IntKind.wrap .i64 (b1+(rdL b4 b2 (0:Int))))
 gd (decide (0<=b1)&&(decide (b1<=x2)&&decide (x2<=(b0.length:Int))))
 (gd (fits (b3.length+1) 24)
 (let x3:=(b3++([(cut2 b0 b1 x2)]:List (List Z3)))
 gd (inB b2 (b4.length))
 (let x4:=(IntKind.wrap .i64 (b1+(rdL b4 b2 (0:Int))))
 rec b0 x4 (IntKind.wrap .i64 (b2+(1:Int))) x3 b4)))))
 else
 (some ((),(b3,())))
def z6d(N:Nat)(n:Nat):=
 itF (fun _ _ _ _ _=>none) (z0i N) n
theorem zc8(N:Nat)(n:Nat):z6d N (n+1)=z0i N (z6d N n):=rfl
def zew(N:Nat)(a0:(List Z3))(a1:Int):Option ((List (List Z3))):=
 (z4q N (a0.length:Int) a1).bind fun r1=>
 (z6d N N a0 (0:Int) (0:Int) ([]:List (List Z3)) r1).bind fun r5=>
 some r5.2.1
def z35(N:Nat)(rec:Int->(List (List Z3))->(List Z5)->(List (List UInt8))->(List Z1)->Option ynb)(b0:Int)(b1:(List (List Z3)))(b2:(List Z5))(b3:(List (List UInt8)))(b4:(List Z1)):Option ynb:=
 bif (decide (b0<(b1.length:Int)))then
 (gd (inB b0 (b1.length))
 (let x3:=([((rdL b1 b0 ([]:List Z3)),(([]:List (List UInt8)),(([]:List Int),(([]:List Y6),([]:List Z1)))))]:List Z5)
 gd (fits (b2.length+x3.length) 120)
 (let x4:=(b2++x3)
 bif (decide ((0:Int)<b0))then
 (gd (inB b0 (b1.length))
 (gd (inB (0:Int) (List.length (rdL b1 b0 ([]:List Z3))))
 (let x5:=(rdL (rdL b1 b0 ([]:List Z3)) (0:Int) X4)
 gd (fits (b3.length+1) 16)
 (let x6:=(b3++([x5.1]:List (List UInt8)))
 rec (IntKind.wrap .i64 (b0+(1:Int))) b1 x4 x6 b4))))
 else
 (rec (IntKind.wrap .i64 (b0+(1:Int))) b1 x4 b3 b4))))
 else
 (some (((),()),((),(((),((),())),(b2,(b3,(b4,())))))))
def z9f(N:Nat)(n:Nat):=
 itF (fun _ _ _ _ _=>none) (z35 N) n
theorem zfm(N:Nat)(n:Nat):z9f N (n+1)=z35 N (z9f N n):=rfl
def zc9(N:Nat)(a0:Z5)(a1:V6):Option (ziy):=
 (zew N a0.1 a1.1).bind fun r1=>
 bif (eqi (r1.length:Int) (0:Int))then
 (let x2:=([(([]:List Z3),(([]:List (List UInt8)),(([]:List Int),(([]:List Y6),([]:List Z1)))))]:List Z5)
 some (x2,(([]:List (List UInt8)),([]:List Z1))))
 else
 ((z9f N N (0:Int) r1 ([]:List Z5) ([]:List (List UInt8)) ([]:List Z1)).bind fun r7=>
 some (r7.2.2.2.1,(r7.2.2.2.2.1,r7.2.2.2.2.2.1)))
def z4e(N:Nat)(rec:(List Z5)->Int->(List Z6)->Int->(List Int)->Option ynh)(b0:(List Z5))(b1:Int)(b2:(List Z6))(b3:Int)(b4:(List Int)):Option ynh:=
 bif (decide (b1<(b0.length:Int)))then
 (gd (inB b1 (b0.length))
 ((z5j N b2 (rdL b0 b1 zh1)).bind fun r1=>
 bif (!(eqi r1.2.2 (0:Int)))then
 (some (.inl ((),(((),((),r1.2.2)),(([]:List Z6),(([]:List Int),()))))))
 else
 (gd (fits (b4.length+1) 8)
 (let x2:=(b4++([r1.2.1]:List Int))
 rec b0 (IntKind.wrap .i64 (b1+(1:Int))) r1.1 b3 x2))))
 else
 (some (.inr (((),()),((),((b2,((),b3)),(b4,()))))))
def z4n(N:Nat)(n:Nat):=
 itF (fun _ _ _ _ _=>none) (z4e N) n
theorem zhe(N:Nat)(n:Nat):z4n N (n+1)=z4e N (z4n N n):=rfl
def zcz(N:Nat)(a0:(List Z6))(a1:(List Z5)):Option (z9t):=
 (z4n N N a1 (0:Int) a0 (0:Int) ([]:List Int)).bind fun r3=>
 match r3 with
 | .inl r4=>(some (r4.2.2.1,(r4.2.2.2.1,r4.2.1.2.2)))
 | .inr r5=>(some (r5.2.2.1.1,(r5.2.2.2.1,r5.2.2.1.2.2)))
def z3p(N:Nat)(b0:(List UInt8))(b1:Int)(b2:(List UInt8))(b3:G3):Option ((Unit×(G3×Unit))):=
 bif (eqi b3.2.1 (3:Int))then
 (bif (eqi b3.2.1 (1:Int))then
 (bif (decide ((0:Int)<b1))then
 (gd (inB (0:Int) (b0.length))
 (bif (eqi (bt b0 (0:Int)) (6:Int))then
 (gd (decide (0<=(1:Int))&&(decide ((1:Int)<=b1)&&decide (b1<=(b0.length:Int))))
 (some ((),(((cut2 b0 (1:Int) b1),((4:Int),(b3.2.2.1,b2))),()))))
 else
 (some ((),((b3.1,(b3.2.1,(b3.2.2.1,b2))),())))))
 else
 (some ((),((b3.1,(b3.2.1,(b3.2.2.1,b2))),()))))
 else
 (some ((),((b3.1,(b3.2.1,(b3.2.2.1,b2))),()))))
 else
 (bif (eqi b3.2.1 (1:Int))then
 (bif (decide ((0:Int)<b1))then
 (gd (inB (0:Int) (b0.length))
 (bif (eqi (bt b0 (0:Int)) (6:Int))then
 (gd (decide (0<=(1:Int))&&(decide ((1:Int)<=b1)&&decide (b1<=(b0.length:Int))))
 (some ((),(((cut2 b0 (1:Int) b1),((4:Int),b3.2.2)),()))))
 else
 (some ((),(b3,())))))
 else
 (some ((),(b3,()))))
 else
 (some ((),(b3,()))))
def zi1(N:Nat)(a0:(List UInt8))(a1:Int):Option (G3):=
 gd (decide (0<=(0:Int))&&(decide ((0:Int)<=a1)&&decide (a1<=(a0.length:Int))))
 (gd (inB a1 (a0.length))
 (gd (decide (0<=(IntKind.wrap .i64 (a1+(1:Int))))&&(decide ((IntKind.wrap .i64 (a1+(1:Int)))<=(a0.length:Int))&&decide ((a0.length:Int)<=(a0.length:Int))))
 (let x1:=(cut2 a0 (IntKind.wrap .i64 (a1+(1:Int))) (a0.length:Int))
 let x2:=(eqi (IntKind.wrap .i64 ((bt a0 a1))) (2:Int))
 bif x2 then
 (bif (eqi (x1.length:Int) (2:Int))then
 (gd (inB (0:Int) (x1.length))
 (let x3:=(IntKind.wrap .i64 ((256:Int)*(IntKind.wrap .i64 ((bt x1 (0:Int))))))
 gd (inB (1:Int) (x1.length))
 (let x4:=(IntKind.wrap .i64 (x3+(IntKind.wrap .i64 ((bt x1 (1:Int))))))
 match z3p N a0 a1 x1 ((cut2 a0 (0:Int) a1),((IntKind.wrap .i64 ((bt a0 a1))),(x4,([]:List UInt8))))with
 | some r5=>(some r5.2.1)
 | none=>none)))
 else
 (match z3p N a0 a1 x1 ((cut2 a0 (0:Int) a1),((IntKind.wrap .i64 ((bt a0 a1))),((0:Int),([]:List UInt8))))with
 | some r6=>(some r6.2.1)
 | none=>none))
 else
 (match z3p N a0 a1 x1 ((cut2 a0 (0:Int) a1),((IntKind.wrap .i64 ((bt a0 a1))),((0:Int),([]:List UInt8))))with
 | some r7=>(some r7.2.1)
 | none=>none))))
def z2b(N:Nat)(rec:(List UInt8)->(List UInt8)->Int->(List (List UInt8))->Option (((Unit×(List UInt8))×((List (List UInt8))×Unit))))(b0 b1:(List UInt8))(b2:Int)(b3:(List (List UInt8))):Option (((Unit×(List UInt8))×((List (List UInt8))×Unit))):=
 bif (decide (b2<(b0.length:Int)))then
 (gd (inB b2 (b0.length))
 (bif (eqi (bt b0 b2) (47:Int))then
 (gd (fits (b3.length+1) 16)
 (let x1:=(b3++([b1]:List (List UInt8)))
 rec b0 ([]:List UInt8) (IntKind.wrap .i64 (b2+(1:Int))) x1))
 else
 (gd (decide (0<=b2)&&(decide (b2<=(IntKind.wrap .i64 (b2+(1:Int))))&&decide ((IntKind.wrap .i64 (b2+(1:Int)))<=(b0.length:Int))))
 (let x2:=(cut2 b0 b2 (IntKind.wrap .i64 (b2+(1:Int))))
 gd (decide (b1.length+x2.length<maxS))
 (let x3:=(b1++x2)
 rec b0 x3 (IntKind.wrap .i64 (b2+(1:Int))) b3)))))
 else
 (some (((),b1),(b3,())))
def z80(N:Nat)(n:Nat):=
 itF (fun _ _ _ _=>none) (z2b N) n
theorem zef(N:Nat)(n:Nat):z80 N (n+1)=z2b N (z80 N n):=rfl
def zi2(N:Nat)(a0:(List UInt8)):Option (((List (List UInt8))×Bool)):=
 match z80 N N a0 ([]:List UInt8) (0:Int) ([]:List (List UInt8))with
 | some r4=>(some (r4.2.1,(eqs r4.1.2 ([]:List UInt8))))
 | none=>none
def z3f(N:Nat)(rec:(List UInt8)->Int->Option Ty3_)(b0:(List UInt8))(b1:Int):Option Ty3_:=
 bif (decide (b1<(b0.length:Int)))then
 (gd (inB b1 (b0.length))
 (bif (decide ((bt b0 b1)<(33:Int)))then
 (some (.inl (false,())))
 else
 (gd (inB b1 (b0.length))
 (bif (decide ((126:Int)<(bt b0 b1)))then
 (some (.inl (false,())))
 else
 (gd (inB b1 (b0.length))
 (bif (eqi (bt b0 b1) (47:Int))then
 (some (.inl (false,())))
 else
 (rec b0 (IntKind.wrap .i64 (b1+(1:Int))))))))))
 else
 (some (.inr ((),())))
def z9n(N:Nat)(n:Nat):=
 itF (fun _ _=>none) (z3f N) n
theorem zfw(N:Nat)(n:Nat):z9n N (n+1)=z3f N (z9n N n):=rfl
def z8e(N:Nat)(a0:(List UInt8)):Option (Bool):=
 let x1:=(decide ((a0.length:Int)<(1:Int)))
 bif x1 then
 (some false)
 else
 (let x2:=(decide ((12:Int)<(a0.length:Int)))
 bif x2 then
 (some false)
 else
 (bif (eqs a0 ([46]:List UInt8))then
 (some false)
 else
 (bif (eqs a0 ([46,46]:List UInt8))then
 (some false)
 else
 (match z9n N N a0 (0:Int)with
 | some r3=>(match r3 with
 | .inl r4=>(some r4.1)
 | .inr r5=>(some true))
 | none=>none))))
def z29(N:Nat)(rec:Bool->Int->(List (List UInt8))->Option ((Bool×Unit)⊕(Bool×Unit)))(b0:Bool)(b1:Int)(b2:(List (List UInt8))):Option ((Bool×Unit)⊕(Bool×Unit)):=
 bif (decide (b1<(b2.length:Int)))then
 (gd (inB b1 (b2.length))
 (match z8e N (rdL b2 b1 ([]:List UInt8))with
 | some r2=>(bif (!r2)then
 (some (.inl (false,())))
 else
 (rec b0 (IntKind.wrap .i64 (b1+(1:Int))) b2))
 | none=>none))
 else
 (some (.inr (b0,())))
def z7y(N:Nat)(n:Nat):=
 itF (fun _ _ _=>none) (z29 N) n
theorem zed(N:Nat)(n:Nat):z7y N (n+1)=z29 N (z7y N n):=rfl
def z88(N:Nat)(a0:(List UInt8)):Option (Bool):=
 match zi2 N a0 with
 | some r1=>(match z7y N N r1.2 (0:Int) r1.1 with
 | some r3=>(match r3 with
 | .inl r4=>(some r4.1)
 | .inr r5=>(some r5.1))
 | none=>none)
 | none=>none
def z3g(N:Nat)(rec:Int->(List UInt8)->Int->Option (((List UInt8)×Unit)))(b0:Int)(b1:(List UInt8))(b2:Int):Option (((List UInt8)×Unit)):=
 bif (decide (b2<(8:Int)))then
 (let x1:=(IntKind.wrap .i64 ((Int.tmod b0 (16:Int))+(1:Int)))
 gd (decide (0<=(Int.tmod b0 (16:Int)))&&(decide ((Int.tmod b0 (16:Int))<=x1)&&decide (x1<=(List.length ([48,49,50,51,52,53,54,55,56,57,97,98,99,100,101,102]:List UInt8):Int))))
 (let x2:=(cut2 ([48,49,50,51,52,53,54,55,56,57,97,98,99,100,101,102]:List UInt8) (Int.tmod b0 (16:Int)) x1)
 gd (decide (x2.length+b1.length<maxS))
 (let x3:=(x2++b1)
 rec (IntKind.wrap .i64 (Int.tdiv b0 (16:Int))) x3 (IntKind.wrap .i64 (b2+(1:Int))))))
 else
 (some (b1,()))
def z9o(N:Nat)(n:Nat):=
 itF (fun _ _ _=>none) (z3g N) n
theorem zfx(N:Nat)(n:Nat):z9o N (n+1)=z3g N (z9o N n):=rfl
def zkx(N:Nat)(a0:Int):Option ((List UInt8)):=
 bif (decide (a0<(0:Int)))then
 (some ([]:List UInt8))
 else
 (bif (decide ((2147483647:Int)<a0))then
 (some ([]:List UInt8))
 else
 (match z9o N N a0 ([]:List UInt8) (0:Int)with
 | some r4=>(gd (decide (List.length ([5]:List UInt8)+r4.1.length<maxS))
 (let x5:=(([5]:List UInt8)++r4.1)
 gd (decide (x5.length+List.length ([47]:List UInt8)<maxS))
 (let x6:=(x5++([47]:List UInt8))
 some x6)))
 | none=>none))
def z0v(N:Nat)(rec:(List UInt8)->Int->Int->Option ((((List UInt8)×Int)×Unit)))(b0:(List UInt8))(b1 b2:Int):Option ((((List UInt8)×Int)×Unit)):=
 bif (decide (b2<(9:Int)))then
 (gd (inB b2 (b0.length))
 (let x1:=(decide ((48:Int)<=(IntKind.wrap .i64 ((bt b0 b2)))))
 bif x1 then
 (let x2:=(decide ((IntKind.wrap .i64 ((bt b0 b2)))<=(57:Int)))
 bif x2 then
 (let x3:=(IntKind.wrap .i64 ((IntKind.wrap .i64 ((16:Int)*b1))+(IntKind.wrap .i64 ((bt b0 b2)))))
 rec b0 (IntKind.wrap .i64 (x3-(48:Int))) (IntKind.wrap .i64 (b2+(1:Int))))
 else
 (let x4:=(IntKind.wrap .i64 ((IntKind.wrap .i64 ((16:Int)*b1))+(IntKind.wrap .i64 ((bt b0 b2)))))
 let x5:=(IntKind.wrap .i64 ((IntKind.wrap .i64 (x4-(97:Int)))+(10:Int)))
 rec b0 x5 (IntKind.wrap .i64 (b2+(1:Int)))))
 else
 (let x6:=(IntKind.wrap .i64 ((IntKind.wrap .i64 ((16:Int)*b1))+(IntKind.wrap .i64 ((bt b0 b2)))))
 let x7:=(IntKind.wrap .i64 ((IntKind.wrap .i64 (x6-(97:Int)))+(10:Int)))
 rec b0 x7 (IntKind.wrap .i64 (b2+(1:Int))))))
 else
 (some ((b0,b1),()))
def z6l(N:Nat)(n:Nat):=
 itF (fun _ _ _=>none) (z0v N) n
theorem zcp(N:Nat)(n:Nat):z6l N (n+1)=z0v N (z6l N n):=rfl
def z8t(N:Nat)(a0:(List UInt8)):Option (Bool):=
 bif (!(eqi (a0.length:Int) (10:Int)))then
 (some false)
 else
 (match z6l N N a0 (0:Int) (1:Int)with
 | some r8=>(match zkx N r8.1.2 with
 | some r9=>(some (eqs r9 r8.1.1))
 | none=>none)
 | none=>none)
def K2(N:Nat)(b0:Bool)(b1:G3):Option ((Bool×Unit)⊕(Unit×(G3×Unit))):=
 bif b0 then
 (some (.inl (false,())))
 else
 (some (.inr ((),(b1,()))))
def Q3(N:Nat)(b0:G3):Option ((Bool×Unit)):=
 bif (eqi b0.2.1 (1:Int))then
 (some (true,()))
 else
 (bif (eqi b0.2.1 (2:Int))then
 (bif (decide ((0:Int)<=b0.2.2.1))then
 (some ((decide (b0.2.2.1<=(60000:Int))),()))
 else
 (some (false,())))
 else
 (bif (eqi b0.2.1 (3:Int))then
 (match z8e N b0.2.2.2 with
 | some r6=>(some (r6,()))
 | none=>none)
 else
 (bif (eqi b0.2.1 (4:Int))then
 (match z88 N b0.1 with
 | some r7=>(some (r7,()))
 | none=>none)
 else
 (some (false,())))))
def zi0(N:Nat)(a0:G3):Option (Bool):=
 match z88 N a0.1 with
 | some r1=>(bif (!r1)then
 (match z8t N a0.1 with
 | some r2=>(bif (!r2)then
 (match K2 N true a0 with
 | some r3=>(match r3 with
 | .inl r4=>(some r4.1)
 | .inr r5=>(match Q3 N r5.2.1 with
 | some r8=>(some r8.1)
 | none=>none))
 | none=>none)
 else
 (bif (!(eqi a0.2.1 (2:Int)))then
 (bif (!(eqi a0.2.2.1 (0:Int)))then
 (match K2 N true a0 with
 | some r9=>(match r9 with
 | .inl r10=>(some r10.1)
 | .inr r11=>(match Q3 N r11.2.1 with
 | some r12=>(some r12.1)
 | none=>none))
 | none=>none)
 else
 (bif (!(eqi a0.2.1 (3:Int)))then
 (match K2 N (!(eqs a0.2.2.2 ([]:List UInt8))) a0 with
 | some r13=>(match r13 with
 | .inl r14=>(some r14.1)
 | .inr r15=>(match Q3 N r15.2.1 with
 | some r16=>(some r16.1)
 | none=>none))
 | none=>none)
 else
 (match K2 N false a0 with
 | some r17=>(match r17 with
 | .inl r18=>(some r18.1)
 | .inr r19=>(match Q3 N r19.2.1 with
 | some r20=>(some r20.1)
 | none=>none))
 | none=>none)))
 else
 (bif (!(eqi a0.2.1 (3:Int)))then
 (match K2 N (!(eqs a0.2.2.2 ([]:List UInt8))) a0 with
 | some r21=>(match r21 with
 | .inl r22=>(some r22.1)
 | .inr r23=>(match Q3 N r23.2.1 with
 | some r24=>(some r24.1)
 | none=>none))
 | none=>none)
 else
 (match K2 N false a0 with
 | some r25=>(match r25 with
 | .inl r26=>(some r26.1)
 | .inr r27=>(match Q3 N r27.2.1 with
 | some r28=>(some r28.1)
 | none=>none))
 | none=>none))))
 | none=>none)
 else
 (bif (!(eqi a0.2.1 (2:Int)))then
 (bif (!(eqi a0.2.2.1 (0:Int)))then
 (match K2 N true a0 with
 | some r29=>(match r29 with
 | .inl r30=>(some r30.1)
 | .inr r31=>(match Q3 N r31.2.1 with
 | some r32=>(some r32.1)
 | none=>none))
 | none=>none)
 else
 (bif (!(eqi a0.2.1 (3:Int)))then
 (match K2 N (!(eqs a0.2.2.2 ([]:List UInt8))) a0 with
 | some r33=>(match r33 with
 | .inl r34=>(some r34.1)
 | .inr r35=>(match Q3 N r35.2.1 with
 | some r36=>(some r36.1)
 | none=>none))
 | none=>none)
 else
 (match K2 N false a0 with
 | some r37=>(match r37 with
 | .inl r38=>(some r38.1)
 | .inr r39=>(match Q3 N r39.2.1 with
 | some r40=>(some r40.1)
 | none=>none))
 | none=>none)))
 else
 (bif (!(eqi a0.2.1 (3:Int)))then
 (match K2 N (!(eqs a0.2.2.2 ([]:List UInt8))) a0 with
 | some r41=>(match r41 with
 | .inl r42=>(some r42.1)
 | .inr r43=>(match Q3 N r43.2.1 with
 | some r44=>(some r44.1)
 | none=>none))
 | none=>none)
 else
 (match K2 N false a0 with
 | some r45=>(match r45 with
 | .inl r46=>(some r46.1)
 | .inr r47=>(match Q3 N r47.2.1 with
 | some r48=>(some r48.1)
 | none=>none))
 | none=>none))))
 | none=>none
def znx(N:Nat)(a0:G3):Option (((List UInt8)×Int)):=
 match zi0 N a0 with
 | some r1=>(bif (!r1)then
 (some (([]:List UInt8),(12:Int)))
 else
 (bif (eqi a0.2.1 (1:Int))then
 (gd (decide (a0.1.length+List.length ([1]:List UInt8)<maxS))
 (let x2:=(a0.1++([1]:List UInt8))
 some (x2,(0:Int))))
 else
 (bif (eqi a0.2.1 (2:Int))then
 (gd (decide (a0.1.length+List.length ([2]:List UInt8)<maxS))
 (let x3:=(a0.1++([2]:List UInt8))
 let x4:=(IntKind.wrap .i64 (Int.tdiv a0.2.2.1 (256:Int)))
 let x5:=(IntKind.wrap .u8 ((Int.tmod a0.2.2.1 (256:Int))))
 let x6:=(zlq ([(IntKind.wrap .u8 (x4)),x5]:List Int))
 gd (decide (x3.length+x6.length<maxS))
 (let x7:=(x3++x6)
 some (x7,(0:Int)))))
 else
 (bif (eqi a0.2.1 (3:Int))then
 (gd (decide (a0.1.length+List.length ([3]:List UInt8)<maxS))
 (let x8:=(a0.1++([3]:List UInt8))
 gd (decide (x8.length+a0.2.2.2.length<maxS))
 (let x9:=(x8++a0.2.2.2)
 some (x9,(0:Int)))))
 else
 (gd (decide (List.length ([6]:List UInt8)+a0.1.length<maxS))
 (let x10:=(([6]:List UInt8)++a0.1)
 gd (decide (x10.length+List.length ([1]:List UInt8)<maxS))
 (let x11:=(x10++([1]:List UInt8))
 some (x11,(0:Int)))))))))
 | none=>none
def z2a(N:Nat)(rec:(List UInt8)->Int->Option (((Unit×Int)×(G3×Unit))⊕(Unit×(Unit×Unit))))(b0:(List UInt8))(b1:Int):Option (((Unit×Int)×(G3×Unit))⊕(Unit×(Unit×Unit))):=
 bif (decide (b1<(b0.length:Int)))then
 (gd (inB b1 (b0.length))
 (bif (decide ((bt b0 b1)<(1:Int)))then
 (rec b0 (IntKind.wrap .i64 (b1+(1:Int))))
 else
 (gd (inB b1 (b0.length))
 (bif (decide ((3:Int)<(bt b0 b1)))then
 (rec b0 (IntKind.wrap .i64 (b1+(1:Int))))
 else
 (match zi1 N b0 b1 with
 | some r1=>(match znx N r1 with
 | some r2=>(bif (eqi r2.2 (0:Int))then
 (bif (eqs r2.1 b0)then
 (some (.inl (((),(0:Int)),(r1,()))))
 else
 (rec b0 (IntKind.wrap .i64 (b1+(1:Int)))))
 else
 (rec b0 (IntKind.wrap .i64 (b1+(1:Int)))))
 | none=>none)
 | none=>none)))))
 else
 (some (.inr ((),((),()))))
def z7z(N:Nat)(n:Nat):=
 itF (fun _ _=>none) (z2a N) n
theorem zee(N:Nat)(n:Nat):z7z N (n+1)=z2a N (z7z N n):=rfl
def zdc(N:Nat)(a0:(List UInt8)):Option ((G3×Int)):=
 match z7z N N a0 (0:Int)with
 | some r3=>(match r3 with
 | .inl r4=>(some (r4.2.1,r4.1.2))
 | .inr r5=>(some ((([]:List UInt8),((0:Int),((0:Int),([]:List UInt8)))),(12:Int))))
 | none=>none
def zf1(N:Nat)(a0:Z3):Option (z93):=
 match zdc N a0.1 with
 | some r1=>(bif (!(eqi r1.2 (0:Int)))then
 (some ((0:Int),(0:Int)))
 else
 (bif (eqi r1.1.2.1 (1:Int))then
 (some ((1:Int),(0:Int)))
 else
 (bif (eqi r1.1.2.1 (2:Int))then
 (some ((0:Int),(a0.2.1.length:Int)))
 else
 (bif (eqi r1.1.2.1 (3:Int))then
 (some ((0:Int),(a0.2.1.length:Int)))
 else
 (some ((0:Int),(0:Int)))))))
 | none=>none
def z25(N:Nat)(rec:(List Z3)->Int->z93->Option (((Unit×Unit)×(Unit×(z93×Unit)))))(b0:(List Z3))(b1:Int)(b2:z93):Option (((Unit×Unit)×(Unit×(z93×Unit)))):=
 bif (decide (b1<(b0.length:Int)))then
 (gd (inB b1 (b0.length))
 (match zf1 N (rdL b0 b1 X4)with
 | some r1=>(rec b0 (IntKind.wrap .i64 (b1+(1:Int))) ((IntKind.wrap .i64 (b2.1+r1.1)),(IntKind.wrap .i64 (b2.2+r1.2))))
 | none=>none))
 else
 (some (((),()),((),(b2,()))))
def z7w(N:Nat)(n:Nat):=
 itF (fun _ _ _=>none) (z25 N) n
theorem zea(N:Nat)(n:Nat):z7w N (n+1)=z25 N (z7w N n):=rfl
def zhy(N:Nat)(a0:(List Z3)):Option (z93):=
 match z7w N N a0 (0:Int) ((0:Int),(0:Int))with
 | some r2=>(some r2.2.2.1)
 | none=>none
def zmv(N:Nat)(a0:z93):Option (Y6):=
 some ((a0.1,a0.1),(a0.2,a0.2))
def zqr(N:Nat)(a0 a1:Y6):Option (Y6):=
 let x1:=(bif decide ((IntKind.wrap .i64 (a0.1.1+a1.1.1))<(1000000000000000:Int))then(IntKind.wrap .i64 (a0.1.1+a1.1.1))else(1000000000000000:Int))
 let x2:=(bif decide ((IntKind.wrap .i64 (a0.1.2+a1.1.2))<(1000000000000000:Int))then(IntKind.wrap .i64 (a0.1.2+a1.1.2))else(1000000000000000:Int))
 let x3:=(bif decide ((IntKind.wrap .i64 (a0.2.1+a1.2.1))<(1000000000000000:Int))then(IntKind.wrap .i64 (a0.2.1+a1.2.1))else(1000000000000000:Int))
 let x4:=(bif decide ((IntKind.wrap .i64 (a0.2.2+a1.2.2))<(1000000000000000:Int))then(IntKind.wrap .i64 (a0.2.2+a1.2.2))else(1000000000000000:Int))
 some ((x1,x2),(x3,x4))
def z9j(N:Nat)(a0:(List UInt8)):Option (Bool):=
 match zdc N a0 with
 | some r1=>(bif (eqi r1.2 (0:Int))then
 (some (eqi r1.1.2.1 (1:Int)))
 else
 (some false))
 | none=>none
def z4p(N:Nat)(a0:z4s)(a1:Int):Option (z4s):=
 let x1:=(bif decide ((IntKind.wrap .i64 (a0.2+a1))<(1000000000000000:Int))then(IntKind.wrap .i64 (a0.2+a1))else(1000000000000000:Int))
 some (a0.1,x1)
def zab(N:Nat)(a0:z4s)(a1:Int):Option (z4s):=
 let x1:=(bif decide ((0:Int)<(IntKind.wrap .i64 (a0.1-a1)))then(IntKind.wrap .i64 (a0.1-a1))else(0:Int))
 some (x1,a0.2)
def z3m(N:Nat)(b0 b1:(List UInt8))(b2 b3:Bool):Option ((Bool×Unit)):=
 bif b2 then
 (some (true,()))
 else
 (bif b3 then
 (some (true,()))
 else
 (match z8t N b0 with
 | some r5=>(bif r5 then
 (match z8t N b1 with
 | some r6=>(some (r6,()))
 | none=>none)
 else
 (some (false,())))
 | none=>none))
def z3n(N:Nat)(b0 b1:(List UInt8))(b2:Bool):Option ((Bool×Unit)):=
 bif (!(eqs b0 ([]:List UInt8)))then
 (bif (!(eqs b1 ([]:List UInt8)))then
 (match z88 N b0 with
 | some r3=>(bif r3 then
 (match z88 N b1 with
 | some r4=>(match z3m N b0 b1 b2 r4 with
 | some r7=>(some (r7.1,()))
 | none=>none)
 | none=>none)
 else
 (match z3m N b0 b1 b2 false with
 | some r8=>(some (r8.1,()))
 | none=>none))
 | none=>none)
 else
 (match z3m N b0 b1 b2 false with
 | some r9=>(some (r9.1,()))
 | none=>none))
 else
 (match z3m N b0 b1 b2 false with
 | some r10=>(some (r10.1,()))
 | none=>none)
def zd8(N:Nat)(a0 a1:(List UInt8)):Option (Bool):=
 let x1:=(decide ((0:Int)<(a0.length:Int)))
 bif x1 then
 (gd (inB (0:Int) (a0.length))
 (bif (eqi (bt a0 (0:Int)) (6:Int))then
 (let x2:=(decide ((0:Int)<(a1.length:Int)))
 bif x2 then
 (gd (inB (0:Int) (a1.length))
 (match z3n N a0 a1 (eqi (bt a1 (0:Int)) (6:Int))with
 | some r11=>(some r11.1)
 | none=>none))
 else
 (match z3n N a0 a1 false with
 | some r12=>(some r12.1)
 | none=>none))
 else
 (match z3n N a0 a1 false with
 | some r13=>(some r13.1)
 | none=>none)))
 else
 (match z3n N a0 a1 false with
 | some r14=>(some r14.1)
 | none=>none)
def z62(N:Nat)(a0:Y6)(a1:Z1):Option (Y6):=
 bif (eqi a1.1 (1:Int))then
 (match z9j N a1.2.1 with
 | some r1=>(bif r1 then
 (match z4p N a0.1 (1:Int)with
 | some r2=>(some (r2,a0.2))
 | none=>none)
 else
 (match zab N a0.2 (64:Int)with
 | some r3=>(match z4p N r3 (a1.2.2.1.length:Int)with
 | some r4=>(some (a0.1,r4))
 | none=>none)
 | none=>none))
 | none=>none)
 else
 (bif (eqi a1.1 (2:Int))then
 (match z9j N a1.2.1 with
 | some r5=>(bif r5 then
 (match zab N a0.1 (1:Int)with
 | some r6=>(some (r6,a0.2))
 | none=>none)
 else
 (match zab N a0.2 (64:Int)with
 | some r7=>(some (a0.1,r7))
 | none=>none))
 | none=>none)
 else
 (bif (eqi a1.1 (6:Int))then
 (some a0)
 else
 (bif (eqi a1.1 (3:Int))then
 (some (((0:Int),a0.1.2),((0:Int),a0.2.2)))
 else
 (match zd8 N a1.2.2.2.2.1 a1.2.2.2.2.2.1 with
 | some r8=>(bif (!r8)then
 (some (((0:Int),(1000000000000000:Int)),((0:Int),(1000000000000000:Int))))
 else
 (bif (eqi a1.1 (5:Int))then
 (match z4p N ((0:Int),a0.1.2) a0.1.2 with
 | some r9=>(match z4p N ((0:Int),a0.2.2) a0.2.2 with
 | some r10=>(some (r9,r10))
 | none=>none)
 | none=>none)
 else
 (some (((0:Int),a0.1.2),((0:Int),a0.2.2)))))
 | none=>none))))
def z4i(N:Nat)(rec:Int->Z5->Y6->Option (((Unit×Unit)×(Unit×(Y6×Unit)))))(b0:Int)(b1:Z5)(b2:Y6):Option (((Unit×Unit)×(Unit×(Y6×Unit)))):=
 let x6:=(decide (b0<(b1.2.2.2.2.length:Int)))
 bif x6 then
 (gd (inB b0 (b1.2.2.2.2.length))
 (match z62 N b2 (rdL b1.2.2.2.2 b0 U7)with
 | some r7=>(rec (IntKind.wrap .i64 (b0+(1:Int))) b1 r7)
 | none=>none))
 else
 (some (((),()),((),(b2,()))))
def zb5(N:Nat)(n:Nat):=
 itF (fun _ _ _=>none) (z4i N) n
theorem zhi(N:Nat)(n:Nat):zb5 N (n+1)=z4i N (zb5 N n):=rfl
def z4j(N:Nat)(rec:Int->Z5->Y6->Option (((Unit×(Unit×Unit))×(Z5×(Unit×(Y6×Unit))))))(b0:Int)(b1:Z5)(b2:Y6):Option (((Unit×(Unit×Unit))×(Z5×(Unit×(Y6×Unit))))):=
 let x3:=(decide (b0<(b1.2.2.2.1.length:Int)))
 bif x3 then
 (gd (inB b0 (b1.2.2.2.1.length))
 (match zqr N b2 (rdL b1.2.2.2.1 b0 z5k)with
 | some r4=>(rec (IntKind.wrap .i64 (b0+(1:Int))) b1 r4)
 | none=>none))
 else
 (some (((),((),())),(b1,((),(b2,())))))
def zb6(N:Nat)(n:Nat):=
 itF (fun _ _ _=>none) (z4j N) n
theorem zhj(N:Nat)(n:Nat):zb6 N (n+1)=z4j N (zb6 N n):=rfl
def zjg(N:Nat)(a0:Z5):Option (Y6):=
 bif (eqi (a0.2.2.1.length:Int) (0:Int))then
 (match zhy N a0.1 with
 | some r1=>(match zmv N r1 with
 | some r2=>(some r2)
 | none=>none)
 | none=>none)
 else
 (match zb6 N N (0:Int) a0 (((0:Int),(0:Int)),((0:Int),(0:Int)))with
 | some r5=>(match zb5 N N (0:Int) r5.2.1 r5.2.2.2.1 with
 | some r8=>(some r8.2.2.1)
 | none=>none)
 | none=>none)
def z33(N:Nat)(rec:(List Z5)->Int->(List Y6)->Option yh8)(b0:(List Z5))(b1:Int)(b2:(List Y6)):Option yh8:=
 bif (decide (b1<(b0.length:Int)))then
 (gd (inB b1 (b0.length))
 ((zjg N (rdL b0 b1 zh1)).bind fun r1=>
 gd (fits (b2.length+1) 32)
 (let x2:=(b2++([r1]:List Y6))
 rec b0 (IntKind.wrap .i64 (b1+(1:Int))) x2)))
 else
 (some ((),(b2,())))
def z9d(N:Nat)(n:Nat):=
 itF (fun _ _ _=>none) (z33 N) n
theorem zfk(N:Nat)(n:Nat):z9d N (n+1)=z33 N (z9d N n):=rfl
def zkp(N:Nat)(a0:(List Z5)):Option ((List Y6)):=
 (z9d N N a0 (0:Int) ([]:List Y6)).bind fun r3=>
 some r3.2.1
def z84(N:Nat)(a0:Z5)(a1:Int)(a2:zde)(a3:(List Int)):Option (Z5):=
 gd (decide (0<=(0:Int))&&(decide ((0:Int)<=a1)&&decide (a1<=(a0.2.2.1.length:Int))))
 (gd (fits (0+List.length (cut2 a0.2.2.1 (0:Int) a1)) 8)
 (let x1:=(([]:List Int)++(cut2 a0.2.2.1 (0:Int) a1))
 gd (fits (x1.length+a3.length) 8)
 (let x2:=(x1++a3)
 gd (decide (0<=(IntKind.wrap .i64 (a1+(1:Int))))&&(decide ((IntKind.wrap .i64 (a1+(1:Int)))<=(a0.2.2.1.length:Int))&&decide ((a0.2.2.1.length:Int)<=(a0.2.2.1.length:Int))))
 (let x3:=(cut2 a0.2.2.1 (IntKind.wrap .i64 (a1+(1:Int))) (a0.2.2.1.length:Int))
 gd (fits (x2.length+x3.length) 8)
 (let x4:=(x2++x3)
 gd (decide (0<=(0:Int))&&(decide ((0:Int)<=a1)&&decide (a1<=(a0.2.2.2.1.length:Int))))
 (gd (fits (0+List.length (cut2 a0.2.2.2.1 (0:Int) a1)) 32)
 (let x5:=(([]:List Y6)++(cut2 a0.2.2.2.1 (0:Int) a1))
 (zkp N a2.1).bind fun r6=>
 gd (fits (x5.length+r6.length) 32)
 (let x7:=(x5++r6)
 gd (decide (0<=(IntKind.wrap .i64 (a1+(1:Int))))&&(decide ((IntKind.wrap .i64 (a1+(1:Int)))<=(a0.2.2.2.1.length:Int))&&decide ((a0.2.2.2.1.length:Int)<=(a0.2.2.2.1.length:Int))))
 (let x8:=(cut2 a0.2.2.2.1 (IntKind.wrap .i64 (a1+(1:Int))) (a0.2.2.2.1.length:Int))
 gd (fits (x7.length+x8.length) 32)
 (let x9:=(x7++x8)
 gd (decide (0<=(0:Int))&&(decide ((0:Int)<=a1)&&decide (a1<=(a0.2.1.length:Int))))
 (gd (fits (0+List.length (cut2 a0.2.1 (0:Int) a1)) 16)
 (let x10:=(([]:List (List UInt8))++(cut2 a0.2.1 (0:Int) a1))
 gd (fits (x10.length+a2.2.1.length) 16)
 (let x11:=(x10++a2.2.1)
 gd (decide (0<=a1)&&(decide (a1<=(a0.2.1.length:Int))&&decide ((a0.2.1.length:Int)<=(a0.2.1.length:Int))))
 (gd (fits (x11.length+List.length (cut2 a0.2.1 a1 (a0.2.1.length:Int))) 16)
 (let x12:=(x11++(cut2 a0.2.1 a1 (a0.2.1.length:Int)))
 gd (fits (0+a2.2.2.length) 112)
 (let x13:=(([]:List Z1)++a2.2.2)
 gd (fits (x13.length+a0.2.2.2.2.length) 112)
 (let x14:=(x13++a0.2.2.2.2)
 some (([]:List Z3),(x12,(x4,(x9,x14)))))))))))))))))))))
def z77(N:Nat)(rec:(List Z5)->Int->(List Y6)->Option yh8)(b0:(List Z5))(b1:Int)(b2:(List Y6)):Option yh8:=
 bif (decide (b1<(b0.length:Int)))then
 (gd (inB b1 (b0.length))
 ((zjg N (rdL b0 b1 zh1)).bind fun r1=>
 gd (fits (b2.length+1) 32)
 (let x2:=(b2++([r1]:List Y6))
 rec b0 (IntKind.wrap .i64 (b1+(1:Int))) x2)))
 else
 (some ((),(b2,())))
def z6c(N:Nat)(n:Nat):=
 itF (fun _ _ _=>none) (z77 N) n
theorem y7m(N:Nat)(n:Nat):z6c N (n+1)=z77 N (z6c N n):=rfl
def zev(N:Nat)(a0:(List Z5)):Option ((List Y6)):=
 (z6c N N a0 (0:Int) ([]:List Y6)).bind fun r3=>
 some r3.2.1
def z8d(N:Nat)(a0:(List Z6))(a1:Int):Option (((List Z6)×Int)):=
 match z8c N a0 a1 with
 | some r1=>(bif (!r1)then
 (some (a0,(110:Int)))
 else
 (match z8p N a0 with
 | some r2=>(gd (inB a1 (r2.length))
 (let x3:=(IntKind.wrap .i64 ((((rdL r2 a1 X2).2).2).1+(1:Int)))
 gd (inB a1 (r2.length))
 (let x4:=(setL r2 a1 ((rdL r2 a1 X2).1,(((rdL r2 a1 X2).2).1,(x3,((((rdL r2 a1 X2).2).2).2)))))
 some (x4,(0:Int)))))
 | none=>none))
 | none=>none
def z4d(N:Nat)(rec:(List Int)->Int->(List Z6)->Option (((Unit×Unit)×((List Z6)×(Unit×Unit)))))(b0:(List Int))(b1:Int)(b2:(List Z6)):Option (((Unit×Unit)×((List Z6)×(Unit×Unit)))):=
 bif (decide (b1<(b0.length:Int)))then
 (gd (inB b1 (b0.length))
 ((z2f N b2 (rdL b0 b1 (0:Int))).bind fun r1=>
 rec b0 (IntKind.wrap .i64 (b1+(1:Int))) r1.1))
 else
 (some (((),()),(b2,((),()))))
def zb3(N:Nat)(n:Nat):=
 itF (fun _ _ _=>none) (z4d N) n
theorem zhd(N:Nat)(n:Nat):zb3 N (n+1)=z4d N (zb3 N n):=rfl
def zg8(N:Nat)(a0:(List Z6))(a1:(List Int)):Option ((List Z6)):=
 (zb3 N N a1 (0:Int) a0).bind fun r2=>
 some r2.2.1
def z8n(N:Nat)(b0:Int)(b1:Bool)(b2:Y5)(b3:(List Z5))(b4:(List (List UInt8)))(b5:(List Z1))(b6:(List Z6))(b7:(List Int))(b8:z9t):Option (ycv⊕((Unit×(Unit×(Unit×(Unit×Int))))×(Y5×(Unit×((List Z6)×((List Int)×Unit)))))):=
 bif b1 then
 ((zev N b3).bind fun r8=>
 let x9:=([(([]:List Z3),(b4,(b8.2.1,(r8,b5))))]:List Z5)
 (zcz N b6 x9).bind fun r10=>
 bif (!(eqi r10.2.2 (0:Int)))then
 (some (.inl (((),r10.2.2),(b2,()))))
 else
 (gd (inB (0:Int) (r10.2.1.length))
 (let x11:=([(rdL r10.2.1 (0:Int) (0:Int))]:List Int)
 gd (fits (b7.length+x11.length) 8)
 (let x12:=(b7++x11)
 some (.inr (((),((),((),((),(rdL r10.2.1 (0:Int) (0:Int)))))),(b2,((),(r10.1,(x12,()))))))))))
 else
 (some (.inr (((),((),((),((),b0)))),(b2,((),(b6,(b7,())))))))
def z8o(N:Nat)(b0:Int)(b1:Y5)(b2:(List Z6))(b3:(List Int)):Option (ycv):=
 (z8d N b2 b0).bind fun r16=>
 (zg8 N r16.1 b3).bind fun r17=>
 (zg8 N r17 ([b1.2.1]:List Int)).bind fun r18=>
 some (((),(0:Int)),((r18,(b0,b1.2.2)),()))
def z4c(N:Nat)(rec:(List Int)->Int->Y5->(List Z5)->(List (List UInt8))->(List Z1)->(List Z6)->(List Int)->Option (ycv))(b0:(List Int))(b1:Int)(b2:Y5)(b3:(List Z5))(b4:(List (List UInt8)))(b5:(List Z1))(b6:(List Z6))(b7:(List Int)):Option (ycv):=
 (zcz N b6 b3).bind fun r1=>
 bif (!(eqi r1.2.2 (0:Int)))then
 (some (((),r1.2.2),(b2,())))
 else
 (gd (fits (b7.length+r1.2.1.length) 8)
 (let x2:=(b7++r1.2.1)
 gd (inB (0:Int) (r1.2.1.length))
 (bif (decide ((0:Int)<b1))then
 (gd (decide (0<=(0:Int))&&(decide ((0:Int)<=(IntKind.wrap .i64 (b1-(1:Int))))&&decide ((IntKind.wrap .i64 (b1-(1:Int)))<=(b0.length:Int))))
 (let x3:=(cut2 b0 (0:Int) (IntKind.wrap .i64 (b1-(1:Int))))
 (z8b N b2 x3).bind fun r4=>
 gd (inB (IntKind.wrap .i64 (b1-(1:Int))) (b0.length))
 (let x5:=(rdL b0 (IntKind.wrap .i64 (b1-(1:Int))) (0:Int))
 (z84 N r4.1 x5 (b3,(b4,b5)) r1.2.1).bind fun r6=>
 rec b0 (IntKind.wrap .i64 (b1-(1:Int))) b2 ([r6]:List Z5) ([]:List (List UInt8)) ([]:List Z1) r1.1 x2)))
 else
 (let x7:=(decide ((1:Int)<(b3.length:Int)))
 bif x7 then
 ((z8n N (rdL r1.2.1 (0:Int) (0:Int)) true b2 b3 b4 b5 r1.1 x2 r1).bind fun r13=>
 match r13 with
 | .inl r14=>(some (((),r14.1.2),(r14.2.1,())))
 | .inr r15=>((z8o N r15.1.2.2.2.2 r15.2.1 r15.2.2.2.1 r15.2.2.2.2.1).bind fun r19=>
 some (((),r19.1.2),(r19.2.1,()))))
 else
 (let x20:=(decide ((0:Int)<(b5.length:Int)))
 (z8n N (rdL r1.2.1 (0:Int) (0:Int)) x20 b2 b3 b4 b5 r1.1 x2 r1).bind fun r21=>
 match r21 with
 | .inl r22=>(some (((),r22.1.2),(r22.2.1,())))
 | .inr r23=>((z8o N r23.1.2.2.2.2 r23.2.1 r23.2.2.2.1 r23.2.2.2.2.1).bind fun r24=>
 some (((),r24.1.2),(r24.2.1,()))))))))
def zb2(N:Nat)(n:Nat):=
 itF (fun _ _ _ _ _ _ _ _=>none) (z4c N) n
theorem zhc(N:Nat)(n:Nat):zb2 N (n+1)=z4c N (zb2 N n):=rfl
def zam(N:Nat)(a0:Y5)(a1:(List Int))(a2:zde):Option ((Y5×Int)):=
 (zb2 N N a1 (a1.length:Int) a0 a2.1 a2.2.1 a2.2.2 a0.1 ([]:List Int)).bind fun r25=>
 some (r25.2.1,r25.1.2)
def zjx(N:Nat)(b0:(List Int))(b1:Y5)(b2:zde):Option (ycv):=
 let x2:=(decide ((0:Int)<(b0.length:Int)))
 bif x2 then
 (let x3:=(IntKind.wrap .i64 ((b0.length:Int)-(1:Int)))
 gd (decide (0<=(0:Int))&&(decide ((0:Int)<=x3)&&decide (x3<=(b0.length:Int))))
 ((z8b N b1 (cut2 b0 (0:Int) x3)).bind fun r4=>
 bif (!(eqi r4.2.2 (0:Int)))then
 (some (((),r4.2.2),(b1,())))
 else
 (gd (inB x3 (b0.length))
 (bif (decide ((rdL b0 x3 (0:Int))<(0:Int)))then
 (some (((),(140:Int)),(b1,())))
 else
 (gd (inB x3 (b0.length))
 (let x5:=(decide ((r4.1.2.2.1.length:Int)<=(rdL b0 x3 (0:Int))))
 bif x5 then
 (some (((),(140:Int)),(b1,())))
 else
 ((zam N b1 b0 b2).bind fun r6=>
 some (((),r6.2),(r6.1,())))))))))
 else
 ((zam N b1 b0 b2).bind fun r7=>
 some (((),r7.2),(r7.1,())))
def zg9(N:Nat)(a0:Y5)(a1:(List Int))(a2:zde):Option ((Y5×Int)):=
 bif (eqi (a2.1.length:Int) (0:Int))then
 (some (a0,(1:Int)))
 else
 (let x1:=(IntKind.wrap .i64 ((a2.1.length:Int)-(1:Int)))
 bif (!(eqi (a2.2.1.length:Int) x1))then
 (some (a0,(1:Int)))
 else
 ((zjx N a1 a0 a2).bind fun r8=>
 some (r8.2.1,r8.1.2)))
def z1m(N:Nat)(rec:Int->Int->Z5->(List Z1)->(List Z5)->(List (List UInt8))->(List Int)->Option yn8)(b0 b1:Int)(b2:Z5)(b3:(List Z1))(b4:(List Z5))(b5:(List (List UInt8)))(b6:(List Int)):Option yn8:=
 bif (decide (b1<(b6.length:Int)))then
 (gd (inB b1 (b6.length))
 (let x2:=(IntKind.wrap .i64 (b0+(rdL b6 b1 (0:Int))))
 gd (decide (0<=b0)&&(decide (b0<=x2)&&decide (x2<=(b2.2.2.1.length:Int))))
 (gd (decide (0<=b0)&&(decide (b0<=x2)&&decide (x2<=(b2.2.2.2.1.length:Int))))
 (gd (decide (0<=b0)&&(decide (b0<=(IntKind.wrap .i64 (x2-(1:Int))))&&decide ((IntKind.wrap .i64 (x2-(1:Int)))<=(b2.2.1.length:Int))))
 (let x3:=(cut2 b2.2.1 b0 (IntKind.wrap .i64 (x2-(1:Int))))
 let x4:=([(([]:List Z3),(x3,((cut2 b2.2.2.1 b0 x2),((cut2 b2.2.2.2.1 b0 x2),([]:List Z1)))))]:List Z5)
 gd (fits (b4.length+x4.length) 120)
 (let x5:=(b4++x4)
 bif (decide ((0:Int)<b1))then
 (gd (inB (IntKind.wrap .i64 (b0-(1:Int))) (b2.2.1.length))
 (let x6:=(rdL b2.2.1 (IntKind.wrap .i64 (b0-(1:Int))) ([]:List UInt8))
 gd (fits (b5.length+1) 16)
 (let x7:=(b5++([x6]:List (List UInt8)))
 rec x2 (IntKind.wrap .i64 (b1+(1:Int))) b2 b3 x5 x7 b6)))
 else
 (rec x2 (IntKind.wrap .i64 (b1+(1:Int))) b2 b3 x5 b5 b6)))))))
 else
 (some (((),()),((),(((),((),b3)),(b4,(b5,()))))))
def z7g(N:Nat)(n:Nat):=
 itF (fun _ _ _ _ _ _ _=>none) (z1m N) n
theorem zdu(N:Nat)(n:Nat):z7g N (n+1)=z1m N (z7g N n):=rfl
def zhr(N:Nat)(a0:Z5)(a1:V6):Option (ziy):=
 (z4q N (a0.2.2.1.length:Int) a1.2.1).bind fun r1=>
 (z7g N N (0:Int) (0:Int) a0 a0.2.2.2.2 ([]:List Z5) ([]:List (List UInt8)) r1).bind fun r8=>
 some (r8.2.2.2.1,(r8.2.2.2.2.1,r8.2.2.1.2.2))
def zmw(N:Nat)(a0:(List (List UInt8))):Option ((List Z0)):=
 (zda N (([]:List UInt8),([]:List UInt8)) a0).bind fun r1=>
 some r1
def zac(N:Nat)(a0:Z1):Option (Bool):=
 bif (eqi a0.1 (4:Int))then
 (some true)
 else
 (some (eqi a0.1 (5:Int)))
def z5v(N:Nat)(a0:Z1):Option ((List Z0)):=
 bif (eqi a0.1 (4:Int))then
 (match U0 N a0.2.2.2.2.1 with
 | some r1=>(some ([r1]:List Z0))
 | none=>none)
 else
 (bif (eqi a0.1 (5:Int))then
 (match U0 N a0.2.2.2.2.1 with
 | some r2=>(some ([r2]:List Z0))
 | none=>none)
 else
 (bif (eqi a0.1 (6:Int))then
 (some ([a0.2.2.2.1]:List Z0))
 else
 (some ([]:List Z0))))
def K6(N:Nat)(a0:Z1):Option ((List Z0)):=
 bif (eqi a0.1 (1:Int))then
 (match z91 N a0.2.1 with
 | some r1=>(some ([r1]:List Z0))
 | none=>none)
 else
 (bif (eqi a0.1 (2:Int))then
 (match z91 N a0.2.1 with
 | some r2=>(some ([r2]:List Z0))
 | none=>none)
 else
 (bif (eqi a0.1 (4:Int))then
 (match U0 N a0.2.2.2.2.1 with
 | some r3=>(match U0 N a0.2.2.2.2.2.1 with
 | some r4=>(some ([r3,r4]:List Z0))
 | none=>none)
 | none=>none)
 else
 (bif (eqi a0.1 (5:Int))then
 (match U0 N a0.2.2.2.2.2.1 with
 | some r5=>(some ([r5]:List Z0))
 | none=>none)
 else
 (some ([a0.2.2.2.1]:List Z0)))))
def zb9(N:Nat)(a0 a1:Z0):Option (Bool):=
 match z06 N a1 with
 | some r1=>(bif r1 then
 (some true)
 else
 (match z06 N a0 with
 | some r2=>(bif (!r2)then
 (bif (lts a0.1 a1.1 || eqs a0.1 a1.1)then
 (match zco N a0.2 a1.2 with
 | some r3=>(some (!r3))
 | none=>none)
 else
 (some false))
 else
 (some false))
 | none=>none))
 | none=>none
def z3c(N:Nat)(rec:Int->Z0->(List Z0)->Option Ty3_)(b0:Int)(b1:Z0)(b2:(List Z0)):Option Ty3_:=
 bif (decide (b0<(b2.length:Int)))then
 (gd (inB b0 (b2.length))
 ((zb9 N b1 (rdL b2 b0 Y7)).bind fun r5=>
 bif (!r5)then
 (some (.inl (false,())))
 else
 (rec (IntKind.wrap .i64 (b0+(1:Int))) b1 b2)))
 else
 (some (.inr ((),())))
def z9l(N:Nat)(n:Nat):=
 itF (fun _ _ _=>none) (z3c N) n
theorem zft(N:Nat)(n:Nat):z9l N (n+1)=z3c N (z9l N n):=rfl
def zkv(N:Nat)(a0:Z1)(a1:Z0):Option (Bool):=
 (z5v N a0).bind fun r1=>
 gd (fits (0+r1.length) 32)
 (let x2:=(([]:List Z0)++r1)
 (K6 N a0).bind fun r3=>
 gd (fits (x2.length+r3.length) 32)
 (let x4:=(x2++r3)
 (z9l N N (0:Int) a1 x4).bind fun r6=>
 match r6 with
 | .inl r7=>(some r7.1)
 | .inr r8=>(some true)))
def z1z(N:Nat)(rec:(List Z0)->(List Z0)->Int->Int->Option ((Bool×Unit)⊕(((List Z0)×((List Z0)×Int))×Unit)))(b0:(List Z0))(b1:(List Z0))(b2 b3:Int):Option ((Bool×Unit)⊕(((List Z0)×((List Z0)×Int))×Unit)):=
 bif (decide (b3<(b1.length:Int)))then
 (gd (inB b2 (b0.length))
 (gd (inB b3 (b1.length))
 (match z2g N (rdL b0 b2 Y7) (rdL b1 b3 Y7)with
 | some r1=>(match z06 N r1 with
 | some r2=>(bif (!r2)then
 (some (.inl (true,())))
 else
 (rec b0 b1 b2 (IntKind.wrap .i64 (b3+(1:Int)))))
 | none=>none)
 | none=>none)))
 else
 (some (.inr ((b0,(b1,b2)),())))
def z7s(N:Nat)(n:Nat):=
 itF (fun _ _ _ _=>none) (z1z N) n
theorem ze6(N:Nat)(n:Nat):z7s N (n+1)=z1z N (z7s N n):=rfl
def z20(N:Nat)(rec:(List Z0)->(List Z0)->Int->Option Ty3_)(b0:(List Z0))(b1:(List Z0))(b2:Int):Option Ty3_:=
 bif (decide (b2<(b0.length:Int)))then
 (match z7s N N b0 b1 b2 (0:Int)with
 | some r3=>(match r3 with
 | .inl r4=>(some (.inl (r4.1,())))
 | .inr r5=>(rec r5.1.1 r5.1.2.1 (IntKind.wrap .i64 (r5.1.2.2+(1:Int)))))
 | none=>none)
 else
 (some (.inr ((),())))
def z7t(N:Nat)(n:Nat):=
 itF (fun _ _ _=>none) (z20 N) n
theorem ze7(N:Nat)(n:Nat):z7t N (n+1)=z20 N (z7t N n):=rfl
def z87(N:Nat)(a0:(List Z0))(a1:(List Z0)):Option (Bool):=
 match z7t N N a0 a1 (0:Int)with
 | some r6=>(match r6 with
 | .inl r7=>(some r7.1)
 | .inr r8=>(some false))
 | none=>none
def zgq(N:Nat)(a0:Z1)(a1:Z0):Option ((List Z1)):=
 (K6 N a0).bind fun r1=>
 (z87 N r1 ([a1]:List Z0)).bind fun r2=>
 bif (!r2)then
 (some ([]:List Z1))
 else
 (bif (eqi a0.1 (3:Int))then
 ((z2g N a0.2.2.2.1 a1).bind fun r3=>
 let x4:=([(a0.1,(a0.2.1,(a0.2.2.1,(r3,a0.2.2.2.2))))]:List Z1)
 some x4)
 else
 (bif (eqi a0.1 (6:Int))then
 ((z2g N a0.2.2.2.1 a1).bind fun r5=>
 let x6:=([(a0.1,(a0.2.1,(a0.2.2.1,(r5,a0.2.2.2.2))))]:List Z1)
 some x6)
 else
 (some ([a0]:List Z1))))
def z0t(N:Nat)(rec:(List Z0)->Bool->Int->Z0->(List Z0)->Option (((Unit×(Unit×Bool))×yh9)))(b0:(List Z0))(b1:Bool)(b2:Int)(b3:Z0)(b4:(List Z0)):Option (((Unit×(Unit×Bool))×yh9)):=
 bif (decide (b2<(b0.length:Int)))then
 (bif (!b1)then
 (gd (inB b2 (b0.length))
 (bif (lts b3.1 ((rdL b0 b2 Y7).1))then
 (gd (fits (b4.length+1) 32)
 (let x2:=(b4++([b3]:List Z0))
 gd (inB b2 (b0.length))
 (gd (fits (x2.length+1) 32)
 (let x3:=(x2++([(rdL b0 b2 Y7)]:List Z0))
 rec b0 true (IntKind.wrap .i64 (b2+(1:Int))) b3 x3))))
 else
 (gd (inB b2 (b0.length))
 (gd (fits (b4.length+1) 32)
 (let x4:=(b4++([(rdL b0 b2 Y7)]:List Z0))
 rec b0 b1 (IntKind.wrap .i64 (b2+(1:Int))) b3 x4)))))
 else
 (gd (inB b2 (b0.length))
 (gd (fits (b4.length+1) 32)
 (let x5:=(b4++([(rdL b0 b2 Y7)]:List Z0))
 rec b0 b1 (IntKind.wrap .i64 (b2+(1:Int))) b3 x5))))
 else
 (some (((),((),b1)),(b3,(b4,()))))
def z6k(N:Nat)(n:Nat):=
 itF (fun _ _ _ _ _=>none) (z0t N) n
theorem zcm(N:Nat)(n:Nat):z6k N (n+1)=z0t N (z6k N n):=rfl
def zf2(N:Nat)(a0:(List Z0))(a1:Z0):Option ((List Z0)):=
 match z06 N a1 with
 | some r1=>(match z6k N N a0 r1 (0:Int) a1 ([]:List Z0)with
 | some r6=>(bif (!r6.1.2.2)then
 (gd (fits (r6.2.2.1.length+1) 32)
 (let x7:=(r6.2.2.1++([r6.2.1]:List Z0))
 some x7))
 else
 (some r6.2.2.1))
 | none=>none)
 | none=>none
def z2q(N:Nat)(b0 b1:Int)(b2:Bool)(b3:(List Z0))(b4:(List Z0)):Option (((Unit×(Unit×Int))×ykq)):=
 bif b2 then
 (gd (inB b0 (b3.length))
 (gd (fits (b4.length+1) 32)
 (let x4:=(b4++([(rdL b3 b0 Y7)]:List Z0))
 some (((),((),b0)),(b3,(x4,()))))))
 else
 (gd (inB b1 (b4.length))
 (gd (inB b0 (b3.length))
 (match zco N ((rdL b4 b1 Y7).2) ((rdL b3 b0 Y7).2)with
 | some r5=>(bif r5 then
 (gd (inB b0 (b3.length))
 (gd (inB b1 (b4.length))
 (let x6:=(setL b4 b1 ((rdL b4 b1 Y7).1,(rdL b3 b0 Y7).2))
 some (((),((),b0)),(b3,(x6,()))))))
 else
 (some (((),((),b0)),(b3,(b4,())))))
 | none=>none)))
def z3e(N:Nat)(rec:Int->(List Z0)->(List Z0)->Option y80)(b0:Int)(b1:(List Z0))(b2:(List Z0)):Option y80:=
 bif (decide (b0<(b1.length:Int)))then
 (let x3:=(IntKind.wrap .i64 ((b2.length:Int)-(1:Int)))
 bif (decide (x3<(0:Int)))then
 (match z2q N b0 x3 true b1 b2 with
 | some r7=>(rec (IntKind.wrap .i64 (r7.1.2.2+(1:Int))) r7.2.1 r7.2.2.1)
 | none=>none)
 else
 (gd (inB x3 (b2.length))
 (let x8:=(!(eqs ((rdL b2 x3 Y7).2) ([]:List UInt8)))
 bif x8 then
 (gd (inB x3 (b2.length))
 (gd (inB b0 (b1.length))
 (let x9:=(lts ((rdL b2 x3 Y7).2) ((rdL b1 b0 Y7).1))
 match z2q N b0 x3 x9 b1 b2 with
 | some r10=>(rec (IntKind.wrap .i64 (r10.1.2.2+(1:Int))) r10.2.1 r10.2.2.1)
 | none=>none)))
 else
 (match z2q N b0 x3 false b1 b2 with
 | some r11=>(rec (IntKind.wrap .i64 (r11.1.2.2+(1:Int))) r11.2.1 r11.2.2.1)
 | none=>none))))
 else
 (some ((),(b2,())))
def z6w(N:Nat)(n:Nat):=
 itF (fun _ _ _=>none) (z3e N) n
theorem zfv(N:Nat)(n:Nat):z6w N (n+1)=z3e N (z6w N n):=rfl
def z8(N:Nat)(rec:(List Z0)->Int->(List Z0)->(List Z0)->Option (((Unit×Unit)×ykq)))(b0:(List Z0))(b1:Int)(b2:(List Z0))(b3:(List Z0)):Option (((Unit×Unit)×ykq)):=
 bif (decide (b1<(b0.length:Int)))then
 (gd (inB b1 (b0.length))
 (match zf2 N b2 (rdL b0 b1 Y7)with
 | some r1=>(rec b0 (IntKind.wrap .i64 (b1+(1:Int))) r1 b3)
 | none=>none))
 else
 (some (((),()),(b2,(b3,()))))
def z6x(N:Nat)(n:Nat):=
 itF (fun _ _ _ _=>none) (z8 N) n
theorem z5n(N:Nat)(n:Nat):z6x N (n+1)=z8 N (z6x N n):=rfl
def z0u(N:Nat)(a0:(List Z0)):Option ((List Z0)):=
 match z6x N N a0 (0:Int) ([]:List Z0) ([]:List Z0)with
 | some r2=>(match z6w N N (0:Int) r2.2.1 r2.2.2.1 with
 | some r12=>(some r12.2.1)
 | none=>none)
 | none=>none
def z27(N:Nat)(rec:(List Z0)->Int->Int->(List Z0)->(List Z0)->Option ((((List Z0)×(Int×Unit))×((List Z0)×Unit))))(b0:(List Z0))(b1 b2:Int)(b3:(List Z0))(b4:(List Z0)):Option ((((List Z0)×(Int×Unit))×((List Z0)×Unit))):=
 bif (decide (b2<(b3.length:Int)))then
 (gd (inB b1 (b0.length))
 (let x3:=(!(eqs ((rdL b0 b1 Y7).1) ([]:List UInt8)))
 bif x3 then
 (gd (inB b2 (b3.length))
 (gd (inB b1 (b0.length))
 (match z2g N (rdL b3 b2 Y7) (([]:List UInt8),(rdL b0 b1 Y7).1)with
 | some r4=>(gd (fits (b4.length+1) 32)
 (let x5:=(b4++([r4]:List Z0))
 gd (inB b1 (b0.length))
 (let x6:=(!(eqs ((rdL b0 b1 Y7).2) ([]:List UInt8)))
 bif x6 then
 (gd (inB b2 (b3.length))
 (gd (inB b1 (b0.length))
 (match z2g N (rdL b3 b2 Y7) ((rdL b0 b1 Y7).2,([]:List UInt8))with
 | some r7=>(gd (fits (x5.length+1) 32)
 (let x8:=(x5++([r7]:List Z0))
 rec b0 b1 (IntKind.wrap .i64 (b2+(1:Int))) b3 x8))
 | none=>none)))
 else
 (rec b0 b1 (IntKind.wrap .i64 (b2+(1:Int))) b3 x5))))
 | none=>none)))
 else
 (gd (inB b1 (b0.length))
 (let x9:=(!(eqs ((rdL b0 b1 Y7).2) ([]:List UInt8)))
 bif x9 then
 (gd (inB b2 (b3.length))
 (gd (inB b1 (b0.length))
 (match z2g N (rdL b3 b2 Y7) ((rdL b0 b1 Y7).2,([]:List UInt8))with
 | some r10=>(gd (fits (b4.length+1) 32)
 (let x11:=(b4++([r10]:List Z0))
 rec b0 b1 (IntKind.wrap .i64 (b2+(1:Int))) b3 x11))
 | none=>none)))
 else
 (rec b0 b1 (IntKind.wrap .i64 (b2+(1:Int))) b3 b4)))))
 else
 (some ((b0,(b1,())),(b4,())))
def z5f(N:Nat)(n:Nat):=
 itF (fun _ _ _ _ _=>none) (z27 N) n
theorem zec(N:Nat)(n:Nat):z5f N (n+1)=z27 N (z5f N n):=rfl
def Q8(N:Nat)(rec:(List Z0)->Int->(List Z0)->Option y80)(b0:(List Z0))(b1:Int)(b2:(List Z0)):Option y80:=
 bif (decide (b1<(b0.length:Int)))then
 (gd (inB b1 (b0.length))
 (match z06 N (rdL b0 b1 Y7)with
 | some r2=>(bif r2 then
 (rec b0 (IntKind.wrap .i64 (b1+(1:Int))) b2)
 else
 (match z5f N N b0 b1 (0:Int) b2 ([]:List Z0)with
 | some r12=>(match z0u N r12.2.1 with
 | some r13=>(rec r12.1.1 (IntKind.wrap .i64 (r12.1.2.1+(1:Int))) r13)
 | none=>none)
 | none=>none))
 | none=>none))
 else
 (some ((),(b2,())))
def z5g(N:Nat)(n:Nat):=
 itF (fun _ _ _=>none) (Q8 N) n
theorem v7(N:Nat)(n:Nat):z5g N (n+1)=Q8 N (z5g N n):=rfl
def Q7(N:Nat)(a0:(List Z0))(a1:(List Z0)):Option ((List Z0)):=
 match z0u N a0 with
 | some r1=>(match z5g N N a1 (0:Int) r1 with
 | some r14=>(some r14.2.1)
 | none=>none)
 | none=>none
def z0o(N:Nat)(rec:Int->(List Z1)->(List Z1)->(List Z0)->Z1->(List Z0)->Option yna)(b0:Int)(b1:(List Z1))(b2:(List Z1))(b3:(List Z0))(b4:Z1)(b5:(List Z0)):Option yna:=
 bif (decide (b0<(b5.length:Int)))then
 (gd (inB b0 (b5.length))
 (let x23:=([(b4.1,(b4.2.1,(b4.2.2.1,((rdL b5 b0 Y7),b4.2.2.2.2))))]:List Z1)
 gd (fits (b2.length+x23.length) 112)
 (let x24:=(b2++x23)
 rec (IntKind.wrap .i64 (b0+(1:Int))) b1 x24 b3 (b4.1,(b4.2.1,(b4.2.2.1,((rdL b5 b0 Y7),b4.2.2.2.2)))) b5)))
 else
 (some (((),()),(((),((),())),(b1,(b2,(b3,((),())))))))
def z42(N:Nat)(n:Nat):=
 itF (fun _ _ _ _ _ _=>none) (z0o N) n
theorem zci(N:Nat)(n:Nat):z42 N (n+1)=z0o N (z42 N n):=rfl
def z2m(N:Nat)(a0:Z1)(a1:Z0)(a2:(List Z1))(a3:(List Z1))(a4:(List Z0)):Option (ykt):=
 (zac N a0).bind fun r1=>
 bif r1 then
 ((z5v N a0).bind fun r2=>
 gd (fits (0+r2.length) 32)
 (let x3:=(([]:List Z0)++r2)
 (K6 N a0).bind fun r4=>
 gd (fits (x3.length+r4.length) 32)
 (let x5:=(x3++r4)
 (zkv N a0 a1).bind fun r6=>
 bif r6 then
 ((z87 N x5 a4).bind fun r7=>
 bif (!r7)then
 (gd (fits (a2.length+1) 112)
 (let x8:=(a2++([a0]:List Z1))
 some (((),((),())),(x8,(a3,(a4,()))))))
 else
 (gd (fits (a3.length+1) 112)
 (let x9:=(a3++([a0]:List Z1))
 gd (fits (a4.length+x5.length) 32)
 (let x10:=(a4++x5)
 some (((),((),())),(a2,(x9,(x10,()))))))))
 else
 (gd (fits (a3.length+1) 112)
 (let x11:=(a3++([a0]:List Z1))
 gd (fits (a4.length+x5.length) 32)
 (let x12:=(a4++x5)
 some (((),((),())),(a2,(x11,(x12,()))))))))))
 else
 ((zgq N a0 a1).bind fun r13=>
 bif (eqi (r13.length:Int) (0:Int))then
 (gd (fits (a3.length+1) 112)
 (let x14:=(a3++([a0]:List Z1))
 some (((),((),())),(a2,(x14,(a4,()))))))
 else
 (gd (inB (0:Int) (r13.length))
 ((K6 N (rdL r13 (0:Int) U7)).bind fun r15=>
 (z87 N r15 a4).bind fun r16=>
 bif r16 then
 (gd (fits (a3.length+1) 112)
 (let x17:=(a3++([a0]:List Z1))
 gd (inB (0:Int) (r13.length))
 ((K6 N (rdL r13 (0:Int) U7)).bind fun r18=>
 gd (fits (a4.length+r18.length) 32)
 (let x19:=(a4++r18)
 some (((),((),())),(a2,(x17,(x19,()))))))))
 else
 (gd (inB (0:Int) (r13.length))
 (let x20:=([(rdL r13 (0:Int) U7)]:List Z1)
 gd (fits (a2.length+x20.length) 112)
 (let x21:=(a2++x20)
 bif (eqi a0.1 (3:Int))then
 ((Q7 N ([a0.2.2.2.1]:List Z0) ([a1]:List Z0)).bind fun r22=>
 (z42 N N (0:Int) x21 a3 a4 a0 r22).bind fun r25=>
 some (((),((),())),(r25.2.2.1,(r25.2.2.2.1,(r25.2.2.2.2.1,())))))
 else
 (bif (eqi a0.1 (6:Int))then
 ((Q7 N ([a0.2.2.2.1]:List Z0) ([a1]:List Z0)).bind fun r26=>
 (z42 N N (0:Int) x21 a3 a4 a0 r26).bind fun r27=>
 some (((),((),())),(r27.2.2.1,(r27.2.2.2.1,(r27.2.2.2.2.1,())))))
 else
 (some (((),((),())),(x21,(a3,(a4,()))))))))))))
def z1w(N:Nat)(rec:(List Z1)->Int->(List Z1)->(List Z1)->(List Z0)->Z0->Option (((Unit×Unit)×(Unit×ykt))))(b0:(List Z1))(b1:Int)(b2:(List Z1))(b3:(List Z1))(b4:(List Z0))(b5:Z0):Option (((Unit×Unit)×(Unit×ykt))):=
 bif (decide (b1<(b0.length:Int)))then
 (gd (inB b1 (b0.length))
 ((z2m N (rdL b0 b1 U7) b5 b2 b3 b4).bind fun r2=>
 rec b0 (IntKind.wrap .i64 (b1+(1:Int))) r2.2.1 r2.2.2.1 r2.2.2.2.1 b5))
 else
 (some (((),()),((),(((),((),())),(b2,(b3,(b4,())))))))
def z7o(N:Nat)(n:Nat):=
 itF (fun _ _ _ _ _ _=>none) (z1w N) n
theorem ze3(N:Nat)(n:Nat):z7o N (n+1)=z1w N (z7o N n):=rfl
def z5u(N:Nat)(a0:(List Z1))(a1:(List (List UInt8)))(a2:Int):Option (zid):=
 (zmw N a1).bind fun r1=>
 gd (inB a2 (r1.length))
 ((z7o N N a0 (0:Int) ([]:List Z1) ([]:List Z1) ([]:List Z0) (rdL r1 a2 Y7)).bind fun r3=>
 some (r3.2.2.2.1,(r3.2.2.2.2.1,r3.2.2.2.2.2.1)))
def z32(N:Nat)(rec:Int->Int->Int->Z5->Option (((Int×Int)×Unit)))(b0 b1 b2:Int)(b3:Z5):Option (((Int×Int)×Unit)):=
 bif (decide (b2<(b3.2.2.1.length:Int)))then
 ((z5u N b3.2.2.2.2 b3.2.1 b2).bind fun r1=>
 bif (decide (b1<(r1.1.length:Int)))then
 (rec b2 (r1.1.length:Int) (IntKind.wrap .i64 (b2+(1:Int))) b3)
 else
 (rec b0 b1 (IntKind.wrap .i64 (b2+(1:Int))) b3))
 else
 (some ((b0,b1),()))
def z6t(N:Nat)(n:Nat):=
 itF (fun _ _ _ _=>none) (z32 N) n
theorem zfj(N:Nat)(n:Nat):z6t N (n+1)=z32 N (z6t N n):=rfl
def zkm(N:Nat)(a0:Z5):Option ((Int×Int)):=
 (z6t N N (0:Int) (0:Int) (0:Int) a0).bind fun r2=>
 some (r2.1.1,r2.1.2)
def z9c(N:Nat)(a0:Z5)(a1:Int):Option (Z5):=
 let x1:=(bif decide ((IntKind.wrap .i64 (a1-(1:Int)))<(0:Int))then(0:Int)else(IntKind.wrap .i64 (a1-(1:Int))))
 gd (decide (0<=(0:Int))&&(decide ((0:Int)<=a1)&&decide (a1<=(a0.2.2.1.length:Int))))
 (gd (fits (0+List.length (cut2 a0.2.2.1 (0:Int) a1)) 8)
 (let x2:=(([]:List Int)++(cut2 a0.2.2.1 (0:Int) a1))
 gd (decide (0<=(IntKind.wrap .i64 (a1+(1:Int))))&&(decide ((IntKind.wrap .i64 (a1+(1:Int)))<=(a0.2.2.1.length:Int))&&decide ((a0.2.2.1.length:Int)<=(a0.2.2.1.length:Int))))
 (let x3:=(cut2 a0.2.2.1 (IntKind.wrap .i64 (a1+(1:Int))) (a0.2.2.1.length:Int))
 gd (fits (x2.length+x3.length) 8)
 (let x4:=(x2++x3)
 gd (decide (0<=(0:Int))&&(decide ((0:Int)<=a1)&&decide (a1<=(a0.2.2.2.1.length:Int))))
 (gd (fits (0+List.length (cut2 a0.2.2.2.1 (0:Int) a1)) 32)
 (let x5:=(([]:List Y6)++(cut2 a0.2.2.2.1 (0:Int) a1))
 gd (decide (0<=(IntKind.wrap .i64 (a1+(1:Int))))&&(decide ((IntKind.wrap .i64 (a1+(1:Int)))<=(a0.2.2.2.1.length:Int))&&decide ((a0.2.2.2.1.length:Int)<=(a0.2.2.2.1.length:Int))))
 (let x6:=(cut2 a0.2.2.2.1 (IntKind.wrap .i64 (a1+(1:Int))) (a0.2.2.2.1.length:Int))
 gd (fits (x5.length+x6.length) 32)
 (let x7:=(x5++x6)
 gd (decide (0<=(0:Int))&&(decide ((0:Int)<=x1)&&decide (x1<=(a0.2.1.length:Int))))
 (gd (fits (0+List.length (cut2 a0.2.1 (0:Int) x1)) 16)
 (let x8:=(([]:List (List UInt8))++(cut2 a0.2.1 (0:Int) x1))
 gd (decide (0<=(IntKind.wrap .i64 (x1+(1:Int))))&&(decide ((IntKind.wrap .i64 (x1+(1:Int)))<=(a0.2.1.length:Int))&&decide ((a0.2.1.length:Int)<=(a0.2.1.length:Int))))
 (let x9:=(cut2 a0.2.1 (IntKind.wrap .i64 (x1+(1:Int))) (a0.2.1.length:Int))
 gd (fits (x8.length+x9.length) 16)
 (let x10:=(x8++x9)
 some (([]:List Z3),(x10,(x4,(x7,a0.2.2.2.2))))))))))))))))
def za5(N:Nat)(a0 a1:Y5)(a2 a3:Int):Option (z6p):=
 bif (!(eqi a2 (0:Int)))then
 (some (a0,((0:Int),a2)))
 else
 (some (a1,(a3,(0:Int))))
def z4k(N:Nat)(rec:(List Z3)->(List Z1)->Int->Option (((List Z3)×Unit)))(b0:(List Z3))(b1:(List Z1))(b2:Int):Option (((List Z3)×Unit)):=
 bif (decide (b2<(b1.length:Int)))then
 (gd (inB b2 (b1.length))
 (match z2u N b0 (rdL b1 b2 U7)with
 | some r1=>(rec r1 b1 (IntKind.wrap .i64 (b2+(1:Int))))
 | none=>none))
 else
 (some (b0,()))
def zb8(N:Nat)(n:Nat):=
 itF (fun _ _ _=>none) (z4k N) n
theorem zhk(N:Nat)(n:Nat):zb8 N (n+1)=z4k N (zb8 N n):=rfl
def zji(N:Nat)(a0:(List Z3))(a1:(List Z1)):Option ((List Z3)):=
 match zb8 N N a0 a1 (0:Int)with
 | some r2=>(some r2.1)
 | none=>none
def z11(N:Nat)(b0:(List Int))(b1:Int)(b2:Y5)(b3:Z5)(b4:zid)(b5:(List Z5))(b6:(List (List UInt8)))(b7:(List Z1)):Option ((Unit×(z6p×Unit))):=
 (zcz N b2.1 b5).bind fun r14=>
 bif (!(eqi r14.2.2 (0:Int)))then
 (some ((),((b2,((0:Int),r14.2.2)),())))
 else
 ((z84 N b3 b1 (b5,(b6,b7)) r14.2.1).bind fun r15=>
 (zam N (r14.1,b2.2) b0 (([r15]:List Z5),(([]:List (List UInt8)),([]:List Z1)))).bind fun r16=>
 (zg8 N r16.1.1 r14.2.1).bind fun r17=>
 (za5 N b2 (r17,r16.1.2) r16.2 (b4.1.length:Int)).bind fun r18=>
 some ((),(r18,())))
def zg2(N:Nat)(b0:(List Int))(b1:Int)(b2:Y5)(b3:Z5):Option ((Unit×(z6p×Unit))):=
 gd (inB b1 (b3.2.2.1.length))
 ((z90 N b2.1 (rdL b3.2.2.1 b1 (0:Int))).bind fun r3=>
 bif (!(eqi r3.2 (0:Int)))then
 (some ((),((b2,((0:Int),r3.2)),())))
 else
 ((z5u N b3.2.2.2.2 b3.2.1 b1).bind fun r4=>
 bif (eqi (r4.1.length:Int) (0:Int))then
 (some ((),((b2,((0:Int),(0:Int))),())))
 else
 (let x5:=(decide ((0:Int)<(r3.1.2.2.1.length:Int)))
 bif x5 then
 (gd (fits (0+r3.1.2.2.2.2.length) 112)
 (let x6:=(([]:List Z1)++r3.1.2.2.2.2)
 gd (fits (x6.length+r4.1.length) 112)
 (let x7:=(x6++r4.1)
 let x8:=([(r3.1.1,(r3.1.2.1,(r3.1.2.2.1,(r3.1.2.2.2.1,x7))))]:List Z5)
 let x9:=(IntKind.wrap .i64 ((r3.1.2.2.1.length:Int)+(r3.1.1.length:Int)))
 bif (eqi x9 (0:Int))then
 (let x10:=(decide ((1:Int)<(b3.2.2.1.length:Int)))
 bif x10 then
 ((z9c N (b3.1,(b3.2.1,(b3.2.2.1,(b3.2.2.2.1,r4.2.1)))) b1).bind fun r11=>
 (zam N b2 b0 (([r11]:List Z5),(([]:List (List UInt8)),([]:List Z1)))).bind fun r12=>
 (za5 N b2 r12.1 r12.2 (r4.1.length:Int)).bind fun r13=>
 some ((),(r13,())))
 else
 ((z11 N b0 b1 b2 (b3.1,(b3.2.1,(b3.2.2.1,(b3.2.2.2.1,r4.2.1)))) r4 x8 ([]:List (List UInt8)) ([]:List Z1)).bind fun r19=>
 some ((),(r19.2.1,()))))
 else
 ((z11 N b0 b1 b2 (b3.1,(b3.2.1,(b3.2.2.1,(b3.2.2.2.1,r4.2.1)))) r4 x8 ([]:List (List UInt8)) ([]:List Z1)).bind fun r20=>
 some ((),(r20.2.1,()))))))
 else
 ((zji N r3.1.1 r4.1).bind fun r21=>
 (zc9 N (r21,r3.1.2) b2.2.2).bind fun r22=>
 let x23:=(IntKind.wrap .i64 ((r3.1.2.2.1.length:Int)+(r21.length:Int)))
 bif (eqi x23 (0:Int))then
 (let x24:=(decide ((1:Int)<(b3.2.2.1.length:Int)))
 bif x24 then
 ((z9c N (b3.1,(b3.2.1,(b3.2.2.1,(b3.2.2.2.1,r4.2.1)))) b1).bind fun r25=>
 (zam N b2 b0 (([r25]:List Z5),(([]:List (List UInt8)),([]:List Z1)))).bind fun r26=>
 (za5 N b2 r26.1 r26.2 (r4.1.length:Int)).bind fun r27=>
 some ((),(r27,())))
 else
 ((z11 N b0 b1 b2 (b3.1,(b3.2.1,(b3.2.2.1,(b3.2.2.2.1,r4.2.1)))) r4 r22.1 r22.2.1 ([]:List Z1)).bind fun r28=>
 some ((),(r28.2.1,()))))
 else
 ((z11 N b0 b1 b2 (b3.1,(b3.2.1,(b3.2.2.1,(b3.2.2.2.1,r4.2.1)))) r4 r22.1 r22.2.1 ([]:List Z1)).bind fun r29=>
 some ((),(r29.2.1,())))))))
def zhq(N:Nat)(a0:Y5)(a1:(List Int))(a2:Int):Option (z6p):=
 (z8b N a0 a1).bind fun r1=>
 bif (!(eqi r1.2.2 (0:Int)))then
 (some (a0,((0:Int),r1.2.2)))
 else
 (bif (decide (a2<(0:Int)))then
 (some (a0,((0:Int),(140:Int))))
 else
 (let x2:=(decide ((r1.1.2.2.1.length:Int)<=a2))
 bif x2 then
 (some (a0,((0:Int),(140:Int))))
 else
 ((zg2 N a1 a2 a0 r1.1).bind fun r30=>
 some r30.2.1)))
def znw(N:Nat)(a0:Z0)(a1:(List UInt8)):Option (Bool):=
 bif (!(lts a1 a0.1))then
 (bif (eqs a0.2 ([]:List UInt8))then
 (some true)
 else
 (some (lts a1 a0.2)))
 else
 (some false)
def z0j(N:Nat)(rec:(List Z3)->(List Z0)->Int->Bool->Int->(List Z3)->Option yn5)(b0:(List Z3))(b1:(List Z0))(b2:Int)(b3:Bool)(b4:Int)(b5:(List Z3)):Option yn5:=
 bif (decide (b4<(b1.length:Int)))then
 (bif b3 then
 (rec b0 b1 b2 true (IntKind.wrap .i64 (b4+(1:Int))) b5)
 else
 (gd (inB b4 (b1.length))
 (gd (inB b2 (b0.length))
 ((znw N (rdL b1 b4 Y7) ((rdL b0 b2 X4).1)).bind fun r1=>
 rec b0 b1 b2 r1 (IntKind.wrap .i64 (b4+(1:Int))) b5))))
 else
 (some ((b0,(b1,((),(b2,b3)))),(b5,())))
def z6e(N:Nat)(n:Nat):=
 itF (fun _ _ _ _ _ _=>none) (z0j N) n
theorem zca(N:Nat)(n:Nat):z6e N (n+1)=z0j N (z6e N n):=rfl
def z0k(N:Nat)(rec:(List Z3)->(List Z0)->Int->(List Z3)->Option (Ty7_))(b0:(List Z3))(b1:(List Z0))(b2:Int)(b3:(List Z3)):Option (Ty7_):=
 bif (decide (b2<(b0.length:Int)))then
 ((z6e N N b0 b1 b2 false (0:Int) b3).bind fun r2=>
 bif r2.1.2.2.2.2 then
 (gd (inB r2.1.2.2.2.1 (r2.1.1.length))
 (let x3:=([(rdL r2.1.1 r2.1.2.2.2.1 X4)]:List Z3)
 gd (fits (r2.2.1.length+x3.length) 40)
 (let x4:=(r2.2.1++x3)
 let x5:=(IntKind.wrap .i64 (r2.1.2.2.2.1+(1:Int)))
 rec r2.1.1 r2.1.2.1 x5 x4)))
 else
 (let x6:=(IntKind.wrap .i64 (r2.1.2.2.2.1+(1:Int)))
 rec r2.1.1 r2.1.2.1 x6 r2.2.1))
 else
 (some ((),(b3,())))
def z6f(N:Nat)(n:Nat):=
 itF (fun _ _ _ _=>none) (z0k N) n
theorem zcb(N:Nat)(n:Nat):z6f N (n+1)=z0k N (z6f N n):=rfl
def zb4(N:Nat)(a0:(List Z3))(a1:(List Z0)):Option ((List Z3)):=
 (z6f N N a0 a1 (0:Int) ([]:List Z3)).bind fun r7=>
 some r7.2.1
def zhu(N:Nat)(a0:Z0)(a1 a2:(List UInt8)):Option (Z0):=
 (U0 N a2).bind fun r1=>
 gd (decide (0<=(a1.length:Int))&&(decide ((a1.length:Int)<=(a0.1.length:Int))&&decide ((a0.1.length:Int)<=(a0.1.length:Int))))
 (let x2:=(cut2 a0.1 (a1.length:Int) (a0.1.length:Int))
 gd (decide (a2.length+x2.length<maxS))
 (let x3:=(a2++x2)
 (k9 N a0.2 a1).bind fun r4=>
 bif r4 then
 (bif (!(eqs a0.2 ([]:List UInt8)))then
 (gd (decide (0<=(a1.length:Int))&&(decide ((a1.length:Int)<=(a0.2.length:Int))&&decide ((a0.2.length:Int)<=(a0.2.length:Int))))
 (let x5:=(cut2 a0.2 (a1.length:Int) (a0.2.length:Int))
 gd (decide (a2.length+x5.length<maxS))
 (let x6:=(a2++x5)
 some (x3,x6))))
 else
 (some (x3,r1.2)))
 else
 (some (x3,r1.2))))
def z04(N:Nat)(rec:(List Z0)->Int->Z1->Z0->(List Z0)->Option y80)(b0:(List Z0))(b1:Int)(b2:Z1)(b3:Z0)(b4:(List Z0)):Option y80:=
 bif (decide (b1<(b0.length:Int)))then
 (gd (inB b1 (b0.length))
 ((z2g N (rdL b0 b1 Y7) b3).bind fun r10=>
 (z06 N r10).bind fun r11=>
 bif (!r11)then
 ((zhu N r10 b2.2.2.2.2.2.1 b2.2.2.2.2.1).bind fun r12=>
 gd (fits (b4.length+1) 32)
 (let x13:=(b4++([r12]:List Z0))
 rec b0 (IntKind.wrap .i64 (b1+(1:Int))) b2 b3 x13))
 else
 (rec b0 (IntKind.wrap .i64 (b1+(1:Int))) b2 b3 b4)))
 else
 (some ((),(b4,())))
def z0a(N:Nat)(n:Nat):=
 itF (fun _ _ _ _ _=>none) (z04 N) n
theorem zbh(N:Nat)(n:Nat):z0a N (n+1)=z04 N (z0a N n):=rfl
def z2p(N:Nat)(a0:(List Z0))(a1:Z1):Option ((List Z0)):=
 bif (eqi a1.1 (1:Int))then
 ((z91 N a1.2.1).bind fun r1=>
 (Q7 N a0 ([r1]:List Z0)).bind fun r2=>
 some r2)
 else
 (bif (eqi a1.1 (2:Int))then
 ((z91 N a1.2.1).bind fun r3=>
 (Q7 N a0 ([r3]:List Z0)).bind fun r4=>
 some r4)
 else
 (bif (eqi a1.1 (3:Int))then
 ((Q7 N a0 ([a1.2.2.2.1]:List Z0)).bind fun r5=>
 some r5)
 else
 (bif (eqi a1.1 (6:Int))then
 (some a0)
 else
 ((U0 N a1.2.2.2.2.2.1).bind fun r6=>
 bif (eqi a1.1 (4:Int))then
 ((U0 N a1.2.2.2.2.1).bind fun r7=>
 gd (fits (1+1) 32)
 (let x8:=(([r6]:List Z0)++([r7]:List Z0))
 (Q7 N a0 x8).bind fun r9=>
 (z0a N N a0 (0:Int) a1 r6 r9).bind fun r14=>
 (z0u N r14.2.1).bind fun r15=>
 some r15))
 else
 ((Q7 N a0 ([r6]:List Z0)).bind fun r16=>
 (z0a N N a0 (0:Int) a1 r6 r16).bind fun r17=>
 (z0u N r17.2.1).bind fun r18=>
 some r18)))))
def z1x(N:Nat)(rec:(List Z1)->(List Z0)->Int->Option (((List Z0)×Unit)))(b0:(List Z1))(b1:(List Z0))(b2:Int):Option (((List Z0)×Unit)):=
 bif (decide ((0:Int)<=b2))then
 (gd (inB b2 (b0.length))
 ((z2p N b1 (rdL b0 b2 U7)).bind fun r3=>
 rec b0 r3 (IntKind.wrap .i64 (b2-(1:Int)))))
 else
 (some (b1,()))
def z7p(N:Nat)(n:Nat):=
 itF (fun _ _ _=>none) (z1x N) n
theorem ze4(N:Nat)(n:Nat):z7p N (n+1)=z1x N (z7p N n):=rfl
def zht(N:Nat)(a0:Z0)(a1:(List Z1)):Option ((List Z0)):=
 (z0u N ([a0]:List Z0)).bind fun r1=>
 let x2:=(IntKind.wrap .i64 ((a1.length:Int)-(1:Int)))
 (z7p N N a1 r1 x2).bind fun r4=>
 some r4.1
def z36(N:Nat)(self:(List Z6)->Int->Z0->(List Z0)->Option (((List Z3)×Int)))(rec:(List Z0)->(List Z0)->(List Z0)->Int->(List Z6)->Z5->(List Z3)->Option yn9)(b0:(List Z0))(b1:(List Z0))(b2:(List Z0))(b3:Int)(b4:(List Z6))(b5:Z5)(b6:(List Z3)):Option yn9:=
 bif (decide (b3<(b5.2.2.1.length:Int)))then
 (gd (decide (0<=b3)&&(decide (b3<=(IntKind.wrap .i64 (b3+(1:Int))))&&decide ((IntKind.wrap .i64 (b3+(1:Int)))<=(b2.length:Int))))
 (let x8:=(cut2 b2 b3 (IntKind.wrap .i64 (b3+(1:Int))))
 (z87 N b1 x8).bind fun r9=>
 bif (!r9)then
 (rec b0 b1 b2 (IntKind.wrap .i64 (b3+(1:Int))) b4 b5 b6)
 else
 (gd (inB b3 (b5.2.2.1.length))
 (gd (inB b3 (b2.length))
 ((self b4 (rdL b5.2.2.1 b3 (0:Int)) (rdL b2 b3 Y7) b1).bind fun r10=>
 bif (!(eqi r10.2 (0:Int)))then
 (some (.inl ((([]:List Z3),r10.2),())))
 else
 (gd (fits (b6.length+r10.1.length) 40)
 (let x11:=(b6++r10.1)
 rec b0 b1 b2 (IntKind.wrap .i64 (b3+(1:Int))) b4 b5 x11)))))))
 else
 (some (.inr ((b0,((),())),(b5,(b6,())))))
def z6u(N:Nat)(self:(List Z6)->Int->Z0->(List Z0)->Option (((List Z3)×Int)))(n:Nat):=
 itF (fun _ _ _ _ _ _ _=>none) (z36 N self) n
theorem zfn(N:Nat)(self:(List Z6)->Int->Z0->(List Z0)->Option (((List Z3)×Int)))(n:Nat):z6u N self (n+1)=z36 N self (z6u N self n):=rfl
def z37(N:Nat)(self:(List Z6)->Int->Z0->(List Z0)->Option (((List Z3)×Int)))(rec:(List Z0)->Int->(List Z6)->Z0->Z5->(List Z0)->Option yn7)(b0:(List Z0))(b1:Int)(b2:(List Z6))(b3:Z0)(b4:Z5)(b5:(List Z0)):Option yn7:=
 bif (decide (b1<(b0.length:Int)))then
 (gd (inB b1 (b0.length))
 ((zht N (rdL b0 b1 Y7) b4.2.2.2.2).bind fun r4=>
 gd (fits (b5.length+r4.length) 32)
 (let x5:=(b5++r4)
 rec b0 (IntKind.wrap .i64 (b1+(1:Int))) b2 b3 b4 x5)))
 else
 (some ((b0,((),((),((),())))),(b2,(b3,(b4,(b5,()))))))
def z9g(N:Nat)(self:(List Z6)->Int->Z0->(List Z0)->Option (((List Z3)×Int)))(n:Nat):=
 itF (fun _ _ _ _ _ _=>none) (z37 N self) n
theorem zfo(N:Nat)(self:(List Z6)->Int->Z0->(List Z0)->Option (((List Z3)×Int)))(n:Nat):z9g N self (n+1)=z37 N self (z9g N self n):=rfl
def z41(N:Nat)(self:(List Z6)->Int->Z0->(List Z0)->Option (((List Z3)×Int)))(a0:(List Z6))(a1:Int)(a2:Z0)(a3:(List Z0)):Option (((List Z3)×Int)):=
 (z90 N a0 a1).bind fun r1=>
 bif (!(eqi r1.2 (0:Int)))then
 (some (([]:List Z3),r1.2))
 else
 (let x2:=(eqi (r1.1.2.2.1.length:Int) (0:Int))
 bif x2 then
 ((zb4 N r1.1.1 a3).bind fun r3=>
 some (r3,(0:Int)))
 else
 ((z9g N self N a3 (0:Int) a0 a2 r1.1 ([]:List Z0)).bind fun r6=>
 (z85 N r6.2.2.2.1 r6.2.2.1).bind fun r7=>
 (z6u N self N r6.1.1 r6.2.2.2.2.1 r7 (0:Int) r6.2.1 r6.2.2.2.1 ([]:List Z3)).bind fun r12=>
 match r12 with
 | .inl r13=>(some (r13.1.1,r13.1.2))
 | .inr r14=>((zji N r14.2.2.1 r14.2.1.2.2.2.2).bind fun r15=>
 (zb4 N r15 r14.1.1).bind fun r16=>
 some (r16,(0:Int)))))
def j9(N n:Nat):(List Z6)->Int->Z0->(List Z0)->Option (((List Z3)×Int)):=
 itF (fun _ _ _ _=>none) (z41 N) n
theorem zcc(N n:Nat):j9 N (n+1)=z41 N (j9 N n):=rfl
def y0r(N:Nat):(List Z6)->Int->Z0->(List Z0)->Option (((List Z3)×Int)):=
 j9 N N
def zkq(N:Nat)(a0:Y5)(a1:Z0):Option (((List Z3)×Int)):=
 (y0r N a0.1 a0.2.1 (([]:List UInt8),([]:List UInt8)) ([a1]:List Z0)).bind fun r1=>
 some (r1.1,r1.2)
def z5t(N:Nat)(a0:Z1):Option (Bool):=
 bif (eqi a0.1 (4:Int))then
 (some true)
 else
 (some (eqi a0.1 (5:Int)))
def z3b(N:Nat)(rec:(List Z3)->Int->Z1->(List Z1)->Option (((Unit×Unit)×(Z1×((List Z1)×Unit)))))(b0:(List Z3))(b1:Int)(b2:Z1)(b3:(List Z1)):Option (((Unit×Unit)×(Z1×((List Z1)×Unit)))):=
 bif (decide (b1<(b0.length:Int)))then
 (gd (inB b1 (b0.length))
 (gd (decide (0<=(b2.2.2.2.2.1.length:Int))&&(decide ((b2.2.2.2.2.1.length:Int)<=(List.length ((rdL b0 b1 X4).1):Int))&&decide ((List.length ((rdL b0 b1 X4).1):Int)<=(List.length ((rdL b0 b1 X4).1):Int))))
 (let x4:=(cut2 ((rdL b0 b1 X4).1) (b2.2.2.2.2.1.length:Int) (List.length ((rdL b0 b1 X4).1):Int))
 gd (decide (b2.2.2.2.2.2.1.length+x4.length<maxS))
 (let x5:=(b2.2.2.2.2.2.1++x4)
 let x6:=([((1:Int),(x5,(((rdL b0 b1 X4).2).1,((([]:List UInt8),([]:List UInt8)),(([]:List UInt8),(([]:List UInt8),((rdL b0 b1 X4).2).2))))))]:List Z1)
 gd (fits (b3.length+x6.length) 112)
 (let x7:=(b3++x6)
 rec b0 (IntKind.wrap .i64 (b1+(1:Int))) b2 x7)))))
 else
 (some (((),()),(b2,(b3,()))))
def z9k(N:Nat)(n:Nat):=
 itF (fun _ _ _ _=>none) (z3b N) n
theorem zfs(N:Nat)(n:Nat):z9k N (n+1)=z3b N (z9k N n):=rfl
def zku(N:Nat)(a0:Z1)(a1:(List Z3)):Option ((List Z1)):=
 (z5t N a0).bind fun r1=>
 bif (!r1)then
 (some ([a0]:List Z1))
 else
 ((U0 N a0.2.2.2.2.2.1).bind fun r2=>
 let x3:=([((3:Int),(([]:List UInt8),(([]:List UInt8),(r2,(([]:List UInt8),(([]:List UInt8),(0:Int)))))))]:List Z1)
 (z9k N N a1 (0:Int) a0 x3).bind fun r8=>
 bif (eqi r8.2.1.1 (4:Int))then
 ((U0 N r8.2.1.2.2.2.2.1).bind fun r9=>
 let x10:=([((3:Int),(([]:List UInt8),(([]:List UInt8),(r9,(([]:List UInt8),(([]:List UInt8),(0:Int)))))))]:List Z1)
 gd (fits (r8.2.2.1.length+x10.length) 112)
 (let x11:=(r8.2.2.1++x10)
 some x11))
 else
 (some r8.2.2.1))
def zkt(N:Nat)(a0:(List Z1))(a1:(List Z3)):Option (((List Z1)×Int)):=
 bif (eqi (a0.length:Int) (0:Int))then
 (some (([]:List Z1),(50:Int)))
 else
 (gd (inB (0:Int) (a0.length))
 ((z5t N (rdL a0 (0:Int) U7)).bind fun r1=>
 bif (!r1)then
 (some (([]:List Z1),(50:Int)))
 else
 (gd (inB (0:Int) (a0.length))
 ((zku N (rdL a0 (0:Int) U7) a1).bind fun r2=>
 gd (decide (0<=(1:Int))&&(decide ((1:Int)<=(a0.length:Int))&&decide ((a0.length:Int)<=(a0.length:Int))))
 (gd (fits (r2.length+List.length (cut2 a0 (1:Int) (a0.length:Int))) 112)
 (let x3:=(r2++(cut2 a0 (1:Int) (a0.length:Int)))
 some (x3,(0:Int))))))))
def z0h(N:Nat)(rec:Int->Y5->Z5->(List Z3)->Option yn3)(b0:Int)(b1:Y5)(b2:Z5)(b3:(List Z3)):Option yn3:=
 bif (decide (b0<(b2.2.2.1.length:Int)))then
 (gd (inB b0 (b2.2.2.1.length))
 (gd (inB (0:Int) (b2.2.2.2.2.length))
 (let x1:=(((((rdL b2.2.2.2.2 (0:Int) U7).2).2).2).2).1
 (U0 N x1).bind fun r2=>
 (zkq N (b1.1,((rdL b2.2.2.1 b0 (0:Int)),b1.2.2)) r2).bind fun r3=>
 bif (!(eqi r3.2 (0:Int)))then
 (some (.inl (((),r3.2),(b2,()))))
 else
 (gd (fits (b3.length+r3.1.length) 40)
 (let x4:=(b3++r3.1)
 rec (IntKind.wrap .i64 (b0+(1:Int))) b1 b2 x4)))))
 else
 (some (.inr (((),((),())),(b2,((),(b3,()))))))
def z1a(N:Nat)(n:Nat):=
 itF (fun _ _ _ _=>none) (z0h N) n
theorem zc6(N:Nat)(n:Nat):z1a N (n+1)=z0h N (z1a N n):=rfl
def z61(N:Nat)(a0:Y5)(a1:Z5):Option ((Z5×Int)):=
 (z1a N N (0:Int) a0 a1 ([]:List Z3)).bind fun r5=>
 match r5 with
 | .inl r6=>(some (r6.2.1,r6.1.2))
 | .inr r7=>((zkt N r7.2.1.2.2.2.2 r7.2.2.2.1).bind fun r8=>
 some ((r7.2.1.1,(r7.2.1.2.1,(r7.2.1.2.2.1,(r7.2.1.2.2.2.1,r8.1)))),r8.2))
def zkn(N:Nat)(a0:Y5)(a1:(List Int)):Option ((Y5×Int)):=
 (z8b N a0 a1).bind fun r1=>
 bif (!(eqi r1.2.2 (0:Int)))then
 (some (a0,r1.2.2))
 else
 (let x2:=(decide (a0.2.2.1<(r1.1.1.length:Int)))
 bif x2 then
 ((zc9 N r1.1 a0.2.2).bind fun r3=>
 (zg9 N a0 a1 (r3.1,(r3.2.1,([]:List Z1)))).bind fun r4=>
 some (r4.1,r4.2))
 else
 (let x5:=(decide (a0.2.2.2.1<(r1.1.2.2.1.length:Int)))
 bif x5 then
 ((zhr N r1.1 a0.2.2).bind fun r6=>
 (zg9 N a0 a1 r6).bind fun r7=>
 some (r7.1,r7.2))
 else
 (let x8:=(eqi (r1.1.2.2.2.2.length:Int) (0:Int))
 bif x8 then
 (some (a0,(0:Int)))
 else
 ((zkm N r1.1).bind fun r9=>
 bif (decide ((0:Int)<r9.2))then
 ((zhq N a0 a1 r9.1).bind fun r10=>
 some (r10.1,r10.2.2))
 else
 ((z61 N a0 r1.1).bind fun r11=>
 bif (!(eqi r11.2 (0:Int)))then
 (some (a0,r11.2))
 else
 ((zg9 N a0 a1 (([r11.1]:List Z5),(([]:List (List UInt8)),([]:List Z1)))).bind fun r12=>
 some (r12.1,r12.2)))))))
def z4w(N:Nat)(rec:Bool->Y5->z3q->Option ((Unit×(z3q×Unit))))(b0:Bool)(b1:Y5)(b2:z3q):Option ((Unit×(z3q×Unit))):=
 (zx6 N b2.1 ([]:List Int) b0).bind fun r1=>
 bif (!r1.2)then
 (some ((),(b2,())))
 else
 ((zkn N b2.1 r1.1).bind fun r2=>
 bif (!(eqi r2.2 (0:Int)))then
 (some ((),((b1,((0:Int),r2.2)),())))
 else
 (rec b0 b1 (r2.1,((IntKind.wrap .i64 (b2.2.1+(1:Int))),b2.2.2))))
def z7e(N:Nat)(n:Nat):=
 itF (fun _ _ _=>none) (z4w N) n
theorem znf(N:Nat)(n:Nat):z7e N (n+1)=z4w N (z7e N n):=rfl
def zmu(N:Nat)(a0:Y5)(a1:Bool):Option (z3q):=
 (z7e N N a1 a0 (a0,((0:Int),(0:Int)))).bind fun r3=>
 some r3.2.1
def zko(N:Nat)(a0:Y5):Option (z3q):=
 (zmu N a0 false).bind fun r1=>
 some r1
def zqp(N:Nat)(a0:Z4)(a1:Y5):Option (Z4):=
 some (a1.1,(a1.2.2,(a0.2.2.1,(a0.2.2.2.1,(a1.2.1,a0.2.2.2.2.2)))))
def zhw(N:Nat)(a0:Z1):Option ((List Z0)):=
 bif (eqi a0.1 (6:Int))then
 (some ([]:List Z0))
 else
 (match K6 N a0 with
 | some r1=>(some r1)
 | none=>none)
def z3d(N:Nat)(rec:(List Z1)->Int->(List Z1)->(List Z0)->Option (((Unit×(Unit×Unit))×(Unit×((List Z1)×((List Z0)×Unit))))))(b0:(List Z1))(b1:Int)(b2:(List Z1))(b3:(List Z0)):Option (((Unit×(Unit×Unit))×(Unit×((List Z1)×((List Z0)×Unit))))):=
 bif (decide ((0:Int)<=b1))then
 (gd (inB b1 (b0.length))
 ((K6 N (rdL b0 b1 U7)).bind fun r3=>
 (Q7 N r3 b3).bind fun r4=>
 bif (eqi (r4.length:Int) (0:Int))then
 (rec b0 (IntKind.wrap .i64 (b1-(1:Int))) b2 b3)
 else
 (gd (fits (1+b2.length) 112)
 (let x5:=(([(rdL b0 b1 U7)]:List Z1)++b2)
 gd (fits (0+b3.length) 32)
 (let x6:=(([]:List Z0)++b3)
 (zhw N (rdL b0 b1 U7)).bind fun r7=>
 gd (fits (x6.length+r7.length) 32)
 (let x8:=(x6++r7)
 (z5v N (rdL b0 b1 U7)).bind fun r9=>
 (Q7 N x8 r9).bind fun r10=>
 rec b0 (IntKind.wrap .i64 (b1-(1:Int))) x5 r10))))))
 else
 (some (((),((),())),((),(b2,(b3,())))))
def z9m(N:Nat)(n:Nat):=
 itF (fun _ _ _ _=>none) (z3d N) n
theorem zfu(N:Nat)(n:Nat):z9m N (n+1)=z3d N (z9m N n):=rfl
def zqs(N:Nat)(a0:(List Z1))(a1:(List Z0)):Option (zmn):=
 (z0u N a1).bind fun r1=>
 let x2:=(IntKind.wrap .i64 ((a0.length:Int)-(1:Int)))
 (z9m N N a0 x2 ([]:List Z1) r1).bind fun r11=>
 some (r11.2.2.1,r11.2.2.2.1)
def zb7(N:Nat)(a0:(List Z1)):Option ((List Z1)):=
 (zqs N a0 ([]:List Z0)).bind fun r1=>
 some r1.1
def z4b(N:Nat)(rec:(List Z1)->Int->Z4->Y5->Option ynd)(b0:(List Z1))(b1:Int)(b2:Z4)(b3:Y5):Option ynd:=
 bif (decide (b1<(b0.length:Int)))then
 (gd (inB b1 (b0.length))
 ((zjf N b3 (rdL b0 b1 U7)).bind fun r2=>
 bif (!(eqi r2.2 (0:Int)))then
 (some (.inl (((),r2.2),(b2,()))))
 else
 (rec b0 (IntKind.wrap .i64 (b1+(1:Int))) b2 r2.1)))
 else
 (some (.inr ((b0,((),((),()))),(b2,((),(b3,()))))))
def z4m(N:Nat)(n:Nat):=
 itF (fun _ _ _ _=>none) (z4b N) n
theorem zhb(N:Nat)(n:Nat):z4m N (n+1)=z4b N (z4m N n):=rfl
def zje(N:Nat)(a0:Z4)(a1:(List Z1)):Option ((Z4×Int)):=
 (zqq N a0 (0:Int)).bind fun r1=>
 (z4m N N a1 (0:Int) a0 r1.1).bind fun r3=>
 match r3 with
 | .inl r4=>(some (r4.2.1,r4.1.2))
 | .inr r5=>((zko N r5.2.2.2.1).bind fun r6=>
 bif (!(eqi r6.2.2 (0:Int)))then
 (some (r5.2.1,r6.2.2))
 else
 (gd (fits (0+r5.2.1.2.2.2.2.2.2.length) 112)
 (let x7:=(([]:List Z1)++r5.2.1.2.2.2.2.2.2)
 (zqp N r5.2.1 r6.1).bind fun r8=>
 gd (fits (x7.length+r5.1.1.length) 112)
 (let x9:=(x7++r5.1.1)
 (zb7 N x9).bind fun r10=>
 some ((r8.1,(r8.2.1,(r8.2.2.1,(r8.2.2.2.1,(r8.2.2.2.2.1,(r8.2.2.2.2.2.1,r10)))))),(0:Int))))))
def z8l(N:Nat)(b0 b1:Int)(b2:Bool):Option (((Unit×Int)×(Unit×Unit))⊕((Int×(Int×Unit))×(Unit×Unit))):=
 bif b2 then
 (some (.inl (((),(1:Int)),((),()))))
 else
 (some (.inr ((b0,(b1,())),((),()))))
def z8m(N:Nat)(b0 b1:Int):Option (((Unit×Int)×yks)):=
 gd ((decide (0<=b1)&&decide (b1<=b1))&&(decide (b1<maxB)&&decide (b1*24<maxB)))
 (let x4:=(List.replicate (Int.toNat b1) ([]:List Int))
 some (((),(0:Int)),((b0,((),())),(x4,(([]:List Y9),())))))
def zal(N:Nat)(a0 a1:Int):Option ((V5×Int)):=
 bif (decide (a0<(1:Int)))then
 ((z8l N a0 a1 true).bind fun r1=>
 match r1 with
 | .inl r2=>(some (((0:Int),(([]:List (List Int)),([]:List Y9))),r2.1.2))
 | .inr r3=>((z8m N r3.1.1 r3.1.2.1).bind fun r5=>
 some ((r5.2.1.1,(r5.2.2.1,r5.2.2.2.1)),r5.1.2)))
 else
 (bif (decide ((65536:Int)<a0))then
 ((z8l N a0 a1 true).bind fun r6=>
 match r6 with
 | .inl r7=>(some (((0:Int),(([]:List (List Int)),([]:List Y9))),r7.1.2))
 | .inr r8=>((z8m N r8.1.1 r8.1.2.1).bind fun r9=>
 some ((r9.2.1.1,(r9.2.2.1,r9.2.2.2.1)),r9.1.2)))
 else
 (bif (decide (a1<(1:Int)))then
 ((z8l N a0 a1 true).bind fun r10=>
 match r10 with
 | .inl r11=>(some (((0:Int),(([]:List (List Int)),([]:List Y9))),r11.1.2))
 | .inr r12=>((z8m N r12.1.1 r12.1.2.1).bind fun r13=>
 some ((r13.2.1.1,(r13.2.2.1,r13.2.2.2.1)),r13.1.2)))
 else
 ((z8l N a0 a1 (decide ((4096:Int)<a1))).bind fun r14=>
 match r14 with
 | .inl r15=>(some (((0:Int),(([]:List (List Int)),([]:List Y9))),r15.1.2))
 | .inr r16=>((z8m N r16.1.1 r16.1.2.1).bind fun r17=>
 some ((r17.2.1.1,(r17.2.2.1,r17.2.2.2.1)),r17.1.2)))))
def z4a(N:Nat)(rec:Int->Int->Int->Int->(List Bool)->(List Int)->Option (((Unit×Unit)×(Unit×ykr))))(b0 b1 b2 b3:Int)(b4:(List Bool))(b5:(List Int)):Option (((Unit×Unit)×(Unit×ykr))):=
 bif (decide (b2<b0))then
 (gd (fits (b4.length+1) 1)
 (let x4:=(b4++([(decide (b2<b1))]:List Bool))
 rec b0 b1 (IntKind.wrap .i64 (b2+(1:Int))) b3 x4 b5))
 else
 (some (((),()),((),(((),((),b3)),(b4,(b5,()))))))
def zb0(N:Nat)(n:Nat):=
 itF (fun _ _ _ _ _ _=>none) (z4a N) n
theorem zha(N:Nat)(n:Nat):zb0 N (n+1)=z4a N (zb0 N n):=rfl
def z8j(N:Nat)(b0 b1:Int)(b2:Bool):Option (((Unit×Int)×(Unit×Unit))⊕((Int×(Int×Unit))×(Unit×Unit))):=
 bif b2 then
 (some (.inl (((),(1:Int)),((),()))))
 else
 (some (.inr ((b0,(b1,())),((),()))))
def z8k(N:Nat)(b0 b1:Int):Option (((Unit×Int)×ykr)):=
 (zb0 N N b0 b1 (0:Int) (0:Int) ([]:List Bool) ([]:List Int)).bind fun r5=>
 some (((),(0:Int)),(((),((),r5.2.2.1.2.2)),(r5.2.2.2.1,(r5.2.2.2.2.1,()))))
def znv(N:Nat)(a0 a1:Int):Option ((W9×Int)):=
 bif (decide (a0<(1:Int)))then
 ((z8j N a0 a1 true).bind fun r1=>
 match r1 with
 | .inl r2=>(some ((([]:List Bool),(([]:List Int),(0:Int))),r2.1.2))
 | .inr r3=>((z8k N r3.1.1 r3.1.2.1).bind fun r6=>
 some ((r6.2.2.1,(r6.2.2.2.1,r6.2.1.2.2)),r6.1.2)))
 else
 (bif (decide ((4096:Int)<a0))then
 ((z8j N a0 a1 true).bind fun r7=>
 match r7 with
 | .inl r8=>(some ((([]:List Bool),(([]:List Int),(0:Int))),r8.1.2))
 | .inr r9=>((z8k N r9.1.1 r9.1.2.1).bind fun r10=>
 some ((r10.2.2.1,(r10.2.2.2.1,r10.2.1.2.2)),r10.1.2)))
 else
 (bif (decide (a1<(0:Int)))then
 ((z8j N a0 a1 true).bind fun r11=>
 match r11 with
 | .inl r12=>(some ((([]:List Bool),(([]:List Int),(0:Int))),r12.1.2))
 | .inr r13=>((z8k N r13.1.1 r13.1.2.1).bind fun r14=>
 some ((r14.2.2.1,(r14.2.2.2.1,r14.2.1.2.2)),r14.1.2)))
 else
 ((z8j N a0 a1 (decide (a0<a1))).bind fun r15=>
 match r15 with
 | .inl r16=>(some ((([]:List Bool),(([]:List Int),(0:Int))),r16.1.2))
 | .inr r17=>((z8k N r17.1.1 r17.1.2.1).bind fun r18=>
 some ((r18.2.2.1,(r18.2.2.2.1,r18.2.1.2.2)),r18.1.2)))))
def z4x(N:Nat)(rec:(List Z3)->Int->Option Ty3_)(b0:(List Z3))(b1:Int):Option Ty3_:=
 bif (decide (b1<(b0.length:Int)))then
 (gd (inB (IntKind.wrap .i64 (b1-(1:Int))) (b0.length))
 (let x1:=(rdL b0 (IntKind.wrap .i64 (b1-(1:Int))) X4)
 gd (inB b1 (b0.length))
 (bif (!(lts x1.1 ((rdL b0 b1 X4).1)))then
 (some (.inl (false,())))
 else
 (rec b0 (IntKind.wrap .i64 (b1+(1:Int)))))))
 else
 (some (.inr ((),())))
def z7v(N:Nat)(n:Nat):=
 itF (fun _ _=>none) (z4x N) n
theorem zng(N:Nat)(n:Nat):z7v N (n+1)=z4x N (z7v N n):=rfl
def zhx(N:Nat)(a0:(List Z3)):Option (Bool):=
 match z7v N N a0 (1:Int)with
 | some r2=>(match r2 with
 | .inl r3=>(some r3.1)
 | .inr r4=>(some true))
 | none=>none
def zjp(N:Nat)(a0 a1 a2:Int):Option (Bool):=
 bif (decide (a1<=a0))then
 (some (decide (a0<=a2)))
 else
 (some false)
def z3a(N:Nat)(rec:Int->Z5->Z0->Option Ty3_)(b0:Int)(b1:Z5)(b2:Z0):Option Ty3_:=
 bif (decide (b0<(b1.1.length:Int)))then
 (gd (inB b0 (b1.1.length))
 (match zan N b2 ((rdL b1.1 b0 X4).1)with
 | some r5=>(bif (!r5)then
 (some (.inl (false,())))
 else
 (let x6:=(List.length ((rdL b1.1 b0 X4).1):Int)
 match zjp N x6 (1:Int) (65535:Int)with
 | some r7=>(bif (!r7)then
 (some (.inl (false,())))
 else
 (let x8:=(List.length (((rdL b1.1 b0 X4).2).1):Int)
 bif (decide ((64:Int)<x8))then
 (some (.inl (false,())))
 else
 (match zjp N (((rdL b1.1 b0 X4).2).2) (0:Int) (1000000000:Int)with
 | some r9=>(bif (!r9)then
 (some (.inl (false,())))
 else
 (rec (IntKind.wrap .i64 (b0+(1:Int))) b1 b2))
 | none=>none)))
 | none=>none))
 | none=>none))
 else
 (some (.inr ((),())))
def z9i(N:Nat)(n:Nat):=
 itF (fun _ _ _=>none) (z3a N) n
theorem zfr(N:Nat)(n:Nat):z9i N (n+1)=z3a N (z9i N n):=rfl
def zkr(N:Nat)(a0:Z5)(a1:Z0):Option (Bool):=
 let x1:=(decide ((0:Int)<(a0.2.1.length:Int)))
 bif x1 then
 (some false)
 else
 (let x2:=(decide ((0:Int)<(a0.2.2.2.1.length:Int)))
 bif x2 then
 (some false)
 else
 (let x3:=(decide ((0:Int)<(a0.2.2.2.2.length:Int)))
 bif x3 then
 (some false)
 else
 (match zhx N a0.1 with
 | some r4=>(bif (!r4)then
 (some false)
 else
 (match z9i N N (0:Int) a0 a1 with
 | some r10=>(match r10 with
 | .inl r11=>(some r11.1)
 | .inr r12=>(some true))
 | none=>none))
 | none=>none)))
def g8(N:Nat)(b0:(List (List UInt8)))(b1:Int)(b2:Bool)(b3:Z0):Option ((Bool×Unit)⊕(((List (List UInt8))×(Unit×Int))×(Z0×Unit))):=
 bif b2 then
 (some (.inl (false,())))
 else
 (some (.inr ((b0,((),b1)),(b3,()))))
def g9(N:Nat)(b0:(List (List UInt8)))(b1:Int)(b2:Z0):Option ((((List (List UInt8))×(Unit×Int))×(Z0×Unit))):=
 some ((b0,((),(IntKind.wrap .i64 (b1+(1:Int))))),(b2,()))
def z0l(N:Nat)(rec:(List (List UInt8))->Int->Z0->Option Ty3_)(b0:(List (List UInt8)))(b1:Int)(b2:Z0):Option Ty3_:=
 bif (decide (b1<(b0.length:Int)))then
 (gd (inB b1 (b0.length))
 (let x1:=(lts (rdL b0 b1 ([]:List UInt8)) b2.1 || eqs (rdL b0 b1 ([]:List UInt8)) b2.1)
 bif x1 then
 (match g8 N b0 b1 true b2 with
 | some r2=>(match r2 with
 | .inl r3=>(some (.inl (r3.1,())))
 | .inr r4=>(match g9 N r4.1.1 r4.1.2.2 r4.2.1 with
 | some r5=>(rec r5.1.1 r5.1.2.2 r5.2.1)
 | none=>none))
 | none=>none)
 else
 (bif (!(eqs b2.2 ([]:List UInt8)))then
 (gd (inB b1 (b0.length))
 (bif (!(lts (rdL b0 b1 ([]:List UInt8)) b2.2))then
 (match g8 N b0 b1 true b2 with
 | some r6=>(match r6 with
 | .inl r7=>(some (.inl (r7.1,())))
 | .inr r8=>(match g9 N r8.1.1 r8.1.2.2 r8.2.1 with
 | some r9=>(rec r9.1.1 r9.1.2.2 r9.2.1)
 | none=>none))
 | none=>none)
 else
 (bif (decide ((0:Int)<b1))then
 (gd (inB b1 (b0.length))
 (gd (inB (IntKind.wrap .i64 (b1-(1:Int))) (b0.length))
 (let x10:=(rdL b0 (IntKind.wrap .i64 (b1-(1:Int))) ([]:List UInt8))
 let x11:=(lts (rdL b0 b1 ([]:List UInt8)) x10 || eqs (rdL b0 b1 ([]:List UInt8)) x10)
 match g8 N b0 b1 x11 b2 with
 | some r12=>(match r12 with
 | .inl r13=>(some (.inl (r13.1,())))
 | .inr r14=>(match g9 N r14.1.1 r14.1.2.2 r14.2.1 with
 | some r15=>(rec r15.1.1 r15.1.2.2 r15.2.1)
 | none=>none))
 | none=>none)))
 else
 (match g8 N b0 b1 false b2 with
 | some r16=>(match r16 with
 | .inl r17=>(some (.inl (r17.1,())))
 | .inr r18=>(match g9 N r18.1.1 r18.1.2.2 r18.2.1 with
 | some r19=>(rec r19.1.1 r19.1.2.2 r19.2.1)
 | none=>none))
 | none=>none))))
 else
 (bif (decide ((0:Int)<b1))then
 (gd (inB b1 (b0.length))
 (gd (inB (IntKind.wrap .i64 (b1-(1:Int))) (b0.length))
 (let x20:=(rdL b0 (IntKind.wrap .i64 (b1-(1:Int))) ([]:List UInt8))
 let x21:=(lts (rdL b0 b1 ([]:List UInt8)) x20 || eqs (rdL b0 b1 ([]:List UInt8)) x20)
 match g8 N b0 b1 x21 b2 with
 | some r22=>(match r22 with
 | .inl r23=>(some (.inl (r23.1,())))
 | .inr r24=>(match g9 N r24.1.1 r24.1.2.2 r24.2.1 with
 | some r25=>(rec r25.1.1 r25.1.2.2 r25.2.1)
 | none=>none))
 | none=>none)))
 else
 (match g8 N b0 b1 false b2 with
 | some r26=>(match r26 with
 | .inl r27=>(some (.inl (r27.1,())))
 | .inr r28=>(match g9 N r28.1.1 r28.1.2.2 r28.2.1 with
 | some r29=>(rec r29.1.1 r29.1.2.2 r29.2.1)
 | none=>none))
 | none=>none)))))
 else
 (some (.inr ((),())))
def z1b(N:Nat)(n:Nat):=
 itF (fun _ _ _=>none) (z0l N) n
theorem zcf(N:Nat)(n:Nat):z1b N (n+1)=z0l N (z1b N n):=rfl
def zex(N:Nat)(a0:(List (List UInt8)))(a1:Z0):Option (Bool):=
 match z1b N N a0 (0:Int) a1 with
 | some r30=>(match r30 with
 | .inl r31=>(some r31.1)
 | .inr r32=>(some true))
 | none=>none
def zd7(N:Nat)(a0:z4s):Option (Bool):=
 bif (decide ((0:Int)<=a0.1))then
 (bif (decide (a0.1<=a0.2))then
 (some (decide (a0.2<=(1000000000000000:Int))))
 else
 (some false))
 else
 (some false)
def z0n(N:Nat)(rec:Int->Z0->(List Z0)->Option Ty3_)(b0:Int)(b1:Z0)(b2:(List Z0)):Option Ty3_:=
 bif (decide (b0<(b2.length:Int)))then
 (gd (inB b0 (b2.length))
 (match zb9 N b1 (rdL b2 b0 Y7)with
 | some r4=>(bif (!r4)then
 (some (.inl (false,())))
 else
 (rec (IntKind.wrap .i64 (b0+(1:Int))) b1 b2))
 | none=>none))
 else
 (some (.inr ((),())))
def z6h(N:Nat)(n:Nat):=
 itF (fun _ _ _=>none) (z0n N) n
theorem zch(N:Nat)(n:Nat):z6h N (n+1)=z0n N (z6h N n):=rfl
def zey(N:Nat)(a0:Z1)(a1:Z0):Option (Bool):=
 match z5v N a0 with
 | some r1=>(match K6 N a0 with
 | some r2=>(gd (fits (r1.length+r2.length) 32)
 (let x3:=(r1++r2)
 match z6h N N (0:Int) a1 x3 with
 | some r5=>(match r5 with
 | .inl r6=>(some r6.1)
 | .inr r7=>(some true))
 | none=>none))
 | none=>none)
 | none=>none
def z1n(N:Nat)(rec:Int->Z5->Z0->Option Ty3_)(b0:Int)(b1:Z5)(b2:Z0):Option Ty3_:=
 let x12:=(decide (b0<(b1.2.2.2.2.length:Int)))
 bif x12 then
 (gd (inB b0 (b1.2.2.2.2.length))
 (match zad N (rdL b1.2.2.2.2 b0 U7)with
 | some r13=>(bif (!r13)then
 (some (.inl (false,())))
 else
 (gd (inB b0 (b1.2.2.2.2.length))
 (match zey N (rdL b1.2.2.2.2 b0 U7) b2 with
 | some r14=>(bif (!r14)then
 (some (.inl (false,())))
 else
 (rec (IntKind.wrap .i64 (b0+(1:Int))) b1 b2))
 | none=>none)))
 | none=>none))
 else
 (some (.inr ((),())))
def z7h(N:Nat)(n:Nat):=
 itF (fun _ _ _=>none) (z1n N) n
theorem zdv(N:Nat)(n:Nat):z7h N (n+1)=z1n N (z7h N n):=rfl
def z1o(N:Nat)(rec:Int->Z5->Z0->Option ((Bool×Unit)⊕((Unit×Unit)×ycu)))(b0:Int)(b1:Z5)(b2:Z0):Option ((Bool×Unit)⊕((Unit×Unit)×ycu)):=
 bif (decide (b0<(b1.2.2.1.length:Int)))then
 (gd (inB b0 (b1.2.2.1.length))
 (match zjp N (rdL b1.2.2.1 b0 (0:Int)) (0:Int) (4095:Int)with
 | some r6=>(bif (!r6)then
 (some (.inl (false,())))
 else
 (gd (inB b0 (b1.2.2.2.1.length))
 (match zd7 N ((rdL b1.2.2.2.1 b0 z5k).1)with
 | some r7=>(bif (!r7)then
 (some (.inl (false,())))
 else
 (gd (inB b0 (b1.2.2.2.1.length))
 (match zd7 N ((rdL b1.2.2.2.1 b0 z5k).2)with
 | some r8=>(bif (!r8)then
 (some (.inl (false,())))
 else
 (rec (IntKind.wrap .i64 (b0+(1:Int))) b1 b2))
 | none=>none)))
 | none=>none)))
 | none=>none))
 else
 (some (.inr (((),()),(b1,(b2,())))))
def z5e(N:Nat)(n:Nat):=
 itF (fun _ _ _=>none) (z1o N) n
theorem zdw(N:Nat)(n:Nat):z5e N (n+1)=z1o N (z5e N n):=rfl
def zat(N:Nat)(b0:Z5)(b1:Z0):Option ((Bool×Unit)):=
 match z5e N N (0:Int) b0 b1 with
 | some r9=>(match r9 with
 | .inl r10=>(some (r10.1,()))
 | .inr r11=>(match z7h N N (0:Int) r11.2.1 r11.2.2.1 with
 | some r15=>(match r15 with
 | .inl r16=>(some (r16.1,()))
 | .inr r17=>(some (true,())))
 | none=>none))
 | none=>none
def zhs(N:Nat)(a0:Z5)(a1:Z0):Option (Bool):=
 bif (eqi (a0.2.2.1.length:Int) (0:Int))then
 (match zkr N a0 a1 with
 | some r1=>(some r1)
 | none=>none)
 else
 (let x2:=(decide ((0:Int)<(a0.1.length:Int)))
 bif x2 then
 (some false)
 else
 (let x3:=(!(eqi (a0.2.2.2.1.length:Int) (a0.2.2.1.length:Int)))
 bif x3 then
 (some false)
 else
 (let x4:=(IntKind.wrap .i64 ((a0.2.2.1.length:Int)-(1:Int)))
 bif (!(eqi (a0.2.1.length:Int) x4))then
 (some false)
 else
 (match zex N a0.2.1 a1 with
 | some r5=>(bif (!r5)then
 (some false)
 else
 (match zat N a0 a1 with
 | some r18=>(some r18.1)
 | none=>none))
 | none=>none))))
def z0m(N:Nat)(rec:Int->Int->(List Int)->Option ((Unit×((List Int)×Unit))))(b0 b1:Int)(b2:(List Int)):Option ((Unit×((List Int)×Unit))):=
 bif (decide ((0:Int)<=b1))then
 (gd (decide (0<=(IntKind.wrap .i64 ((8:Int)*b1))))
 (let x1:=(Int.fdiv b0 (2^min (Int.toNat (IntKind.wrap .i64 ((8:Int)*b1))) (IntKind.bits .i64)))
 gd (fits (b2.length+1) 1)
 (let x2:=(b2++([(IntKind.wrap .u8 (x1))]:List Int))
 rec b0 (IntKind.wrap .i64 (b1-(1:Int))) x2)))
 else
 (some ((),(b2,())))
def z6g(N:Nat)(n:Nat):=
 itF (fun _ _ _=>none) (z0m N) n
theorem zcg(N:Nat)(n:Nat):z6g N (n+1)=z0m N (z6g N n):=rfl
def V8(N:Nat)(a0 a1:Int):Option ((List Int)):=
 match z6g N N a0 (IntKind.wrap .i64 (a1-(1:Int))) ([]:List Int)with
 | some r3=>(some r3.2.1)
 | none=>none
def zce(N:Nat)(a0:(List UInt8)):Option ((List Int)):=
 match V8 N (a0.length:Int) (2:Int)with
 | some r1=>(gd (fits (r1.length+List.length (v8 a0)) 1)
 (let x2:=(r1++(v8 a0))
 some x2))
 | none=>none
def z78(N:Nat)(rec:Int->Int->(List Int)->Option ((Unit×((List Int)×Unit))))(b0 b1:Int)(b2:(List Int)):Option ((Unit×((List Int)×Unit))):=
 bif (decide ((0:Int)<=b1))then
 (gd (decide (0<=(IntKind.wrap .i64 ((8:Int)*b1))))
 (let x1:=(Int.fdiv b0 (2^min (Int.toNat (IntKind.wrap .i64 ((8:Int)*b1))) (IntKind.bits .i64)))
 gd (fits (b2.length+1) 1)
 (let x2:=(b2++([(IntKind.wrap .u8 (x1))]:List Int))
 rec b0 (IntKind.wrap .i64 (b1-(1:Int))) x2)))
 else
 (some ((),(b2,())))
def z9x(N:Nat)(n:Nat):=
 itF (fun _ _ _=>none) (z78 N) n
theorem y7n(N:Nat)(n:Nat):z9x N (n+1)=z78 N (z9x N n):=rfl
def z63(N:Nat)(a0 a1:Int):Option ((List Int)):=
 match z9x N N a0 (IntKind.wrap .i64 (a1-(1:Int))) ([]:List Int)with
 | some r3=>(some r3.2.1)
 | none=>none
def z1y(N:Nat)(rec:(List (List UInt8))->Int->(List Int)->Option ((Unit×((List Int)×Unit))))(b0:(List (List UInt8)))(b1:Int)(b2:(List Int)):Option ((Unit×((List Int)×Unit))):=
 bif (decide (b1<(b0.length:Int)))then
 (gd (inB b1 (b0.length))
 (let x1:=(List.length (rdL b0 b1 ([]:List UInt8)):Int)
 match z63 N x1 (2:Int)with
 | some r2=>(gd (fits (b2.length+r2.length) 1)
 (let x3:=(b2++r2)
 gd (inB b1 (b0.length))
 (gd (fits (x3.length+List.length (v8 (rdL b0 b1 ([]:List UInt8)))) 1)
 (let x4:=(x3++(v8 (rdL b0 b1 ([]:List UInt8))))
 rec b0 (IntKind.wrap .i64 (b1+(1:Int))) x4))))
 | none=>none))
 else
 (some ((),(b2,())))
def z7q(N:Nat)(n:Nat):=
 itF (fun _ _ _=>none) (z1y N) n
theorem ze5(N:Nat)(n:Nat):z7q N (n+1)=z1y N (z7q N n):=rfl
def J3(N:Nat)(a0:(List (List UInt8))):Option ((List Int)):=
 match z7q N N a0 (0:Int) ([]:List Int)with
 | some r5=>(some r5.2.1)
 | none=>none
def u9(N:Nat)(b0:Z1)(b1:(List Int)):Option ((Unit×((List Int)×Unit))):=
 bif (eqi b0.1 (1:Int))then
 (match z63 N b0.2.2.2.2.2.2 (4:Int)with
 | some r4=>(gd (fits (b1.length+r4.length) 1)
 (let x5:=(b1++r4)
 some ((),(x5,()))))
 | none=>none)
 else
 (bif (eqi b0.1 (6:Int))then
 (match z63 N b0.2.2.2.2.2.2 (4:Int)with
 | some r6=>(gd (fits (b1.length+r6.length) 1)
 (let x7:=(b1++r6)
 some ((),(x7,()))))
 | none=>none)
 else
 (some ((),(b1,()))))
def zd9(N:Nat)(a0:Z1):Option ((List Int)):=
 match zad N a0 with
 | some r1=>(bif (!r1)then
 (some ([]:List Int))
 else
 (bif (eqi a0.1 (1:Int))then
 (match J3 N ([a0.2.1,a0.2.2.1]:List (List UInt8))with
 | some r2=>(gd (fits (1+r2.length) 1)
 (let x3:=(([(IntKind.wrap .u8 (a0.1))]:List Int)++r2)
 match u9 N a0 x3 with
 | some r8=>(some r8.2.1)
 | none=>none))
 | none=>none)
 else
 (bif (eqi a0.1 (2:Int))then
 (match J3 N ([a0.2.1]:List (List UInt8))with
 | some r9=>(gd (fits (1+r9.length) 1)
 (let x10:=(([(IntKind.wrap .u8 (a0.1))]:List Int)++r9)
 match u9 N a0 x10 with
 | some r11=>(some r11.2.1)
 | none=>none))
 | none=>none)
 else
 (bif (eqi a0.1 (3:Int))then
 (let x12:=([a0.2.2.2.1.1,a0.2.2.2.1.2]:List (List UInt8))
 match J3 N x12 with
 | some r13=>(gd (fits (1+r13.length) 1)
 (let x14:=(([(IntKind.wrap .u8 (a0.1))]:List Int)++r13)
 match u9 N a0 x14 with
 | some r15=>(some r15.2.1)
 | none=>none))
 | none=>none)
 else
 (bif (eqi a0.1 (6:Int))then
 (let x16:=([a0.2.2.2.1.1,a0.2.2.2.1.2]:List (List UInt8))
 match J3 N x16 with
 | some r17=>(gd (fits (1+r17.length) 1)
 (let x18:=(([(IntKind.wrap .u8 (a0.1))]:List Int)++r17)
 match u9 N a0 x18 with
 | some r19=>(some r19.2.1)
 | none=>none))
 | none=>none)
 else
 (let x20:=([a0.2.2.2.2.1,a0.2.2.2.2.2.1]:List (List UInt8))
 match J3 N x20 with
 | some r21=>(gd (fits (1+r21.length) 1)
 (let x22:=(([(IntKind.wrap .u8 (a0.1))]:List Int)++r21)
 match u9 N a0 x22 with
 | some r23=>(some r23.2.1)
 | none=>none))
 | none=>none))))))
 | none=>none
def J0(N:Nat)(rec:Int->Int->Z5->(List Int)->zuj->Option (((Unit×(Unit×Int))×(Z5×((List Int)×Unit)))))(b0 b1:Int)(b2:Z5)(b3:(List Int))(b4:zuj):Option (((Unit×(Unit×Int))×(Z5×((List Int)×Unit)))):=
 bif (decide (b1<(4:Int)))then
 (bif (eqi b1 (3:Int))then
 (match V8 N b4.2.2.2 (8:Int)with
 | some r20=>(gd (fits (b3.length+r20.length) 1)
 (let x21:=(b3++r20)
 rec b0 (IntKind.wrap .i64 (b1+(1:Int))) b2 x21 b4))
 | none=>none)
 else
 (bif (eqi b1 (2:Int))then
 (match V8 N b4.2.2.1 (8:Int)with
 | some r22=>(gd (fits (b3.length+r22.length) 1)
 (let x23:=(b3++r22)
 rec b0 (IntKind.wrap .i64 (b1+(1:Int))) b2 x23 b4))
 | none=>none)
 else
 (bif (eqi b1 (1:Int))then
 (match V8 N b4.2.1 (8:Int)with
 | some r24=>(gd (fits (b3.length+r24.length) 1)
 (let x25:=(b3++r24)
 rec b0 (IntKind.wrap .i64 (b1+(1:Int))) b2 x25 b4))
 | none=>none)
 else
 (bif (eqi b1 (0:Int))then
 (match V8 N b4.1 (8:Int)with
 | some r26=>(gd (fits (b3.length+r26.length) 1)
 (let x27:=(b3++r26)
 rec b0 (IntKind.wrap .i64 (b1+(1:Int))) b2 x27 b4))
 | none=>none)
 else
 (none)))))
 else
 (some (((),((),b0)),(b2,(b3,()))))
def z12(N:Nat)(n:Nat):=
 itF (fun _ _ _ _ _=>none) (J0 N) n
theorem z1q(N:Nat)(n:Nat):z12 N (n+1)=J0 N (z12 N n):=rfl
def z1r(N:Nat)(rec:Int->Z5->(List Int)->Option ((Unit×((List Int)×Unit))))(b0:Int)(b1:Z5)(b2:(List Int)):Option ((Unit×((List Int)×Unit))):=
 let x32:=(decide (b0<(b1.2.2.2.2.length:Int)))
 bif x32 then
 (gd (inB b0 (b1.2.2.2.2.length))
 (match zd9 N (rdL b1.2.2.2.2 b0 U7)with
 | some r33=>(gd (fits (b2.length+r33.length) 1)
 (let x34:=(b2++r33)
 rec (IntKind.wrap .i64 (b0+(1:Int))) b1 x34))
 | none=>none))
 else
 (some ((),(b2,())))
def z7j(N:Nat)(n:Nat):=
 itF (fun _ _ _=>none) (z1r N) n
theorem zdy(N:Nat)(n:Nat):z7j N (n+1)=z1r N (z7j N n):=rfl
def z1s(N:Nat)(rec:Int->Z5->(List Int)->Option Ty9_)(b0:Int)(b1:Z5)(b2:(List Int)):Option Ty9_:=
 let x19:=(decide (b0<(b1.2.2.2.1.length:Int)))
 bif x19 then
 (gd (inB b0 (b1.2.2.2.1.length))
 (gd (inB b0 (b1.2.2.2.1.length))
 (gd (inB b0 (b1.2.2.2.1.length))
 (gd (inB b0 (b1.2.2.2.1.length))
 (match z12 N N b0 (0:Int) b1 b2 (((rdL b1.2.2.2.1 b0 z5k).1).1,(((rdL b1.2.2.2.1 b0 z5k).1).2,((rdL b1.2.2.2.1 b0 z5k).2)))with
 | some r28=>(rec (IntKind.wrap .i64 (r28.1.2.2+(1:Int))) r28.2.1 r28.2.2.1)
 | none=>none)))))
 else
 (some (((),()),(b1,(b2,()))))
def z7k(N:Nat)(n:Nat):=
 itF (fun _ _ _=>none) (z1s N) n
theorem zdz(N:Nat)(n:Nat):z7k N (n+1)=z1s N (z7k N n):=rfl
def z1t(N:Nat)(rec:Int->Z5->(List Int)->Option ((Unit×((List Int)×Unit))))(b0:Int)(b1:Z5)(b2:(List Int)):Option ((Unit×((List Int)×Unit))):=
 bif (decide (b0<(b1.1.length:Int)))then
 (gd (inB b0 (b1.1.length))
 (match zce N ((rdL b1.1 b0 X4).1)with
 | some r4=>(gd (fits (b2.length+r4.length) 1)
 (let x5:=(b2++r4)
 gd (inB b0 (b1.1.length))
 (match zce N (((rdL b1.1 b0 X4).2).1)with
 | some r6=>(gd (fits (x5.length+r6.length) 1)
 (let x7:=(x5++r6)
 gd (inB b0 (b1.1.length))
 (match V8 N (((rdL b1.1 b0 X4).2).2) (4:Int)with
 | some r8=>(gd (fits (x7.length+r8.length) 1)
 (let x9:=(x7++r8)
 rec (IntKind.wrap .i64 (b0+(1:Int))) b1 x9))
 | none=>none)))
 | none=>none)))
 | none=>none))
 else
 (some ((),(b2,())))
def z7l(N:Nat)(n:Nat):=
 itF (fun _ _ _=>none) (z1t N) n
theorem ze0(N:Nat)(n:Nat):z7l N (n+1)=z1t N (z7l N n):=rfl
def z1u(N:Nat)(rec:Int->Z5->(List Int)->Option Ty9_)(b0:Int)(b1:Z5)(b2:(List Int)):Option Ty9_:=
 bif (decide (b0<(b1.2.1.length:Int)))then
 (gd (inB b0 (b1.2.1.length))
 (match zce N (rdL b1.2.1 b0 ([]:List UInt8))with
 | some r16=>(gd (fits (b2.length+r16.length) 1)
 (let x17:=(b2++r16)
 rec (IntKind.wrap .i64 (b0+(1:Int))) b1 x17))
 | none=>none))
 else
 (some (((),()),(b1,(b2,()))))
def z7m(N:Nat)(n:Nat):=
 itF (fun _ _ _=>none) (z1u N) n
theorem ze1(N:Nat)(n:Nat):z7m N (n+1)=z1u N (z7m N n):=rfl
def z1v(N:Nat)(rec:Int->Z5->(List Int)->Option Ty9_)(b0:Int)(b1:Z5)(b2:(List Int)):Option Ty9_:=
 bif (decide (b0<(b1.2.2.1.length:Int)))then
 (gd (inB b0 (b1.2.2.1.length))
 (match V8 N (rdL b1.2.2.1 b0 (0:Int)) (4:Int)with
 | some r13=>(gd (fits (b2.length+r13.length) 1)
 (let x14:=(b2++r13)
 rec (IntKind.wrap .i64 (b0+(1:Int))) b1 x14))
 | none=>none))
 else
 (some (((),()),(b1,(b2,()))))
def z7n(N:Nat)(n:Nat):=
 itF (fun _ _ _=>none) (z1v N) n
theorem ze2(N:Nat)(n:Nat):z7n N (n+1)=z1v N (z7n N n):=rfl
def z4r(N:Nat)(a0:Z5):Option ((List Int)):=
 match zhs N a0 (([]:List UInt8),([]:List UInt8))with
 | some r1=>(bif (!r1)then
 (some ([]:List Int))
 else
 (bif (eqi (a0.2.2.1.length:Int) (0:Int))then
 (match V8 N (a0.1.length:Int) (4:Int)with
 | some r2=>(gd (fits (1+r2.length) 1)
 (let x3:=(([(76:Int)]:List Int)++r2)
 match z7l N N (0:Int) a0 x3 with
 | some r10=>(some r10.2.1)
 | none=>none))
 | none=>none)
 else
 (match V8 N (a0.2.2.1.length:Int) (4:Int)with
 | some r11=>(gd (fits (1+r11.length) 1)
 (let x12:=(([(78:Int)]:List Int)++r11)
 match z7n N N (0:Int) a0 x12 with
 | some r15=>(match z7m N N (0:Int) r15.2.1 r15.2.2.1 with
 | some r18=>(match z7k N N (0:Int) r18.2.1 r18.2.2.1 with
 | some r29=>(match V8 N (r29.2.1.2.2.2.2.length:Int) (4:Int)with
 | some r30=>(gd (fits (r29.2.2.1.length+r30.length) 1)
 (let x31:=(r29.2.2.1++r30)
 match z7j N N (0:Int) r29.2.1 x31 with
 | some r35=>(some r35.2.1)
 | none=>none))
 | none=>none)
 | none=>none)
 | none=>none)
 | none=>none))
 | none=>none)))
 | none=>none
def z1p(N:Nat)(rec:(List Int)->Int->Int->Option ((Int×Unit)))(b0:(List Int))(b1 b2:Int):Option ((Int×Unit)):=
 bif (decide (b2<(b0.length:Int)))then
 (gd (inB b2 (b0.length))
 (let x1:=(IntKind.wrap .u64 (((BitVec.ofInt (IntKind.bits .u64) b1^^^BitVec.ofInt (IntKind.bits .u64) (IntKind.wrap .u64 ((rdL b0 b2 (0:Int))))).toNat:Int)))
 let x2:=(IntKind.wrap .u64 (x1*(1099511628211:Int)))
 rec b0 x2 (IntKind.wrap .i64 (b2+(1:Int)))))
 else
 (some (b1,()))
def z7i(N:Nat)(n:Nat):=
 itF (fun _ _ _=>none) (z1p N) n
theorem zdx(N:Nat)(n:Nat):z7i N (n+1)=z1p N (z7i N n):=rfl
def z15(N:Nat)(a0:(List Int)):Option (Int):=
 match z7i N N a0 (14695981039346656037:Int) (0:Int)with
 | some r3=>(some r3.1)
 | none=>none
def zc2(N:Nat)(a0:V5)(a1:Int):Option (Bool):=
 bif (decide ((0:Int)<=a1))then
 (some (decide (a1<(a0.2.1.length:Int))))
 else
 (some false)
def zar(N:Nat)(rec:Int->(List Int)->Int->V5->Option (((List Int)×Unit)))(b0:Int)(b1:(List Int))(b2:Int)(b3:V5):Option (((List Int)×Unit)):=
 bif (decide (b2<(b3.2.2.length:Int)))then
 (gd (inB b2 (b3.2.2.length))
 (bif (!((rdL b3.2.2 b2 z18).1))then
 (gd (inB b2 (b3.2.2.length))
 (bif (eqi (((rdL b3.2.2 b2 z18).2).1) b0)then
 (gd (inB b2 (b3.2.2.length))
 (rec b0 (((rdL b3.2.2 b2 z18).2).2) (IntKind.wrap .i64 (b2+(1:Int))) b3))
 else
 (rec b0 b1 (IntKind.wrap .i64 (b2+(1:Int))) b3)))
 else
 (rec b0 b1 (IntKind.wrap .i64 (b2+(1:Int))) b3)))
 else
 (some (b1,()))
def zes(N:Nat)(n:Nat):=
 itF (fun _ _ _ _=>none) (zar N) n
theorem yd3(N:Nat)(n:Nat):zes N (n+1)=zar N (zes N n):=rfl
def zwd(N:Nat)(a0:V5)(a1:Int):Option (((List Int)×Int)):=
 (zc2 N a0 a1).bind fun r1=>
 bif (!r1)then
 (some (([]:List Int),(230:Int)))
 else
 (gd (inB a1 (a0.2.1.length))
 ((zes N N a1 (rdL a0.2.1 a1 ([]:List Int)) (0:Int) a0).bind fun r2=>
 some (r2.1,(0:Int))))
def zkh(N:Nat)(a0:Z7)(a1:Int)(a2:Z5):Option (Bool):=
 let x1:=(decide ((a0.2.2.2.2.2.1.length:Int)<=a1))
 bif x1 then
 (some false)
 else
 (gd (inB a1 (a0.2.2.2.2.2.1.length))
 (let x2:=(decide ((rdL a0.2.2.2.2.2.1 a1 (0:Int))<(0:Int)))
 bif x2 then
 (some false)
 else
 (gd (inB a1 (a0.2.2.2.2.2.1.length))
 ((zwd N a0.1 (rdL a0.2.2.2.2.2.1 a1 (0:Int))).bind fun r3=>
 (z4r N a2).bind fun r4=>
 some (eqs (zlq r3.1) (zlq r4))))))
def z1j(N:Nat)(rec:Int->Int->W9->Option ((Int×Unit)))(b0 b1:Int)(b2:W9):Option ((Int×Unit)):=
 bif (decide (b1<(b2.1.length:Int)))then
 (gd (inB b1 (b2.1.length))
 (bif (!(rdL b2.1 b1 false))then
 (rec (IntKind.wrap .i64 (b0+(1:Int))) (IntKind.wrap .i64 (b1+(1:Int))) b2)
 else
 (rec b0 (IntKind.wrap .i64 (b1+(1:Int))) b2)))
 else
 (some (b0,()))
def z7d(N:Nat)(n:Nat):=
 itF (fun _ _ _=>none) (z1j N) n
theorem zds(N:Nat)(n:Nat):z7d N (n+1)=z1j N (z7d N n):=rfl
def zmt(N:Nat)(a0:W9):Option (Int):=
 (z7d N N (0:Int) (0:Int) a0).bind fun r1=>
 some r1.1
def zqo(N:Nat)(a0:W9):Option (Int):=
 (zmt N a0).bind fun r1=>
 some (IntKind.wrap .i64 (r1-a0.2.2))
def z1i(N:Nat)(rec:Int->W9->(List Bool)->Option ync)(b0:Int)(b1:W9)(b2:(List Bool)):Option ync:=
 bif (decide (b0<(b2.length:Int)))then
 (gd (inB b0 (b2.length))
 (bif (!(rdL b2 b0 false))then
 (gd (inB b0 (b2.length))
 (some (.inl ((),(((),(b1.2.1,(b1.2.2,(b0,(0:Int))))),((setL b2 b0 true),()))))))
 else
 (rec (IntKind.wrap .i64 (b0+(1:Int))) b1 b2)))
 else
 (some (.inr (((),()),(b1,((),())))))
def z5d(N:Nat)(n:Nat):=
 itF (fun _ _ _=>none) (z1i N) n
theorem zdr(N:Nat)(n:Nat):z5d N (n+1)=z1i N (z5d N n):=rfl
def zms(N:Nat)(a0:W9):Option (zix):=
 gd (fits (0+a0.1.length) 1)
 (let x1:=(([]:List Bool)++a0.1)
 (z5d N N (0:Int) a0 x1).bind fun r2=>
 match r2 with
 | .inl r3=>(some ((r3.2.2.1,(r3.2.1.2.1,r3.2.1.2.2.1)),r3.2.1.2.2.2))
 | .inr r4=>(some (r4.2.1,((0:Int),(250:Int)))))
def ref25_Take(N:Nat)(a0:W9):Option (zix):=
 (zqo N a0).bind fun r1=>
 bif (decide (r1<(1:Int)))then
 (some (a0,((0:Int),(250:Int))))
 else
 ((zms N a0).bind fun r2=>
 some r2)
def z2l(N:Nat)(a0:V5):Option ((Int×((List (List Int))×(List Y9)))):=
 gd (fits (0+a0.2.1.length) 24)
 (let x1:=(([]:List (List Int))++a0.2.1)
 gd (fits (0+a0.2.2.length) 40)
 (let x2:=(([]:List Y9)++a0.2.2)
 some (a0.1,(x1,x2))))
def ref23_Put(N:Nat)(a0:V5)(a1:Int)(a2:(List Int)):Option ((V5×Int)):=
 (zc2 N a0 a1).bind fun r1=>
 bif (!r1)then
 (some (a0,(230:Int)))
 else
 (bif (decide (a0.1<(a2.length:Int)))then
 (some (a0,(230:Int)))
 else
 ((z2l N a0).bind fun r2=>
 gd (fits (0+a2.length) 1)
 (let x3:=(([]:List Int)++a2)
 gd (fits (r2.2.2.length+1) 40)
 (let x4:=(r2.2.2++([(false,(a1,x3))]:List Y9))
 some ((r2.1,(r2.2.1,x4)),(0:Int))))))
def z82(N:Nat)(a0:Z7)(a1:(List Int)):Option ((Z7×Int)):=
 (ref25_Take N a0.2.1).bind fun r1=>
 bif (!(eqi r1.2.2 (0:Int)))then
 (some (a0,(-1:Int)))
 else
 ((ref23_Put N a0.1 r1.2.1 a1).bind fun r2=>
 bif (!(eqi r2.2 (0:Int)))then
 (some (a0,(-1:Int)))
 else
 (some ((r2.1,(r1.1,a0.2.2)),r1.2.1)))
def zbx(N:Nat)(a0:Int)(a1:(List (List Int)))(a2:(List Y9))(a3:(List Bool))(a4:(List Int))(a5 a6 a7 a8:Int)(a9 a10 a11 a12:(List Int)):Option (((Ty2_×Int)×((List Int)×((List Int)×Unit)))):=
 (ref25_Take N (a3,(a4,a5))).bind fun r1=>
 bif (!(eqi r1.2.2 (0:Int)))then
 (some (((a0,(a1,(a2,(a3,(a4,(a5,(a6,(a7,(a8,((),((),a9))))))))))),(-1:Int)),(a10,(a11,()))))
 else
 ((ref23_Put N (a0,(a1,a2)) r1.2.1 a12).bind fun r2=>
 bif (!(eqi r2.2 (0:Int)))then
 (some (((a0,(a1,(a2,(a3,(a4,(a5,(a6,(a7,(a8,((),((),a9))))))))))),(-1:Int)),(a10,(a11,()))))
 else
 (some (((r2.1.1,(r2.1.2.1,(r2.1.2.2,(r1.1.1,(r1.1.2.1,(r1.1.2.2,(a6,(a7,(a8,((),((),a9))))))))))),r1.2.1),(a10,(a11,())))))
def z5c(N:Nat)(b0 b1 b2 b3:Int)(b4:(List (List Int)))(b5:(List Y9))(b6:(List Bool))(b7:(List Int))(b8 b9 b10 b11:Int)(b12 b13 b14:(List Int))(b15:Z4)(b16:Z7)(b17:(List Int)):Option Ty8_:=
 bif (decide (b0<(b15.1.length:Int)))then
 (gd (fits (b13.length+1) 8)
 (let x16:=(b13++([b1]:List Int))
 gd (fits (b14.length+1) 8)
 (let x17:=(b14++([b2]:List Int))
 some (((),((),((),((),((),b0))))),((b3,(b4,(b5,(b6,(b7,(b8,(b9,(b10,(b11,((),((),b12))))))))))),(x16,(x17,(b15,((),(b16,(b17,())))))))))))
 else
 (some (((),((),((),((),((),b0))))),((b3,(b4,(b5,(b6,(b7,(b8,(b9,(b10,(b11,((),((),b12))))))))))),(b13,(b14,(b15,((),(b16,(b17,())))))))))
def z3j(N:Nat)(b0 b1 b2:Int)(b3:Bool)(b4:Int)(b5:(List (List Int)))(b6:(List Y9))(b7:(List Bool))(b8:(List Int))(b9 b10 b11 b12:Int)(b13 b14 b15:(List Int))(b16:Z4)(b17:Z7)(b18:(List Int))(b19:Z6):Option (((Unit×(Unit×(Unit×(Unit×(Unit×(Int×(Int×Int)))))))×(Ty2_×((List Int)×((List Int)×(Z4×(Unit×(Z7×((List Int)×Unit))))))))⊕((Unit×((List Int)×Bool))×(Z7×Unit))):=
 bif b3 then
 (gd (inB b0 (b17.2.2.2.2.2.1.length))
 (gd (inB b0 (b17.2.2.2.2.2.2.1.length))
 (some (.inl (((),((),((),((),((),(b0,((rdL b17.2.2.2.2.2.1 b0 (0:Int)),(rdL b17.2.2.2.2.2.2.1 b0 (0:Int))))))))),((b4,(b5,(b6,(b7,(b8,(b9,(b10,(b11,(b12,((),((),b13))))))))))),(b14,(b15,(b16,((),(b17,(b18,()))))))))))))
 else
 (bif b19.1 then
 (bif (!b19.2.1)then
 ((z4r N b19.2.2.2).bind fun r3=>
 (z15 N r3).bind fun r4=>
 (zkh N b17 b0 b19.2.2.2).bind fun r5=>
 bif r5 then
 (gd (inB b0 (b17.2.2.2.2.2.1.length))
 (let x6:=(decide ((rdL b17.2.2.2.2.2.1 b0 (0:Int))<(0:Int)))
 bif x6 then
 (some (.inr (((),(([]:List Int),false)),(b17,()))))
 else
 (some (.inl (((),((),((),((),((),(b0,((rdL b17.2.2.2.2.2.1 b0 (0:Int)),r4))))))),((b4,(b5,(b6,(b7,(b8,(b9,(b10,(b11,(b12,((),((),b13))))))))))),(b14,(b15,(b16,((),(b17,(b18,()))))))))))))
 else
 ((zbx N b4 b5 b6 b7 b8 b9 b10 b11 b12 b13 b14 b15 r3).bind fun r7=>
 bif (decide (r7.1.2<(0:Int)))then
 (some (.inr (((),(([]:List Int),false)),(b17,()))))
 else
 (some (.inl (((),((),((),((),((),(b0,(r7.1.2,r4))))))),((r7.1.1.1,(r7.1.1.2.1,(r7.1.1.2.2.1,(r7.1.1.2.2.2.1,(r7.1.1.2.2.2.2.1,(r7.1.1.2.2.2.2.2.1,(r7.1.1.2.2.2.2.2.2.1,(r7.1.1.2.2.2.2.2.2.2.1,(r7.1.1.2.2.2.2.2.2.2.2.1,((),((),r7.1.1.2.2.2.2.2.2.2.2.2.2.2))))))))))),(r7.2.1,(r7.2.2.1,(b16,((),(b17,(b18,()))))))))))))
 else
 (some (.inl (((),((),((),((),((),(b0,(b1,b2))))))),((b4,(b5,(b6,(b7,(b8,(b9,(b10,(b11,(b12,((),((),b13))))))))))),(b14,(b15,(b16,((),(b17,(b18,())))))))))))
 else
 (some (.inl (((),((),((),((),((),(b0,(b1,b2))))))),((b4,(b5,(b6,(b7,(b8,(b9,(b10,(b11,(b12,((),((),b13))))))))))),(b14,(b15,(b16,((),(b17,(b18,())))))))))))
def z3k(N:Nat)(b0 b1 b2 b3:Int)(b4:(List (List Int)))(b5:(List Y9))(b6:(List Bool))(b7:(List Int))(b8 b9 b10 b11:Int)(b12 b13 b14:(List Int))(b15:Z4)(b16:Z7)(b17:(List Int)):Option Ty8_:=
 let x11:=(decide (b0<(b16.2.2.2.2.2.1.length:Int)))
 bif x11 then
 (gd (inB b0 (b16.2.2.2.2.2.1.length))
 (let x12:=(decide ((0:Int)<=(rdL b16.2.2.2.2.2.1 b0 (0:Int))))
 bif x12 then
 (gd (inB b0 (b16.2.2.2.2.2.1.length))
 (let x13:=(!(eqi (rdL b16.2.2.2.2.2.1 b0 (0:Int)) b1))
 bif x13 then
 (gd (inB b0 (b16.2.2.2.2.2.1.length))
 (let x14:=([(rdL b16.2.2.2.2.2.1 b0 (0:Int))]:List Int)
 gd (fits (b17.length+x14.length) 8)
 (let x15:=(b17++x14)
 (z5c N b0 b1 b2 b3 b4 b5 b6 b7 b8 b9 b10 b11 b12 b13 b14 b15 b16 x15).bind fun r18=>
 some (((),((),((),((),((),r18.1.2.2.2.2.2))))),((r18.2.1.1,(r18.2.1.2.1,(r18.2.1.2.2.1,(r18.2.1.2.2.2.1,(r18.2.1.2.2.2.2.1,(r18.2.1.2.2.2.2.2.1,(r18.2.1.2.2.2.2.2.2.1,(r18.2.1.2.2.2.2.2.2.2.1,(r18.2.1.2.2.2.2.2.2.2.2.1,((),((),r18.2.1.2.2.2.2.2.2.2.2.2.2.2))))))))))),(r18.2.2.1,(r18.2.2.2.1,(r18.2.2.2.2.1,((),(r18.2.2.2.2.2.2.1,(r18.2.2.2.2.2.2.2.1,())))))))))))
 else
 ((z5c N b0 b1 b2 b3 b4 b5 b6 b7 b8 b9 b10 b11 b12 b13 b14 b15 b16 b17).bind fun r19=>
 some (((),((),((),((),((),r19.1.2.2.2.2.2))))),((r19.2.1.1,(r19.2.1.2.1,(r19.2.1.2.2.1,(r19.2.1.2.2.2.1,(r19.2.1.2.2.2.2.1,(r19.2.1.2.2.2.2.2.1,(r19.2.1.2.2.2.2.2.2.1,(r19.2.1.2.2.2.2.2.2.2.1,(r19.2.1.2.2.2.2.2.2.2.2.1,((),((),r19.2.1.2.2.2.2.2.2.2.2.2.2.2))))))))))),(r19.2.2.1,(r19.2.2.2.1,(r19.2.2.2.2.1,((),(r19.2.2.2.2.2.2.1,(r19.2.2.2.2.2.2.2.1,())))))))))))
 else
 ((z5c N b0 b1 b2 b3 b4 b5 b6 b7 b8 b9 b10 b11 b12 b13 b14 b15 b16 b17).bind fun r20=>
 some (((),((),((),((),((),r20.1.2.2.2.2.2))))),((r20.2.1.1,(r20.2.1.2.1,(r20.2.1.2.2.1,(r20.2.1.2.2.2.1,(r20.2.1.2.2.2.2.1,(r20.2.1.2.2.2.2.2.1,(r20.2.1.2.2.2.2.2.2.1,(r20.2.1.2.2.2.2.2.2.2.1,(r20.2.1.2.2.2.2.2.2.2.2.1,((),((),r20.2.1.2.2.2.2.2.2.2.2.2.2.2))))))))))),(r20.2.2.1,(r20.2.2.2.1,(r20.2.2.2.2.1,((),(r20.2.2.2.2.2.2.1,(r20.2.2.2.2.2.2.2.1,())))))))))))
 else
 ((z5c N b0 b1 b2 b3 b4 b5 b6 b7 b8 b9 b10 b11 b12 b13 b14 b15 b16 b17).bind fun r21=>
 some (((),((),((),((),((),r21.1.2.2.2.2.2))))),((r21.2.1.1,(r21.2.1.2.1,(r21.2.1.2.2.1,(r21.2.1.2.2.2.1,(r21.2.1.2.2.2.2.1,(r21.2.1.2.2.2.2.2.1,(r21.2.1.2.2.2.2.2.2.1,(r21.2.1.2.2.2.2.2.2.2.1,(r21.2.1.2.2.2.2.2.2.2.2.1,((),((),r21.2.1.2.2.2.2.2.2.2.2.2.2.2))))))))))),(r21.2.2.1,(r21.2.2.2.1,(r21.2.2.2.2.1,((),(r21.2.2.2.2.2.2.1,(r21.2.2.2.2.2.2.2.1,())))))))))
def z3l(N:Nat)(b0 b1:Int)(b2:(List (List Int)))(b3:(List Y9))(b4:(List Bool))(b5:(List Int))(b6 b7 b8 b9:Int)(b10 b11 b12:(List Int))(b13:Z4)(b14:Z7)(b15:(List Int)):Option Ty8_:=
 some (((),((),((),((),((),(IntKind.wrap .i64 (b0+(1:Int)))))))),((b1,(b2,(b3,(b4,(b5,(b6,(b7,(b8,(b9,((),((),b10))))))))))),(b11,(b12,(b13,((),(b14,(b15,()))))))))
def z1h(N:Nat)(rec:Int->Int->(List (List Int))->(List Y9)->(List Bool)->(List Int)->Int->Int->Int->Int->(List Int)->(List Int)->(List Int)->Z4->Z7->(List Int)->Option ynf)(b0 b1:Int)(b2:(List (List Int)))(b3:(List Y9))(b4:(List Bool))(b5:(List Int))(b6 b7 b8 b9:Int)(b10 b11 b12:(List Int))(b13:Z4)(b14:Z7)(b15:(List Int)):Option ynf:=
 let x1:=(bif decide ((b13.1.length:Int)<(b14.2.2.2.2.2.1.length:Int))then(b14.2.2.2.2.2.1.length:Int)else(b13.1.length:Int))
 bif (decide (b0<x1))then
 (bif (decide (b0<(b13.1.length:Int)))then
 (gd (inB b0 (b13.1.length))
 (bif (rdL b13.1 b0 X2).1 then
 (bif ((rdL b13.1 b0 X2).2).1 then
 (let x2:=(decide (b0<(b14.2.2.2.2.2.1.length:Int)))
 (z3j N b0 (-1:Int) (0:Int) x2 b1 b2 b3 b4 b5 b6 b7 b8 b9 b10 b11 b12 b13 b14 b15 (rdL b13.1 b0 X2)).bind fun r8=>
 match r8 with
 | .inl r9=>((z3k N r9.1.2.2.2.2.2.1 r9.1.2.2.2.2.2.2.1 r9.1.2.2.2.2.2.2.2 r9.2.1.1 r9.2.1.2.1 r9.2.1.2.2.1 r9.2.1.2.2.2.1 r9.2.1.2.2.2.2.1 r9.2.1.2.2.2.2.2.1 r9.2.1.2.2.2.2.2.2.1 r9.2.1.2.2.2.2.2.2.2.1 r9.2.1.2.2.2.2.2.2.2.2.1 r9.2.1.2.2.2.2.2.2.2.2.2.2.2 r9.2.2.1 r9.2.2.2.1 r9.2.2.2.2.1 r9.2.2.2.2.2.2.1 r9.2.2.2.2.2.2.2.1).bind fun r22=>
 (z3l N r22.1.2.2.2.2.2 r22.2.1.1 r22.2.1.2.1 r22.2.1.2.2.1 r22.2.1.2.2.2.1 r22.2.1.2.2.2.2.1 r22.2.1.2.2.2.2.2.1 r22.2.1.2.2.2.2.2.2.1 r22.2.1.2.2.2.2.2.2.2.1 r22.2.1.2.2.2.2.2.2.2.2.1 r22.2.1.2.2.2.2.2.2.2.2.2.2.2 r22.2.2.1 r22.2.2.2.1 r22.2.2.2.2.1 r22.2.2.2.2.2.2.1 r22.2.2.2.2.2.2.2.1).bind fun r23=>
 rec r23.1.2.2.2.2.2 r23.2.1.1 r23.2.1.2.1 r23.2.1.2.2.1 r23.2.1.2.2.2.1 r23.2.1.2.2.2.2.1 r23.2.1.2.2.2.2.2.1 r23.2.1.2.2.2.2.2.2.1 r23.2.1.2.2.2.2.2.2.2.1 r23.2.1.2.2.2.2.2.2.2.2.1 r23.2.1.2.2.2.2.2.2.2.2.2.2.2 r23.2.2.1 r23.2.2.2.1 r23.2.2.2.2.1 r23.2.2.2.2.2.2.1 r23.2.2.2.2.2.2.2.1)
 | .inr r10=>(some (.inl (((),(r10.1.2.1,r10.1.2.2)),(r10.2.1,())))))
 else
 ((z3j N b0 (-1:Int) (0:Int) false b1 b2 b3 b4 b5 b6 b7 b8 b9 b10 b11 b12 b13 b14 b15 (rdL b13.1 b0 X2)).bind fun r24=>
 match r24 with
 | .inl r25=>((z3k N r25.1.2.2.2.2.2.1 r25.1.2.2.2.2.2.2.1 r25.1.2.2.2.2.2.2.2 r25.2.1.1 r25.2.1.2.1 r25.2.1.2.2.1 r25.2.1.2.2.2.1 r25.2.1.2.2.2.2.1 r25.2.1.2.2.2.2.2.1 r25.2.1.2.2.2.2.2.2.1 r25.2.1.2.2.2.2.2.2.2.1 r25.2.1.2.2.2.2.2.2.2.2.1 r25.2.1.2.2.2.2.2.2.2.2.2.2.2 r25.2.2.1 r25.2.2.2.1 r25.2.2.2.2.1 r25.2.2.2.2.2.2.1 r25.2.2.2.2.2.2.2.1).bind fun r27=>
 (z3l N r27.1.2.2.2.2.2 r27.2.1.1 r27.2.1.2.1 r27.2.1.2.2.1 r27.2.1.2.2.2.1 r27.2.1.2.2.2.2.1 r27.2.1.2.2.2.2.2.1 r27.2.1.2.2.2.2.2.2.1 r27.2.1.2.2.2.2.2.2.2.1 r27.2.1.2.2.2.2.2.2.2.2.1 r27.2.1.2.2.2.2.2.2.2.2.2.2.2 r27.2.2.1 r27.2.2.2.1 r27.2.2.2.2.1 r27.2.2.2.2.2.2.1 r27.2.2.2.2.2.2.2.1).bind fun r28=>
 rec r28.1.2.2.2.2.2 r28.2.1.1 r28.2.1.2.1 r28.2.1.2.2.1 r28.2.1.2.2.2.1 r28.2.1.2.2.2.2.1 r28.2.1.2.2.2.2.2.1 r28.2.1.2.2.2.2.2.2.1 r28.2.1.2.2.2.2.2.2.2.1 r28.2.1.2.2.2.2.2.2.2.2.1 r28.2.1.2.2.2.2.2.2.2.2.2.2.2 r28.2.2.1 r28.2.2.2.1 r28.2.2.2.2.1 r28.2.2.2.2.2.2.1 r28.2.2.2.2.2.2.2.1)
 | .inr r26=>(some (.inl (((),(r26.1.2.1,r26.1.2.2)),(r26.2.1,()))))))
 else
 ((z3j N b0 (-1:Int) (0:Int) false b1 b2 b3 b4 b5 b6 b7 b8 b9 b10 b11 b12 b13 b14 b15 (rdL b13.1 b0 X2)).bind fun r29=>
 match r29 with
 | .inl r30=>((z3k N r30.1.2.2.2.2.2.1 r30.1.2.2.2.2.2.2.1 r30.1.2.2.2.2.2.2.2 r30.2.1.1 r30.2.1.2.1 r30.2.1.2.2.1 r30.2.1.2.2.2.1 r30.2.1.2.2.2.2.1 r30.2.1.2.2.2.2.2.1 r30.2.1.2.2.2.2.2.2.1 r30.2.1.2.2.2.2.2.2.2.1 r30.2.1.2.2.2.2.2.2.2.2.1 r30.2.1.2.2.2.2.2.2.2.2.2.2.2 r30.2.2.1 r30.2.2.2.1 r30.2.2.2.2.1 r30.2.2.2.2.2.2.1 r30.2.2.2.2.2.2.2.1).bind fun r32=>
 (z3l N r32.1.2.2.2.2.2 r32.2.1.1 r32.2.1.2.1 r32.2.1.2.2.1 r32.2.1.2.2.2.1 r32.2.1.2.2.2.2.1 r32.2.1.2.2.2.2.2.1 r32.2.1.2.2.2.2.2.2.1 r32.2.1.2.2.2.2.2.2.2.1 r32.2.1.2.2.2.2.2.2.2.2.1 r32.2.1.2.2.2.2.2.2.2.2.2.2.2 r32.2.2.1 r32.2.2.2.1 r32.2.2.2.2.1 r32.2.2.2.2.2.2.1 r32.2.2.2.2.2.2.2.1).bind fun r33=>
 rec r33.1.2.2.2.2.2 r33.2.1.1 r33.2.1.2.1 r33.2.1.2.2.1 r33.2.1.2.2.2.1 r33.2.1.2.2.2.2.1 r33.2.1.2.2.2.2.2.1 r33.2.1.2.2.2.2.2.2.1 r33.2.1.2.2.2.2.2.2.2.1 r33.2.1.2.2.2.2.2.2.2.2.1 r33.2.1.2.2.2.2.2.2.2.2.2.2.2 r33.2.2.1 r33.2.2.2.1 r33.2.2.2.2.1 r33.2.2.2.2.2.2.1 r33.2.2.2.2.2.2.2.1)
 | .inr r31=>(some (.inl (((),(r31.1.2.1,r31.1.2.2)),(r31.2.1,())))))))
 else
 ((z3j N b0 (-1:Int) (0:Int) false b1 b2 b3 b4 b5 b6 b7 b8 b9 b10 b11 b12 b13 b14 b15 (false,(false,((0:Int),(([]:List Z3),(([]:List (List UInt8)),(([]:List Int),(([]:List Y6),([]:List Z1))))))))).bind fun r34=>
 match r34 with
 | .inl r35=>((z3k N r35.1.2.2.2.2.2.1 r35.1.2.2.2.2.2.2.1 r35.1.2.2.2.2.2.2.2 r35.2.1.1 r35.2.1.2.1 r35.2.1.2.2.1 r35.2.1.2.2.2.1 r35.2.1.2.2.2.2.1 r35.2.1.2.2.2.2.2.1 r35.2.1.2.2.2.2.2.2.1 r35.2.1.2.2.2.2.2.2.2.1 r35.2.1.2.2.2.2.2.2.2.2.1 r35.2.1.2.2.2.2.2.2.2.2.2.2.2 r35.2.2.1 r35.2.2.2.1 r35.2.2.2.2.1 r35.2.2.2.2.2.2.1 r35.2.2.2.2.2.2.2.1).bind fun r37=>
 (z3l N r37.1.2.2.2.2.2 r37.2.1.1 r37.2.1.2.1 r37.2.1.2.2.1 r37.2.1.2.2.2.1 r37.2.1.2.2.2.2.1 r37.2.1.2.2.2.2.2.1 r37.2.1.2.2.2.2.2.2.1 r37.2.1.2.2.2.2.2.2.2.1 r37.2.1.2.2.2.2.2.2.2.2.1 r37.2.1.2.2.2.2.2.2.2.2.2.2.2 r37.2.2.1 r37.2.2.2.1 r37.2.2.2.2.1 r37.2.2.2.2.2.2.1 r37.2.2.2.2.2.2.2.1).bind fun r38=>
 rec r38.1.2.2.2.2.2 r38.2.1.1 r38.2.1.2.1 r38.2.1.2.2.1 r38.2.1.2.2.2.1 r38.2.1.2.2.2.2.1 r38.2.1.2.2.2.2.2.1 r38.2.1.2.2.2.2.2.2.1 r38.2.1.2.2.2.2.2.2.2.1 r38.2.1.2.2.2.2.2.2.2.2.1 r38.2.1.2.2.2.2.2.2.2.2.2.2.2 r38.2.2.1 r38.2.2.2.1 r38.2.2.2.2.1 r38.2.2.2.2.2.2.1 r38.2.2.2.2.2.2.2.1)
 | .inr r36=>(some (.inl (((),(r36.1.2.1,r36.1.2.2)),(r36.2.1,()))))))
 else
 (some (.inr (((),((),())),((b1,(b2,(b3,(b4,(b5,(b6,(b7,(b8,(b9,((),((),b10))))))))))),(b11,(b12,((),(b15,()))))))))
def z10(N:Nat)(n:Nat):=
 itF (fun _ _ _ _ _ _ _ _ _ _ _ _ _ _ _ _=>none) (z1h N) n
theorem zdq(N:Nat)(n:Nat):z10 N (n+1)=z1h N (z10 N n):=rfl
def zd5(N:Nat)(a0:Z7)(a1:Z4):Option ((Z7×((List Int)×Bool))):=
 (z10 N N (0:Int) a0.1.1 a0.1.2.1 a0.1.2.2 a0.2.1.1 a0.2.1.2.1 a0.2.1.2.2 a0.2.2.1 a0.2.2.2.1 a0.2.2.2.2.1 a0.2.2.2.2.2.2.2 ([]:List Int) ([]:List Int) a1 a0 ([]:List Int)).bind fun r39=>
 match r39 with
 | .inl r40=>(some (r40.2.1,(r40.1.2.1,r40.1.2.2)))
 | .inr r41=>(some (((r41.2.1.1,(r41.2.1.2.1,r41.2.1.2.2.1)),((r41.2.1.2.2.2.1,(r41.2.1.2.2.2.2.1,r41.2.1.2.2.2.2.2.1)),(r41.2.1.2.2.2.2.2.2.1,(r41.2.1.2.2.2.2.2.2.2.1,(r41.2.1.2.2.2.2.2.2.2.2.1,(r41.2.2.1,(r41.2.2.2.1,r41.2.1.2.2.2.2.2.2.2.2.2.2.2))))))),(r41.2.2.2.2.2.1,true)))
def z0d(N:Nat)(rec:Int->Int->(List Int)->Option ((Unit×((List Int)×Unit))))(b0 b1:Int)(b2:(List Int)):Option ((Unit×((List Int)×Unit))):=
 bif (decide ((0:Int)<=b1))then
 (gd (decide (0<=(IntKind.wrap .i64 ((8:Int)*b1))))
 (let x1:=(Int.fdiv b0 (2^min (Int.toNat (IntKind.wrap .i64 ((8:Int)*b1))) (IntKind.bits .u64)))
 gd (fits (b2.length+1) 1)
 (let x2:=(b2++([(IntKind.wrap .u8 (x1))]:List Int))
 rec b0 (IntKind.wrap .i64 (b1-(1:Int))) x2)))
 else
 (some ((),(b2,())))
def z68(N:Nat)(n:Nat):=
 itF (fun _ _ _=>none) (z0d N) n
theorem zby(N:Nat)(n:Nat):z68 N (n+1)=z0d N (z68 N n):=rfl
def z2k(N:Nat)(a0 a1:Int):Option ((List Int)):=
 (z68 N N a0 (IntKind.wrap .i64 (a1-(1:Int))) ([]:List Int)).bind fun r3=>
 some r3.2.1
def y8(N:Nat)(a0 a1:Int):Option ((List Int)):=
 (z2k N (IntKind.wrap .u64 (a0)) a1).bind fun r1=>
 some r1
def z2x(N:Nat)(rec:(List (List Int))->Int->(List Int)->Option ((Unit×((List Int)×Unit))))(b0:(List (List Int)))(b1:Int)(b2:(List Int)):Option ((Unit×((List Int)×Unit))):=
 bif (decide (b1<(b0.length:Int)))then
 (gd (inB b1 (b0.length))
 (gd (fits (b2.length+List.length (rdL b0 b1 ([]:List Int))) 1)
 (let x1:=(b2++(rdL b0 b1 ([]:List Int)))
 rec b0 (IntKind.wrap .i64 (b1+(1:Int))) x1)))
 else
 (some ((),(b2,())))
def z96(N:Nat)(n:Nat):=
 itF (fun _ _ _=>none) (z2x N) n
theorem zfe(N:Nat)(n:Nat):z96 N (n+1)=z2x N (z96 N n):=rfl
def z6a(N:Nat)(a0:(List (List Int))):Option ((List Int)):=
 (z96 N N a0 (0:Int) ([]:List Int)).bind fun r2=>
 some r2.2.1
def W2(N:Nat)(a0 a1:Int):Option ((List Int)):=
 (z2k N (IntKind.wrap .u64 (a0)) a1).bind fun r1=>
 some r1
def z0e(N:Nat)(rec:(List Z1)->Int->(List Int)->Option ((Unit×((List Int)×Unit))))(b0:(List Z1))(b1:Int)(b2:(List Int)):Option ((Unit×((List Int)×Unit))):=
 bif (decide (b1<(b0.length:Int)))then
 (gd (inB b1 (b0.length))
 ((zd9 N (rdL b0 b1 U7)).bind fun r2=>
 gd (fits (b2.length+r2.length) 1)
 (let x3:=(b2++r2)
 rec b0 (IntKind.wrap .i64 (b1+(1:Int))) x3)))
 else
 (some ((),(b2,())))
def z69(N:Nat)(n:Nat):=
 itF (fun _ _ _=>none) (z0e N) n
theorem zbz(N:Nat)(n:Nat):z69 N (n+1)=z0e N (z69 N n):=rfl
def zaz(N:Nat)(a0:(List Z1)):Option ((List Int)):=
 (y8 N (a0.length:Int) (4:Int)).bind fun r1=>
 (z69 N N a0 (0:Int) r1).bind fun r4=>
 some r4.2.1
def w9(N:Nat)(rec:Int->Int->(List Int)->Option ((Unit×((List Int)×Unit))))(b0 b1:Int)(b2:(List Int)):Option ((Unit×((List Int)×Unit))):=
 bif (decide ((0:Int)<=b1))then
 (gd (decide (0<=(IntKind.wrap .i64 ((8:Int)*b1))))
 (let x1:=(Int.fdiv b0 (2^min (Int.toNat (IntKind.wrap .i64 ((8:Int)*b1))) (IntKind.bits .u64)))
 gd (fits (b2.length+1) 1)
 (let x2:=(b2++([(IntKind.wrap .u8 (x1))]:List Int))
 rec b0 (IntKind.wrap .i64 (b1-(1:Int))) x2)))
 else
 (some ((),(b2,())))
def z49(N:Nat)(n:Nat):=
 itF (fun _ _ _=>none) (w9 N) n
theorem zak(N:Nat)(n:Nat):z49 N (n+1)=w9 N (z49 N n):=rfl
def z5b(N:Nat)(a0 a1:Int):Option ((List Int)):=
 (z49 N N a0 (IntKind.wrap .i64 (a1-(1:Int))) ([]:List Int)).bind fun r3=>
 some r3.2.1
def z02(N:Nat)(rec:Int->Z4->Z7->(List Int)->Option ((Unit×((List Int)×Unit))))(b0:Int)(b1:Z4)(b2:Z7)(b3:(List Int)):Option ((Unit×((List Int)×Unit))):=
 bif (decide (b0<(b1.1.length:Int)))then
 (gd (inB b0 (b1.1.length))
 (bif (!((rdL b1.1 b0 X2).1))then
 (gd (fits (b3.length+1) 1)
 (let x21:=(b3++([(0:Int)]:List Int))
 rec (IntKind.wrap .i64 (b0+(1:Int))) b1 b2 x21))
 else
 (bif ((rdL b1.1 b0 X2).2).1 then
 ((W2 N ((((rdL b1.1 b0 X2).2).2).1) (4:Int)).bind fun r22=>
 gd (inB b0 (b2.2.2.2.2.2.1.length))
 (let x23:=(IntKind.wrap .i64 (((BitVec.ofInt (IntKind.bits .i64) (rdL b2.2.2.2.2.2.1 b0 (0:Int))&&&BitVec.ofInt (IntKind.bits .i64) (65535:Int)).toNat:Int)))
 (W2 N x23 (2:Int)).bind fun r24=>
 gd (inB b0 (b2.2.2.2.2.2.2.1.length))
 ((z5b N (rdL b2.2.2.2.2.2.2.1 b0 (0:Int)) (8:Int)).bind fun r25=>
 let x26:=([([(2:Int)]:List Int),r22,r24,r25]:List (List Int))
 (z6a N x26).bind fun r27=>
 gd (fits (b3.length+r27.length) 1)
 (let x28:=(b3++r27)
 rec (IntKind.wrap .i64 (b0+(1:Int))) b1 b2 x28))))
 else
 ((W2 N ((((rdL b1.1 b0 X2).2).2).1) (4:Int)).bind fun r29=>
 gd (inB b0 (b2.2.2.2.2.2.1.length))
 (let x30:=(IntKind.wrap .i64 (((BitVec.ofInt (IntKind.bits .i64) (rdL b2.2.2.2.2.2.1 b0 (0:Int))&&&BitVec.ofInt (IntKind.bits .i64) (65535:Int)).toNat:Int)))
 (W2 N x30 (2:Int)).bind fun r31=>
 gd (inB b0 (b2.2.2.2.2.2.2.1.length))
 ((z5b N (rdL b2.2.2.2.2.2.2.1 b0 (0:Int)) (8:Int)).bind fun r32=>
 let x33:=([([(1:Int)]:List Int),r29,r31,r32]:List (List Int))
 (z6a N x33).bind fun r34=>
 gd (fits (b3.length+r34.length) 1)
 (let x35:=(b3++r34)
 rec (IntKind.wrap .i64 (b0+(1:Int))) b1 b2 x35)))))))
 else
 (some ((),(b3,())))
def z2n(N:Nat)(n:Nat):=
 itF (fun _ _ _ _=>none) (z02 N) n
theorem zbf(N:Nat)(n:Nat):z2n N (n+1)=z02 N (z2n N n):=rfl
def z03(N:Nat)(rec:Int->Z4->Z7->(List Int)->Option (((Unit×(Unit×Unit))×(Z4×(Z7×((List Int)×Unit))))))(b0:Int)(b1:Z4)(b2:Z7)(b3:(List Int)):Option (((Unit×(Unit×Unit))×(Z4×(Z7×((List Int)×Unit))))):=
 bif (decide (b0<(b1.2.2.1.length:Int)))then
 (gd (inB b0 (b1.2.2.1.length))
 ((W2 N ((rdL b1.2.2.1 b0 X0).1) (4:Int)).bind fun r8=>
 (W2 N (((rdL b1.2.2.1 b0 X0).2).1) (4:Int)).bind fun r9=>
 (W2 N ((((rdL b1.2.2.1 b0 X0).2).2).1) (2:Int)).bind fun r10=>
 let x11:=(List.length (((((rdL b1.2.2.1 b0 X0).2).2).2).1):Int)
 (W2 N x11 (1:Int)).bind fun r12=>
 gd (decide (List.length (((((rdL b1.2.2.1 b0 X0).2).2).2).1)<maxB))
 (let x13:=(v8 (((((rdL b1.2.2.1 b0 X0).2).2).2).1))
 (zaz N (((((rdL b1.2.2.1 b0 X0).2).2).2).2)).bind fun r14=>
 let x15:=([r8,r9,r10,r12,x13,r14]:List (List Int))
 (z6a N x15).bind fun r16=>
 gd (fits (b3.length+r16.length) 1)
 (let x17:=(b3++r16)
 rec (IntKind.wrap .i64 (b0+(1:Int))) b1 b2 x17))))
 else
 (some (((),((),())),(b1,(b2,(b3,())))))
def z54(N:Nat)(n:Nat):=
 itF (fun _ _ _ _=>none) (z03 N) n
theorem zbg(N:Nat)(n:Nat):z54 N (n+1)=z03 N (z54 N n):=rfl
def zc1(N:Nat)(a0:Z4)(a1:Z7):Option ((List Int)):=
 let x1:=([(67:Int),(IntKind.wrap .u8 (a0.2.1.1)),(IntKind.wrap .u8 (a0.2.1.2.1)),(IntKind.wrap .u8 (a0.2.1.2.2))]:List Int)
 (W2 N a0.2.2.2.1 (4:Int)).bind fun r2=>
 (W2 N a0.2.2.2.2.2.1 (4:Int)).bind fun r3=>
 (W2 N a0.2.2.2.2.1 (2:Int)).bind fun r4=>
 (zaz N a0.2.2.2.2.2.2).bind fun r5=>
 (W2 N (a0.2.2.1.length:Int) (1:Int)).bind fun r6=>
 (z6a N ([x1,r2,r3,r4,r5,r6]:List (List Int))).bind fun r7=>
 (z54 N N (0:Int) a0 a1 r7).bind fun r18=>
 (W2 N (r18.2.1.1.length:Int) (2:Int)).bind fun r19=>
 gd (fits (r18.2.2.2.1.length+r19.length) 1)
 (let x20:=(r18.2.2.2.1++r19)
 (z2n N N (0:Int) r18.2.1 r18.2.2.1 x20).bind fun r36=>
 some r36.2.1)
def z3y(N:Nat)(rec:(List Int)->Int->(List (List Int))->Option ((((List Int)×Unit)×((List (List Int))×Unit))))(b0:(List Int))(b1:Int)(b2:(List (List Int))):Option ((((List Int)×Unit)×((List (List Int))×Unit))):=
 bif (decide (b1<(b0.length:Int)))then
 (gd (decide (0<=(0:Int))&&(decide ((0:Int)<=b1)&&decide (b1<=(b0.length:Int))))
 (gd (fits (b2.length+1) 24)
 (let x1:=(b2++([(cut2 b0 (0:Int) b1)]:List (List Int)))
 gd (decide (0<=b1)&&(decide (b1<=(b0.length:Int))&&decide ((b0.length:Int)<=(b0.length:Int))))
 (rec (cut2 b0 b1 (b0.length:Int)) b1 x1))))
 else
 (some ((b0,()),(b2,())))
def z6b(N:Nat)(n:Nat):=
 itF (fun _ _ _=>none) (z3y N) n
theorem zlm(N:Nat)(n:Nat):z6b N (n+1)=z3y N (z6b N n):=rfl
def zeq(N:Nat)(a0:(List Int))(a1:Int):Option ((List (List Int))):=
 (z6b N N a0 a1 ([]:List (List Int))).bind fun r2=>
 gd (fits (r2.2.1.length+1) 24)
 (let x3:=(r2.2.1++([r2.1.1]:List (List Int)))
 some x3)
def z83(N:Nat)(a0:V5):Option (V5):=
 (z2l N a0).bind fun r1=>
 let x2:=([(true,((0:Int),([]:List Int)))]:List Y9)
 gd (fits (r1.2.2.length+x2.length) 40)
 (let x3:=(r1.2.2++x2)
 some (r1.1,(r1.2.1,x3)))
def z01(N:Nat)(rec:(List Int)->Int->(List Int)->Option ((Unit×((List Int)×Unit))))(b0:(List Int))(b1:Int)(b2:(List Int)):Option ((Unit×((List Int)×Unit))):=
 bif (decide (b1<(b0.length:Int)))then
 (gd (inB b1 (b0.length))
 ((y8 N (rdL b0 b1 (0:Int)) (2:Int)).bind fun r8=>
 gd (fits (b2.length+r8.length) 1)
 (let x9:=(b2++r8)
 rec b0 (IntKind.wrap .i64 (b1+(1:Int))) x9)))
 else
 (some ((),(b2,())))
def z52(N:Nat)(n:Nat):=
 itF (fun _ _ _=>none) (z01 N) n
theorem zbe(N:Nat)(n:Nat):z52 N (n+1)=z01 N (z52 N n):=rfl
def zc0(N:Nat)(a0:Int)(a1 a2:(List Int)):Option ((List Int)):=
 (y8 N a0 (4:Int)).bind fun r1=>
 (y8 N (a1.length:Int) (4:Int)).bind fun r2=>
 (z15 N a1).bind fun r3=>
 (z2k N r3 (8:Int)).bind fun r4=>
 (y8 N (a2.length:Int) (2:Int)).bind fun r5=>
 let x6:=([([(83:Int)]:List Int),r1,r2,r4,r5]:List (List Int))
 (z6a N x6).bind fun r7=>
 (z52 N N a2 (0:Int) r7).bind fun r10=>
 (z15 N r10.2.1).bind fun r11=>
 (z2k N r11 (8:Int)).bind fun r12=>
 gd (fits (r10.2.1.length+r12.length) 1)
 (let x13:=(r10.2.1++r12)
 some x13)
def zaq(N:Nat)(rec:(List Int)->Int->Int->Option Ty3_)(b0:(List Int))(b1 b2:Int):Option Ty3_:=
 bif (decide (b2<(b0.length:Int)))then
 (gd (inB b2 (b0.length))
 (bif (eqi (rdL b0 b2 (0:Int)) b1)then
 (some (.inl (true,())))
 else
 (rec b0 b1 (IntKind.wrap .i64 (b2+(1:Int))))))
 else
 (some (.inr ((),())))
def zer(N:Nat)(n:Nat):=
 itF (fun _ _ _=>none) (zaq N) n
theorem yd2(N:Nat)(n:Nat):zer N (n+1)=zaq N (zer N n):=rfl
def y50(N:Nat)(a0:(List Int))(a1:Int):Option (Bool):=
 (zer N N a0 a1 (0:Int)).bind fun r1=>
 match r1 with
 | .inl r2=>(some r2.1)
 | .inr r3=>(some false)
def z97(N:Nat)(b0:Int)(b1:Bool)(b2:W9):Option (((Unit×Int)×(W9×Unit))⊕((Int×(Unit×Unit))×(W9×(Unit×Unit)))):=
 bif b1 then
 (some (.inl (((),(230:Int)),(b2,()))))
 else
 (some (.inr ((b0,((),())),(b2,((),())))))
def z98(N:Nat)(b0:Int)(b1:W9):Option (((Unit×Int)×(((List Bool)×(Unit×Int))×((List Int)×Unit)))):=
 gd (fits (0+b1.2.1.length) 8)
 (let x4:=(([]:List Int)++b1.2.1)
 gd (fits (x4.length+1) 8)
 (let x5:=(x4++([b0]:List Int))
 some (((),(0:Int)),((b1.1,((),b1.2.2)),(x5,())))))
def y0q(N:Nat)(a0:W9)(a1:Int):Option ((W9×Int)):=
 bif (decide (a1<(0:Int)))then
 ((z97 N a1 true a0).bind fun r1=>
 match r1 with
 | .inl r2=>(some (r2.2.1,r2.1.2))
 | .inr r3=>((z98 N r3.1.1 r3.2.1).bind fun r6=>
 some ((r6.2.1.1,(r6.2.2.1,r6.2.1.2.2)),r6.1.2)))
 else
 (bif (decide ((a0.1.length:Int)<=a1))then
 ((z97 N a1 true a0).bind fun r7=>
 match r7 with
 | .inl r8=>(some (r8.2.1,r8.1.2))
 | .inr r9=>((z98 N r9.1.1 r9.2.1).bind fun r10=>
 some ((r10.2.1.1,(r10.2.2.1,r10.2.1.2.2)),r10.1.2)))
 else
 (gd (inB a1 (a0.1.length))
 (bif (!(rdL a0.1 a1 false))then
 ((z97 N a1 true a0).bind fun r11=>
 match r11 with
 | .inl r12=>(some (r12.2.1,r12.1.2))
 | .inr r13=>((z98 N r13.1.1 r13.2.1).bind fun r14=>
 some ((r14.2.1.1,(r14.2.2.1,r14.2.1.2.2)),r14.1.2)))
 else
 ((y50 N a0.2.1 a1).bind fun r15=>
 (z97 N a1 r15 a0).bind fun r16=>
 match r16 with
 | .inl r17=>(some (r17.2.1,r17.1.2))
 | .inr r18=>((z98 N r18.1.1 r18.2.1).bind fun r19=>
 some ((r19.2.1.1,(r19.2.2.1,r19.2.1.2.2)),r19.1.2))))))
def z3z(N:Nat)(rec:Int->W9->(List Bool)->Option (((Unit×(Unit×Unit))×(W9×(Unit×((List Bool)×Unit))))))(b0:Int)(b1:W9)(b2:(List Bool)):Option (((Unit×(Unit×Unit))×(W9×(Unit×((List Bool)×Unit))))):=
 bif (decide (b0<(b1.2.1.length:Int)))then
 (gd (inB b0 (b1.2.1.length))
 (gd (inB (rdL b1.2.1 b0 (0:Int)) (b2.length))
 (rec (IntKind.wrap .i64 (b0+(1:Int))) b1 (setL b2 (rdL b1.2.1 b0 (0:Int)) false))))
 else
 (some (((),((),())),(b1,((),(b2,())))))
def z19(N:Nat)(n:Nat):=
 itF (fun _ _ _=>none) (z3z N) n
theorem zln(N:Nat)(n:Nat):z19 N (n+1)=z3z N (z19 N n):=rfl
def zb1(N:Nat)(a0:W9):Option (W9):=
 gd (fits (0+a0.1.length) 1)
 (let x1:=(([]:List Bool)++a0.1)
 (z19 N N (0:Int) a0 x1).bind fun r2=>
 some (r2.2.2.2.1,(([]:List Int),r2.2.1.2.2)))
def z5l(N:Nat)(rec:(List Int)->Int->Z7->(List Int)->Option (((Unit×(Unit×(List Int)))×(Z7×(Unit×Unit)))))(b0:(List Int))(b1:Int)(b2:Z7)(b3:(List Int)):Option (((Unit×(Unit×(List Int)))×(Z7×(Unit×Unit)))):=
 bif (decide (b1<(b3.length:Int)))then
 (gd (inB b1 (b3.length))
 ((y0q N b2.2.1 (rdL b3 b1 (0:Int))).bind fun r16=>
 rec b0 (IntKind.wrap .i64 (b1+(1:Int))) (b2.1,(r16.1,b2.2.2)) b3))
 else
 (some (((),((),b0)),(b2,((),()))))
def z4t(N:Nat)(n:Nat):=
 itF (fun _ _ _ _=>none) (z5l N) n
theorem zqe(N:Nat)(n:Nat):z4t N (n+1)=z5l N (z4t N n):=rfl
def z2y(N:Nat)(rec:(List Int)->(List Int)->Int->Z7->Z7->(List (List Int))->(List Int)->Option yng)(b0 b1:(List Int))(b2:Int)(b3 b4:Z7)(b5:(List (List Int)))(b6:(List Int)):Option yng:=
 bif (decide (b2<(b5.length:Int)))then
 (gd (inB b2 (b5.length))
 ((z82 N b3 (rdL b5 b2 ([]:List Int))).bind fun r4=>
 bif (decide (r4.2<(0:Int)))then
 (some (.inl ((),((b4,(250:Int)),()))))
 else
 (gd (fits (b6.length+1) 8)
 (let x5:=(b6++([r4.2]:List Int))
 rec b0 b1 (IntKind.wrap .i64 (b2+(1:Int))) r4.1 b4 b5 x5))))
 else
 (some (.inr (((),((),((),(b0,(b1,()))))),(b3,((),(b4,(b6,())))))))
def z6r(N:Nat)(n:Nat):=
 itF (fun _ _ _ _ _ _ _=>none) (z2y N) n
theorem zff(N:Nat)(n:Nat):z6r N (n+1)=z2y N (z6r N n):=rfl
def zgn(N:Nat)(a0:Z7)(a1:Z4):Option (zcv):=
 (zd5 N a0 a1).bind fun r1=>
 bif (!r1.2.2)then
 (some (a0,(250:Int)))
 else
 ((zc1 N a1 r1.1).bind fun r2=>
 (zeq N r2 r1.1.1.1).bind fun r3=>
 (z6r N N r1.2.1 r2 (0:Int) r1.1 a0 r3 ([]:List Int)).bind fun r6=>
 match r6 with
 | .inl r7=>(some r7.2.1)
 | .inr r8=>(let x9:=(IntKind.wrap .i64 (r8.2.2.2.1.2.2.2.1+(1:Int)))
 (z83 N r8.2.1.1).bind fun r10=>
 (zc0 N x9 r8.1.2.2.2.2.1 r8.2.2.2.2.1).bind fun r11=>
 (ref23_Put N r10 (Int.tmod x9 (2:Int)) r11).bind fun r12=>
 bif (!(eqi r12.2 (0:Int)))then
 (some (r8.2.2.2.1,(250:Int)))
 else
 ((z83 N r12.1).bind fun r13=>
 gd (fits (0+r8.1.2.2.2.1.length) 8)
 (let x14:=(([]:List Int)++r8.1.2.2.2.1)
 gd (fits (x14.length+r8.2.2.2.1.2.2.2.2.2.2.2.length) 8)
 (let x15:=(x14++r8.2.2.2.1.2.2.2.2.2.2.2)
 (z4t N N r8.2.2.2.2.1 (0:Int) (r13,(r8.2.1.2.1,(r8.2.1.2.2.1,(x9,((0:Int),r8.2.1.2.2.2.2.2))))) x15).bind fun r17=>
 (zb1 N r17.2.1.2.1).bind fun r18=>
 some ((r17.2.1.1,(r18,(r17.2.1.2.2.1,(r17.2.1.2.2.2.1,(r17.2.1.2.2.2.2.1,(r17.2.1.2.2.2.2.2.1,(r17.2.1.2.2.2.2.2.2.1,r17.1.2.2))))))),(0:Int)))))))
def znu(N:Nat)(a0:V5)(a1:Int)(a2:Z4):Option (zcv):=
 bif (decide (a1<(0:Int)))then
 (some ((((0:Int),(([]:List (List Int)),([]:List Y9))),((([]:List Bool),(([]:List Int),(0:Int))),((0:Int),((0:Int),((0:Int),(([]:List Int),(([]:List Int),([]:List Int)))))))),(1:Int)))
 else
 (let x1:=(IntKind.wrap .i64 ((a0.2.1.length:Int)-(2:Int)))
 bif (decide (x1<=a1))then
 (some ((((0:Int),(([]:List (List Int)),([]:List Y9))),((([]:List Bool),(([]:List Int),(0:Int))),((0:Int),((0:Int),((0:Int),(([]:List Int),(([]:List Int),([]:List Int)))))))),(1:Int)))
 else
 ((znv N (a0.2.1.length:Int) (IntKind.wrap .i64 ((2:Int)+a1))).bind fun r2=>
 (zgn N (a0,(r2.1,(a1,((0:Int),((0:Int),(([]:List Int),(([]:List Int),([]:List Int)))))))) a2).bind fun r3=>
 bif (!(eqi r3.2 (0:Int)))then
 (some ((((0:Int),(([]:List (List Int)),([]:List Y9))),((([]:List Bool),(([]:List Int),(0:Int))),((0:Int),((0:Int),((0:Int),(([]:List Int),(([]:List Int),([]:List Int)))))))),r3.2))
 else
 (some r3)))
def zot(N:Nat):Option (zax):=
 (zjd N ((2:Int),((2:Int),(1:Int)))).bind fun r1=>
 let x2:=([((1:Int),(([97]:List UInt8),(([]:List UInt8),((([]:List UInt8),([]:List UInt8)),(([]:List UInt8),(([]:List UInt8),(0:Int))))))),((1:Int),(([98]:List UInt8),(([]:List UInt8),((([]:List UInt8),([]:List UInt8)),(([]:List UInt8),(([]:List UInt8),(0:Int))))))),((1:Int),(([99]:List UInt8),(([]:List UInt8),((([]:List UInt8),([]:List UInt8)),(([]:List UInt8),(([]:List UInt8),(0:Int)))))))]:List Z1)
 (zje N r1.1 x2).bind fun r3=>
 (zal N (1500:Int) (20:Int)).bind fun r4=>
 (znu N r4.1 (1:Int) r3.1).bind fun r5=>
 some (r5.1,(r3.1,(0:Int)))
def znz(N:Nat)(a0:(List Z6))(a1:Int):Option (Bool):=
 bif (decide ((0:Int)<=a1))then
 (bif (decide (a1<(a0.length:Int)))then
 (gd (inB a1 (a0.length))
 (some ((rdL a0 a1 X2).1)))
 else
 (some false))
 else
 (some false)
def z9y(N:Nat)(a0:Int)(a1:(List Int)):Option ((Unit×(Unit×((List Int)×Unit)))):=
 gd (fits (a1.length+1) 8)
 (let x1:=(a1++([a0]:List Int))
 some ((),((),(x1,()))))
def y0(N:Nat)(self:Int->(List Z6)->(List Int)->Bool->(List Int)->Option Ty1_)(rec:Int->(List Int)->Int->Int->(List Int)->(List Z6)->Bool->(List Int)->Option yne)(b0:Int)(b1:(List Int))(b2 b3:Int)(b4:(List Int))(b5:(List Z6))(b6:Bool)(b7:(List Int)):Option yne:=
 bif (decide (b3<b2))then
 (gd (inB b3 (b1.length))
 (match self (rdL b1 b3 (0:Int)) b5 b4 b6 b7 with
 | some r3=>(rec b0 b1 b2 (IntKind.wrap .i64 (b3+(1:Int))) r3.2.2.2.1 r3.2.1 r3.2.2.2.2.1 r3.2.2.2.2.2.2.2.2.1)
 | none=>none))
 else
 (some ((b0,((),())),((),(b4,((),((),(b7,(b5,(b6,(((),((),((),((),())))),()))))))))))
def z09(N:Nat)(self:Int->(List Z6)->(List Int)->Bool->(List Int)->Option Ty1_)(n:Nat):=
 itF (fun _ _ _ _ _ _ _ _=>none) (y0 N self) n
theorem za1(N:Nat)(self:Int->(List Z6)->(List Int)->Bool->(List Int)->Option Ty1_)(n:Nat):z09 N self (n+1)=y0 N self (z09 N self n):=rfl
def z0w(N:Nat)(self:Int->(List Z6)->(List Int)->Bool->(List Int)->Option Ty1_)(a0:Int)(a1:(List Z6))(a2:(List Int))(a3:Bool)(a4:(List Int)):Option Ty1_:=
 match znz N a1 a0 with
 | some r1=>(bif (!r1)then
 (some ((),(a1,((),(a2,(a3,(((),((),((),((),())))),((),((),(a4,()))))))))))
 else
 (gd (inB a0 (a2.length))
 (bif (eqi (rdL a2 a0 (0:Int)) (2:Int))then
 (some ((),(a1,((),(a2,(a3,(((),((),((),((),())))),((),((),(a4,()))))))))))
 else
 (gd (inB a0 (a2.length))
 (bif (eqi (rdL a2 a0 (0:Int)) (1:Int))then
 (some ((),(a1,((),(a2,(false,(((),((),((),((),())))),((),((),(a4,()))))))))))
 else
 (gd (inB a0 (a2.length))
 (gd (inB a0 (a1.length))
 (let x2:=(List.length (((((((rdL a1 a0 X2).2).2).2).2).2).1):Int)
 match z09 N self N a0 (((((((rdL a1 a0 X2).2).2).2).2).2).1) x2 (0:Int) (setL a2 a0 (1:Int)) a1 a3 a4 with
 | some r4=>(gd (inB r4.1.1 (r4.2.2.1.length))
 (match z9y N r4.1.1 r4.2.2.2.2.2.1 with
 | some r5=>(some ((),(r4.2.2.2.2.2.2.1,((),((setL r4.2.2.1 r4.1.1 (2:Int)),(r4.2.2.2.2.2.2.2.1,(((),((),((),((),())))),((),((),(r5.2.2.1,()))))))))))
 | none=>none))
 | none=>none))))))))
 | none=>none
def J5(N n:Nat):Int->(List Z6)->(List Int)->Bool->(List Int)->Option Ty1_:=
 itF (fun _ _ _ _ _=>none) (z0w N) n
theorem zgt(N n:Nat):J5 N (n+1)=z0w N (J5 N n):=rfl
def zky(N:Nat):Int->(List Z6)->(List Int)->Bool->(List Int)->Option Ty1_:=
 J5 N N
def U5(N:Nat)(rec:(List Int)->Int->Int->Bool->(List Z6)->(List Int)->(List Int)->Option ((Unit×(Bool×(Unit×((List Int)×Unit))))))(b0:(List Int))(b1 b2:Int)(b3:Bool)(b4:(List Z6))(b5 b6:(List Int)):Option ((Unit×(Bool×(Unit×((List Int)×Unit))))):=
 bif (decide (b2<b1))then
 (gd (inB b2 (b0.length))
 (match zky N (rdL b0 b2 (0:Int)) b4 b5 b3 b6 with
 | some r2=>(rec b0 b1 (IntKind.wrap .i64 (b2+(1:Int))) r2.2.2.2.2.1 r2.2.1 r2.2.2.2.1 r2.2.2.2.2.2.2.2.2.1)
 | none=>none))
 else
 (some ((),(b3,((),(b6,())))))
def U8(N:Nat)(n:Nat):=
 itF (fun _ _ _ _ _ _ _=>none) (U5 N) n
theorem z2h(N:Nat)(n:Nat):U8 N (n+1)=U5 N (U8 N n):=rfl
def pool_visit_m__pool_Reach_c1(N:Nat)(a0:(List Z6))(a1 a2:(List Int)):Option ((Bool×(Unit×((List Int)×Unit)))):=
 gd ((decide (0<=(a0.length:Int))&&decide ((a0.length:Int)<=(a0.length:Int)))&&(decide ((a0.length:Int)<maxB)&&decide ((a0.length:Int)*8<maxB)))
 (let x1:=(List.replicate (Int.toNat (a0.length:Int)) (0:Int))
 match U8 N N a1 (a1.length:Int) (0:Int) true a0 x1 a2 with
 | some r3=>(some (r3.2.1,((),(r3.2.2.2.1,()))))
 | none=>none)
def z13(N:Nat)(a0:List Int):Option (Unit×((List Int)×Unit)):=
 gd (Nat.blt (a0.length) 4611686018427387904) (some ((),(z72 a0,())))
def za7(N:Nat)(a0:(List Z6))(a1:(List Int)):Option ((List Int)):=
 match pool_visit_m__pool_Reach_c1 N a0 a1 ([]:List Int)with
 | some r1=>(match z13 N r1.2.2.1 with
 | some r2=>(some r2.2.1)
 | none=>none)
 | none=>none
def zbt(N:Nat)(a0:Z7)(a1:Int):Option ((Int×Bool)):=
 bif (decide (a1<(0:Int)))then
 (some ((0:Int),false))
 else
 (let x1:=(decide ((a0.2.2.2.2.2.1.length:Int)<=a1))
 bif x1 then
 (some ((0:Int),false))
 else
 (gd (inB a1 (a0.2.2.2.2.2.1.length))
 (let x2:=(decide ((rdL a0.2.2.2.2.2.1 a1 (0:Int))<(0:Int)))
 bif x2 then
 (some ((0:Int),false))
 else
 (gd (inB a1 (a0.2.2.2.2.2.1.length))
 (some ((rdL a0.2.2.2.2.2.1 a1 (0:Int)),true))))))
def z1f(N:Nat)(rec:Int->Int->Z7->Int->(List Int)->(List Int)->(List Int)->Option yn4)(b0 b1:Int)(b2:Z7)(b3:Int)(b4 b5 b6:(List Int)):Option yn4:=
 bif (decide (b1<b0))then
 (gd (inB b1 (b6.length))
 ((zbt N b2 (rdL b6 b1 (0:Int))).bind fun r5=>
 bif r5.2 then
 (gd (fits (b4.length+1) 8)
 (let x6:=(b4++([(rdL b6 b1 (0:Int))]:List Int))
 rec b0 (IntKind.wrap .i64 (b1+(1:Int))) b2 b3 x6 b5 b6))
 else
 (rec b0 (IntKind.wrap .i64 (b1+(1:Int))) b2 b3 b4 b5 b6)))
 else
 (some (((),()),((),(((),((),b3)),(b4,(b5,()))))))
def z7a(N:Nat)(n:Nat):=
 itF (fun _ _ _ _ _ _ _=>none) (z1f N) n
theorem zdo(N:Nat)(n:Nat):z7a N (n+1)=z1f N (z7a N n):=rfl
def z1g(N:Nat)(rec:(List W7)->Int->Int->Z7->Z4->(List Int)->Option ((y81×(Z7×(Z4×(Unit×((List Int)×Unit)))))))(b0:(List W7))(b1 b2:Int)(b3:Z7)(b4:Z4)(b5:(List Int)):Option ((y81×(Z7×(Z4×(Unit×((List Int)×Unit)))))):=
 bif (decide (b2<b1))then
 (gd (inB b2 (b0.length))
 (let x1:=([(((rdL b0 b2 X0).2).2).1]:List Int)
 gd (fits (b5.length+x1.length) 8)
 (let x2:=(b5++x1)
 rec b0 b1 (IntKind.wrap .i64 (b2+(1:Int))) b3 b4 x2)))
 else
 (some (((),((),((),()))),(b3,(b4,((),(b5,()))))))
def z7b(N:Nat)(n:Nat):=
 itF (fun _ _ _ _ _ _=>none) (z1g N) n
theorem zdp(N:Nat)(n:Nat):z7b N (n+1)=z1g N (z7b N n):=rfl
def zaa(N:Nat)(a0:Z7)(a1:Z4):Option (G2):=
 (z7b N N a1.2.2.1 (a1.2.2.1.length:Int) (0:Int) a0 a1 ([a1.2.2.2.2.1]:List Int)).bind fun r3=>
 (za7 N r3.2.2.1.1 r3.2.2.2.2.1).bind fun r4=>
 (z7a N N (r4.length:Int) (0:Int) r3.2.1 (0:Int) ([]:List Int) ([]:List Int) r4).bind fun r7=>
 some (r7.2.2.2.1,(r7.2.2.2.2.1,r7.2.2.1.2.2))
def zqi(N:Nat)(a0:G2):Option (Bool):=
 some (eqi (a0.1.length:Int) (0:Int))
def z5i(N:Nat)(a0:List Int):Option (List Int):=
 gd (fits (a0.length) 8) (some a0)
def y2v(N:Nat)(a0:V5)(a1:Int):Option (Bool):=
 bif (decide ((0:Int)<=a1))then
 (some (decide (a1<(a0.2.1.length:Int))))
 else
 (some false)
def J6(N:Nat)(a0:(List Y9)):Option ((List Y9)):=
 some a0
def zl7(N:Nat)(a0:Int)(a1:Bool)(a2:Int)(a3:(List Int))(a4:Int)(a5:(List Int))(a6:Int):Option ((Unit×(Int×((List Int)×((List Int)×(Unit×Unit)))))⊕(Unit×(Int×(Unit×((List Int)×(Int×Unit)))))):=
 bif (!a1)then
 (bif (eqi a2 a4)then
 (some (.inl ((),(a4,(a3,(a5,((),())))))))
 else
 (some (.inr ((),(a4,((),(a5,(a6,()))))))))
 else
 (some (.inr ((),(a4,((),(a5,(a6,())))))))
def V4(N:Nat)(rec:(List Y9)->Int->Int->(List Int)->Int->Option Ty6_)(b0:(List Y9))(b1 b2:Int)(b3:(List Int))(b4:Int):Option Ty6_:=
 bif (decide ((0:Int)<=b1))then
 (gd (inB b1 (b0.length))
 ((zl7 N b1 ((rdL b0 b1 z18).1) (((rdL b0 b1 z18).2).1) (((rdL b0 b1 z18).2).2) b2 b3 b4).bind fun r2=>
 match r2 with
 | .inl r3=>(some (.inl ((),(((),((),())),(r3.2.1,(r3.2.2.1,((),(r3.2.2.2.1,()))))))))
 | .inr r4=>(rec b0 (IntKind.wrap .i64 (b1-(1:Int))) r4.2.1 r4.2.2.2.1 r4.2.2.2.2.1)))
 else
 (some (.inr ((),(((),((),())),(b2,((),(b3,(b4,()))))))))
def X5(N:Nat)(n:Nat):=
 itF (fun _ _ _ _ _=>none) (V4 N) n
theorem z2j(N:Nat)(n:Nat):X5 N (n+1)=V4 N (X5 N n):=rfl
def U4(N:Nat)(a0:(List Y9))(a1:Int)(a2:(List Int))(a3:Int):Option Ty6_:=
 let x1:=(IntKind.wrap .i64 ((a0.length:Int)-(1:Int)))
 (X5 N N a0 x1 a1 a2 a3).bind fun r5=>
 match r5 with
 | .inl r6=>(some (.inl ((),(((),((),())),(r6.2.2.1,(r6.2.2.2.1,((),(r6.2.2.2.2.2.1,()))))))))
 | .inr r7=>(some (.inr ((),(((),((),())),(r7.2.2.1,((),(r7.2.2.2.2.1,(r7.2.2.2.2.2.1,()))))))))
def zn1(N:Nat)(b0:(List Y9))(b1:V5)(b2:Int):Option (((Unit×Unit)×((List Int)×(Unit×Unit)))⊕(y81×(V5×(Int×(Unit×((List Int)×(Int×Unit))))))):=
 (U4 N b0 b2 ([]:List Int) (0:Int)).bind fun r3=>
 match r3 with
 | .inl r4=>(some (.inl (((),()),(r4.2.2.2.1,((),())))))
 | .inr r5=>(some (.inr (((),((),((),()))),(b1,(r5.2.2.1,((),(r5.2.2.2.2.1,(r5.2.2.2.2.2.1,()))))))))
def zub(N:Nat)(a0:V5)(a1:Int):Option (((List Int)×Int)):=
 (y2v N a0 a1).bind fun r1=>
 bif (!r1)then
 (some (([]:List Int),(230:Int)))
 else
 ((J6 N a0.2.2).bind fun r2=>
 (zn1 N r2 a0 a1).bind fun r6=>
 match r6 with
 | .inl r7=>(some (r7.2.1,(0:Int)))
 | .inr r8=>(gd (inB r8.2.2.1 (r8.2.1.2.1.length))
 (some ((rdL r8.2.1.2.1 r8.2.2.1 ([]:List Int)),(0:Int)))))
def z3h(N:Nat)(rec:Int->(List Int)->Int->Int->Option ((Int×Unit)))(b0:Int)(b1:(List Int))(b2 b3:Int):Option ((Int×Unit)):=
 bif (decide (b3<b2))then
 (gd (inB b3 (b1.length))
 (let x1:=(IntKind.wrap .u64 (((BitVec.ofInt (IntKind.bits .u64) b0^^^BitVec.ofInt (IntKind.bits .u64) (IntKind.wrap .u64 ((rdL b1 b3 (0:Int))))).toNat:Int)))
 let x2:=(IntKind.wrap .u64 (x1*(1099511628211:Int)))
 rec x2 b1 b2 (IntKind.wrap .i64 (b3+(1:Int)))))
 else
 (some (b0,()))
def z9p(N:Nat)(n:Nat):=
 itF (fun _ _ _ _=>none) (z3h N) n
theorem zfy(N:Nat)(n:Nat):z9p N (n+1)=z3h N (z9p N n):=rfl
def zkz(N:Nat)(a0:(List Int)):Option (Int):=
 (z9p N N (14695981039346656037:Int) a0 (a0.length:Int) (0:Int)).bind fun r3=>
 some r3.1
def z9u(N:Nat)(a0 a1:(List Int))(a2 a3:Int)(a4:(List (List Int)))(a5:(List Y9))(a6:(List Bool))(a7:(List Int))(a8 a9 a10 a11:Int)(a12 a13 a14:(List Int))(a15 a16:Int):Option (Bool):=
 (zub N (a3,(a4,a5)) a16).bind fun r1=>
 bif (eqi r1.2 (0:Int))then
 (bif (decide (a15<(a13.length:Int)))then
 ((zkz N r1.1).bind fun r2=>
 gd (inB a15 (a13.length))
 (some (eqi r2 (rdL a13 a15 (0:Int)))))
 else
 (some false))
 else
 (some false)
def za0(N:Nat)(a0:(List Int))(a1 a2:Int)(a3:(List (List Int)))(a4:(List Y9))(a5:(List Bool))(a6:(List Int))(a7 a8 a9 a10:Int)(a11 a12 a13 a14:(List Int)):Option ((Unit×ycw)):=
 some ((),((),((a0,((),(a1,(a2,(a3,(a4,(a5,(a6,(a7,(a8,(a9,(a10,(a11,(a12,a13)))))))))))))),(a14,()))))
def z73(N:Nat)(a0 a1 a2:Int)(a3:(List Int))(a4 a5:Int)(a6:(List (List Int)))(a7:(List Y9))(a8:(List Bool))(a9:(List Int))(a10 a11 a12 a13:Int)(a14 a15 a16 a17:(List Int)):Option ((Unit×(Int×ycw))⊕(Unit×(Int×ycw))):=
 bif (eqi a2 (0:Int))then
 (some (.inl ((),(a2,((),((a3,((),(a4,(a5,(a6,(a7,(a8,(a9,(a10,(a11,(a12,(a13,(a14,(a15,a16)))))))))))))),(a17,())))))))
 else
 (bif (decide (a1<(0:Int)))then
 (some (.inr ((),((IntKind.wrap .i64 (a2-(1:Int))),((),((a3,((),(a4,(a5,(a6,(a7,(a8,(a9,(a10,(a11,(a12,(a13,(a14,(a15,a16)))))))))))))),(a17,())))))))
 else
 ((z9u N a3 a17 a4 a5 a6 a7 a8 a9 a10 a11 a12 a13 a14 a15 a16 a0 a1).bind fun r1=>
 bif r1 then
 (some (.inr ((),((IntKind.wrap .i64 (a2-(1:Int))),((),((a3,((),((IntKind.wrap .i64 (a4+(1:Int))),(a5,(a6,(a7,(a8,(a9,(a10,(a11,(a12,(a13,(a14,(a15,a16)))))))))))))),(a17,())))))))
 else
 (gd (fits (a17.length+1) 8)
 (let x2:=(a17++([a0]:List Int))
 some (.inr ((),((IntKind.wrap .i64 (a2-(1:Int))),((),((a3,((),(a4,(a5,(a6,(a7,(a8,(a9,(a10,(a11,(a12,(a13,(a14,(a15,a16)))))))))))))),(x2,()))))))))))
def Q5(N:Nat)(rec:(List Int)->Int->Int->(List (List Int))->(List Y9)->(List Bool)->(List Int)->Int->Int->Int->Int->(List Int)->(List Int)->(List Int)->(List Int)->Int->Option (Ty5_⊕Ty5_))(b0:(List Int))(b1 b2:Int)(b3:(List (List Int)))(b4:(List Y9))(b5:(List Bool))(b6:(List Int))(b7 b8 b9 b10:Int)(b11 b12 b13 b14:(List Int))(b15:Int):Option (Ty5_⊕Ty5_):=
 let x1:=(decide ((0:Int)<(b0.length:Int)))
 bif x1 then
 (gd (inB (0:Int) (b0.length))
 ((zbt N ((b2,(b3,b4)),((b5,(b6,b7)),(b8,(b9,(b10,(b11,(b12,b13))))))) (rdL b0 (0:Int) (0:Int))).bind fun r2=>
 bif (!r2.2)then
 ((z73 N (rdL b0 (0:Int) (0:Int)) (-1:Int) b15 b0 b1 b2 b3 b4 b5 b6 b7 b8 b9 b10 b11 b12 b13 b14).bind fun r3=>
 match r3 with
 | .inl r4=>(some (.inl ((),(((),()),(r4.2.1,((),((r4.2.2.2.1.1,((),(r4.2.2.2.1.2.2.1,(r4.2.2.2.1.2.2.2.1,(r4.2.2.2.1.2.2.2.2.1,(r4.2.2.2.1.2.2.2.2.2.1,(r4.2.2.2.1.2.2.2.2.2.2.1,(r4.2.2.2.1.2.2.2.2.2.2.2.1,(r4.2.2.2.1.2.2.2.2.2.2.2.2.1,(r4.2.2.2.1.2.2.2.2.2.2.2.2.2.1,(r4.2.2.2.1.2.2.2.2.2.2.2.2.2.2.1,(r4.2.2.2.1.2.2.2.2.2.2.2.2.2.2.2.1,(r4.2.2.2.1.2.2.2.2.2.2.2.2.2.2.2.2.1,(r4.2.2.2.1.2.2.2.2.2.2.2.2.2.2.2.2.2.1,r4.2.2.2.1.2.2.2.2.2.2.2.2.2.2.2.2.2.2)))))))))))))),(r4.2.2.2.2.1,((),())))))))))
 | .inr r5=>(gd (decide (0<=(1:Int))&&(decide ((1:Int)<=(r5.2.2.2.1.1.length:Int))&&decide ((r5.2.2.2.1.1.length:Int)<=(r5.2.2.2.1.1.length:Int))))
 (let x6:=(cut2 r5.2.2.2.1.1 (1:Int) (r5.2.2.2.1.1.length:Int))
 rec x6 r5.2.2.2.1.2.2.1 r5.2.2.2.1.2.2.2.1 r5.2.2.2.1.2.2.2.2.1 r5.2.2.2.1.2.2.2.2.2.1 r5.2.2.2.1.2.2.2.2.2.2.1 r5.2.2.2.1.2.2.2.2.2.2.2.1 r5.2.2.2.1.2.2.2.2.2.2.2.2.1 r5.2.2.2.1.2.2.2.2.2.2.2.2.2.1 r5.2.2.2.1.2.2.2.2.2.2.2.2.2.2.1 r5.2.2.2.1.2.2.2.2.2.2.2.2.2.2.2.1 r5.2.2.2.1.2.2.2.2.2.2.2.2.2.2.2.2.1 r5.2.2.2.1.2.2.2.2.2.2.2.2.2.2.2.2.2.1 r5.2.2.2.1.2.2.2.2.2.2.2.2.2.2.2.2.2.2 r5.2.2.2.2.1 r5.2.1)))
 else
 ((z73 N (rdL b0 (0:Int) (0:Int)) r2.1 b15 b0 b1 b2 b3 b4 b5 b6 b7 b8 b9 b10 b11 b12 b13 b14).bind fun r7=>
 match r7 with
 | .inl r8=>(some (.inl ((),(((),()),(r8.2.1,((),((r8.2.2.2.1.1,((),(r8.2.2.2.1.2.2.1,(r8.2.2.2.1.2.2.2.1,(r8.2.2.2.1.2.2.2.2.1,(r8.2.2.2.1.2.2.2.2.2.1,(r8.2.2.2.1.2.2.2.2.2.2.1,(r8.2.2.2.1.2.2.2.2.2.2.2.1,(r8.2.2.2.1.2.2.2.2.2.2.2.2.1,(r8.2.2.2.1.2.2.2.2.2.2.2.2.2.1,(r8.2.2.2.1.2.2.2.2.2.2.2.2.2.2.1,(r8.2.2.2.1.2.2.2.2.2.2.2.2.2.2.2.1,(r8.2.2.2.1.2.2.2.2.2.2.2.2.2.2.2.2.1,(r8.2.2.2.1.2.2.2.2.2.2.2.2.2.2.2.2.2.1,r8.2.2.2.1.2.2.2.2.2.2.2.2.2.2.2.2.2.2)))))))))))))),(r8.2.2.2.2.1,((),())))))))))
 | .inr r9=>(gd (decide (0<=(1:Int))&&(decide ((1:Int)<=(r9.2.2.2.1.1.length:Int))&&decide ((r9.2.2.2.1.1.length:Int)<=(r9.2.2.2.1.1.length:Int))))
 (let x10:=(cut2 r9.2.2.2.1.1 (1:Int) (r9.2.2.2.1.1.length:Int))
 rec x10 r9.2.2.2.1.2.2.1 r9.2.2.2.1.2.2.2.1 r9.2.2.2.1.2.2.2.2.1 r9.2.2.2.1.2.2.2.2.2.1 r9.2.2.2.1.2.2.2.2.2.2.1 r9.2.2.2.1.2.2.2.2.2.2.2.1 r9.2.2.2.1.2.2.2.2.2.2.2.2.1 r9.2.2.2.1.2.2.2.2.2.2.2.2.2.1 r9.2.2.2.1.2.2.2.2.2.2.2.2.2.2.1 r9.2.2.2.1.2.2.2.2.2.2.2.2.2.2.2.1 r9.2.2.2.1.2.2.2.2.2.2.2.2.2.2.2.2.1 r9.2.2.2.1.2.2.2.2.2.2.2.2.2.2.2.2.2.1 r9.2.2.2.1.2.2.2.2.2.2.2.2.2.2.2.2.2.2 r9.2.2.2.2.1 r9.2.1)))))
 else
 (some (.inr ((),(((),()),(b15,((),((b0,((),(b1,(b2,(b3,(b4,(b5,(b6,(b7,(b8,(b9,(b10,(b11,(b12,b13)))))))))))))),(b14,((),())))))))))
def Q9(N:Nat)(n:Nat):=
 itF (fun _ _ _ _ _ _ _ _ _ _ _ _ _ _ _ _=>none) (Q5 N) n
theorem z4l(N:Nat)(n:Nat):Q9 N (n+1)=Q5 N (Q9 N n):=rfl
def z50(N:Nat)(a0:Int)(a1:(List Int))(a2 a3:Int)(a4:(List (List Int)))(a5:(List Y9))(a6:(List Bool))(a7:(List Int))(a8 a9 a10 a11:Int)(a12 a13 a14 a15:(List Int)):Option (Ty5_⊕Ty5_):=
 (Q9 N N a1 a2 a3 a4 a5 a6 a7 a8 a9 a10 a11 a12 a13 a14 a15 a0).bind fun r11=>
 match r11 with
 | .inl r12=>(some (.inl ((),(((),()),(r12.2.2.1,((),((r12.2.2.2.2.1.1,((),(r12.2.2.2.2.1.2.2.1,(r12.2.2.2.2.1.2.2.2.1,(r12.2.2.2.2.1.2.2.2.2.1,(r12.2.2.2.2.1.2.2.2.2.2.1,(r12.2.2.2.2.1.2.2.2.2.2.2.1,(r12.2.2.2.2.1.2.2.2.2.2.2.2.1,(r12.2.2.2.2.1.2.2.2.2.2.2.2.2.1,(r12.2.2.2.2.1.2.2.2.2.2.2.2.2.2.1,(r12.2.2.2.2.1.2.2.2.2.2.2.2.2.2.2.1,(r12.2.2.2.2.1.2.2.2.2.2.2.2.2.2.2.2.1,(r12.2.2.2.2.1.2.2.2.2.2.2.2.2.2.2.2.2.1,(r12.2.2.2.2.1.2.2.2.2.2.2.2.2.2.2.2.2.2.1,r12.2.2.2.2.1.2.2.2.2.2.2.2.2.2.2.2.2.2.2)))))))))))))),(r12.2.2.2.2.2.1,((),())))))))))
 | .inr r13=>(some (.inr ((),(((),()),(r13.2.2.1,((),((r13.2.2.2.2.1.1,((),(r13.2.2.2.2.1.2.2.1,(r13.2.2.2.2.1.2.2.2.1,(r13.2.2.2.2.1.2.2.2.2.1,(r13.2.2.2.2.1.2.2.2.2.2.1,(r13.2.2.2.2.1.2.2.2.2.2.2.1,(r13.2.2.2.2.1.2.2.2.2.2.2.2.1,(r13.2.2.2.2.1.2.2.2.2.2.2.2.2.1,(r13.2.2.2.2.1.2.2.2.2.2.2.2.2.2.1,(r13.2.2.2.2.1.2.2.2.2.2.2.2.2.2.2.1,(r13.2.2.2.2.1.2.2.2.2.2.2.2.2.2.2.2.1,(r13.2.2.2.2.1.2.2.2.2.2.2.2.2.2.2.2.2.1,(r13.2.2.2.2.1.2.2.2.2.2.2.2.2.2.2.2.2.2.1,r13.2.2.2.2.1.2.2.2.2.2.2.2.2.2.2.2.2.2.2)))))))))))))),(r13.2.2.2.2.2.1,((),())))))))))
def zif(N:Nat)(b0:Int)(b1:(List Int))(b2 b3:Int)(b4:(List (List Int)))(b5:(List Y9))(b6:(List Bool))(b7:(List Int))(b8 b9 b10 b11:Int)(b12 b13 b14 b15:(List Int)):Option (((Unit×Unit)×(Unit×ycw))⊕((Unit×Unit)×(Unit×ycw))):=
 (z50 N b0 b1 b2 b3 b4 b5 b6 b7 b8 b9 b10 b11 b12 b13 b14 b15).bind fun r3=>
 match r3 with
 | .inl r4=>(some (.inl (((),()),((),((),((r4.2.2.2.2.1.1,((),(r4.2.2.2.2.1.2.2.1,(r4.2.2.2.2.1.2.2.2.1,(r4.2.2.2.2.1.2.2.2.2.1,(r4.2.2.2.2.1.2.2.2.2.2.1,(r4.2.2.2.2.1.2.2.2.2.2.2.1,(r4.2.2.2.2.1.2.2.2.2.2.2.2.1,(r4.2.2.2.2.1.2.2.2.2.2.2.2.2.1,(r4.2.2.2.2.1.2.2.2.2.2.2.2.2.2.1,(r4.2.2.2.2.1.2.2.2.2.2.2.2.2.2.2.1,(r4.2.2.2.2.1.2.2.2.2.2.2.2.2.2.2.2.1,(r4.2.2.2.2.1.2.2.2.2.2.2.2.2.2.2.2.2.1,(r4.2.2.2.2.1.2.2.2.2.2.2.2.2.2.2.2.2.2.1,r4.2.2.2.2.1.2.2.2.2.2.2.2.2.2.2.2.2.2.2)))))))))))))),(r4.2.2.2.2.2.1,())))))))
 | .inr r5=>(some (.inr (((),()),((),((),((r5.2.2.2.2.1.1,((),(r5.2.2.2.2.1.2.2.1,(r5.2.2.2.2.1.2.2.2.1,(r5.2.2.2.2.1.2.2.2.2.1,(r5.2.2.2.2.1.2.2.2.2.2.1,(r5.2.2.2.2.1.2.2.2.2.2.2.1,(r5.2.2.2.2.1.2.2.2.2.2.2.2.1,(r5.2.2.2.2.1.2.2.2.2.2.2.2.2.1,(r5.2.2.2.2.1.2.2.2.2.2.2.2.2.2.1,(r5.2.2.2.2.1.2.2.2.2.2.2.2.2.2.2.1,(r5.2.2.2.2.1.2.2.2.2.2.2.2.2.2.2.2.1,(r5.2.2.2.2.1.2.2.2.2.2.2.2.2.2.2.2.2.1,(r5.2.2.2.2.1.2.2.2.2.2.2.2.2.2.2.2.2.2.1,r5.2.2.2.2.1.2.2.2.2.2.2.2.2.2.2.2.2.2.2)))))))))))))),(r5.2.2.2.2.2.1,())))))))
def zkb(N:Nat)(a0:G2)(a1:Z7)(a2:Int):Option ((G2×Int)):=
 bif (decide (a2<(0:Int)))then
 (some (a0,(280:Int)))
 else
 ((z5i N a0.2.1).bind fun r1=>
 (za0 N a0.1 a0.2.2 a1.1.1 a1.1.2.1 a1.1.2.2 a1.2.1.1 a1.2.1.2.1 a1.2.1.2.2 a1.2.2.1 a1.2.2.2.1 a1.2.2.2.2.1 a1.2.2.2.2.2.1 a1.2.2.2.2.2.2.1 a1.2.2.2.2.2.2.2 r1).bind fun r2=>
 (zif N a2 r2.2.2.1.1 r2.2.2.1.2.2.1 r2.2.2.1.2.2.2.1 r2.2.2.1.2.2.2.2.1 r2.2.2.1.2.2.2.2.2.1 r2.2.2.1.2.2.2.2.2.2.1 r2.2.2.1.2.2.2.2.2.2.2.1 r2.2.2.1.2.2.2.2.2.2.2.2.1 r2.2.2.1.2.2.2.2.2.2.2.2.2.1 r2.2.2.1.2.2.2.2.2.2.2.2.2.2.1 r2.2.2.1.2.2.2.2.2.2.2.2.2.2.2.1 r2.2.2.1.2.2.2.2.2.2.2.2.2.2.2.2.1 r2.2.2.1.2.2.2.2.2.2.2.2.2.2.2.2.2.1 r2.2.2.1.2.2.2.2.2.2.2.2.2.2.2.2.2.2 r2.2.2.2.1).bind fun r6=>
 match r6 with
 | .inl r7=>(some ((r7.2.2.2.1.1,(r7.2.2.2.2.1,r7.2.2.2.1.2.2.1)),(0:Int)))
 | .inr r8=>(some ((r8.2.2.2.1.1,(r8.2.2.2.2.1,r8.2.2.2.1.2.2.1)),(0:Int))))
def G7(N:Nat)(a0:G2)(a1:Z7)(a2:Int):Option (ztr):=
 (zkb N a0 a1 a2).bind fun r1=>
 some r1
def z2z(N:Nat)(rec:Int->V5->Int->(List (List Int))->(List Y9)->Option (((Unit×Unit)×(Unit×yks))))(b0:Int)(b1:V5)(b2:Int)(b3:(List (List Int)))(b4:(List Y9)):Option (((Unit×Unit)×(Unit×yks))):=
 bif (decide (b0<(b1.2.2.length:Int)))then
 (gd (inB b0 (b1.2.2.length))
 (bif (!((rdL b1.2.2 b0 z18).1))then
 (gd (inB b0 (b1.2.2.length))
 (gd (inB b0 (b1.2.2.length))
 (gd (inB (((rdL b1.2.2 b0 z18).2).1) (b3.length))
 (let x2:=(setL b3 (((rdL b1.2.2 b0 z18).2).1) (((rdL b1.2.2 b0 z18).2).2))
 rec (IntKind.wrap .i64 (b0+(1:Int))) b1 b2 x2 b4))))
 else
 (rec (IntKind.wrap .i64 (b0+(1:Int))) b1 b2 b3 b4)))
 else
 (some (((),()),((),((b2,((),())),(b3,(b4,()))))))
def z99(N:Nat)(n:Nat):=
 itF (fun _ _ _ _ _=>none) (z2z N) n
theorem zfg(N:Nat)(n:Nat):z99 N (n+1)=z2z N (z99 N n):=rfl
def zc3(N:Nat)(a0:V5):Option (V5):=
 (z2l N a0).bind fun r1=>
 (z99 N N (0:Int) a0 r1.1 r1.2.1 r1.2.2).bind fun r3=>
 some (r3.2.2.1.1,(r3.2.2.2.1,([]:List Y9)))
def zqn(N:Nat)(a0:Z7)(a1:Int):Option (Int):=
 bif (decide (a1<(0:Int)))then
 (some (-1:Int))
 else
 (let x1:=(decide ((a0.2.2.2.2.2.1.length:Int)<=a1))
 bif x1 then
 (some (-1:Int))
 else
 (gd (inB a1 (a0.2.2.2.2.2.1.length))
 (let x2:=(decide ((rdL a0.2.2.2.2.2.1 a1 (0:Int))<(0:Int)))
 bif x2 then
 (some (-1:Int))
 else
 (gd (inB a1 (a0.2.2.2.2.2.1.length))
 (some (rdL a0.2.2.2.2.2.1 a1 (0:Int)))))))
def y51(N:Nat)(a0:V5)(a1:ztq):Option ((V5×Int)):=
 (zc2 N a0 a1.1).bind fun r1=>
 bif (!r1)then
 (some (a0,(230:Int)))
 else
 (bif (decide (a1.2.1<(0:Int)))then
 (some (a0,(1:Int)))
 else
 (gd (inB a1.1 (a0.2.1.length))
 (let x2:=(List.length (rdL a0.2.1 a1.1 ([]:List Int)):Int)
 bif (decide (x2<=a1.2.1))then
 (some (a0,(1:Int)))
 else
 ((z2l N a0).bind fun r3=>
 gd (inB a1.1 (a0.2.1.length))
 (gd (fits (0+List.length (rdL a0.2.1 a1.1 ([]:List Int))) 1)
 (let x4:=(([]:List Int)++(rdL a0.2.1 a1.1 ([]:List Int)))
 gd (inB a1.1 (r3.2.1.length))
 (gd (inB a1.1 (r3.2.1.length))
 (gd (Nat.beq (Int.toNat a1.1) (Int.toNat a1.1))
 (gd (inB a1.2.1 (x4.length))
 (let x5:=(IntKind.wrap .u8 (((BitVec.ofInt (IntKind.bits .u8) (rdL x4 a1.2.1 (0:Int))^^^BitVec.ofInt (IntKind.bits .u8) a1.2.2).toNat:Int)))
 gd (inB a1.2.1 (x4.length))
 (some ((r3.1,((setL r3.2.1 a1.1 (setL x4 a1.2.1 x5)),r3.2.2)),(0:Int)))))))))))))
def zsy(N:Nat)(a0:Z7)(a1:(List Int))(a2:zxr):Option ((Z7×Int)):=
 bif (eqi (a1.length:Int) (0:Int))then
 (some (a0,(-1:Int)))
 else
 (gd (!(eqi (a1.length:Int) 0))
 (let x1:=(Int.tmod (IntKind.wrap .i64 (a2.1)) (a1.length:Int))
 gd (inB x1 (a1.length))
 ((zqn N a0 (rdL a1 x1 (0:Int))).bind fun r2=>
 (zwd N a0.1 r2).bind fun r3=>
 bif (eqi (r3.1.length:Int) (0:Int))then
 (some (a0,(-1:Int)))
 else
 ((zqn N a0 (rdL a1 x1 (0:Int))).bind fun r4=>
 gd (!(eqi (r3.1.length:Int) 0))
 (let x5:=(Int.tmod (IntKind.wrap .i64 (a2.2.1)) (r3.1.length:Int))
 let x6:=(bif decide (a2.2.2<(1:Int))then(1:Int)else a2.2.2)
 (y51 N a0.1 (r4,(x5,x6))).bind fun r7=>
 bif (!(eqi r7.2 (0:Int)))then
 (some (a0,(-1:Int)))
 else
 (some ((r7.1,a0.2),(rdL a1 x1 (0:Int)))))))))
def z38(N:Nat)(rec:(List Int)->(List Int)->Int->Option Ty3_)(b0 b1:(List Int))(b2:Int):Option Ty3_:=
 bif (decide (b2<(b0.length:Int)))then
 (gd (inB b2 (b0.length))
 (gd (inB b2 (b1.length))
 (let x2:=(!(eqi (rdL b0 b2 (0:Int)) (rdL b1 b2 (0:Int))))
 bif x2 then
 (some (.inl (false,())))
 else
 (rec b0 b1 (IntKind.wrap .i64 (b2+(1:Int)))))))
 else
 (some (.inr ((),())))
def z9h(N:Nat)(n:Nat):=
 itF (fun _ _ _=>none) (z38 N) n
theorem zfp(N:Nat)(n:Nat):z9h N (n+1)=z38 N (z9h N n):=rfl
def zcd(N:Nat)(a0 a1:(List Int)):Option (Bool):=
 let x1:=(!(eqi (a0.length:Int) (a1.length:Int)))
 bif x1 then
 (some false)
 else
 (match z9h N N a0 a1 (0:Int)with
 | some r3=>(match r3 with
 | .inl r4=>(some r4.1)
 | .inr r5=>(some true))
 | none=>none)
def z3t(N:Nat)(a0 a1:G2):Option (Bool):=
 (zcd N a0.1 a1.1).bind fun r1=>
 bif r1 then
 ((zcd N a0.2.1 a1.2.1).bind fun r2=>
 bif r2 then
 (some (eqi a0.2.2 a1.2.2))
 else
 (some false))
 else
 (some false)
def z7(N:Nat)(b0:Bool):Option ((Bool×Unit)):=
 some (b0,())
def zl2(N:Nat)(b0:zax)(b1:G2):Option ((Bool×Unit)):=
 (G7 N b1 b0.1 (2:Int)).bind fun r5=>
 (G7 N r5.1 b0.1 (2:Int)).bind fun r6=>
 (zc3 N b0.1.1).bind fun r7=>
 (zsy N (r7,b0.1.2) b1.1 ((1:Int),((0:Int),(7:Int)))).bind fun r8=>
 (G7 N b1 r8.1 (9:Int)).bind fun r9=>
 (G7 N b1 b0.1 (-1:Int)).bind fun r10=>
 bif (eqi r5.1.2.2 (2:Int))then
 (bif (eqi (r5.1.1.length:Int) (1:Int))then
 (bif (eqi r6.1.2.2 (3:Int))then
 ((zqi N r6.1).bind fun r11=>
 bif r11 then
 (bif (eqi r9.1.2.2 (2:Int))then
 ((zcd N r9.1.2.1 ([r8.2]:List Int)).bind fun r12=>
 bif r12 then
 (bif (eqi r10.2 (280:Int))then
 ((z3t N r10.1 b1).bind fun r13=>
 (z7 N r13).bind fun r14=>
 some (r14.1,()))
 else
 ((z7 N false).bind fun r15=>
 some (r15.1,())))
 else
 ((z7 N false).bind fun r16=>
 some (r16.1,())))
 else
 ((z7 N false).bind fun r17=>
 some (r17.1,())))
 else
 ((z7 N false).bind fun r18=>
 some (r18.1,())))
 else
 ((z7 N false).bind fun r19=>
 some (r19.1,())))
 else
 ((z7 N false).bind fun r20=>
 some (r20.1,())))
 else
 ((z7 N false).bind fun r21=>
 some (r21.1,()))
def zba(N:Nat):Option (Bool):=
 (zot N).bind fun r1=>
 (zaa N r1.1 r1.2.1).bind fun r2=>
 bif (!(eqi (r2.1.length:Int) (3:Int)))then
 (some false)
 else
 (let x3:=(decide ((0:Int)<(r2.2.1.length:Int)))
 bif x3 then
 (some false)
 else
 (bif (!(eqi r2.2.2 (0:Int)))then
 (some false)
 else
 ((zqi N r2).bind fun r4=>
 bif r4 then
 (some false)
 else
 ((zl2 N r1 r2).bind fun r22=>
 some r22.1))))
def zhp(N:Nat)(a0:Int):Option (V6):=
 let x1:=(Int.tmod (IntKind.wrap .i64 (a0)) (4:Int))
 let x2:=(IntKind.wrap .i64 (Int.tdiv (IntKind.wrap .i64 (a0)) (4:Int)))
 let x3:=(IntKind.wrap .i64 ((2:Int)+(Int.tmod x2 (3:Int))))
 let x4:=(IntKind.wrap .i64 (Int.tdiv (IntKind.wrap .i64 (a0)) (16:Int)))
 let x5:=(IntKind.wrap .i64 ((1:Int)+(Int.tmod x4 (5:Int))))
 some ((IntKind.wrap .i64 ((2:Int)+x1)),(x3,x5))
def za6(N:Nat)(a0:Int):Option ((List UInt8)):=
 let x1:=([([97,47]:List UInt8),([98,47]:List UInt8),([97,47,98,47]:List UInt8),([99,47]:List UInt8),([100,47]:List UInt8)]:List (List UInt8))
 gd (inB (Int.tmod a0 (5:Int)) (x1.length))
 (let x2:=(rdL x1 (Int.tmod a0 (5:Int)) ([]:List UInt8))
 some x2)
def zjh(N:Nat)(a0:Int):Option ((List UInt8)):=
 match za6 N (Int.tmod a0 (4:Int))with
 | some r1=>(let x2:=([([1]:List UInt8),([2,0,0]:List UInt8),([2,0,1]:List UInt8),([2,0,2]:List UInt8),([3,120]:List UInt8)]:List (List UInt8))
 let x3:=(Int.tmod (IntKind.wrap .u8 (Int.tdiv a0 (4:Int))) (5:Int))
 gd (inB x3 (x2.length))
 (gd (decide (r1.length+List.length (rdL x2 x3 ([]:List UInt8))<maxS))
 (let x4:=(r1++(rdL x2 x3 ([]:List UInt8)))
 some x4)))
 | none=>none
def zhv(N:Nat)(a0:Int):Option ((List UInt8)):=
 let x1:=([([]:List UInt8),([120]:List UInt8),([121,121]:List UInt8),([49,50,51,52,53,54,55,56,57,48]:List UInt8),([0,255]:List UInt8)]:List (List UInt8))
 gd (inB (Int.tmod a0 (5:Int)) (x1.length))
 (let x2:=(rdL x1 (Int.tmod a0 (5:Int)) ([]:List UInt8))
 some x2)
def z0q(N:Nat)(b0 b1 b2:(List UInt8))(b3:K1)(b4:Z0):Option ((Unit×(Z1×Unit))):=
 let x9:=(IntKind.wrap .i64 ((Int.tmod b3.2.2.2.2.2 (8:Int))))
 bif (eqi (Int.tmod b3.1 (6:Int)) (0:Int))then
 (match zhv N b3.2.2.1 with
 | some r10=>(some ((),(((1:Int),(b0,(r10,((([]:List UInt8),([]:List UInt8)),(([]:List UInt8),(([]:List UInt8),x9)))))),())))
 | none=>none)
 else
 (bif (eqi (Int.tmod b3.1 (6:Int)) (1:Int))then
 (some ((),(((2:Int),(b0,(([]:List UInt8),((([]:List UInt8),([]:List UInt8)),(([]:List UInt8),(([]:List UInt8),(0:Int))))))),())))
 else
 (bif (eqi (Int.tmod b3.1 (6:Int)) (2:Int))then
 (some ((),(((3:Int),(([]:List UInt8),(([]:List UInt8),(b4,(([]:List UInt8),(([]:List UInt8),(0:Int))))))),())))
 else
 (bif (eqi (Int.tmod b3.1 (6:Int)) (3:Int))then
 (some ((),(((4:Int),(([]:List UInt8),(([]:List UInt8),((([]:List UInt8),([]:List UInt8)),(b1,(b2,(0:Int))))))),())))
 else
 (bif (eqi (Int.tmod b3.1 (6:Int)) (4:Int))then
 (some ((),(((5:Int),(([]:List UInt8),(([]:List UInt8),((([]:List UInt8),([]:List UInt8)),(b1,(b2,(0:Int))))))),())))
 else
 (some ((),(((6:Int),(([]:List UInt8),(([]:List UInt8),(b4,(([]:List UInt8),(([]:List UInt8),x9)))))),())))))))
def z0r(N:Nat)(b0:(List UInt8))(b1:K1)(b2:Z0):Option ((Unit×(Z1×Unit))):=
 match za6 N b1.2.1 with
 | some r6=>(match za6 N b1.2.2.2.1 with
 | some r7=>(match k9 N r6 r7 with
 | some r8=>(bif r8 then
 (bif (eqs r6 ([100,47]:List UInt8))then
 (match z0q N b0 r6 ([99,47]:List UInt8) b1 b2 with
 | some r11=>(some ((),(r11.2.1,())))
 | none=>none)
 else
 (match z0q N b0 r6 ([100,47]:List UInt8) b1 b2 with
 | some r12=>(some ((),(r12.2.1,())))
 | none=>none))
 else
 (match k9 N r7 r6 with
 | some r13=>(bif r13 then
 (bif (eqs r6 ([100,47]:List UInt8))then
 (match z0q N b0 r6 ([99,47]:List UInt8) b1 b2 with
 | some r14=>(some ((),(r14.2.1,())))
 | none=>none)
 else
 (match z0q N b0 r6 ([100,47]:List UInt8) b1 b2 with
 | some r15=>(some ((),(r15.2.1,())))
 | none=>none))
 else
 (match z0q N b0 r6 r7 b1 b2 with
 | some r16=>(some ((),(r16.2.1,())))
 | none=>none))
 | none=>none))
 | none=>none)
 | none=>none)
 | none=>none
def zck(N:Nat)(a0:K1):Option (Z1):=
 match zjh N a0.2.1 with
 | some r1=>(match zjh N a0.2.2.2.1 with
 | some r2=>(let x3:=(eqi (Int.tmod a0.2.2.2.2.1 (4:Int)) (0:Int))
 bif x3 then
 (match za6 N a0.2.1 with
 | some r4=>(match U0 N r4 with
 | some r5=>(match z0r N r1 a0 r5 with
 | some r17=>(some r17.2.1)
 | none=>none)
 | none=>none)
 | none=>none)
 else
 (let x18:=(eqi (Int.tmod a0.2.2.2.2.1 (16:Int)) (1:Int))
 bif x18 then
 (match z0r N r1 a0 (r1,([]:List UInt8))with
 | some r19=>(some r19.2.1)
 | none=>none)
 else
 (let x20:=(eqi (Int.tmod a0.2.2.2.2.1 (16:Int)) (5:Int))
 bif x20 then
 (match z0r N r1 a0 (([]:List UInt8),([]:List UInt8))with
 | some r21=>(some r21.2.1)
 | none=>none)
 else
 (bif (eqs r1 r2)then
 (match z91 N r1 with
 | some r22=>(match z0r N r1 a0 r22 with
 | some r23=>(some r23.2.1)
 | none=>none)
 | none=>none)
 else
 (match z0r N r1 a0 ((bif lts r1 r2 || eqs r1 r2 then r1 else r2),(bif !(lts r1 r2)then r1 else r2))with
 | some r24=>(some r24.2.1)
 | none=>none)))))
 | none=>none)
 | none=>none
def y5(N:Nat)(rec:(List K1)->Int->Int->(List Z1)->Option ((Unit×((List Z1)×Unit))))(b0:(List K1))(b1 b2:Int)(b3:(List Z1)):Option ((Unit×((List Z1)×Unit))):=
 bif (decide (b2<(b0.length:Int)))then
 (bif (decide (b2<b1))then
 (gd (inB b2 (b0.length))
 (match zck N (rdL b0 b2 zxt)with
 | some r1=>(gd (fits (b3.length+1) 112)
 (let x2:=(b3++([r1]:List Z1))
 rec b0 b1 (IntKind.wrap .i64 (b2+(1:Int))) x2))
 | none=>none))
 else
 (some ((),(b3,()))))
 else
 (some ((),(b3,())))
def z6j(N:Nat)(n:Nat):=
 itF (fun _ _ _ _=>none) (y5 N) n
theorem y7o(N:Nat)(n:Nat):z6j N (n+1)=y5 N (z6j N n):=rfl
def zf0(N:Nat)(a0:(List K1))(a1:Int):Option ((List Z1)):=
 match z6j N N a0 a1 (0:Int) ([]:List Z1)with
 | some r3=>(some r3.2.1)
 | none=>none
def zgp(N:Nat)(a0:Int):Option ((List UInt8)):=
 let x1:=([([111,110,101]:List UInt8),([116,119,111]:List UInt8),([116,104,114,101,101]:List UInt8),([120]:List UInt8),([121]:List UInt8),([122]:List UInt8)]:List (List UInt8))
 gd (inB (Int.tmod a0 (6:Int)) (x1.length))
 (let x2:=(rdL x1 (Int.tmod a0 (6:Int)) ([]:List UInt8))
 some x2)
def z30(N:Nat)(rec:(List UInt8)->Int->Z4->Option yn6)(b0:(List UInt8))(b1:Int)(b2:Z4):Option yn6:=
 bif (decide (b1<(b2.2.2.1.length:Int)))then
 (gd (inB b1 (b2.2.2.1.length))
 (let x2:=(eqs (((((rdL b2.2.2.1 b1 X0).2).2).2).1) b0)
 bif x2 then
 (some (.inl ((),((b2,((0:Int),(160:Int))),()))))
 else
 (rec b0 (IntKind.wrap .i64 (b1+(1:Int))) b2)))
 else
 (some (.inr ((b0,((),())),(b2,((),())))))
def z6s(N:Nat)(n:Nat):=
 itF (fun _ _ _=>none) (z30 N) n
theorem zfh(N:Nat)(n:Nat):z6s N (n+1)=z30 N (z6s N n):=rfl
def zgo(N:Nat)(a0:Z4)(a1:(List UInt8)):Option (zdm):=
 (z8e N a1).bind fun r1=>
 bif (!r1)then
 (some (a0,((0:Int),(11:Int))))
 else
 ((z6s N N a1 (0:Int) a0).bind fun r3=>
 match r3 with
 | .inl r4=>(some r4.2.1)
 | .inr r5=>(let x6:=(decide ((16:Int)<=(r5.2.1.2.2.1.length:Int)))
 bif x6 then
 (some (r5.2.1,((0:Int),(161:Int))))
 else
 ((z8d N r5.2.1.1 r5.2.1.2.2.2.2.1).bind fun r7=>
 gd (fits (0+r5.2.1.2.2.1.length) 64)
 (let x8:=(([]:List W7)++r5.2.1.2.2.1)
 let x9:=([(r5.2.1.2.2.2.1,(r5.2.1.2.2.2.2.2.1,(r5.2.1.2.2.2.2.1,(r5.1.1,r5.2.1.2.2.2.2.2.2))))]:List W7)
 gd (fits (x8.length+x9.length) 64)
 (let x10:=(x8++x9)
 let x11:=(IntKind.wrap .i64 (r5.2.1.2.2.2.1+(1:Int)))
 some ((r7.1,(r5.2.1.2.1,(x10,(x11,(r5.2.1.2.2.2.2.1,(r5.2.1.2.2.2.1,([]:List Z1))))))),(r5.2.1.2.2.2.1,(0:Int))))))))
def zne(N:Nat)(a0:Z4)(a1:Int):Option (Int):=
 bif (eqi (a0.2.2.1.length:Int) (0:Int))then
 (some (9:Int))
 else
 (gd (!(eqi (a0.2.2.1.length:Int) 0))
 (let x1:=(Int.tmod (IntKind.wrap .i64 (a1)) (a0.2.2.1.length:Int))
 gd (inB x1 (a0.2.2.1.length))
 (some ((rdL a0.2.2.1 x1 X0).1))))
def zeu(N:Nat)(a0:Z4)(a1:Int):Option ((Z4×Int)):=
 (zc4 N a0 a1).bind fun r1=>
 bif (decide (r1<(0:Int)))then
 (some (a0,(160:Int)))
 else
 (gd (inB r1 (a0.2.2.1.length))
 ((z8d N a0.1 ((((rdL a0.2.2.1 r1 X0).2).2).1)).bind fun r2=>
 (z2f N r2.1 a0.2.2.2.2.1).bind fun r3=>
 gd (inB r1 (a0.2.2.1.length))
 (some ((r3.1,(a0.2.1,(a0.2.2.1,(a0.2.2.2.1,((((rdL a0.2.2.1 r1 X0).2).2).1,(a1,([]:List Z1))))))),(0:Int)))))
def z86(N:Nat)(a0:(List Z1))(a1:(List Z1)):Option ((List Z1)):=
 gd (fits (0+a0.length) 112)
 (let x1:=(([]:List Z1)++a0)
 gd (fits (x1.length+a1.length) 112)
 (let x2:=(x1++a1)
 (zb7 N x2).bind fun r3=>
 some r3))
def z0g(N:Nat)(rec:Int->Int->Int->Z4->W7->(List Z6)->Int->Int->Int->Int->Int->Int->(List Z1)->(List W7)->Option yni)(b0 b1 b2:Int)(b3:Z4)(b4:W7)(b5:(List Z6))(b6 b7 b8 b9 b10 b11:Int)(b12:(List Z1))(b13:(List W7)):Option yni:=
 bif (decide (b2<(b3.2.2.1.length:Int)))then
 (gd (inB b2 (b3.2.2.1.length))
 (let x3:=(eqi (((rdL b3.2.2.1 b2 X0).2).1) b0)
 bif x3 then
 ((z86 N b4.2.2.2.2 (((((rdL b3.2.2.1 b2 X0).2).2).2).2)).bind fun r4=>
 bif (!(eqi b2 b1))then
 (let x5:=([((rdL b3.2.2.1 b2 X0).1,(b4.2.1,((((rdL b3.2.2.1 b2 X0).2).2).1,(((((rdL b3.2.2.1 b2 X0).2).2).2).1,r4))))]:List W7)
 gd (fits (b13.length+x5.length) 64)
 (let x6:=(b13++x5)
 rec b0 b1 (IntKind.wrap .i64 (b2+(1:Int))) b3 b4 b5 b6 b7 b8 b9 b10 b11 b12 x6))
 else
 (rec b0 b1 (IntKind.wrap .i64 (b2+(1:Int))) b3 b4 b5 b6 b7 b8 b9 b10 b11 b12 b13))
 else
 (bif (!(eqi b2 b1))then
 (let x7:=([(rdL b3.2.2.1 b2 X0)]:List W7)
 gd (fits (b13.length+x7.length) 64)
 (let x8:=(b13++x7)
 rec b0 b1 (IntKind.wrap .i64 (b2+(1:Int))) b3 b4 b5 b6 b7 b8 b9 b10 b11 b12 x8))
 else
 (rec b0 b1 (IntKind.wrap .i64 (b2+(1:Int))) b3 b4 b5 b6 b7 b8 b9 b10 b11 b12 b13))))
 else
 (some ((b0,((),((),((),())))),(b3,((),(b4,((b5,(b6,(b7,(b8,((),(b9,(b10,(b11,b12)))))))),(b13,())))))))
def z40(N:Nat)(n:Nat):=
 itF (fun _ _ _ _ _ _ _ _ _ _ _ _ _ _=>none) (z0g N) n
theorem zc5(N:Nat)(n:Nat):z40 N (n+1)=z0g N (z40 N n):=rfl
def zet(N:Nat)(a0:Z4)(a1:Int):Option ((Z4×Int)):=
 (zc4 N a0 a1).bind fun r1=>
 bif (decide (r1<(0:Int)))then
 (some (a0,(160:Int)))
 else
 (gd (inB r1 (a0.2.2.1.length))
 ((z2f N a0.1 ((((rdL a0.2.2.1 r1 X0).2).2).1)).bind fun r2=>
 (z40 N N a1 r1 (0:Int) a0 (rdL a0.2.2.1 r1 X0) r2.1 a0.2.1.1 a0.2.1.2.1 a0.2.1.2.2 a0.2.2.2.1 a0.2.2.2.2.1 a0.2.2.2.2.2.1 a0.2.2.2.2.2.2 ([]:List W7)).bind fun r9=>
 bif (eqi r9.2.1.2.2.2.2.2.1 r9.1.1)then
 ((z86 N r9.2.2.2.1.2.2.2.2 r9.2.1.2.2.2.2.2.2).bind fun r10=>
 some ((r9.2.2.2.2.1.1,((r9.2.2.2.2.1.2.1,(r9.2.2.2.2.1.2.2.1,r9.2.2.2.2.1.2.2.2.1)),(r9.2.2.2.2.2.1,(r9.2.2.2.2.1.2.2.2.2.2.1,(r9.2.2.2.2.1.2.2.2.2.2.2.1,(r9.2.2.2.1.2.1,r10)))))),(0:Int)))
 else
 (some ((r9.2.2.2.2.1.1,((r9.2.2.2.2.1.2.1,(r9.2.2.2.2.1.2.2.1,r9.2.2.2.2.1.2.2.2.1)),(r9.2.2.2.2.2.1,r9.2.2.2.2.1.2.2.2.2.2))),(0:Int)))))
def z0f(N:Nat)(b0:Int)(b1:Bool)(b2:Z4)(b3:G1):Option ((Unit×(Z4×Unit))⊕((Unit×(Unit×Unit))×(Z4×(G1×(Unit×Unit))))):=
 bif b1 then
 ((zf0 N b3.2.2 (6:Int)).bind fun r1=>
 (zje N b2 r1).bind fun r2=>
 some (.inl ((),(r2.1,()))))
 else
 (bif (eqi b0 (4:Int))then
 ((zgp N b3.2.1).bind fun r3=>
 (zgo N b2 r3).bind fun r4=>
 some (.inl ((),(r4.1,()))))
 else
 (bif (eqi b0 (5:Int))then
 ((zgp N b3.2.1).bind fun r5=>
 (zgo N b2 r5).bind fun r6=>
 some (.inl ((),(r6.1,()))))
 else
 (bif (eqi b0 (6:Int))then
 ((zne N b2 b3.2.1).bind fun r7=>
 (zeu N b2 r7).bind fun r8=>
 some (.inl ((),(r8.1,()))))
 else
 (some (.inr (((),((),())),(b2,(b3,((),())))))))))
def z2o(N:Nat)(b0:Z4)(b1:G1):Option ((Unit×(Z4×Unit))):=
 (zne N b0 b1.2.1).bind fun r12=>
 (zet N b0 r12).bind fun r13=>
 some ((),(r13.1,()))
def zkk(N:Nat)(a0:Z4)(a1:G1):Option (Z4):=
 bif (eqi (Int.tmod a1.1 (8:Int)) (0:Int))then
 ((z0f N (Int.tmod a1.1 (8:Int)) true a0 a1).bind fun r9=>
 match r9 with
 | .inl r10=>(some r10.2.1)
 | .inr r11=>((z2o N r11.2.1 r11.2.2.1).bind fun r14=>
 some r14.2.1))
 else
 (bif (eqi (Int.tmod a1.1 (8:Int)) (1:Int))then
 ((z0f N (Int.tmod a1.1 (8:Int)) true a0 a1).bind fun r15=>
 match r15 with
 | .inl r16=>(some r16.2.1)
 | .inr r17=>((z2o N r17.2.1 r17.2.2.1).bind fun r18=>
 some r18.2.1))
 else
 (bif (eqi (Int.tmod a1.1 (8:Int)) (2:Int))then
 ((z0f N (Int.tmod a1.1 (8:Int)) true a0 a1).bind fun r19=>
 match r19 with
 | .inl r20=>(some r20.2.1)
 | .inr r21=>((z2o N r21.2.1 r21.2.2.1).bind fun r22=>
 some r22.2.1))
 else
 ((z0f N (Int.tmod a1.1 (8:Int)) (eqi (Int.tmod a1.1 (8:Int)) (3:Int)) a0 a1).bind fun r23=>
 match r23 with
 | .inl r24=>(some r24.2.1)
 | .inr r25=>((z2o N r25.2.1 r25.2.2.1).bind fun r26=>
 some r26.2.1))))
def z5m(N:Nat)(rec:(List G1)->Int->Z4->Option (((Unit×Unit)×(Unit×(Z4×Unit)))))(b0:(List G1))(b1:Int)(b2:Z4):Option (((Unit×Unit)×(Unit×(Z4×Unit)))):=
 bif (decide (b1<(b0.length:Int)))then
 (bif (decide (b1<(7:Int)))then
 (gd (inB b1 (b0.length))
 ((zkk N b2 (rdL b0 b1 zie)).bind fun r3=>
 rec b0 (IntKind.wrap .i64 (b1+(1:Int))) r3))
 else
 (some (((),()),((),(b2,())))))
 else
 (some (((),()),((),(b2,()))))
def z9a(N:Nat)(n:Nat):=
 itF (fun _ _ _=>none) (z5m N) n
theorem zqf(N:Nat)(n:Nat):z9a N (n+1)=z5m N (z9a N n):=rfl
def zkl(N:Nat)(a0:Int)(a1:(List G1)):Option (Z4):=
 (zhp N a0).bind fun r1=>
 (zjd N r1).bind fun r2=>
 (z9a N N a1 (0:Int) r2.1).bind fun r4=>
 some r4.2.2.1
def zkj(N:Nat)(a0:zlb):Option (V5):=
 bif (eqi (Int.tmod a0.1 (8:Int)) (7:Int))then
 (let x1:=(IntKind.wrap .i64 ((30:Int)+(IntKind.wrap .i64 (a0.2.1))))
 bif (eqi (Int.tmod a0.1 (8:Int)) (6:Int))then
 (let x2:=(Int.tmod (IntKind.wrap .i64 (a0.2.1)) (24:Int))
 (zal N x1 (IntKind.wrap .i64 ((4:Int)+x2))).bind fun r3=>
 some r3.1)
 else
 ((zal N x1 (60:Int)).bind fun r4=>
 some r4.1))
 else
 (bif (eqi (Int.tmod a0.1 (8:Int)) (6:Int))then
 (let x5:=(Int.tmod (IntKind.wrap .i64 (a0.2.1)) (24:Int))
 (zal N (1500:Int) (IntKind.wrap .i64 ((4:Int)+x5))).bind fun r6=>
 some r6.1)
 else
 ((zal N (1500:Int) (60:Int)).bind fun r7=>
 some r7.1))
def zki(N:Nat)(a0:zah):Option (zax):=
 (zkl N a0.1 a0.2.1).bind fun r1=>
 (zkj N a0.2.2).bind fun r2=>
 let x3:=(IntKind.wrap .i64 ((Int.tmod a0.2.2.2.2 (4:Int))))
 (znu N r2 x3 r1).bind fun r4=>
 bif (!(eqi r4.2 (0:Int)))then
 (some ((((0:Int),(([]:List (List Int)),([]:List Y9))),((([]:List Bool),(([]:List Int),(0:Int))),((0:Int),((0:Int),((0:Int),(([]:List Int),(([]:List Int),([]:List Int)))))))),(r1,r4.2)))
 else
 ((zc3 N r4.1.1).bind fun r5=>
 some ((r5,r4.1.2),(r1,(0:Int))))
def W5(N:Nat)(b0:Bool):Option ((Bool×Unit)):=
 some (b0,())
def z5o(N:Nat)(a0:zah)(a1:Int):Option (Bool):=
 (zba N).bind fun r1=>
 (zki N a0).bind fun r2=>
 bif (!(eqi r2.2.2 (0:Int)))then
 (some r1)
 else
 ((zaa N r2.1 r2.2.1).bind fun r3=>
 (G7 N r3 r2.1 (IntKind.wrap .i64 (a1))).bind fun r4=>
 (G7 N r3 r2.1 (4096:Int)).bind fun r5=>
 let x6:=(bif decide ((0:Int)<(IntKind.wrap .i64 (a1)))then(IntKind.wrap .i64 (a1))else(0:Int))
 (G7 N r5.1 r2.1 x6).bind fun r7=>
 (G7 N r3 r2.1 (0:Int)).bind fun r8=>
 let x9:=(eqb (eqi r4.2 (280:Int)) (decide (a1<(0:Int))))
 bif x9 then
 (bif (decide ((0:Int)<a1))then
 (bif (eqi r7.2 (0:Int))then
 ((z3t N r7.1 r5.1).bind fun r10=>
 bif r10 then
 (bif (eqi r8.2 (0:Int))then
 ((z3t N r8.1 r3).bind fun r11=>
 bif r11 then
 ((W5 N r1).bind fun r12=>
 some r12.1)
 else
 ((W5 N false).bind fun r13=>
 some r13.1))
 else
 ((W5 N false).bind fun r14=>
 some r14.1))
 else
 ((W5 N false).bind fun r15=>
 some r15.1))
 else
 ((W5 N false).bind fun r16=>
 some r16.1))
 else
 ((z3t N r4.1 r3).bind fun r17=>
 bif r17 then
 (bif (eqi r7.2 (0:Int))then
 ((z3t N r7.1 r5.1).bind fun r18=>
 bif r18 then
 (bif (eqi r8.2 (0:Int))then
 ((z3t N r8.1 r3).bind fun r19=>
 bif r19 then
 ((W5 N r1).bind fun r20=>
 some r20.1)
 else
 ((W5 N false).bind fun r21=>
 some r21.1))
 else
 ((W5 N false).bind fun r22=>
 some r22.1))
 else
 ((W5 N false).bind fun r23=>
 some r23.1))
 else
 ((W5 N false).bind fun r24=>
 some r24.1))
 else
 ((W5 N false).bind fun r25=>
 some r25.1)))
 else
 ((W5 N false).bind fun r26=>
 some r26.1))
end Ds
