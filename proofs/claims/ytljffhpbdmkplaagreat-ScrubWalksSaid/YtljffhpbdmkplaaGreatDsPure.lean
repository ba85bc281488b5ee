/- Printed by a program of the session's: what the program's functions compute, and that they do. -/
import Derived.Test.YtljffhpbdmkplaaGreatDvD
set_option linter.all false
open Int renaming fdiv->dW,tdiv->c9,tmod->aJ,toNat->cK
open Go.IntKind renaming bits->bj,wrap->aa
open List renaming length->aq,replicate->ar
namespace Ds
open Go Go.Dv
def v8:Ty:=(.pair (.int .u8) (.pair (.int .u8) (.pair (.int .u8) (.pair (.int .u8) (.pair (.int .u8) (.int .u8))))))
abbrev K2:Type:=(Int×(Int×(Int×(Int×(Int×Int)))))
abbrev zz4:K2:=((0:Int),((0:Int),((0:Int),((0:Int),((0:Int),(0:Int))))))
def v7:Ty:=(.pair (.int .u8) (.pair (.int .u8) (.list v8)))
abbrev G4:Type:=(Int×(Int×(List K2)))
abbrev zj7:G4:=((0:Int),((0:Int),([]:List K2)))
def zsf:Ty:=(.pair (.int .u8) (.pair (.int .u8) (.int .u8)))
abbrev zmc:Type:=(Int×(Int×Int))
abbrev yeo:zmc:=((0:Int),((0:Int),(0:Int)))
def zbd:Ty:=(.pair (.int .u8) (.pair (.list v7) zsf))
abbrev zbc:Type:=(Int×((List G4)×zmc))
abbrev yoa:zbc:=((0:Int),(([]:List G4),yeo))
def z59:Ty:=(.pair (.int .u8) (.pair (.int .u16) (.int .u8)))
abbrev z0d:Type:=(Int×(Int×Int))
abbrev z0e:z0d:=((0:Int),((0:Int),(0:Int)))
def Q2:Ty:=(.pair (.list (.int .i64)) (.pair (.list (.int .i64)) (.int .i64)))
abbrev V8:Type:=((List Int)×((List Int)×Int))
abbrev zz6:V8:=(([]:List Int),(([]:List Int),(0:Int)))
def J6:Ty:=(.pair .bool (.pair (.int .i64) (.list (.int .u8))))
abbrev X0:Type:=(Bool×(Int×(List Int)))
abbrev z1f:X0:=(false,((0:Int),([]:List Int)))
def Q5:Ty:=(.pair (.int .i64) (.pair (.list (.list (.int .u8))) (.list J6)))
abbrev V2:Type:=(Int×((List (List Int))×(List X0)))
abbrev yen:V2:=((0:Int),(([]:List (List Int)),([]:List X0)))
def Q1:Ty:=(.pair (.list .bool) (.pair (.list (.int .i64)) (.int .i64)))
abbrev V0:Type:=((List Bool)×((List Int)×Int))
abbrev zz8:V0:=(([]:List Bool),(([]:List Int),(0:Int)))
def Y9:Ty:=(.pair Q5 (.pair Q1 (.pair (.int .i64) (.pair (.int .i64) (.pair (.int .i64) (.pair (.list (.int .i64)) (.pair (.list (.int .u64)) (.list (.int .i64)))))))))
abbrev Z5:Type:=(V2×(V0×(Int×(Int×(Int×((List Int)×((List Int)×(List Int))))))))
abbrev zo8:Z5:=(yen,(zz8,((0:Int),((0:Int),((0:Int),(([]:List Int),(([]:List Int),([]:List Int))))))))
def Y2:Ty:=(.pair .str (.pair .str (.int .i64)))
abbrev Z3:Type:=((List UInt8)×((List UInt8)×Int))
abbrev X5:Z3:=(([]:List UInt8),(([]:List UInt8),(0:Int)))
def z6g:Ty:=(.pair (.int .i64) (.int .i64))
abbrev z58:Type:=(Int×Int)
abbrev zz7:z58:=((0:Int),(0:Int))
def J1:Ty:=(.pair z6g z6g)
abbrev Y6:Type:=(z58×z58)
abbrev z61:Y6:=(zz7,zz7)
def Z2:Ty:=(.pair .str .str)
abbrev Z0:Type:=((List UInt8)×(List UInt8))
abbrev Y7:Z0:=(([]:List UInt8),([]:List UInt8))
def Z8:Ty:=(.pair (.int .i64) (.pair .str (.pair .str (.pair Z2 (.pair .str (.pair .str (.int .i64)))))))
abbrev Z1:Type:=(Int×((List UInt8)×((List UInt8)×(Z0×((List UInt8)×((List UInt8)×Int))))))
abbrev U8:Z1:=((0:Int),(([]:List UInt8),(([]:List UInt8),(Y7,(([]:List UInt8),(([]:List UInt8),(0:Int)))))))
def Y0:Ty:=(.pair (.list Y2) (.pair (.list .str) (.pair (.list (.int .i64)) (.pair (.list J1) (.list Z8)))))
abbrev Z6:Type:=((List Z3)×((List (List UInt8))×((List Int)×((List Y6)×(List Z1)))))
abbrev zhw:Z6:=(([]:List Z3),(([]:List (List UInt8)),(([]:List Int),(([]:List Y6),([]:List Z1)))))
def Y8:Ty:=(.pair .bool (.pair .bool (.pair (.int .i64) Y0)))
abbrev Z7:Type:=(Bool×(Bool×(Int×Z6)))
abbrev X3:Z7:=(false,(false,((0:Int),zhw)))
def z36:Ty:=(.pair (.int .i64) (.pair (.int .i64) (.int .i64)))
abbrev V7:Type:=(Int×(Int×Int))
abbrev zz5:V7:=((0:Int),((0:Int),(0:Int)))
def z6h:Ty:=(.pair (.int .i64) (.pair (.int .i64) (.pair (.int .i64) (.pair .str (.list Z8)))))
abbrev W5:Type:=(Int×(Int×(Int×((List UInt8)×(List Z1)))))
abbrev X1:W5:=((0:Int),((0:Int),((0:Int),(([]:List UInt8),([]:List Z1)))))
def Y1:Ty:=(.pair (.list Y8) (.pair z36 (.pair (.list z6h) (.pair (.int .i64) (.pair (.int .i64) (.pair (.int .i64) (.list Z8)))))))
abbrev Z4:Type:=((List Z7)×(V7×((List W5)×(Int×(Int×(Int×(List Z1)))))))
abbrev zv4:Z4:=(([]:List Z7),(zz5,(([]:List W5),((0:Int),((0:Int),((0:Int),([]:List Z1)))))))
def z8n:Ty:=(.pair Y9 (.pair Y1 (.int .i64)))
abbrev z41:Type:=(Z5×(Z4×Int))
abbrev yj8:z41:=(zo8,(zv4,(0:Int)))
def zv3:Ty:=(.pair Q2 (.int .i64))
abbrev zv1:Type:=(V8×Int)
abbrev ymu:zv1:=(zz6,(0:Int))
def zdm:Ty:=(.pair Y9 (.int .i64))
abbrev zdk:Type:=(Z5×Int)
abbrev ym1:zdk:=(zo8,(0:Int))
def zv2:Ty:=(.pair (.int .i64) (.pair (.int .i64) (.int .u8)))
abbrev zv0:Type:=(Int×(Int×Int))
abbrev ymr:zv0:=((0:Int),((0:Int),(0:Int)))
def zee:Ty:=(.pair Y1 (.pair (.int .i64) (.int .i64)))
abbrev zed:Type:=(Z4×(Int×Int))
abbrev yj6:zed:=(zv4,((0:Int),(0:Int)))
def y81:Ty:=(.pair Q2 Y9)
abbrev y80:Type:=(V8×Z5)
abbrev ymq:y80:=(zz6,zo8)
def X9:Ty:=(.pair (.list Y8) (.pair (.int .i64) z36))
abbrev Y5:Type:=((List Z7)×(Int×V7))
abbrev y3c:Y5:=(([]:List Z7),((0:Int),zz5))
def z8o:Ty:=(.pair X9 (.pair (.int .i64) (.int .i64)))
abbrev z42:Type:=(Y5×(Int×Int))
abbrev yj9:z42:=(y3c,((0:Int),(0:Int)))
def zjv:Ty:=(.pair (.list Y8) (.pair (.int .i64) (.int .i64)))
abbrev zdl:Type:=((List Z7)×(Int×Int))
abbrev ym5:zdl:=(([]:List Z7),((0:Int),(0:Int)))
def znq:Ty:=(.pair (.list Z8) (.list Z2))
abbrev znp:Type:=((List Z1)×(List Z0))
abbrev yja:znp:=(([]:List Z1),([]:List Z0))
def zjs:Ty:=(.pair Q1 (.pair (.int .i64) (.int .i64)))
abbrev zjq:Type:=(V0×(Int×Int))
abbrev ym2:zjq:=(zz8,((0:Int),(0:Int)))
def zg6:Ty:=(.pair (.list (.int .i64)) .bool)
abbrev K1:Type:=((List Int)×Bool)
abbrev yms:K1:=(([]:List Int),false)
def yd0:Ty:=(.pair (.int .i64) (.pair (.int .i64) (.pair (.int .i64) (.int .i64))))
abbrev zvt:Type:=(Int×(Int×(Int×Int)))
abbrev yq7:zvt:=((0:Int),((0:Int),((0:Int),(0:Int))))
def zl9:Ty:=(.pair Y0 (.pair Z2 (.int .i64)))
abbrev zg5:Type:=(Z6×(Z0×Int))
abbrev ymt:zg5:=(zhw,(Y7,(0:Int)))
def zju:Ty:=(.pair (.list Y0) (.pair (.list .str) (.list Z8)))
abbrev zjr:Type:=((List Z6)×((List (List UInt8))×(List Z1)))
abbrev ym4:zjr:=(([]:List Z6),(([]:List (List UInt8)),([]:List Z1)))
def ze6:Ty:=(.pair (.list Y0) (.pair (.list .str) (.list Z8)))
abbrev ze5:Type:=((List Z6)×((List (List UInt8))×(List Z1)))
abbrev yob:ze5:=(([]:List Z6),(([]:List (List UInt8)),([]:List Z1)))
def z7a:Ty:=(.pair X9 (.pair (.int .i64) (.int .i64)))
abbrev z79:Type:=(Y5×(Int×Int))
abbrev yj7:z79:=(y3c,((0:Int),(0:Int)))
def zha:Ty:=(.pair (.int .i64) (.int .i64))
abbrev z9r:Type:=(Int×Int)
abbrev yq6:z9r:=((0:Int),(0:Int))
def zo7:Ty:=(.pair (.list Z8) (.pair (.list Z8) (.list Z2)))
abbrev zj6:Type:=((List Z1)×((List Z1)×(List Z0)))
abbrev yoc:zj6:=(([]:List Z1),(([]:List Z1),([]:List Z0)))
def zjt:Ty:=(.pair (.list Y8) (.pair (.list (.int .i64)) (.int .i64)))
abbrev zak:Type:=((List Z7)×((List Int)×Int))
abbrev ym3:zak:=(([]:List Z7),(([]:List Int),(0:Int)))
def z1e:Ty:=(.pair .str (.pair (.int .i64) (.pair (.int .i64) .str)))
abbrev G5:Type:=((List UInt8)×(Int×(Int×(List UInt8))))
abbrev yod:G5:=(([]:List UInt8),((0:Int),((0:Int),([]:List UInt8))))
abbrev Ty0_:Type:=((List Int)×(Unit×(Int×(Int×((List (List Int))×((List X0)×((List Bool)×((List Int)×(Int×(Int×(Int×(Int×((List Int)×((List Int)×(List Int)))))))))))))))
abbrev Ty1_:Type:=((Unit×((List Z7)×(Unit×((List Int)×(Bool×((Unit×(Unit×(Unit×(Unit×Unit))))×(Unit×(Unit×((List Int)×Unit))))))))))
abbrev Ty2_:Type:=(Int×((List (List Int))×((List X0)×((List Bool)×((List Int)×(Int×(Int×(Int×(Int×(Unit×(Unit×(List Int))))))))))))
abbrev Ty3_:Type:=((Bool×Unit)⊕(Unit×Unit))
abbrev Ty4_:Type:=(Unit×((Unit×(Unit×(Unit×(Unit×(Unit×((List UInt8)×((List UInt8)×Int)))))))×((List Z3)×((List (List UInt8))×((List Int)×((List Y6)×((List Z1)×Unit)))))))
abbrev Ty5_:Type:=(Unit×((Unit×Unit)×(Int×(Unit×(Ty0_×((List Int)×(Unit×Unit)))))))
abbrev Ty6_:Type:=((Unit×((Unit×(Unit×Unit))×(Int×((List Int)×(Unit×((List Int)×Unit))))))⊕(Unit×((Unit×(Unit×Unit))×(Int×(Unit×((List Int)×(Int×Unit)))))))
abbrev Ty7_:Type:=(Unit×((List Z3)×Unit))
abbrev Ty8_:Type:=(((Unit×(Unit×(Unit×(Unit×(Unit×Int)))))×(Ty2_×((List Int)×((List Int)×(Z4×(Unit×(Z5×((List Int)×Unit)))))))))
abbrev Ty9_:Type:=(((Unit×Unit)×(Unit×((Unit×(Unit×Int))×((List Int)×((List Int)×Unit))))))
abbrev y9i:Type:=(((Unit×Unit)×(Z6×((List Int)×Unit))))
abbrev y9h:Type:=(Unit×(Unit×(Unit×Unit)))
abbrev yp7:Type:=(((Int×y9h)×(Z4×(Unit×(W5×(((List Z7)×(Int×(Int×(Int×(Unit×(Int×(Int×(Int×(List Z1)))))))))×((List W5)×Unit)))))))
abbrev yiz:Type:=((Bool×Unit)⊕((Bool×(Unit×Int))×(V8×Unit)))
abbrev ymk:Type:=((Unit×(Unit×Unit))×((List Z1)×((List Z1)×((List Z0)×Unit))))
abbrev yp6:Type:=((Unit×((Unit×(Unit×Int))×((List Z7)×((List Int)×Unit))))⊕((Unit×Unit)×(Unit×(((List Z7)×(Unit×Int))×((List Int)×Unit)))))
abbrev yp5:Type:=((Unit×(zdk×Unit))⊕((Unit×(Unit×(Unit×((List Int)×((List Int)×Unit)))))×(Z5×(Unit×(Z5×((List Int)×Unit))))))
abbrev y9g:Type:=((Unit×((List Z0)×Unit)))
abbrev yp4:Type:=(((Unit×((List Int)×Bool))×(Z5×Unit))⊕((Unit×(Unit×Unit))×(Ty2_×((List Int)×((List Int)×(Unit×((List Int)×Unit)))))))
abbrev ymj:Type:=((Int×(Unit×Unit))×((List (List Int))×((List X0)×Unit)))
abbrev yp3:Type:=(((Int×(Unit×Unit))×(Unit×((List Int)×(Unit×(Unit×((List Int)×((List Z7)×(Bool×((Unit×y9h)×Unit))))))))))
abbrev yiy:Type:=((List Z7)×(Z6×(Unit×Unit)))
abbrev yp2:Type:=(((Unit×Int)×(Z4×Unit))⊕(((List Z1)×(Unit×(Unit×Unit)))×(Z4×(Unit×(Y5×Unit)))))
abbrev yej:Type:=(Unit×(Ty0_×((List Int)×Unit)))
abbrev yp1:Type:=((Unit×((Unit×((List Int)×(Int×(Int×Int))))×((List Bool)×Unit)))⊕((Unit×Unit)×(V0×(Unit×Unit))))
abbrev yei:Type:=((Unit×Int)×(Y5×Unit))
abbrev yp0:Type:=(((Unit×Unit)×(Unit×((Unit×(Unit×Unit))×((List Z6)×((List (List UInt8))×((List Z1)×Unit)))))))
abbrev yoz:Type:=(((Unit×Unit)×((Unit×(Unit×Unit))×((List Z1)×((List Z1)×((List Z0)×(Unit×Unit)))))))
abbrev yix:Type:=(Unit×(Unit×((List Z7)×Unit)))
abbrev yeh:Type:=(Z6×(Z0×Unit))
abbrev yoy:Type:=((((List Z3)×Int)×Unit)⊕(((List Z0)×(Unit×Unit))×(Z6×((List Z3)×Unit))))
abbrev ymi:Type:=((Unit×(Unit×Int))×((List Bool)×((List Int)×Unit)))
abbrev yox:Type:=(((Unit×Unit)×(Unit×((Unit×(Unit×(List Z1)))×((List Z6)×((List (List UInt8))×Unit))))))
abbrev yiw:Type:=(Z0×((List Z0)×Unit))
abbrev yow:Type:=((((List Z0)×y9h)×((List Z7)×(Z0×(Z6×((List Z0)×Unit))))))
abbrev yov:Type:=((Unit×(zed×Unit))⊕(((List UInt8)×(Unit×Unit))×(Z4×(Unit×Unit))))
abbrev yiv:Type:=((Unit×((List Y6)×Unit)))
abbrev you:Type:=((((List Z3)×((List Z0)×(Unit×(Int×Bool))))×((List Z3)×Unit)))
abbrev yot:Type:=(((Unit×Int)×(Z6×Unit))⊕((Unit×(Unit×Unit))×(Z6×Ty7_)))
abbrev ymh:Type:=((List Z0)×((List Z0)×Unit))

def zdv(N:Nat)(a0:V7):Option (Bool):=
 bif (decide ((2:Int)<=a0.1))then
 (bif (decide (a0.1<=(64:Int)))then
 (bif (decide ((2:Int)<=a0.2.1))then
 (bif (decide (a0.2.1<=(16:Int)))then
 (bif (decide ((1:Int)<=a0.2.2))then
 (some (decide (a0.2.2<=(64:Int))))
 else
 (some false))
 else
 (some false))
 else
 (some false))
 else
 (some false))
 else
 (some false)
def z6y(N:Nat)(a0:(List Z7))(a1:Int):Option (Bool):=
 bif (decide ((0:Int)<=a1))then
 (bif (decide (a1<(a0.length:Int)))then
 (gd (inB a1 (a0.length))
 (some ((rdL a0 a1 X3).1)))
 else
 (some false))
 else
 (some false)
def z9d(N:Nat)(a0:(List Z7)):Option ((List Z7)):=
 gd (fits (0+a0.length) 136)
 (let x1:=(([]:List Z7)++a0)
 some x1)
def z4r(N:Nat)(rec:Int->Int->Z6->(List Z7)->Option (((Unit×(Int×Unit))×yix)))(b0 b1:Int)(b2:Z6)(b3:(List Z7)):Option (((Unit×(Int×Unit))×yix)):=
 bif (decide (b1<(b2.2.2.1.length:Int)))then
 (gd (inB b1 (b2.2.2.1.length))
 (gd (inB (rdL b2.2.2.1 b1 (0:Int)) (b3.length))
 (let x10:=(((rdL b3 (rdL b2.2.2.1 b1 (0:Int)) X3).2).2).1
 gd (inB (rdL b2.2.2.1 b1 (0:Int)) (b3.length))
 (let x11:=(setL b3 (rdL b2.2.2.1 b1 (0:Int)) ((rdL b3 (rdL b2.2.2.1 b1 (0:Int)) X3).1,(((rdL b3 (rdL b2.2.2.1 b1 (0:Int)) X3).2).1,((aa .i64 (x10+(1:Int))),((((rdL b3 (rdL b2.2.2.1 b1 (0:Int)) X3).2).2).2)))))
 rec b0 (aa .i64 (b1+(1:Int))) b2 x11))))
 else
 (some (((),(b0,())),((),((),(b3,())))))
def z52(N:Nat)(n:Nat):=
 itF (fun _ _ _ _=>none) (z4r N) n
theorem zia(N:Nat)(n:Nat):z52 N (n+1)=z4r N (z52 N n):=rfl
def z4s(N:Nat)(rec:Int->(List Z7)->Z6->Option (((Unit×(Unit×(Unit×Int)))×yiy)))(b0:Int)(b1:(List Z7))(b2:Z6):Option (((Unit×(Unit×(Unit×Int)))×yiy)):=
 bif (decide (b0<(b1.length:Int)))then
 (gd (inB b0 (b1.length))
 (bif (rdL b1 b0 X3).1 then
 (rec (aa .i64 (b0+(1:Int))) b1 b2)
 else
 (some (((),((),((),b0))),(b1,(b2,((),())))))))
 else
 (some (((),((),((),b0))),(b1,(b2,((),())))))
def z9e(N:Nat)(n:Nat):=
 itF (fun _ _ _=>none) (z4s N) n
theorem zib(N:Nat)(n:Nat):z9e N (n+1)=z4s N (z9e N n):=rfl
def z4t(N:Nat)(rec:Int->(List Z7)->Z6->Option ((Unit×(zdl×Unit))⊕((Unit×(Unit×Unit))×yiy)))(b0:Int)(b1:(List Z7))(b2:Z6):Option ((Unit×(zdl×Unit))⊕((Unit×(Unit×Unit))×yiy)):=
 bif (decide (b0<(b2.2.2.1.length:Int)))then
 (gd (inB b0 (b2.2.2.1.length))
 (match z6y N b1 (rdL b2.2.2.1 b0 (0:Int))with
 | some r1=>(bif (!r1)then
 (some (.inl ((),((b1,((0:Int),(110:Int))),()))))
 else
 (rec (aa .i64 (b0+(1:Int))) b1 b2))
 | none=>none))
 else
 (some (.inr (((),((),())),(b1,(b2,((),()))))))
def z9f(N:Nat)(n:Nat):=
 itF (fun _ _ _=>none) (z4t N) n
theorem zic(N:Nat)(n:Nat):z9f N (n+1)=z4t N (z9f N n):=rfl
def z60(N:Nat)(a0:(List Z7))(a1:Z6):Option (zdl):=
 match z9f N N (0:Int) a0 a1 with
 | some r2=>(match r2 with
 | .inl r3=>(some r3.2.1)
 | .inr r4=>(match z9e N N (0:Int) r4.2.1 r4.2.2.1 with
 | some r5=>(bif (decide ((4096:Int)<=r5.1.2.2.2))then
 (some (r5.2.1,((0:Int),(111:Int))))
 else
 (match z9d N r5.2.1 with
 | some r6=>(bif (eqi r5.1.2.2.2 (r6.length:Int))then
 (let x7:=([(false,(false,((0:Int),(([]:List Z3),(([]:List (List UInt8)),(([]:List Int),(([]:List Y6),([]:List Z1))))))))]:List Z7)
 gd (fits (r6.length+x7.length) 136)
 (let x8:=(r6++x7)
 gd (inB r5.1.2.2.2 (x8.length))
 (let x9:=(setL x8 r5.1.2.2.2 (true,(false,((1:Int),r5.2.2.1))))
 match z52 N N r5.1.2.2.2 (0:Int) r5.2.2.1 x9 with
 | some r12=>(some (r12.2.2.2.1,(r12.1.2.1,(0:Int))))
 | none=>none)))
 else
 (gd (inB r5.1.2.2.2 (r6.length))
 (let x13:=(setL r6 r5.1.2.2.2 (true,(false,((1:Int),r5.2.2.1))))
 match z52 N N r5.1.2.2.2 (0:Int) r5.2.2.1 x13 with
 | some r14=>(some (r14.2.2.2.1,(r14.1.2.1,(0:Int))))
 | none=>none)))
 | none=>none))
 | none=>none))
 | none=>none
def zxn(N:Nat)(a0:V7):Option ((Y5×Int)):=
 (zdv N a0).bind fun r1=>
 bif (!r1)then
 (some ((([]:List Z7),((0:Int),((0:Int),((0:Int),(0:Int))))),(120:Int)))
 else
 ((z60 N ([]:List Z7) (([]:List Z3),(([]:List (List UInt8)),(([]:List Int),(([]:List Y6),([]:List Z1)))))).bind fun r2=>
 some ((r2.1,(r2.2.1,a0)),(0:Int)))
def zkc(N:Nat)(a0:V7):Option ((Z4×Int)):=
 (zxn N a0).bind fun r1=>
 bif (!(eqi r1.2 (0:Int)))then
 (some ((([]:List Z7),(((0:Int),((0:Int),(0:Int))),(([]:List W5),((0:Int),((0:Int),((0:Int),([]:List Z1))))))),r1.2))
 else
 (some ((r1.1.1,(a0,(([]:List W5),((1:Int),(r1.1.2.1,((0:Int),([]:List Z1))))))),(0:Int)))
def z3c(N:Nat)(rec:Int->Int->Z4->Option ((Int×Unit)⊕(Unit×Unit)))(b0 b1:Int)(b2:Z4):Option ((Int×Unit)⊕(Unit×Unit)):=
 bif (decide (b1<(b2.2.2.1.length:Int)))then
 (gd (inB b1 (b2.2.2.1.length))
 (bif (eqi ((rdL b2.2.2.1 b1 X1).1) b0)then
 (some (.inl (b1,())))
 else
 (rec b0 (aa .i64 (b1+(1:Int))) b2)))
 else
 (some (.inr ((),())))
def za3(N:Nat)(n:Nat):=
 itF (fun _ _ _=>none) (z3c N) n
theorem zgd(N:Nat)(n:Nat):za3 N (n+1)=z3c N (za3 N n):=rfl
def zcu(N:Nat)(a0:Z4)(a1:Int):Option (Int):=
 (za3 N N a1 (0:Int) a0).bind fun r1=>
 match r1 with
 | .inl r2=>(some r2.1)
 | .inr r3=>(some (-1:Int))
def zrx(N:Nat)(a0:Z4)(a1:Int):Option ((Y5×Int)):=
 bif (eqi a1 (0:Int))then
 (some ((a0.1,(a0.2.2.2.2.1,a0.2.1)),(0:Int)))
 else
 ((zcu N a0 a1).bind fun r1=>
 bif (decide (r1<(0:Int)))then
 (some ((([]:List Z7),((0:Int),((0:Int),((0:Int),(0:Int))))),(160:Int)))
 else
 (gd (inB r1 (a0.2.2.1.length))
 (some ((a0.1,((((rdL a0.2.2.1 r1 X1).2).2).1,a0.2.1)),(0:Int)))))
def zi0(N:Nat)(a0 a1 a2:Int):Option (Bool):=
 bif (decide (a1<=a0))then
 (some (decide (a0<=a2)))
 else
 (some false)
def z0a(N:Nat)(a0:Z0):Option (Bool):=
 bif (!(eqs a0.2 ([]:List UInt8)))then
 (some (lts a0.2 a0.1 || eqs a0.2 a0.1))
 else
 (some false)
def zhm(N:Nat)(a0:Z0):Option (Bool):=
 match z0a N a0 with
 | some r1=>(bif (!r1)then
 (let x2:=(decide ((a0.1.length:Int)<=(65535:Int)))
 bif x2 then
 (let x3:=(decide ((a0.2.length:Int)<=(65535:Int)))
 some x3)
 else
 (some false))
 else
 (some false))
 | none=>none
def j9(N:Nat)(a0 a1:(List UInt8)):Option (Bool):=
 let x1:=(decide ((a1.length:Int)<=(a0.length:Int)))
 bif x1 then
 (gd (decide (0<=(0:Int))&&(decide ((0:Int)<=(a1.length:Int))&&decide ((a1.length:Int)<=(a0.length:Int))))
 (let x2:=(eqs (cut2 a0 (0:Int) (a1.length:Int)) a1)
 some x2))
 else
 (some false)
def z8d(N:Nat)(b0:Bool)(b1:Int)(b2:Bool)(b3:Z1):Option Ty3_:=
 bif b2 then
 (match j9 N b3.2.2.2.2.1 b3.2.2.2.2.2.1 with
 | some r8=>(bif (!r8)then
 (match j9 N b3.2.2.2.2.2.1 b3.2.2.2.2.1 with
 | some r9=>(bif (!r9)then
 (match zi0 N (b3.2.2.2.2.1.length:Int) (1:Int) (200:Int)with
 | some r10=>(bif r10 then
 (match zi0 N (b3.2.2.2.2.2.1.length:Int) (1:Int) (200:Int)with
 | some r11=>(bif r11 then
 (let x12:=(eqi b3.1 b3.1&&(eqs b3.2.1 ([]:List UInt8)&&(eqs b3.2.2.1 ([]:List UInt8)&&(eqs b3.2.2.2.1.1 ([]:List UInt8)&&(eqs b3.2.2.2.1.2 ([]:List UInt8)&&(eqs b3.2.2.2.2.1 b3.2.2.2.2.1&&(eqs b3.2.2.2.2.2.1 b3.2.2.2.2.2.1&&(eqi b3.2.2.2.2.2.2 (0:Int)&&true))))))))
 some (.inl (x12,())))
 else
 (some (.inl (false,()))))
 | none=>none)
 else
 (some (.inl (false,()))))
 | none=>none)
 else
 (some (.inl (false,()))))
 | none=>none)
 else
 (some (.inl (false,()))))
 | none=>none)
 else
 (bif (eqi b1 (6:Int))then
 (match zhm N b3.2.2.2.1 with
 | some r13=>(bif r13 then
 (bif b0 then
 (let x14:=(eqi b3.1 b3.1&&(eqs b3.2.1 ([]:List UInt8)&&(eqs b3.2.2.1 ([]:List UInt8)&&(eqs b3.2.2.2.1.1 b3.2.2.2.1.1&&(eqs b3.2.2.2.1.2 b3.2.2.2.1.2&&(eqs b3.2.2.2.2.1 ([]:List UInt8)&&(eqs b3.2.2.2.2.2.1 ([]:List UInt8)&&(eqi b3.2.2.2.2.2.2 b3.2.2.2.2.2.2&&true))))))))
 some (.inl (x14,())))
 else
 (some (.inl (false,()))))
 else
 (some (.inl (false,()))))
 | none=>none)
 else
 (some (.inr ((),()))))
def zb8(N:Nat)(a0:Z1):Option (Bool):=
 match zi0 N (a0.2.1.length:Int) (1:Int) (65535:Int)with
 | some r1=>(match zi0 N a0.2.2.2.2.2.2 (0:Int) (1000000000:Int)with
 | some r2=>(bif (eqi a0.1 (1:Int))then
 (bif r1 then
 (let x3:=(decide ((a0.2.2.1.length:Int)<=(64:Int)))
 bif x3 then
 (bif r2 then
 (let x4:=(eqi a0.1 a0.1&&(eqs a0.2.1 a0.2.1&&(eqs a0.2.2.1 a0.2.2.1&&(eqs a0.2.2.2.1.1 ([]:List UInt8)&&(eqs a0.2.2.2.1.2 ([]:List UInt8)&&(eqs a0.2.2.2.2.1 ([]:List UInt8)&&(eqs a0.2.2.2.2.2.1 ([]:List UInt8)&&(eqi a0.2.2.2.2.2.2 a0.2.2.2.2.2.2&&true))))))))
 some x4)
 else
 (some false))
 else
 (some false))
 else
 (some false))
 else
 (bif (eqi a0.1 (2:Int))then
 (bif r1 then
 (let x5:=(eqi a0.1 a0.1&&(eqs a0.2.1 a0.2.1&&(eqs a0.2.2.1 ([]:List UInt8)&&(eqs a0.2.2.2.1.1 ([]:List UInt8)&&(eqs a0.2.2.2.1.2 ([]:List UInt8)&&(eqs a0.2.2.2.2.1 ([]:List UInt8)&&(eqs a0.2.2.2.2.2.1 ([]:List UInt8)&&(eqi a0.2.2.2.2.2.2 (0:Int)&&true))))))))
 some x5)
 else
 (some false))
 else
 (bif (eqi a0.1 (3:Int))then
 (match zhm N a0.2.2.2.1 with
 | some r6=>(bif r6 then
 (let x7:=(eqi a0.1 a0.1&&(eqs a0.2.1 ([]:List UInt8)&&(eqs a0.2.2.1 ([]:List UInt8)&&(eqs a0.2.2.2.1.1 a0.2.2.2.1.1&&(eqs a0.2.2.2.1.2 a0.2.2.2.1.2&&(eqs a0.2.2.2.2.1 ([]:List UInt8)&&(eqs a0.2.2.2.2.2.1 ([]:List UInt8)&&(eqi a0.2.2.2.2.2.2 (0:Int)&&true))))))))
 some x7)
 else
 (some false))
 | none=>none)
 else
 (bif (eqi a0.1 (4:Int))then
 (match z8d N r2 a0.1 true a0 with
 | some r15=>(match r15 with
 | .inl r16=>(some r16.1)
 | .inr r17=>(some false))
 | none=>none)
 else
 (match z8d N r2 a0.1 (eqi a0.1 (5:Int)) a0 with
 | some r18=>(match r18 with
 | .inl r19=>(some r19.1)
 | .inr r20=>(some false))
 | none=>none)))))
 | none=>none)
 | none=>none
def z9o(N:Nat)(a0:(List Z7))(a1:Int):Option ((Z6×Int)):=
 match z6y N a0 a1 with
 | some r1=>(bif (!r1)then
 (some ((([]:List Z3),(([]:List (List UInt8)),(([]:List Int),(([]:List Y6),([]:List Z1))))),(110:Int)))
 else
 (gd (inB a1 (a0.length))
 (bif ((rdL a0 a1 X3).2).1 then
 (some ((([]:List Z3),(([]:List (List UInt8)),(([]:List Int),(([]:List Y6),([]:List Z1))))),(112:Int)))
 else
 (gd (inB a1 (a0.length))
 (some (((((rdL a0 a1 X3).2).2).2),(0:Int)))))))
 | none=>none
def z1j(N:Nat)(b0:(List Z3))(b1:Bool)(b2:Int)(b3:Z3)(b4:(List Z3)):Option ((((List Z3)×(Unit×(Unit×(Bool×Int))))×(Z3×((List Z3)×Unit)))):=
 gd (inB b2 (b0.length))
 (bif (!(eqs ((rdL b0 b2 X5).1) b3.1))then
 (gd (inB b2 (b0.length))
 (gd (fits (b4.length+1) 40)
 (let x3:=(b4++([(rdL b0 b2 X5)]:List Z3))
 some ((b0,((),((),(b1,b2)))),(b3,(x3,()))))))
 else
 (some ((b0,((),((),(b1,b2)))),(b3,(b4,())))))
def z0z(N:Nat)(rec:(List Z3)->Bool->Int->Z3->(List Z3)->Option (((Unit×(Unit×Bool))×(Z3×((List Z3)×Unit)))))(b0:(List Z3))(b1:Bool)(b2:Int)(b3:Z3)(b4:(List Z3)):Option (((Unit×(Unit×Bool))×(Z3×((List Z3)×Unit)))):=
 bif (decide (b2<(b0.length:Int)))then
 (bif (!b1)then
 (gd (inB b2 (b0.length))
 (let x1:=(lts b3.1 ((rdL b0 b2 X5).1) || eqs b3.1 ((rdL b0 b2 X5).1))
 bif x1 then
 (gd (fits (b4.length+1) 40)
 (let x2:=(b4++([b3]:List Z3))
 match z1j N b0 true b2 b3 x2 with
 | some r4=>(let x5:=(aa .i64 (r4.1.2.2.2.2+(1:Int)))
 rec r4.1.1 r4.1.2.2.2.1 x5 r4.2.1 r4.2.2.1)
 | none=>none))
 else
 (match z1j N b0 b1 b2 b3 b4 with
 | some r6=>(let x7:=(aa .i64 (r6.1.2.2.2.2+(1:Int)))
 rec r6.1.1 r6.1.2.2.2.1 x7 r6.2.1 r6.2.2.1)
 | none=>none)))
 else
 (match z1j N b0 b1 b2 b3 b4 with
 | some r8=>(let x9:=(aa .i64 (r8.1.2.2.2.2+(1:Int)))
 rec r8.1.1 r8.1.2.2.2.1 x9 r8.2.1 r8.2.2.1)
 | none=>none))
 else
 (some (((),((),b1)),(b3,(b4,()))))
def z1k(N:Nat)(n:Nat):=
 itF (fun _ _ _ _ _=>none) (z0z N) n
theorem zdb(N:Nat)(n:Nat):z1k N (n+1)=z0z N (z1k N n):=rfl
def z9g(N:Nat)(a0:(List Z3))(a1:Z3):Option ((List Z3)):=
 match z1k N N a0 false (0:Int) a1 ([]:List Z3)with
 | some r10=>(bif (!r10.1.2.2)then
 (gd (fits (r10.2.2.1.length+1) 40)
 (let x11:=(r10.2.2.1++([r10.2.1]:List Z3))
 some x11))
 else
 (some r10.2.2.1))
 | none=>none
def z9p(N:Nat)(a0:(List UInt8)):Option (Z0):=
 gd (decide (a0.length+aq ([0]:List UInt8)<maxS))
 (let x1:=(a0++([0]:List UInt8))
 some (a0,x1))
def zbi(N:Nat)(a0:Z0)(a1:(List UInt8)):Option (Bool):=
 bif (!(lts a1 a0.1))then
 (bif (eqs a0.2 ([]:List UInt8))then
 (some true)
 else
 (some (lts a1 a0.2)))
 else
 (some false)
def z5m(N:Nat)(rec:(List Z0)->(List UInt8)->Int->Option Ty3_)(b0:(List Z0))(b1:(List UInt8))(b2:Int):Option Ty3_:=
 bif (decide (b2<(b0.length:Int)))then
 (gd (inB b2 (b0.length))
 (match zbi N (rdL b0 b2 Y7) b1 with
 | some r1=>(bif r1 then
 (some (.inl (true,())))
 else
 (rec b0 b1 (aa .i64 (b2+(1:Int)))))
 | none=>none))
 else
 (some (.inr ((),())))
def ze1(N:Nat)(n:Nat):=
 itF (fun _ _ _=>none) (z5m N) n
theorem zjx(N:Nat)(n:Nat):ze1 N (n+1)=z5m N (ze1 N n):=rfl
def zol(N:Nat)(a0:(List Z0))(a1:(List UInt8)):Option (Bool):=
 match ze1 N N a0 a1 (0:Int)with
 | some r2=>(match r2 with
 | .inl r3=>(some r3.1)
 | .inr r4=>(some false))
 | none=>none
def z09(N:Nat)(rec:(List Z3)->(List Z0)->Int->(List Z3)->Option (Ty7_))(b0:(List Z3))(b1:(List Z0))(b2:Int)(b3:(List Z3)):Option (Ty7_):=
 bif (decide (b2<(b0.length:Int)))then
 (gd (inB b2 (b0.length))
 (match zol N b1 ((rdL b0 b2 X5).1)with
 | some r1=>(bif (!r1)then
 (gd (inB b2 (b0.length))
 (gd (fits (b3.length+1) 40)
 (let x2:=(b3++([(rdL b0 b2 X5)]:List Z3))
 rec b0 b1 (aa .i64 (b2+(1:Int))) x2)))
 else
 (rec b0 b1 (aa .i64 (b2+(1:Int))) b3))
 | none=>none))
 else
 (some ((),(b3,())))
def z5l(N:Nat)(n:Nat):=
 itF (fun _ _ _ _=>none) (z09 N) n
theorem zc9(N:Nat)(n:Nat):z5l N (n+1)=z09 N (z5l N n):=rfl
def z5b(N:Nat)(a0:(List Z3))(a1:(List Z0)):Option ((List Z3)):=
 match z5l N N a0 a1 (0:Int) ([]:List Z3)with
 | some r3=>(some r3.2.1)
 | none=>none
def z4g(N:Nat)(rec:(List UInt8)->Int->Option ((((List UInt8)×(Unit×Int))×(Unit×Unit))))(b0:(List UInt8))(b1:Int):Option ((((List UInt8)×(Unit×Int))×(Unit×Unit))):=
 bif (decide ((0:Int)<b1))then
 (gd (inB (aa .i64 (b1-(1:Int))) (b0.length))
 (let x1:=(eqi (bt b0 (aa .i64 (b1-(1:Int)))) (255:Int))
 bif x1 then
 (rec b0 (aa .i64 (b1-(1:Int))))
 else
 (some ((b0,((),b1)),((),())))))
 else
 (some ((b0,((),b1)),((),())))
def G1(N:Nat)(n:Nat):=
 itF (fun _ _=>none) (z4g N) n
theorem zdd(N:Nat)(n:Nat):G1 N (n+1)=z4g N (G1 N n):=rfl
def U2(N:Nat)(a0:(List UInt8)):Option (Z0):=
 match G1 N N a0 (a0.length:Int)with
 | some r2=>(bif (eqi r2.1.2.2 (0:Int))then
 (some (r2.1.1,([]:List UInt8)))
 else
 (gd (decide (0<=(0:Int))&&(decide ((0:Int)<=(aa .i64 (r2.1.2.2-(1:Int))))&&decide ((aa .i64 (r2.1.2.2-(1:Int)))<=(r2.1.1.length:Int))))
 (let x3:=(cut2 r2.1.1 (0:Int) (aa .i64 (r2.1.2.2-(1:Int))))
 gd (inB (aa .i64 (r2.1.2.2-(1:Int))) (r2.1.1.length))
 (let x4:=(bt r2.1.1 (aa .i64 (r2.1.2.2-(1:Int))))
 let x5:=([(aa .u8 (x4+(1:Int)))]:List Int)
 gd (decide (x3.length+aq (zms x5)<maxS))
 (let x6:=(x3++(zms x5))
 some (r2.1.1,x6))))))
 | none=>none
def z0w(N:Nat)(rec:(List Z3)->(List Z0)->Int->(List Z3)->Option (Ty7_))(b0:(List Z3))(b1:(List Z0))(b2:Int)(b3:(List Z3)):Option (Ty7_):=
 bif (decide (b2<(b0.length:Int)))then
 (gd (inB b2 (b0.length))
 (match zol N b1 ((rdL b0 b2 X5).1)with
 | some r1=>(bif r1 then
 (gd (inB b2 (b0.length))
 (gd (fits (b3.length+1) 40)
 (let x2:=(b3++([(rdL b0 b2 X5)]:List Z3))
 rec b0 b1 (aa .i64 (b2+(1:Int))) x2)))
 else
 (rec b0 b1 (aa .i64 (b2+(1:Int))) b3))
 | none=>none))
 else
 (some ((),(b3,())))
def z71(N:Nat)(n:Nat):=
 itF (fun _ _ _ _=>none) (z0w N) n
theorem zd9(N:Nat)(n:Nat):z71 N (n+1)=z0w N (z71 N n):=rfl
def zfu(N:Nat)(a0:(List Z3))(a1:(List Z0)):Option ((List Z3)):=
 match z71 N N a0 a1 (0:Int) ([]:List Z3)with
 | some r3=>(some r3.2.1)
 | none=>none
def zit(N:Nat)(a0 a1 a2:(List UInt8)):Option (((List UInt8)×Bool)):=
 match j9 N a0 a1 with
 | some r1=>(bif (!r1)then
 (some (([]:List UInt8),false))
 else
 (gd (decide (0<=(a1.length:Int))&&(decide ((a1.length:Int)<=(a0.length:Int))&&decide ((a0.length:Int)<=(a0.length:Int))))
 (let x2:=(cut2 a0 (a1.length:Int) (a0.length:Int))
 gd (decide (a2.length+x2.length<maxS))
 (let x3:=(a2++x2)
 some (x3,true)))))
 | none=>none
def z2e(N:Nat)(rec:Int->Z1->(List Z3)->Option (Ty7_))(b0:Int)(b1:Z1)(b2:(List Z3)):Option (Ty7_):=
 bif (decide (b0<(b2.length:Int)))then
 (gd (inB b0 (b2.length))
 (match zbi N b1.2.2.2.1 ((rdL b2 b0 X5).1)with
 | some r6=>(bif r6 then
 (gd (inB b0 (b2.length))
 (let x7:=(setL b2 b0 ((rdL b2 b0 X5).1,(((rdL b2 b0 X5).2).1,b1.2.2.2.2.2.2)))
 rec (aa .i64 (b0+(1:Int))) b1 x7))
 else
 (rec (aa .i64 (b0+(1:Int))) b1 b2))
 | none=>none))
 else
 (some ((),(b2,())))
def z8g(N:Nat)(n:Nat):=
 itF (fun _ _ _=>none) (z2e N) n
theorem zf4(N:Nat)(n:Nat):z8g N (n+1)=z2e N (z8g N n):=rfl
def z2f(N:Nat)(rec:Int->Z1->(List Z3)->(List Z3)->Option (Ty7_))(b0:Int)(b1:Z1)(b2:(List Z3))(b3:(List Z3)):Option (Ty7_):=
 bif (decide (b0<(b3.length:Int)))then
 (gd (inB b0 (b3.length))
 (match zit N ((rdL b3 b0 X5).1) b1.2.2.2.2.1 b1.2.2.2.2.2.1 with
 | some r15=>(gd (inB b0 (b3.length))
 (gd (inB b0 (b3.length))
 (match z9g N b2 (r15.1,((rdL b3 b0 X5).2))with
 | some r16=>(rec (aa .i64 (b0+(1:Int))) b1 r16 b3)
 | none=>none)))
 | none=>none))
 else
 (some ((),(b2,())))
def z3z(N:Nat)(n:Nat):=
 itF (fun _ _ _ _=>none) (z2f N) n
theorem zf5(N:Nat)(n:Nat):z3z N (n+1)=z2f N (z3z N n):=rfl
def z35(N:Nat)(a0:(List Z3))(a1:Z1):Option ((List Z3)):=
 bif (eqi a1.1 (1:Int))then
 (match z9g N a0 (a1.2.1,(a1.2.2.1,a1.2.2.2.2.2.2))with
 | some r1=>(some r1)
 | none=>none)
 else
 (bif (eqi a1.1 (2:Int))then
 (match z9p N a1.2.1 with
 | some r2=>(match z5b N a0 ([r2]:List Z0)with
 | some r3=>(some r3)
 | none=>none)
 | none=>none)
 else
 (bif (eqi a1.1 (3:Int))then
 (match z5b N a0 ([a1.2.2.2.1]:List Z0)with
 | some r4=>(some r4)
 | none=>none)
 else
 (bif (eqi a1.1 (6:Int))then
 (gd (fits (0+a0.length) 40)
 (let x5:=(([]:List Z3)++a0)
 match z8g N N (0:Int) a1 x5 with
 | some r8=>(some r8.2.1)
 | none=>none))
 else
 (match U2 N a1.2.2.2.2.2.1 with
 | some r9=>(match z5b N a0 ([r9]:List Z0)with
 | some r10=>(match U2 N a1.2.2.2.2.1 with
 | some r11=>(match zfu N a0 ([r11]:List Z0)with
 | some r12=>(bif (eqi a1.1 (4:Int))then
 (match U2 N a1.2.2.2.2.1 with
 | some r13=>(match z5b N r10 ([r13]:List Z0)with
 | some r14=>(match z3z N N (0:Int) a1 r14 r12 with
 | some r17=>(some r17.2.1)
 | none=>none)
 | none=>none)
 | none=>none)
 else
 (match z3z N N (0:Int) a1 r10 r12 with
 | some r18=>(some r18.2.1)
 | none=>none))
 | none=>none)
 | none=>none)
 | none=>none)
 | none=>none))))
def z3j(N:Nat)(rec:(List Int)->(List Z7)->Option (((Unit×Unit)×yix)))(b0:(List Int))(b1:(List Z7)):Option (((Unit×Unit)×yix)):=
 let x3:=(decide ((0:Int)<(b0.length:Int)))
 bif x3 then
 (gd (inB (0:Int) (b0.length))
 (gd (decide (0<=(1:Int))&&(decide ((1:Int)<=(b0.length:Int))&&decide ((b0.length:Int)<=(b0.length:Int))))
 (match z6y N b1 (rdL b0 (0:Int) (0:Int))with
 | some r4=>(bif (!r4)then
 (rec (cut2 b0 (1:Int) (b0.length:Int)) b1)
 else
 (gd (inB (rdL b0 (0:Int) (0:Int)) (b1.length))
 (let x5:=(((rdL b1 (rdL b0 (0:Int) (0:Int)) X3).2).2).1
 gd (inB (rdL b0 (0:Int) (0:Int)) (b1.length))
 (let x6:=(setL b1 (rdL b0 (0:Int) (0:Int)) ((rdL b1 (rdL b0 (0:Int) (0:Int)) X3).1,(((rdL b1 (rdL b0 (0:Int) (0:Int)) X3).2).1,((aa .i64 (x5-(1:Int))),((((rdL b1 (rdL b0 (0:Int) (0:Int)) X3).2).2).2)))))
 gd (inB (rdL b0 (0:Int) (0:Int)) (x6.length))
 (let x7:=(((rdL x6 (rdL b0 (0:Int) (0:Int)) X3).2).2).1
 bif (eqi x7 (0:Int))then
 (gd (fits (0+aq (cut2 b0 (1:Int) (b0.length:Int))) 8)
 (let x8:=(([]:List Int)++(cut2 b0 (1:Int) (b0.length:Int)))
 gd (inB (rdL b0 (0:Int) (0:Int)) (x6.length))
 (let x9:=((((((rdL x6 (rdL b0 (0:Int) (0:Int)) X3).2).2).2).2).2).1
 gd (fits (x8.length+x9.length) 8)
 (let x10:=(x8++x9)
 gd (inB (rdL b0 (0:Int) (0:Int)) (x6.length))
 (let x11:=(setL x6 (rdL b0 (0:Int) (0:Int)) (false,(false,((0:Int),(([]:List Z3),(([]:List (List UInt8)),(([]:List Int),(([]:List Y6),([]:List Z1)))))))))
 rec x10 x11)))))
 else
 (rec (cut2 b0 (1:Int) (b0.length:Int)) x6))))))
 | none=>none)))
 else
 (some (((),()),((),((),(b1,())))))
def z7f(N:Nat)(n:Nat):=
 itF (fun _ _=>none) (z3j N) n
theorem zgk(N:Nat)(n:Nat):z7f N (n+1)=z3j N (z7f N n):=rfl
def z2r(N:Nat)(a0:(List Z7))(a1:Int):Option (((List Z7)×Int)):=
 match z6y N a0 a1 with
 | some r1=>(bif (!r1)then
 (some (a0,(110:Int)))
 else
 (match z9d N a0 with
 | some r2=>(match z7f N N ([a1]:List Int) r2 with
 | some r12=>(some (r12.2.2.2.1,(0:Int)))
 | none=>none)
 | none=>none))
 | none=>none
def zke(N:Nat)(a0:Y5)(a1:Z1):Option ((Y5×Int)):=
 (zb8 N a1).bind fun r1=>
 bif (!r1)then
 (some (a0,(50:Int)))
 else
 ((z9o N a0.1 a0.2.1).bind fun r2=>
 bif (!(eqi r2.2 (0:Int)))then
 (some (a0,r2.2))
 else
 (let x3:=(eqi (r2.1.2.2.1.length:Int) (0:Int))
 bif x3 then
 ((z35 N r2.1.1 a1).bind fun r4=>
 (z60 N a0.1 (r4,r2.1.2)).bind fun r5=>
 bif (!(eqi r5.2.2 (0:Int)))then
 (some (a0,r5.2.2))
 else
 ((z2r N r5.1 a0.2.1).bind fun r6=>
 some ((r6.1,(r5.2.1,a0.2.2)),(0:Int))))
 else
 (gd (fits (0+r2.1.2.2.2.2.length) 112)
 (let x7:=(([]:List Z1)++r2.1.2.2.2.2)
 gd (fits (x7.length+1) 112)
 (let x8:=(x7++([a1]:List Z1))
 (z60 N a0.1 (r2.1.1,(r2.1.2.1,(r2.1.2.2.1,(r2.1.2.2.2.1,x8))))).bind fun r9=>
 bif (!(eqi r9.2.2 (0:Int)))then
 (some (a0,r9.2.2))
 else
 ((z2r N r9.1 a0.2.1).bind fun r10=>
 some ((r10.1,(r9.2.1,a0.2.2)),(0:Int))))))))
def zde(N:Nat)(a0 a1:(List UInt8)):Option (Bool):=
 bif (!(eqs a0 ([]:List UInt8)))then
 (bif (eqs a1 ([]:List UInt8))then
 (some true)
 else
 (some (lts a0 a1)))
 else
 (some false)
def zlx(N:Nat):Option (Z0):=
 some (([97]:List UInt8),([97]:List UInt8))
def z2s(N:Nat)(a0 a1:Z0):Option (Z0):=
 match zde N a1.2 a0.2 with
 | some r1=>(bif r1 then
 (match z0a N ((bif !(lts a0.1 a1.1)then a0.1 else a1.1),a1.2)with
 | some r2=>(bif r2 then
 (match zlx N with
 | some r3=>(some r3)
 | none=>none)
 else
 (some ((bif !(lts a0.1 a1.1)then a0.1 else a1.1),a1.2)))
 | none=>none)
 else
 (match z0a N ((bif !(lts a0.1 a1.1)then a0.1 else a1.1),a0.2)with
 | some r4=>(bif r4 then
 (match zlx N with
 | some r5=>(some r5)
 | none=>none)
 else
 (some ((bif !(lts a0.1 a1.1)then a0.1 else a1.1),a0.2)))
 | none=>none))
 | none=>none
def z2h(N:Nat)(rec:(List (List UInt8))->(List UInt8)->Int->Z0->(List Z0)->Option (((Unit×(Unit×(List UInt8)))×yiw)))(b0:(List (List UInt8)))(b1:(List UInt8))(b2:Int)(b3:Z0)(b4:(List Z0)):Option (((Unit×(Unit×(List UInt8)))×yiw)):=
 bif (decide (b2<(b0.length:Int)))then
 (gd (inB b2 (b0.length))
 (match z2s N b3 (b1,(rdL b0 b2 ([]:List UInt8)))with
 | some r1=>(gd (fits (b4.length+1) 32)
 (let x2:=(b4++([r1]:List Z0))
 gd (inB b2 (b0.length))
 (rec b0 (rdL b0 b2 ([]:List UInt8)) (aa .i64 (b2+(1:Int))) b3 x2)))
 | none=>none))
 else
 (some (((),((),b1)),(b3,(b4,()))))
def z8j(N:Nat)(n:Nat):=
 itF (fun _ _ _ _ _=>none) (z2h N) n
theorem zf7(N:Nat)(n:Nat):z8j N (n+1)=z2h N (z8j N n):=rfl
def ze0(N:Nat)(a0:Z0)(a1:(List (List UInt8))):Option ((List Z0)):=
 match z8j N N a1 ([]:List UInt8) (0:Int) a0 ([]:List Z0)with
 | some r3=>(match z2s N r3.2.1 (r3.1.2.2,([]:List UInt8))with
 | some r4=>(gd (fits (r3.2.2.1.length+1) 32)
 (let x5:=(r3.2.2.1++([r4]:List Z0))
 some x5))
 | none=>none)
 | none=>none
def z8s(N:Nat)(a0:Z6)(a1:Z0):Option ((List Z0)):=
 bif (eqi (a0.2.2.1.length:Int) (0:Int))then
 (some ([]:List Z0))
 else
 (match ze0 N a1 a0.2.1 with
 | some r1=>(some r1)
 | none=>none)
def zje(N:Nat)(b0:(List Int))(b1:Int)(b2:Y5)(b3:Z6)(b4:Z0):Option (Ty4_⊕(((List Int)×(Unit×(Unit×(Unit×(Int×(Unit×Int))))))×(Y5×(Unit×yeh)))):=
 gd (inB b1 (b0.length))
 (bif (decide ((rdL b0 b1 (0:Int))<(0:Int)))then
 (some (.inl ((),(((),((),((),((),((),(([]:List UInt8),(([]:List UInt8),(140:Int)))))))),(([]:List Z3),(([]:List (List UInt8)),(([]:List Int),(([]:List Y6),(([]:List Z1),())))))))))
 else
 (gd (inB b1 (b0.length))
 (let x2:=(decide ((b3.2.2.1.length:Int)<=(rdL b0 b1 (0:Int))))
 bif x2 then
 (some (.inl ((),(((),((),((),((),((),(([]:List UInt8),(([]:List UInt8),(140:Int)))))))),(([]:List Z3),(([]:List (List UInt8)),(([]:List Int),(([]:List Y6),(([]:List Z1),())))))))))
 else
 ((z8s N b3 b4).bind fun r3=>
 gd (inB b1 (b0.length))
 (gd (inB (rdL b0 b1 (0:Int)) (r3.length))
 (gd (inB b1 (b0.length))
 (gd (inB (rdL b0 b1 (0:Int)) (b3.2.2.1.length))
 (let x4:=(rdL b3.2.2.1 (rdL b0 b1 (0:Int)) (0:Int))
 (z9o N b2.1 x4).bind fun r5=>
 some (.inr ((b0,((),((),((),(r5.2,((),(aa .i64 (b1+(1:Int))))))))),(b2,((),(r5.1,((rdL r3 (rdL b0 b1 (0:Int)) Y7),()))))))))))))))
def z3f(N:Nat)(rec:(List Int)->Int->Int->Y5->Z6->Z0->Option (Ty4_⊕((Unit×(Unit×(Int×Unit)))×(Unit×yeh))))(b0:(List Int))(b1 b2:Int)(b3:Y5)(b4:Z6)(b5:Z0):Option (Ty4_⊕((Unit×(Unit×(Int×Unit)))×(Unit×yeh))):=
 bif (decide (b2<(b0.length:Int)))then
 (bif (eqi b1 (0:Int))then
 ((zje N b0 b2 b3 b4 b5).bind fun r6=>
 match r6 with
 | .inl r7=>(some (.inl ((),(((),((),((),((),((),(r7.2.1.2.2.2.2.2.1,(r7.2.1.2.2.2.2.2.2.1,r7.2.1.2.2.2.2.2.2.2))))))),(r7.2.2.1,(r7.2.2.2.1,(r7.2.2.2.2.1,(r7.2.2.2.2.2.1,(r7.2.2.2.2.2.2.1,())))))))))
 | .inr r8=>(rec r8.1.1 r8.1.2.2.2.2.1 r8.1.2.2.2.2.2.2 r8.2.1 r8.2.2.2.1 r8.2.2.2.2.1))
 else
 (some (.inr (((),((),(b1,()))),((),(b4,(b5,())))))))
 else
 (some (.inr (((),((),(b1,()))),((),(b4,(b5,()))))))
def za6(N:Nat)(n:Nat):=
 itF (fun _ _ _ _ _ _=>none) (z3f N) n
theorem zgg(N:Nat)(n:Nat):za6 N (n+1)=z3f N (za6 N n):=rfl
def z8z(N:Nat)(a0:Y5)(a1:(List Int)):Option (zg5):=
 (z9o N a0.1 a0.2.1).bind fun r1=>
 (za6 N N a1 r1.2 (0:Int) a0 r1.1 (([]:List UInt8),([]:List UInt8))).bind fun r9=>
 match r9 with
 | .inl r10=>(some ((r10.2.2.1,(r10.2.2.2.1,(r10.2.2.2.2.1,(r10.2.2.2.2.2.1,r10.2.2.2.2.2.2.1)))),((r10.2.1.2.2.2.2.2.1,r10.2.1.2.2.2.2.2.2.1),r10.2.1.2.2.2.2.2.2.2)))
 | .inr r11=>(bif (!(eqi r11.1.2.2.1 (0:Int)))then
 (some ((([]:List Z3),(([]:List (List UInt8)),(([]:List Int),(([]:List Y6),([]:List Z1))))),((([]:List UInt8),([]:List UInt8)),r11.1.2.2.1)))
 else
 (some (r11.2.2.1,(r11.2.2.2.1,(0:Int)))))
def zlt(N:Nat)(a0:Z6)(a1:V7):Option (Bool):=
 bif (eqi (a0.2.2.1.length:Int) (0:Int))then
 (some (decide (a1.1<(a0.1.length:Int))))
 else
 (let x1:=(decide (a1.2.1<(a0.2.2.1.length:Int)))
 bif x1 then
 (some true)
 else
 (let x2:=(decide (a1.2.2<(a0.2.2.2.2.length:Int)))
 some x2))
def zcx(N:Nat)(a0:(List Int))(a1:Int):Option ((List Int)):=
 gd (fits (0+a0.length) 8)
 (let x1:=(([]:List Int)++a0)
 gd (fits (x1.length+1) 8)
 (let x2:=(x1++([a1]:List Int))
 some x2))
def z1s(N:Nat)(self:Y5->(List Int)->Bool->Option (K1))(rec:(List Int)->Bool->Int->Y5->zg5->Option ((Unit×(K1×Unit))⊕(Unit×(Unit×Unit))))(b0:(List Int))(b1:Bool)(b2:Int)(b3:Y5)(b4:zg5):Option ((Unit×(K1×Unit))⊕(Unit×(Unit×Unit))):=
 let x4:=(decide (b2<(b4.1.2.2.1.length:Int)))
 bif x4 then
 ((zcx N b0 b2).bind fun r5=>
 (self b3 r5 b1).bind fun r6=>
 bif r6.2 then
 (some (.inl ((),(r6,()))))
 else
 (rec b0 b1 (aa .i64 (b2+(1:Int))) b3 b4))
 else
 (some (.inr ((),((),()))))
def G0(N:Nat)(self:Y5->(List Int)->Bool->Option (K1))(n:Nat):=
 itF (fun _ _ _ _ _=>none) (z1s N self) n
theorem z9j(N:Nat)(self:Y5->(List Int)->Bool->Option (K1))(n:Nat):G0 N self (n+1)=z1s N self (G0 N self n):=rfl
def z5k(N:Nat)(self:Y5->(List Int)->Bool->Option (K1))(a0:Y5)(a1:(List Int))(a2:Bool):Option (K1):=
 (z8z N a0 a1).bind fun r1=>
 bif (!(eqi r1.2.2 (0:Int)))then
 (some (([]:List Int),false))
 else
 ((zlt N r1.1 a0.2.2).bind fun r2=>
 bif r2 then
 (some (a1,true))
 else
 (bif a2 then
 (let x3:=(decide ((0:Int)<(r1.1.2.2.2.2.length:Int)))
 bif x3 then
 (some (a1,true))
 else
 ((G0 N self N a1 a2 (0:Int) a0 r1).bind fun r7=>
 match r7 with
 | .inl r8=>(some r8.2.1)
 | .inr r9=>(some (([]:List Int),false))))
 else
 ((G0 N self N a1 a2 (0:Int) a0 r1).bind fun r10=>
 match r10 with
 | .inl r11=>(some r11.2.1)
 | .inr r12=>(some (([]:List Int),false)))))
def w6(N n:Nat):Y5->(List Int)->Bool->Option (K1):=
 itF (fun _ _ _=>none) (z5k N) n
theorem zmg(N n:Nat):w6 N (n+1)=z5k N (w6 N n):=rfl
def zyj(N:Nat):Y5->(List Int)->Bool->Option (K1):=
 w6 N N
def z1t(N:Nat)(rec:Int->Int->Int->(List Int)->Option ((Unit×((List Int)×Unit))))(b0 b1 b2:Int)(b3:(List Int)):Option ((Unit×((List Int)×Unit))):=
 bif (decide (b2<b1))then
 (gd (!(eqi b1 0))
 (gd (!(eqi b1 0))
 (bif (decide (b2<(aJ b0 b1)))then
 (let x2:=(aa .i64 ((aa .i64 (c9 b0 b1))+(1:Int)))
 gd (fits (b3.length+1) 8)
 (let x3:=(b3++([x2]:List Int))
 rec b0 b1 (aa .i64 (b2+(1:Int))) x3))
 else
 (let x4:=([(aa .i64 (c9 b0 b1))]:List Int)
 gd (fits (b3.length+x4.length) 8)
 (let x5:=(b3++x4)
 rec b0 b1 (aa .i64 (b2+(1:Int))) x5)))))
 else
 (some ((),(b3,())))
def z81(N:Nat)(n:Nat):=
 itF (fun _ _ _ _=>none) (z1t N) n
theorem zen(N:Nat)(n:Nat):z81 N (n+1)=z1t N (z81 N n):=rfl
def z56(N:Nat)(a0 a1:Int):Option ((List Int)):=
 bif (decide (a1<(1:Int)))then
 (some ([]:List Int))
 else
 (bif (decide (a0<(1:Int)))then
 (some ([]:List Int))
 else
 (gd (!(eqi a1 0))
 (let x1:=(aa .i64 (c9 (aa .i64 (a0-(1:Int))) a1))
 (z81 N N a0 (aa .i64 (x1+(1:Int))) (0:Int) ([]:List Int)).bind fun r6=>
 some r6.2.1)))
def z0p(N:Nat)(rec:(List Z3)->Int->Int->(List (List Z3))->(List Int)->Option ((Unit×((List (List Z3))×Unit))))(b0:(List Z3))(b1 b2:Int)(b3:(List (List Z3)))(b4:(List Int)):Option ((Unit×((List (List Z3))×Unit))):=
 bif (decide (b2<(b4.length:Int)))then
 (gd (inB b2 (b4.length))
 (let x2:=(aa .i64 (b1+(rdL b4 b2 (0:Int))))
 gd (decide (0<=b1)&&(decide (b1<=x2)&&decide (x2<=(b0.length:Int))))
 (gd (fits (b3.length+1) 24)
 (let x3:=(b3++([(cut2 b0 b1 x2)]:List (List Z3)))
 gd (inB b2 (b4.length))
 (let x4:=(aa .i64 (b1+(rdL b4 b2 (0:Int))))
 rec b0 x4 (aa .i64 (b2+(1:Int))) x3 b4)))))
 else
 (some ((),(b3,())))
def z6v(N:Nat)(n:Nat):=
 itF (fun _ _ _ _ _=>none) (z0p N) n
theorem zcy(N:Nat)(n:Nat):z6v N (n+1)=z0p N (z6v N n):=rfl
def zfr(N:Nat)(a0:(List Z3))(a1:Int):Option ((List (List Z3))):=
 (z56 N (a0.length:Int) a1).bind fun r1=>
 (z6v N N a0 (0:Int) (0:Int) ([]:List (List Z3)) r1).bind fun r5=>
 some r5.2.1
def z3g(N:Nat)(rec:Int->(List (List Z3))->(List Z6)->(List (List UInt8))->(List Z1)->Option yp0)(b0:Int)(b1:(List (List Z3)))(b2:(List Z6))(b3:(List (List UInt8)))(b4:(List Z1)):Option yp0:=
 bif (decide (b0<(b1.length:Int)))then
 (gd (inB b0 (b1.length))
 (let x3:=([((rdL b1 b0 ([]:List Z3)),(([]:List (List UInt8)),(([]:List Int),(([]:List Y6),([]:List Z1)))))]:List Z6)
 gd (fits (b2.length+x3.length) 120)
 (let x4:=(b2++x3)
 bif (decide ((0:Int)<b0))then
 (gd (inB b0 (b1.length))
 (gd (inB (0:Int) (aq (rdL b1 b0 ([]:List Z3))))
 (let x5:=(rdL (rdL b1 b0 ([]:List Z3)) (0:Int) X5)
 gd (fits (b3.length+1) 16)
 (let x6:=(b3++([x5.1]:List (List UInt8)))
 rec (aa .i64 (b0+(1:Int))) b1 x4 x6 b4))))
 else
 (rec (aa .i64 (b0+(1:Int))) b1 x4 b3 b4))))
 else
 (some (((),()),((),(((),((),())),(b2,(b3,(b4,())))))))
def za7(N:Nat)(n:Nat):=
 itF (fun _ _ _ _ _=>none) (z3g N) n
theorem zgh(N:Nat)(n:Nat):za7 N (n+1)=z3g N (za7 N n):=rfl
def zcz(N:Nat)(a0:Z6)(a1:V7):Option (zjr):=
 (zfr N a0.1 a1.1).bind fun r1=>
 bif (eqi (r1.length:Int) (0:Int))then
 (let x2:=([(([]:List Z3),(([]:List (List UInt8)),(([]:List Int),(([]:List Y6),([]:List Z1)))))]:List Z6)
 some (x2,(([]:List (List UInt8)),([]:List Z1))))
 else
 ((za7 N N (0:Int) r1 ([]:List Z6) ([]:List (List UInt8)) ([]:List Z1)).bind fun r7=>
 some (r7.2.2.2.1,(r7.2.2.2.2.1,r7.2.2.2.2.2.1)))
def z4q(N:Nat)(rec:(List Z6)->Int->(List Z7)->Int->(List Int)->Option yp6)(b0:(List Z6))(b1:Int)(b2:(List Z7))(b3:Int)(b4:(List Int)):Option yp6:=
 bif (decide (b1<(b0.length:Int)))then
 (gd (inB b1 (b0.length))
 ((z60 N b2 (rdL b0 b1 zhw)).bind fun r1=>
 bif (!(eqi r1.2.2 (0:Int)))then
 (some (.inl ((),(((),((),r1.2.2)),(([]:List Z7),(([]:List Int),()))))))
 else
 (gd (fits (b4.length+1) 8)
 (let x2:=(b4++([r1.2.1]:List Int))
 rec b0 (aa .i64 (b1+(1:Int))) r1.1 b3 x2))))
 else
 (some (.inr (((),()),((),((b2,((),b3)),(b4,()))))))
def z50(N:Nat)(n:Nat):=
 itF (fun _ _ _ _ _=>none) (z4q N) n
theorem zi9(N:Nat)(n:Nat):z50 N (n+1)=z4q N (z50 N n):=rfl
def zdo(N:Nat)(a0:(List Z7))(a1:(List Z6)):Option (zak):=
 (z50 N N a1 (0:Int) a0 (0:Int) ([]:List Int)).bind fun r3=>
 match r3 with
 | .inl r4=>(some (r4.2.2.1,(r4.2.2.2.1,r4.2.1.2.2)))
 | .inr r5=>(some (r5.2.2.1.1,(r5.2.2.2.1,r5.2.2.1.2.2)))
def z40(N:Nat)(b0:(List UInt8))(b1:Int)(b2:(List UInt8))(b3:G5):Option ((Unit×(G5×Unit))):=
 bif (eqi b3.2.1 (3:Int))then
 (bif (eqi b3.2.1 (1:Int))then
 (bif (decide ((0:Int)<b1))then
 (gd (inB (0:Int) (b0.length))
 (bif (eqi (bt b0 (0:Int)) (6:Int))then
 (gd (decide (0<=(1:Int))&&(decide ((1:Int)<=b1)&&decide (b1<=(b0.length:Int))))
 (some ((),(((cut2 b0 (1:Int) b1),((4:Int),(b3.2.2.1,b2))),()))))
 else
 (some ((),((b3.1,(b3.2.1,(b3.2.2.1,b2))),())))))
 else
 (some ((),((b3.1,(b3.2.1,(b3.2.2.1,b2))),()))))
 else
 (some ((),((b3.1,(b3.2.1,(b3.2.2.1,b2))),()))))
 else
 (bif (eqi b3.2.1 (1:Int))then
 (bif (decide ((0:Int)<b1))then
 (gd (inB (0:Int) (b0.length))
 (bif (eqi (bt b0 (0:Int)) (6:Int))then
 (gd (decide (0<=(1:Int))&&(decide ((1:Int)<=b1)&&decide (b1<=(b0.length:Int))))
 (some ((),(((cut2 b0 (1:Int) b1),((4:Int),b3.2.2)),()))))
 else
 (some ((),(b3,())))))
 else
 (some ((),(b3,()))))
 else
 (some ((),(b3,()))))
def ziv(N:Nat)(a0:(List UInt8))(a1:Int):Option (G5):=
 gd (decide (0<=(0:Int))&&(decide ((0:Int)<=a1)&&decide (a1<=(a0.length:Int))))
 (gd (inB a1 (a0.length))
 (gd (decide (0<=(aa .i64 (a1+(1:Int))))&&(decide ((aa .i64 (a1+(1:Int)))<=(a0.length:Int))&&decide ((a0.length:Int)<=(a0.length:Int))))
 (let x1:=(cut2 a0 (aa .i64 (a1+(1:Int))) (a0.length:Int))
 let x2:=(eqi (aa .i64 ((bt a0 a1))) (2:Int))
 bif x2 then
 (bif (eqi (x1.length:Int) (2:Int))then
 (gd (inB (0:Int) (x1.length))
 (let x3:=(aa .i64 ((256:Int)*(aa .i64 ((bt x1 (0:Int))))))
 gd (inB (1:Int) (x1.length))
 (let x4:=(aa .i64 (x3+(aa .i64 ((bt x1 (1:Int))))))
 match z40 N a0 a1 x1 ((cut2 a0 (0:Int) a1),((aa .i64 ((bt a0 a1))),(x4,([]:List UInt8))))with
 | some r5=>(some r5.2.1)
 | none=>none)))
 else
 (match z40 N a0 a1 x1 ((cut2 a0 (0:Int) a1),((aa .i64 ((bt a0 a1))),((0:Int),([]:List UInt8))))with
 | some r6=>(some r6.2.1)
 | none=>none))
 else
 (match z40 N a0 a1 x1 ((cut2 a0 (0:Int) a1),((aa .i64 ((bt a0 a1))),((0:Int),([]:List UInt8))))with
 | some r7=>(some r7.2.1)
 | none=>none))))
def z2l(N:Nat)(rec:(List UInt8)->(List UInt8)->Int->(List (List UInt8))->Option (((Unit×(List UInt8))×((List (List UInt8))×Unit))))(b0 b1:(List UInt8))(b2:Int)(b3:(List (List UInt8))):Option (((Unit×(List UInt8))×((List (List UInt8))×Unit))):=
 bif (decide (b2<(b0.length:Int)))then
 (gd (inB b2 (b0.length))
 (bif (eqi (bt b0 b2) (47:Int))then
 (gd (fits (b3.length+1) 16)
 (let x1:=(b3++([b1]:List (List UInt8)))
 rec b0 ([]:List UInt8) (aa .i64 (b2+(1:Int))) x1))
 else
 (gd (decide (0<=b2)&&(decide (b2<=(aa .i64 (b2+(1:Int))))&&decide ((aa .i64 (b2+(1:Int)))<=(b0.length:Int))))
 (let x2:=(cut2 b0 b2 (aa .i64 (b2+(1:Int))))
 gd (decide (b1.length+x2.length<maxS))
 (let x3:=(b1++x2)
 rec b0 x3 (aa .i64 (b2+(1:Int))) b3)))))
 else
 (some (((),b1),(b3,())))
def z8m(N:Nat)(n:Nat):=
 itF (fun _ _ _ _=>none) (z2l N) n
theorem zfb(N:Nat)(n:Nat):z8m N (n+1)=z2l N (z8m N n):=rfl
def ziw(N:Nat)(a0:(List UInt8)):Option (((List (List UInt8))×Bool)):=
 match z8m N N a0 ([]:List UInt8) (0:Int) ([]:List (List UInt8))with
 | some r4=>(some (r4.2.1,(eqs r4.1.2 ([]:List UInt8))))
 | none=>none
def z3p(N:Nat)(rec:(List UInt8)->Int->Option Ty3_)(b0:(List UInt8))(b1:Int):Option Ty3_:=
 bif (decide (b1<(b0.length:Int)))then
 (gd (inB b1 (b0.length))
 (bif (decide ((bt b0 b1)<(33:Int)))then
 (some (.inl (false,())))
 else
 (gd (inB b1 (b0.length))
 (bif (decide ((126:Int)<(bt b0 b1)))then
 (some (.inl (false,())))
 else
 (gd (inB b1 (b0.length))
 (bif (eqi (bt b0 b1) (47:Int))then
 (some (.inl (false,())))
 else
 (rec b0 (aa .i64 (b1+(1:Int))))))))))
 else
 (some (.inr ((),())))
def zae(N:Nat)(n:Nat):=
 itF (fun _ _=>none) (z3p N) n
theorem zgq(N:Nat)(n:Nat):zae N (n+1)=z3p N (zae N n):=rfl
def z91(N:Nat)(a0:(List UInt8)):Option (Bool):=
 let x1:=(decide ((a0.length:Int)<(1:Int)))
 bif x1 then
 (some false)
 else
 (let x2:=(decide ((12:Int)<(a0.length:Int)))
 bif x2 then
 (some false)
 else
 (bif (eqs a0 ([46]:List UInt8))then
 (some false)
 else
 (bif (eqs a0 ([46,46]:List UInt8))then
 (some false)
 else
 (match zae N N a0 (0:Int)with
 | some r3=>(match r3 with
 | .inl r4=>(some r4.1)
 | .inr r5=>(some true))
 | none=>none))))
def z2j(N:Nat)(rec:Bool->Int->(List (List UInt8))->Option ((Bool×Unit)⊕(Bool×Unit)))(b0:Bool)(b1:Int)(b2:(List (List UInt8))):Option ((Bool×Unit)⊕(Bool×Unit)):=
 bif (decide (b1<(b2.length:Int)))then
 (gd (inB b1 (b2.length))
 (match z91 N (rdL b2 b1 ([]:List UInt8))with
 | some r2=>(bif (!r2)then
 (some (.inl (false,())))
 else
 (rec b0 (aa .i64 (b1+(1:Int))) b2))
 | none=>none))
 else
 (some (.inr (b0,())))
def z8k(N:Nat)(n:Nat):=
 itF (fun _ _ _=>none) (z2j N) n
theorem zf9(N:Nat)(n:Nat):z8k N (n+1)=z2j N (z8k N n):=rfl
def z8v(N:Nat)(a0:(List UInt8)):Option (Bool):=
 match ziw N a0 with
 | some r1=>(match z8k N N r1.2 (0:Int) r1.1 with
 | some r3=>(match r3 with
 | .inl r4=>(some r4.1)
 | .inr r5=>(some r5.1))
 | none=>none)
 | none=>none
def z3q(N:Nat)(rec:Int->(List UInt8)->Int->Option (((List UInt8)×Unit)))(b0:Int)(b1:(List UInt8))(b2:Int):Option (((List UInt8)×Unit)):=
 bif (decide (b2<(8:Int)))then
 (let x1:=(aa .i64 ((aJ b0 (16:Int))+(1:Int)))
 gd (decide (0<=(aJ b0 (16:Int)))&&(decide ((aJ b0 (16:Int))<=x1)&&decide (x1<=(aq ([48,49,50,51,52,53,54,55,56,57,97,98,99,100,101,102]:List UInt8):Int))))
 (let x2:=(cut2 ([48,49,50,51,52,53,54,55,56,57,97,98,99,100,101,102]:List UInt8) (aJ b0 (16:Int)) x1)
 gd (decide (x2.length+b1.length<maxS))
 (let x3:=(x2++b1)
 rec (aa .i64 (c9 b0 (16:Int))) x3 (aa .i64 (b2+(1:Int))))))
 else
 (some (b1,()))
def zaf(N:Nat)(n:Nat):=
 itF (fun _ _ _=>none) (z3q N) n
theorem zgr(N:Nat)(n:Nat):zaf N (n+1)=z3q N (zaf N n):=rfl
def zly(N:Nat)(a0:Int):Option ((List UInt8)):=
 bif (decide (a0<(0:Int)))then
 (some ([]:List UInt8))
 else
 (bif (decide ((2147483647:Int)<a0))then
 (some ([]:List UInt8))
 else
 (match zaf N N a0 ([]:List UInt8) (0:Int)with
 | some r4=>(gd (decide (aq ([5]:List UInt8)+r4.1.length<maxS))
 (let x5:=(([5]:List UInt8)++r4.1)
 gd (decide (x5.length+aq ([47]:List UInt8)<maxS))
 (let x6:=(x5++([47]:List UInt8))
 some x6)))
 | none=>none))
def z12(N:Nat)(rec:(List UInt8)->Int->Int->Option ((((List UInt8)×Int)×Unit)))(b0:(List UInt8))(b1 b2:Int):Option ((((List UInt8)×Int)×Unit)):=
 bif (decide (b2<(9:Int)))then
 (gd (inB b2 (b0.length))
 (let x1:=(decide ((48:Int)<=(aa .i64 ((bt b0 b2)))))
 bif x1 then
 (let x2:=(decide ((aa .i64 ((bt b0 b2)))<=(57:Int)))
 bif x2 then
 (let x3:=(aa .i64 ((aa .i64 ((16:Int)*b1))+(aa .i64 ((bt b0 b2)))))
 rec b0 (aa .i64 (x3-(48:Int))) (aa .i64 (b2+(1:Int))))
 else
 (let x4:=(aa .i64 ((aa .i64 ((16:Int)*b1))+(aa .i64 ((bt b0 b2)))))
 let x5:=(aa .i64 ((aa .i64 (x4-(97:Int)))+(10:Int)))
 rec b0 x5 (aa .i64 (b2+(1:Int)))))
 else
 (let x6:=(aa .i64 ((aa .i64 ((16:Int)*b1))+(aa .i64 ((bt b0 b2)))))
 let x7:=(aa .i64 ((aa .i64 (x6-(97:Int)))+(10:Int)))
 rec b0 x7 (aa .i64 (b2+(1:Int))))))
 else
 (some ((b0,b1),()))
def z74(N:Nat)(n:Nat):=
 itF (fun _ _ _=>none) (z12 N) n
theorem zdf(N:Nat)(n:Nat):z74 N (n+1)=z12 N (z74 N n):=rfl
def z9h(N:Nat)(a0:(List UInt8)):Option (Bool):=
 bif (!(eqi (a0.length:Int) (10:Int)))then
 (some false)
 else
 (match z74 N N a0 (0:Int) (1:Int)with
 | some r8=>(match zly N r8.1.2 with
 | some r9=>(some (eqs r9 r8.1.1))
 | none=>none)
 | none=>none)
def K3(N:Nat)(b0:Bool)(b1:G5):Option ((Bool×Unit)⊕(Unit×(G5×Unit))):=
 bif b0 then
 (some (.inl (false,())))
 else
 (some (.inr ((),(b1,()))))
def Q4(N:Nat)(b0:G5):Option ((Bool×Unit)):=
 bif (eqi b0.2.1 (1:Int))then
 (some (true,()))
 else
 (bif (eqi b0.2.1 (2:Int))then
 (bif (decide ((0:Int)<=b0.2.2.1))then
 (some ((decide (b0.2.2.1<=(60000:Int))),()))
 else
 (some (false,())))
 else
 (bif (eqi b0.2.1 (3:Int))then
 (match z91 N b0.2.2.2 with
 | some r6=>(some (r6,()))
 | none=>none)
 else
 (bif (eqi b0.2.1 (4:Int))then
 (match z8v N b0.1 with
 | some r7=>(some (r7,()))
 | none=>none)
 else
 (some (false,())))))
def ziu(N:Nat)(a0:G5):Option (Bool):=
 match z8v N a0.1 with
 | some r1=>(bif (!r1)then
 (match z9h N a0.1 with
 | some r2=>(bif (!r2)then
 (match K3 N true a0 with
 | some r3=>(match r3 with
 | .inl r4=>(some r4.1)
 | .inr r5=>(match Q4 N r5.2.1 with
 | some r8=>(some r8.1)
 | none=>none))
 | none=>none)
 else
 (bif (!(eqi a0.2.1 (2:Int)))then
 (bif (!(eqi a0.2.2.1 (0:Int)))then
 (match K3 N true a0 with
 | some r9=>(match r9 with
 | .inl r10=>(some r10.1)
 | .inr r11=>(match Q4 N r11.2.1 with
 | some r12=>(some r12.1)
 | none=>none))
 | none=>none)
 else
 (bif (!(eqi a0.2.1 (3:Int)))then
 (match K3 N (!(eqs a0.2.2.2 ([]:List UInt8))) a0 with
 | some r13=>(match r13 with
 | .inl r14=>(some r14.1)
 | .inr r15=>(match Q4 N r15.2.1 with
 | some r16=>(some r16.1)
 | none=>none))
 | none=>none)
 else
 (match K3 N false a0 with
 | some r17=>(match r17 with
 | .inl r18=>(some r18.1)
 | .inr r19=>(match Q4 N r19.2.1 with
 | some r20=>(some r20.1)
 | none=>none))
 | none=>none)))
 else
 (bif (!(eqi a0.2.1 (3:Int)))then
 (match K3 N (!(eqs a0.2.2.2 ([]:List UInt8))) a0 with
 | some r21=>(match r21 with
 | .inl r22=>(some r22.1)
 | .inr r23=>(match Q4 N r23.2.1 with
 | some r24=>(some r24.1)
 | none=>none))
 | none=>none)
 else
 (match K3 N false a0 with
 | some r25=>(match r25 with
 | .inl r26=>(some r26.1)
 | .inr r27=>(match Q4 N r27.2.1 with
 | some r28=>(some r28.1)
 | none=>none))
 | none=>none))))
 | none=>none)
 else
 (bif (!(eqi a0.2.1 (2:Int)))then
 (bif (!(eqi a0.2.2.1 (0:Int)))then
 (match K3 N true a0 with
 | some r29=>(match r29 with
 | .inl r30=>(some r30.1)
 | .inr r31=>(match Q4 N r31.2.1 with
 | some r32=>(some r32.1)
 | none=>none))
 | none=>none)
 else
 (bif (!(eqi a0.2.1 (3:Int)))then
 (match K3 N (!(eqs a0.2.2.2 ([]:List UInt8))) a0 with
 | some r33=>(match r33 with
 | .inl r34=>(some r34.1)
 | .inr r35=>(match Q4 N r35.2.1 with
 | some r36=>(some r36.1)
 | none=>none))
 | none=>none)
 else
 (match K3 N false a0 with
 | some r37=>(match r37 with
 | .inl r38=>(some r38.1)
 | .inr r39=>(match Q4 N r39.2.1 with
 | some r40=>(some r40.1)
 | none=>none))
 | none=>none)))
 else
 (bif (!(eqi a0.2.1 (3:Int)))then
 (match K3 N (!(eqs a0.2.2.2 ([]:List UInt8))) a0 with
 | some r41=>(match r41 with
 | .inl r42=>(some r42.1)
 | .inr r43=>(match Q4 N r43.2.1 with
 | some r44=>(some r44.1)
 | none=>none))
 | none=>none)
 else
 (match K3 N false a0 with
 | some r45=>(match r45 with
 | .inl r46=>(some r46.1)
 | .inr r47=>(match Q4 N r47.2.1 with
 | some r48=>(some r48.1)
 | none=>none))
 | none=>none))))
 | none=>none
def zp2(N:Nat)(a0:G5):Option (((List UInt8)×Int)):=
 match ziu N a0 with
 | some r1=>(bif (!r1)then
 (some (([]:List UInt8),(12:Int)))
 else
 (bif (eqi a0.2.1 (1:Int))then
 (gd (decide (a0.1.length+aq ([1]:List UInt8)<maxS))
 (let x2:=(a0.1++([1]:List UInt8))
 some (x2,(0:Int))))
 else
 (bif (eqi a0.2.1 (2:Int))then
 (gd (decide (a0.1.length+aq ([2]:List UInt8)<maxS))
 (let x3:=(a0.1++([2]:List UInt8))
 let x4:=(aa .i64 (c9 a0.2.2.1 (256:Int)))
 let x5:=(aa .u8 ((aJ a0.2.2.1 (256:Int))))
 let x6:=(zms ([(aa .u8 (x4)),x5]:List Int))
 gd (decide (x3.length+x6.length<maxS))
 (let x7:=(x3++x6)
 some (x7,(0:Int)))))
 else
 (bif (eqi a0.2.1 (3:Int))then
 (gd (decide (a0.1.length+aq ([3]:List UInt8)<maxS))
 (let x8:=(a0.1++([3]:List UInt8))
 gd (decide (x8.length+a0.2.2.2.length<maxS))
 (let x9:=(x8++a0.2.2.2)
 some (x9,(0:Int)))))
 else
 (gd (decide (aq ([6]:List UInt8)+a0.1.length<maxS))
 (let x10:=(([6]:List UInt8)++a0.1)
 gd (decide (x10.length+aq ([1]:List UInt8)<maxS))
 (let x11:=(x10++([1]:List UInt8))
 some (x11,(0:Int)))))))))
 | none=>none
def z2k(N:Nat)(rec:(List UInt8)->Int->Option (((Unit×Int)×(G5×Unit))⊕(Unit×(Unit×Unit))))(b0:(List UInt8))(b1:Int):Option (((Unit×Int)×(G5×Unit))⊕(Unit×(Unit×Unit))):=
 bif (decide (b1<(b0.length:Int)))then
 (gd (inB b1 (b0.length))
 (bif (decide ((bt b0 b1)<(1:Int)))then
 (rec b0 (aa .i64 (b1+(1:Int))))
 else
 (gd (inB b1 (b0.length))
 (bif (decide ((3:Int)<(bt b0 b1)))then
 (rec b0 (aa .i64 (b1+(1:Int))))
 else
 (match ziv N b0 b1 with
 | some r1=>(match zp2 N r1 with
 | some r2=>(bif (eqi r2.2 (0:Int))then
 (bif (eqs r2.1 b0)then
 (some (.inl (((),(0:Int)),(r1,()))))
 else
 (rec b0 (aa .i64 (b1+(1:Int)))))
 else
 (rec b0 (aa .i64 (b1+(1:Int)))))
 | none=>none)
 | none=>none)))))
 else
 (some (.inr ((),((),()))))
def z8l(N:Nat)(n:Nat):=
 itF (fun _ _=>none) (z2k N) n
theorem zfa(N:Nat)(n:Nat):z8l N (n+1)=z2k N (z8l N n):=rfl
def ze2(N:Nat)(a0:(List UInt8)):Option ((G5×Int)):=
 match z8l N N a0 (0:Int)with
 | some r3=>(match r3 with
 | .inl r4=>(some (r4.2.1,r4.1.2))
 | .inr r5=>(some ((([]:List UInt8),((0:Int),((0:Int),([]:List UInt8)))),(12:Int))))
 | none=>none
def zfw(N:Nat)(a0:Z3):Option (z9r):=
 match ze2 N a0.1 with
 | some r1=>(bif (!(eqi r1.2 (0:Int)))then
 (some ((0:Int),(0:Int)))
 else
 (bif (eqi r1.1.2.1 (1:Int))then
 (some ((1:Int),(0:Int)))
 else
 (bif (eqi r1.1.2.1 (2:Int))then
 (some ((0:Int),(a0.2.1.length:Int)))
 else
 (bif (eqi r1.1.2.1 (3:Int))then
 (some ((0:Int),(a0.2.1.length:Int)))
 else
 (some ((0:Int),(0:Int)))))))
 | none=>none
def z2g(N:Nat)(rec:(List Z3)->Int->z9r->Option (((Unit×Unit)×(Unit×(z9r×Unit)))))(b0:(List Z3))(b1:Int)(b2:z9r):Option (((Unit×Unit)×(Unit×(z9r×Unit)))):=
 bif (decide (b1<(b0.length:Int)))then
 (gd (inB b1 (b0.length))
 (match zfw N (rdL b0 b1 X5)with
 | some r1=>(rec b0 (aa .i64 (b1+(1:Int))) ((aa .i64 (b2.1+r1.1)),(aa .i64 (b2.2+r1.2))))
 | none=>none))
 else
 (some (((),()),((),(b2,()))))
def z8i(N:Nat)(n:Nat):=
 itF (fun _ _ _=>none) (z2g N) n
theorem zf6(N:Nat)(n:Nat):z8i N (n+1)=z2g N (z8i N n):=rfl
def zis(N:Nat)(a0:(List Z3)):Option (z9r):=
 match z8i N N a0 (0:Int) ((0:Int),(0:Int))with
 | some r2=>(some r2.2.2.1)
 | none=>none
def zny(N:Nat)(a0:z9r):Option (Y6):=
 some ((a0.1,a0.1),(a0.2,a0.2))
def zry(N:Nat)(a0 a1:Y6):Option (Y6):=
 let x1:=(bif decide ((aa .i64 (a0.1.1+a1.1.1))<(1000000000000000:Int))then(aa .i64 (a0.1.1+a1.1.1))else(1000000000000000:Int))
 let x2:=(bif decide ((aa .i64 (a0.1.2+a1.1.2))<(1000000000000000:Int))then(aa .i64 (a0.1.2+a1.1.2))else(1000000000000000:Int))
 let x3:=(bif decide ((aa .i64 (a0.2.1+a1.2.1))<(1000000000000000:Int))then(aa .i64 (a0.2.1+a1.2.1))else(1000000000000000:Int))
 let x4:=(bif decide ((aa .i64 (a0.2.2+a1.2.2))<(1000000000000000:Int))then(aa .i64 (a0.2.2+a1.2.2))else(1000000000000000:Int))
 some ((x1,x2),(x3,x4))
def zaa(N:Nat)(a0:(List UInt8)):Option (Bool):=
 match ze2 N a0 with
 | some r1=>(bif (eqi r1.2 (0:Int))then
 (some (eqi r1.1.2.1 (1:Int)))
 else
 (some false))
 | none=>none
def z54(N:Nat)(a0:z58)(a1:Int):Option (z58):=
 let x1:=(bif decide ((aa .i64 (a0.2+a1))<(1000000000000000:Int))then(aa .i64 (a0.2+a1))else(1000000000000000:Int))
 some (a0.1,x1)
def zb6(N:Nat)(a0:z58)(a1:Int):Option (z58):=
 let x1:=(bif decide ((0:Int)<(aa .i64 (a0.1-a1)))then(aa .i64 (a0.1-a1))else(0:Int))
 some (x1,a0.2)
def z3x(N:Nat)(b0 b1:(List UInt8))(b2 b3:Bool):Option ((Bool×Unit)):=
 bif b2 then
 (some (true,()))
 else
 (bif b3 then
 (some (true,()))
 else
 (match z9h N b0 with
 | some r5=>(bif r5 then
 (match z9h N b1 with
 | some r6=>(some (r6,()))
 | none=>none)
 else
 (some (false,())))
 | none=>none))
def z3y(N:Nat)(b0 b1:(List UInt8))(b2:Bool):Option ((Bool×Unit)):=
 bif (!(eqs b0 ([]:List UInt8)))then
 (bif (!(eqs b1 ([]:List UInt8)))then
 (match z8v N b0 with
 | some r3=>(bif r3 then
 (match z8v N b1 with
 | some r4=>(match z3x N b0 b1 b2 r4 with
 | some r7=>(some (r7.1,()))
 | none=>none)
 | none=>none)
 else
 (match z3x N b0 b1 b2 false with
 | some r8=>(some (r8.1,()))
 | none=>none))
 | none=>none)
 else
 (match z3x N b0 b1 b2 false with
 | some r9=>(some (r9.1,()))
 | none=>none))
 else
 (match z3x N b0 b1 b2 false with
 | some r10=>(some (r10.1,()))
 | none=>none)
def zdy(N:Nat)(a0 a1:(List UInt8)):Option (Bool):=
 let x1:=(decide ((0:Int)<(a0.length:Int)))
 bif x1 then
 (gd (inB (0:Int) (a0.length))
 (bif (eqi (bt a0 (0:Int)) (6:Int))then
 (let x2:=(decide ((0:Int)<(a1.length:Int)))
 bif x2 then
 (gd (inB (0:Int) (a1.length))
 (match z3y N a0 a1 (eqi (bt a1 (0:Int)) (6:Int))with
 | some r11=>(some r11.1)
 | none=>none))
 else
 (match z3y N a0 a1 false with
 | some r12=>(some r12.1)
 | none=>none))
 else
 (match z3y N a0 a1 false with
 | some r13=>(some r13.1)
 | none=>none)))
 else
 (match z3y N a0 a1 false with
 | some r14=>(some r14.1)
 | none=>none)
def z6l(N:Nat)(a0:Y6)(a1:Z1):Option (Y6):=
 bif (eqi a1.1 (1:Int))then
 (match zaa N a1.2.1 with
 | some r1=>(bif r1 then
 (match z54 N a0.1 (1:Int)with
 | some r2=>(some (r2,a0.2))
 | none=>none)
 else
 (match zb6 N a0.2 (64:Int)with
 | some r3=>(match z54 N r3 (a1.2.2.1.length:Int)with
 | some r4=>(some (a0.1,r4))
 | none=>none)
 | none=>none))
 | none=>none)
 else
 (bif (eqi a1.1 (2:Int))then
 (match zaa N a1.2.1 with
 | some r5=>(bif r5 then
 (match zb6 N a0.1 (1:Int)with
 | some r6=>(some (r6,a0.2))
 | none=>none)
 else
 (match zb6 N a0.2 (64:Int)with
 | some r7=>(some (a0.1,r7))
 | none=>none))
 | none=>none)
 else
 (bif (eqi a1.1 (6:Int))then
 (some a0)
 else
 (bif (eqi a1.1 (3:Int))then
 (some (((0:Int),a0.1.2),((0:Int),a0.2.2)))
 else
 (match zdy N a1.2.2.2.2.1 a1.2.2.2.2.2.1 with
 | some r8=>(bif (!r8)then
 (some (((0:Int),(1000000000000000:Int)),((0:Int),(1000000000000000:Int))))
 else
 (bif (eqi a1.1 (5:Int))then
 (match z54 N ((0:Int),a0.1.2) a0.1.2 with
 | some r9=>(match z54 N ((0:Int),a0.2.2) a0.2.2 with
 | some r10=>(some (r9,r10))
 | none=>none)
 | none=>none)
 else
 (some (((0:Int),a0.1.2),((0:Int),a0.2.2)))))
 | none=>none))))
def z4u(N:Nat)(rec:Int->Z6->Y6->Option (((Unit×Unit)×(Unit×(Y6×Unit)))))(b0:Int)(b1:Z6)(b2:Y6):Option (((Unit×Unit)×(Unit×(Y6×Unit)))):=
 let x6:=(decide (b0<(b1.2.2.2.2.length:Int)))
 bif x6 then
 (gd (inB b0 (b1.2.2.2.2.length))
 (match z6l N b2 (rdL b1.2.2.2.2 b0 U8)with
 | some r7=>(rec (aa .i64 (b0+(1:Int))) b1 r7)
 | none=>none))
 else
 (some (((),()),((),(b2,()))))
def zbx(N:Nat)(n:Nat):=
 itF (fun _ _ _=>none) (z4u N) n
theorem zid(N:Nat)(n:Nat):zbx N (n+1)=z4u N (zbx N n):=rfl
def z4v(N:Nat)(rec:Int->Z6->Y6->Option (((Unit×(Unit×Unit))×(Z6×(Unit×(Y6×Unit))))))(b0:Int)(b1:Z6)(b2:Y6):Option (((Unit×(Unit×Unit))×(Z6×(Unit×(Y6×Unit))))):=
 let x3:=(decide (b0<(b1.2.2.2.1.length:Int)))
 bif x3 then
 (gd (inB b0 (b1.2.2.2.1.length))
 (match zry N b2 (rdL b1.2.2.2.1 b0 z61)with
 | some r4=>(rec (aa .i64 (b0+(1:Int))) b1 r4)
 | none=>none))
 else
 (some (((),((),())),(b1,((),(b2,())))))
def zby(N:Nat)(n:Nat):=
 itF (fun _ _ _=>none) (z4v N) n
theorem zie(N:Nat)(n:Nat):zby N (n+1)=z4v N (zby N n):=rfl
def zkf(N:Nat)(a0:Z6):Option (Y6):=
 bif (eqi (a0.2.2.1.length:Int) (0:Int))then
 (match zis N a0.1 with
 | some r1=>(match zny N r1 with
 | some r2=>(some r2)
 | none=>none)
 | none=>none)
 else
 (match zby N N (0:Int) a0 (((0:Int),(0:Int)),((0:Int),(0:Int)))with
 | some r5=>(match zbx N N (0:Int) r5.2.1 r5.2.2.2.1 with
 | some r8=>(some r8.2.2.1)
 | none=>none)
 | none=>none)
def z3e(N:Nat)(rec:(List Z6)->Int->(List Y6)->Option yiv)(b0:(List Z6))(b1:Int)(b2:(List Y6)):Option yiv:=
 bif (decide (b1<(b0.length:Int)))then
 (gd (inB b1 (b0.length))
 ((zkf N (rdL b0 b1 zhw)).bind fun r1=>
 gd (fits (b2.length+1) 32)
 (let x2:=(b2++([r1]:List Y6))
 rec b0 (aa .i64 (b1+(1:Int))) x2)))
 else
 (some ((),(b2,())))
def za5(N:Nat)(n:Nat):=
 itF (fun _ _ _=>none) (z3e N) n
theorem zgf(N:Nat)(n:Nat):za5 N (n+1)=z3e N (za5 N n):=rfl
def zlp(N:Nat)(a0:(List Z6)):Option ((List Y6)):=
 (za5 N N a0 (0:Int) ([]:List Y6)).bind fun r3=>
 some r3.2.1
def z8r(N:Nat)(a0:Z6)(a1:Int)(a2:ze5)(a3:(List Int)):Option (Z6):=
 gd (decide (0<=(0:Int))&&(decide ((0:Int)<=a1)&&decide (a1<=(a0.2.2.1.length:Int))))
 (gd (fits (0+aq (cut2 a0.2.2.1 (0:Int) a1)) 8)
 (let x1:=(([]:List Int)++(cut2 a0.2.2.1 (0:Int) a1))
 gd (fits (x1.length+a3.length) 8)
 (let x2:=(x1++a3)
 gd (decide (0<=(aa .i64 (a1+(1:Int))))&&(decide ((aa .i64 (a1+(1:Int)))<=(a0.2.2.1.length:Int))&&decide ((a0.2.2.1.length:Int)<=(a0.2.2.1.length:Int))))
 (let x3:=(cut2 a0.2.2.1 (aa .i64 (a1+(1:Int))) (a0.2.2.1.length:Int))
 gd (fits (x2.length+x3.length) 8)
 (let x4:=(x2++x3)
 gd (decide (0<=(0:Int))&&(decide ((0:Int)<=a1)&&decide (a1<=(a0.2.2.2.1.length:Int))))
 (gd (fits (0+aq (cut2 a0.2.2.2.1 (0:Int) a1)) 32)
 (let x5:=(([]:List Y6)++(cut2 a0.2.2.2.1 (0:Int) a1))
 (zlp N a2.1).bind fun r6=>
 gd (fits (x5.length+r6.length) 32)
 (let x7:=(x5++r6)
 gd (decide (0<=(aa .i64 (a1+(1:Int))))&&(decide ((aa .i64 (a1+(1:Int)))<=(a0.2.2.2.1.length:Int))&&decide ((a0.2.2.2.1.length:Int)<=(a0.2.2.2.1.length:Int))))
 (let x8:=(cut2 a0.2.2.2.1 (aa .i64 (a1+(1:Int))) (a0.2.2.2.1.length:Int))
 gd (fits (x7.length+x8.length) 32)
 (let x9:=(x7++x8)
 gd (decide (0<=(0:Int))&&(decide ((0:Int)<=a1)&&decide (a1<=(a0.2.1.length:Int))))
 (gd (fits (0+aq (cut2 a0.2.1 (0:Int) a1)) 16)
 (let x10:=(([]:List (List UInt8))++(cut2 a0.2.1 (0:Int) a1))
 gd (fits (x10.length+a2.2.1.length) 16)
 (let x11:=(x10++a2.2.1)
 gd (decide (0<=a1)&&(decide (a1<=(a0.2.1.length:Int))&&decide ((a0.2.1.length:Int)<=(a0.2.1.length:Int))))
 (gd (fits (x11.length+aq (cut2 a0.2.1 a1 (a0.2.1.length:Int))) 16)
 (let x12:=(x11++(cut2 a0.2.1 a1 (a0.2.1.length:Int)))
 gd (fits (0+a2.2.2.length) 112)
 (let x13:=(([]:List Z1)++a2.2.2)
 gd (fits (x13.length+a0.2.2.2.2.length) 112)
 (let x14:=(x13++a0.2.2.2.2)
 some (([]:List Z3),(x12,(x4,(x9,x14)))))))))))))))))))))
def z7r(N:Nat)(rec:(List Z6)->Int->(List Y6)->Option yiv)(b0:(List Z6))(b1:Int)(b2:(List Y6)):Option yiv:=
 bif (decide (b1<(b0.length:Int)))then
 (gd (inB b1 (b0.length))
 ((zkf N (rdL b0 b1 zhw)).bind fun r1=>
 gd (fits (b2.length+1) 32)
 (let x2:=(b2++([r1]:List Y6))
 rec b0 (aa .i64 (b1+(1:Int))) x2)))
 else
 (some ((),(b2,())))
def z6u(N:Nat)(n:Nat):=
 itF (fun _ _ _=>none) (z7r N) n
theorem y92(N:Nat)(n:Nat):z6u N (n+1)=z7r N (z6u N n):=rfl
def zfq(N:Nat)(a0:(List Z6)):Option ((List Y6)):=
 (z6u N N a0 (0:Int) ([]:List Y6)).bind fun r3=>
 some r3.2.1
def z90(N:Nat)(a0:(List Z7))(a1:Int):Option (((List Z7)×Int)):=
 match z6y N a0 a1 with
 | some r1=>(bif (!r1)then
 (some (a0,(110:Int)))
 else
 (match z9d N a0 with
 | some r2=>(gd (inB a1 (r2.length))
 (let x3:=(aa .i64 ((((rdL r2 a1 X3).2).2).1+(1:Int)))
 gd (inB a1 (r2.length))
 (let x4:=(setL r2 a1 ((rdL r2 a1 X3).1,(((rdL r2 a1 X3).2).1,(x3,((((rdL r2 a1 X3).2).2).2)))))
 some (x4,(0:Int)))))
 | none=>none))
 | none=>none
def z4p(N:Nat)(rec:(List Int)->Int->(List Z7)->Option (((Unit×Unit)×((List Z7)×(Unit×Unit)))))(b0:(List Int))(b1:Int)(b2:(List Z7)):Option (((Unit×Unit)×((List Z7)×(Unit×Unit)))):=
 bif (decide (b1<(b0.length:Int)))then
 (gd (inB b1 (b0.length))
 ((z2r N b2 (rdL b0 b1 (0:Int))).bind fun r1=>
 rec b0 (aa .i64 (b1+(1:Int))) r1.1))
 else
 (some (((),()),(b2,((),()))))
def zbv(N:Nat)(n:Nat):=
 itF (fun _ _ _=>none) (z4p N) n
theorem zi8(N:Nat)(n:Nat):zbv N (n+1)=z4p N (zbv N n):=rfl
def zh2(N:Nat)(a0:(List Z7))(a1:(List Int)):Option ((List Z7)):=
 (zbv N N a1 (0:Int) a0).bind fun r2=>
 some r2.2.1
def z9b(N:Nat)(b0:Int)(b1:Bool)(b2:Y5)(b3:(List Z6))(b4:(List (List UInt8)))(b5:(List Z1))(b6:(List Z7))(b7:(List Int))(b8:zak):Option (yei⊕((Unit×(Unit×(Unit×(Unit×Int))))×(Y5×(Unit×((List Z7)×((List Int)×Unit)))))):=
 bif b1 then
 ((zfq N b3).bind fun r8=>
 let x9:=([(([]:List Z3),(b4,(b8.2.1,(r8,b5))))]:List Z6)
 (zdo N b6 x9).bind fun r10=>
 bif (!(eqi r10.2.2 (0:Int)))then
 (some (.inl (((),r10.2.2),(b2,()))))
 else
 (gd (inB (0:Int) (r10.2.1.length))
 (let x11:=([(rdL r10.2.1 (0:Int) (0:Int))]:List Int)
 gd (fits (b7.length+x11.length) 8)
 (let x12:=(b7++x11)
 some (.inr (((),((),((),((),(rdL r10.2.1 (0:Int) (0:Int)))))),(b2,((),(r10.1,(x12,()))))))))))
 else
 (some (.inr (((),((),((),((),b0)))),(b2,((),(b6,(b7,())))))))
def z9c(N:Nat)(b0:Int)(b1:Y5)(b2:(List Z7))(b3:(List Int)):Option (yei):=
 (z90 N b2 b0).bind fun r16=>
 (zh2 N r16.1 b3).bind fun r17=>
 (zh2 N r17 ([b1.2.1]:List Int)).bind fun r18=>
 some (((),(0:Int)),((r18,(b0,b1.2.2)),()))
def z4o(N:Nat)(rec:(List Int)->Int->Y5->(List Z6)->(List (List UInt8))->(List Z1)->(List Z7)->(List Int)->Option (yei))(b0:(List Int))(b1:Int)(b2:Y5)(b3:(List Z6))(b4:(List (List UInt8)))(b5:(List Z1))(b6:(List Z7))(b7:(List Int)):Option (yei):=
 (zdo N b6 b3).bind fun r1=>
 bif (!(eqi r1.2.2 (0:Int)))then
 (some (((),r1.2.2),(b2,())))
 else
 (gd (fits (b7.length+r1.2.1.length) 8)
 (let x2:=(b7++r1.2.1)
 gd (inB (0:Int) (r1.2.1.length))
 (bif (decide ((0:Int)<b1))then
 (gd (decide (0<=(0:Int))&&(decide ((0:Int)<=(aa .i64 (b1-(1:Int))))&&decide ((aa .i64 (b1-(1:Int)))<=(b0.length:Int))))
 (let x3:=(cut2 b0 (0:Int) (aa .i64 (b1-(1:Int))))
 (z8z N b2 x3).bind fun r4=>
 gd (inB (aa .i64 (b1-(1:Int))) (b0.length))
 (let x5:=(rdL b0 (aa .i64 (b1-(1:Int))) (0:Int))
 (z8r N r4.1 x5 (b3,(b4,b5)) r1.2.1).bind fun r6=>
 rec b0 (aa .i64 (b1-(1:Int))) b2 ([r6]:List Z6) ([]:List (List UInt8)) ([]:List Z1) r1.1 x2)))
 else
 (let x7:=(decide ((1:Int)<(b3.length:Int)))
 bif x7 then
 ((z9b N (rdL r1.2.1 (0:Int) (0:Int)) true b2 b3 b4 b5 r1.1 x2 r1).bind fun r13=>
 match r13 with
 | .inl r14=>(some (((),r14.1.2),(r14.2.1,())))
 | .inr r15=>((z9c N r15.1.2.2.2.2 r15.2.1 r15.2.2.2.1 r15.2.2.2.2.1).bind fun r19=>
 some (((),r19.1.2),(r19.2.1,()))))
 else
 (let x20:=(decide ((0:Int)<(b5.length:Int)))
 (z9b N (rdL r1.2.1 (0:Int) (0:Int)) x20 b2 b3 b4 b5 r1.1 x2 r1).bind fun r21=>
 match r21 with
 | .inl r22=>(some (((),r22.1.2),(r22.2.1,())))
 | .inr r23=>((z9c N r23.1.2.2.2.2 r23.2.1 r23.2.2.2.1 r23.2.2.2.2.1).bind fun r24=>
 some (((),r24.1.2),(r24.2.1,()))))))))
def zbu(N:Nat)(n:Nat):=
 itF (fun _ _ _ _ _ _ _ _=>none) (z4o N) n
theorem zi7(N:Nat)(n:Nat):zbu N (n+1)=z4o N (zbu N n):=rfl
def zbh(N:Nat)(a0:Y5)(a1:(List Int))(a2:ze5):Option ((Y5×Int)):=
 (zbu N N a1 (a1.length:Int) a0 a2.1 a2.2.1 a2.2.2 a0.1 ([]:List Int)).bind fun r25=>
 some (r25.2.1,r25.1.2)
def zkx(N:Nat)(b0:(List Int))(b1:Y5)(b2:ze5):Option (yei):=
 let x2:=(decide ((0:Int)<(b0.length:Int)))
 bif x2 then
 (let x3:=(aa .i64 ((b0.length:Int)-(1:Int)))
 gd (decide (0<=(0:Int))&&(decide ((0:Int)<=x3)&&decide (x3<=(b0.length:Int))))
 ((z8z N b1 (cut2 b0 (0:Int) x3)).bind fun r4=>
 bif (!(eqi r4.2.2 (0:Int)))then
 (some (((),r4.2.2),(b1,())))
 else
 (gd (inB x3 (b0.length))
 (bif (decide ((rdL b0 x3 (0:Int))<(0:Int)))then
 (some (((),(140:Int)),(b1,())))
 else
 (gd (inB x3 (b0.length))
 (let x5:=(decide ((r4.1.2.2.1.length:Int)<=(rdL b0 x3 (0:Int))))
 bif x5 then
 (some (((),(140:Int)),(b1,())))
 else
 ((zbh N b1 b0 b2).bind fun r6=>
 some (((),r6.2),(r6.1,())))))))))
 else
 ((zbh N b1 b0 b2).bind fun r7=>
 some (((),r7.2),(r7.1,())))
def zh3(N:Nat)(a0:Y5)(a1:(List Int))(a2:ze5):Option ((Y5×Int)):=
 bif (eqi (a2.1.length:Int) (0:Int))then
 (some (a0,(1:Int)))
 else
 (let x1:=(aa .i64 ((a2.1.length:Int)-(1:Int)))
 bif (!(eqi (a2.2.1.length:Int) x1))then
 (some (a0,(1:Int)))
 else
 ((zkx N a1 a0 a2).bind fun r8=>
 some (r8.2.1,r8.1.2)))
def z1u(N:Nat)(rec:Int->Int->Z6->(List Z1)->(List Z6)->(List (List UInt8))->(List Int)->Option yox)(b0 b1:Int)(b2:Z6)(b3:(List Z1))(b4:(List Z6))(b5:(List (List UInt8)))(b6:(List Int)):Option yox:=
 bif (decide (b1<(b6.length:Int)))then
 (gd (inB b1 (b6.length))
 (let x2:=(aa .i64 (b0+(rdL b6 b1 (0:Int))))
 gd (decide (0<=b0)&&(decide (b0<=x2)&&decide (x2<=(b2.2.2.1.length:Int))))
 (gd (decide (0<=b0)&&(decide (b0<=x2)&&decide (x2<=(b2.2.2.2.1.length:Int))))
 (gd (decide (0<=b0)&&(decide (b0<=(aa .i64 (x2-(1:Int))))&&decide ((aa .i64 (x2-(1:Int)))<=(b2.2.1.length:Int))))
 (let x3:=(cut2 b2.2.1 b0 (aa .i64 (x2-(1:Int))))
 let x4:=([(([]:List Z3),(x3,((cut2 b2.2.2.1 b0 x2),((cut2 b2.2.2.2.1 b0 x2),([]:List Z1)))))]:List Z6)
 gd (fits (b4.length+x4.length) 120)
 (let x5:=(b4++x4)
 bif (decide ((0:Int)<b1))then
 (gd (inB (aa .i64 (b0-(1:Int))) (b2.2.1.length))
 (let x6:=(rdL b2.2.1 (aa .i64 (b0-(1:Int))) ([]:List UInt8))
 gd (fits (b5.length+1) 16)
 (let x7:=(b5++([x6]:List (List UInt8)))
 rec x2 (aa .i64 (b1+(1:Int))) b2 b3 x5 x7 b6)))
 else
 (rec x2 (aa .i64 (b1+(1:Int))) b2 b3 x5 b5 b6)))))))
 else
 (some (((),()),((),(((),((),b3)),(b4,(b5,()))))))
def z82(N:Nat)(n:Nat):=
 itF (fun _ _ _ _ _ _ _=>none) (z1u N) n
theorem zeo(N:Nat)(n:Nat):z82 N (n+1)=z1u N (z82 N n):=rfl
def zik(N:Nat)(a0:Z6)(a1:V7):Option (zjr):=
 (z56 N (a0.2.2.1.length:Int) a1.2.1).bind fun r1=>
 (z82 N N (0:Int) (0:Int) a0 a0.2.2.2.2 ([]:List Z6) ([]:List (List UInt8)) r1).bind fun r8=>
 some (r8.2.2.2.1,(r8.2.2.2.2.1,r8.2.2.1.2.2))
def znz(N:Nat)(a0:(List (List UInt8))):Option ((List Z0)):=
 (ze0 N (([]:List UInt8),([]:List UInt8)) a0).bind fun r1=>
 some r1
def zb7(N:Nat)(a0:Z1):Option (Bool):=
 bif (eqi a0.1 (4:Int))then
 (some true)
 else
 (some (eqi a0.1 (5:Int)))
def z6d(N:Nat)(a0:Z1):Option ((List Z0)):=
 bif (eqi a0.1 (4:Int))then
 (match U2 N a0.2.2.2.2.1 with
 | some r1=>(some ([r1]:List Z0))
 | none=>none)
 else
 (bif (eqi a0.1 (5:Int))then
 (match U2 N a0.2.2.2.2.1 with
 | some r2=>(some ([r2]:List Z0))
 | none=>none)
 else
 (bif (eqi a0.1 (6:Int))then
 (some ([a0.2.2.2.1]:List Z0))
 else
 (some ([]:List Z0))))
def K7(N:Nat)(a0:Z1):Option ((List Z0)):=
 bif (eqi a0.1 (1:Int))then
 (match z9p N a0.2.1 with
 | some r1=>(some ([r1]:List Z0))
 | none=>none)
 else
 (bif (eqi a0.1 (2:Int))then
 (match z9p N a0.2.1 with
 | some r2=>(some ([r2]:List Z0))
 | none=>none)
 else
 (bif (eqi a0.1 (4:Int))then
 (match U2 N a0.2.2.2.2.1 with
 | some r3=>(match U2 N a0.2.2.2.2.2.1 with
 | some r4=>(some ([r3,r4]:List Z0))
 | none=>none)
 | none=>none)
 else
 (bif (eqi a0.1 (5:Int))then
 (match U2 N a0.2.2.2.2.2.1 with
 | some r5=>(some ([r5]:List Z0))
 | none=>none)
 else
 (some ([a0.2.2.2.1]:List Z0)))))
def zc1(N:Nat)(a0 a1:Z0):Option (Bool):=
 match z0a N a1 with
 | some r1=>(bif r1 then
 (some true)
 else
 (match z0a N a0 with
 | some r2=>(bif (!r2)then
 (bif (lts a0.1 a1.1 || eqs a0.1 a1.1)then
 (match zde N a0.2 a1.2 with
 | some r3=>(some (!r3))
 | none=>none)
 else
 (some false))
 else
 (some false))
 | none=>none))
 | none=>none
def z3m(N:Nat)(rec:Int->Z0->(List Z0)->Option Ty3_)(b0:Int)(b1:Z0)(b2:(List Z0)):Option Ty3_:=
 bif (decide (b0<(b2.length:Int)))then
 (gd (inB b0 (b2.length))
 ((zc1 N b1 (rdL b2 b0 Y7)).bind fun r5=>
 bif (!r5)then
 (some (.inl (false,())))
 else
 (rec (aa .i64 (b0+(1:Int))) b1 b2)))
 else
 (some (.inr ((),())))
def zac(N:Nat)(n:Nat):=
 itF (fun _ _ _=>none) (z3m N) n
theorem zgn(N:Nat)(n:Nat):zac N (n+1)=z3m N (zac N n):=rfl
def zlw(N:Nat)(a0:Z1)(a1:Z0):Option (Bool):=
 (z6d N a0).bind fun r1=>
 gd (fits (0+r1.length) 32)
 (let x2:=(([]:List Z0)++r1)
 (K7 N a0).bind fun r3=>
 gd (fits (x2.length+r3.length) 32)
 (let x4:=(x2++r3)
 (zac N N (0:Int) a1 x4).bind fun r6=>
 match r6 with
 | .inl r7=>(some r7.1)
 | .inr r8=>(some true)))
def z2c(N:Nat)(rec:(List Z0)->(List Z0)->Int->Int->Option ((Bool×Unit)⊕(((List Z0)×((List Z0)×Int))×Unit)))(b0:(List Z0))(b1:(List Z0))(b2 b3:Int):Option ((Bool×Unit)⊕(((List Z0)×((List Z0)×Int))×Unit)):=
 bif (decide (b3<(b1.length:Int)))then
 (gd (inB b2 (b0.length))
 (gd (inB b3 (b1.length))
 (match z2s N (rdL b0 b2 Y7) (rdL b1 b3 Y7)with
 | some r1=>(match z0a N r1 with
 | some r2=>(bif (!r2)then
 (some (.inl (true,())))
 else
 (rec b0 b1 b2 (aa .i64 (b3+(1:Int)))))
 | none=>none)
 | none=>none)))
 else
 (some (.inr ((b0,(b1,b2)),())))
def z8e(N:Nat)(n:Nat):=
 itF (fun _ _ _ _=>none) (z2c N) n
theorem zf2(N:Nat)(n:Nat):z8e N (n+1)=z2c N (z8e N n):=rfl
def z2d(N:Nat)(rec:(List Z0)->(List Z0)->Int->Option Ty3_)(b0:(List Z0))(b1:(List Z0))(b2:Int):Option Ty3_:=
 bif (decide (b2<(b0.length:Int)))then
 (match z8e N N b0 b1 b2 (0:Int)with
 | some r3=>(match r3 with
 | .inl r4=>(some (.inl (r4.1,())))
 | .inr r5=>(rec r5.1.1 r5.1.2.1 (aa .i64 (r5.1.2.2+(1:Int)))))
 | none=>none)
 else
 (some (.inr ((),())))
def z8f(N:Nat)(n:Nat):=
 itF (fun _ _ _=>none) (z2d N) n
theorem zf3(N:Nat)(n:Nat):z8f N (n+1)=z2d N (z8f N n):=rfl
def z8u(N:Nat)(a0:(List Z0))(a1:(List Z0)):Option (Bool):=
 match z8f N N a0 a1 (0:Int)with
 | some r6=>(match r6 with
 | .inl r7=>(some r7.1)
 | .inr r8=>(some false))
 | none=>none
def zhl(N:Nat)(a0:Z1)(a1:Z0):Option ((List Z1)):=
 (K7 N a0).bind fun r1=>
 (z8u N r1 ([a1]:List Z0)).bind fun r2=>
 bif (!r2)then
 (some ([]:List Z1))
 else
 (bif (eqi a0.1 (3:Int))then
 ((z2s N a0.2.2.2.1 a1).bind fun r3=>
 let x4:=([(a0.1,(a0.2.1,(a0.2.2.1,(r3,a0.2.2.2.2))))]:List Z1)
 some x4)
 else
 (bif (eqi a0.1 (6:Int))then
 ((z2s N a0.2.2.2.1 a1).bind fun r5=>
 let x6:=([(a0.1,(a0.2.1,(a0.2.2.1,(r5,a0.2.2.2.2))))]:List Z1)
 some x6)
 else
 (some ([a0]:List Z1))))
def z10(N:Nat)(rec:(List Z0)->Bool->Int->Z0->(List Z0)->Option (((Unit×(Unit×Bool))×yiw)))(b0:(List Z0))(b1:Bool)(b2:Int)(b3:Z0)(b4:(List Z0)):Option (((Unit×(Unit×Bool))×yiw)):=
 bif (decide (b2<(b0.length:Int)))then
 (bif (!b1)then
 (gd (inB b2 (b0.length))
 (bif (lts b3.1 ((rdL b0 b2 Y7).1))then
 (gd (fits (b4.length+1) 32)
 (let x2:=(b4++([b3]:List Z0))
 gd (inB b2 (b0.length))
 (gd (fits (x2.length+1) 32)
 (let x3:=(x2++([(rdL b0 b2 Y7)]:List Z0))
 rec b0 true (aa .i64 (b2+(1:Int))) b3 x3))))
 else
 (gd (inB b2 (b0.length))
 (gd (fits (b4.length+1) 32)
 (let x4:=(b4++([(rdL b0 b2 Y7)]:List Z0))
 rec b0 b1 (aa .i64 (b2+(1:Int))) b3 x4)))))
 else
 (gd (inB b2 (b0.length))
 (gd (fits (b4.length+1) 32)
 (let x5:=(b4++([(rdL b0 b2 Y7)]:List Z0))
 rec b0 b1 (aa .i64 (b2+(1:Int))) b3 x5))))
 else
 (some (((),((),b1)),(b3,(b4,()))))
def z73(N:Nat)(n:Nat):=
 itF (fun _ _ _ _ _=>none) (z10 N) n
theorem zdc(N:Nat)(n:Nat):z73 N (n+1)=z10 N (z73 N n):=rfl
def zfx(N:Nat)(a0:(List Z0))(a1:Z0):Option ((List Z0)):=
 match z0a N a1 with
 | some r1=>(match z73 N N a0 r1 (0:Int) a1 ([]:List Z0)with
 | some r6=>(bif (!r6.1.2.2)then
 (gd (fits (r6.2.2.1.length+1) 32)
 (let x7:=(r6.2.2.1++([r6.2.1]:List Z0))
 some x7))
 else
 (some r6.2.2.1))
 | none=>none)
 | none=>none
def z31(N:Nat)(b0 b1:Int)(b2:Bool)(b3:(List Z0))(b4:(List Z0)):Option (((Unit×(Unit×Int))×ymh)):=
 bif b2 then
 (gd (inB b0 (b3.length))
 (gd (fits (b4.length+1) 32)
 (let x4:=(b4++([(rdL b3 b0 Y7)]:List Z0))
 some (((),((),b0)),(b3,(x4,()))))))
 else
 (gd (inB b1 (b4.length))
 (gd (inB b0 (b3.length))
 (match zde N ((rdL b4 b1 Y7).2) ((rdL b3 b0 Y7).2)with
 | some r5=>(bif r5 then
 (gd (inB b0 (b3.length))
 (gd (inB b1 (b4.length))
 (let x6:=(setL b4 b1 ((rdL b4 b1 Y7).1,(rdL b3 b0 Y7).2))
 some (((),((),b0)),(b3,(x6,()))))))
 else
 (some (((),((),b0)),(b3,(b4,())))))
 | none=>none)))
def z3o(N:Nat)(rec:Int->(List Z0)->(List Z0)->Option y9g)(b0:Int)(b1:(List Z0))(b2:(List Z0)):Option y9g:=
 bif (decide (b0<(b1.length:Int)))then
 (let x3:=(aa .i64 ((b2.length:Int)-(1:Int)))
 bif (decide (x3<(0:Int)))then
 (match z31 N b0 x3 true b1 b2 with
 | some r7=>(rec (aa .i64 (r7.1.2.2+(1:Int))) r7.2.1 r7.2.2.1)
 | none=>none)
 else
 (gd (inB x3 (b2.length))
 (let x8:=(!(eqs ((rdL b2 x3 Y7).2) ([]:List UInt8)))
 bif x8 then
 (gd (inB x3 (b2.length))
 (gd (inB b0 (b1.length))
 (let x9:=(lts ((rdL b2 x3 Y7).2) ((rdL b1 b0 Y7).1))
 match z31 N b0 x3 x9 b1 b2 with
 | some r10=>(rec (aa .i64 (r10.1.2.2+(1:Int))) r10.2.1 r10.2.2.1)
 | none=>none)))
 else
 (match z31 N b0 x3 false b1 b2 with
 | some r11=>(rec (aa .i64 (r11.1.2.2+(1:Int))) r11.2.1 r11.2.2.1)
 | none=>none))))
 else
 (some ((),(b2,())))
def z7g(N:Nat)(n:Nat):=
 itF (fun _ _ _=>none) (z3o N) n
theorem zgp(N:Nat)(n:Nat):z7g N (n+1)=z3o N (z7g N n):=rfl
def y7(N:Nat)(rec:(List Z0)->Int->(List Z0)->(List Z0)->Option (((Unit×Unit)×ymh)))(b0:(List Z0))(b1:Int)(b2:(List Z0))(b3:(List Z0)):Option (((Unit×Unit)×ymh)):=
 bif (decide (b1<(b0.length:Int)))then
 (gd (inB b1 (b0.length))
 (match zfx N b2 (rdL b0 b1 Y7)with
 | some r1=>(rec b0 (aa .i64 (b1+(1:Int))) r1 b3)
 | none=>none))
 else
 (some (((),()),(b2,(b3,()))))
def z7h(N:Nat)(n:Nat):=
 itF (fun _ _ _ _=>none) (y7 N) n
theorem z64(N:Nat)(n:Nat):z7h N (n+1)=y7 N (z7h N n):=rfl
def z11(N:Nat)(a0:(List Z0)):Option ((List Z0)):=
 match z7h N N a0 (0:Int) ([]:List Z0) ([]:List Z0)with
 | some r2=>(match z7g N N (0:Int) r2.2.1 r2.2.2.1 with
 | some r12=>(some r12.2.1)
 | none=>none)
 | none=>none
def z2i(N:Nat)(rec:(List Z0)->Int->Int->(List Z0)->(List Z0)->Option ((((List Z0)×(Int×Unit))×((List Z0)×Unit))))(b0:(List Z0))(b1 b2:Int)(b3:(List Z0))(b4:(List Z0)):Option ((((List Z0)×(Int×Unit))×((List Z0)×Unit))):=
 bif (decide (b2<(b3.length:Int)))then
 (gd (inB b1 (b0.length))
 (let x3:=(!(eqs ((rdL b0 b1 Y7).1) ([]:List UInt8)))
 bif x3 then
 (gd (inB b2 (b3.length))
 (gd (inB b1 (b0.length))
 (match z2s N (rdL b3 b2 Y7) (([]:List UInt8),(rdL b0 b1 Y7).1)with
 | some r4=>(gd (fits (b4.length+1) 32)
 (let x5:=(b4++([r4]:List Z0))
 gd (inB b1 (b0.length))
 (let x6:=(!(eqs ((rdL b0 b1 Y7).2) ([]:List UInt8)))
 bif x6 then
 (gd (inB b2 (b3.length))
 (gd (inB b1 (b0.length))
 (match z2s N (rdL b3 b2 Y7) ((rdL b0 b1 Y7).2,([]:List UInt8))with
 | some r7=>(gd (fits (x5.length+1) 32)
 (let x8:=(x5++([r7]:List Z0))
 rec b0 b1 (aa .i64 (b2+(1:Int))) b3 x8))
 | none=>none)))
 else
 (rec b0 b1 (aa .i64 (b2+(1:Int))) b3 x5))))
 | none=>none)))
 else
 (gd (inB b1 (b0.length))
 (let x9:=(!(eqs ((rdL b0 b1 Y7).2) ([]:List UInt8)))
 bif x9 then
 (gd (inB b2 (b3.length))
 (gd (inB b1 (b0.length))
 (match z2s N (rdL b3 b2 Y7) ((rdL b0 b1 Y7).2,([]:List UInt8))with
 | some r10=>(gd (fits (b4.length+1) 32)
 (let x11:=(b4++([r10]:List Z0))
 rec b0 b1 (aa .i64 (b2+(1:Int))) b3 x11))
 | none=>none)))
 else
 (rec b0 b1 (aa .i64 (b2+(1:Int))) b3 b4)))))
 else
 (some ((b0,(b1,())),(b4,())))
def z5w(N:Nat)(n:Nat):=
 itF (fun _ _ _ _ _=>none) (z2i N) n
theorem zf8(N:Nat)(n:Nat):z5w N (n+1)=z2i N (z5w N n):=rfl
def Q9(N:Nat)(rec:(List Z0)->Int->(List Z0)->Option y9g)(b0:(List Z0))(b1:Int)(b2:(List Z0)):Option y9g:=
 bif (decide (b1<(b0.length:Int)))then
 (gd (inB b1 (b0.length))
 (match z0a N (rdL b0 b1 Y7)with
 | some r2=>(bif r2 then
 (rec b0 (aa .i64 (b1+(1:Int))) b2)
 else
 (match z5w N N b0 b1 (0:Int) b2 ([]:List Z0)with
 | some r12=>(match z11 N r12.2.1 with
 | some r13=>(rec r12.1.1 (aa .i64 (r12.1.2.1+(1:Int))) r13)
 | none=>none)
 | none=>none))
 | none=>none))
 else
 (some ((),(b2,())))
def z5x(N:Nat)(n:Nat):=
 itF (fun _ _ _=>none) (Q9 N) n
theorem q9(N:Nat)(n:Nat):z5x N (n+1)=Q9 N (z5x N n):=rfl
def Q8(N:Nat)(a0:(List Z0))(a1:(List Z0)):Option ((List Z0)):=
 match z11 N a0 with
 | some r1=>(match z5x N N a1 (0:Int) r1 with
 | some r14=>(some r14.2.1)
 | none=>none)
 | none=>none
def z0v(N:Nat)(rec:Int->(List Z1)->(List Z1)->(List Z0)->Z1->(List Z0)->Option yoz)(b0:Int)(b1:(List Z1))(b2:(List Z1))(b3:(List Z0))(b4:Z1)(b5:(List Z0)):Option yoz:=
 bif (decide (b0<(b5.length:Int)))then
 (gd (inB b0 (b5.length))
 (let x23:=([(b4.1,(b4.2.1,(b4.2.2.1,((rdL b5 b0 Y7),b4.2.2.2.2))))]:List Z1)
 gd (fits (b2.length+x23.length) 112)
 (let x24:=(b2++x23)
 rec (aa .i64 (b0+(1:Int))) b1 x24 b3 (b4.1,(b4.2.1,(b4.2.2.1,((rdL b5 b0 Y7),b4.2.2.2.2)))) b5)))
 else
 (some (((),()),(((),((),())),(b1,(b2,(b3,((),())))))))
def z4f(N:Nat)(n:Nat):=
 itF (fun _ _ _ _ _ _=>none) (z0v N) n
theorem zd8(N:Nat)(n:Nat):z4f N (n+1)=z0v N (z4f N n):=rfl
def z2x(N:Nat)(a0:Z1)(a1:Z0)(a2:(List Z1))(a3:(List Z1))(a4:(List Z0)):Option (ymk):=
 (zb7 N a0).bind fun r1=>
 bif r1 then
 ((z6d N a0).bind fun r2=>
 gd (fits (0+r2.length) 32)
 (let x3:=(([]:List Z0)++r2)
 (K7 N a0).bind fun r4=>
 gd (fits (x3.length+r4.length) 32)
 (let x5:=(x3++r4)
 (zlw N a0 a1).bind fun r6=>
 bif r6 then
 ((z8u N x5 a4).bind fun r7=>
 bif (!r7)then
 (gd (fits (a2.length+1) 112)
 (let x8:=(a2++([a0]:List Z1))
 some (((),((),())),(x8,(a3,(a4,()))))))
 else
 (gd (fits (a3.length+1) 112)
 (let x9:=(a3++([a0]:List Z1))
 gd (fits (a4.length+x5.length) 32)
 (let x10:=(a4++x5)
 some (((),((),())),(a2,(x9,(x10,()))))))))
 else
 (gd (fits (a3.length+1) 112)
 (let x11:=(a3++([a0]:List Z1))
 gd (fits (a4.length+x5.length) 32)
 (let x12:=(a4++x5)
 some (((),((),())),(a2,(x11,(x12,()))))))))))
 else
 ((zhl N a0 a1).bind fun r13=>
 bif (eqi (r13.length:Int) (0:Int))then
 (gd (fits (a3.length+1) 112)
 (let x14:=(a3++([a0]:List Z1))
 some (((),((),())),(a2,(x14,(a4,()))))))
 else
 (gd (inB (0:Int) (r13.length))
 ((K7 N (rdL r13 (0:Int) U8)).bind fun r15=>
 (z8u N r15 a4).bind fun r16=>
 bif r16 then
 (gd (fits (a3.length+1) 112)
 (let x17:=(a3++([a0]:List Z1))
 gd (inB (0:Int) (r13.length))
 ((K7 N (rdL r13 (0:Int) U8)).bind fun r18=>
 gd (fits (a4.length+r18.length) 32)
 (let x19:=(a4++r18)
 some (((),((),())),(a2,(x17,(x19,()))))))))
 else
 (gd (inB (0:Int) (r13.length))
 (let x20:=([(rdL r13 (0:Int) U8)]:List Z1)
 gd (fits (a2.length+x20.length) 112)
 (let x21:=(a2++x20)
 bif (eqi a0.1 (3:Int))then
 ((Q8 N ([a0.2.2.2.1]:List Z0) ([a1]:List Z0)).bind fun r22=>
 (z4f N N (0:Int) x21 a3 a4 a0 r22).bind fun r25=>
 some (((),((),())),(r25.2.2.1,(r25.2.2.2.1,(r25.2.2.2.2.1,())))))
 else
 (bif (eqi a0.1 (6:Int))then
 ((Q8 N ([a0.2.2.2.1]:List Z0) ([a1]:List Z0)).bind fun r26=>
 (z4f N N (0:Int) x21 a3 a4 a0 r26).bind fun r27=>
 some (((),((),())),(r27.2.2.1,(r27.2.2.2.1,(r27.2.2.2.2.1,())))))
 else
 (some (((),((),())),(x21,(a3,(a4,()))))))))))))
def z29(N:Nat)(rec:(List Z1)->Int->(List Z1)->(List Z1)->(List Z0)->Z0->Option (((Unit×Unit)×(Unit×ymk))))(b0:(List Z1))(b1:Int)(b2:(List Z1))(b3:(List Z1))(b4:(List Z0))(b5:Z0):Option (((Unit×Unit)×(Unit×ymk))):=
 bif (decide (b1<(b0.length:Int)))then
 (gd (inB b1 (b0.length))
 ((z2x N (rdL b0 b1 U8) b5 b2 b3 b4).bind fun r2=>
 rec b0 (aa .i64 (b1+(1:Int))) r2.2.1 r2.2.2.1 r2.2.2.2.1 b5))
 else
 (some (((),()),((),(((),((),())),(b2,(b3,(b4,())))))))
def z8a(N:Nat)(n:Nat):=
 itF (fun _ _ _ _ _ _=>none) (z29 N) n
theorem zez(N:Nat)(n:Nat):z8a N (n+1)=z29 N (z8a N n):=rfl
def z6c(N:Nat)(a0:(List Z1))(a1:(List (List UInt8)))(a2:Int):Option (zj6):=
 (znz N a1).bind fun r1=>
 gd (inB a2 (r1.length))
 ((z8a N N a0 (0:Int) ([]:List Z1) ([]:List Z1) ([]:List Z0) (rdL r1 a2 Y7)).bind fun r3=>
 some (r3.2.2.2.1,(r3.2.2.2.2.1,r3.2.2.2.2.2.1)))
def z3d(N:Nat)(rec:Int->Int->Int->Z6->Option (((Int×Int)×Unit)))(b0 b1 b2:Int)(b3:Z6):Option (((Int×Int)×Unit)):=
 bif (decide (b2<(b3.2.2.1.length:Int)))then
 ((z6c N b3.2.2.2.2 b3.2.1 b2).bind fun r1=>
 bif (decide (b1<(r1.1.length:Int)))then
 (rec b2 (r1.1.length:Int) (aa .i64 (b2+(1:Int))) b3)
 else
 (rec b0 b1 (aa .i64 (b2+(1:Int))) b3))
 else
 (some ((b0,b1),()))
def z7d(N:Nat)(n:Nat):=
 itF (fun _ _ _ _=>none) (z3d N) n
theorem zge(N:Nat)(n:Nat):z7d N (n+1)=z3d N (z7d N n):=rfl
def zlm(N:Nat)(a0:Z6):Option ((Int×Int)):=
 (z7d N N (0:Int) (0:Int) (0:Int) a0).bind fun r2=>
 some (r2.1.1,r2.1.2)
def za4(N:Nat)(a0:Z6)(a1:Int):Option (Z6):=
 let x1:=(bif decide ((aa .i64 (a1-(1:Int)))<(0:Int))then(0:Int)else(aa .i64 (a1-(1:Int))))
 gd (decide (0<=(0:Int))&&(decide ((0:Int)<=a1)&&decide (a1<=(a0.2.2.1.length:Int))))
 (gd (fits (0+aq (cut2 a0.2.2.1 (0:Int) a1)) 8)
 (let x2:=(([]:List Int)++(cut2 a0.2.2.1 (0:Int) a1))
 gd (decide (0<=(aa .i64 (a1+(1:Int))))&&(decide ((aa .i64 (a1+(1:Int)))<=(a0.2.2.1.length:Int))&&decide ((a0.2.2.1.length:Int)<=(a0.2.2.1.length:Int))))
 (let x3:=(cut2 a0.2.2.1 (aa .i64 (a1+(1:Int))) (a0.2.2.1.length:Int))
 gd (fits (x2.length+x3.length) 8)
 (let x4:=(x2++x3)
 gd (decide (0<=(0:Int))&&(decide ((0:Int)<=a1)&&decide (a1<=(a0.2.2.2.1.length:Int))))
 (gd (fits (0+aq (cut2 a0.2.2.2.1 (0:Int) a1)) 32)
 (let x5:=(([]:List Y6)++(cut2 a0.2.2.2.1 (0:Int) a1))
 gd (decide (0<=(aa .i64 (a1+(1:Int))))&&(decide ((aa .i64 (a1+(1:Int)))<=(a0.2.2.2.1.length:Int))&&decide ((a0.2.2.2.1.length:Int)<=(a0.2.2.2.1.length:Int))))
 (let x6:=(cut2 a0.2.2.2.1 (aa .i64 (a1+(1:Int))) (a0.2.2.2.1.length:Int))
 gd (fits (x5.length+x6.length) 32)
 (let x7:=(x5++x6)
 gd (decide (0<=(0:Int))&&(decide ((0:Int)<=x1)&&decide (x1<=(a0.2.1.length:Int))))
 (gd (fits (0+aq (cut2 a0.2.1 (0:Int) x1)) 16)
 (let x8:=(([]:List (List UInt8))++(cut2 a0.2.1 (0:Int) x1))
 gd (decide (0<=(aa .i64 (x1+(1:Int))))&&(decide ((aa .i64 (x1+(1:Int)))<=(a0.2.1.length:Int))&&decide ((a0.2.1.length:Int)<=(a0.2.1.length:Int))))
 (let x9:=(cut2 a0.2.1 (aa .i64 (x1+(1:Int))) (a0.2.1.length:Int))
 gd (fits (x8.length+x9.length) 16)
 (let x10:=(x8++x9)
 some (([]:List Z3),(x10,(x4,(x7,a0.2.2.2.2))))))))))))))))
def zaz(N:Nat)(a0 a1:Y5)(a2 a3:Int):Option (z79):=
 bif (!(eqi a2 (0:Int)))then
 (some (a0,((0:Int),a2)))
 else
 (some (a1,(a3,(0:Int))))
def z4w(N:Nat)(rec:(List Z3)->(List Z1)->Int->Option (((List Z3)×Unit)))(b0:(List Z3))(b1:(List Z1))(b2:Int):Option (((List Z3)×Unit)):=
 bif (decide (b2<(b1.length:Int)))then
 (gd (inB b2 (b1.length))
 (match z35 N b0 (rdL b1 b2 U8)with
 | some r1=>(rec r1 b1 (aa .i64 (b2+(1:Int))))
 | none=>none))
 else
 (some (b0,()))
def zc0(N:Nat)(n:Nat):=
 itF (fun _ _ _=>none) (z4w N) n
theorem zif(N:Nat)(n:Nat):zc0 N (n+1)=z4w N (zc0 N n):=rfl
def zkh(N:Nat)(a0:(List Z3))(a1:(List Z1)):Option ((List Z3)):=
 match zc0 N N a0 a1 (0:Int)with
 | some r2=>(some r2.1)
 | none=>none
def z19(N:Nat)(b0:(List Int))(b1:Int)(b2:Y5)(b3:Z6)(b4:zj6)(b5:(List Z6))(b6:(List (List UInt8)))(b7:(List Z1)):Option ((Unit×(z79×Unit))):=
 (zdo N b2.1 b5).bind fun r14=>
 bif (!(eqi r14.2.2 (0:Int)))then
 (some ((),((b2,((0:Int),r14.2.2)),())))
 else
 ((z8r N b3 b1 (b5,(b6,b7)) r14.2.1).bind fun r15=>
 (zbh N (r14.1,b2.2) b0 (([r15]:List Z6),(([]:List (List UInt8)),([]:List Z1)))).bind fun r16=>
 (zh2 N r16.1.1 r14.2.1).bind fun r17=>
 (zaz N b2 (r17,r16.1.2) r16.2 (b4.1.length:Int)).bind fun r18=>
 some ((),(r18,())))
def zgw(N:Nat)(b0:(List Int))(b1:Int)(b2:Y5)(b3:Z6):Option ((Unit×(z79×Unit))):=
 gd (inB b1 (b3.2.2.1.length))
 ((z9o N b2.1 (rdL b3.2.2.1 b1 (0:Int))).bind fun r3=>
 bif (!(eqi r3.2 (0:Int)))then
 (some ((),((b2,((0:Int),r3.2)),())))
 else
 ((z6c N b3.2.2.2.2 b3.2.1 b1).bind fun r4=>
 bif (eqi (r4.1.length:Int) (0:Int))then
 (some ((),((b2,((0:Int),(0:Int))),())))
 else
 (let x5:=(decide ((0:Int)<(r3.1.2.2.1.length:Int)))
 bif x5 then
 (gd (fits (0+r3.1.2.2.2.2.length) 112)
 (let x6:=(([]:List Z1)++r3.1.2.2.2.2)
 gd (fits (x6.length+r4.1.length) 112)
 (let x7:=(x6++r4.1)
 let x8:=([(r3.1.1,(r3.1.2.1,(r3.1.2.2.1,(r3.1.2.2.2.1,x7))))]:List Z6)
 let x9:=(aa .i64 ((r3.1.2.2.1.length:Int)+(r3.1.1.length:Int)))
 bif (eqi x9 (0:Int))then
 (let x10:=(decide ((1:Int)<(b3.2.2.1.length:Int)))
 bif x10 then
 ((za4 N (b3.1,(b3.2.1,(b3.2.2.1,(b3.2.2.2.1,r4.2.1)))) b1).bind fun r11=>
 (zbh N b2 b0 (([r11]:List Z6),(([]:List (List UInt8)),([]:List Z1)))).bind fun r12=>
 (zaz N b2 r12.1 r12.2 (r4.1.length:Int)).bind fun r13=>
 some ((),(r13,())))
 else
 ((z19 N b0 b1 b2 (b3.1,(b3.2.1,(b3.2.2.1,(b3.2.2.2.1,r4.2.1)))) r4 x8 ([]:List (List UInt8)) ([]:List Z1)).bind fun r19=>
 some ((),(r19.2.1,()))))
 else
 ((z19 N b0 b1 b2 (b3.1,(b3.2.1,(b3.2.2.1,(b3.2.2.2.1,r4.2.1)))) r4 x8 ([]:List (List UInt8)) ([]:List Z1)).bind fun r20=>
 some ((),(r20.2.1,()))))))
 else
 ((zkh N r3.1.1 r4.1).bind fun r21=>
 (zcz N (r21,r3.1.2) b2.2.2).bind fun r22=>
 let x23:=(aa .i64 ((r3.1.2.2.1.length:Int)+(r21.length:Int)))
 bif (eqi x23 (0:Int))then
 (let x24:=(decide ((1:Int)<(b3.2.2.1.length:Int)))
 bif x24 then
 ((za4 N (b3.1,(b3.2.1,(b3.2.2.1,(b3.2.2.2.1,r4.2.1)))) b1).bind fun r25=>
 (zbh N b2 b0 (([r25]:List Z6),(([]:List (List UInt8)),([]:List Z1)))).bind fun r26=>
 (zaz N b2 r26.1 r26.2 (r4.1.length:Int)).bind fun r27=>
 some ((),(r27,())))
 else
 ((z19 N b0 b1 b2 (b3.1,(b3.2.1,(b3.2.2.1,(b3.2.2.2.1,r4.2.1)))) r4 r22.1 r22.2.1 ([]:List Z1)).bind fun r28=>
 some ((),(r28.2.1,()))))
 else
 ((z19 N b0 b1 b2 (b3.1,(b3.2.1,(b3.2.2.1,(b3.2.2.2.1,r4.2.1)))) r4 r22.1 r22.2.1 ([]:List Z1)).bind fun r29=>
 some ((),(r29.2.1,())))))))
def zij(N:Nat)(a0:Y5)(a1:(List Int))(a2:Int):Option (z79):=
 (z8z N a0 a1).bind fun r1=>
 bif (!(eqi r1.2.2 (0:Int)))then
 (some (a0,((0:Int),r1.2.2)))
 else
 (bif (decide (a2<(0:Int)))then
 (some (a0,((0:Int),(140:Int))))
 else
 (let x2:=(decide ((r1.1.2.2.1.length:Int)<=a2))
 bif x2 then
 (some (a0,((0:Int),(140:Int))))
 else
 ((zgw N a1 a2 a0 r1.1).bind fun r30=>
 some r30.2.1)))
def zp1(N:Nat)(a0:Z0)(a1:(List UInt8)):Option (Bool):=
 bif (!(lts a1 a0.1))then
 (bif (eqs a0.2 ([]:List UInt8))then
 (some true)
 else
 (some (lts a1 a0.2)))
 else
 (some false)
def z0q(N:Nat)(rec:(List Z3)->(List Z0)->Int->Bool->Int->(List Z3)->Option you)(b0:(List Z3))(b1:(List Z0))(b2:Int)(b3:Bool)(b4:Int)(b5:(List Z3)):Option you:=
 bif (decide (b4<(b1.length:Int)))then
 (bif b3 then
 (rec b0 b1 b2 true (aa .i64 (b4+(1:Int))) b5)
 else
 (gd (inB b4 (b1.length))
 (gd (inB b2 (b0.length))
 ((zp1 N (rdL b1 b4 Y7) ((rdL b0 b2 X5).1)).bind fun r1=>
 rec b0 b1 b2 r1 (aa .i64 (b4+(1:Int))) b5))))
 else
 (some ((b0,(b1,((),(b2,b3)))),(b5,())))
def z6w(N:Nat)(n:Nat):=
 itF (fun _ _ _ _ _ _=>none) (z0q N) n
theorem zd0(N:Nat)(n:Nat):z6w N (n+1)=z0q N (z6w N n):=rfl
def z0r(N:Nat)(rec:(List Z3)->(List Z0)->Int->(List Z3)->Option (Ty7_))(b0:(List Z3))(b1:(List Z0))(b2:Int)(b3:(List Z3)):Option (Ty7_):=
 bif (decide (b2<(b0.length:Int)))then
 ((z6w N N b0 b1 b2 false (0:Int) b3).bind fun r2=>
 bif r2.1.2.2.2.2 then
 (gd (inB r2.1.2.2.2.1 (r2.1.1.length))
 (let x3:=([(rdL r2.1.1 r2.1.2.2.2.1 X5)]:List Z3)
 gd (fits (r2.2.1.length+x3.length) 40)
 (let x4:=(r2.2.1++x3)
 let x5:=(aa .i64 (r2.1.2.2.2.1+(1:Int)))
 rec r2.1.1 r2.1.2.1 x5 x4)))
 else
 (let x6:=(aa .i64 (r2.1.2.2.2.1+(1:Int)))
 rec r2.1.1 r2.1.2.1 x6 r2.2.1))
 else
 (some ((),(b3,())))
def z6x(N:Nat)(n:Nat):=
 itF (fun _ _ _ _=>none) (z0r N) n
theorem zd1(N:Nat)(n:Nat):z6x N (n+1)=z0r N (z6x N n):=rfl
def zbw(N:Nat)(a0:(List Z3))(a1:(List Z0)):Option ((List Z3)):=
 (z6x N N a0 a1 (0:Int) ([]:List Z3)).bind fun r7=>
 some r7.2.1
def zin(N:Nat)(a0:Z0)(a1 a2:(List UInt8)):Option (Z0):=
 (U2 N a2).bind fun r1=>
 gd (decide (0<=(a1.length:Int))&&(decide ((a1.length:Int)<=(a0.1.length:Int))&&decide ((a0.1.length:Int)<=(a0.1.length:Int))))
 (let x2:=(cut2 a0.1 (a1.length:Int) (a0.1.length:Int))
 gd (decide (a2.length+x2.length<maxS))
 (let x3:=(a2++x2)
 (j9 N a0.2 a1).bind fun r4=>
 bif r4 then
 (bif (!(eqs a0.2 ([]:List UInt8)))then
 (gd (decide (0<=(a1.length:Int))&&(decide ((a1.length:Int)<=(a0.2.length:Int))&&decide ((a0.2.length:Int)<=(a0.2.length:Int))))
 (let x5:=(cut2 a0.2 (a1.length:Int) (a0.2.length:Int))
 gd (decide (a2.length+x5.length<maxS))
 (let x6:=(a2++x5)
 some (x3,x6))))
 else
 (some (x3,r1.2)))
 else
 (some (x3,r1.2))))
def z08(N:Nat)(rec:(List Z0)->Int->Z1->Z0->(List Z0)->Option y9g)(b0:(List Z0))(b1:Int)(b2:Z1)(b3:Z0)(b4:(List Z0)):Option y9g:=
 bif (decide (b1<(b0.length:Int)))then
 (gd (inB b1 (b0.length))
 ((z2s N (rdL b0 b1 Y7) b3).bind fun r10=>
 (z0a N r10).bind fun r11=>
 bif (!r11)then
 ((zin N r10 b2.2.2.2.2.2.1 b2.2.2.2.2.1).bind fun r12=>
 gd (fits (b4.length+1) 32)
 (let x13:=(b4++([r12]:List Z0))
 rec b0 (aa .i64 (b1+(1:Int))) b2 b3 x13))
 else
 (rec b0 (aa .i64 (b1+(1:Int))) b2 b3 b4)))
 else
 (some ((),(b4,())))
def z0h(N:Nat)(n:Nat):=
 itF (fun _ _ _ _ _=>none) (z08 N) n
theorem zc8(N:Nat)(n:Nat):z0h N (n+1)=z08 N (z0h N n):=rfl
def z30(N:Nat)(a0:(List Z0))(a1:Z1):Option ((List Z0)):=
 bif (eqi a1.1 (1:Int))then
 ((z9p N a1.2.1).bind fun r1=>
 (Q8 N a0 ([r1]:List Z0)).bind fun r2=>
 some r2)
 else
 (bif (eqi a1.1 (2:Int))then
 ((z9p N a1.2.1).bind fun r3=>
 (Q8 N a0 ([r3]:List Z0)).bind fun r4=>
 some r4)
 else
 (bif (eqi a1.1 (3:Int))then
 ((Q8 N a0 ([a1.2.2.2.1]:List Z0)).bind fun r5=>
 some r5)
 else
 (bif (eqi a1.1 (6:Int))then
 (some a0)
 else
 ((U2 N a1.2.2.2.2.2.1).bind fun r6=>
 bif (eqi a1.1 (4:Int))then
 ((U2 N a1.2.2.2.2.1).bind fun r7=>
 gd (fits (1+1) 32)
 (let x8:=(([r6]:List Z0)++([r7]:List Z0))
 (Q8 N a0 x8).bind fun r9=>
 (z0h N N a0 (0:Int) a1 r6 r9).bind fun r14=>
 (z11 N r14.2.1).bind fun r15=>
 some r15))
 else
 ((Q8 N a0 ([r6]:List Z0)).bind fun r16=>
 (z0h N N a0 (0:Int) a1 r6 r16).bind fun r17=>
 (z11 N r17.2.1).bind fun r18=>
 some r18)))))
def z2a(N:Nat)(rec:(List Z1)->(List Z0)->Int->Option (((List Z0)×Unit)))(b0:(List Z1))(b1:(List Z0))(b2:Int):Option (((List Z0)×Unit)):=
 bif (decide ((0:Int)<=b2))then
 (gd (inB b2 (b0.length))
 ((z30 N b1 (rdL b0 b2 U8)).bind fun r3=>
 rec b0 r3 (aa .i64 (b2-(1:Int)))))
 else
 (some (b1,()))
def z8b(N:Nat)(n:Nat):=
 itF (fun _ _ _=>none) (z2a N) n
theorem zf0(N:Nat)(n:Nat):z8b N (n+1)=z2a N (z8b N n):=rfl
def zim(N:Nat)(a0:Z0)(a1:(List Z1)):Option ((List Z0)):=
 (z11 N ([a0]:List Z0)).bind fun r1=>
 let x2:=(aa .i64 ((a1.length:Int)-(1:Int)))
 (z8b N N a1 r1 x2).bind fun r4=>
 some r4.1
def z3h(N:Nat)(self:(List Z7)->Int->Z0->(List Z0)->Option (((List Z3)×Int)))(rec:(List Z0)->(List Z0)->(List Z0)->Int->(List Z7)->Z6->(List Z3)->Option yoy)(b0:(List Z0))(b1:(List Z0))(b2:(List Z0))(b3:Int)(b4:(List Z7))(b5:Z6)(b6:(List Z3)):Option yoy:=
 bif (decide (b3<(b5.2.2.1.length:Int)))then
 (gd (decide (0<=b3)&&(decide (b3<=(aa .i64 (b3+(1:Int))))&&decide ((aa .i64 (b3+(1:Int)))<=(b2.length:Int))))
 (let x8:=(cut2 b2 b3 (aa .i64 (b3+(1:Int))))
 (z8u N b1 x8).bind fun r9=>
 bif (!r9)then
 (rec b0 b1 b2 (aa .i64 (b3+(1:Int))) b4 b5 b6)
 else
 (gd (inB b3 (b5.2.2.1.length))
 (gd (inB b3 (b2.length))
 ((self b4 (rdL b5.2.2.1 b3 (0:Int)) (rdL b2 b3 Y7) b1).bind fun r10=>
 bif (!(eqi r10.2 (0:Int)))then
 (some (.inl ((([]:List Z3),r10.2),())))
 else
 (gd (fits (b6.length+r10.1.length) 40)
 (let x11:=(b6++r10.1)
 rec b0 b1 b2 (aa .i64 (b3+(1:Int))) b4 b5 x11)))))))
 else
 (some (.inr ((b0,((),())),(b5,(b6,())))))
def z7e(N:Nat)(self:(List Z7)->Int->Z0->(List Z0)->Option (((List Z3)×Int)))(n:Nat):=
 itF (fun _ _ _ _ _ _ _=>none) (z3h N self) n
theorem zgi(N:Nat)(self:(List Z7)->Int->Z0->(List Z0)->Option (((List Z3)×Int)))(n:Nat):z7e N self (n+1)=z3h N self (z7e N self n):=rfl
def z3i(N:Nat)(self:(List Z7)->Int->Z0->(List Z0)->Option (((List Z3)×Int)))(rec:(List Z0)->Int->(List Z7)->Z0->Z6->(List Z0)->Option yow)(b0:(List Z0))(b1:Int)(b2:(List Z7))(b3:Z0)(b4:Z6)(b5:(List Z0)):Option yow:=
 bif (decide (b1<(b0.length:Int)))then
 (gd (inB b1 (b0.length))
 ((zim N (rdL b0 b1 Y7) b4.2.2.2.2).bind fun r4=>
 gd (fits (b5.length+r4.length) 32)
 (let x5:=(b5++r4)
 rec b0 (aa .i64 (b1+(1:Int))) b2 b3 b4 x5)))
 else
 (some ((b0,((),((),((),())))),(b2,(b3,(b4,(b5,()))))))
def za8(N:Nat)(self:(List Z7)->Int->Z0->(List Z0)->Option (((List Z3)×Int)))(n:Nat):=
 itF (fun _ _ _ _ _ _=>none) (z3i N self) n
theorem zgj(N:Nat)(self:(List Z7)->Int->Z0->(List Z0)->Option (((List Z3)×Int)))(n:Nat):za8 N self (n+1)=z3i N self (za8 N self n):=rfl
def z4e(N:Nat)(self:(List Z7)->Int->Z0->(List Z0)->Option (((List Z3)×Int)))(a0:(List Z7))(a1:Int)(a2:Z0)(a3:(List Z0)):Option (((List Z3)×Int)):=
 (z9o N a0 a1).bind fun r1=>
 bif (!(eqi r1.2 (0:Int)))then
 (some (([]:List Z3),r1.2))
 else
 (let x2:=(eqi (r1.1.2.2.1.length:Int) (0:Int))
 bif x2 then
 ((zbw N r1.1.1 a3).bind fun r3=>
 some (r3,(0:Int)))
 else
 ((za8 N self N a3 (0:Int) a0 a2 r1.1 ([]:List Z0)).bind fun r6=>
 (z8s N r6.2.2.2.1 r6.2.2.1).bind fun r7=>
 (z7e N self N r6.1.1 r6.2.2.2.2.1 r7 (0:Int) r6.2.1 r6.2.2.2.1 ([]:List Z3)).bind fun r12=>
 match r12 with
 | .inl r13=>(some (r13.1.1,r13.1.2))
 | .inr r14=>((zkh N r14.2.2.1 r14.2.1.2.2.2.2).bind fun r15=>
 (zbw N r15 r14.1.1).bind fun r16=>
 some (r16,(0:Int)))))
def z01(N n:Nat):(List Z7)->Int->Z0->(List Z0)->Option (((List Z3)×Int)):=
 itF (fun _ _ _ _=>none) (z4e N) n
theorem zd2(N n:Nat):z01 N (n+1)=z4e N (z01 N n):=rfl
def y25(N:Nat):(List Z7)->Int->Z0->(List Z0)->Option (((List Z3)×Int)):=
 z01 N N
def zlq(N:Nat)(a0:Y5)(a1:Z0):Option (((List Z3)×Int)):=
 (y25 N a0.1 a0.2.1 (([]:List UInt8),([]:List UInt8)) ([a1]:List Z0)).bind fun r1=>
 some (r1.1,r1.2)
def z6b(N:Nat)(a0:Z1):Option (Bool):=
 bif (eqi a0.1 (4:Int))then
 (some true)
 else
 (some (eqi a0.1 (5:Int)))
def z3l(N:Nat)(rec:(List Z3)->Int->Z1->(List Z1)->Option (((Unit×Unit)×(Z1×((List Z1)×Unit)))))(b0:(List Z3))(b1:Int)(b2:Z1)(b3:(List Z1)):Option (((Unit×Unit)×(Z1×((List Z1)×Unit)))):=
 bif (decide (b1<(b0.length:Int)))then
 (gd (inB b1 (b0.length))
 (gd (decide (0<=(b2.2.2.2.2.1.length:Int))&&(decide ((b2.2.2.2.2.1.length:Int)<=(aq ((rdL b0 b1 X5).1):Int))&&decide ((aq ((rdL b0 b1 X5).1):Int)<=(aq ((rdL b0 b1 X5).1):Int))))
 (let x4:=(cut2 ((rdL b0 b1 X5).1) (b2.2.2.2.2.1.length:Int) (aq ((rdL b0 b1 X5).1):Int))
 gd (decide (b2.2.2.2.2.2.1.length+x4.length<maxS))
 (let x5:=(b2.2.2.2.2.2.1++x4)
 let x6:=([((1:Int),(x5,(((rdL b0 b1 X5).2).1,((([]:List UInt8),([]:List UInt8)),(([]:List UInt8),(([]:List UInt8),((rdL b0 b1 X5).2).2))))))]:List Z1)
 gd (fits (b3.length+x6.length) 112)
 (let x7:=(b3++x6)
 rec b0 (aa .i64 (b1+(1:Int))) b2 x7)))))
 else
 (some (((),()),(b2,(b3,()))))
def zab(N:Nat)(n:Nat):=
 itF (fun _ _ _ _=>none) (z3l N) n
theorem zgm(N:Nat)(n:Nat):zab N (n+1)=z3l N (zab N n):=rfl
def zlv(N:Nat)(a0:Z1)(a1:(List Z3)):Option ((List Z1)):=
 (z6b N a0).bind fun r1=>
 bif (!r1)then
 (some ([a0]:List Z1))
 else
 ((U2 N a0.2.2.2.2.2.1).bind fun r2=>
 let x3:=([((3:Int),(([]:List UInt8),(([]:List UInt8),(r2,(([]:List UInt8),(([]:List UInt8),(0:Int)))))))]:List Z1)
 (zab N N a1 (0:Int) a0 x3).bind fun r8=>
 bif (eqi r8.2.1.1 (4:Int))then
 ((U2 N r8.2.1.2.2.2.2.1).bind fun r9=>
 let x10:=([((3:Int),(([]:List UInt8),(([]:List UInt8),(r9,(([]:List UInt8),(([]:List UInt8),(0:Int)))))))]:List Z1)
 gd (fits (r8.2.2.1.length+x10.length) 112)
 (let x11:=(r8.2.2.1++x10)
 some x11))
 else
 (some r8.2.2.1))
def zlu(N:Nat)(a0:(List Z1))(a1:(List Z3)):Option (((List Z1)×Int)):=
 bif (eqi (a0.length:Int) (0:Int))then
 (some (([]:List Z1),(50:Int)))
 else
 (gd (inB (0:Int) (a0.length))
 ((z6b N (rdL a0 (0:Int) U8)).bind fun r1=>
 bif (!r1)then
 (some (([]:List Z1),(50:Int)))
 else
 (gd (inB (0:Int) (a0.length))
 ((zlv N (rdL a0 (0:Int) U8) a1).bind fun r2=>
 gd (decide (0<=(1:Int))&&(decide ((1:Int)<=(a0.length:Int))&&decide ((a0.length:Int)<=(a0.length:Int))))
 (gd (fits (r2.length+aq (cut2 a0 (1:Int) (a0.length:Int))) 112)
 (let x3:=(r2++(cut2 a0 (1:Int) (a0.length:Int)))
 some (x3,(0:Int))))))))
def z0o(N:Nat)(rec:Int->Y5->Z6->(List Z3)->Option yot)(b0:Int)(b1:Y5)(b2:Z6)(b3:(List Z3)):Option yot:=
 bif (decide (b0<(b2.2.2.1.length:Int)))then
 (gd (inB b0 (b2.2.2.1.length))
 (gd (inB (0:Int) (b2.2.2.2.2.length))
 (let x1:=(((((rdL b2.2.2.2.2 (0:Int) U8).2).2).2).2).1
 (U2 N x1).bind fun r2=>
 (zlq N (b1.1,((rdL b2.2.2.1 b0 (0:Int)),b1.2.2)) r2).bind fun r3=>
 bif (!(eqi r3.2 (0:Int)))then
 (some (.inl (((),r3.2),(b2,()))))
 else
 (gd (fits (b3.length+r3.1.length) 40)
 (let x4:=(b3++r3.1)
 rec (aa .i64 (b0+(1:Int))) b1 b2 x4)))))
 else
 (some (.inr (((),((),())),(b2,((),(b3,()))))))
def z1h(N:Nat)(n:Nat):=
 itF (fun _ _ _ _=>none) (z0o N) n
theorem zcw(N:Nat)(n:Nat):z1h N (n+1)=z0o N (z1h N n):=rfl
def z6k(N:Nat)(a0:Y5)(a1:Z6):Option ((Z6×Int)):=
 (z1h N N (0:Int) a0 a1 ([]:List Z3)).bind fun r5=>
 match r5 with
 | .inl r6=>(some (r6.2.1,r6.1.2))
 | .inr r7=>((zlu N r7.2.1.2.2.2.2 r7.2.2.2.1).bind fun r8=>
 some ((r7.2.1.1,(r7.2.1.2.1,(r7.2.1.2.2.1,(r7.2.1.2.2.2.1,r8.1)))),r8.2))
def zln(N:Nat)(a0:Y5)(a1:(List Int)):Option ((Y5×Int)):=
 (z8z N a0 a1).bind fun r1=>
 bif (!(eqi r1.2.2 (0:Int)))then
 (some (a0,r1.2.2))
 else
 (let x2:=(decide (a0.2.2.1<(r1.1.1.length:Int)))
 bif x2 then
 ((zcz N r1.1 a0.2.2).bind fun r3=>
 (zh3 N a0 a1 (r3.1,(r3.2.1,([]:List Z1)))).bind fun r4=>
 some (r4.1,r4.2))
 else
 (let x5:=(decide (a0.2.2.2.1<(r1.1.2.2.1.length:Int)))
 bif x5 then
 ((zik N r1.1 a0.2.2).bind fun r6=>
 (zh3 N a0 a1 r6).bind fun r7=>
 some (r7.1,r7.2))
 else
 (let x8:=(eqi (r1.1.2.2.2.2.length:Int) (0:Int))
 bif x8 then
 (some (a0,(0:Int)))
 else
 ((zlm N r1.1).bind fun r9=>
 bif (decide ((0:Int)<r9.2))then
 ((zij N a0 a1 r9.1).bind fun r10=>
 some (r10.1,r10.2.2))
 else
 ((z6k N a0 r1.1).bind fun r11=>
 bif (!(eqi r11.2 (0:Int)))then
 (some (a0,r11.2))
 else
 ((zh3 N a0 a1 (([r11.1]:List Z6),(([]:List (List UInt8)),([]:List Z1)))).bind fun r12=>
 some (r12.1,r12.2)))))))
def z5d(N:Nat)(rec:Bool->Y5->z42->Option ((Unit×(z42×Unit))))(b0:Bool)(b1:Y5)(b2:z42):Option ((Unit×(z42×Unit))):=
 (zyj N b2.1 ([]:List Int) b0).bind fun r1=>
 bif (!r1.2)then
 (some ((),(b2,())))
 else
 ((zln N b2.1 r1.1).bind fun r2=>
 bif (!(eqi r2.2 (0:Int)))then
 (some ((),((b1,((0:Int),r2.2)),())))
 else
 (rec b0 b1 (r2.1,((aa .i64 (b2.2.1+(1:Int))),b2.2.2))))
def z80(N:Nat)(n:Nat):=
 itF (fun _ _ _=>none) (z5d N) n
theorem zoj(N:Nat)(n:Nat):z80 N (n+1)=z5d N (z80 N n):=rfl
def znx(N:Nat)(a0:Y5)(a1:Bool):Option (z42):=
 (z80 N N a1 a0 (a0,((0:Int),(0:Int)))).bind fun r3=>
 some r3.2.1
def zlo(N:Nat)(a0:Y5):Option (z42):=
 (znx N a0 false).bind fun r1=>
 some r1
def zrw(N:Nat)(a0:Z4)(a1:Y5):Option (Z4):=
 some (a1.1,(a1.2.2,(a0.2.2.1,(a0.2.2.2.1,(a1.2.1,a0.2.2.2.2.2)))))
def ziq(N:Nat)(a0:Z1):Option ((List Z0)):=
 bif (eqi a0.1 (6:Int))then
 (some ([]:List Z0))
 else
 (match K7 N a0 with
 | some r1=>(some r1)
 | none=>none)
def z3n(N:Nat)(rec:(List Z1)->Int->(List Z1)->(List Z0)->Option (((Unit×(Unit×Unit))×(Unit×((List Z1)×((List Z0)×Unit))))))(b0:(List Z1))(b1:Int)(b2:(List Z1))(b3:(List Z0)):Option (((Unit×(Unit×Unit))×(Unit×((List Z1)×((List Z0)×Unit))))):=
 bif (decide ((0:Int)<=b1))then
 (gd (inB b1 (b0.length))
 ((K7 N (rdL b0 b1 U8)).bind fun r3=>
 (Q8 N r3 b3).bind fun r4=>
 bif (eqi (r4.length:Int) (0:Int))then
 (rec b0 (aa .i64 (b1-(1:Int))) b2 b3)
 else
 (gd (fits (1+b2.length) 112)
 (let x5:=(([(rdL b0 b1 U8)]:List Z1)++b2)
 gd (fits (0+b3.length) 32)
 (let x6:=(([]:List Z0)++b3)
 (ziq N (rdL b0 b1 U8)).bind fun r7=>
 gd (fits (x6.length+r7.length) 32)
 (let x8:=(x6++r7)
 (z6d N (rdL b0 b1 U8)).bind fun r9=>
 (Q8 N x8 r9).bind fun r10=>
 rec b0 (aa .i64 (b1-(1:Int))) x5 r10))))))
 else
 (some (((),((),())),((),(b2,(b3,())))))
def zad(N:Nat)(n:Nat):=
 itF (fun _ _ _ _=>none) (z3n N) n
theorem zgo(N:Nat)(n:Nat):zad N (n+1)=z3n N (zad N n):=rfl
def zrz(N:Nat)(a0:(List Z1))(a1:(List Z0)):Option (znp):=
 (z11 N a1).bind fun r1=>
 let x2:=(aa .i64 ((a0.length:Int)-(1:Int)))
 (zad N N a0 x2 ([]:List Z1) r1).bind fun r11=>
 some (r11.2.2.1,r11.2.2.2.1)
def zbz(N:Nat)(a0:(List Z1)):Option ((List Z1)):=
 (zrz N a0 ([]:List Z0)).bind fun r1=>
 some r1.1
def z4n(N:Nat)(rec:(List Z1)->Int->Z4->Y5->Option yp2)(b0:(List Z1))(b1:Int)(b2:Z4)(b3:Y5):Option yp2:=
 bif (decide (b1<(b0.length:Int)))then
 (gd (inB b1 (b0.length))
 ((zke N b3 (rdL b0 b1 U8)).bind fun r2=>
 bif (!(eqi r2.2 (0:Int)))then
 (some (.inl (((),r2.2),(b2,()))))
 else
 (rec b0 (aa .i64 (b1+(1:Int))) b2 r2.1)))
 else
 (some (.inr ((b0,((),((),()))),(b2,((),(b3,()))))))
def z4z(N:Nat)(n:Nat):=
 itF (fun _ _ _ _=>none) (z4n N) n
theorem zi6(N:Nat)(n:Nat):z4z N (n+1)=z4n N (z4z N n):=rfl
def zkd(N:Nat)(a0:Z4)(a1:(List Z1)):Option ((Z4×Int)):=
 (zrx N a0 (0:Int)).bind fun r1=>
 (z4z N N a1 (0:Int) a0 r1.1).bind fun r3=>
 match r3 with
 | .inl r4=>(some (r4.2.1,r4.1.2))
 | .inr r5=>((zlo N r5.2.2.2.1).bind fun r6=>
 bif (!(eqi r6.2.2 (0:Int)))then
 (some (r5.2.1,r6.2.2))
 else
 (gd (fits (0+r5.2.1.2.2.2.2.2.2.length) 112)
 (let x7:=(([]:List Z1)++r5.2.1.2.2.2.2.2.2)
 (zrw N r5.2.1 r6.1).bind fun r8=>
 gd (fits (x7.length+r5.1.1.length) 112)
 (let x9:=(x7++r5.1.1)
 (zbz N x9).bind fun r10=>
 some ((r8.1,(r8.2.1,(r8.2.2.1,(r8.2.2.2.1,(r8.2.2.2.2.1,(r8.2.2.2.2.2.1,r10)))))),(0:Int))))))
def z99(N:Nat)(b0 b1:Int)(b2:Bool):Option (((Unit×Int)×(Unit×Unit))⊕((Int×(Int×Unit))×(Unit×Unit))):=
 bif b2 then
 (some (.inl (((),(1:Int)),((),()))))
 else
 (some (.inr ((b0,(b1,())),((),()))))
def z9a(N:Nat)(b0 b1:Int):Option (((Unit×Int)×ymj)):=
 gd ((decide (0<=b1)&&decide (b1<=b1))&&(decide (b1<maxB)&&decide (b1*24<maxB)))
 (let x4:=(ar (cK b1) ([]:List Int))
 some (((),(0:Int)),((b0,((),())),(x4,(([]:List X0),())))))
def zbg(N:Nat)(a0 a1:Int):Option ((V2×Int)):=
 bif (decide (a0<(1:Int)))then
 ((z99 N a0 a1 true).bind fun r1=>
 match r1 with
 | .inl r2=>(some (((0:Int),(([]:List (List Int)),([]:List X0))),r2.1.2))
 | .inr r3=>((z9a N r3.1.1 r3.1.2.1).bind fun r5=>
 some ((r5.2.1.1,(r5.2.2.1,r5.2.2.2.1)),r5.1.2)))
 else
 (bif (decide ((65536:Int)<a0))then
 ((z99 N a0 a1 true).bind fun r6=>
 match r6 with
 | .inl r7=>(some (((0:Int),(([]:List (List Int)),([]:List X0))),r7.1.2))
 | .inr r8=>((z9a N r8.1.1 r8.1.2.1).bind fun r9=>
 some ((r9.2.1.1,(r9.2.2.1,r9.2.2.2.1)),r9.1.2)))
 else
 (bif (decide (a1<(1:Int)))then
 ((z99 N a0 a1 true).bind fun r10=>
 match r10 with
 | .inl r11=>(some (((0:Int),(([]:List (List Int)),([]:List X0))),r11.1.2))
 | .inr r12=>((z9a N r12.1.1 r12.1.2.1).bind fun r13=>
 some ((r13.2.1.1,(r13.2.2.1,r13.2.2.2.1)),r13.1.2)))
 else
 ((z99 N a0 a1 (decide ((4096:Int)<a1))).bind fun r14=>
 match r14 with
 | .inl r15=>(some (((0:Int),(([]:List (List Int)),([]:List X0))),r15.1.2))
 | .inr r16=>((z9a N r16.1.1 r16.1.2.1).bind fun r17=>
 some ((r17.2.1.1,(r17.2.2.1,r17.2.2.2.1)),r17.1.2)))))
def z4m(N:Nat)(rec:Int->Int->Int->Int->(List Bool)->(List Int)->Option (((Unit×Unit)×(Unit×ymi))))(b0 b1 b2 b3:Int)(b4:(List Bool))(b5:(List Int)):Option (((Unit×Unit)×(Unit×ymi))):=
 bif (decide (b2<b0))then
 (gd (fits (b4.length+1) 1)
 (let x4:=(b4++([(decide (b2<b1))]:List Bool))
 rec b0 b1 (aa .i64 (b2+(1:Int))) b3 x4 b5))
 else
 (some (((),()),((),(((),((),b3)),(b4,(b5,()))))))
def zbs(N:Nat)(n:Nat):=
 itF (fun _ _ _ _ _ _=>none) (z4m N) n
theorem zi5(N:Nat)(n:Nat):zbs N (n+1)=z4m N (zbs N n):=rfl
def z97(N:Nat)(b0 b1:Int)(b2:Bool):Option (((Unit×Int)×(Unit×Unit))⊕((Int×(Int×Unit))×(Unit×Unit))):=
 bif b2 then
 (some (.inl (((),(1:Int)),((),()))))
 else
 (some (.inr ((b0,(b1,())),((),()))))
def z98(N:Nat)(b0 b1:Int):Option (((Unit×Int)×ymi)):=
 (zbs N N b0 b1 (0:Int) (0:Int) ([]:List Bool) ([]:List Int)).bind fun r5=>
 some (((),(0:Int)),(((),((),r5.2.2.1.2.2)),(r5.2.2.2.1,(r5.2.2.2.2.1,()))))
def zoz(N:Nat)(a0 a1:Int):Option ((V0×Int)):=
 bif (decide (a0<(1:Int)))then
 ((z97 N a0 a1 true).bind fun r1=>
 match r1 with
 | .inl r2=>(some ((([]:List Bool),(([]:List Int),(0:Int))),r2.1.2))
 | .inr r3=>((z98 N r3.1.1 r3.1.2.1).bind fun r6=>
 some ((r6.2.2.1,(r6.2.2.2.1,r6.2.1.2.2)),r6.1.2)))
 else
 (bif (decide ((4096:Int)<a0))then
 ((z97 N a0 a1 true).bind fun r7=>
 match r7 with
 | .inl r8=>(some ((([]:List Bool),(([]:List Int),(0:Int))),r8.1.2))
 | .inr r9=>((z98 N r9.1.1 r9.1.2.1).bind fun r10=>
 some ((r10.2.2.1,(r10.2.2.2.1,r10.2.1.2.2)),r10.1.2)))
 else
 (bif (decide (a1<(0:Int)))then
 ((z97 N a0 a1 true).bind fun r11=>
 match r11 with
 | .inl r12=>(some ((([]:List Bool),(([]:List Int),(0:Int))),r12.1.2))
 | .inr r13=>((z98 N r13.1.1 r13.1.2.1).bind fun r14=>
 some ((r14.2.2.1,(r14.2.2.2.1,r14.2.1.2.2)),r14.1.2)))
 else
 ((z97 N a0 a1 (decide (a0<a1))).bind fun r15=>
 match r15 with
 | .inl r16=>(some ((([]:List Bool),(([]:List Int),(0:Int))),r16.1.2))
 | .inr r17=>((z98 N r17.1.1 r17.1.2.1).bind fun r18=>
 some ((r18.2.2.1,(r18.2.2.2.1,r18.2.1.2.2)),r18.1.2)))))
def z5e(N:Nat)(rec:(List Z3)->Int->Option Ty3_)(b0:(List Z3))(b1:Int):Option Ty3_:=
 bif (decide (b1<(b0.length:Int)))then
 (gd (inB (aa .i64 (b1-(1:Int))) (b0.length))
 (let x1:=(rdL b0 (aa .i64 (b1-(1:Int))) X5)
 gd (inB b1 (b0.length))
 (bif (!(lts x1.1 ((rdL b0 b1 X5).1)))then
 (some (.inl (false,())))
 else
 (rec b0 (aa .i64 (b1+(1:Int)))))))
 else
 (some (.inr ((),())))
def z8h(N:Nat)(n:Nat):=
 itF (fun _ _=>none) (z5e N) n
theorem zok(N:Nat)(n:Nat):z8h N (n+1)=z5e N (z8h N n):=rfl
def zir(N:Nat)(a0:(List Z3)):Option (Bool):=
 match z8h N N a0 (1:Int)with
 | some r2=>(match r2 with
 | .inl r3=>(some r3.1)
 | .inr r4=>(some true))
 | none=>none
def zkp(N:Nat)(a0 a1 a2:Int):Option (Bool):=
 bif (decide (a1<=a0))then
 (some (decide (a0<=a2)))
 else
 (some false)
def z3k(N:Nat)(rec:Int->Z6->Z0->Option Ty3_)(b0:Int)(b1:Z6)(b2:Z0):Option Ty3_:=
 bif (decide (b0<(b1.1.length:Int)))then
 (gd (inB b0 (b1.1.length))
 (match zbi N b2 ((rdL b1.1 b0 X5).1)with
 | some r5=>(bif (!r5)then
 (some (.inl (false,())))
 else
 (let x6:=(aq ((rdL b1.1 b0 X5).1):Int)
 match zkp N x6 (1:Int) (65535:Int)with
 | some r7=>(bif (!r7)then
 (some (.inl (false,())))
 else
 (let x8:=(aq (((rdL b1.1 b0 X5).2).1):Int)
 bif (decide ((64:Int)<x8))then
 (some (.inl (false,())))
 else
 (match zkp N (((rdL b1.1 b0 X5).2).2) (0:Int) (1000000000:Int)with
 | some r9=>(bif (!r9)then
 (some (.inl (false,())))
 else
 (rec (aa .i64 (b0+(1:Int))) b1 b2))
 | none=>none)))
 | none=>none))
 | none=>none))
 else
 (some (.inr ((),())))
def za9(N:Nat)(n:Nat):=
 itF (fun _ _ _=>none) (z3k N) n
theorem zgl(N:Nat)(n:Nat):za9 N (n+1)=z3k N (za9 N n):=rfl
def zls(N:Nat)(a0:Z6)(a1:Z0):Option (Bool):=
 let x1:=(decide ((0:Int)<(a0.2.1.length:Int)))
 bif x1 then
 (some false)
 else
 (let x2:=(decide ((0:Int)<(a0.2.2.2.1.length:Int)))
 bif x2 then
 (some false)
 else
 (let x3:=(decide ((0:Int)<(a0.2.2.2.2.length:Int)))
 bif x3 then
 (some false)
 else
 (match zir N a0.1 with
 | some r4=>(bif (!r4)then
 (some false)
 else
 (match za9 N N (0:Int) a0 a1 with
 | some r10=>(match r10 with
 | .inl r11=>(some r11.1)
 | .inr r12=>(some true))
 | none=>none))
 | none=>none)))
def z02(N:Nat)(b0:(List (List UInt8)))(b1:Int)(b2:Bool)(b3:Z0):Option ((Bool×Unit)⊕(((List (List UInt8))×(Unit×Int))×(Z0×Unit))):=
 bif b2 then
 (some (.inl (false,())))
 else
 (some (.inr ((b0,((),b1)),(b3,()))))
def z03(N:Nat)(b0:(List (List UInt8)))(b1:Int)(b2:Z0):Option ((((List (List UInt8))×(Unit×Int))×(Z0×Unit))):=
 some ((b0,((),(aa .i64 (b1+(1:Int))))),(b2,()))
def z0s(N:Nat)(rec:(List (List UInt8))->Int->Z0->Option Ty3_)(b0:(List (List UInt8)))(b1:Int)(b2:Z0):Option Ty3_:=
 bif (decide (b1<(b0.length:Int)))then
 (gd (inB b1 (b0.length))
 (let x1:=(lts (rdL b0 b1 ([]:List UInt8)) b2.1 || eqs (rdL b0 b1 ([]:List UInt8)) b2.1)
 bif x1 then
 (match z02 N b0 b1 true b2 with
 | some r2=>(match r2 with
 | .inl r3=>(some (.inl (r3.1,())))
 | .inr r4=>(match z03 N r4.1.1 r4.1.2.2 r4.2.1 with
 | some r5=>(rec r5.1.1 r5.1.2.2 r5.2.1)
 | none=>none))
 | none=>none)
 else
 (bif (!(eqs b2.2 ([]:List UInt8)))then
 (gd (inB b1 (b0.length))
 (bif (!(lts (rdL b0 b1 ([]:List UInt8)) b2.2))then
 (match z02 N b0 b1 true b2 with
 | some r6=>(match r6 with
 | .inl r7=>(some (.inl (r7.1,())))
 | .inr r8=>(match z03 N r8.1.1 r8.1.2.2 r8.2.1 with
 | some r9=>(rec r9.1.1 r9.1.2.2 r9.2.1)
 | none=>none))
 | none=>none)
 else
 (bif (decide ((0:Int)<b1))then
 (gd (inB b1 (b0.length))
 (gd (inB (aa .i64 (b1-(1:Int))) (b0.length))
 (let x10:=(rdL b0 (aa .i64 (b1-(1:Int))) ([]:List UInt8))
 let x11:=(lts (rdL b0 b1 ([]:List UInt8)) x10 || eqs (rdL b0 b1 ([]:List UInt8)) x10)
 match z02 N b0 b1 x11 b2 with
 | some r12=>(match r12 with
 | .inl r13=>(some (.inl (r13.1,())))
 | .inr r14=>(match z03 N r14.1.1 r14.1.2.2 r14.2.1 with
 | some r15=>(rec r15.1.1 r15.1.2.2 r15.2.1)
 | none=>none))
 | none=>none)))
 else
 (match z02 N b0 b1 false b2 with
 | some r16=>(match r16 with
 | .inl r17=>(some (.inl (r17.1,())))
 | .inr r18=>(match z03 N r18.1.1 r18.1.2.2 r18.2.1 with
 | some r19=>(rec r19.1.1 r19.1.2.2 r19.2.1)
 | none=>none))
 | none=>none))))
 else
 (bif (decide ((0:Int)<b1))then
 (gd (inB b1 (b0.length))
 (gd (inB (aa .i64 (b1-(1:Int))) (b0.length))
 (let x20:=(rdL b0 (aa .i64 (b1-(1:Int))) ([]:List UInt8))
 let x21:=(lts (rdL b0 b1 ([]:List UInt8)) x20 || eqs (rdL b0 b1 ([]:List UInt8)) x20)
 match z02 N b0 b1 x21 b2 with
 | some r22=>(match r22 with
 | .inl r23=>(some (.inl (r23.1,())))
 | .inr r24=>(match z03 N r24.1.1 r24.1.2.2 r24.2.1 with
 | some r25=>(rec r25.1.1 r25.1.2.2 r25.2.1)
 | none=>none))
 | none=>none)))
 else
 (match z02 N b0 b1 false b2 with
 | some r26=>(match r26 with
 | .inl r27=>(some (.inl (r27.1,())))
 | .inr r28=>(match z03 N r28.1.1 r28.1.2.2 r28.2.1 with
 | some r29=>(rec r29.1.1 r29.1.2.2 r29.2.1)
 | none=>none))
 | none=>none)))))
 else
 (some (.inr ((),())))
def z1i(N:Nat)(n:Nat):=
 itF (fun _ _ _=>none) (z0s N) n
theorem zd5(N:Nat)(n:Nat):z1i N (n+1)=z0s N (z1i N n):=rfl
def zfs(N:Nat)(a0:(List (List UInt8)))(a1:Z0):Option (Bool):=
 match z1i N N a0 (0:Int) a1 with
 | some r30=>(match r30 with
 | .inl r31=>(some r31.1)
 | .inr r32=>(some true))
 | none=>none
def zdx(N:Nat)(a0:z58):Option (Bool):=
 bif (decide ((0:Int)<=a0.1))then
 (bif (decide (a0.1<=a0.2))then
 (some (decide (a0.2<=(1000000000000000:Int))))
 else
 (some false))
 else
 (some false)
def z0u(N:Nat)(rec:Int->Z0->(List Z0)->Option Ty3_)(b0:Int)(b1:Z0)(b2:(List Z0)):Option Ty3_:=
 bif (decide (b0<(b2.length:Int)))then
 (gd (inB b0 (b2.length))
 (match zc1 N b1 (rdL b2 b0 Y7)with
 | some r4=>(bif (!r4)then
 (some (.inl (false,())))
 else
 (rec (aa .i64 (b0+(1:Int))) b1 b2))
 | none=>none))
 else
 (some (.inr ((),())))
def z70(N:Nat)(n:Nat):=
 itF (fun _ _ _=>none) (z0u N) n
theorem zd7(N:Nat)(n:Nat):z70 N (n+1)=z0u N (z70 N n):=rfl
def zft(N:Nat)(a0:Z1)(a1:Z0):Option (Bool):=
 match z6d N a0 with
 | some r1=>(match K7 N a0 with
 | some r2=>(gd (fits (r1.length+r2.length) 32)
 (let x3:=(r1++r2)
 match z70 N N (0:Int) a1 x3 with
 | some r5=>(match r5 with
 | .inl r6=>(some r6.1)
 | .inr r7=>(some true))
 | none=>none))
 | none=>none)
 | none=>none
def z1x(N:Nat)(rec:Int->Z6->Z0->Option Ty3_)(b0:Int)(b1:Z6)(b2:Z0):Option Ty3_:=
 let x12:=(decide (b0<(b1.2.2.2.2.length:Int)))
 bif x12 then
 (gd (inB b0 (b1.2.2.2.2.length))
 (match zb8 N (rdL b1.2.2.2.2 b0 U8)with
 | some r13=>(bif (!r13)then
 (some (.inl (false,())))
 else
 (gd (inB b0 (b1.2.2.2.2.length))
 (match zft N (rdL b1.2.2.2.2 b0 U8) b2 with
 | some r14=>(bif (!r14)then
 (some (.inl (false,())))
 else
 (rec (aa .i64 (b0+(1:Int))) b1 b2))
 | none=>none)))
 | none=>none))
 else
 (some (.inr ((),())))
def z83(N:Nat)(n:Nat):=
 itF (fun _ _ _=>none) (z1x N) n
theorem zer(N:Nat)(n:Nat):z83 N (n+1)=z1x N (z83 N n):=rfl
def z1y(N:Nat)(rec:Int->Z6->Z0->Option ((Bool×Unit)⊕((Unit×Unit)×yeh)))(b0:Int)(b1:Z6)(b2:Z0):Option ((Bool×Unit)⊕((Unit×Unit)×yeh)):=
 bif (decide (b0<(b1.2.2.1.length:Int)))then
 (gd (inB b0 (b1.2.2.1.length))
 (match zkp N (rdL b1.2.2.1 b0 (0:Int)) (0:Int) (4095:Int)with
 | some r6=>(bif (!r6)then
 (some (.inl (false,())))
 else
 (gd (inB b0 (b1.2.2.2.1.length))
 (match zdx N ((rdL b1.2.2.2.1 b0 z61).1)with
 | some r7=>(bif (!r7)then
 (some (.inl (false,())))
 else
 (gd (inB b0 (b1.2.2.2.1.length))
 (match zdx N ((rdL b1.2.2.2.1 b0 z61).2)with
 | some r8=>(bif (!r8)then
 (some (.inl (false,())))
 else
 (rec (aa .i64 (b0+(1:Int))) b1 b2))
 | none=>none)))
 | none=>none)))
 | none=>none))
 else
 (some (.inr (((),()),(b1,(b2,())))))
def z5v(N:Nat)(n:Nat):=
 itF (fun _ _ _=>none) (z1y N) n
theorem zes(N:Nat)(n:Nat):z5v N (n+1)=z1y N (z5v N n):=rfl
def zbn(N:Nat)(b0:Z6)(b1:Z0):Option ((Bool×Unit)):=
 match z5v N N (0:Int) b0 b1 with
 | some r9=>(match r9 with
 | .inl r10=>(some (r10.1,()))
 | .inr r11=>(match z83 N N (0:Int) r11.2.1 r11.2.2.1 with
 | some r15=>(match r15 with
 | .inl r16=>(some (r16.1,()))
 | .inr r17=>(some (true,())))
 | none=>none))
 | none=>none
def zil(N:Nat)(a0:Z6)(a1:Z0):Option (Bool):=
 bif (eqi (a0.2.2.1.length:Int) (0:Int))then
 (match zls N a0 a1 with
 | some r1=>(some r1)
 | none=>none)
 else
 (let x2:=(decide ((0:Int)<(a0.1.length:Int)))
 bif x2 then
 (some false)
 else
 (let x3:=(!(eqi (a0.2.2.2.1.length:Int) (a0.2.2.1.length:Int)))
 bif x3 then
 (some false)
 else
 (let x4:=(aa .i64 ((a0.2.2.1.length:Int)-(1:Int)))
 bif (!(eqi (a0.2.1.length:Int) x4))then
 (some false)
 else
 (match zfs N a0.2.1 a1 with
 | some r5=>(bif (!r5)then
 (some false)
 else
 (match zbn N a0 a1 with
 | some r18=>(some r18.1)
 | none=>none))
 | none=>none))))
def z0t(N:Nat)(rec:Int->Int->(List Int)->Option ((Unit×((List Int)×Unit))))(b0 b1:Int)(b2:(List Int)):Option ((Unit×((List Int)×Unit))):=
 bif (decide ((0:Int)<=b1))then
 (gd (decide (0<=(aa .i64 ((8:Int)*b1))))
 (let x1:=(dW b0 (2^min (cK (aa .i64 ((8:Int)*b1))) (bj .i64)))
 gd (fits (b2.length+1) 1)
 (let x2:=(b2++([(aa .u8 (x1))]:List Int))
 rec b0 (aa .i64 (b1-(1:Int))) x2)))
 else
 (some ((),(b2,())))
def z6z(N:Nat)(n:Nat):=
 itF (fun _ _ _=>none) (z0t N) n
theorem zd6(N:Nat)(n:Nat):z6z N (n+1)=z0t N (z6z N n):=rfl
def V9(N:Nat)(a0 a1:Int):Option ((List Int)):=
 match z6z N N a0 (aa .i64 (a1-(1:Int))) ([]:List Int)with
 | some r3=>(some r3.2.1)
 | none=>none
def zd4(N:Nat)(a0:(List UInt8)):Option ((List Int)):=
 match V9 N (a0.length:Int) (2:Int)with
 | some r1=>(gd (fits (r1.length+aq (k8 a0)) 1)
 (let x2:=(r1++(k8 a0))
 some x2))
 | none=>none
def z7s(N:Nat)(rec:Int->Int->(List Int)->Option ((Unit×((List Int)×Unit))))(b0 b1:Int)(b2:(List Int)):Option ((Unit×((List Int)×Unit))):=
 bif (decide ((0:Int)<=b1))then
 (gd (decide (0<=(aa .i64 ((8:Int)*b1))))
 (let x1:=(dW b0 (2^min (cK (aa .i64 ((8:Int)*b1))) (bj .i64)))
 gd (fits (b2.length+1) 1)
 (let x2:=(b2++([(aa .u8 (x1))]:List Int))
 rec b0 (aa .i64 (b1-(1:Int))) x2)))
 else
 (some ((),(b2,())))
def zap(N:Nat)(n:Nat):=
 itF (fun _ _ _=>none) (z7s N) n
theorem y93(N:Nat)(n:Nat):zap N (n+1)=z7s N (zap N n):=rfl
def z6m(N:Nat)(a0 a1:Int):Option ((List Int)):=
 match zap N N a0 (aa .i64 (a1-(1:Int))) ([]:List Int)with
 | some r3=>(some r3.2.1)
 | none=>none
def z2b(N:Nat)(rec:(List (List UInt8))->Int->(List Int)->Option ((Unit×((List Int)×Unit))))(b0:(List (List UInt8)))(b1:Int)(b2:(List Int)):Option ((Unit×((List Int)×Unit))):=
 bif (decide (b1<(b0.length:Int)))then
 (gd (inB b1 (b0.length))
 (let x1:=(aq (rdL b0 b1 ([]:List UInt8)):Int)
 match z6m N x1 (2:Int)with
 | some r2=>(gd (fits (b2.length+r2.length) 1)
 (let x3:=(b2++r2)
 gd (inB b1 (b0.length))
 (gd (fits (x3.length+aq (k8 (rdL b0 b1 ([]:List UInt8)))) 1)
 (let x4:=(x3++(k8 (rdL b0 b1 ([]:List UInt8))))
 rec b0 (aa .i64 (b1+(1:Int))) x4))))
 | none=>none))
 else
 (some ((),(b2,())))
def z8c(N:Nat)(n:Nat):=
 itF (fun _ _ _=>none) (z2b N) n
theorem zf1(N:Nat)(n:Nat):z8c N (n+1)=z2b N (z8c N n):=rfl
def J5(N:Nat)(a0:(List (List UInt8))):Option ((List Int)):=
 match z8c N N a0 (0:Int) ([]:List Int)with
 | some r5=>(some r5.2.1)
 | none=>none
def j0(N:Nat)(b0:Z1)(b1:(List Int)):Option ((Unit×((List Int)×Unit))):=
 bif (eqi b0.1 (1:Int))then
 (match z6m N b0.2.2.2.2.2.2 (4:Int)with
 | some r4=>(gd (fits (b1.length+r4.length) 1)
 (let x5:=(b1++r4)
 some ((),(x5,()))))
 | none=>none)
 else
 (bif (eqi b0.1 (6:Int))then
 (match z6m N b0.2.2.2.2.2.2 (4:Int)with
 | some r6=>(gd (fits (b1.length+r6.length) 1)
 (let x7:=(b1++r6)
 some ((),(x7,()))))
 | none=>none)
 else
 (some ((),(b1,()))))
def zdz(N:Nat)(a0:Z1):Option ((List Int)):=
 match zb8 N a0 with
 | some r1=>(bif (!r1)then
 (some ([]:List Int))
 else
 (bif (eqi a0.1 (1:Int))then
 (match J5 N ([a0.2.1,a0.2.2.1]:List (List UInt8))with
 | some r2=>(gd (fits (1+r2.length) 1)
 (let x3:=(([(aa .u8 (a0.1))]:List Int)++r2)
 match j0 N a0 x3 with
 | some r8=>(some r8.2.1)
 | none=>none))
 | none=>none)
 else
 (bif (eqi a0.1 (2:Int))then
 (match J5 N ([a0.2.1]:List (List UInt8))with
 | some r9=>(gd (fits (1+r9.length) 1)
 (let x10:=(([(aa .u8 (a0.1))]:List Int)++r9)
 match j0 N a0 x10 with
 | some r11=>(some r11.2.1)
 | none=>none))
 | none=>none)
 else
 (bif (eqi a0.1 (3:Int))then
 (let x12:=([a0.2.2.2.1.1,a0.2.2.2.1.2]:List (List UInt8))
 match J5 N x12 with
 | some r13=>(gd (fits (1+r13.length) 1)
 (let x14:=(([(aa .u8 (a0.1))]:List Int)++r13)
 match j0 N a0 x14 with
 | some r15=>(some r15.2.1)
 | none=>none))
 | none=>none)
 else
 (bif (eqi a0.1 (6:Int))then
 (let x16:=([a0.2.2.2.1.1,a0.2.2.2.1.2]:List (List UInt8))
 match J5 N x16 with
 | some r17=>(gd (fits (1+r17.length) 1)
 (let x18:=(([(aa .u8 (a0.1))]:List Int)++r17)
 match j0 N a0 x18 with
 | some r19=>(some r19.2.1)
 | none=>none))
 | none=>none)
 else
 (let x20:=([a0.2.2.2.2.1,a0.2.2.2.2.2.1]:List (List UInt8))
 match J5 N x20 with
 | some r21=>(gd (fits (1+r21.length) 1)
 (let x22:=(([(aa .u8 (a0.1))]:List Int)++r21)
 match j0 N a0 x22 with
 | some r23=>(some r23.2.1)
 | none=>none))
 | none=>none))))))
 | none=>none
def J3(N:Nat)(rec:Int->Int->Z6->(List Int)->zvt->Option (((Unit×(Unit×Int))×(Z6×((List Int)×Unit)))))(b0 b1:Int)(b2:Z6)(b3:(List Int))(b4:zvt):Option (((Unit×(Unit×Int))×(Z6×((List Int)×Unit)))):=
 bif (decide (b1<(4:Int)))then
 (bif (eqi b1 (3:Int))then
 (match V9 N b4.2.2.2 (8:Int)with
 | some r20=>(gd (fits (b3.length+r20.length) 1)
 (let x21:=(b3++r20)
 rec b0 (aa .i64 (b1+(1:Int))) b2 x21 b4))
 | none=>none)
 else
 (bif (eqi b1 (2:Int))then
 (match V9 N b4.2.2.1 (8:Int)with
 | some r22=>(gd (fits (b3.length+r22.length) 1)
 (let x23:=(b3++r22)
 rec b0 (aa .i64 (b1+(1:Int))) b2 x23 b4))
 | none=>none)
 else
 (bif (eqi b1 (1:Int))then
 (match V9 N b4.2.1 (8:Int)with
 | some r24=>(gd (fits (b3.length+r24.length) 1)
 (let x25:=(b3++r24)
 rec b0 (aa .i64 (b1+(1:Int))) b2 x25 b4))
 | none=>none)
 else
 (bif (eqi b1 (0:Int))then
 (match V9 N b4.1 (8:Int)with
 | some r26=>(gd (fits (b3.length+r26.length) 1)
 (let x27:=(b3++r26)
 rec b0 (aa .i64 (b1+(1:Int))) b2 x27 b4))
 | none=>none)
 else
 (none)))))
 else
 (some (((),((),b0)),(b2,(b3,()))))
def z1a(N:Nat)(n:Nat):=
 itF (fun _ _ _ _ _=>none) (J3 N) n
theorem z20(N:Nat)(n:Nat):z1a N (n+1)=J3 N (z1a N n):=rfl
def z21(N:Nat)(rec:Int->Z6->(List Int)->Option ((Unit×((List Int)×Unit))))(b0:Int)(b1:Z6)(b2:(List Int)):Option ((Unit×((List Int)×Unit))):=
 let x32:=(decide (b0<(b1.2.2.2.2.length:Int)))
 bif x32 then
 (gd (inB b0 (b1.2.2.2.2.length))
 (match zdz N (rdL b1.2.2.2.2 b0 U8)with
 | some r33=>(gd (fits (b2.length+r33.length) 1)
 (let x34:=(b2++r33)
 rec (aa .i64 (b0+(1:Int))) b1 x34))
 | none=>none))
 else
 (some ((),(b2,())))
def z85(N:Nat)(n:Nat):=
 itF (fun _ _ _=>none) (z21 N) n
theorem zeu(N:Nat)(n:Nat):z85 N (n+1)=z21 N (z85 N n):=rfl
def z24(N:Nat)(rec:Int->Z6->(List Int)->Option y9i)(b0:Int)(b1:Z6)(b2:(List Int)):Option y9i:=
 let x19:=(decide (b0<(b1.2.2.2.1.length:Int)))
 bif x19 then
 (gd (inB b0 (b1.2.2.2.1.length))
 (gd (inB b0 (b1.2.2.2.1.length))
 (gd (inB b0 (b1.2.2.2.1.length))
 (gd (inB b0 (b1.2.2.2.1.length))
 (match z1a N N b0 (0:Int) b1 b2 (((rdL b1.2.2.2.1 b0 z61).1).1,(((rdL b1.2.2.2.1 b0 z61).1).2,((rdL b1.2.2.2.1 b0 z61).2)))with
 | some r28=>(rec (aa .i64 (r28.1.2.2+(1:Int))) r28.2.1 r28.2.2.1)
 | none=>none)))))
 else
 (some (((),()),(b1,(b2,()))))
def z86(N:Nat)(n:Nat):=
 itF (fun _ _ _=>none) (z24 N) n
theorem zev(N:Nat)(n:Nat):z86 N (n+1)=z24 N (z86 N n):=rfl
def z25(N:Nat)(rec:Int->Z6->(List Int)->Option ((Unit×((List Int)×Unit))))(b0:Int)(b1:Z6)(b2:(List Int)):Option ((Unit×((List Int)×Unit))):=
 bif (decide (b0<(b1.1.length:Int)))then
 (gd (inB b0 (b1.1.length))
 (match zd4 N ((rdL b1.1 b0 X5).1)with
 | some r4=>(gd (fits (b2.length+r4.length) 1)
 (let x5:=(b2++r4)
 gd (inB b0 (b1.1.length))
 (match zd4 N (((rdL b1.1 b0 X5).2).1)with
 | some r6=>(gd (fits (x5.length+r6.length) 1)
 (let x7:=(x5++r6)
 gd (inB b0 (b1.1.length))
 (match V9 N (((rdL b1.1 b0 X5).2).2) (4:Int)with
 | some r8=>(gd (fits (x7.length+r8.length) 1)
 (let x9:=(x7++r8)
 rec (aa .i64 (b0+(1:Int))) b1 x9))
 | none=>none)))
 | none=>none)))
 | none=>none))
 else
 (some ((),(b2,())))
def z87(N:Nat)(n:Nat):=
 itF (fun _ _ _=>none) (z25 N) n
theorem zew(N:Nat)(n:Nat):z87 N (n+1)=z25 N (z87 N n):=rfl
def z26(N:Nat)(rec:Int->Z6->(List Int)->Option y9i)(b0:Int)(b1:Z6)(b2:(List Int)):Option y9i:=
 bif (decide (b0<(b1.2.1.length:Int)))then
 (gd (inB b0 (b1.2.1.length))
 (match zd4 N (rdL b1.2.1 b0 ([]:List UInt8))with
 | some r16=>(gd (fits (b2.length+r16.length) 1)
 (let x17:=(b2++r16)
 rec (aa .i64 (b0+(1:Int))) b1 x17))
 | none=>none))
 else
 (some (((),()),(b1,(b2,()))))
def z88(N:Nat)(n:Nat):=
 itF (fun _ _ _=>none) (z26 N) n
theorem zex(N:Nat)(n:Nat):z88 N (n+1)=z26 N (z88 N n):=rfl
def z27(N:Nat)(rec:Int->Z6->(List Int)->Option y9i)(b0:Int)(b1:Z6)(b2:(List Int)):Option y9i:=
 bif (decide (b0<(b1.2.2.1.length:Int)))then
 (gd (inB b0 (b1.2.2.1.length))
 (match V9 N (rdL b1.2.2.1 b0 (0:Int)) (4:Int)with
 | some r13=>(gd (fits (b2.length+r13.length) 1)
 (let x14:=(b2++r13)
 rec (aa .i64 (b0+(1:Int))) b1 x14))
 | none=>none))
 else
 (some (((),()),(b1,(b2,()))))
def z89(N:Nat)(n:Nat):=
 itF (fun _ _ _=>none) (z27 N) n
theorem zey(N:Nat)(n:Nat):z89 N (n+1)=z27 N (z89 N n):=rfl
def z57(N:Nat)(a0:Z6):Option ((List Int)):=
 match zil N a0 (([]:List UInt8),([]:List UInt8))with
 | some r1=>(bif (!r1)then
 (some ([]:List Int))
 else
 (bif (eqi (a0.2.2.1.length:Int) (0:Int))then
 (match V9 N (a0.1.length:Int) (4:Int)with
 | some r2=>(gd (fits (1+r2.length) 1)
 (let x3:=(([(76:Int)]:List Int)++r2)
 match z87 N N (0:Int) a0 x3 with
 | some r10=>(some r10.2.1)
 | none=>none))
 | none=>none)
 else
 (match V9 N (a0.2.2.1.length:Int) (4:Int)with
 | some r11=>(gd (fits (1+r11.length) 1)
 (let x12:=(([(78:Int)]:List Int)++r11)
 match z89 N N (0:Int) a0 x12 with
 | some r15=>(match z88 N N (0:Int) r15.2.1 r15.2.2.1 with
 | some r18=>(match z86 N N (0:Int) r18.2.1 r18.2.2.1 with
 | some r29=>(match V9 N (r29.2.1.2.2.2.2.length:Int) (4:Int)with
 | some r30=>(gd (fits (r29.2.2.1.length+r30.length) 1)
 (let x31:=(r29.2.2.1++r30)
 match z85 N N (0:Int) r29.2.1 x31 with
 | some r35=>(some r35.2.1)
 | none=>none))
 | none=>none)
 | none=>none)
 | none=>none)
 | none=>none))
 | none=>none)))
 | none=>none
def z1z(N:Nat)(rec:(List Int)->Int->Int->Option ((Int×Unit)))(b0:(List Int))(b1 b2:Int):Option ((Int×Unit)):=
 bif (decide (b2<(b0.length:Int)))then
 (gd (inB b2 (b0.length))
 (let x1:=(aa .u64 (((BitVec.ofInt (bj .u64) b1^^^BitVec.ofInt (bj .u64) (aa .u64 ((rdL b0 b2 (0:Int))))).toNat:Int)))
 let x2:=(aa .u64 (x1*(1099511628211:Int)))
 rec b0 x2 (aa .i64 (b2+(1:Int)))))
 else
 (some (b1,()))
def z84(N:Nat)(n:Nat):=
 itF (fun _ _ _=>none) (z1z N) n
theorem zet(N:Nat)(n:Nat):z84 N (n+1)=z1z N (z84 N n):=rfl
def z1d(N:Nat)(a0:(List Int)):Option (Int):=
 match z84 N N a0 (14695981039346656037:Int) (0:Int)with
 | some r3=>(some r3.1)
 | none=>none
def zcs(N:Nat)(a0:V2)(a1:Int):Option (Bool):=
 bif (decide ((0:Int)<=a1))then
 (some (decide (a1<(a0.2.1.length:Int))))
 else
 (some false)
def z7o(N:Nat)(rec:Int->(List Int)->Int->V2->Option (((List Int)×Unit)))(b0:Int)(b1:(List Int))(b2:Int)(b3:V2):Option (((List Int)×Unit)):=
 bif (decide (b2<(b3.2.2.length:Int)))then
 (gd (inB b2 (b3.2.2.length))
 (bif (!((rdL b3.2.2 b2 z1f).1))then
 (gd (inB b2 (b3.2.2.length))
 (bif (eqi (((rdL b3.2.2 b2 z1f).2).1) b0)then
 (gd (inB b2 (b3.2.2.length))
 (rec b0 (((rdL b3.2.2 b2 z1f).2).2) (aa .i64 (b2+(1:Int))) b3))
 else
 (rec b0 b1 (aa .i64 (b2+(1:Int))) b3)))
 else
 (rec b0 b1 (aa .i64 (b2+(1:Int))) b3)))
 else
 (some (b1,()))
def z6j(N:Nat)(n:Nat):=
 itF (fun _ _ _ _=>none) (z7o N) n
theorem ztw(N:Nat)(n:Nat):z6j N (n+1)=z7o N (z6j N n):=rfl
def zkb(N:Nat)(a0:V2)(a1:Int):Option (((List Int)×Int)):=
 (zcs N a0 a1).bind fun r1=>
 bif (!r1)then
 (some (([]:List Int),(230:Int)))
 else
 (gd (inB a1 (a0.2.1.length))
 ((z6j N N a1 (rdL a0.2.1 a1 ([]:List Int)) (0:Int) a0).bind fun r2=>
 some (r2.1,(0:Int))))
def zlh(N:Nat)(a0:Z5)(a1:Int)(a2:Z6):Option (Bool):=
 let x1:=(decide ((a0.2.2.2.2.2.1.length:Int)<=a1))
 bif x1 then
 (some false)
 else
 (gd (inB a1 (a0.2.2.2.2.2.1.length))
 (let x2:=(decide ((rdL a0.2.2.2.2.2.1 a1 (0:Int))<(0:Int)))
 bif x2 then
 (some false)
 else
 (gd (inB a1 (a0.2.2.2.2.2.1.length))
 ((zkb N a0.1 (rdL a0.2.2.2.2.2.1 a1 (0:Int))).bind fun r3=>
 (z57 N a2).bind fun r4=>
 some (eqs (zms r3.1) (zms r4))))))
def z1q(N:Nat)(rec:Int->Int->V0->Option ((Int×Unit)))(b0 b1:Int)(b2:V0):Option ((Int×Unit)):=
 bif (decide (b1<(b2.1.length:Int)))then
 (gd (inB b1 (b2.1.length))
 (bif (!(rdL b2.1 b1 false))then
 (rec (aa .i64 (b0+(1:Int))) (aa .i64 (b1+(1:Int))) b2)
 else
 (rec b0 (aa .i64 (b1+(1:Int))) b2)))
 else
 (some (b0,()))
def z7y(N:Nat)(n:Nat):=
 itF (fun _ _ _=>none) (z1q N) n
theorem zel(N:Nat)(n:Nat):z7y N (n+1)=z1q N (z7y N n):=rfl
def znv(N:Nat)(a0:V0):Option (Int):=
 (z7y N N (0:Int) (0:Int) a0).bind fun r1=>
 some r1.1
def zrv(N:Nat)(a0:V0):Option (Int):=
 (znv N a0).bind fun r1=>
 some (aa .i64 (r1-a0.2.2))
def z1p(N:Nat)(rec:Int->V0->(List Bool)->Option yp1)(b0:Int)(b1:V0)(b2:(List Bool)):Option yp1:=
 bif (decide (b0<(b2.length:Int)))then
 (gd (inB b0 (b2.length))
 (bif (!(rdL b2 b0 false))then
 (gd (inB b0 (b2.length))
 (some (.inl ((),(((),(b1.2.1,(b1.2.2,(b0,(0:Int))))),((setL b2 b0 true),()))))))
 else
 (rec (aa .i64 (b0+(1:Int))) b1 b2)))
 else
 (some (.inr (((),()),(b1,((),())))))
def z5s(N:Nat)(n:Nat):=
 itF (fun _ _ _=>none) (z1p N) n
theorem zek(N:Nat)(n:Nat):z5s N (n+1)=z1p N (z5s N n):=rfl
def znu(N:Nat)(a0:V0):Option (zjq):=
 gd (fits (0+a0.1.length) 1)
 (let x1:=(([]:List Bool)++a0.1)
 (z5s N N (0:Int) a0 x1).bind fun r2=>
 match r2 with
 | .inl r3=>(some ((r3.2.2.1,(r3.2.1.2.1,r3.2.1.2.2.1)),r3.2.1.2.2.2))
 | .inr r4=>(some (r4.2.1,((0:Int),(250:Int)))))
def ref25_Take(N:Nat)(a0:V0):Option (zjq):=
 (zrv N a0).bind fun r1=>
 bif (decide (r1<(1:Int)))then
 (some (a0,((0:Int),(250:Int))))
 else
 ((znu N a0).bind fun r2=>
 some r2)
def z17(N:Nat)(a0:V2):Option ((Int×((List (List Int))×(List X0)))):=
 gd (fits (0+a0.2.1.length) 24)
 (let x1:=(([]:List (List Int))++a0.2.1)
 gd (fits (0+a0.2.2.length) 40)
 (let x2:=(([]:List X0)++a0.2.2)
 some (a0.1,(x1,x2))))
def ref23_Put(N:Nat)(a0:V2)(a1:Int)(a2:(List Int)):Option ((V2×Int)):=
 (zcs N a0 a1).bind fun r1=>
 bif (!r1)then
 (some (a0,(230:Int)))
 else
 (bif (decide (a0.1<(a2.length:Int)))then
 (some (a0,(230:Int)))
 else
 ((z17 N a0).bind fun r2=>
 gd (fits (0+a2.length) 1)
 (let x3:=(([]:List Int)++a2)
 gd (fits (r2.2.2.length+1) 40)
 (let x4:=(r2.2.2++([(false,(a1,x3))]:List X0))
 some ((r2.1,(r2.2.1,x4)),(0:Int))))))
def z8p(N:Nat)(a0:Z5)(a1:(List Int)):Option ((Z5×Int)):=
 (ref25_Take N a0.2.1).bind fun r1=>
 bif (!(eqi r1.2.2 (0:Int)))then
 (some (a0,(-1:Int)))
 else
 ((ref23_Put N a0.1 r1.2.1 a1).bind fun r2=>
 bif (!(eqi r2.2 (0:Int)))then
 (some (a0,(-1:Int)))
 else
 (some ((r2.1,(r1.1,a0.2.2)),r1.2.1)))
def zcn(N:Nat)(a0:Int)(a1:(List (List Int)))(a2:(List X0))(a3:(List Bool))(a4:(List Int))(a5 a6 a7 a8:Int)(a9 a10 a11 a12:(List Int)):Option (((Ty2_×Int)×((List Int)×((List Int)×Unit)))):=
 (ref25_Take N (a3,(a4,a5))).bind fun r1=>
 bif (!(eqi r1.2.2 (0:Int)))then
 (some (((a0,(a1,(a2,(a3,(a4,(a5,(a6,(a7,(a8,((),((),a9))))))))))),(-1:Int)),(a10,(a11,()))))
 else
 ((ref23_Put N (a0,(a1,a2)) r1.2.1 a12).bind fun r2=>
 bif (!(eqi r2.2 (0:Int)))then
 (some (((a0,(a1,(a2,(a3,(a4,(a5,(a6,(a7,(a8,((),((),a9))))))))))),(-1:Int)),(a10,(a11,()))))
 else
 (some (((r2.1.1,(r2.1.2.1,(r2.1.2.2,(r1.1.1,(r1.1.2.1,(r1.1.2.2,(a6,(a7,(a8,((),((),a9))))))))))),r1.2.1),(a10,(a11,())))))
def z5r(N:Nat)(b0 b1 b2 b3:Int)(b4:(List (List Int)))(b5:(List X0))(b6:(List Bool))(b7:(List Int))(b8 b9 b10 b11:Int)(b12 b13 b14:(List Int))(b15:Z4)(b16:Z5)(b17:(List Int)):Option Ty8_:=
 bif (decide (b0<(b15.1.length:Int)))then
 (gd (fits (b13.length+1) 8)
 (let x16:=(b13++([b1]:List Int))
 gd (fits (b14.length+1) 8)
 (let x17:=(b14++([b2]:List Int))
 some (((),((),((),((),((),b0))))),((b3,(b4,(b5,(b6,(b7,(b8,(b9,(b10,(b11,((),((),b12))))))))))),(x16,(x17,(b15,((),(b16,(b17,())))))))))))
 else
 (some (((),((),((),((),((),b0))))),((b3,(b4,(b5,(b6,(b7,(b8,(b9,(b10,(b11,((),((),b12))))))))))),(b13,(b14,(b15,((),(b16,(b17,())))))))))
def z3u(N:Nat)(b0 b1 b2:Int)(b3:Bool)(b4:Int)(b5:(List (List Int)))(b6:(List X0))(b7:(List Bool))(b8:(List Int))(b9 b10 b11 b12:Int)(b13 b14 b15:(List Int))(b16:Z4)(b17:Z5)(b18:(List Int))(b19:Z7):Option (((Unit×(Unit×(Unit×(Unit×(Unit×(Int×(Int×Int)))))))×(Ty2_×((List Int)×((List Int)×(Z4×(Unit×(Z5×((List Int)×Unit))))))))⊕((Unit×((List Int)×Bool))×(Z5×Unit))):=
 bif b3 then
 (gd (inB b0 (b17.2.2.2.2.2.1.length))
 (gd (inB b0 (b17.2.2.2.2.2.2.1.length))
 (some (.inl (((),((),((),((),((),(b0,((rdL b17.2.2.2.2.2.1 b0 (0:Int)),(rdL b17.2.2.2.2.2.2.1 b0 (0:Int))))))))),((b4,(b5,(b6,(b7,(b8,(b9,(b10,(b11,(b12,((),((),b13))))))))))),(b14,(b15,(b16,((),(b17,(b18,()))))))))))))
 else
 (bif b19.1 then
 (bif (!b19.2.1)then
 ((z57 N b19.2.2.2).bind fun r3=>
 (z1d N r3).bind fun r4=>
 (zlh N b17 b0 b19.2.2.2).bind fun r5=>
 bif r5 then
 (gd (inB b0 (b17.2.2.2.2.2.1.length))
 (let x6:=(decide ((rdL b17.2.2.2.2.2.1 b0 (0:Int))<(0:Int)))
 bif x6 then
 (some (.inr (((),(([]:List Int),false)),(b17,()))))
 else
 (some (.inl (((),((),((),((),((),(b0,((rdL b17.2.2.2.2.2.1 b0 (0:Int)),r4))))))),((b4,(b5,(b6,(b7,(b8,(b9,(b10,(b11,(b12,((),((),b13))))))))))),(b14,(b15,(b16,((),(b17,(b18,()))))))))))))
 else
 ((zcn N b4 b5 b6 b7 b8 b9 b10 b11 b12 b13 b14 b15 r3).bind fun r7=>
 bif (decide (r7.1.2<(0:Int)))then
 (some (.inr (((),(([]:List Int),false)),(b17,()))))
 else
 (some (.inl (((),((),((),((),((),(b0,(r7.1.2,r4))))))),((r7.1.1.1,(r7.1.1.2.1,(r7.1.1.2.2.1,(r7.1.1.2.2.2.1,(r7.1.1.2.2.2.2.1,(r7.1.1.2.2.2.2.2.1,(r7.1.1.2.2.2.2.2.2.1,(r7.1.1.2.2.2.2.2.2.2.1,(r7.1.1.2.2.2.2.2.2.2.2.1,((),((),r7.1.1.2.2.2.2.2.2.2.2.2.2.2))))))))))),(r7.2.1,(r7.2.2.1,(b16,((),(b17,(b18,()))))))))))))
 else
 (some (.inl (((),((),((),((),((),(b0,(b1,b2))))))),((b4,(b5,(b6,(b7,(b8,(b9,(b10,(b11,(b12,((),((),b13))))))))))),(b14,(b15,(b16,((),(b17,(b18,())))))))))))
 else
 (some (.inl (((),((),((),((),((),(b0,(b1,b2))))))),((b4,(b5,(b6,(b7,(b8,(b9,(b10,(b11,(b12,((),((),b13))))))))))),(b14,(b15,(b16,((),(b17,(b18,())))))))))))
def z3v(N:Nat)(b0 b1 b2 b3:Int)(b4:(List (List Int)))(b5:(List X0))(b6:(List Bool))(b7:(List Int))(b8 b9 b10 b11:Int)(b12 b13 b14:(List Int))(b15:Z4)(b16:Z5)(b17:(List Int)):Option Ty8_:=
 let x11:=(decide (b0<(b16.2.2.2.2.2.1.length:Int)))
 bif x11 then
 (gd (inB b0 (b16.2.2.2.2.2.1.length))
 (let x12:=(decide ((0:Int)<=(rdL b16.2.2.2.2.2.1 b0 (0:Int))))
 bif x12 then
 (gd (inB b0 (b16.2.2.2.2.2.1.length))
 (let x13:=(!(eqi (rdL b16.2.2.2.2.2.1 b0 (0:Int)) b1))
 bif x13 then
 (gd (inB b0 (b16.2.2.2.2.2.1.length))
 (let x14:=([(rdL b16.2.2.2.2.2.1 b0 (0:Int))]:List Int)
 gd (fits (b17.length+x14.length) 8)
 (let x15:=(b17++x14)
 (z5r N b0 b1 b2 b3 b4 b5 b6 b7 b8 b9 b10 b11 b12 b13 b14 b15 b16 x15).bind fun r18=>
 some (((),((),((),((),((),r18.1.2.2.2.2.2))))),((r18.2.1.1,(r18.2.1.2.1,(r18.2.1.2.2.1,(r18.2.1.2.2.2.1,(r18.2.1.2.2.2.2.1,(r18.2.1.2.2.2.2.2.1,(r18.2.1.2.2.2.2.2.2.1,(r18.2.1.2.2.2.2.2.2.2.1,(r18.2.1.2.2.2.2.2.2.2.2.1,((),((),r18.2.1.2.2.2.2.2.2.2.2.2.2.2))))))))))),(r18.2.2.1,(r18.2.2.2.1,(r18.2.2.2.2.1,((),(r18.2.2.2.2.2.2.1,(r18.2.2.2.2.2.2.2.1,())))))))))))
 else
 ((z5r N b0 b1 b2 b3 b4 b5 b6 b7 b8 b9 b10 b11 b12 b13 b14 b15 b16 b17).bind fun r19=>
 some (((),((),((),((),((),r19.1.2.2.2.2.2))))),((r19.2.1.1,(r19.2.1.2.1,(r19.2.1.2.2.1,(r19.2.1.2.2.2.1,(r19.2.1.2.2.2.2.1,(r19.2.1.2.2.2.2.2.1,(r19.2.1.2.2.2.2.2.2.1,(r19.2.1.2.2.2.2.2.2.2.1,(r19.2.1.2.2.2.2.2.2.2.2.1,((),((),r19.2.1.2.2.2.2.2.2.2.2.2.2.2))))))))))),(r19.2.2.1,(r19.2.2.2.1,(r19.2.2.2.2.1,((),(r19.2.2.2.2.2.2.1,(r19.2.2.2.2.2.2.2.1,())))))))))))
 else
 ((z5r N b0 b1 b2 b3 b4 b5 b6 b7 b8 b9 b10 b11 b12 b13 b14 b15 b16 b17).bind fun r20=>
 some (((),((),((),((),((),r20.1.2.2.2.2.2))))),((r20.2.1.1,(r20.2.1.2.1,(r20.2.1.2.2.1,(r20.2.1.2.2.2.1,(r20.2.1.2.2.2.2.1,(r20.2.1.2.2.2.2.2.1,(r20.2.1.2.2.2.2.2.2.1,(r20.2.1.2.2.2.2.2.2.2.1,(r20.2.1.2.2.2.2.2.2.2.2.1,((),((),r20.2.1.2.2.2.2.2.2.2.2.2.2.2))))))))))),(r20.2.2.1,(r20.2.2.2.1,(r20.2.2.2.2.1,((),(r20.2.2.2.2.2.2.1,(r20.2.2.2.2.2.2.2.1,())))))))))))
 else
 ((z5r N b0 b1 b2 b3 b4 b5 b6 b7 b8 b9 b10 b11 b12 b13 b14 b15 b16 b17).bind fun r21=>
 some (((),((),((),((),((),r21.1.2.2.2.2.2))))),((r21.2.1.1,(r21.2.1.2.1,(r21.2.1.2.2.1,(r21.2.1.2.2.2.1,(r21.2.1.2.2.2.2.1,(r21.2.1.2.2.2.2.2.1,(r21.2.1.2.2.2.2.2.2.1,(r21.2.1.2.2.2.2.2.2.2.1,(r21.2.1.2.2.2.2.2.2.2.2.1,((),((),r21.2.1.2.2.2.2.2.2.2.2.2.2.2))))))))))),(r21.2.2.1,(r21.2.2.2.1,(r21.2.2.2.2.1,((),(r21.2.2.2.2.2.2.1,(r21.2.2.2.2.2.2.2.1,())))))))))
def z3w(N:Nat)(b0 b1:Int)(b2:(List (List Int)))(b3:(List X0))(b4:(List Bool))(b5:(List Int))(b6 b7 b8 b9:Int)(b10 b11 b12:(List Int))(b13:Z4)(b14:Z5)(b15:(List Int)):Option Ty8_:=
 some (((),((),((),((),((),(aa .i64 (b0+(1:Int)))))))),((b1,(b2,(b3,(b4,(b5,(b6,(b7,(b8,(b9,((),((),b10))))))))))),(b11,(b12,(b13,((),(b14,(b15,()))))))))
def z1o(N:Nat)(rec:Int->Int->(List (List Int))->(List X0)->(List Bool)->(List Int)->Int->Int->Int->Int->(List Int)->(List Int)->(List Int)->Z4->Z5->(List Int)->Option yp4)(b0 b1:Int)(b2:(List (List Int)))(b3:(List X0))(b4:(List Bool))(b5:(List Int))(b6 b7 b8 b9:Int)(b10 b11 b12:(List Int))(b13:Z4)(b14:Z5)(b15:(List Int)):Option yp4:=
 let x1:=(bif decide ((b13.1.length:Int)<(b14.2.2.2.2.2.1.length:Int))then(b14.2.2.2.2.2.1.length:Int)else(b13.1.length:Int))
 bif (decide (b0<x1))then
 (bif (decide (b0<(b13.1.length:Int)))then
 (gd (inB b0 (b13.1.length))
 (bif (rdL b13.1 b0 X3).1 then
 (bif ((rdL b13.1 b0 X3).2).1 then
 (let x2:=(decide (b0<(b14.2.2.2.2.2.1.length:Int)))
 (z3u N b0 (-1:Int) (0:Int) x2 b1 b2 b3 b4 b5 b6 b7 b8 b9 b10 b11 b12 b13 b14 b15 (rdL b13.1 b0 X3)).bind fun r8=>
 match r8 with
 | .inl r9=>((z3v N r9.1.2.2.2.2.2.1 r9.1.2.2.2.2.2.2.1 r9.1.2.2.2.2.2.2.2 r9.2.1.1 r9.2.1.2.1 r9.2.1.2.2.1 r9.2.1.2.2.2.1 r9.2.1.2.2.2.2.1 r9.2.1.2.2.2.2.2.1 r9.2.1.2.2.2.2.2.2.1 r9.2.1.2.2.2.2.2.2.2.1 r9.2.1.2.2.2.2.2.2.2.2.1 r9.2.1.2.2.2.2.2.2.2.2.2.2.2 r9.2.2.1 r9.2.2.2.1 r9.2.2.2.2.1 r9.2.2.2.2.2.2.1 r9.2.2.2.2.2.2.2.1).bind fun r22=>
 (z3w N r22.1.2.2.2.2.2 r22.2.1.1 r22.2.1.2.1 r22.2.1.2.2.1 r22.2.1.2.2.2.1 r22.2.1.2.2.2.2.1 r22.2.1.2.2.2.2.2.1 r22.2.1.2.2.2.2.2.2.1 r22.2.1.2.2.2.2.2.2.2.1 r22.2.1.2.2.2.2.2.2.2.2.1 r22.2.1.2.2.2.2.2.2.2.2.2.2.2 r22.2.2.1 r22.2.2.2.1 r22.2.2.2.2.1 r22.2.2.2.2.2.2.1 r22.2.2.2.2.2.2.2.1).bind fun r23=>
 rec r23.1.2.2.2.2.2 r23.2.1.1 r23.2.1.2.1 r23.2.1.2.2.1 r23.2.1.2.2.2.1 r23.2.1.2.2.2.2.1 r23.2.1.2.2.2.2.2.1 r23.2.1.2.2.2.2.2.2.1 r23.2.1.2.2.2.2.2.2.2.1 r23.2.1.2.2.2.2.2.2.2.2.1 r23.2.1.2.2.2.2.2.2.2.2.2.2.2 r23.2.2.1 r23.2.2.2.1 r23.2.2.2.2.1 r23.2.2.2.2.2.2.1 r23.2.2.2.2.2.2.2.1)
 | .inr r10=>(some (.inl (((),(r10.1.2.1,r10.1.2.2)),(r10.2.1,())))))
 else
 ((z3u N b0 (-1:Int) (0:Int) false b1 b2 b3 b4 b5 b6 b7 b8 b9 b10 b11 b12 b13 b14 b15 (rdL b13.1 b0 X3)).bind fun r24=>
 match r24 with
 | .inl r25=>((z3v N r25.1.2.2.2.2.2.1 r25.1.2.2.2.2.2.2.1 r25.1.2.2.2.2.2.2.2 r25.2.1.1 r25.2.1.2.1 r25.2.1.2.2.1 r25.2.1.2.2.2.1 r25.2.1.2.2.2.2.1 r25.2.1.2.2.2.2.2.1 r25.2.1.2.2.2.2.2.2.1 r25.2.1.2.2.2.2.2.2.2.1 r25.2.1.2.2.2.2.2.2.2.2.1 r25.2.1.2.2.2.2.2.2.2.2.2.2.2 r25.2.2.1 r25.2.2.2.1 r25.2.2.2.2.1 r25.2.2.2.2.2.2.1 r25.2.2.2.2.2.2.2.1).bind fun r27=>
 (z3w N r27.1.2.2.2.2.2 r27.2.1.1 r27.2.1.2.1 r27.2.1.2.2.1 r27.2.1.2.2.2.1 r27.2.1.2.2.2.2.1 r27.2.1.2.2.2.2.2.1 r27.2.1.2.2.2.2.2.2.1 r27.2.1.2.2.2.2.2.2.2.1 r27.2.1.2.2.2.2.2.2.2.2.1 r27.2.1.2.2.2.2.2.2.2.2.2.2.2 r27.2.2.1 r27.2.2.2.1 r27.2.2.2.2.1 r27.2.2.2.2.2.2.1 r27.2.2.2.2.2.2.2.1).bind fun r28=>
 rec r28.1.2.2.2.2.2 r28.2.1.1 r28.2.1.2.1 r28.2.1.2.2.1 r28.2.1.2.2.2.1 r28.2.1.2.2.2.2.1 r28.2.1.2.2.2.2.2.1 r28.2.1.2.2.2.2.2.2.1 r28.2.1.2.2.2.2.2.2.2.1 r28.2.1.2.2.2.2.2.2.2.2.1 r28.2.1.2.2.2.2.2.2.2.2.2.2.2 r28.2.2.1 r28.2.2.2.1 r28.2.2.2.2.1 r28.2.2.2.2.2.2.1 r28.2.2.2.2.2.2.2.1)
 | .inr r26=>(some (.inl (((),(r26.1.2.1,r26.1.2.2)),(r26.2.1,()))))))
 else
 ((z3u N b0 (-1:Int) (0:Int) false b1 b2 b3 b4 b5 b6 b7 b8 b9 b10 b11 b12 b13 b14 b15 (rdL b13.1 b0 X3)).bind fun r29=>
 match r29 with
 | .inl r30=>((z3v N r30.1.2.2.2.2.2.1 r30.1.2.2.2.2.2.2.1 r30.1.2.2.2.2.2.2.2 r30.2.1.1 r30.2.1.2.1 r30.2.1.2.2.1 r30.2.1.2.2.2.1 r30.2.1.2.2.2.2.1 r30.2.1.2.2.2.2.2.1 r30.2.1.2.2.2.2.2.2.1 r30.2.1.2.2.2.2.2.2.2.1 r30.2.1.2.2.2.2.2.2.2.2.1 r30.2.1.2.2.2.2.2.2.2.2.2.2.2 r30.2.2.1 r30.2.2.2.1 r30.2.2.2.2.1 r30.2.2.2.2.2.2.1 r30.2.2.2.2.2.2.2.1).bind fun r32=>
 (z3w N r32.1.2.2.2.2.2 r32.2.1.1 r32.2.1.2.1 r32.2.1.2.2.1 r32.2.1.2.2.2.1 r32.2.1.2.2.2.2.1 r32.2.1.2.2.2.2.2.1 r32.2.1.2.2.2.2.2.2.1 r32.2.1.2.2.2.2.2.2.2.1 r32.2.1.2.2.2.2.2.2.2.2.1 r32.2.1.2.2.2.2.2.2.2.2.2.2.2 r32.2.2.1 r32.2.2.2.1 r32.2.2.2.2.1 r32.2.2.2.2.2.2.1 r32.2.2.2.2.2.2.2.1).bind fun r33=>
 rec r33.1.2.2.2.2.2 r33.2.1.1 r33.2.1.2.1 r33.2.1.2.2.1 r33.2.1.2.2.2.1 r33.2.1.2.2.2.2.1 r33.2.1.2.2.2.2.2.1 r33.2.1.2.2.2.2.2.2.1 r33.2.1.2.2.2.2.2.2.2.1 r33.2.1.2.2.2.2.2.2.2.2.1 r33.2.1.2.2.2.2.2.2.2.2.2.2.2 r33.2.2.1 r33.2.2.2.1 r33.2.2.2.2.1 r33.2.2.2.2.2.2.1 r33.2.2.2.2.2.2.2.1)
 | .inr r31=>(some (.inl (((),(r31.1.2.1,r31.1.2.2)),(r31.2.1,())))))))
 else
 ((z3u N b0 (-1:Int) (0:Int) false b1 b2 b3 b4 b5 b6 b7 b8 b9 b10 b11 b12 b13 b14 b15 (false,(false,((0:Int),(([]:List Z3),(([]:List (List UInt8)),(([]:List Int),(([]:List Y6),([]:List Z1))))))))).bind fun r34=>
 match r34 with
 | .inl r35=>((z3v N r35.1.2.2.2.2.2.1 r35.1.2.2.2.2.2.2.1 r35.1.2.2.2.2.2.2.2 r35.2.1.1 r35.2.1.2.1 r35.2.1.2.2.1 r35.2.1.2.2.2.1 r35.2.1.2.2.2.2.1 r35.2.1.2.2.2.2.2.1 r35.2.1.2.2.2.2.2.2.1 r35.2.1.2.2.2.2.2.2.2.1 r35.2.1.2.2.2.2.2.2.2.2.1 r35.2.1.2.2.2.2.2.2.2.2.2.2.2 r35.2.2.1 r35.2.2.2.1 r35.2.2.2.2.1 r35.2.2.2.2.2.2.1 r35.2.2.2.2.2.2.2.1).bind fun r37=>
 (z3w N r37.1.2.2.2.2.2 r37.2.1.1 r37.2.1.2.1 r37.2.1.2.2.1 r37.2.1.2.2.2.1 r37.2.1.2.2.2.2.1 r37.2.1.2.2.2.2.2.1 r37.2.1.2.2.2.2.2.2.1 r37.2.1.2.2.2.2.2.2.2.1 r37.2.1.2.2.2.2.2.2.2.2.1 r37.2.1.2.2.2.2.2.2.2.2.2.2.2 r37.2.2.1 r37.2.2.2.1 r37.2.2.2.2.1 r37.2.2.2.2.2.2.1 r37.2.2.2.2.2.2.2.1).bind fun r38=>
 rec r38.1.2.2.2.2.2 r38.2.1.1 r38.2.1.2.1 r38.2.1.2.2.1 r38.2.1.2.2.2.1 r38.2.1.2.2.2.2.1 r38.2.1.2.2.2.2.2.1 r38.2.1.2.2.2.2.2.2.1 r38.2.1.2.2.2.2.2.2.2.1 r38.2.1.2.2.2.2.2.2.2.2.1 r38.2.1.2.2.2.2.2.2.2.2.2.2.2 r38.2.2.1 r38.2.2.2.1 r38.2.2.2.2.1 r38.2.2.2.2.2.2.1 r38.2.2.2.2.2.2.2.1)
 | .inr r36=>(some (.inl (((),(r36.1.2.1,r36.1.2.2)),(r36.2.1,()))))))
 else
 (some (.inr (((),((),())),((b1,(b2,(b3,(b4,(b5,(b6,(b7,(b8,(b9,((),((),b10))))))))))),(b11,(b12,((),(b15,()))))))))
def z18(N:Nat)(n:Nat):=
 itF (fun _ _ _ _ _ _ _ _ _ _ _ _ _ _ _ _=>none) (z1o N) n
theorem zej(N:Nat)(n:Nat):z18 N (n+1)=z1o N (z18 N n):=rfl
def zdu(N:Nat)(a0:Z5)(a1:Z4):Option ((Z5×((List Int)×Bool))):=
 (z18 N N (0:Int) a0.1.1 a0.1.2.1 a0.1.2.2 a0.2.1.1 a0.2.1.2.1 a0.2.1.2.2 a0.2.2.1 a0.2.2.2.1 a0.2.2.2.2.1 a0.2.2.2.2.2.2.2 ([]:List Int) ([]:List Int) a1 a0 ([]:List Int)).bind fun r39=>
 match r39 with
 | .inl r40=>(some (r40.2.1,(r40.1.2.1,r40.1.2.2)))
 | .inr r41=>(some (((r41.2.1.1,(r41.2.1.2.1,r41.2.1.2.2.1)),((r41.2.1.2.2.2.1,(r41.2.1.2.2.2.2.1,r41.2.1.2.2.2.2.2.1)),(r41.2.1.2.2.2.2.2.2.1,(r41.2.1.2.2.2.2.2.2.2.1,(r41.2.1.2.2.2.2.2.2.2.2.1,(r41.2.2.1,(r41.2.2.2.1,r41.2.1.2.2.2.2.2.2.2.2.2.2.2))))))),(r41.2.2.2.2.2.1,true)))
def z0k(N:Nat)(rec:Int->Int->(List Int)->Option ((Unit×((List Int)×Unit))))(b0 b1:Int)(b2:(List Int)):Option ((Unit×((List Int)×Unit))):=
 bif (decide ((0:Int)<=b1))then
 (gd (decide (0<=(aa .i64 ((8:Int)*b1))))
 (let x1:=(dW b0 (2^min (cK (aa .i64 ((8:Int)*b1))) (bj .u64)))
 gd (fits (b2.length+1) 1)
 (let x2:=(b2++([(aa .u8 (x1))]:List Int))
 rec b0 (aa .i64 (b1-(1:Int))) x2)))
 else
 (some ((),(b2,())))
def z6q(N:Nat)(n:Nat):=
 itF (fun _ _ _=>none) (z0k N) n
theorem zco(N:Nat)(n:Nat):z6q N (n+1)=z0k N (z6q N n):=rfl
def z2w(N:Nat)(a0 a1:Int):Option ((List Int)):=
 (z6q N N a0 (aa .i64 (a1-(1:Int))) ([]:List Int)).bind fun r3=>
 some r3.2.1
def w9(N:Nat)(a0 a1:Int):Option ((List Int)):=
 (z2w N (aa .u64 (a0)) a1).bind fun r1=>
 some r1
def z38(N:Nat)(rec:(List (List Int))->Int->(List Int)->Option ((Unit×((List Int)×Unit))))(b0:(List (List Int)))(b1:Int)(b2:(List Int)):Option ((Unit×((List Int)×Unit))):=
 bif (decide (b1<(b0.length:Int)))then
 (gd (inB b1 (b0.length))
 (gd (fits (b2.length+aq (rdL b0 b1 ([]:List Int))) 1)
 (let x1:=(b2++(rdL b0 b1 ([]:List Int)))
 rec b0 (aa .i64 (b1+(1:Int))) x1)))
 else
 (some ((),(b2,())))
def z9y(N:Nat)(n:Nat):=
 itF (fun _ _ _=>none) (z38 N) n
theorem zg9(N:Nat)(n:Nat):z9y N (n+1)=z38 N (z9y N n):=rfl
def z6s(N:Nat)(a0:(List (List Int))):Option ((List Int)):=
 (z9y N N a0 (0:Int) ([]:List Int)).bind fun r2=>
 some r2.2.1
def W3(N:Nat)(a0 a1:Int):Option ((List Int)):=
 (z2w N (aa .u64 (a0)) a1).bind fun r1=>
 some r1
def z0l(N:Nat)(rec:(List Z1)->Int->(List Int)->Option ((Unit×((List Int)×Unit))))(b0:(List Z1))(b1:Int)(b2:(List Int)):Option ((Unit×((List Int)×Unit))):=
 bif (decide (b1<(b0.length:Int)))then
 (gd (inB b1 (b0.length))
 ((zdz N (rdL b0 b1 U8)).bind fun r2=>
 gd (fits (b2.length+r2.length) 1)
 (let x3:=(b2++r2)
 rec b0 (aa .i64 (b1+(1:Int))) x3)))
 else
 (some ((),(b2,())))
def z6r(N:Nat)(n:Nat):=
 itF (fun _ _ _=>none) (z0l N) n
theorem zcp(N:Nat)(n:Nat):z6r N (n+1)=z0l N (z6r N n):=rfl
def zbr(N:Nat)(a0:(List Z1)):Option ((List Int)):=
 (w9 N (a0.length:Int) (4:Int)).bind fun r1=>
 (z6r N N a0 (0:Int) r1).bind fun r4=>
 some r4.2.1
def u9(N:Nat)(rec:Int->Int->(List Int)->Option ((Unit×((List Int)×Unit))))(b0 b1:Int)(b2:(List Int)):Option ((Unit×((List Int)×Unit))):=
 bif (decide ((0:Int)<=b1))then
 (gd (decide (0<=(aa .i64 ((8:Int)*b1))))
 (let x1:=(dW b0 (2^min (cK (aa .i64 ((8:Int)*b1))) (bj .u64)))
 gd (fits (b2.length+1) 1)
 (let x2:=(b2++([(aa .u8 (x1))]:List Int))
 rec b0 (aa .i64 (b1-(1:Int))) x2)))
 else
 (some ((),(b2,())))
def z4l(N:Nat)(n:Nat):=
 itF (fun _ _ _=>none) (u9 N) n
theorem zbf(N:Nat)(n:Nat):z4l N (n+1)=u9 N (z4l N n):=rfl
def z5q(N:Nat)(a0 a1:Int):Option ((List Int)):=
 (z4l N N a0 (aa .i64 (a1-(1:Int))) ([]:List Int)).bind fun r3=>
 some r3.2.1
def z06(N:Nat)(rec:Int->Z4->Z5->(List Int)->Option ((Unit×((List Int)×Unit))))(b0:Int)(b1:Z4)(b2:Z5)(b3:(List Int)):Option ((Unit×((List Int)×Unit))):=
 bif (decide (b0<(b1.1.length:Int)))then
 (gd (inB b0 (b1.1.length))
 (bif (!((rdL b1.1 b0 X3).1))then
 (gd (fits (b3.length+1) 1)
 (let x21:=(b3++([(0:Int)]:List Int))
 rec (aa .i64 (b0+(1:Int))) b1 b2 x21))
 else
 (bif ((rdL b1.1 b0 X3).2).1 then
 ((W3 N ((((rdL b1.1 b0 X3).2).2).1) (4:Int)).bind fun r22=>
 gd (inB b0 (b2.2.2.2.2.2.1.length))
 (let x23:=(aa .i64 (((BitVec.ofInt (bj .i64) (rdL b2.2.2.2.2.2.1 b0 (0:Int))&&&BitVec.ofInt (bj .i64) (65535:Int)).toNat:Int)))
 (W3 N x23 (2:Int)).bind fun r24=>
 gd (inB b0 (b2.2.2.2.2.2.2.1.length))
 ((z5q N (rdL b2.2.2.2.2.2.2.1 b0 (0:Int)) (8:Int)).bind fun r25=>
 let x26:=([([(2:Int)]:List Int),r22,r24,r25]:List (List Int))
 (z6s N x26).bind fun r27=>
 gd (fits (b3.length+r27.length) 1)
 (let x28:=(b3++r27)
 rec (aa .i64 (b0+(1:Int))) b1 b2 x28))))
 else
 ((W3 N ((((rdL b1.1 b0 X3).2).2).1) (4:Int)).bind fun r29=>
 gd (inB b0 (b2.2.2.2.2.2.1.length))
 (let x30:=(aa .i64 (((BitVec.ofInt (bj .i64) (rdL b2.2.2.2.2.2.1 b0 (0:Int))&&&BitVec.ofInt (bj .i64) (65535:Int)).toNat:Int)))
 (W3 N x30 (2:Int)).bind fun r31=>
 gd (inB b0 (b2.2.2.2.2.2.2.1.length))
 ((z5q N (rdL b2.2.2.2.2.2.2.1 b0 (0:Int)) (8:Int)).bind fun r32=>
 let x33:=([([(1:Int)]:List Int),r29,r31,r32]:List (List Int))
 (z6s N x33).bind fun r34=>
 gd (fits (b3.length+r34.length) 1)
 (let x35:=(b3++r34)
 rec (aa .i64 (b0+(1:Int))) b1 b2 x35)))))))
 else
 (some ((),(b3,())))
def z2y(N:Nat)(n:Nat):=
 itF (fun _ _ _ _=>none) (z06 N) n
theorem zc6(N:Nat)(n:Nat):z2y N (n+1)=z06 N (z2y N n):=rfl
def z07(N:Nat)(rec:Int->Z4->Z5->(List Int)->Option (((Unit×(Unit×Unit))×(Z4×(Z5×((List Int)×Unit))))))(b0:Int)(b1:Z4)(b2:Z5)(b3:(List Int)):Option (((Unit×(Unit×Unit))×(Z4×(Z5×((List Int)×Unit))))):=
 bif (decide (b0<(b1.2.2.1.length:Int)))then
 (gd (inB b0 (b1.2.2.1.length))
 ((W3 N ((rdL b1.2.2.1 b0 X1).1) (4:Int)).bind fun r8=>
 (W3 N (((rdL b1.2.2.1 b0 X1).2).1) (4:Int)).bind fun r9=>
 (W3 N ((((rdL b1.2.2.1 b0 X1).2).2).1) (2:Int)).bind fun r10=>
 let x11:=(aq (((((rdL b1.2.2.1 b0 X1).2).2).2).1):Int)
 (W3 N x11 (1:Int)).bind fun r12=>
 gd (decide (aq (((((rdL b1.2.2.1 b0 X1).2).2).2).1)<maxB))
 (let x13:=(k8 (((((rdL b1.2.2.1 b0 X1).2).2).2).1))
 (zbr N (((((rdL b1.2.2.1 b0 X1).2).2).2).2)).bind fun r14=>
 let x15:=([r8,r9,r10,r12,x13,r14]:List (List Int))
 (z6s N x15).bind fun r16=>
 gd (fits (b3.length+r16.length) 1)
 (let x17:=(b3++r16)
 rec (aa .i64 (b0+(1:Int))) b1 b2 x17))))
 else
 (some (((),((),())),(b1,(b2,(b3,())))))
def z5j(N:Nat)(n:Nat):=
 itF (fun _ _ _ _=>none) (z07 N) n
theorem zc7(N:Nat)(n:Nat):z5j N (n+1)=z07 N (z5j N n):=rfl
def zcr(N:Nat)(a0:Z4)(a1:Z5):Option ((List Int)):=
 let x1:=([(67:Int),(aa .u8 (a0.2.1.1)),(aa .u8 (a0.2.1.2.1)),(aa .u8 (a0.2.1.2.2))]:List Int)
 (W3 N a0.2.2.2.1 (4:Int)).bind fun r2=>
 (W3 N a0.2.2.2.2.2.1 (4:Int)).bind fun r3=>
 (W3 N a0.2.2.2.2.1 (2:Int)).bind fun r4=>
 (zbr N a0.2.2.2.2.2.2).bind fun r5=>
 (W3 N (a0.2.2.1.length:Int) (1:Int)).bind fun r6=>
 (z6s N ([x1,r2,r3,r4,r5,r6]:List (List Int))).bind fun r7=>
 (z5j N N (0:Int) a0 a1 r7).bind fun r18=>
 (W3 N (r18.2.1.1.length:Int) (2:Int)).bind fun r19=>
 gd (fits (r18.2.2.2.1.length+r19.length) 1)
 (let x20:=(r18.2.2.2.1++r19)
 (z2y N N (0:Int) r18.2.1 r18.2.2.1 x20).bind fun r36=>
 some r36.2.1)
def z4b(N:Nat)(rec:(List Int)->Int->(List (List Int))->Option ((((List Int)×Unit)×((List (List Int))×Unit))))(b0:(List Int))(b1:Int)(b2:(List (List Int))):Option ((((List Int)×Unit)×((List (List Int))×Unit))):=
 bif (decide (b1<(b0.length:Int)))then
 (gd (decide (0<=(0:Int))&&(decide ((0:Int)<=b1)&&decide (b1<=(b0.length:Int))))
 (gd (fits (b2.length+1) 24)
 (let x1:=(b2++([(cut2 b0 (0:Int) b1)]:List (List Int)))
 gd (decide (0<=b1)&&(decide (b1<=(b0.length:Int))&&decide ((b0.length:Int)<=(b0.length:Int))))
 (rec (cut2 b0 b1 (b0.length:Int)) b1 x1))))
 else
 (some ((b0,()),(b2,())))
def z6t(N:Nat)(n:Nat):=
 itF (fun _ _ _=>none) (z4b N) n
theorem zmo(N:Nat)(n:Nat):z6t N (n+1)=z4b N (z6t N n):=rfl
def zfm(N:Nat)(a0:(List Int))(a1:Int):Option ((List (List Int))):=
 (z6t N N a0 a1 ([]:List (List Int))).bind fun r2=>
 gd (fits (r2.2.1.length+1) 24)
 (let x3:=(r2.2.1++([r2.1.1]:List (List Int)))
 some x3)
def z8q(N:Nat)(a0:V2):Option (V2):=
 (z17 N a0).bind fun r1=>
 let x2:=([(true,((0:Int),([]:List Int)))]:List X0)
 gd (fits (r1.2.2.length+x2.length) 40)
 (let x3:=(r1.2.2++x2)
 some (r1.1,(r1.2.1,x3)))
def z05(N:Nat)(rec:(List Int)->Int->(List Int)->Option ((Unit×((List Int)×Unit))))(b0:(List Int))(b1:Int)(b2:(List Int)):Option ((Unit×((List Int)×Unit))):=
 bif (decide (b1<(b0.length:Int)))then
 (gd (inB b1 (b0.length))
 ((w9 N (rdL b0 b1 (0:Int)) (2:Int)).bind fun r8=>
 gd (fits (b2.length+r8.length) 1)
 (let x9:=(b2++r8)
 rec b0 (aa .i64 (b1+(1:Int))) x9)))
 else
 (some ((),(b2,())))
def z5i(N:Nat)(n:Nat):=
 itF (fun _ _ _=>none) (z05 N) n
theorem zc5(N:Nat)(n:Nat):z5i N (n+1)=z05 N (z5i N n):=rfl
def zcq(N:Nat)(a0:Int)(a1 a2:(List Int)):Option ((List Int)):=
 (w9 N a0 (4:Int)).bind fun r1=>
 (w9 N (a1.length:Int) (4:Int)).bind fun r2=>
 (z1d N a1).bind fun r3=>
 (z2w N r3 (8:Int)).bind fun r4=>
 (w9 N (a2.length:Int) (2:Int)).bind fun r5=>
 let x6:=([([(83:Int)]:List Int),r1,r2,r4,r5]:List (List Int))
 (z6s N x6).bind fun r7=>
 (z5i N N a2 (0:Int) r7).bind fun r10=>
 (z1d N r10.2.1).bind fun r11=>
 (z2w N r11 (8:Int)).bind fun r12=>
 gd (fits (r10.2.1.length+r12.length) 1)
 (let x13:=(r10.2.1++r12)
 some x13)
def zbl(N:Nat)(rec:(List Int)->Int->Int->Option Ty3_)(b0:(List Int))(b1 b2:Int):Option Ty3_:=
 bif (decide (b2<(b0.length:Int)))then
 (gd (inB b2 (b0.length))
 (bif (eqi (rdL b0 b2 (0:Int)) b1)then
 (some (.inl (true,())))
 else
 (rec b0 b1 (aa .i64 (b2+(1:Int))))))
 else
 (some (.inr ((),())))
def zfn(N:Nat)(n:Nat):=
 itF (fun _ _ _=>none) (zbl N) n
theorem yeq(N:Nat)(n:Nat):zfn N (n+1)=zbl N (zfn N n):=rfl
def y6f(N:Nat)(a0:(List Int))(a1:Int):Option (Bool):=
 (zfn N N a0 a1 (0:Int)).bind fun r1=>
 match r1 with
 | .inl r2=>(some r2.1)
 | .inr r3=>(some false)
def z9z(N:Nat)(b0:Int)(b1:Bool)(b2:V0):Option (((Unit×Int)×(V0×Unit))⊕((Int×(Unit×Unit))×(V0×(Unit×Unit)))):=
 bif b1 then
 (some (.inl (((),(230:Int)),(b2,()))))
 else
 (some (.inr ((b0,((),())),(b2,((),())))))
def za0(N:Nat)(b0:Int)(b1:V0):Option (((Unit×Int)×(((List Bool)×(Unit×Int))×((List Int)×Unit)))):=
 gd (fits (0+b1.2.1.length) 8)
 (let x4:=(([]:List Int)++b1.2.1)
 gd (fits (x4.length+1) 8)
 (let x5:=(x4++([b0]:List Int))
 some (((),(0:Int)),((b1.1,((),b1.2.2)),(x5,())))))
def y24(N:Nat)(a0:V0)(a1:Int):Option ((V0×Int)):=
 bif (decide (a1<(0:Int)))then
 ((z9z N a1 true a0).bind fun r1=>
 match r1 with
 | .inl r2=>(some (r2.2.1,r2.1.2))
 | .inr r3=>((za0 N r3.1.1 r3.2.1).bind fun r6=>
 some ((r6.2.1.1,(r6.2.2.1,r6.2.1.2.2)),r6.1.2)))
 else
 (bif (decide ((a0.1.length:Int)<=a1))then
 ((z9z N a1 true a0).bind fun r7=>
 match r7 with
 | .inl r8=>(some (r8.2.1,r8.1.2))
 | .inr r9=>((za0 N r9.1.1 r9.2.1).bind fun r10=>
 some ((r10.2.1.1,(r10.2.2.1,r10.2.1.2.2)),r10.1.2)))
 else
 (gd (inB a1 (a0.1.length))
 (bif (!(rdL a0.1 a1 false))then
 ((z9z N a1 true a0).bind fun r11=>
 match r11 with
 | .inl r12=>(some (r12.2.1,r12.1.2))
 | .inr r13=>((za0 N r13.1.1 r13.2.1).bind fun r14=>
 some ((r14.2.1.1,(r14.2.2.1,r14.2.1.2.2)),r14.1.2)))
 else
 ((y6f N a0.2.1 a1).bind fun r15=>
 (z9z N a1 r15 a0).bind fun r16=>
 match r16 with
 | .inl r17=>(some (r17.2.1,r17.1.2))
 | .inr r18=>((za0 N r18.1.1 r18.2.1).bind fun r19=>
 some ((r19.2.1.1,(r19.2.2.1,r19.2.1.2.2)),r19.1.2))))))
def z4c(N:Nat)(rec:Int->V0->(List Bool)->Option (((Unit×(Unit×Unit))×(V0×(Unit×((List Bool)×Unit))))))(b0:Int)(b1:V0)(b2:(List Bool)):Option (((Unit×(Unit×Unit))×(V0×(Unit×((List Bool)×Unit))))):=
 bif (decide (b0<(b1.2.1.length:Int)))then
 (gd (inB b0 (b1.2.1.length))
 (gd (inB (rdL b1.2.1 b0 (0:Int)) (b2.length))
 (rec (aa .i64 (b0+(1:Int))) b1 (setL b2 (rdL b1.2.1 b0 (0:Int)) false))))
 else
 (some (((),((),())),(b1,((),(b2,())))))
def z1g(N:Nat)(n:Nat):=
 itF (fun _ _ _=>none) (z4c N) n
theorem zmp(N:Nat)(n:Nat):z1g N (n+1)=z4c N (z1g N n):=rfl
def zbt(N:Nat)(a0:V0):Option (V0):=
 gd (fits (0+a0.1.length) 1)
 (let x1:=(([]:List Bool)++a0.1)
 (z1g N N (0:Int) a0 x1).bind fun r2=>
 some (r2.2.2.2.1,(([]:List Int),r2.2.1.2.2)))
def z62(N:Nat)(rec:(List Int)->Int->Z5->(List Int)->Option (((Unit×(Unit×(List Int)))×(Z5×(Unit×Unit)))))(b0:(List Int))(b1:Int)(b2:Z5)(b3:(List Int)):Option (((Unit×(Unit×(List Int)))×(Z5×(Unit×Unit)))):=
 bif (decide (b1<(b3.length:Int)))then
 (gd (inB b1 (b3.length))
 ((y24 N b2.2.1 (rdL b3 b1 (0:Int))).bind fun r16=>
 rec b0 (aa .i64 (b1+(1:Int))) (b2.1,(r16.1,b2.2.2)) b3))
 else
 (some (((),((),b0)),(b2,((),()))))
def z5a(N:Nat)(n:Nat):=
 itF (fun _ _ _ _=>none) (z62 N) n
theorem zrm(N:Nat)(n:Nat):z5a N (n+1)=z62 N (z5a N n):=rfl
def z39(N:Nat)(rec:(List Int)->(List Int)->Int->Z5->Z5->(List (List Int))->(List Int)->Option yp5)(b0 b1:(List Int))(b2:Int)(b3 b4:Z5)(b5:(List (List Int)))(b6:(List Int)):Option yp5:=
 bif (decide (b2<(b5.length:Int)))then
 (gd (inB b2 (b5.length))
 ((z8p N b3 (rdL b5 b2 ([]:List Int))).bind fun r4=>
 bif (decide (r4.2<(0:Int)))then
 (some (.inl ((),((b4,(250:Int)),()))))
 else
 (gd (fits (b6.length+1) 8)
 (let x5:=(b6++([r4.2]:List Int))
 rec b0 b1 (aa .i64 (b2+(1:Int))) r4.1 b4 b5 x5))))
 else
 (some (.inr (((),((),((),(b0,(b1,()))))),(b3,((),(b4,(b6,())))))))
def z7b(N:Nat)(n:Nat):=
 itF (fun _ _ _ _ _ _ _=>none) (z39 N) n
theorem zga(N:Nat)(n:Nat):z7b N (n+1)=z39 N (z7b N n):=rfl
def zhi(N:Nat)(a0:Z5)(a1:Z4):Option (zdk):=
 (zdu N a0 a1).bind fun r1=>
 bif (!r1.2.2)then
 (some (a0,(250:Int)))
 else
 ((zcr N a1 r1.1).bind fun r2=>
 (zfm N r2 r1.1.1.1).bind fun r3=>
 (z7b N N r1.2.1 r2 (0:Int) r1.1 a0 r3 ([]:List Int)).bind fun r6=>
 match r6 with
 | .inl r7=>(some r7.2.1)
 | .inr r8=>(let x9:=(aa .i64 (r8.2.2.2.1.2.2.2.1+(1:Int)))
 (z8q N r8.2.1.1).bind fun r10=>
 (zcq N x9 r8.1.2.2.2.2.1 r8.2.2.2.2.1).bind fun r11=>
 (ref23_Put N r10 (aJ x9 (2:Int)) r11).bind fun r12=>
 bif (!(eqi r12.2 (0:Int)))then
 (some (r8.2.2.2.1,(250:Int)))
 else
 ((z8q N r12.1).bind fun r13=>
 gd (fits (0+r8.1.2.2.2.1.length) 8)
 (let x14:=(([]:List Int)++r8.1.2.2.2.1)
 gd (fits (x14.length+r8.2.2.2.1.2.2.2.2.2.2.2.length) 8)
 (let x15:=(x14++r8.2.2.2.1.2.2.2.2.2.2.2)
 (z5a N N r8.2.2.2.2.1 (0:Int) (r13,(r8.2.1.2.1,(r8.2.1.2.2.1,(x9,((0:Int),r8.2.1.2.2.2.2.2))))) x15).bind fun r17=>
 (zbt N r17.2.1.2.1).bind fun r18=>
 some ((r17.2.1.1,(r18,(r17.2.1.2.2.1,(r17.2.1.2.2.2.1,(r17.2.1.2.2.2.2.1,(r17.2.1.2.2.2.2.2.1,(r17.2.1.2.2.2.2.2.2.1,r17.1.2.2))))))),(0:Int)))))))
def zoy(N:Nat)(a0:V2)(a1:Int)(a2:Z4):Option (zdk):=
 bif (decide (a1<(0:Int)))then
 (some ((((0:Int),(([]:List (List Int)),([]:List X0))),((([]:List Bool),(([]:List Int),(0:Int))),((0:Int),((0:Int),((0:Int),(([]:List Int),(([]:List Int),([]:List Int)))))))),(1:Int)))
 else
 (let x1:=(aa .i64 ((a0.2.1.length:Int)-(2:Int)))
 bif (decide (x1<=a1))then
 (some ((((0:Int),(([]:List (List Int)),([]:List X0))),((([]:List Bool),(([]:List Int),(0:Int))),((0:Int),((0:Int),((0:Int),(([]:List Int),(([]:List Int),([]:List Int)))))))),(1:Int)))
 else
 ((zoz N (a0.2.1.length:Int) (aa .i64 ((2:Int)+a1))).bind fun r2=>
 (zhi N (a0,(r2.1,(a1,((0:Int),((0:Int),(([]:List Int),(([]:List Int),([]:List Int)))))))) a2).bind fun r3=>
 bif (!(eqi r3.2 (0:Int)))then
 (some ((((0:Int),(([]:List (List Int)),([]:List X0))),((([]:List Bool),(([]:List Int),(0:Int))),((0:Int),((0:Int),((0:Int),(([]:List Int),(([]:List Int),([]:List Int)))))))),r3.2))
 else
 (some r3)))
def zpz(N:Nat):Option (z41):=
 (zkc N ((2:Int),((2:Int),(1:Int)))).bind fun r1=>
 let x2:=([((1:Int),(([97]:List UInt8),(([]:List UInt8),((([]:List UInt8),([]:List UInt8)),(([]:List UInt8),(([]:List UInt8),(0:Int))))))),((1:Int),(([98]:List UInt8),(([]:List UInt8),((([]:List UInt8),([]:List UInt8)),(([]:List UInt8),(([]:List UInt8),(0:Int))))))),((1:Int),(([99]:List UInt8),(([]:List UInt8),((([]:List UInt8),([]:List UInt8)),(([]:List UInt8),(([]:List UInt8),(0:Int)))))))]:List Z1)
 (zkd N r1.1 x2).bind fun r3=>
 (zbg N (1500:Int) (20:Int)).bind fun r4=>
 (zoy N r4.1 (1:Int) r3.1).bind fun r5=>
 some (r5.1,(r3.1,(0:Int)))
def zp4(N:Nat)(a0:(List Z7))(a1:Int):Option (Bool):=
 bif (decide ((0:Int)<=a1))then
 (bif (decide (a1<(a0.length:Int)))then
 (gd (inB a1 (a0.length))
 (some ((rdL a0 a1 X3).1)))
 else
 (some false))
 else
 (some false)
def zaq(N:Nat)(a0:Int)(a1:(List Int)):Option ((Unit×(Unit×((List Int)×Unit)))):=
 gd (fits (a1.length+1) 8)
 (let x1:=(a1++([a0]:List Int))
 some ((),((),(x1,()))))
def y8(N:Nat)(self:Int->(List Z7)->(List Int)->Bool->(List Int)->Option Ty1_)(rec:Int->(List Int)->Int->Int->(List Int)->(List Z7)->Bool->(List Int)->Option yp3)(b0:Int)(b1:(List Int))(b2 b3:Int)(b4:(List Int))(b5:(List Z7))(b6:Bool)(b7:(List Int)):Option yp3:=
 bif (decide (b3<b2))then
 (gd (inB b3 (b1.length))
 (match self (rdL b1 b3 (0:Int)) b5 b4 b6 b7 with
 | some r3=>(rec b0 b1 b2 (aa .i64 (b3+(1:Int))) r3.2.2.2.1 r3.2.1 r3.2.2.2.2.1 r3.2.2.2.2.2.2.2.2.1)
 | none=>none))
 else
 (some ((b0,((),())),((),(b4,((),((),(b7,(b5,(b6,(((),((),((),((),())))),()))))))))))
def z0g(N:Nat)(self:Int->(List Z7)->(List Int)->Bool->(List Int)->Option Ty1_)(n:Nat):=
 itF (fun _ _ _ _ _ _ _ _=>none) (y8 N self) n
theorem zau(N:Nat)(self:Int->(List Z7)->(List Int)->Bool->(List Int)->Option Ty1_)(n:Nat):z0g N self (n+1)=y8 N self (z0g N self n):=rfl
def z13(N:Nat)(self:Int->(List Z7)->(List Int)->Bool->(List Int)->Option Ty1_)(a0:Int)(a1:(List Z7))(a2:(List Int))(a3:Bool)(a4:(List Int)):Option Ty1_:=
 match zp4 N a1 a0 with
 | some r1=>(bif (!r1)then
 (some ((),(a1,((),(a2,(a3,(((),((),((),((),())))),((),((),(a4,()))))))))))
 else
 (gd (inB a0 (a2.length))
 (bif (eqi (rdL a2 a0 (0:Int)) (2:Int))then
 (some ((),(a1,((),(a2,(a3,(((),((),((),((),())))),((),((),(a4,()))))))))))
 else
 (gd (inB a0 (a2.length))
 (bif (eqi (rdL a2 a0 (0:Int)) (1:Int))then
 (some ((),(a1,((),(a2,(false,(((),((),((),((),())))),((),((),(a4,()))))))))))
 else
 (gd (inB a0 (a2.length))
 (gd (inB a0 (a1.length))
 (let x2:=(aq (((((((rdL a1 a0 X3).2).2).2).2).2).1):Int)
 match z0g N self N a0 (((((((rdL a1 a0 X3).2).2).2).2).2).1) x2 (0:Int) (setL a2 a0 (1:Int)) a1 a3 a4 with
 | some r4=>(gd (inB r4.1.1 (r4.2.2.1.length))
 (match zaq N r4.1.1 r4.2.2.2.2.2.1 with
 | some r5=>(some ((),(r4.2.2.2.2.2.2.1,((),((setL r4.2.2.1 r4.1.1 (2:Int)),(r4.2.2.2.2.2.2.2.1,(((),((),((),((),())))),((),((),(r5.2.2.1,()))))))))))
 | none=>none))
 | none=>none))))))))
 | none=>none
def J8(N n:Nat):Int->(List Z7)->(List Int)->Bool->(List Int)->Option Ty1_:=
 itF (fun _ _ _ _ _=>none) (z13 N) n
theorem zho(N n:Nat):J8 N (n+1)=z13 N (J8 N n):=rfl
def zlz(N:Nat):Int->(List Z7)->(List Int)->Bool->(List Int)->Option Ty1_:=
 J8 N N
def U6(N:Nat)(rec:(List Int)->Int->Int->Bool->(List Z7)->(List Int)->(List Int)->Option ((Unit×(Bool×(Unit×((List Int)×Unit))))))(b0:(List Int))(b1 b2:Int)(b3:Bool)(b4:(List Z7))(b5 b6:(List Int)):Option ((Unit×(Bool×(Unit×((List Int)×Unit))))):=
 bif (decide (b2<b1))then
 (gd (inB b2 (b0.length))
 (match zlz N (rdL b0 b2 (0:Int)) b4 b5 b3 b6 with
 | some r2=>(rec b0 b1 (aa .i64 (b2+(1:Int))) r2.2.2.2.2.1 r2.2.1 r2.2.2.2.1 r2.2.2.2.2.2.2.2.2.1)
 | none=>none))
 else
 (some ((),(b3,((),(b6,())))))
def U9(N:Nat)(n:Nat):=
 itF (fun _ _ _ _ _ _ _=>none) (U6 N) n
theorem z2t(N:Nat)(n:Nat):U9 N (n+1)=U6 N (U9 N n):=rfl
def pool_visit_m__pool_Reach_c1(N:Nat)(a0:(List Z7))(a1 a2:(List Int)):Option ((Bool×(Unit×((List Int)×Unit)))):=
 gd ((decide (0<=(a0.length:Int))&&decide ((a0.length:Int)<=(a0.length:Int)))&&(decide ((a0.length:Int)<maxB)&&decide ((a0.length:Int)*8<maxB)))
 (let x1:=(ar (cK (a0.length:Int)) (0:Int))
 match U9 N N a1 (a1.length:Int) (0:Int) true a0 x1 a2 with
 | some r3=>(some (r3.2.1,((),(r3.2.2.2.1,()))))
 | none=>none)
def z1b(N:Nat)(a0:List Int):Option (Unit×((List Int)×Unit)):=
 gd (Nat.blt (a0.length) 4611686018427387904) (some ((),(z7l a0,())))
def zb1(N:Nat)(a0:(List Z7))(a1:(List Int)):Option ((List Int)):=
 match pool_visit_m__pool_Reach_c1 N a0 a1 ([]:List Int)with
 | some r1=>(match z1b N r1.2.2.1 with
 | some r2=>(some r2.2.1)
 | none=>none)
 | none=>none
def zcj(N:Nat)(a0:Z5)(a1:Int):Option ((Int×Bool)):=
 bif (decide (a1<(0:Int)))then
 (some ((0:Int),false))
 else
 (let x1:=(decide ((a0.2.2.2.2.2.1.length:Int)<=a1))
 bif x1 then
 (some ((0:Int),false))
 else
 (gd (inB a1 (a0.2.2.2.2.2.1.length))
 (let x2:=(decide ((rdL a0.2.2.2.2.2.1 a1 (0:Int))<(0:Int)))
 bif x2 then
 (some ((0:Int),false))
 else
 (gd (inB a1 (a0.2.2.2.2.2.1.length))
 (some ((rdL a0.2.2.2.2.2.1 a1 (0:Int)),true))))))
def z1l(N:Nat)(rec:Int->Int->Z5->Int->(List Int)->(List Int)->(List Int)->Option Ty9_)(b0 b1:Int)(b2:Z5)(b3:Int)(b4 b5 b6:(List Int)):Option Ty9_:=
 bif (decide (b1<b0))then
 (gd (inB b1 (b6.length))
 ((zcj N b2 (rdL b6 b1 (0:Int))).bind fun r5=>
 bif r5.2 then
 (gd (fits (b4.length+1) 8)
 (let x6:=(b4++([(rdL b6 b1 (0:Int))]:List Int))
 rec b0 (aa .i64 (b1+(1:Int))) b2 b3 x6 b5 b6))
 else
 (rec b0 (aa .i64 (b1+(1:Int))) b2 b3 b4 b5 b6)))
 else
 (some (((),()),((),(((),((),b3)),(b4,(b5,()))))))
def z7u(N:Nat)(n:Nat):=
 itF (fun _ _ _ _ _ _ _=>none) (z1l N) n
theorem zef(N:Nat)(n:Nat):z7u N (n+1)=z1l N (z7u N n):=rfl
def z1m(N:Nat)(rec:(List W5)->Int->Int->Z5->Z4->(List Int)->Option ((y9h×(Z5×(Z4×(Unit×((List Int)×Unit)))))))(b0:(List W5))(b1 b2:Int)(b3:Z5)(b4:Z4)(b5:(List Int)):Option ((y9h×(Z5×(Z4×(Unit×((List Int)×Unit)))))):=
 bif (decide (b2<b1))then
 (gd (inB b2 (b0.length))
 (let x1:=([(((rdL b0 b2 X1).2).2).1]:List Int)
 gd (fits (b5.length+x1.length) 8)
 (let x2:=(b5++x1)
 rec b0 b1 (aa .i64 (b2+(1:Int))) b3 b4 x2)))
 else
 (some (((),((),((),()))),(b3,(b4,((),(b5,()))))))
def z7v(N:Nat)(n:Nat):=
 itF (fun _ _ _ _ _ _=>none) (z1m N) n
theorem zeg(N:Nat)(n:Nat):z7v N (n+1)=z1m N (z7v N n):=rfl
def zb4(N:Nat)(a0:Z5)(a1:Z4):Option (V8):=
 (z7v N N a1.2.2.1 (a1.2.2.1.length:Int) (0:Int) a0 a1 ([a1.2.2.2.2.1]:List Int)).bind fun r3=>
 (zb1 N r3.2.2.1.1 r3.2.2.2.2.1).bind fun r4=>
 (z7u N N (r4.length:Int) (0:Int) r3.2.1 (0:Int) ([]:List Int) ([]:List Int) r4).bind fun r7=>
 some (r7.2.2.2.1,(r7.2.2.2.2.1,r7.2.2.1.2.2))
def zay(N:Nat)(a0:V8):Option (Bool):=
 some (eqi (a0.1.length:Int) (0:Int))
def z5z(N:Nat)(a0:List Int):Option (List Int):=
 gd (fits (a0.length) 8) (some a0)
def y49(N:Nat)(a0:V2)(a1:Int):Option (Bool):=
 bif (decide ((0:Int)<=a1))then
 (some (decide (a1<(a0.2.1.length:Int))))
 else
 (some false)
def J9(N:Nat)(a0:(List X0)):Option ((List X0)):=
 some a0
def zm8(N:Nat)(a0:Int)(a1:Bool)(a2:Int)(a3:(List Int))(a4:Int)(a5:(List Int))(a6:Int):Option ((Unit×(Int×((List Int)×((List Int)×(Unit×Unit)))))⊕(Unit×(Int×(Unit×((List Int)×(Int×Unit)))))):=
 bif (!a1)then
 (bif (eqi a2 a4)then
 (some (.inl ((),(a4,(a3,(a5,((),())))))))
 else
 (some (.inr ((),(a4,((),(a5,(a6,()))))))))
 else
 (some (.inr ((),(a4,((),(a5,(a6,())))))))
def V5(N:Nat)(rec:(List X0)->Int->Int->(List Int)->Int->Option Ty6_)(b0:(List X0))(b1 b2:Int)(b3:(List Int))(b4:Int):Option Ty6_:=
 bif (decide ((0:Int)<=b1))then
 (gd (inB b1 (b0.length))
 ((zm8 N b1 ((rdL b0 b1 z1f).1) (((rdL b0 b1 z1f).2).1) (((rdL b0 b1 z1f).2).2) b2 b3 b4).bind fun r2=>
 match r2 with
 | .inl r3=>(some (.inl ((),(((),((),())),(r3.2.1,(r3.2.2.1,((),(r3.2.2.2.1,()))))))))
 | .inr r4=>(rec b0 (aa .i64 (b1-(1:Int))) r4.2.1 r4.2.2.2.1 r4.2.2.2.2.1)))
 else
 (some (.inr ((),(((),((),())),(b2,((),(b3,(b4,()))))))))
def X6(N:Nat)(n:Nat):=
 itF (fun _ _ _ _ _=>none) (V5 N) n
theorem z2v(N:Nat)(n:Nat):X6 N (n+1)=V5 N (X6 N n):=rfl
def U4(N:Nat)(a0:(List X0))(a1:Int)(a2:(List Int))(a3:Int):Option Ty6_:=
 let x1:=(aa .i64 ((a0.length:Int)-(1:Int)))
 (X6 N N a0 x1 a1 a2 a3).bind fun r5=>
 match r5 with
 | .inl r6=>(some (.inl ((),(((),((),())),(r6.2.2.1,(r6.2.2.2.1,((),(r6.2.2.2.2.2.1,()))))))))
 | .inr r7=>(some (.inr ((),(((),((),())),(r7.2.2.1,((),(r7.2.2.2.2.1,(r7.2.2.2.2.2.1,()))))))))
def zo4(N:Nat)(b0:(List X0))(b1:V2)(b2:Int):Option (((Unit×Unit)×((List Int)×(Unit×Unit)))⊕(y9h×(V2×(Int×(Unit×((List Int)×(Int×Unit))))))):=
 (U4 N b0 b2 ([]:List Int) (0:Int)).bind fun r3=>
 match r3 with
 | .inl r4=>(some (.inl (((),()),(r4.2.2.2.1,((),())))))
 | .inr r5=>(some (.inr (((),((),((),()))),(b1,(r5.2.2.1,((),(r5.2.2.2.2.1,(r5.2.2.2.2.2.1,()))))))))
def zvl(N:Nat)(a0:V2)(a1:Int):Option (((List Int)×Int)):=
 (y49 N a0 a1).bind fun r1=>
 bif (!r1)then
 (some (([]:List Int),(230:Int)))
 else
 ((J9 N a0.2.2).bind fun r2=>
 (zo4 N r2 a0 a1).bind fun r6=>
 match r6 with
 | .inl r7=>(some (r7.2.1,(0:Int)))
 | .inr r8=>(gd (inB r8.2.2.1 (r8.2.1.2.1.length))
 (some ((rdL r8.2.1.2.1 r8.2.2.1 ([]:List Int)),(0:Int)))))
def z3r(N:Nat)(rec:Int->(List Int)->Int->Int->Option ((Int×Unit)))(b0:Int)(b1:(List Int))(b2 b3:Int):Option ((Int×Unit)):=
 bif (decide (b3<b2))then
 (gd (inB b3 (b1.length))
 (let x1:=(aa .u64 (((BitVec.ofInt (bj .u64) b0^^^BitVec.ofInt (bj .u64) (aa .u64 ((rdL b1 b3 (0:Int))))).toNat:Int)))
 let x2:=(aa .u64 (x1*(1099511628211:Int)))
 rec x2 b1 b2 (aa .i64 (b3+(1:Int)))))
 else
 (some (b0,()))
def zag(N:Nat)(n:Nat):=
 itF (fun _ _ _ _=>none) (z3r N) n
theorem zgs(N:Nat)(n:Nat):zag N (n+1)=z3r N (zag N n):=rfl
def zm0(N:Nat)(a0:(List Int)):Option (Int):=
 (zag N N (14695981039346656037:Int) a0 (a0.length:Int) (0:Int)).bind fun r3=>
 some r3.1
def zam(N:Nat)(a0 a1:(List Int))(a2 a3:Int)(a4:(List (List Int)))(a5:(List X0))(a6:(List Bool))(a7:(List Int))(a8 a9 a10 a11:Int)(a12 a13 a14:(List Int))(a15 a16:Int):Option (Bool):=
 (zvl N (a3,(a4,a5)) a16).bind fun r1=>
 bif (eqi r1.2 (0:Int))then
 (bif (decide (a15<(a13.length:Int)))then
 ((zm0 N r1.1).bind fun r2=>
 gd (inB a15 (a13.length))
 (some (eqi r2 (rdL a13 a15 (0:Int)))))
 else
 (some false))
 else
 (some false)
def zas(N:Nat)(a0:(List Int))(a1 a2:Int)(a3:(List (List Int)))(a4:(List X0))(a5:(List Bool))(a6:(List Int))(a7 a8 a9 a10:Int)(a11 a12 a13 a14:(List Int)):Option ((Unit×yej)):=
 some ((),((),((a0,((),(a1,(a2,(a3,(a4,(a5,(a6,(a7,(a8,(a9,(a10,(a11,(a12,a13)))))))))))))),(a14,()))))
def z7m(N:Nat)(a0 a1 a2:Int)(a3:(List Int))(a4 a5:Int)(a6:(List (List Int)))(a7:(List X0))(a8:(List Bool))(a9:(List Int))(a10 a11 a12 a13:Int)(a14 a15 a16 a17:(List Int)):Option ((Unit×(Int×yej))⊕(Unit×(Int×yej))):=
 bif (eqi a2 (0:Int))then
 (some (.inl ((),(a2,((),((a3,((),(a4,(a5,(a6,(a7,(a8,(a9,(a10,(a11,(a12,(a13,(a14,(a15,a16)))))))))))))),(a17,())))))))
 else
 (bif (decide (a1<(0:Int)))then
 (some (.inr ((),((aa .i64 (a2-(1:Int))),((),((a3,((),(a4,(a5,(a6,(a7,(a8,(a9,(a10,(a11,(a12,(a13,(a14,(a15,a16)))))))))))))),(a17,())))))))
 else
 ((zam N a3 a17 a4 a5 a6 a7 a8 a9 a10 a11 a12 a13 a14 a15 a16 a0 a1).bind fun r1=>
 bif r1 then
 (some (.inr ((),((aa .i64 (a2-(1:Int))),((),((a3,((),((aa .i64 (a4+(1:Int))),(a5,(a6,(a7,(a8,(a9,(a10,(a11,(a12,(a13,(a14,(a15,a16)))))))))))))),(a17,())))))))
 else
 (gd (fits (a17.length+1) 8)
 (let x2:=(a17++([a0]:List Int))
 some (.inr ((),((aa .i64 (a2-(1:Int))),((),((a3,((),(a4,(a5,(a6,(a7,(a8,(a9,(a10,(a11,(a12,(a13,(a14,(a15,a16)))))))))))))),(x2,()))))))))))
def Q6(N:Nat)(rec:(List Int)->Int->Int->(List (List Int))->(List X0)->(List Bool)->(List Int)->Int->Int->Int->Int->(List Int)->(List Int)->(List Int)->(List Int)->Int->Option (Ty5_⊕Ty5_))(b0:(List Int))(b1 b2:Int)(b3:(List (List Int)))(b4:(List X0))(b5:(List Bool))(b6:(List Int))(b7 b8 b9 b10:Int)(b11 b12 b13 b14:(List Int))(b15:Int):Option (Ty5_⊕Ty5_):=
 let x1:=(decide ((0:Int)<(b0.length:Int)))
 bif x1 then
 (gd (inB (0:Int) (b0.length))
 ((zcj N ((b2,(b3,b4)),((b5,(b6,b7)),(b8,(b9,(b10,(b11,(b12,b13))))))) (rdL b0 (0:Int) (0:Int))).bind fun r2=>
 bif (!r2.2)then
 ((z7m N (rdL b0 (0:Int) (0:Int)) (-1:Int) b15 b0 b1 b2 b3 b4 b5 b6 b7 b8 b9 b10 b11 b12 b13 b14).bind fun r3=>
 match r3 with
 | .inl r4=>(some (.inl ((),(((),()),(r4.2.1,((),((r4.2.2.2.1.1,((),(r4.2.2.2.1.2.2.1,(r4.2.2.2.1.2.2.2.1,(r4.2.2.2.1.2.2.2.2.1,(r4.2.2.2.1.2.2.2.2.2.1,(r4.2.2.2.1.2.2.2.2.2.2.1,(r4.2.2.2.1.2.2.2.2.2.2.2.1,(r4.2.2.2.1.2.2.2.2.2.2.2.2.1,(r4.2.2.2.1.2.2.2.2.2.2.2.2.2.1,(r4.2.2.2.1.2.2.2.2.2.2.2.2.2.2.1,(r4.2.2.2.1.2.2.2.2.2.2.2.2.2.2.2.1,(r4.2.2.2.1.2.2.2.2.2.2.2.2.2.2.2.2.1,(r4.2.2.2.1.2.2.2.2.2.2.2.2.2.2.2.2.2.1,r4.2.2.2.1.2.2.2.2.2.2.2.2.2.2.2.2.2.2)))))))))))))),(r4.2.2.2.2.1,((),())))))))))
 | .inr r5=>(gd (decide (0<=(1:Int))&&(decide ((1:Int)<=(r5.2.2.2.1.1.length:Int))&&decide ((r5.2.2.2.1.1.length:Int)<=(r5.2.2.2.1.1.length:Int))))
 (let x6:=(cut2 r5.2.2.2.1.1 (1:Int) (r5.2.2.2.1.1.length:Int))
 rec x6 r5.2.2.2.1.2.2.1 r5.2.2.2.1.2.2.2.1 r5.2.2.2.1.2.2.2.2.1 r5.2.2.2.1.2.2.2.2.2.1 r5.2.2.2.1.2.2.2.2.2.2.1 r5.2.2.2.1.2.2.2.2.2.2.2.1 r5.2.2.2.1.2.2.2.2.2.2.2.2.1 r5.2.2.2.1.2.2.2.2.2.2.2.2.2.1 r5.2.2.2.1.2.2.2.2.2.2.2.2.2.2.1 r5.2.2.2.1.2.2.2.2.2.2.2.2.2.2.2.1 r5.2.2.2.1.2.2.2.2.2.2.2.2.2.2.2.2.1 r5.2.2.2.1.2.2.2.2.2.2.2.2.2.2.2.2.2.1 r5.2.2.2.1.2.2.2.2.2.2.2.2.2.2.2.2.2.2 r5.2.2.2.2.1 r5.2.1)))
 else
 ((z7m N (rdL b0 (0:Int) (0:Int)) r2.1 b15 b0 b1 b2 b3 b4 b5 b6 b7 b8 b9 b10 b11 b12 b13 b14).bind fun r7=>
 match r7 with
 | .inl r8=>(some (.inl ((),(((),()),(r8.2.1,((),((r8.2.2.2.1.1,((),(r8.2.2.2.1.2.2.1,(r8.2.2.2.1.2.2.2.1,(r8.2.2.2.1.2.2.2.2.1,(r8.2.2.2.1.2.2.2.2.2.1,(r8.2.2.2.1.2.2.2.2.2.2.1,(r8.2.2.2.1.2.2.2.2.2.2.2.1,(r8.2.2.2.1.2.2.2.2.2.2.2.2.1,(r8.2.2.2.1.2.2.2.2.2.2.2.2.2.1,(r8.2.2.2.1.2.2.2.2.2.2.2.2.2.2.1,(r8.2.2.2.1.2.2.2.2.2.2.2.2.2.2.2.1,(r8.2.2.2.1.2.2.2.2.2.2.2.2.2.2.2.2.1,(r8.2.2.2.1.2.2.2.2.2.2.2.2.2.2.2.2.2.1,r8.2.2.2.1.2.2.2.2.2.2.2.2.2.2.2.2.2.2)))))))))))))),(r8.2.2.2.2.1,((),())))))))))
 | .inr r9=>(gd (decide (0<=(1:Int))&&(decide ((1:Int)<=(r9.2.2.2.1.1.length:Int))&&decide ((r9.2.2.2.1.1.length:Int)<=(r9.2.2.2.1.1.length:Int))))
 (let x10:=(cut2 r9.2.2.2.1.1 (1:Int) (r9.2.2.2.1.1.length:Int))
 rec x10 r9.2.2.2.1.2.2.1 r9.2.2.2.1.2.2.2.1 r9.2.2.2.1.2.2.2.2.1 r9.2.2.2.1.2.2.2.2.2.1 r9.2.2.2.1.2.2.2.2.2.2.1 r9.2.2.2.1.2.2.2.2.2.2.2.1 r9.2.2.2.1.2.2.2.2.2.2.2.2.1 r9.2.2.2.1.2.2.2.2.2.2.2.2.2.1 r9.2.2.2.1.2.2.2.2.2.2.2.2.2.2.1 r9.2.2.2.1.2.2.2.2.2.2.2.2.2.2.2.1 r9.2.2.2.1.2.2.2.2.2.2.2.2.2.2.2.2.1 r9.2.2.2.1.2.2.2.2.2.2.2.2.2.2.2.2.2.1 r9.2.2.2.1.2.2.2.2.2.2.2.2.2.2.2.2.2.2 r9.2.2.2.2.1 r9.2.1)))))
 else
 (some (.inr ((),(((),()),(b15,((),((b0,((),(b1,(b2,(b3,(b4,(b5,(b6,(b7,(b8,(b9,(b10,(b11,(b12,b13)))))))))))))),(b14,((),())))))))))
def K0(N:Nat)(n:Nat):=
 itF (fun _ _ _ _ _ _ _ _ _ _ _ _ _ _ _ _=>none) (Q6 N) n
theorem z4x(N:Nat)(n:Nat):K0 N (n+1)=Q6 N (K0 N n):=rfl
def z5h(N:Nat)(a0:Int)(a1:(List Int))(a2 a3:Int)(a4:(List (List Int)))(a5:(List X0))(a6:(List Bool))(a7:(List Int))(a8 a9 a10 a11:Int)(a12 a13 a14 a15:(List Int)):Option (Ty5_⊕Ty5_):=
 (K0 N N a1 a2 a3 a4 a5 a6 a7 a8 a9 a10 a11 a12 a13 a14 a15 a0).bind fun r11=>
 match r11 with
 | .inl r12=>(some (.inl ((),(((),()),(r12.2.2.1,((),((r12.2.2.2.2.1.1,((),(r12.2.2.2.2.1.2.2.1,(r12.2.2.2.2.1.2.2.2.1,(r12.2.2.2.2.1.2.2.2.2.1,(r12.2.2.2.2.1.2.2.2.2.2.1,(r12.2.2.2.2.1.2.2.2.2.2.2.1,(r12.2.2.2.2.1.2.2.2.2.2.2.2.1,(r12.2.2.2.2.1.2.2.2.2.2.2.2.2.1,(r12.2.2.2.2.1.2.2.2.2.2.2.2.2.2.1,(r12.2.2.2.2.1.2.2.2.2.2.2.2.2.2.2.1,(r12.2.2.2.2.1.2.2.2.2.2.2.2.2.2.2.2.1,(r12.2.2.2.2.1.2.2.2.2.2.2.2.2.2.2.2.2.1,(r12.2.2.2.2.1.2.2.2.2.2.2.2.2.2.2.2.2.2.1,r12.2.2.2.2.1.2.2.2.2.2.2.2.2.2.2.2.2.2.2)))))))))))))),(r12.2.2.2.2.2.1,((),())))))))))
 | .inr r13=>(some (.inr ((),(((),()),(r13.2.2.1,((),((r13.2.2.2.2.1.1,((),(r13.2.2.2.2.1.2.2.1,(r13.2.2.2.2.1.2.2.2.1,(r13.2.2.2.2.1.2.2.2.2.1,(r13.2.2.2.2.1.2.2.2.2.2.1,(r13.2.2.2.2.1.2.2.2.2.2.2.1,(r13.2.2.2.2.1.2.2.2.2.2.2.2.1,(r13.2.2.2.2.1.2.2.2.2.2.2.2.2.1,(r13.2.2.2.2.1.2.2.2.2.2.2.2.2.2.1,(r13.2.2.2.2.1.2.2.2.2.2.2.2.2.2.2.1,(r13.2.2.2.2.1.2.2.2.2.2.2.2.2.2.2.2.1,(r13.2.2.2.2.1.2.2.2.2.2.2.2.2.2.2.2.2.1,(r13.2.2.2.2.1.2.2.2.2.2.2.2.2.2.2.2.2.2.1,r13.2.2.2.2.1.2.2.2.2.2.2.2.2.2.2.2.2.2.2)))))))))))))),(r13.2.2.2.2.2.1,((),())))))))))
def zj8(N:Nat)(b0:Int)(b1:(List Int))(b2 b3:Int)(b4:(List (List Int)))(b5:(List X0))(b6:(List Bool))(b7:(List Int))(b8 b9 b10 b11:Int)(b12 b13 b14 b15:(List Int)):Option (((Unit×Unit)×(Unit×yej))⊕((Unit×Unit)×(Unit×yej))):=
 (z5h N b0 b1 b2 b3 b4 b5 b6 b7 b8 b9 b10 b11 b12 b13 b14 b15).bind fun r3=>
 match r3 with
 | .inl r4=>(some (.inl (((),()),((),((),((r4.2.2.2.2.1.1,((),(r4.2.2.2.2.1.2.2.1,(r4.2.2.2.2.1.2.2.2.1,(r4.2.2.2.2.1.2.2.2.2.1,(r4.2.2.2.2.1.2.2.2.2.2.1,(r4.2.2.2.2.1.2.2.2.2.2.2.1,(r4.2.2.2.2.1.2.2.2.2.2.2.2.1,(r4.2.2.2.2.1.2.2.2.2.2.2.2.2.1,(r4.2.2.2.2.1.2.2.2.2.2.2.2.2.2.1,(r4.2.2.2.2.1.2.2.2.2.2.2.2.2.2.2.1,(r4.2.2.2.2.1.2.2.2.2.2.2.2.2.2.2.2.1,(r4.2.2.2.2.1.2.2.2.2.2.2.2.2.2.2.2.2.1,(r4.2.2.2.2.1.2.2.2.2.2.2.2.2.2.2.2.2.2.1,r4.2.2.2.2.1.2.2.2.2.2.2.2.2.2.2.2.2.2.2)))))))))))))),(r4.2.2.2.2.2.1,())))))))
 | .inr r5=>(some (.inr (((),()),((),((),((r5.2.2.2.2.1.1,((),(r5.2.2.2.2.1.2.2.1,(r5.2.2.2.2.1.2.2.2.1,(r5.2.2.2.2.1.2.2.2.2.1,(r5.2.2.2.2.1.2.2.2.2.2.1,(r5.2.2.2.2.1.2.2.2.2.2.2.1,(r5.2.2.2.2.1.2.2.2.2.2.2.2.1,(r5.2.2.2.2.1.2.2.2.2.2.2.2.2.1,(r5.2.2.2.2.1.2.2.2.2.2.2.2.2.2.1,(r5.2.2.2.2.1.2.2.2.2.2.2.2.2.2.2.1,(r5.2.2.2.2.1.2.2.2.2.2.2.2.2.2.2.2.1,(r5.2.2.2.2.1.2.2.2.2.2.2.2.2.2.2.2.2.1,(r5.2.2.2.2.1.2.2.2.2.2.2.2.2.2.2.2.2.2.1,r5.2.2.2.2.1.2.2.2.2.2.2.2.2.2.2.2.2.2.2)))))))))))))),(r5.2.2.2.2.2.1,())))))))
def zrq(N:Nat)(a0:V8)(a1:Z5)(a2:Int):Option ((V8×Int)):=
 bif (decide (a2<(0:Int)))then
 (some (a0,(280:Int)))
 else
 ((z5z N a0.2.1).bind fun r1=>
 (zas N a0.1 a0.2.2 a1.1.1 a1.1.2.1 a1.1.2.2 a1.2.1.1 a1.2.1.2.1 a1.2.1.2.2 a1.2.2.1 a1.2.2.2.1 a1.2.2.2.2.1 a1.2.2.2.2.2.1 a1.2.2.2.2.2.2.1 a1.2.2.2.2.2.2.2 r1).bind fun r2=>
 (zj8 N a2 r2.2.2.1.1 r2.2.2.1.2.2.1 r2.2.2.1.2.2.2.1 r2.2.2.1.2.2.2.2.1 r2.2.2.1.2.2.2.2.2.1 r2.2.2.1.2.2.2.2.2.2.1 r2.2.2.1.2.2.2.2.2.2.2.1 r2.2.2.1.2.2.2.2.2.2.2.2.1 r2.2.2.1.2.2.2.2.2.2.2.2.2.1 r2.2.2.1.2.2.2.2.2.2.2.2.2.2.1 r2.2.2.1.2.2.2.2.2.2.2.2.2.2.2.1 r2.2.2.1.2.2.2.2.2.2.2.2.2.2.2.2.1 r2.2.2.1.2.2.2.2.2.2.2.2.2.2.2.2.2.1 r2.2.2.1.2.2.2.2.2.2.2.2.2.2.2.2.2.2 r2.2.2.2.1).bind fun r6=>
 match r6 with
 | .inl r7=>(some ((r7.2.2.2.1.1,(r7.2.2.2.2.1,r7.2.2.2.1.2.2.1)),(0:Int)))
 | .inr r8=>(some ((r8.2.2.2.1.1,(r8.2.2.2.2.1,r8.2.2.2.1.2.2.1)),(0:Int))))
def z78(N:Nat)(a0:V8)(a1:Z5)(a2:Int):Option (zv1):=
 (zrq N a0 a1 a2).bind fun r1=>
 some r1
def z3a(N:Nat)(rec:Int->V2->Int->(List (List Int))->(List X0)->Option (((Unit×Unit)×(Unit×ymj))))(b0:Int)(b1:V2)(b2:Int)(b3:(List (List Int)))(b4:(List X0)):Option (((Unit×Unit)×(Unit×ymj))):=
 bif (decide (b0<(b1.2.2.length:Int)))then
 (gd (inB b0 (b1.2.2.length))
 (bif (!((rdL b1.2.2 b0 z1f).1))then
 (gd (inB b0 (b1.2.2.length))
 (gd (inB b0 (b1.2.2.length))
 (gd (inB (((rdL b1.2.2 b0 z1f).2).1) (b3.length))
 (let x2:=(setL b3 (((rdL b1.2.2 b0 z1f).2).1) (((rdL b1.2.2 b0 z1f).2).2))
 rec (aa .i64 (b0+(1:Int))) b1 b2 x2 b4))))
 else
 (rec (aa .i64 (b0+(1:Int))) b1 b2 b3 b4)))
 else
 (some (((),()),((),((b2,((),())),(b3,(b4,()))))))
def za1(N:Nat)(n:Nat):=
 itF (fun _ _ _ _ _=>none) (z3a N) n
theorem zgb(N:Nat)(n:Nat):za1 N (n+1)=z3a N (za1 N n):=rfl
def zct(N:Nat)(a0:V2):Option (V2):=
 (z17 N a0).bind fun r1=>
 (za1 N N (0:Int) a0 r1.1 r1.2.1 r1.2.2).bind fun r3=>
 some (r3.2.2.1.1,(r3.2.2.2.1,([]:List X0)))
def zcm(N:Nat)(a0:Z5)(a1:Int):Option (Int):=
 bif (decide (a1<(0:Int)))then
 (some (-1:Int))
 else
 (let x1:=(decide ((a0.2.2.2.2.2.1.length:Int)<=a1))
 bif x1 then
 (some (-1:Int))
 else
 (gd (inB a1 (a0.2.2.2.2.2.1.length))
 (let x2:=(decide ((rdL a0.2.2.2.2.2.1 a1 (0:Int))<(0:Int)))
 bif x2 then
 (some (-1:Int))
 else
 (gd (inB a1 (a0.2.2.2.2.2.1.length))
 (some (rdL a0.2.2.2.2.2.1 a1 (0:Int)))))))
def zp0(N:Nat)(a0:V2)(a1:zv0):Option ((V2×Int)):=
 (zcs N a0 a1.1).bind fun r1=>
 bif (!r1)then
 (some (a0,(230:Int)))
 else
 (bif (decide (a1.2.1<(0:Int)))then
 (some (a0,(1:Int)))
 else
 (gd (inB a1.1 (a0.2.1.length))
 (let x2:=(aq (rdL a0.2.1 a1.1 ([]:List Int)):Int)
 bif (decide (x2<=a1.2.1))then
 (some (a0,(1:Int)))
 else
 ((z17 N a0).bind fun r3=>
 gd (inB a1.1 (a0.2.1.length))
 (gd (fits (0+aq (rdL a0.2.1 a1.1 ([]:List Int))) 1)
 (let x4:=(([]:List Int)++(rdL a0.2.1 a1.1 ([]:List Int)))
 gd (inB a1.1 (r3.2.1.length))
 (gd (inB a1.1 (r3.2.1.length))
 (gd (Nat.beq (cK a1.1) (cK a1.1))
 (gd (inB a1.2.1 (x4.length))
 (let x5:=(aa .u8 (((BitVec.ofInt (bj .u8) (rdL x4 a1.2.1 (0:Int))^^^BitVec.ofInt (bj .u8) a1.2.2).toNat:Int)))
 gd (inB a1.2.1 (x4.length))
 (some ((r3.1,((setL r3.2.1 a1.1 (setL x4 a1.2.1 x5)),r3.2.2)),(0:Int)))))))))))))
def z4y(N:Nat)(a0:Z5)(a1:(List Int))(a2:z0d):Option ((Z5×Int)):=
 bif (eqi (a1.length:Int) (0:Int))then
 (some (a0,(-1:Int)))
 else
 (gd (!(eqi (a1.length:Int) 0))
 (let x1:=(aJ (aa .i64 (a2.1)) (a1.length:Int))
 gd (inB x1 (a1.length))
 ((zcm N a0 (rdL a1 x1 (0:Int))).bind fun r2=>
 (zkb N a0.1 r2).bind fun r3=>
 bif (eqi (r3.1.length:Int) (0:Int))then
 (some (a0,(-1:Int)))
 else
 ((zcm N a0 (rdL a1 x1 (0:Int))).bind fun r4=>
 gd (!(eqi (r3.1.length:Int) 0))
 (let x5:=(aJ (aa .i64 (a2.2.1)) (r3.1.length:Int))
 let x6:=(bif decide (a2.2.2<(1:Int))then(1:Int)else a2.2.2)
 (zp0 N a0.1 (r4,(x5,x6))).bind fun r7=>
 bif (!(eqi r7.2 (0:Int)))then
 (some (a0,(-1:Int)))
 else
 (some ((r7.1,a0.2),(rdL a1 x1 (0:Int)))))))))
def zat(N:Nat)(rec:(List Int)->(List Int)->Int->Option Ty3_)(b0 b1:(List Int))(b2:Int):Option Ty3_:=
 bif (decide (b2<(b0.length:Int)))then
 (gd (inB b2 (b0.length))
 (gd (inB b2 (b1.length))
 (let x2:=(!(eqi (rdL b0 b2 (0:Int)) (rdL b1 b2 (0:Int))))
 bif x2 then
 (some (.inl (false,())))
 else
 (rec b0 b1 (aa .i64 (b2+(1:Int)))))))
 else
 (some (.inr ((),())))
def zd3(N:Nat)(n:Nat):=
 itF (fun _ _ _=>none) (zat N) n
theorem yd5(N:Nat)(n:Nat):zd3 N (n+1)=zat N (zd3 N n):=rfl
def zlr(N:Nat)(a0 a1:(List Int)):Option (Bool):=
 let x1:=(!(eqi (a0.length:Int) (a1.length:Int)))
 bif x1 then
 (some false)
 else
 (match zd3 N N a0 a1 (0:Int)with
 | some r3=>(match r3 with
 | .inl r4=>(some r4.1)
 | .inr r5=>(some true))
 | none=>none)
def y23(N:Nat)(a0 a1:V8):Option (Bool):=
 (zlr N a0.1 a1.1).bind fun r1=>
 bif r1 then
 ((zlr N a0.2.1 a1.2.1).bind fun r2=>
 bif r2 then
 (some (eqi a0.2.2 a1.2.2))
 else
 (some false))
 else
 (some false)
def y6(N:Nat)(b0:Bool):Option ((Bool×Unit)):=
 some (b0,())
def zm3(N:Nat)(b0:z41)(b1:V8):Option ((Bool×Unit)):=
 (z78 N b1 b0.1 (2:Int)).bind fun r5=>
 (z78 N r5.1 b0.1 (2:Int)).bind fun r6=>
 (zct N b0.1.1).bind fun r7=>
 (z4y N (r7,b0.1.2) b1.1 ((1:Int),((0:Int),(7:Int)))).bind fun r8=>
 (z78 N b1 r8.1 (9:Int)).bind fun r9=>
 (z78 N b1 b0.1 (-1:Int)).bind fun r10=>
 bif (eqi r5.1.2.2 (2:Int))then
 (bif (eqi (r5.1.1.length:Int) (1:Int))then
 (bif (eqi r6.1.2.2 (3:Int))then
 ((zay N r6.1).bind fun r11=>
 bif r11 then
 (bif (eqi r9.1.2.2 (2:Int))then
 ((zlr N r9.1.2.1 ([r8.2]:List Int)).bind fun r12=>
 bif r12 then
 (bif (eqi r10.2 (280:Int))then
 ((y23 N r10.1 b1).bind fun r13=>
 (y6 N r13).bind fun r14=>
 some (r14.1,()))
 else
 ((y6 N false).bind fun r15=>
 some (r15.1,())))
 else
 ((y6 N false).bind fun r16=>
 some (r16.1,())))
 else
 ((y6 N false).bind fun r17=>
 some (r17.1,())))
 else
 ((y6 N false).bind fun r18=>
 some (r18.1,())))
 else
 ((y6 N false).bind fun r19=>
 some (r19.1,())))
 else
 ((y6 N false).bind fun r20=>
 some (r20.1,())))
 else
 ((y6 N false).bind fun r21=>
 some (r21.1,()))
def zc2(N:Nat):Option (Bool):=
 (zpz N).bind fun r1=>
 (zb4 N r1.1 r1.2.1).bind fun r2=>
 bif (!(eqi (r2.1.length:Int) (3:Int)))then
 (some false)
 else
 (let x3:=(decide ((0:Int)<(r2.2.1.length:Int)))
 bif x3 then
 (some false)
 else
 (bif (!(eqi r2.2.2 (0:Int)))then
 (some false)
 else
 ((zay N r2).bind fun r4=>
 bif r4 then
 (some false)
 else
 ((zm3 N r1 r2).bind fun r22=>
 some r22.1))))
def zii(N:Nat)(a0:Int):Option (V7):=
 let x1:=(aJ (aa .i64 (a0)) (4:Int))
 let x2:=(aa .i64 (c9 (aa .i64 (a0)) (4:Int)))
 let x3:=(aa .i64 ((2:Int)+(aJ x2 (3:Int))))
 let x4:=(aa .i64 (c9 (aa .i64 (a0)) (16:Int)))
 let x5:=(aa .i64 ((1:Int)+(aJ x4 (5:Int))))
 some ((aa .i64 ((2:Int)+x1)),(x3,x5))
def zb0(N:Nat)(a0:Int):Option ((List UInt8)):=
 let x1:=([([97,47]:List UInt8),([98,47]:List UInt8),([97,47,98,47]:List UInt8),([99,47]:List UInt8),([100,47]:List UInt8)]:List (List UInt8))
 gd (inB (aJ a0 (5:Int)) (x1.length))
 (let x2:=(rdL x1 (aJ a0 (5:Int)) ([]:List UInt8))
 some x2)
def zkg(N:Nat)(a0:Int):Option ((List UInt8)):=
 match zb0 N (aJ a0 (4:Int))with
 | some r1=>(let x2:=([([1]:List UInt8),([2,0,0]:List UInt8),([2,0,1]:List UInt8),([2,0,2]:List UInt8),([3,120]:List UInt8)]:List (List UInt8))
 let x3:=(aJ (aa .u8 (c9 a0 (4:Int))) (5:Int))
 gd (inB x3 (x2.length))
 (gd (decide (r1.length+aq (rdL x2 x3 ([]:List UInt8))<maxS))
 (let x4:=(r1++(rdL x2 x3 ([]:List UInt8)))
 some x4)))
 | none=>none
def zio(N:Nat)(a0:Int):Option ((List UInt8)):=
 let x1:=([([]:List UInt8),([120]:List UInt8),([121,121]:List UInt8),([49,50,51,52,53,54,55,56,57,48]:List UInt8),([0,255]:List UInt8)]:List (List UInt8))
 gd (inB (aJ a0 (5:Int)) (x1.length))
 (let x2:=(rdL x1 (aJ a0 (5:Int)) ([]:List UInt8))
 some x2)
def z0x(N:Nat)(b0 b1 b2:(List UInt8))(b3:K2)(b4:Z0):Option ((Unit×(Z1×Unit))):=
 let x9:=(aa .i64 ((aJ b3.2.2.2.2.2 (8:Int))))
 bif (eqi (aJ b3.1 (6:Int)) (0:Int))then
 (match zio N b3.2.2.1 with
 | some r10=>(some ((),(((1:Int),(b0,(r10,((([]:List UInt8),([]:List UInt8)),(([]:List UInt8),(([]:List UInt8),x9)))))),())))
 | none=>none)
 else
 (bif (eqi (aJ b3.1 (6:Int)) (1:Int))then
 (some ((),(((2:Int),(b0,(([]:List UInt8),((([]:List UInt8),([]:List UInt8)),(([]:List UInt8),(([]:List UInt8),(0:Int))))))),())))
 else
 (bif (eqi (aJ b3.1 (6:Int)) (2:Int))then
 (some ((),(((3:Int),(([]:List UInt8),(([]:List UInt8),(b4,(([]:List UInt8),(([]:List UInt8),(0:Int))))))),())))
 else
 (bif (eqi (aJ b3.1 (6:Int)) (3:Int))then
 (some ((),(((4:Int),(([]:List UInt8),(([]:List UInt8),((([]:List UInt8),([]:List UInt8)),(b1,(b2,(0:Int))))))),())))
 else
 (bif (eqi (aJ b3.1 (6:Int)) (4:Int))then
 (some ((),(((5:Int),(([]:List UInt8),(([]:List UInt8),((([]:List UInt8),([]:List UInt8)),(b1,(b2,(0:Int))))))),())))
 else
 (some ((),(((6:Int),(([]:List UInt8),(([]:List UInt8),(b4,(([]:List UInt8),(([]:List UInt8),x9)))))),())))))))
def z0y(N:Nat)(b0:(List UInt8))(b1:K2)(b2:Z0):Option ((Unit×(Z1×Unit))):=
 match zb0 N b1.2.1 with
 | some r6=>(match zb0 N b1.2.2.2.1 with
 | some r7=>(match j9 N r6 r7 with
 | some r8=>(bif r8 then
 (bif (eqs r6 ([100,47]:List UInt8))then
 (match z0x N b0 r6 ([99,47]:List UInt8) b1 b2 with
 | some r11=>(some ((),(r11.2.1,())))
 | none=>none)
 else
 (match z0x N b0 r6 ([100,47]:List UInt8) b1 b2 with
 | some r12=>(some ((),(r12.2.1,())))
 | none=>none))
 else
 (match j9 N r7 r6 with
 | some r13=>(bif r13 then
 (bif (eqs r6 ([100,47]:List UInt8))then
 (match z0x N b0 r6 ([99,47]:List UInt8) b1 b2 with
 | some r14=>(some ((),(r14.2.1,())))
 | none=>none)
 else
 (match z0x N b0 r6 ([100,47]:List UInt8) b1 b2 with
 | some r15=>(some ((),(r15.2.1,())))
 | none=>none))
 else
 (match z0x N b0 r6 r7 b1 b2 with
 | some r16=>(some ((),(r16.2.1,())))
 | none=>none))
 | none=>none))
 | none=>none)
 | none=>none)
 | none=>none
def zda(N:Nat)(a0:K2):Option (Z1):=
 match zkg N a0.2.1 with
 | some r1=>(match zkg N a0.2.2.2.1 with
 | some r2=>(let x3:=(eqi (aJ a0.2.2.2.2.1 (4:Int)) (0:Int))
 bif x3 then
 (match zb0 N a0.2.1 with
 | some r4=>(match U2 N r4 with
 | some r5=>(match z0y N r1 a0 r5 with
 | some r17=>(some r17.2.1)
 | none=>none)
 | none=>none)
 | none=>none)
 else
 (let x18:=(eqi (aJ a0.2.2.2.2.1 (16:Int)) (1:Int))
 bif x18 then
 (match z0y N r1 a0 (r1,([]:List UInt8))with
 | some r19=>(some r19.2.1)
 | none=>none)
 else
 (let x20:=(eqi (aJ a0.2.2.2.2.1 (16:Int)) (5:Int))
 bif x20 then
 (match z0y N r1 a0 (([]:List UInt8),([]:List UInt8))with
 | some r21=>(some r21.2.1)
 | none=>none)
 else
 (bif (eqs r1 r2)then
 (match z9p N r1 with
 | some r22=>(match z0y N r1 a0 r22 with
 | some r23=>(some r23.2.1)
 | none=>none)
 | none=>none)
 else
 (match z0y N r1 a0 ((bif lts r1 r2 || eqs r1 r2 then r1 else r2),(bif !(lts r1 r2)then r1 else r2))with
 | some r24=>(some r24.2.1)
 | none=>none)))))
 | none=>none)
 | none=>none
def y9(N:Nat)(rec:(List K2)->Int->Int->(List Z1)->Option ((Unit×((List Z1)×Unit))))(b0:(List K2))(b1 b2:Int)(b3:(List Z1)):Option ((Unit×((List Z1)×Unit))):=
 bif (decide (b2<(b0.length:Int)))then
 (bif (decide (b2<b1))then
 (gd (inB b2 (b0.length))
 (match zda N (rdL b0 b2 zz4)with
 | some r1=>(gd (fits (b3.length+1) 112)
 (let x2:=(b3++([r1]:List Z1))
 rec b0 b1 (aa .i64 (b2+(1:Int))) x2))
 | none=>none))
 else
 (some ((),(b3,()))))
 else
 (some ((),(b3,())))
def z72(N:Nat)(n:Nat):=
 itF (fun _ _ _ _=>none) (y9 N) n
theorem y94(N:Nat)(n:Nat):z72 N (n+1)=y9 N (z72 N n):=rfl
def zfv(N:Nat)(a0:(List K2))(a1:Int):Option ((List Z1)):=
 match z72 N N a0 a1 (0:Int) ([]:List Z1)with
 | some r3=>(some r3.2.1)
 | none=>none
def zhk(N:Nat)(a0:Int):Option ((List UInt8)):=
 let x1:=([([111,110,101]:List UInt8),([116,119,111]:List UInt8),([116,104,114,101,101]:List UInt8),([120]:List UInt8),([121]:List UInt8),([122]:List UInt8)]:List (List UInt8))
 gd (inB (aJ a0 (6:Int)) (x1.length))
 (let x2:=(rdL x1 (aJ a0 (6:Int)) ([]:List UInt8))
 some x2)
def z3b(N:Nat)(rec:(List UInt8)->Int->Z4->Option yov)(b0:(List UInt8))(b1:Int)(b2:Z4):Option yov:=
 bif (decide (b1<(b2.2.2.1.length:Int)))then
 (gd (inB b1 (b2.2.2.1.length))
 (let x2:=(eqs (((((rdL b2.2.2.1 b1 X1).2).2).2).1) b0)
 bif x2 then
 (some (.inl ((),((b2,((0:Int),(160:Int))),()))))
 else
 (rec b0 (aa .i64 (b1+(1:Int))) b2)))
 else
 (some (.inr ((b0,((),())),(b2,((),())))))
def z7c(N:Nat)(n:Nat):=
 itF (fun _ _ _=>none) (z3b N) n
theorem zgc(N:Nat)(n:Nat):z7c N (n+1)=z3b N (z7c N n):=rfl
def zhj(N:Nat)(a0:Z4)(a1:(List UInt8)):Option (zed):=
 (z91 N a1).bind fun r1=>
 bif (!r1)then
 (some (a0,((0:Int),(11:Int))))
 else
 ((z7c N N a1 (0:Int) a0).bind fun r3=>
 match r3 with
 | .inl r4=>(some r4.2.1)
 | .inr r5=>(let x6:=(decide ((16:Int)<=(r5.2.1.2.2.1.length:Int)))
 bif x6 then
 (some (r5.2.1,((0:Int),(161:Int))))
 else
 ((z90 N r5.2.1.1 r5.2.1.2.2.2.2.1).bind fun r7=>
 gd (fits (0+r5.2.1.2.2.1.length) 64)
 (let x8:=(([]:List W5)++r5.2.1.2.2.1)
 let x9:=([(r5.2.1.2.2.2.1,(r5.2.1.2.2.2.2.2.1,(r5.2.1.2.2.2.2.1,(r5.1.1,r5.2.1.2.2.2.2.2.2))))]:List W5)
 gd (fits (x8.length+x9.length) 64)
 (let x10:=(x8++x9)
 let x11:=(aa .i64 (r5.2.1.2.2.2.1+(1:Int)))
 some ((r7.1,(r5.2.1.2.1,(x10,(x11,(r5.2.1.2.2.2.2.1,(r5.2.1.2.2.2.1,([]:List Z1))))))),(r5.2.1.2.2.2.1,(0:Int))))))))
def zoi(N:Nat)(a0:Z4)(a1:Int):Option (Int):=
 bif (eqi (a0.2.2.1.length:Int) (0:Int))then
 (some (9:Int))
 else
 (gd (!(eqi (a0.2.2.1.length:Int) 0))
 (let x1:=(aJ (aa .i64 (a1)) (a0.2.2.1.length:Int))
 gd (inB x1 (a0.2.2.1.length))
 (some ((rdL a0.2.2.1 x1 X1).1))))
def zfp(N:Nat)(a0:Z4)(a1:Int):Option ((Z4×Int)):=
 (zcu N a0 a1).bind fun r1=>
 bif (decide (r1<(0:Int)))then
 (some (a0,(160:Int)))
 else
 (gd (inB r1 (a0.2.2.1.length))
 ((z90 N a0.1 ((((rdL a0.2.2.1 r1 X1).2).2).1)).bind fun r2=>
 (z2r N r2.1 a0.2.2.2.2.1).bind fun r3=>
 gd (inB r1 (a0.2.2.1.length))
 (some ((r3.1,(a0.2.1,(a0.2.2.1,(a0.2.2.2.1,((((rdL a0.2.2.1 r1 X1).2).2).1,(a1,([]:List Z1))))))),(0:Int)))))
def z8t(N:Nat)(a0:(List Z1))(a1:(List Z1)):Option ((List Z1)):=
 gd (fits (0+a0.length) 112)
 (let x1:=(([]:List Z1)++a0)
 gd (fits (x1.length+a1.length) 112)
 (let x2:=(x1++a1)
 (zbz N x2).bind fun r3=>
 some r3))
def z0n(N:Nat)(rec:Int->Int->Int->Z4->W5->(List Z7)->Int->Int->Int->Int->Int->Int->(List Z1)->(List W5)->Option yp7)(b0 b1 b2:Int)(b3:Z4)(b4:W5)(b5:(List Z7))(b6 b7 b8 b9 b10 b11:Int)(b12:(List Z1))(b13:(List W5)):Option yp7:=
 bif (decide (b2<(b3.2.2.1.length:Int)))then
 (gd (inB b2 (b3.2.2.1.length))
 (let x3:=(eqi (((rdL b3.2.2.1 b2 X1).2).1) b0)
 bif x3 then
 ((z8t N b4.2.2.2.2 (((((rdL b3.2.2.1 b2 X1).2).2).2).2)).bind fun r4=>
 bif (!(eqi b2 b1))then
 (let x5:=([((rdL b3.2.2.1 b2 X1).1,(b4.2.1,((((rdL b3.2.2.1 b2 X1).2).2).1,(((((rdL b3.2.2.1 b2 X1).2).2).2).1,r4))))]:List W5)
 gd (fits (b13.length+x5.length) 64)
 (let x6:=(b13++x5)
 rec b0 b1 (aa .i64 (b2+(1:Int))) b3 b4 b5 b6 b7 b8 b9 b10 b11 b12 x6))
 else
 (rec b0 b1 (aa .i64 (b2+(1:Int))) b3 b4 b5 b6 b7 b8 b9 b10 b11 b12 b13))
 else
 (bif (!(eqi b2 b1))then
 (let x7:=([(rdL b3.2.2.1 b2 X1)]:List W5)
 gd (fits (b13.length+x7.length) 64)
 (let x8:=(b13++x7)
 rec b0 b1 (aa .i64 (b2+(1:Int))) b3 b4 b5 b6 b7 b8 b9 b10 b11 b12 x8))
 else
 (rec b0 b1 (aa .i64 (b2+(1:Int))) b3 b4 b5 b6 b7 b8 b9 b10 b11 b12 b13))))
 else
 (some ((b0,((),((),((),())))),(b3,((),(b4,((b5,(b6,(b7,(b8,((),(b9,(b10,(b11,b12)))))))),(b13,())))))))
def z4d(N:Nat)(n:Nat):=
 itF (fun _ _ _ _ _ _ _ _ _ _ _ _ _ _=>none) (z0n N) n
theorem zcv(N:Nat)(n:Nat):z4d N (n+1)=z0n N (z4d N n):=rfl
def zfo(N:Nat)(a0:Z4)(a1:Int):Option ((Z4×Int)):=
 (zcu N a0 a1).bind fun r1=>
 bif (decide (r1<(0:Int)))then
 (some (a0,(160:Int)))
 else
 (gd (inB r1 (a0.2.2.1.length))
 ((z2r N a0.1 ((((rdL a0.2.2.1 r1 X1).2).2).1)).bind fun r2=>
 (z4d N N a1 r1 (0:Int) a0 (rdL a0.2.2.1 r1 X1) r2.1 a0.2.1.1 a0.2.1.2.1 a0.2.1.2.2 a0.2.2.2.1 a0.2.2.2.2.1 a0.2.2.2.2.2.1 a0.2.2.2.2.2.2 ([]:List W5)).bind fun r9=>
 bif (eqi r9.2.1.2.2.2.2.2.1 r9.1.1)then
 ((z8t N r9.2.2.2.1.2.2.2.2 r9.2.1.2.2.2.2.2.2).bind fun r10=>
 some ((r9.2.2.2.2.1.1,((r9.2.2.2.2.1.2.1,(r9.2.2.2.2.1.2.2.1,r9.2.2.2.2.1.2.2.2.1)),(r9.2.2.2.2.2.1,(r9.2.2.2.2.1.2.2.2.2.2.1,(r9.2.2.2.2.1.2.2.2.2.2.2.1,(r9.2.2.2.1.2.1,r10)))))),(0:Int)))
 else
 (some ((r9.2.2.2.2.1.1,((r9.2.2.2.2.1.2.1,(r9.2.2.2.2.1.2.2.1,r9.2.2.2.2.1.2.2.2.1)),(r9.2.2.2.2.2.1,r9.2.2.2.2.1.2.2.2.2.2))),(0:Int)))))
def z0m(N:Nat)(b0:Int)(b1:Bool)(b2:Z4)(b3:G4):Option ((Unit×(Z4×Unit))⊕((Unit×(Unit×Unit))×(Z4×(G4×(Unit×Unit))))):=
 bif b1 then
 ((zfv N b3.2.2 (6:Int)).bind fun r1=>
 (zkd N b2 r1).bind fun r2=>
 some (.inl ((),(r2.1,()))))
 else
 (bif (eqi b0 (4:Int))then
 ((zhk N b3.2.1).bind fun r3=>
 (zhj N b2 r3).bind fun r4=>
 some (.inl ((),(r4.1,()))))
 else
 (bif (eqi b0 (5:Int))then
 ((zhk N b3.2.1).bind fun r5=>
 (zhj N b2 r5).bind fun r6=>
 some (.inl ((),(r6.1,()))))
 else
 (bif (eqi b0 (6:Int))then
 ((zoi N b2 b3.2.1).bind fun r7=>
 (zfp N b2 r7).bind fun r8=>
 some (.inl ((),(r8.1,()))))
 else
 (some (.inr (((),((),())),(b2,(b3,((),())))))))))
def z2z(N:Nat)(b0:Z4)(b1:G4):Option ((Unit×(Z4×Unit))):=
 (zoi N b0 b1.2.1).bind fun r12=>
 (zfo N b0 r12).bind fun r13=>
 some ((),(r13.1,()))
def zlk(N:Nat)(a0:Z4)(a1:G4):Option (Z4):=
 bif (eqi (aJ a1.1 (8:Int)) (0:Int))then
 ((z0m N (aJ a1.1 (8:Int)) true a0 a1).bind fun r9=>
 match r9 with
 | .inl r10=>(some r10.2.1)
 | .inr r11=>((z2z N r11.2.1 r11.2.2.1).bind fun r14=>
 some r14.2.1))
 else
 (bif (eqi (aJ a1.1 (8:Int)) (1:Int))then
 ((z0m N (aJ a1.1 (8:Int)) true a0 a1).bind fun r15=>
 match r15 with
 | .inl r16=>(some r16.2.1)
 | .inr r17=>((z2z N r17.2.1 r17.2.2.1).bind fun r18=>
 some r18.2.1))
 else
 (bif (eqi (aJ a1.1 (8:Int)) (2:Int))then
 ((z0m N (aJ a1.1 (8:Int)) true a0 a1).bind fun r19=>
 match r19 with
 | .inl r20=>(some r20.2.1)
 | .inr r21=>((z2z N r21.2.1 r21.2.2.1).bind fun r22=>
 some r22.2.1))
 else
 ((z0m N (aJ a1.1 (8:Int)) (eqi (aJ a1.1 (8:Int)) (3:Int)) a0 a1).bind fun r23=>
 match r23 with
 | .inl r24=>(some r24.2.1)
 | .inr r25=>((z2z N r25.2.1 r25.2.2.1).bind fun r26=>
 some r26.2.1))))
def z63(N:Nat)(rec:(List G4)->Int->Z4->Option (((Unit×Unit)×(Unit×(Z4×Unit)))))(b0:(List G4))(b1:Int)(b2:Z4):Option (((Unit×Unit)×(Unit×(Z4×Unit)))):=
 bif (decide (b1<(b0.length:Int)))then
 (bif (decide (b1<(7:Int)))then
 (gd (inB b1 (b0.length))
 ((zlk N b2 (rdL b0 b1 zj7)).bind fun r3=>
 rec b0 (aa .i64 (b1+(1:Int))) r3))
 else
 (some (((),()),((),(b2,())))))
 else
 (some (((),()),((),(b2,()))))
def za2(N:Nat)(n:Nat):=
 itF (fun _ _ _=>none) (z63 N) n
theorem zrn(N:Nat)(n:Nat):za2 N (n+1)=z63 N (za2 N n):=rfl
def zll(N:Nat)(a0:Int)(a1:(List G4)):Option (Z4):=
 (zii N a0).bind fun r1=>
 (zkc N r1).bind fun r2=>
 (za2 N N a1 (0:Int) r2.1).bind fun r4=>
 some r4.2.2.1
def zlj(N:Nat)(a0:zmc):Option (V2):=
 bif (eqi (aJ a0.1 (8:Int)) (7:Int))then
 (let x1:=(aa .i64 ((30:Int)+(aa .i64 (a0.2.1))))
 bif (eqi (aJ a0.1 (8:Int)) (6:Int))then
 (let x2:=(aJ (aa .i64 (a0.2.1)) (24:Int))
 (zbg N x1 (aa .i64 ((4:Int)+x2))).bind fun r3=>
 some r3.1)
 else
 ((zbg N x1 (60:Int)).bind fun r4=>
 some r4.1))
 else
 (bif (eqi (aJ a0.1 (8:Int)) (6:Int))then
 (let x5:=(aJ (aa .i64 (a0.2.1)) (24:Int))
 (zbg N (1500:Int) (aa .i64 ((4:Int)+x5))).bind fun r6=>
 some r6.1)
 else
 ((zbg N (1500:Int) (60:Int)).bind fun r7=>
 some r7.1))
def zli(N:Nat)(a0:zbc):Option (z41):=
 (zll N a0.1 a0.2.1).bind fun r1=>
 (zlj N a0.2.2).bind fun r2=>
 let x3:=(aa .i64 ((aJ a0.2.2.2.2 (4:Int))))
 (zoy N r2 x3 r1).bind fun r4=>
 bif (!(eqi r4.2 (0:Int)))then
 (some ((((0:Int),(([]:List (List Int)),([]:List X0))),((([]:List Bool),(([]:List Int),(0:Int))),((0:Int),((0:Int),((0:Int),(([]:List Int),(([]:List Int),([]:List Int)))))))),(r1,r4.2)))
 else
 ((zct N r4.1.1).bind fun r5=>
 some ((r5,r4.1.2),(r1,(0:Int))))
def z1r(N:Nat)(rec:Int->Z4->(List Int)->Option ((Unit×((List Int)×Unit))))(b0:Int)(b1:Z4)(b2:(List Int)):Option ((Unit×((List Int)×Unit))):=
 bif (decide (b0<(b1.2.2.1.length:Int)))then
 (gd (inB b0 (b1.2.2.1.length))
 (let x1:=([(((rdL b1.2.2.1 b0 X1).2).2).1]:List Int)
 gd (fits (b2.length+x1.length) 8)
 (let x2:=(b2++x1)
 rec (aa .i64 (b0+(1:Int))) b1 x2)))
 else
 (some ((),(b2,())))
def z7z(N:Nat)(n:Nat):=
 itF (fun _ _ _=>none) (z1r N) n
theorem zem(N:Nat)(n:Nat):z7z N (n+1)=z1r N (z7z N n):=rfl
def znw(N:Nat)(a0:Z4):Option ((List Int)):=
 (z7z N N (0:Int) a0 ([a0.2.2.2.2.1]:List Int)).bind fun r3=>
 some r3.2.1
def z1v(N:Nat)(rec:Int->(List Bool)->(List Int)->Option ((Unit×((List Int)×Unit))))(b0:Int)(b1:(List Bool))(b2:(List Int)):Option ((Unit×((List Int)×Unit))):=
 bif (decide (b0<(b1.length:Int)))then
 (gd (inB b0 (b1.length))
 (bif (rdL b1 b0 false)then
 (gd (fits (b2.length+1) 8)
 (let x10:=(b2++([b0]:List Int))
 rec (aa .i64 (b0+(1:Int))) b1 x10))
 else
 (rec (aa .i64 (b0+(1:Int))) b1 b2)))
 else
 (some ((),(b2,())))
def z5t(N:Nat)(n:Nat):=
 itF (fun _ _ _=>none) (z1v N) n
theorem zep(N:Nat)(n:Nat):z5t N (n+1)=z1v N (z5t N n):=rfl
def z1w(N:Nat)(rec:(List Int)->(List Z7)->(List Bool)->Option ((Unit×((List Bool)×Unit))))(b0:(List Int))(b1:(List Z7))(b2:(List Bool)):Option ((Unit×((List Bool)×Unit))):=
 let x3:=(decide ((0:Int)<(b0.length:Int)))
 bif x3 then
 (gd (inB (0:Int) (b0.length))
 (gd (decide (0<=(1:Int))&&(decide ((1:Int)<=(b0.length:Int))&&decide ((b0.length:Int)<=(b0.length:Int))))
 (match z6y N b1 (rdL b0 (0:Int) (0:Int))with
 | some r4=>(bif r4 then
 (gd (inB (rdL b0 (0:Int) (0:Int)) (b2.length))
 (let x5:=(!(rdL b2 (rdL b0 (0:Int) (0:Int)) false))
 bif x5 then
 (gd (inB (rdL b0 (0:Int) (0:Int)) (b2.length))
 (gd (fits (0+aq (cut2 b0 (1:Int) (b0.length:Int))) 8)
 (let x6:=(([]:List Int)++(cut2 b0 (1:Int) (b0.length:Int)))
 gd (inB (rdL b0 (0:Int) (0:Int)) (b1.length))
 (let x7:=(rdL b1 (rdL b0 (0:Int) (0:Int)) X3)
 gd (fits (x6.length+x7.2.2.2.2.2.1.length) 8)
 (let x8:=(x6++x7.2.2.2.2.2.1)
 rec x8 b1 (setL b2 (rdL b0 (0:Int) (0:Int)) true))))))
 else
 (rec (cut2 b0 (1:Int) (b0.length:Int)) b1 b2)))
 else
 (rec (cut2 b0 (1:Int) (b0.length:Int)) b1 b2))
 | none=>none)))
 else
 (some ((),(b2,())))
def z5u(N:Nat)(n:Nat):=
 itF (fun _ _ _=>none) (z1w N) n
theorem zeq(N:Nat)(n:Nat):z5u N (n+1)=z1w N (z5u N n):=rfl
def zdw(N:Nat)(a0:(List Z7))(a1:(List Int)):Option ((List Int)):=
 gd ((decide (0<=(a0.length:Int))&&decide ((a0.length:Int)<=(a0.length:Int)))&&(decide ((a0.length:Int)<maxB)&&decide ((a0.length:Int)*1<maxB)))
 (let x1:=(ar (cK (a0.length:Int)) false)
 gd (fits (0+a1.length) 8)
 (let x2:=(([]:List Int)++a1)
 match z5u N N x2 a0 x1 with
 | some r9=>(match z5t N N (0:Int) r9.2.1 ([]:List Int)with
 | some r11=>(some r11.2.1)
 | none=>none)
 | none=>none))
def z1n(N:Nat)(rec:Int->Z5->Int->(List Int)->(List Int)->(List Int)->Option Ty9_)(b0:Int)(b1:Z5)(b2:Int)(b3 b4 b5:(List Int)):Option Ty9_:=
 bif (decide (b0<(b5.length:Int)))then
 (gd (inB b0 (b5.length))
 ((zcm N b1 (rdL b5 b0 (0:Int))).bind fun r3=>
 bif (decide ((0:Int)<=r3))then
 (gd (inB b0 (b5.length))
 (gd (fits (b3.length+1) 8)
 (let x4:=(b3++([(rdL b5 b0 (0:Int))]:List Int))
 rec (aa .i64 (b0+(1:Int))) b1 b2 x4 b4 b5)))
 else
 (rec (aa .i64 (b0+(1:Int))) b1 b2 b3 b4 b5)))
 else
 (some (((),()),((),(((),((),b2)),(b3,(b4,()))))))
def z7x(N:Nat)(n:Nat):=
 itF (fun _ _ _ _ _ _=>none) (z1n N) n
theorem zei(N:Nat)(n:Nat):z7x N (n+1)=z1n N (z7x N n):=rfl
def zdt(N:Nat)(a0:Z5)(a1:Z4):Option (V8):=
 (znw N a1).bind fun r1=>
 (zdw N a1.1 r1).bind fun r2=>
 (z7x N N (0:Int) a0 (0:Int) ([]:List Int) ([]:List Int) r2).bind fun r5=>
 some (r5.2.2.2.1,(r5.2.2.2.2.1,r5.2.2.1.2.2))
def z9m(N:Nat)(b0:Bool)(b1 b2:Int)(b3:V8)(b4:Z5):Option ((Bool×Unit)⊕((Bool×(Unit×(Unit×(Int×Int))))×(V8×(Z5×Unit)))):=
 (z78 N b3 b4 (1:Int)).bind fun r7=>
 (zay N b3).bind fun r8=>
 bif r8 then
 (some (.inl (false,())))
 else
 (bif (!(eqi r7.2 (0:Int)))then
 (some (.inl (false,())))
 else
 (let x9:=(aa .i64 ((b3.1.length:Int)-(1:Int)))
 bif (!(eqi (r7.1.1.length:Int) x9))then
 (some (.inl (false,())))
 else
 (let x10:=(aa .i64 (r7.1.2.2+(r7.1.2.1.length:Int)))
 let x11:=(aa .i64 (b3.2.2+(b3.2.1.length:Int)))
 let x12:=(!(eqi x10 (aa .i64 (x11+(1:Int)))))
 bif x12 then
 (some (.inl (false,())))
 else
 (some (.inr ((b0,((),((),(b1,(aa .i64 (b2+(1:Int))))))),(r7.1,(b4,()))))))))
def G7(N:Nat)(rec:Bool->Int->Int->V8->Option yiz)(b0:Bool)(b1 b2:Int)(b3:V8):Option yiz:=
 bif (decide (b2<(b3.2.1.length:Int)))then
 (gd (inB (aa .i64 (b2-(1:Int))) (b3.2.1.length))
 (let x19:=(rdL b3.2.1 (aa .i64 (b2-(1:Int))) (0:Int))
 gd (inB b2 (b3.2.1.length))
 (bif (decide ((rdL b3.2.1 b2 (0:Int))<=x19))then
 (some (.inl (false,())))
 else
 (rec b0 b1 (aa .i64 (b2+(1:Int))) b3))))
 else
 (some (.inr ((b0,((),b1)),(b3,()))))
def z2m(N:Nat)(n:Nat):=
 itF (fun _ _ _ _=>none) (G7 N) n
theorem z9s(N:Nat)(n:Nat):z2m N (n+1)=G7 N (z2m N n):=rfl
def G8(N:Nat)(rec:Bool->Int->Int->V8->Z5->Option yiz)(b0:Bool)(b1 b2:Int)(b3:V8)(b4:Z5):Option yiz:=
 bif (decide (b2<b1))then
 (bif (decide (b2<(4096:Int)))then
 ((z9m N b0 b1 b2 b3 b4).bind fun r13=>
 match r13 with
 | .inl r14=>(some (.inl (r14.1,())))
 | .inr r15=>(rec r15.1.1 r15.1.2.2.2.1 r15.1.2.2.2.2 r15.2.1 r15.2.2.1))
 else
 (some (.inr ((b0,((),b1)),(b3,())))))
 else
 (some (.inr ((b0,((),b1)),(b3,()))))
def z2n(N:Nat)(n:Nat):=
 itF (fun _ _ _ _ _=>none) (G8 N) n
theorem z9t(N:Nat)(n:Nat):z2n N (n+1)=G8 N (z2n N n):=rfl
def G9(N:Nat)(rec:(List z0d)->Bool->Int->z41->V8->Z5->Option (((Bool×(Unit×Unit))×(V8×(Z5×Unit)))))(b0:(List z0d))(b1:Bool)(b2:Int)(b3:z41)(b4:V8)(b5:Z5):Option (((Bool×(Unit×Unit))×(V8×(Z5×Unit)))):=
 bif (decide (b2<(b0.length:Int)))then
 (bif (decide (b2<(3:Int)))then
 ((zdt N b3.1 b3.2.1).bind fun r4=>
 gd (inB b2 (b0.length))
 ((z4y N b5 r4.1 (rdL b0 b2 z0e)).bind fun r5=>
 rec b0 b1 (aa .i64 (b2+(1:Int))) b3 b4 r5.1))
 else
 (some ((b1,((),())),(b4,(b5,())))))
 else
 (some ((b1,((),())),(b4,(b5,()))))
def z2o(N:Nat)(n:Nat):=
 itF (fun _ _ _ _ _ _=>none) (G9 N) n
theorem z9u(N:Nat)(n:Nat):z2o N (n+1)=G9 N (z2o N n):=rfl
def z94(N:Nat)(a0:zbc)(a1:(List z0d)):Option (Bool):=
 (zc2 N).bind fun r1=>
 (zli N a0).bind fun r2=>
 bif (!(eqi r2.2.2 (0:Int)))then
 (some r1)
 else
 ((zb4 N r2.1 r2.2.1).bind fun r3=>
 (z2o N N a1 r1 (0:Int) r2 r3 r2.1).bind fun r6=>
 (z2n N N r6.1.1 (r6.2.1.1.length:Int) (0:Int) r6.2.1 r6.2.2.1).bind fun r16=>
 match r16 with
 | .inl r17=>(some r17.1)
 | .inr r18=>((z2m N N r18.1.1 r18.1.2.2 (1:Int) r18.2.1).bind fun r20=>
 match r20 with
 | .inl r21=>(some r21.1)
 | .inr r22=>((zay N r22.2.1).bind fun r23=>
 bif r23 then
 (let x24:=(aa .i64 (r22.2.1.2.2+(r22.2.1.2.1.length:Int)))
 bif (eqi x24 r22.1.2.2)then
 (some r22.1.1)
 else
 (some false))
 else
 (some false))))
end Ds
