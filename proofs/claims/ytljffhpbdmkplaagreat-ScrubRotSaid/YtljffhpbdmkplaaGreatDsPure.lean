/- Printed by a program of the session's: what the program's functions compute, and that they do. -/
import Derived.Test.YtljffhpbdmkplaaGreatDvD
set_option linter.all false
open Int renaming fdiv->d0,tdiv->dc,tmod->aJ,toNat->cH
open Go.IntKind renaming bits->be,wrap->aa
open List renaming length->ap,replicate->ar
namespace Ds
open Go Go.Dv
def u7:Ty:=(.pair (.int .u8) (.pair (.int .u8) (.pair (.int .u8) (.pair (.int .u8) (.pair (.int .u8) (.int .u8))))))
abbrev K3:Type:=(Int×(Int×(Int×(Int×(Int×Int)))))
abbrev zz4:K3:=((0:Int),((0:Int),((0:Int),((0:Int),((0:Int),(0:Int))))))
def v8:Ty:=(.pair (.int .u8) (.pair (.int .u8) (.list u7)))
abbrev G3:Type:=(Int×(Int×(List K3)))
abbrev zj4:G3:=((0:Int),((0:Int),([]:List K3)))
def zsc:Ty:=(.pair (.int .u8) (.pair (.int .u8) (.int .u8)))
abbrev zm4:Type:=(Int×(Int×Int))
abbrev yf0:zm4:=((0:Int),((0:Int),(0:Int)))
def zbe:Ty:=(.pair (.int .u8) (.pair (.list v8) zsc))
abbrev zbd:Type:=(Int×((List G3)×zm4))
abbrev yp4:zbd:=((0:Int),(([]:List G3),yf0))
def z0k:Ty:=(.pair (.list (.int .i64)) (.pair (.list (.int .i64)) (.int .i64)))
abbrev z7:Type:=((List Int)×((List Int)×Int))
abbrev zz6:z7:=(([]:List Int),(([]:List Int),(0:Int)))
def J4:Ty:=(.pair .bool (.pair (.int .i64) (.list (.int .u8))))
abbrev Y9:Type:=(Bool×(Int×(List Int)))
abbrev z1k:Y9:=(false,((0:Int),([]:List Int)))
def Q0:Ty:=(.pair (.int .i64) (.pair (.list (.list (.int .u8))) (.list J4)))
abbrev W8:Type:=(Int×((List (List Int))×(List Y9)))
abbrev yez:W8:=((0:Int),(([]:List (List Int)),([]:List Y9)))
def Q1:Ty:=(.pair (.list .bool) (.pair (.list (.int .i64)) (.int .i64)))
abbrev V1:Type:=((List Bool)×((List Int)×Int))
abbrev zz8:V1:=(([]:List Bool),(([]:List Int),(0:Int)))
def X3:Ty:=(.pair Q0 (.pair Q1 (.pair (.int .i64) (.pair (.int .i64) (.pair (.int .i64) (.pair (.list (.int .i64)) (.pair (.list (.int .u64)) (.list (.int .i64)))))))))
abbrev Z6:Type:=(W8×(V1×(Int×(Int×(Int×((List Int)×((List Int)×(List Int))))))))
abbrev zo2:Z6:=(yez,(zz8,((0:Int),((0:Int),((0:Int),(([]:List Int),(([]:List Int),([]:List Int))))))))
def Y2:Ty:=(.pair .str (.pair .str (.int .i64)))
abbrev Z3:Type:=((List UInt8)×((List UInt8)×Int))
abbrev X5:Z3:=(([]:List UInt8),(([]:List UInt8),(0:Int)))
def z6j:Ty:=(.pair (.int .i64) (.int .i64))
abbrev z55:Type:=(Int×Int)
abbrev zz7:z55:=((0:Int),(0:Int))
def J0:Ty:=(.pair z6j z6j)
abbrev Y6:Type:=(z55×z55)
abbrev z66:Y6:=(zz7,zz7)
def Z2:Ty:=(.pair .str .str)
abbrev Z0:Type:=((List UInt8)×(List UInt8))
abbrev Y7:Z0:=(([]:List UInt8),([]:List UInt8))
def Z8:Ty:=(.pair (.int .i64) (.pair .str (.pair .str (.pair Z2 (.pair .str (.pair .str (.int .i64)))))))
abbrev Z1:Type:=(Int×((List UInt8)×((List UInt8)×(Z0×((List UInt8)×((List UInt8)×Int))))))
abbrev U7:Z1:=((0:Int),(([]:List UInt8),(([]:List UInt8),(Y7,(([]:List UInt8),(([]:List UInt8),(0:Int)))))))
def Z9:Ty:=(.pair (.list Y2) (.pair (.list .str) (.pair (.list (.int .i64)) (.pair (.list J0) (.list Z8)))))
abbrev Z5:Type:=((List Z3)×((List (List UInt8))×((List Int)×((List Y6)×(List Z1)))))
abbrev zhr:Z5:=(([]:List Z3),(([]:List (List UInt8)),(([]:List Int),(([]:List Y6),([]:List Z1)))))
def Y8:Ty:=(.pair .bool (.pair .bool (.pair (.int .i64) Z9)))
abbrev Z7:Type:=(Bool×(Bool×(Int×Z5)))
abbrev X2:Z7:=(false,(false,((0:Int),zhr)))
def z33:Ty:=(.pair (.int .i64) (.pair (.int .i64) (.int .i64)))
abbrev V8:Type:=(Int×(Int×Int))
abbrev zz5:V8:=((0:Int),((0:Int),(0:Int)))
def z6k:Ty:=(.pair (.int .i64) (.pair (.int .i64) (.pair (.int .i64) (.pair .str (.list Z8)))))
abbrev W5:Type:=(Int×(Int×(Int×((List UInt8)×(List Z1)))))
abbrev X0:W5:=((0:Int),((0:Int),((0:Int),(([]:List UInt8),([]:List Z1)))))
def Y1:Ty:=(.pair (.list Y8) (.pair z33 (.pair (.list z6k) (.pair (.int .i64) (.pair (.int .i64) (.pair (.int .i64) (.list Z8)))))))
abbrev Z4:Type:=((List Z7)×(V8×((List W5)×(Int×(Int×(Int×(List Z1)))))))
abbrev zv1:Z4:=(([]:List Z7),(zz5,(([]:List W5),((0:Int),((0:Int),((0:Int),([]:List Z1)))))))
def zbv:Ty:=(.pair X3 (.pair Y1 (.int .i64)))
abbrev zbu:Type:=(Z6×(Z4×Int))
abbrev yjn:zbu:=(zo2,(zv1,(0:Int)))
def ze5:Ty:=(.pair (.int .u8) (.pair (.int .u16) (.int .u8)))
abbrev zbc:Type:=(Int×(Int×Int))
abbrev yp3:zbc:=((0:Int),((0:Int),(0:Int)))
def zv0:Ty:=(.pair z0k (.int .i64))
abbrev zuy:Type:=(z7×Int)
abbrev ynl:zuy:=(zz6,(0:Int))
def zdo:Ty:=(.pair X3 (.int .i64))
abbrev zdm:Type:=(Z6×Int)
abbrev yms:zdm:=(zo2,(0:Int))
def zuz:Ty:=(.pair (.int .i64) (.pair (.int .i64) (.int .u8)))
abbrev zux:Type:=(Int×(Int×Int))
abbrev yni:zux:=((0:Int),((0:Int),(0:Int)))
def zee:Ty:=(.pair Y1 (.pair (.int .i64) (.int .i64)))
abbrev zed:Type:=(Z4×(Int×Int))
abbrev yjl:zed:=(zv1,((0:Int),(0:Int)))
def y8c:Ty:=(.pair z0k X3)
abbrev y8b:Type:=(z7×Z6)
abbrev ynh:y8b:=(zz6,zo2)
def X9:Ty:=(.pair (.list Y8) (.pair (.int .i64) z33))
abbrev Y5:Type:=((List Z7)×(Int×V8))
abbrev y3g:Y5:=(([]:List Z7),((0:Int),zz5))
def z8j:Ty:=(.pair X9 (.pair (.int .i64) (.int .i64)))
abbrev z3z:Type:=(Y5×(Int×Int))
abbrev yjo:z3z:=(y3g,((0:Int),(0:Int)))
def zju:Ty:=(.pair (.list Y8) (.pair (.int .i64) (.int .i64)))
abbrev zdn:Type:=((List Z7)×(Int×Int))
abbrev ymw:zdn:=(([]:List Z7),((0:Int),(0:Int)))
def znj:Ty:=(.pair (.list Z8) (.list Z2))
abbrev zni:Type:=((List Z1)×(List Z0))
abbrev yjp:zni:=(([]:List Z1),([]:List Z0))
def zjr:Ty:=(.pair Q1 (.pair (.int .i64) (.int .i64)))
abbrev zjp:Type:=(V1×(Int×Int))
abbrev ymt:zjp:=(zz8,((0:Int),(0:Int)))
def zfy:Ty:=(.pair (.list (.int .i64)) .bool)
abbrev K2:Type:=((List Int)×Bool)
abbrev ynj:K2:=(([]:List Int),false)
def ydb:Ty:=(.pair (.int .i64) (.pair (.int .i64) (.pair (.int .i64) (.int .i64))))
abbrev zom:Type:=(Int×(Int×(Int×Int)))
abbrev yr4:zom:=((0:Int),((0:Int),((0:Int),(0:Int))))
def zl1:Ty:=(.pair Z9 (.pair Z2 (.int .i64)))
abbrev zfx:Type:=(Z5×(Z0×Int))
abbrev ynk:zfx:=(zhr,(Y7,(0:Int)))
def zjt:Ty:=(.pair (.list Z9) (.pair (.list .str) (.list Z8)))
abbrev zjq:Type:=((List Z5)×((List (List UInt8))×(List Z1)))
abbrev ymv:zjq:=(([]:List Z5),(([]:List (List UInt8)),([]:List Z1)))
def ze6:Ty:=(.pair (.list Z9) (.pair (.list .str) (.list Z8)))
abbrev ze4:Type:=((List Z5)×((List (List UInt8))×(List Z1)))
abbrev yp5:ze4:=(([]:List Z5),(([]:List (List UInt8)),([]:List Z1)))
def z7b:Ty:=(.pair X9 (.pair (.int .i64) (.int .i64)))
abbrev z7a:Type:=(Y5×(Int×Int))
abbrev yjm:z7a:=(y3g,((0:Int),(0:Int)))
def zh5:Ty:=(.pair (.int .i64) (.int .i64))
abbrev z9u:Type:=(Int×Int)
abbrev yr3:z9u:=((0:Int),(0:Int))
def zo1:Ty:=(.pair (.list Z8) (.pair (.list Z8) (.list Z2)))
abbrev zj3:Type:=((List Z1)×((List Z1)×(List Z0)))
abbrev yp6:zj3:=(([]:List Z1),(([]:List Z1),([]:List Z0)))
def zjs:Ty:=(.pair (.list Y8) (.pair (.list (.int .i64)) (.int .i64)))
abbrev zal:Type:=((List Z7)×((List Int)×Int))
abbrev ymu:zal:=(([]:List Z7),(([]:List Int),(0:Int)))
def z1j:Ty:=(.pair .str (.pair (.int .i64) (.pair (.int .i64) .str)))
abbrev G4:Type:=((List UInt8)×(Int×(Int×(List UInt8))))
abbrev yp7:G4:=(([]:List UInt8),((0:Int),((0:Int),([]:List UInt8))))
abbrev Ty0_:Type:=((List Int)×(Unit×(Int×(Int×((List (List Int))×((List Y9)×((List Bool)×((List Int)×(Int×(Int×(Int×(Int×((List Int)×((List Int)×(List Int)))))))))))))))
abbrev Ty1_:Type:=((Unit×((List Z7)×(Unit×((List Int)×(Bool×((Unit×(Unit×(Unit×(Unit×Unit))))×(Unit×(Unit×((List Int)×Unit))))))))))
abbrev Ty2_:Type:=(Int×((List (List Int))×((List Y9)×((List Bool)×((List Int)×(Int×(Int×(Int×(Int×(Unit×(Unit×(List Int))))))))))))
abbrev Ty3_:Type:=((Bool×Unit)⊕(Unit×Unit))
abbrev Ty4_:Type:=(Unit×((Unit×(Unit×(Unit×(Unit×(Unit×((List UInt8)×((List UInt8)×Int)))))))×((List Z3)×((List (List UInt8))×((List Int)×((List Y6)×((List Z1)×Unit)))))))
abbrev Ty5_:Type:=(Unit×((Unit×Unit)×(Int×(Unit×(Ty0_×((List Int)×(Unit×Unit)))))))
abbrev Ty6_:Type:=((Unit×((Unit×(Unit×Unit))×(Int×((List Int)×(Unit×((List Int)×Unit))))))⊕(Unit×((Unit×(Unit×Unit))×(Int×(Unit×((List Int)×(Int×Unit)))))))
abbrev Ty7_:Type:=(Unit×((List Z3)×Unit))
abbrev Ty8_:Type:=(((Unit×(Unit×(Unit×(Unit×(Unit×Int)))))×(Ty2_×((List Int)×((List Int)×(Z4×(Unit×(Z6×((List Int)×Unit)))))))))
abbrev Ty9_:Type:=(((Unit×Unit)×(Unit×((Unit×(Unit×Int))×((List Int)×((List Int)×Unit))))))
abbrev y9w:Type:=(((Unit×Unit)×(Z5×((List Int)×Unit))))
abbrev y9v:Type:=(Unit×(Unit×(Unit×Unit)))
abbrev yq1:Type:=(((Int×y9v)×(Z4×(Unit×(W5×(((List Z7)×(Int×(Int×(Int×(Unit×(Int×(Int×(Int×(List Z1)))))))))×((List W5)×Unit)))))))
abbrev ync:Type:=((Unit×(Unit×Unit))×((List Z1)×((List Z1)×((List Z0)×Unit))))
abbrev yq0:Type:=((Unit×((Unit×(Unit×Int))×((List Z7)×((List Int)×Unit))))⊕((Unit×Unit)×(Unit×(((List Z7)×(Unit×Int))×((List Int)×Unit)))))
abbrev ypz:Type:=((Unit×(zdm×Unit))⊕((Unit×(Unit×(Unit×((List Int)×((List Int)×Unit)))))×(Z6×(Unit×(Z6×((List Int)×Unit))))))
abbrev y9u:Type:=((Unit×((List Z0)×Unit)))
abbrev ypy:Type:=(((Unit×((List Int)×Bool))×(Z6×Unit))⊕((Unit×(Unit×Unit))×(Ty2_×((List Int)×((List Int)×(Unit×((List Int)×Unit)))))))
abbrev ynb:Type:=((Int×(Unit×Unit))×((List (List Int))×((List Y9)×Unit)))
abbrev ypx:Type:=(((Int×(Unit×Unit))×(Unit×((List Int)×(Unit×(Unit×((List Int)×((List Z7)×(Bool×((Unit×y9v)×Unit))))))))))
abbrev yje:Type:=((List Z7)×(Z5×(Unit×Unit)))
abbrev ypw:Type:=(((Unit×Int)×(Z4×Unit))⊕(((List Z1)×(Unit×(Unit×Unit)))×(Z4×(Unit×(Y5×Unit)))))
abbrev yev:Type:=(Unit×(Ty0_×((List Int)×Unit)))
abbrev ypv:Type:=((Unit×((Unit×((List Int)×(Int×(Int×Int))))×((List Bool)×Unit)))⊕((Unit×Unit)×(V1×(Unit×Unit))))
abbrev yeu:Type:=((Unit×Int)×(Y5×Unit))
abbrev ypu:Type:=(((Unit×Unit)×(Unit×((Unit×(Unit×Unit))×((List Z5)×((List (List UInt8))×((List Z1)×Unit)))))))
abbrev ypt:Type:=(((Unit×Unit)×((Unit×(Unit×Unit))×((List Z1)×((List Z1)×((List Z0)×(Unit×Unit)))))))
abbrev yjd:Type:=(Unit×(Unit×((List Z7)×Unit)))
abbrev yet:Type:=(Z5×(Z0×Unit))
abbrev yps:Type:=((((List Z3)×Int)×Unit)⊕(((List Z0)×(Unit×Unit))×(Z5×((List Z3)×Unit))))
abbrev yna:Type:=((Unit×(Unit×Int))×((List Bool)×((List Int)×Unit)))
abbrev ypr:Type:=(((Unit×Unit)×(Unit×((Unit×(Unit×(List Z1)))×((List Z5)×((List (List UInt8))×Unit))))))
abbrev yjc:Type:=(Z0×((List Z0)×Unit))
abbrev ypq:Type:=((((List Z0)×y9v)×((List Z7)×(Z0×(Z5×((List Z0)×Unit))))))
abbrev ypp:Type:=((Unit×(zed×Unit))⊕(((List UInt8)×(Unit×Unit))×(Z4×(Unit×Unit))))
abbrev yjb:Type:=((Unit×((List Y6)×Unit)))
abbrev ypo:Type:=((((List Z3)×((List Z0)×(Unit×(Int×Bool))))×((List Z3)×Unit)))
abbrev ypn:Type:=(((Unit×Int)×(Z5×Unit))⊕((Unit×(Unit×Unit))×(Z5×Ty7_)))
abbrev yn9:Type:=((List Z0)×((List Z0)×Unit))

def zdw(N:Nat)(a0:V8):Option (Bool):=
 bif (decide ((2:Int)<=a0.1))then
 (bif (decide (a0.1<=(64:Int)))then
 (bif (decide ((2:Int)<=a0.2.1))then
 (bif (decide (a0.2.1<=(16:Int)))then
 (bif (decide ((1:Int)<=a0.2.2))then
 (some (decide (a0.2.2<=(64:Int))))
 else
 (some false))
 else
 (some false))
 else
 (some false))
 else
 (some false))
 else
 (some false)
def z71(N:Nat)(a0:(List Z7))(a1:Int):Option (Bool):=
 bif (decide ((0:Int)<=a1))then
 (bif (decide (a1<(a0.length:Int)))then
 (gd (inB a1 (a0.length))
 (some ((rdL a0 a1 X2).1)))
 else
 (some false))
 else
 (some false)
def z9b(N:Nat)(a0:(List Z7)):Option ((List Z7)):=
 gd (fits (0+a0.length) 136)
 (let x1:=(([]:List Z7)++a0)
 some x1)
def z4q(N:Nat)(rec:Int->Int->Z5->(List Z7)->Option (((Unit×(Int×Unit))×yjd)))(b0 b1:Int)(b2:Z5)(b3:(List Z7)):Option (((Unit×(Int×Unit))×yjd)):=
 bif (decide (b1<(b2.2.2.1.length:Int)))then
 (gd (inB b1 (b2.2.2.1.length))
 (gd (inB (rdL b2.2.2.1 b1 (0:Int)) (b3.length))
 (let x10:=(((rdL b3 (rdL b2.2.2.1 b1 (0:Int)) X2).2).2).1
 gd (inB (rdL b2.2.2.1 b1 (0:Int)) (b3.length))
 (let x11:=(setL b3 (rdL b2.2.2.1 b1 (0:Int)) ((rdL b3 (rdL b2.2.2.1 b1 (0:Int)) X2).1,(((rdL b3 (rdL b2.2.2.1 b1 (0:Int)) X2).2).1,((aa .i64 (x10+(1:Int))),((((rdL b3 (rdL b2.2.2.1 b1 (0:Int)) X2).2).2).2)))))
 rec b0 (aa .i64 (b1+(1:Int))) b2 x11))))
 else
 (some (((),(b0,())),((),((),(b3,())))))
def z4z(N:Nat)(n:Nat):=
 itF (fun _ _ _ _=>none) (z4q N) n
theorem zi6(N:Nat)(n:Nat):z4z N (n+1)=z4q N (z4z N n):=rfl
def z4r(N:Nat)(rec:Int->(List Z7)->Z5->Option (((Unit×(Unit×(Unit×Int)))×yje)))(b0:Int)(b1:(List Z7))(b2:Z5):Option (((Unit×(Unit×(Unit×Int)))×yje)):=
 bif (decide (b0<(b1.length:Int)))then
 (gd (inB b0 (b1.length))
 (bif (rdL b1 b0 X2).1 then
 (rec (aa .i64 (b0+(1:Int))) b1 b2)
 else
 (some (((),((),((),b0))),(b1,(b2,((),())))))))
 else
 (some (((),((),((),b0))),(b1,(b2,((),())))))
def z9c(N:Nat)(n:Nat):=
 itF (fun _ _ _=>none) (z4r N) n
theorem zi7(N:Nat)(n:Nat):z9c N (n+1)=z4r N (z9c N n):=rfl
def z4s(N:Nat)(rec:Int->(List Z7)->Z5->Option ((Unit×(zdn×Unit))⊕((Unit×(Unit×Unit))×yje)))(b0:Int)(b1:(List Z7))(b2:Z5):Option ((Unit×(zdn×Unit))⊕((Unit×(Unit×Unit))×yje)):=
 bif (decide (b0<(b2.2.2.1.length:Int)))then
 (gd (inB b0 (b2.2.2.1.length))
 (match z71 N b1 (rdL b2.2.2.1 b0 (0:Int))with
 | some r1=>(bif (!r1)then
 (some (.inl ((),((b1,((0:Int),(110:Int))),()))))
 else
 (rec (aa .i64 (b0+(1:Int))) b1 b2))
 | none=>none))
 else
 (some (.inr (((),((),())),(b1,(b2,((),()))))))
def z9d(N:Nat)(n:Nat):=
 itF (fun _ _ _=>none) (z4s N) n
theorem zi8(N:Nat)(n:Nat):z9d N (n+1)=z4s N (z9d N n):=rfl
def z65(N:Nat)(a0:(List Z7))(a1:Z5):Option (zdn):=
 match z9d N N (0:Int) a0 a1 with
 | some r2=>(match r2 with
 | .inl r3=>(some r3.2.1)
 | .inr r4=>(match z9c N N (0:Int) r4.2.1 r4.2.2.1 with
 | some r5=>(bif (decide ((4096:Int)<=r5.1.2.2.2))then
 (some (r5.2.1,((0:Int),(111:Int))))
 else
 (match z9b N r5.2.1 with
 | some r6=>(bif (eqi r5.1.2.2.2 (r6.length:Int))then
 (let x7:=([(false,(false,((0:Int),(([]:List Z3),(([]:List (List UInt8)),(([]:List Int),(([]:List Y6),([]:List Z1))))))))]:List Z7)
 gd (fits (r6.length+x7.length) 136)
 (let x8:=(r6++x7)
 gd (inB r5.1.2.2.2 (x8.length))
 (let x9:=(setL x8 r5.1.2.2.2 (true,(false,((1:Int),r5.2.2.1))))
 match z4z N N r5.1.2.2.2 (0:Int) r5.2.2.1 x9 with
 | some r12=>(some (r12.2.2.2.1,(r12.1.2.1,(0:Int))))
 | none=>none)))
 else
 (gd (inB r5.1.2.2.2 (r6.length))
 (let x13:=(setL r6 r5.1.2.2.2 (true,(false,((1:Int),r5.2.2.1))))
 match z4z N N r5.1.2.2.2 (0:Int) r5.2.2.1 x13 with
 | some r14=>(some (r14.2.2.2.1,(r14.1.2.1,(0:Int))))
 | none=>none)))
 | none=>none))
 | none=>none))
 | none=>none
def zxl(N:Nat)(a0:V8):Option ((Y5×Int)):=
 (zdw N a0).bind fun r1=>
 bif (!r1)then
 (some ((([]:List Z7),((0:Int),((0:Int),((0:Int),(0:Int))))),(120:Int)))
 else
 ((z65 N ([]:List Z7) (([]:List Z3),(([]:List (List UInt8)),(([]:List Int),(([]:List Y6),([]:List Z1)))))).bind fun r2=>
 some ((r2.1,(r2.2.1,a0)),(0:Int)))
def zk4(N:Nat)(a0:V8):Option ((Z4×Int)):=
 (zxl N a0).bind fun r1=>
 bif (!(eqi r1.2 (0:Int)))then
 (some ((([]:List Z7),(((0:Int),((0:Int),(0:Int))),(([]:List W5),((0:Int),((0:Int),((0:Int),([]:List Z1))))))),r1.2))
 else
 (some ((r1.1.1,(a0,(([]:List W5),((1:Int),(r1.1.2.1,((0:Int),([]:List Z1))))))),(0:Int)))
def z39(N:Nat)(rec:Int->Int->Z4->Option ((Int×Unit)⊕(Unit×Unit)))(b0 b1:Int)(b2:Z4):Option ((Int×Unit)⊕(Unit×Unit)):=
 bif (decide (b1<(b2.2.2.1.length:Int)))then
 (gd (inB b1 (b2.2.2.1.length))
 (bif (eqi ((rdL b2.2.2.1 b1 X0).1) b0)then
 (some (.inl (b1,())))
 else
 (rec b0 (aa .i64 (b1+(1:Int))) b2)))
 else
 (some (.inr ((),())))
def za3(N:Nat)(n:Nat):=
 itF (fun _ _ _=>none) (z39 N) n
theorem zg5(N:Nat)(n:Nat):za3 N (n+1)=z39 N (za3 N n):=rfl
def zcz(N:Nat)(a0:Z4)(a1:Int):Option (Int):=
 (za3 N N a1 (0:Int) a0).bind fun r1=>
 match r1 with
 | .inl r2=>(some r2.1)
 | .inr r3=>(some (-1:Int))
def zru(N:Nat)(a0:Z4)(a1:Int):Option ((Y5×Int)):=
 bif (eqi a1 (0:Int))then
 (some ((a0.1,(a0.2.2.2.2.1,a0.2.1)),(0:Int)))
 else
 ((zcz N a0 a1).bind fun r1=>
 bif (decide (r1<(0:Int)))then
 (some ((([]:List Z7),((0:Int),((0:Int),((0:Int),(0:Int))))),(160:Int)))
 else
 (gd (inB r1 (a0.2.2.1.length))
 (some ((a0.1,((((rdL a0.2.2.1 r1 X0).2).2).1,a0.2.1)),(0:Int)))))
def zhv(N:Nat)(a0 a1 a2:Int):Option (Bool):=
 bif (decide (a1<=a0))then
 (some (decide (a0<=a2)))
 else
 (some false)
def z0h(N:Nat)(a0:Z0):Option (Bool):=
 bif (!(eqs a0.2 ([]:List UInt8)))then
 (some (lts a0.2 a0.1 || eqs a0.2 a0.1))
 else
 (some false)
def zhg(N:Nat)(a0:Z0):Option (Bool):=
 match z0h N a0 with
 | some r1=>(bif (!r1)then
 (let x2:=(decide ((a0.1.length:Int)<=(65535:Int)))
 bif x2 then
 (let x3:=(decide ((a0.2.length:Int)<=(65535:Int)))
 some x3)
 else
 (some false))
 else
 (some false))
 | none=>none
def z04(N:Nat)(a0 a1:(List UInt8)):Option (Bool):=
 let x1:=(decide ((a1.length:Int)<=(a0.length:Int)))
 bif x1 then
 (gd (decide (0<=(0:Int))&&(decide ((0:Int)<=(a1.length:Int))&&decide ((a1.length:Int)<=(a0.length:Int))))
 (let x2:=(eqs (cut2 a0 (0:Int) (a1.length:Int)) a1)
 some x2))
 else
 (some false)
def z89(N:Nat)(b0:Bool)(b1:Int)(b2:Bool)(b3:Z1):Option Ty3_:=
 bif b2 then
 (match z04 N b3.2.2.2.2.1 b3.2.2.2.2.2.1 with
 | some r8=>(bif (!r8)then
 (match z04 N b3.2.2.2.2.2.1 b3.2.2.2.2.1 with
 | some r9=>(bif (!r9)then
 (match zhv N (b3.2.2.2.2.1.length:Int) (1:Int) (200:Int)with
 | some r10=>(bif r10 then
 (match zhv N (b3.2.2.2.2.2.1.length:Int) (1:Int) (200:Int)with
 | some r11=>(bif r11 then
 (let x12:=(eqi b3.1 b3.1&&(eqs b3.2.1 ([]:List UInt8)&&(eqs b3.2.2.1 ([]:List UInt8)&&(eqs b3.2.2.2.1.1 ([]:List UInt8)&&(eqs b3.2.2.2.1.2 ([]:List UInt8)&&(eqs b3.2.2.2.2.1 b3.2.2.2.2.1&&(eqs b3.2.2.2.2.2.1 b3.2.2.2.2.2.1&&(eqi b3.2.2.2.2.2.2 (0:Int)&&true))))))))
 some (.inl (x12,())))
 else
 (some (.inl (false,()))))
 | none=>none)
 else
 (some (.inl (false,()))))
 | none=>none)
 else
 (some (.inl (false,()))))
 | none=>none)
 else
 (some (.inl (false,()))))
 | none=>none)
 else
 (bif (eqi b1 (6:Int))then
 (match zhg N b3.2.2.2.1 with
 | some r13=>(bif r13 then
 (bif b0 then
 (let x14:=(eqi b3.1 b3.1&&(eqs b3.2.1 ([]:List UInt8)&&(eqs b3.2.2.1 ([]:List UInt8)&&(eqs b3.2.2.2.1.1 b3.2.2.2.1.1&&(eqs b3.2.2.2.1.2 b3.2.2.2.1.2&&(eqs b3.2.2.2.2.1 ([]:List UInt8)&&(eqs b3.2.2.2.2.2.1 ([]:List UInt8)&&(eqi b3.2.2.2.2.2.2 b3.2.2.2.2.2.2&&true))))))))
 some (.inl (x14,())))
 else
 (some (.inl (false,()))))
 else
 (some (.inl (false,()))))
 | none=>none)
 else
 (some (.inr ((),()))))
def zb8(N:Nat)(a0:Z1):Option (Bool):=
 match zhv N (a0.2.1.length:Int) (1:Int) (65535:Int)with
 | some r1=>(match zhv N a0.2.2.2.2.2.2 (0:Int) (1000000000:Int)with
 | some r2=>(bif (eqi a0.1 (1:Int))then
 (bif r1 then
 (let x3:=(decide ((a0.2.2.1.length:Int)<=(64:Int)))
 bif x3 then
 (bif r2 then
 (let x4:=(eqi a0.1 a0.1&&(eqs a0.2.1 a0.2.1&&(eqs a0.2.2.1 a0.2.2.1&&(eqs a0.2.2.2.1.1 ([]:List UInt8)&&(eqs a0.2.2.2.1.2 ([]:List UInt8)&&(eqs a0.2.2.2.2.1 ([]:List UInt8)&&(eqs a0.2.2.2.2.2.1 ([]:List UInt8)&&(eqi a0.2.2.2.2.2.2 a0.2.2.2.2.2.2&&true))))))))
 some x4)
 else
 (some false))
 else
 (some false))
 else
 (some false))
 else
 (bif (eqi a0.1 (2:Int))then
 (bif r1 then
 (let x5:=(eqi a0.1 a0.1&&(eqs a0.2.1 a0.2.1&&(eqs a0.2.2.1 ([]:List UInt8)&&(eqs a0.2.2.2.1.1 ([]:List UInt8)&&(eqs a0.2.2.2.1.2 ([]:List UInt8)&&(eqs a0.2.2.2.2.1 ([]:List UInt8)&&(eqs a0.2.2.2.2.2.1 ([]:List UInt8)&&(eqi a0.2.2.2.2.2.2 (0:Int)&&true))))))))
 some x5)
 else
 (some false))
 else
 (bif (eqi a0.1 (3:Int))then
 (match zhg N a0.2.2.2.1 with
 | some r6=>(bif r6 then
 (let x7:=(eqi a0.1 a0.1&&(eqs a0.2.1 ([]:List UInt8)&&(eqs a0.2.2.1 ([]:List UInt8)&&(eqs a0.2.2.2.1.1 a0.2.2.2.1.1&&(eqs a0.2.2.2.1.2 a0.2.2.2.1.2&&(eqs a0.2.2.2.2.1 ([]:List UInt8)&&(eqs a0.2.2.2.2.2.1 ([]:List UInt8)&&(eqi a0.2.2.2.2.2.2 (0:Int)&&true))))))))
 some x7)
 else
 (some false))
 | none=>none)
 else
 (bif (eqi a0.1 (4:Int))then
 (match z89 N r2 a0.1 true a0 with
 | some r15=>(match r15 with
 | .inl r16=>(some r16.1)
 | .inr r17=>(some false))
 | none=>none)
 else
 (match z89 N r2 a0.1 (eqi a0.1 (5:Int)) a0 with
 | some r18=>(match r18 with
 | .inl r19=>(some r19.1)
 | .inr r20=>(some false))
 | none=>none)))))
 | none=>none)
 | none=>none
def z9r(N:Nat)(a0:(List Z7))(a1:Int):Option ((Z5×Int)):=
 match z71 N a0 a1 with
 | some r1=>(bif (!r1)then
 (some ((([]:List Z3),(([]:List (List UInt8)),(([]:List Int),(([]:List Y6),([]:List Z1))))),(110:Int)))
 else
 (gd (inB a1 (a0.length))
 (bif ((rdL a0 a1 X2).2).1 then
 (some ((([]:List Z3),(([]:List (List UInt8)),(([]:List Int),(([]:List Y6),([]:List Z1))))),(112:Int)))
 else
 (gd (inB a1 (a0.length))
 (some (((((rdL a0 a1 X2).2).2).2),(0:Int)))))))
 | none=>none
def z1o(N:Nat)(b0:(List Z3))(b1:Bool)(b2:Int)(b3:Z3)(b4:(List Z3)):Option ((((List Z3)×(Unit×(Unit×(Bool×Int))))×(Z3×((List Z3)×Unit)))):=
 gd (inB b2 (b0.length))
 (bif (!(eqs ((rdL b0 b2 X5).1) b3.1))then
 (gd (inB b2 (b0.length))
 (gd (fits (b4.length+1) 40)
 (let x3:=(b4++([(rdL b0 b2 X5)]:List Z3))
 some ((b0,((),((),(b1,b2)))),(b3,(x3,()))))))
 else
 (some ((b0,((),((),(b1,b2)))),(b3,(b4,())))))
def z14(N:Nat)(rec:(List Z3)->Bool->Int->Z3->(List Z3)->Option (((Unit×(Unit×Bool))×(Z3×((List Z3)×Unit)))))(b0:(List Z3))(b1:Bool)(b2:Int)(b3:Z3)(b4:(List Z3)):Option (((Unit×(Unit×Bool))×(Z3×((List Z3)×Unit)))):=
 bif (decide (b2<(b0.length:Int)))then
 (bif (!b1)then
 (gd (inB b2 (b0.length))
 (let x1:=(lts b3.1 ((rdL b0 b2 X5).1) || eqs b3.1 ((rdL b0 b2 X5).1))
 bif x1 then
 (gd (fits (b4.length+1) 40)
 (let x2:=(b4++([b3]:List Z3))
 match z1o N b0 true b2 b3 x2 with
 | some r4=>(let x5:=(aa .i64 (r4.1.2.2.2.2+(1:Int)))
 rec r4.1.1 r4.1.2.2.2.1 x5 r4.2.1 r4.2.2.1)
 | none=>none))
 else
 (match z1o N b0 b1 b2 b3 b4 with
 | some r6=>(let x7:=(aa .i64 (r6.1.2.2.2.2+(1:Int)))
 rec r6.1.1 r6.1.2.2.2.1 x7 r6.2.1 r6.2.2.1)
 | none=>none)))
 else
 (match z1o N b0 b1 b2 b3 b4 with
 | some r8=>(let x9:=(aa .i64 (r8.1.2.2.2.2+(1:Int)))
 rec r8.1.1 r8.1.2.2.2.1 x9 r8.2.1 r8.2.2.1)
 | none=>none))
 else
 (some (((),((),b1)),(b3,(b4,()))))
def z1p(N:Nat)(n:Nat):=
 itF (fun _ _ _ _ _=>none) (z14 N) n
theorem zdd(N:Nat)(n:Nat):z1p N (n+1)=z14 N (z1p N n):=rfl
def z9e(N:Nat)(a0:(List Z3))(a1:Z3):Option ((List Z3)):=
 match z1p N N a0 false (0:Int) a1 ([]:List Z3)with
 | some r10=>(bif (!r10.1.2.2)then
 (gd (fits (r10.2.2.1.length+1) 40)
 (let x11:=(r10.2.2.1++([r10.2.1]:List Z3))
 some x11))
 else
 (some r10.2.2.1))
 | none=>none
def z9s(N:Nat)(a0:(List UInt8)):Option (Z0):=
 gd (decide (a0.length+ap ([0]:List UInt8)<maxS))
 (let x1:=(a0++([0]:List UInt8))
 some (a0,x1))
def zbk(N:Nat)(a0:Z0)(a1:(List UInt8)):Option (Bool):=
 bif (!(lts a1 a0.1))then
 (bif (eqs a0.2 ([]:List UInt8))then
 (some true)
 else
 (some (lts a1 a0.2)))
 else
 (some false)
def z5j(N:Nat)(rec:(List Z0)->(List UInt8)->Int->Option Ty3_)(b0:(List Z0))(b1:(List UInt8))(b2:Int):Option Ty3_:=
 bif (decide (b2<(b0.length:Int)))then
 (gd (inB b2 (b0.length))
 (match zbk N (rdL b0 b2 Y7) b1 with
 | some r1=>(bif r1 then
 (some (.inl (true,())))
 else
 (rec b0 b1 (aa .i64 (b2+(1:Int)))))
 | none=>none))
 else
 (some (.inr ((),())))
def ze1(N:Nat)(n:Nat):=
 itF (fun _ _ _=>none) (z5j N) n
theorem zjw(N:Nat)(n:Nat):ze1 N (n+1)=z5j N (ze1 N n):=rfl
def zoe(N:Nat)(a0:(List Z0))(a1:(List UInt8)):Option (Bool):=
 match ze1 N N a0 a1 (0:Int)with
 | some r2=>(match r2 with
 | .inl r3=>(some r3.1)
 | .inr r4=>(some false))
 | none=>none
def z0g(N:Nat)(rec:(List Z3)->(List Z0)->Int->(List Z3)->Option (Ty7_))(b0:(List Z3))(b1:(List Z0))(b2:Int)(b3:(List Z3)):Option (Ty7_):=
 bif (decide (b2<(b0.length:Int)))then
 (gd (inB b2 (b0.length))
 (match zoe N b1 ((rdL b0 b2 X5).1)with
 | some r1=>(bif (!r1)then
 (gd (inB b2 (b0.length))
 (gd (fits (b3.length+1) 40)
 (let x2:=(b3++([(rdL b0 b2 X5)]:List Z3))
 rec b0 b1 (aa .i64 (b2+(1:Int))) x2)))
 else
 (rec b0 b1 (aa .i64 (b2+(1:Int))) b3))
 | none=>none))
 else
 (some ((),(b3,())))
def z5i(N:Nat)(n:Nat):=
 itF (fun _ _ _ _=>none) (z0g N) n
theorem zce(N:Nat)(n:Nat):z5i N (n+1)=z0g N (z5i N n):=rfl
def z57(N:Nat)(a0:(List Z3))(a1:(List Z0)):Option ((List Z3)):=
 match z5i N N a0 a1 (0:Int) ([]:List Z3)with
 | some r3=>(some r3.2.1)
 | none=>none
def z4e(N:Nat)(rec:(List UInt8)->Int->Option ((((List UInt8)×(Unit×Int))×(Unit×Unit))))(b0:(List UInt8))(b1:Int):Option ((((List UInt8)×(Unit×Int))×(Unit×Unit))):=
 bif (decide ((0:Int)<b1))then
 (gd (inB (aa .i64 (b1-(1:Int))) (b0.length))
 (let x1:=(eqi (bt b0 (aa .i64 (b1-(1:Int)))) (255:Int))
 bif x1 then
 (rec b0 (aa .i64 (b1-(1:Int))))
 else
 (some ((b0,((),b1)),((),())))))
 else
 (some ((b0,((),b1)),((),())))
def J9(N:Nat)(n:Nat):=
 itF (fun _ _=>none) (z4e N) n
theorem zdf(N:Nat)(n:Nat):J9 N (n+1)=z4e N (J9 N n):=rfl
def U2(N:Nat)(a0:(List UInt8)):Option (Z0):=
 match J9 N N a0 (a0.length:Int)with
 | some r2=>(bif (eqi r2.1.2.2 (0:Int))then
 (some (r2.1.1,([]:List UInt8)))
 else
 (gd (decide (0<=(0:Int))&&(decide ((0:Int)<=(aa .i64 (r2.1.2.2-(1:Int))))&&decide ((aa .i64 (r2.1.2.2-(1:Int)))<=(r2.1.1.length:Int))))
 (let x3:=(cut2 r2.1.1 (0:Int) (aa .i64 (r2.1.2.2-(1:Int))))
 gd (inB (aa .i64 (r2.1.2.2-(1:Int))) (r2.1.1.length))
 (let x4:=(bt r2.1.1 (aa .i64 (r2.1.2.2-(1:Int))))
 let x5:=([(aa .u8 (x4+(1:Int)))]:List Int)
 gd (decide (x3.length+ap (zmm x5)<maxS))
 (let x6:=(x3++(zmm x5))
 some (r2.1.1,x6))))))
 | none=>none
def z11(N:Nat)(rec:(List Z3)->(List Z0)->Int->(List Z3)->Option (Ty7_))(b0:(List Z3))(b1:(List Z0))(b2:Int)(b3:(List Z3)):Option (Ty7_):=
 bif (decide (b2<(b0.length:Int)))then
 (gd (inB b2 (b0.length))
 (match zoe N b1 ((rdL b0 b2 X5).1)with
 | some r1=>(bif r1 then
 (gd (inB b2 (b0.length))
 (gd (fits (b3.length+1) 40)
 (let x2:=(b3++([(rdL b0 b2 X5)]:List Z3))
 rec b0 b1 (aa .i64 (b2+(1:Int))) x2)))
 else
 (rec b0 b1 (aa .i64 (b2+(1:Int))) b3))
 | none=>none))
 else
 (some ((),(b3,())))
def z73(N:Nat)(n:Nat):=
 itF (fun _ _ _ _=>none) (z11 N) n
theorem zdb(N:Nat)(n:Nat):z73 N (n+1)=z11 N (z73 N n):=rfl
def zfm(N:Nat)(a0:(List Z3))(a1:(List Z0)):Option ((List Z3)):=
 match z73 N N a0 a1 (0:Int) ([]:List Z3)with
 | some r3=>(some r3.2.1)
 | none=>none
def ziq(N:Nat)(a0 a1 a2:(List UInt8)):Option (((List UInt8)×Bool)):=
 match z04 N a0 a1 with
 | some r1=>(bif (!r1)then
 (some (([]:List UInt8),false))
 else
 (gd (decide (0<=(a1.length:Int))&&(decide ((a1.length:Int)<=(a0.length:Int))&&decide ((a0.length:Int)<=(a0.length:Int))))
 (let x2:=(cut2 a0 (a1.length:Int) (a0.length:Int))
 gd (decide (a2.length+x2.length<maxS))
 (let x3:=(a2++x2)
 some (x3,true)))))
 | none=>none
def z2b(N:Nat)(rec:Int->Z1->(List Z3)->Option (Ty7_))(b0:Int)(b1:Z1)(b2:(List Z3)):Option (Ty7_):=
 bif (decide (b0<(b2.length:Int)))then
 (gd (inB b0 (b2.length))
 (match zbk N b1.2.2.2.1 ((rdL b2 b0 X5).1)with
 | some r6=>(bif r6 then
 (gd (inB b0 (b2.length))
 (let x7:=(setL b2 b0 ((rdL b2 b0 X5).1,(((rdL b2 b0 X5).2).1,b1.2.2.2.2.2.2)))
 rec (aa .i64 (b0+(1:Int))) b1 x7))
 else
 (rec (aa .i64 (b0+(1:Int))) b1 b2))
 | none=>none))
 else
 (some ((),(b2,())))
def z8c(N:Nat)(n:Nat):=
 itF (fun _ _ _=>none) (z2b N) n
theorem zew(N:Nat)(n:Nat):z8c N (n+1)=z2b N (z8c N n):=rfl
def z2c(N:Nat)(rec:Int->Z1->(List Z3)->(List Z3)->Option (Ty7_))(b0:Int)(b1:Z1)(b2:(List Z3))(b3:(List Z3)):Option (Ty7_):=
 bif (decide (b0<(b3.length:Int)))then
 (gd (inB b0 (b3.length))
 (match ziq N ((rdL b3 b0 X5).1) b1.2.2.2.2.1 b1.2.2.2.2.2.1 with
 | some r15=>(gd (inB b0 (b3.length))
 (gd (inB b0 (b3.length))
 (match z9e N b2 (r15.1,((rdL b3 b0 X5).2))with
 | some r16=>(rec (aa .i64 (b0+(1:Int))) b1 r16 b3)
 | none=>none)))
 | none=>none))
 else
 (some ((),(b2,())))
def z3x(N:Nat)(n:Nat):=
 itF (fun _ _ _ _=>none) (z2c N) n
theorem zex(N:Nat)(n:Nat):z3x N (n+1)=z2c N (z3x N n):=rfl
def z31(N:Nat)(a0:(List Z3))(a1:Z1):Option ((List Z3)):=
 bif (eqi a1.1 (1:Int))then
 (match z9e N a0 (a1.2.1,(a1.2.2.1,a1.2.2.2.2.2.2))with
 | some r1=>(some r1)
 | none=>none)
 else
 (bif (eqi a1.1 (2:Int))then
 (match z9s N a1.2.1 with
 | some r2=>(match z57 N a0 ([r2]:List Z0)with
 | some r3=>(some r3)
 | none=>none)
 | none=>none)
 else
 (bif (eqi a1.1 (3:Int))then
 (match z57 N a0 ([a1.2.2.2.1]:List Z0)with
 | some r4=>(some r4)
 | none=>none)
 else
 (bif (eqi a1.1 (6:Int))then
 (gd (fits (0+a0.length) 40)
 (let x5:=(([]:List Z3)++a0)
 match z8c N N (0:Int) a1 x5 with
 | some r8=>(some r8.2.1)
 | none=>none))
 else
 (match U2 N a1.2.2.2.2.2.1 with
 | some r9=>(match z57 N a0 ([r9]:List Z0)with
 | some r10=>(match U2 N a1.2.2.2.2.1 with
 | some r11=>(match zfm N a0 ([r11]:List Z0)with
 | some r12=>(bif (eqi a1.1 (4:Int))then
 (match U2 N a1.2.2.2.2.1 with
 | some r13=>(match z57 N r10 ([r13]:List Z0)with
 | some r14=>(match z3x N N (0:Int) a1 r14 r12 with
 | some r17=>(some r17.2.1)
 | none=>none)
 | none=>none)
 | none=>none)
 else
 (match z3x N N (0:Int) a1 r10 r12 with
 | some r18=>(some r18.2.1)
 | none=>none))
 | none=>none)
 | none=>none)
 | none=>none)
 | none=>none))))
def z3h(N:Nat)(rec:(List Int)->(List Z7)->Option (((Unit×Unit)×yjd)))(b0:(List Int))(b1:(List Z7)):Option (((Unit×Unit)×yjd)):=
 let x3:=(decide ((0:Int)<(b0.length:Int)))
 bif x3 then
 (gd (inB (0:Int) (b0.length))
 (gd (decide (0<=(1:Int))&&(decide ((1:Int)<=(b0.length:Int))&&decide ((b0.length:Int)<=(b0.length:Int))))
 (match z71 N b1 (rdL b0 (0:Int) (0:Int))with
 | some r4=>(bif (!r4)then
 (rec (cut2 b0 (1:Int) (b0.length:Int)) b1)
 else
 (gd (inB (rdL b0 (0:Int) (0:Int)) (b1.length))
 (let x5:=(((rdL b1 (rdL b0 (0:Int) (0:Int)) X2).2).2).1
 gd (inB (rdL b0 (0:Int) (0:Int)) (b1.length))
 (let x6:=(setL b1 (rdL b0 (0:Int) (0:Int)) ((rdL b1 (rdL b0 (0:Int) (0:Int)) X2).1,(((rdL b1 (rdL b0 (0:Int) (0:Int)) X2).2).1,((aa .i64 (x5-(1:Int))),((((rdL b1 (rdL b0 (0:Int) (0:Int)) X2).2).2).2)))))
 gd (inB (rdL b0 (0:Int) (0:Int)) (x6.length))
 (let x7:=(((rdL x6 (rdL b0 (0:Int) (0:Int)) X2).2).2).1
 bif (eqi x7 (0:Int))then
 (gd (fits (0+ap (cut2 b0 (1:Int) (b0.length:Int))) 8)
 (let x8:=(([]:List Int)++(cut2 b0 (1:Int) (b0.length:Int)))
 gd (inB (rdL b0 (0:Int) (0:Int)) (x6.length))
 (let x9:=((((((rdL x6 (rdL b0 (0:Int) (0:Int)) X2).2).2).2).2).2).1
 gd (fits (x8.length+x9.length) 8)
 (let x10:=(x8++x9)
 gd (inB (rdL b0 (0:Int) (0:Int)) (x6.length))
 (let x11:=(setL x6 (rdL b0 (0:Int) (0:Int)) (false,(false,((0:Int),(([]:List Z3),(([]:List (List UInt8)),(([]:List Int),(([]:List Y6),([]:List Z1)))))))))
 rec x10 x11)))))
 else
 (rec (cut2 b0 (1:Int) (b0.length:Int)) x6))))))
 | none=>none)))
 else
 (some (((),()),((),((),(b1,())))))
def z7g(N:Nat)(n:Nat):=
 itF (fun _ _=>none) (z3h N) n
theorem zgd(N:Nat)(n:Nat):z7g N (n+1)=z3h N (z7g N n):=rfl
def z2m(N:Nat)(a0:(List Z7))(a1:Int):Option (((List Z7)×Int)):=
 match z71 N a0 a1 with
 | some r1=>(bif (!r1)then
 (some (a0,(110:Int)))
 else
 (match z9b N a0 with
 | some r2=>(match z7g N N ([a1]:List Int) r2 with
 | some r12=>(some (r12.2.2.2.1,(0:Int)))
 | none=>none)
 | none=>none))
 | none=>none
def zk6(N:Nat)(a0:Y5)(a1:Z1):Option ((Y5×Int)):=
 (zb8 N a1).bind fun r1=>
 bif (!r1)then
 (some (a0,(50:Int)))
 else
 ((z9r N a0.1 a0.2.1).bind fun r2=>
 bif (!(eqi r2.2 (0:Int)))then
 (some (a0,r2.2))
 else
 (let x3:=(eqi (r2.1.2.2.1.length:Int) (0:Int))
 bif x3 then
 ((z31 N r2.1.1 a1).bind fun r4=>
 (z65 N a0.1 (r4,r2.1.2)).bind fun r5=>
 bif (!(eqi r5.2.2 (0:Int)))then
 (some (a0,r5.2.2))
 else
 ((z2m N r5.1 a0.2.1).bind fun r6=>
 some ((r6.1,(r5.2.1,a0.2.2)),(0:Int))))
 else
 (gd (fits (0+r2.1.2.2.2.2.length) 112)
 (let x7:=(([]:List Z1)++r2.1.2.2.2.2)
 gd (fits (x7.length+1) 112)
 (let x8:=(x7++([a1]:List Z1))
 (z65 N a0.1 (r2.1.1,(r2.1.2.1,(r2.1.2.2.1,(r2.1.2.2.2.1,x8))))).bind fun r9=>
 bif (!(eqi r9.2.2 (0:Int)))then
 (some (a0,r9.2.2))
 else
 ((z2m N r9.1 a0.2.1).bind fun r10=>
 some ((r10.1,(r9.2.1,a0.2.2)),(0:Int))))))))
def zdg(N:Nat)(a0 a1:(List UInt8)):Option (Bool):=
 bif (!(eqs a0 ([]:List UInt8)))then
 (bif (eqs a1 ([]:List UInt8))then
 (some true)
 else
 (some (lts a0 a1)))
 else
 (some false)
def zlo(N:Nat):Option (Z0):=
 some (([97]:List UInt8),([97]:List UInt8))
def z2n(N:Nat)(a0 a1:Z0):Option (Z0):=
 match zdg N a1.2 a0.2 with
 | some r1=>(bif r1 then
 (match z0h N ((bif !(lts a0.1 a1.1)then a0.1 else a1.1),a1.2)with
 | some r2=>(bif r2 then
 (match zlo N with
 | some r3=>(some r3)
 | none=>none)
 else
 (some ((bif !(lts a0.1 a1.1)then a0.1 else a1.1),a1.2)))
 | none=>none)
 else
 (match z0h N ((bif !(lts a0.1 a1.1)then a0.1 else a1.1),a0.2)with
 | some r4=>(bif r4 then
 (match zlo N with
 | some r5=>(some r5)
 | none=>none)
 else
 (some ((bif !(lts a0.1 a1.1)then a0.1 else a1.1),a0.2)))
 | none=>none))
 | none=>none
def z2e(N:Nat)(rec:(List (List UInt8))->(List UInt8)->Int->Z0->(List Z0)->Option (((Unit×(Unit×(List UInt8)))×yjc)))(b0:(List (List UInt8)))(b1:(List UInt8))(b2:Int)(b3:Z0)(b4:(List Z0)):Option (((Unit×(Unit×(List UInt8)))×yjc)):=
 bif (decide (b2<(b0.length:Int)))then
 (gd (inB b2 (b0.length))
 (match z2n N b3 (b1,(rdL b0 b2 ([]:List UInt8)))with
 | some r1=>(gd (fits (b4.length+1) 32)
 (let x2:=(b4++([r1]:List Z0))
 gd (inB b2 (b0.length))
 (rec b0 (rdL b0 b2 ([]:List UInt8)) (aa .i64 (b2+(1:Int))) b3 x2)))
 | none=>none))
 else
 (some (((),((),b1)),(b3,(b4,()))))
def z8f(N:Nat)(n:Nat):=
 itF (fun _ _ _ _ _=>none) (z2e N) n
theorem zez(N:Nat)(n:Nat):z8f N (n+1)=z2e N (z8f N n):=rfl
def ze0(N:Nat)(a0:Z0)(a1:(List (List UInt8))):Option ((List Z0)):=
 match z8f N N a1 ([]:List UInt8) (0:Int) a0 ([]:List Z0)with
 | some r3=>(match z2n N r3.2.1 (r3.1.2.2,([]:List UInt8))with
 | some r4=>(gd (fits (r3.2.2.1.length+1) 32)
 (let x5:=(r3.2.2.1++([r4]:List Z0))
 some x5))
 | none=>none)
 | none=>none
def z8n(N:Nat)(a0:Z5)(a1:Z0):Option ((List Z0)):=
 bif (eqi (a0.2.2.1.length:Int) (0:Int))then
 (some ([]:List Z0))
 else
 (match ze0 N a1 a0.2.1 with
 | some r1=>(some r1)
 | none=>none)
def zjd(N:Nat)(b0:(List Int))(b1:Int)(b2:Y5)(b3:Z5)(b4:Z0):Option (Ty4_⊕(((List Int)×(Unit×(Unit×(Unit×(Int×(Unit×Int))))))×(Y5×(Unit×yet)))):=
 gd (inB b1 (b0.length))
 (bif (decide ((rdL b0 b1 (0:Int))<(0:Int)))then
 (some (.inl ((),(((),((),((),((),((),(([]:List UInt8),(([]:List UInt8),(140:Int)))))))),(([]:List Z3),(([]:List (List UInt8)),(([]:List Int),(([]:List Y6),(([]:List Z1),())))))))))
 else
 (gd (inB b1 (b0.length))
 (let x2:=(decide ((b3.2.2.1.length:Int)<=(rdL b0 b1 (0:Int))))
 bif x2 then
 (some (.inl ((),(((),((),((),((),((),(([]:List UInt8),(([]:List UInt8),(140:Int)))))))),(([]:List Z3),(([]:List (List UInt8)),(([]:List Int),(([]:List Y6),(([]:List Z1),())))))))))
 else
 ((z8n N b3 b4).bind fun r3=>
 gd (inB b1 (b0.length))
 (gd (inB (rdL b0 b1 (0:Int)) (r3.length))
 (gd (inB b1 (b0.length))
 (gd (inB (rdL b0 b1 (0:Int)) (b3.2.2.1.length))
 (let x4:=(rdL b3.2.2.1 (rdL b0 b1 (0:Int)) (0:Int))
 (z9r N b2.1 x4).bind fun r5=>
 some (.inr ((b0,((),((),((),(r5.2,((),(aa .i64 (b1+(1:Int))))))))),(b2,((),(r5.1,((rdL r3 (rdL b0 b1 (0:Int)) Y7),()))))))))))))))
def z3c(N:Nat)(rec:(List Int)->Int->Int->Y5->Z5->Z0->Option (Ty4_⊕((Unit×(Unit×(Int×Unit)))×(Unit×yet))))(b0:(List Int))(b1 b2:Int)(b3:Y5)(b4:Z5)(b5:Z0):Option (Ty4_⊕((Unit×(Unit×(Int×Unit)))×(Unit×yet))):=
 bif (decide (b2<(b0.length:Int)))then
 (bif (eqi b1 (0:Int))then
 ((zjd N b0 b2 b3 b4 b5).bind fun r6=>
 match r6 with
 | .inl r7=>(some (.inl ((),(((),((),((),((),((),(r7.2.1.2.2.2.2.2.1,(r7.2.1.2.2.2.2.2.2.1,r7.2.1.2.2.2.2.2.2.2))))))),(r7.2.2.1,(r7.2.2.2.1,(r7.2.2.2.2.1,(r7.2.2.2.2.2.1,(r7.2.2.2.2.2.2.1,())))))))))
 | .inr r8=>(rec r8.1.1 r8.1.2.2.2.2.1 r8.1.2.2.2.2.2.2 r8.2.1 r8.2.2.2.1 r8.2.2.2.2.1))
 else
 (some (.inr (((),((),(b1,()))),((),(b4,(b5,())))))))
 else
 (some (.inr (((),((),(b1,()))),((),(b4,(b5,()))))))
def za6(N:Nat)(n:Nat):=
 itF (fun _ _ _ _ _ _=>none) (z3c N) n
theorem zg8(N:Nat)(n:Nat):za6 N (n+1)=z3c N (za6 N n):=rfl
def z8v(N:Nat)(a0:Y5)(a1:(List Int)):Option (zfx):=
 (z9r N a0.1 a0.2.1).bind fun r1=>
 (za6 N N a1 r1.2 (0:Int) a0 r1.1 (([]:List UInt8),([]:List UInt8))).bind fun r9=>
 match r9 with
 | .inl r10=>(some ((r10.2.2.1,(r10.2.2.2.1,(r10.2.2.2.2.1,(r10.2.2.2.2.2.1,r10.2.2.2.2.2.2.1)))),((r10.2.1.2.2.2.2.2.1,r10.2.1.2.2.2.2.2.2.1),r10.2.1.2.2.2.2.2.2.2)))
 | .inr r11=>(bif (!(eqi r11.1.2.2.1 (0:Int)))then
 (some ((([]:List Z3),(([]:List (List UInt8)),(([]:List Int),(([]:List Y6),([]:List Z1))))),((([]:List UInt8),([]:List UInt8)),r11.1.2.2.1)))
 else
 (some (r11.2.2.1,(r11.2.2.2.1,(0:Int)))))
def zlk(N:Nat)(a0:Z5)(a1:V8):Option (Bool):=
 bif (eqi (a0.2.2.1.length:Int) (0:Int))then
 (some (decide (a1.1<(a0.1.length:Int))))
 else
 (let x1:=(decide (a1.2.1<(a0.2.2.1.length:Int)))
 bif x1 then
 (some true)
 else
 (let x2:=(decide (a1.2.2<(a0.2.2.2.2.length:Int)))
 some x2))
def zd2(N:Nat)(a0:(List Int))(a1:Int):Option ((List Int)):=
 gd (fits (0+a0.length) 8)
 (let x1:=(([]:List Int)++a0)
 gd (fits (x1.length+1) 8)
 (let x2:=(x1++([a1]:List Int))
 some x2))
def z1x(N:Nat)(self:Y5->(List Int)->Bool->Option (K2))(rec:(List Int)->Bool->Int->Y5->zfx->Option ((Unit×(K2×Unit))⊕(Unit×(Unit×Unit))))(b0:(List Int))(b1:Bool)(b2:Int)(b3:Y5)(b4:zfx):Option ((Unit×(K2×Unit))⊕(Unit×(Unit×Unit))):=
 let x4:=(decide (b2<(b4.1.2.2.1.length:Int)))
 bif x4 then
 ((zd2 N b0 b2).bind fun r5=>
 (self b3 r5 b1).bind fun r6=>
 bif r6.2 then
 (some (.inl ((),(r6,()))))
 else
 (rec b0 b1 (aa .i64 (b2+(1:Int))) b3 b4))
 else
 (some (.inr ((),((),()))))
def J7(N:Nat)(self:Y5->(List Int)->Bool->Option (K2))(n:Nat):=
 itF (fun _ _ _ _ _=>none) (z1x N self) n
theorem z9h(N:Nat)(self:Y5->(List Int)->Bool->Option (K2))(n:Nat):J7 N self (n+1)=z1x N self (J7 N self n):=rfl
def z5h(N:Nat)(self:Y5->(List Int)->Bool->Option (K2))(a0:Y5)(a1:(List Int))(a2:Bool):Option (K2):=
 (z8v N a0 a1).bind fun r1=>
 bif (!(eqi r1.2.2 (0:Int)))then
 (some (([]:List Int),false))
 else
 ((zlk N r1.1 a0.2.2).bind fun r2=>
 bif r2 then
 (some (a1,true))
 else
 (bif a2 then
 (let x3:=(decide ((0:Int)<(r1.1.2.2.2.2.length:Int)))
 bif x3 then
 (some (a1,true))
 else
 ((J7 N self N a1 a2 (0:Int) a0 r1).bind fun r7=>
 match r7 with
 | .inl r8=>(some r8.2.1)
 | .inr r9=>(some (([]:List Int),false))))
 else
 ((J7 N self N a1 a2 (0:Int) a0 r1).bind fun r10=>
 match r10 with
 | .inl r11=>(some r11.2.1)
 | .inr r12=>(some (([]:List Int),false)))))
def w6(N n:Nat):Y5->(List Int)->Bool->Option (K2):=
 itF (fun _ _ _=>none) (z5h N) n
theorem zm7(N n:Nat):w6 N (n+1)=z5h N (w6 N n):=rfl
def zyi(N:Nat):Y5->(List Int)->Bool->Option (K2):=
 w6 N N
def z1y(N:Nat)(rec:Int->Int->Int->(List Int)->Option ((Unit×((List Int)×Unit))))(b0 b1 b2:Int)(b3:(List Int)):Option ((Unit×((List Int)×Unit))):=
 bif (decide (b2<b1))then
 (gd (!(eqi b1 0))
 (gd (!(eqi b1 0))
 (bif (decide (b2<(aJ b0 b1)))then
 (let x2:=(aa .i64 ((aa .i64 (dc b0 b1))+(1:Int)))
 gd (fits (b3.length+1) 8)
 (let x3:=(b3++([x2]:List Int))
 rec b0 b1 (aa .i64 (b2+(1:Int))) x3))
 else
 (let x4:=([(aa .i64 (dc b0 b1))]:List Int)
 gd (fits (b3.length+x4.length) 8)
 (let x5:=(b3++x4)
 rec b0 b1 (aa .i64 (b2+(1:Int))) x5)))))
 else
 (some ((),(b3,())))
def z84(N:Nat)(n:Nat):=
 itF (fun _ _ _ _=>none) (z1y N) n
theorem zem(N:Nat)(n:Nat):z84 N (n+1)=z1y N (z84 N n):=rfl
def z54(N:Nat)(a0 a1:Int):Option ((List Int)):=
 bif (decide (a1<(1:Int)))then
 (some ([]:List Int))
 else
 (bif (decide (a0<(1:Int)))then
 (some ([]:List Int))
 else
 (gd (!(eqi a1 0))
 (let x1:=(aa .i64 (dc (aa .i64 (a0-(1:Int))) a1))
 (z84 N N a0 (aa .i64 (x1+(1:Int))) (0:Int) ([]:List Int)).bind fun r6=>
 some r6.2.1)))
def z0v(N:Nat)(rec:(List Z3)->Int->Int->(List (List Z3))->(List Int)->Option ((Unit×((List (List Z3))×Unit))))(b0:(List Z3))(b1 b2:Int)(b3:(List (List Z3)))(b4:(List Int)):Option ((Unit×((List (List Z3))×Unit))):=
 bif (decide (b2<(b4.length:Int)))then
 (gd (inB b2 (b4.length))
 (let x2:=(aa .i64 (b1+(rdL b4 b2 (0:Int))))
 gd (decide (0<=b1)&&(decide (b1<=x2)&&decide (x2<=(b0.length:Int))))
 (gd (fits (b3.length+1) 24)
 (let x3:=(b3++([(cut2 b0 b1 x2)]:List (List Z3)))
 gd (inB b2 (b4.length))
 (let x4:=(aa .i64 (b1+(rdL b4 b2 (0:Int))))
 rec b0 x4 (aa .i64 (b2+(1:Int))) x3 b4)))))
 else
 (some ((),(b3,())))
def z6y(N:Nat)(n:Nat):=
 itF (fun _ _ _ _ _=>none) (z0v N) n
theorem zd3(N:Nat)(n:Nat):z6y N (n+1)=z0v N (z6y N n):=rfl
def zfj(N:Nat)(a0:(List Z3))(a1:Int):Option ((List (List Z3))):=
 (z54 N (a0.length:Int) a1).bind fun r1=>
 (z6y N N a0 (0:Int) (0:Int) ([]:List (List Z3)) r1).bind fun r5=>
 some r5.2.1
def z3d(N:Nat)(rec:Int->(List (List Z3))->(List Z5)->(List (List UInt8))->(List Z1)->Option ypu)(b0:Int)(b1:(List (List Z3)))(b2:(List Z5))(b3:(List (List UInt8)))(b4:(List Z1)):Option ypu:=
 bif (decide (b0<(b1.length:Int)))then
 (gd (inB b0 (b1.length))
 (let x3:=([((rdL b1 b0 ([]:List Z3)),(([]:List (List UInt8)),(([]:List Int),(([]:List Y6),([]:List Z1)))))]:List Z5)
 gd (fits (b2.length+x3.length) 120)
 (let x4:=(b2++x3)
 bif (decide ((0:Int)<b0))then
 (gd (inB b0 (b1.length))
 (gd (inB (0:Int) (ap (rdL b1 b0 ([]:List Z3))))
 (let x5:=(rdL (rdL b1 b0 ([]:List Z3)) (0:Int) X5)
 gd (fits (b3.length+1) 16)
 (let x6:=(b3++([x5.1]:List (List UInt8)))
 rec (aa .i64 (b0+(1:Int))) b1 x4 x6 b4))))
 else
 (rec (aa .i64 (b0+(1:Int))) b1 x4 b3 b4))))
 else
 (some (((),()),((),(((),((),())),(b2,(b3,(b4,())))))))
def za7(N:Nat)(n:Nat):=
 itF (fun _ _ _ _ _=>none) (z3d N) n
theorem zg9(N:Nat)(n:Nat):za7 N (n+1)=z3d N (za7 N n):=rfl
def zd4(N:Nat)(a0:Z5)(a1:V8):Option (zjq):=
 (zfj N a0.1 a1.1).bind fun r1=>
 bif (eqi (r1.length:Int) (0:Int))then
 (let x2:=([(([]:List Z3),(([]:List (List UInt8)),(([]:List Int),(([]:List Y6),([]:List Z1)))))]:List Z5)
 some (x2,(([]:List (List UInt8)),([]:List Z1))))
 else
 ((za7 N N (0:Int) r1 ([]:List Z5) ([]:List (List UInt8)) ([]:List Z1)).bind fun r7=>
 some (r7.2.2.2.1,(r7.2.2.2.2.1,r7.2.2.2.2.2.1)))
def z4p(N:Nat)(rec:(List Z5)->Int->(List Z7)->Int->(List Int)->Option yq0)(b0:(List Z5))(b1:Int)(b2:(List Z7))(b3:Int)(b4:(List Int)):Option yq0:=
 bif (decide (b1<(b0.length:Int)))then
 (gd (inB b1 (b0.length))
 ((z65 N b2 (rdL b0 b1 zhr)).bind fun r1=>
 bif (!(eqi r1.2.2 (0:Int)))then
 (some (.inl ((),(((),((),r1.2.2)),(([]:List Z7),(([]:List Int),()))))))
 else
 (gd (fits (b4.length+1) 8)
 (let x2:=(b4++([r1.2.1]:List Int))
 rec b0 (aa .i64 (b1+(1:Int))) r1.1 b3 x2))))
 else
 (some (.inr (((),()),((),((b2,((),b3)),(b4,()))))))
def z4y(N:Nat)(n:Nat):=
 itF (fun _ _ _ _ _=>none) (z4p N) n
theorem zi5(N:Nat)(n:Nat):z4y N (n+1)=z4p N (z4y N n):=rfl
def zdq(N:Nat)(a0:(List Z7))(a1:(List Z5)):Option (zal):=
 (z4y N N a1 (0:Int) a0 (0:Int) ([]:List Int)).bind fun r3=>
 match r3 with
 | .inl r4=>(some (r4.2.2.1,(r4.2.2.2.1,r4.2.1.2.2)))
 | .inr r5=>(some (r5.2.2.1.1,(r5.2.2.2.1,r5.2.2.1.2.2)))
def z3y(N:Nat)(b0:(List UInt8))(b1:Int)(b2:(List UInt8))(b3:G4):Option ((Unit×(G4×Unit))):=
 bif (eqi b3.2.1 (3:Int))then
 (bif (eqi b3.2.1 (1:Int))then
 (bif (decide ((0:Int)<b1))then
 (gd (inB (0:Int) (b0.length))
 (bif (eqi (bt b0 (0:Int)) (6:Int))then
 (gd (decide (0<=(1:Int))&&(decide ((1:Int)<=b1)&&decide (b1<=(b0.length:Int))))
 (some ((),(((cut2 b0 (1:Int) b1),((4:Int),(b3.2.2.1,b2))),()))))
 else
 (some ((),((b3.1,(b3.2.1,(b3.2.2.1,b2))),())))))
 else
 (some ((),((b3.1,(b3.2.1,(b3.2.2.1,b2))),()))))
 else
 (some ((),((b3.1,(b3.2.1,(b3.2.2.1,b2))),()))))
 else
 (bif (eqi b3.2.1 (1:Int))then
 (bif (decide ((0:Int)<b1))then
 (gd (inB (0:Int) (b0.length))
 (bif (eqi (bt b0 (0:Int)) (6:Int))then
 (gd (decide (0<=(1:Int))&&(decide ((1:Int)<=b1)&&decide (b1<=(b0.length:Int))))
 (some ((),(((cut2 b0 (1:Int) b1),((4:Int),b3.2.2)),()))))
 else
 (some ((),(b3,())))))
 else
 (some ((),(b3,()))))
 else
 (some ((),(b3,()))))
def zis(N:Nat)(a0:(List UInt8))(a1:Int):Option (G4):=
 gd (decide (0<=(0:Int))&&(decide ((0:Int)<=a1)&&decide (a1<=(a0.length:Int))))
 (gd (inB a1 (a0.length))
 (gd (decide (0<=(aa .i64 (a1+(1:Int))))&&(decide ((aa .i64 (a1+(1:Int)))<=(a0.length:Int))&&decide ((a0.length:Int)<=(a0.length:Int))))
 (let x1:=(cut2 a0 (aa .i64 (a1+(1:Int))) (a0.length:Int))
 let x2:=(eqi (aa .i64 ((bt a0 a1))) (2:Int))
 bif x2 then
 (bif (eqi (x1.length:Int) (2:Int))then
 (gd (inB (0:Int) (x1.length))
 (let x3:=(aa .i64 ((256:Int)*(aa .i64 ((bt x1 (0:Int))))))
 gd (inB (1:Int) (x1.length))
 (let x4:=(aa .i64 (x3+(aa .i64 ((bt x1 (1:Int))))))
 match z3y N a0 a1 x1 ((cut2 a0 (0:Int) a1),((aa .i64 ((bt a0 a1))),(x4,([]:List UInt8))))with
 | some r5=>(some r5.2.1)
 | none=>none)))
 else
 (match z3y N a0 a1 x1 ((cut2 a0 (0:Int) a1),((aa .i64 ((bt a0 a1))),((0:Int),([]:List UInt8))))with
 | some r6=>(some r6.2.1)
 | none=>none))
 else
 (match z3y N a0 a1 x1 ((cut2 a0 (0:Int) a1),((aa .i64 ((bt a0 a1))),((0:Int),([]:List UInt8))))with
 | some r7=>(some r7.2.1)
 | none=>none))))
def z2i(N:Nat)(rec:(List UInt8)->(List UInt8)->Int->(List (List UInt8))->Option (((Unit×(List UInt8))×((List (List UInt8))×Unit))))(b0 b1:(List UInt8))(b2:Int)(b3:(List (List UInt8))):Option (((Unit×(List UInt8))×((List (List UInt8))×Unit))):=
 bif (decide (b2<(b0.length:Int)))then
 (gd (inB b2 (b0.length))
 (bif (eqi (bt b0 b2) (47:Int))then
 (gd (fits (b3.length+1) 16)
 (let x1:=(b3++([b1]:List (List UInt8)))
 rec b0 ([]:List UInt8) (aa .i64 (b2+(1:Int))) x1))
 else
 (gd (decide (0<=b2)&&(decide (b2<=(aa .i64 (b2+(1:Int))))&&decide ((aa .i64 (b2+(1:Int)))<=(b0.length:Int))))
 (let x2:=(cut2 b0 b2 (aa .i64 (b2+(1:Int))))
 gd (decide (b1.length+x2.length<maxS))
 (let x3:=(b1++x2)
 rec b0 x3 (aa .i64 (b2+(1:Int))) b3)))))
 else
 (some (((),b1),(b3,())))
def z8i(N:Nat)(n:Nat):=
 itF (fun _ _ _ _=>none) (z2i N) n
theorem zf3(N:Nat)(n:Nat):z8i N (n+1)=z2i N (z8i N n):=rfl
def zit(N:Nat)(a0:(List UInt8)):Option (((List (List UInt8))×Bool)):=
 match z8i N N a0 ([]:List UInt8) (0:Int) ([]:List (List UInt8))with
 | some r4=>(some (r4.2.1,(eqs r4.1.2 ([]:List UInt8))))
 | none=>none
def z3n(N:Nat)(rec:(List UInt8)->Int->Option Ty3_)(b0:(List UInt8))(b1:Int):Option Ty3_:=
 bif (decide (b1<(b0.length:Int)))then
 (gd (inB b1 (b0.length))
 (bif (decide ((bt b0 b1)<(33:Int)))then
 (some (.inl (false,())))
 else
 (gd (inB b1 (b0.length))
 (bif (decide ((126:Int)<(bt b0 b1)))then
 (some (.inl (false,())))
 else
 (gd (inB b1 (b0.length))
 (bif (eqi (bt b0 b1) (47:Int))then
 (some (.inl (false,())))
 else
 (rec b0 (aa .i64 (b1+(1:Int))))))))))
 else
 (some (.inr ((),())))
def zaf(N:Nat)(n:Nat):=
 itF (fun _ _=>none) (z3n N) n
theorem zgj(N:Nat)(n:Nat):zaf N (n+1)=z3n N (zaf N n):=rfl
def z8z(N:Nat)(a0:(List UInt8)):Option (Bool):=
 let x1:=(decide ((a0.length:Int)<(1:Int)))
 bif x1 then
 (some false)
 else
 (let x2:=(decide ((12:Int)<(a0.length:Int)))
 bif x2 then
 (some false)
 else
 (bif (eqs a0 ([46]:List UInt8))then
 (some false)
 else
 (bif (eqs a0 ([46,46]:List UInt8))then
 (some false)
 else
 (match zaf N N a0 (0:Int)with
 | some r3=>(match r3 with
 | .inl r4=>(some r4.1)
 | .inr r5=>(some true))
 | none=>none))))
def z2g(N:Nat)(rec:Bool->Int->(List (List UInt8))->Option ((Bool×Unit)⊕(Bool×Unit)))(b0:Bool)(b1:Int)(b2:(List (List UInt8))):Option ((Bool×Unit)⊕(Bool×Unit)):=
 bif (decide (b1<(b2.length:Int)))then
 (gd (inB b1 (b2.length))
 (match z8z N (rdL b2 b1 ([]:List UInt8))with
 | some r2=>(bif (!r2)then
 (some (.inl (false,())))
 else
 (rec b0 (aa .i64 (b1+(1:Int))) b2))
 | none=>none))
 else
 (some (.inr (b0,())))
def z8g(N:Nat)(n:Nat):=
 itF (fun _ _ _=>none) (z2g N) n
theorem zf1(N:Nat)(n:Nat):z8g N (n+1)=z2g N (z8g N n):=rfl
def z8r(N:Nat)(a0:(List UInt8)):Option (Bool):=
 match zit N a0 with
 | some r1=>(match z8g N N r1.2 (0:Int) r1.1 with
 | some r3=>(match r3 with
 | .inl r4=>(some r4.1)
 | .inr r5=>(some r5.1))
 | none=>none)
 | none=>none
def z3o(N:Nat)(rec:Int->(List UInt8)->Int->Option (((List UInt8)×Unit)))(b0:Int)(b1:(List UInt8))(b2:Int):Option (((List UInt8)×Unit)):=
 bif (decide (b2<(8:Int)))then
 (let x1:=(aa .i64 ((aJ b0 (16:Int))+(1:Int)))
 gd (decide (0<=(aJ b0 (16:Int)))&&(decide ((aJ b0 (16:Int))<=x1)&&decide (x1<=(ap ([48,49,50,51,52,53,54,55,56,57,97,98,99,100,101,102]:List UInt8):Int))))
 (let x2:=(cut2 ([48,49,50,51,52,53,54,55,56,57,97,98,99,100,101,102]:List UInt8) (aJ b0 (16:Int)) x1)
 gd (decide (x2.length+b1.length<maxS))
 (let x3:=(x2++b1)
 rec (aa .i64 (dc b0 (16:Int))) x3 (aa .i64 (b2+(1:Int))))))
 else
 (some (b1,()))
def zag(N:Nat)(n:Nat):=
 itF (fun _ _ _=>none) (z3o N) n
theorem zgk(N:Nat)(n:Nat):zag N (n+1)=z3o N (zag N n):=rfl
def zlp(N:Nat)(a0:Int):Option ((List UInt8)):=
 bif (decide (a0<(0:Int)))then
 (some ([]:List UInt8))
 else
 (bif (decide ((2147483647:Int)<a0))then
 (some ([]:List UInt8))
 else
 (match zag N N a0 ([]:List UInt8) (0:Int)with
 | some r4=>(gd (decide (ap ([5]:List UInt8)+r4.1.length<maxS))
 (let x5:=(([5]:List UInt8)++r4.1)
 gd (decide (x5.length+ap ([47]:List UInt8)<maxS))
 (let x6:=(x5++([47]:List UInt8))
 some x6)))
 | none=>none))
def z17(N:Nat)(rec:(List UInt8)->Int->Int->Option ((((List UInt8)×Int)×Unit)))(b0:(List UInt8))(b1 b2:Int):Option ((((List UInt8)×Int)×Unit)):=
 bif (decide (b2<(9:Int)))then
 (gd (inB b2 (b0.length))
 (let x1:=(decide ((48:Int)<=(aa .i64 ((bt b0 b2)))))
 bif x1 then
 (let x2:=(decide ((aa .i64 ((bt b0 b2)))<=(57:Int)))
 bif x2 then
 (let x3:=(aa .i64 ((aa .i64 ((16:Int)*b1))+(aa .i64 ((bt b0 b2)))))
 rec b0 (aa .i64 (x3-(48:Int))) (aa .i64 (b2+(1:Int))))
 else
 (let x4:=(aa .i64 ((aa .i64 ((16:Int)*b1))+(aa .i64 ((bt b0 b2)))))
 let x5:=(aa .i64 ((aa .i64 (x4-(97:Int)))+(10:Int)))
 rec b0 x5 (aa .i64 (b2+(1:Int)))))
 else
 (let x6:=(aa .i64 ((aa .i64 ((16:Int)*b1))+(aa .i64 ((bt b0 b2)))))
 let x7:=(aa .i64 ((aa .i64 (x6-(97:Int)))+(10:Int)))
 rec b0 x7 (aa .i64 (b2+(1:Int))))))
 else
 (some ((b0,b1),()))
def z76(N:Nat)(n:Nat):=
 itF (fun _ _ _=>none) (z17 N) n
theorem zdh(N:Nat)(n:Nat):z76 N (n+1)=z17 N (z76 N n):=rfl
def z9f(N:Nat)(a0:(List UInt8)):Option (Bool):=
 bif (!(eqi (a0.length:Int) (10:Int)))then
 (some false)
 else
 (match z76 N N a0 (0:Int) (1:Int)with
 | some r8=>(match zlp N r8.1.2 with
 | some r9=>(some (eqs r9 r8.1.1))
 | none=>none)
 | none=>none)
def K4(N:Nat)(b0:Bool)(b1:G4):Option ((Bool×Unit)⊕(Unit×(G4×Unit))):=
 bif b0 then
 (some (.inl (false,())))
 else
 (some (.inr ((),(b1,()))))
def Q3(N:Nat)(b0:G4):Option ((Bool×Unit)):=
 bif (eqi b0.2.1 (1:Int))then
 (some (true,()))
 else
 (bif (eqi b0.2.1 (2:Int))then
 (bif (decide ((0:Int)<=b0.2.2.1))then
 (some ((decide (b0.2.2.1<=(60000:Int))),()))
 else
 (some (false,())))
 else
 (bif (eqi b0.2.1 (3:Int))then
 (match z8z N b0.2.2.2 with
 | some r6=>(some (r6,()))
 | none=>none)
 else
 (bif (eqi b0.2.1 (4:Int))then
 (match z8r N b0.1 with
 | some r7=>(some (r7,()))
 | none=>none)
 else
 (some (false,())))))
def zir(N:Nat)(a0:G4):Option (Bool):=
 match z8r N a0.1 with
 | some r1=>(bif (!r1)then
 (match z9f N a0.1 with
 | some r2=>(bif (!r2)then
 (match K4 N true a0 with
 | some r3=>(match r3 with
 | .inl r4=>(some r4.1)
 | .inr r5=>(match Q3 N r5.2.1 with
 | some r8=>(some r8.1)
 | none=>none))
 | none=>none)
 else
 (bif (!(eqi a0.2.1 (2:Int)))then
 (bif (!(eqi a0.2.2.1 (0:Int)))then
 (match K4 N true a0 with
 | some r9=>(match r9 with
 | .inl r10=>(some r10.1)
 | .inr r11=>(match Q3 N r11.2.1 with
 | some r12=>(some r12.1)
 | none=>none))
 | none=>none)
 else
 (bif (!(eqi a0.2.1 (3:Int)))then
 (match K4 N (!(eqs a0.2.2.2 ([]:List UInt8))) a0 with
 | some r13=>(match r13 with
 | .inl r14=>(some r14.1)
 | .inr r15=>(match Q3 N r15.2.1 with
 | some r16=>(some r16.1)
 | none=>none))
 | none=>none)
 else
 (match K4 N false a0 with
 | some r17=>(match r17 with
 | .inl r18=>(some r18.1)
 | .inr r19=>(match Q3 N r19.2.1 with
 | some r20=>(some r20.1)
 | none=>none))
 | none=>none)))
 else
 (bif (!(eqi a0.2.1 (3:Int)))then
 (match K4 N (!(eqs a0.2.2.2 ([]:List UInt8))) a0 with
 | some r21=>(match r21 with
 | .inl r22=>(some r22.1)
 | .inr r23=>(match Q3 N r23.2.1 with
 | some r24=>(some r24.1)
 | none=>none))
 | none=>none)
 else
 (match K4 N false a0 with
 | some r25=>(match r25 with
 | .inl r26=>(some r26.1)
 | .inr r27=>(match Q3 N r27.2.1 with
 | some r28=>(some r28.1)
 | none=>none))
 | none=>none))))
 | none=>none)
 else
 (bif (!(eqi a0.2.1 (2:Int)))then
 (bif (!(eqi a0.2.2.1 (0:Int)))then
 (match K4 N true a0 with
 | some r29=>(match r29 with
 | .inl r30=>(some r30.1)
 | .inr r31=>(match Q3 N r31.2.1 with
 | some r32=>(some r32.1)
 | none=>none))
 | none=>none)
 else
 (bif (!(eqi a0.2.1 (3:Int)))then
 (match K4 N (!(eqs a0.2.2.2 ([]:List UInt8))) a0 with
 | some r33=>(match r33 with
 | .inl r34=>(some r34.1)
 | .inr r35=>(match Q3 N r35.2.1 with
 | some r36=>(some r36.1)
 | none=>none))
 | none=>none)
 else
 (match K4 N false a0 with
 | some r37=>(match r37 with
 | .inl r38=>(some r38.1)
 | .inr r39=>(match Q3 N r39.2.1 with
 | some r40=>(some r40.1)
 | none=>none))
 | none=>none)))
 else
 (bif (!(eqi a0.2.1 (3:Int)))then
 (match K4 N (!(eqs a0.2.2.2 ([]:List UInt8))) a0 with
 | some r41=>(match r41 with
 | .inl r42=>(some r42.1)
 | .inr r43=>(match Q3 N r43.2.1 with
 | some r44=>(some r44.1)
 | none=>none))
 | none=>none)
 else
 (match K4 N false a0 with
 | some r45=>(match r45 with
 | .inl r46=>(some r46.1)
 | .inr r47=>(match Q3 N r47.2.1 with
 | some r48=>(some r48.1)
 | none=>none))
 | none=>none))))
 | none=>none
def zoz(N:Nat)(a0:G4):Option (((List UInt8)×Int)):=
 match zir N a0 with
 | some r1=>(bif (!r1)then
 (some (([]:List UInt8),(12:Int)))
 else
 (bif (eqi a0.2.1 (1:Int))then
 (gd (decide (a0.1.length+ap ([1]:List UInt8)<maxS))
 (let x2:=(a0.1++([1]:List UInt8))
 some (x2,(0:Int))))
 else
 (bif (eqi a0.2.1 (2:Int))then
 (gd (decide (a0.1.length+ap ([2]:List UInt8)<maxS))
 (let x3:=(a0.1++([2]:List UInt8))
 let x4:=(aa .i64 (dc a0.2.2.1 (256:Int)))
 let x5:=(aa .u8 ((aJ a0.2.2.1 (256:Int))))
 let x6:=(zmm ([(aa .u8 (x4)),x5]:List Int))
 gd (decide (x3.length+x6.length<maxS))
 (let x7:=(x3++x6)
 some (x7,(0:Int)))))
 else
 (bif (eqi a0.2.1 (3:Int))then
 (gd (decide (a0.1.length+ap ([3]:List UInt8)<maxS))
 (let x8:=(a0.1++([3]:List UInt8))
 gd (decide (x8.length+a0.2.2.2.length<maxS))
 (let x9:=(x8++a0.2.2.2)
 some (x9,(0:Int)))))
 else
 (gd (decide (ap ([6]:List UInt8)+a0.1.length<maxS))
 (let x10:=(([6]:List UInt8)++a0.1)
 gd (decide (x10.length+ap ([1]:List UInt8)<maxS))
 (let x11:=(x10++([1]:List UInt8))
 some (x11,(0:Int)))))))))
 | none=>none
def z2h(N:Nat)(rec:(List UInt8)->Int->Option (((Unit×Int)×(G4×Unit))⊕(Unit×(Unit×Unit))))(b0:(List UInt8))(b1:Int):Option (((Unit×Int)×(G4×Unit))⊕(Unit×(Unit×Unit))):=
 bif (decide (b1<(b0.length:Int)))then
 (gd (inB b1 (b0.length))
 (bif (decide ((bt b0 b1)<(1:Int)))then
 (rec b0 (aa .i64 (b1+(1:Int))))
 else
 (gd (inB b1 (b0.length))
 (bif (decide ((3:Int)<(bt b0 b1)))then
 (rec b0 (aa .i64 (b1+(1:Int))))
 else
 (match zis N b0 b1 with
 | some r1=>(match zoz N r1 with
 | some r2=>(bif (eqi r2.2 (0:Int))then
 (bif (eqs r2.1 b0)then
 (some (.inl (((),(0:Int)),(r1,()))))
 else
 (rec b0 (aa .i64 (b1+(1:Int)))))
 else
 (rec b0 (aa .i64 (b1+(1:Int)))))
 | none=>none)
 | none=>none)))))
 else
 (some (.inr ((),((),()))))
def z8h(N:Nat)(n:Nat):=
 itF (fun _ _=>none) (z2h N) n
theorem zf2(N:Nat)(n:Nat):z8h N (n+1)=z2h N (z8h N n):=rfl
def ze2(N:Nat)(a0:(List UInt8)):Option ((G4×Int)):=
 match z8h N N a0 (0:Int)with
 | some r3=>(match r3 with
 | .inl r4=>(some (r4.2.1,r4.1.2))
 | .inr r5=>(some ((([]:List UInt8),((0:Int),((0:Int),([]:List UInt8)))),(12:Int))))
 | none=>none
def zfo(N:Nat)(a0:Z3):Option (z9u):=
 match ze2 N a0.1 with
 | some r1=>(bif (!(eqi r1.2 (0:Int)))then
 (some ((0:Int),(0:Int)))
 else
 (bif (eqi r1.1.2.1 (1:Int))then
 (some ((1:Int),(0:Int)))
 else
 (bif (eqi r1.1.2.1 (2:Int))then
 (some ((0:Int),(a0.2.1.length:Int)))
 else
 (bif (eqi r1.1.2.1 (3:Int))then
 (some ((0:Int),(a0.2.1.length:Int)))
 else
 (some ((0:Int),(0:Int)))))))
 | none=>none
def z2d(N:Nat)(rec:(List Z3)->Int->z9u->Option (((Unit×Unit)×(Unit×(z9u×Unit)))))(b0:(List Z3))(b1:Int)(b2:z9u):Option (((Unit×Unit)×(Unit×(z9u×Unit)))):=
 bif (decide (b1<(b0.length:Int)))then
 (gd (inB b1 (b0.length))
 (match zfo N (rdL b0 b1 X5)with
 | some r1=>(rec b0 (aa .i64 (b1+(1:Int))) ((aa .i64 (b2.1+r1.1)),(aa .i64 (b2.2+r1.2))))
 | none=>none))
 else
 (some (((),()),((),(b2,()))))
def z8e(N:Nat)(n:Nat):=
 itF (fun _ _ _=>none) (z2d N) n
theorem zey(N:Nat)(n:Nat):z8e N (n+1)=z2d N (z8e N n):=rfl
def zio(N:Nat)(a0:(List Z3)):Option (z9u):=
 match z8e N N a0 (0:Int) ((0:Int),(0:Int))with
 | some r2=>(some r2.2.2.1)
 | none=>none
def znr(N:Nat)(a0:z9u):Option (Y6):=
 some ((a0.1,a0.1),(a0.2,a0.2))
def zrv(N:Nat)(a0 a1:Y6):Option (Y6):=
 let x1:=(bif decide ((aa .i64 (a0.1.1+a1.1.1))<(1000000000000000:Int))then(aa .i64 (a0.1.1+a1.1.1))else(1000000000000000:Int))
 let x2:=(bif decide ((aa .i64 (a0.1.2+a1.1.2))<(1000000000000000:Int))then(aa .i64 (a0.1.2+a1.1.2))else(1000000000000000:Int))
 let x3:=(bif decide ((aa .i64 (a0.2.1+a1.2.1))<(1000000000000000:Int))then(aa .i64 (a0.2.1+a1.2.1))else(1000000000000000:Int))
 let x4:=(bif decide ((aa .i64 (a0.2.2+a1.2.2))<(1000000000000000:Int))then(aa .i64 (a0.2.2+a1.2.2))else(1000000000000000:Int))
 some ((x1,x2),(x3,x4))
def zab(N:Nat)(a0:(List UInt8)):Option (Bool):=
 match ze2 N a0 with
 | some r1=>(bif (eqi r1.2 (0:Int))then
 (some (eqi r1.1.2.1 (1:Int)))
 else
 (some false))
 | none=>none
def z50(N:Nat)(a0:z55)(a1:Int):Option (z55):=
 let x1:=(bif decide ((aa .i64 (a0.2+a1))<(1000000000000000:Int))then(aa .i64 (a0.2+a1))else(1000000000000000:Int))
 some (a0.1,x1)
def zb6(N:Nat)(a0:z55)(a1:Int):Option (z55):=
 let x1:=(bif decide ((0:Int)<(aa .i64 (a0.1-a1)))then(aa .i64 (a0.1-a1))else(0:Int))
 some (x1,a0.2)
def z3v(N:Nat)(b0 b1:(List UInt8))(b2 b3:Bool):Option ((Bool×Unit)):=
 bif b2 then
 (some (true,()))
 else
 (bif b3 then
 (some (true,()))
 else
 (match z9f N b0 with
 | some r5=>(bif r5 then
 (match z9f N b1 with
 | some r6=>(some (r6,()))
 | none=>none)
 else
 (some (false,())))
 | none=>none))
def z3w(N:Nat)(b0 b1:(List UInt8))(b2:Bool):Option ((Bool×Unit)):=
 bif (!(eqs b0 ([]:List UInt8)))then
 (bif (!(eqs b1 ([]:List UInt8)))then
 (match z8r N b0 with
 | some r3=>(bif r3 then
 (match z8r N b1 with
 | some r4=>(match z3v N b0 b1 b2 r4 with
 | some r7=>(some (r7.1,()))
 | none=>none)
 | none=>none)
 else
 (match z3v N b0 b1 b2 false with
 | some r8=>(some (r8.1,()))
 | none=>none))
 | none=>none)
 else
 (match z3v N b0 b1 b2 false with
 | some r9=>(some (r9.1,()))
 | none=>none))
 else
 (match z3v N b0 b1 b2 false with
 | some r10=>(some (r10.1,()))
 | none=>none)
def zdz(N:Nat)(a0 a1:(List UInt8)):Option (Bool):=
 let x1:=(decide ((0:Int)<(a0.length:Int)))
 bif x1 then
 (gd (inB (0:Int) (a0.length))
 (bif (eqi (bt a0 (0:Int)) (6:Int))then
 (let x2:=(decide ((0:Int)<(a1.length:Int)))
 bif x2 then
 (gd (inB (0:Int) (a1.length))
 (match z3w N a0 a1 (eqi (bt a1 (0:Int)) (6:Int))with
 | some r11=>(some r11.1)
 | none=>none))
 else
 (match z3w N a0 a1 false with
 | some r12=>(some r12.1)
 | none=>none))
 else
 (match z3w N a0 a1 false with
 | some r13=>(some r13.1)
 | none=>none)))
 else
 (match z3w N a0 a1 false with
 | some r14=>(some r14.1)
 | none=>none)
def z6p(N:Nat)(a0:Y6)(a1:Z1):Option (Y6):=
 bif (eqi a1.1 (1:Int))then
 (match zab N a1.2.1 with
 | some r1=>(bif r1 then
 (match z50 N a0.1 (1:Int)with
 | some r2=>(some (r2,a0.2))
 | none=>none)
 else
 (match zb6 N a0.2 (64:Int)with
 | some r3=>(match z50 N r3 (a1.2.2.1.length:Int)with
 | some r4=>(some (a0.1,r4))
 | none=>none)
 | none=>none))
 | none=>none)
 else
 (bif (eqi a1.1 (2:Int))then
 (match zab N a1.2.1 with
 | some r5=>(bif r5 then
 (match zb6 N a0.1 (1:Int)with
 | some r6=>(some (r6,a0.2))
 | none=>none)
 else
 (match zb6 N a0.2 (64:Int)with
 | some r7=>(some (a0.1,r7))
 | none=>none))
 | none=>none)
 else
 (bif (eqi a1.1 (6:Int))then
 (some a0)
 else
 (bif (eqi a1.1 (3:Int))then
 (some (((0:Int),a0.1.2),((0:Int),a0.2.2)))
 else
 (match zdz N a1.2.2.2.2.1 a1.2.2.2.2.2.1 with
 | some r8=>(bif (!r8)then
 (some (((0:Int),(1000000000000000:Int)),((0:Int),(1000000000000000:Int))))
 else
 (bif (eqi a1.1 (5:Int))then
 (match z50 N ((0:Int),a0.1.2) a0.1.2 with
 | some r9=>(match z50 N ((0:Int),a0.2.2) a0.2.2 with
 | some r10=>(some (r9,r10))
 | none=>none)
 | none=>none)
 else
 (some (((0:Int),a0.1.2),((0:Int),a0.2.2)))))
 | none=>none))))
def z4t(N:Nat)(rec:Int->Z5->Y6->Option (((Unit×Unit)×(Unit×(Y6×Unit)))))(b0:Int)(b1:Z5)(b2:Y6):Option (((Unit×Unit)×(Unit×(Y6×Unit)))):=
 let x6:=(decide (b0<(b1.2.2.2.2.length:Int)))
 bif x6 then
 (gd (inB b0 (b1.2.2.2.2.length))
 (match z6p N b2 (rdL b1.2.2.2.2 b0 U7)with
 | some r7=>(rec (aa .i64 (b0+(1:Int))) b1 r7)
 | none=>none))
 else
 (some (((),()),((),(b2,()))))
def zc2(N:Nat)(n:Nat):=
 itF (fun _ _ _=>none) (z4t N) n
theorem zi9(N:Nat)(n:Nat):zc2 N (n+1)=z4t N (zc2 N n):=rfl
def z4u(N:Nat)(rec:Int->Z5->Y6->Option (((Unit×(Unit×Unit))×(Z5×(Unit×(Y6×Unit))))))(b0:Int)(b1:Z5)(b2:Y6):Option (((Unit×(Unit×Unit))×(Z5×(Unit×(Y6×Unit))))):=
 let x3:=(decide (b0<(b1.2.2.2.1.length:Int)))
 bif x3 then
 (gd (inB b0 (b1.2.2.2.1.length))
 (match zrv N b2 (rdL b1.2.2.2.1 b0 z66)with
 | some r4=>(rec (aa .i64 (b0+(1:Int))) b1 r4)
 | none=>none))
 else
 (some (((),((),())),(b1,((),(b2,())))))
def zc3(N:Nat)(n:Nat):=
 itF (fun _ _ _=>none) (z4u N) n
theorem zia(N:Nat)(n:Nat):zc3 N (n+1)=z4u N (zc3 N n):=rfl
def zk7(N:Nat)(a0:Z5):Option (Y6):=
 bif (eqi (a0.2.2.1.length:Int) (0:Int))then
 (match zio N a0.1 with
 | some r1=>(match znr N r1 with
 | some r2=>(some r2)
 | none=>none)
 | none=>none)
 else
 (match zc3 N N (0:Int) a0 (((0:Int),(0:Int)),((0:Int),(0:Int)))with
 | some r5=>(match zc2 N N (0:Int) r5.2.1 r5.2.2.2.1 with
 | some r8=>(some r8.2.2.1)
 | none=>none)
 | none=>none)
def z3b(N:Nat)(rec:(List Z5)->Int->(List Y6)->Option yjb)(b0:(List Z5))(b1:Int)(b2:(List Y6)):Option yjb:=
 bif (decide (b1<(b0.length:Int)))then
 (gd (inB b1 (b0.length))
 ((zk7 N (rdL b0 b1 zhr)).bind fun r1=>
 gd (fits (b2.length+1) 32)
 (let x2:=(b2++([r1]:List Y6))
 rec b0 (aa .i64 (b1+(1:Int))) x2)))
 else
 (some ((),(b2,())))
def za5(N:Nat)(n:Nat):=
 itF (fun _ _ _=>none) (z3b N) n
theorem zg7(N:Nat)(n:Nat):za5 N (n+1)=z3b N (za5 N n):=rfl
def zlh(N:Nat)(a0:(List Z5)):Option ((List Y6)):=
 (za5 N N a0 (0:Int) ([]:List Y6)).bind fun r3=>
 some r3.2.1
def z8m(N:Nat)(a0:Z5)(a1:Int)(a2:ze4)(a3:(List Int)):Option (Z5):=
 gd (decide (0<=(0:Int))&&(decide ((0:Int)<=a1)&&decide (a1<=(a0.2.2.1.length:Int))))
 (gd (fits (0+ap (cut2 a0.2.2.1 (0:Int) a1)) 8)
 (let x1:=(([]:List Int)++(cut2 a0.2.2.1 (0:Int) a1))
 gd (fits (x1.length+a3.length) 8)
 (let x2:=(x1++a3)
 gd (decide (0<=(aa .i64 (a1+(1:Int))))&&(decide ((aa .i64 (a1+(1:Int)))<=(a0.2.2.1.length:Int))&&decide ((a0.2.2.1.length:Int)<=(a0.2.2.1.length:Int))))
 (let x3:=(cut2 a0.2.2.1 (aa .i64 (a1+(1:Int))) (a0.2.2.1.length:Int))
 gd (fits (x2.length+x3.length) 8)
 (let x4:=(x2++x3)
 gd (decide (0<=(0:Int))&&(decide ((0:Int)<=a1)&&decide (a1<=(a0.2.2.2.1.length:Int))))
 (gd (fits (0+ap (cut2 a0.2.2.2.1 (0:Int) a1)) 32)
 (let x5:=(([]:List Y6)++(cut2 a0.2.2.2.1 (0:Int) a1))
 (zlh N a2.1).bind fun r6=>
 gd (fits (x5.length+r6.length) 32)
 (let x7:=(x5++r6)
 gd (decide (0<=(aa .i64 (a1+(1:Int))))&&(decide ((aa .i64 (a1+(1:Int)))<=(a0.2.2.2.1.length:Int))&&decide ((a0.2.2.2.1.length:Int)<=(a0.2.2.2.1.length:Int))))
 (let x8:=(cut2 a0.2.2.2.1 (aa .i64 (a1+(1:Int))) (a0.2.2.2.1.length:Int))
 gd (fits (x7.length+x8.length) 32)
 (let x9:=(x7++x8)
 gd (decide (0<=(0:Int))&&(decide ((0:Int)<=a1)&&decide (a1<=(a0.2.1.length:Int))))
 (gd (fits (0+ap (cut2 a0.2.1 (0:Int) a1)) 16)
 (let x10:=(([]:List (List UInt8))++(cut2 a0.2.1 (0:Int) a1))
 gd (fits (x10.length+a2.2.1.length) 16)
 (let x11:=(x10++a2.2.1)
 gd (decide (0<=a1)&&(decide (a1<=(a0.2.1.length:Int))&&decide ((a0.2.1.length:Int)<=(a0.2.1.length:Int))))
 (gd (fits (x11.length+ap (cut2 a0.2.1 a1 (a0.2.1.length:Int))) 16)
 (let x12:=(x11++(cut2 a0.2.1 a1 (a0.2.1.length:Int)))
 gd (fits (0+a2.2.2.length) 112)
 (let x13:=(([]:List Z1)++a2.2.2)
 gd (fits (x13.length+a0.2.2.2.2.length) 112)
 (let x14:=(x13++a0.2.2.2.2)
 some (([]:List Z3),(x12,(x4,(x9,x14)))))))))))))))))))))
def z7t(N:Nat)(rec:(List Z5)->Int->(List Y6)->Option yjb)(b0:(List Z5))(b1:Int)(b2:(List Y6)):Option yjb:=
 bif (decide (b1<(b0.length:Int)))then
 (gd (inB b1 (b0.length))
 ((zk7 N (rdL b0 b1 zhr)).bind fun r1=>
 gd (fits (b2.length+1) 32)
 (let x2:=(b2++([r1]:List Y6))
 rec b0 (aa .i64 (b1+(1:Int))) x2)))
 else
 (some ((),(b2,())))
def z6x(N:Nat)(n:Nat):=
 itF (fun _ _ _=>none) (z7t N) n
theorem y9f(N:Nat)(n:Nat):z6x N (n+1)=z7t N (z6x N n):=rfl
def zfi(N:Nat)(a0:(List Z5)):Option ((List Y6)):=
 (z6x N N a0 (0:Int) ([]:List Y6)).bind fun r3=>
 some r3.2.1
def z8x(N:Nat)(a0:(List Z7))(a1:Int):Option (((List Z7)×Int)):=
 match z71 N a0 a1 with
 | some r1=>(bif (!r1)then
 (some (a0,(110:Int)))
 else
 (match z9b N a0 with
 | some r2=>(gd (inB a1 (r2.length))
 (let x3:=(aa .i64 ((((rdL r2 a1 X2).2).2).1+(1:Int)))
 gd (inB a1 (r2.length))
 (let x4:=(setL r2 a1 ((rdL r2 a1 X2).1,(((rdL r2 a1 X2).2).1,(x3,((((rdL r2 a1 X2).2).2).2)))))
 some (x4,(0:Int)))))
 | none=>none))
 | none=>none
def z4o(N:Nat)(rec:(List Int)->Int->(List Z7)->Option (((Unit×Unit)×((List Z7)×(Unit×Unit)))))(b0:(List Int))(b1:Int)(b2:(List Z7)):Option (((Unit×Unit)×((List Z7)×(Unit×Unit)))):=
 bif (decide (b1<(b0.length:Int)))then
 (gd (inB b1 (b0.length))
 ((z2m N b2 (rdL b0 b1 (0:Int))).bind fun r1=>
 rec b0 (aa .i64 (b1+(1:Int))) r1.1))
 else
 (some (((),()),(b2,((),()))))
def zc0(N:Nat)(n:Nat):=
 itF (fun _ _ _=>none) (z4o N) n
theorem zi4(N:Nat)(n:Nat):zc0 N (n+1)=z4o N (zc0 N n):=rfl
def zgx(N:Nat)(a0:(List Z7))(a1:(List Int)):Option ((List Z7)):=
 (zc0 N N a1 (0:Int) a0).bind fun r2=>
 some r2.2.1
def z99(N:Nat)(b0:Int)(b1:Bool)(b2:Y5)(b3:(List Z5))(b4:(List (List UInt8)))(b5:(List Z1))(b6:(List Z7))(b7:(List Int))(b8:zal):Option (yeu⊕((Unit×(Unit×(Unit×(Unit×Int))))×(Y5×(Unit×((List Z7)×((List Int)×Unit)))))):=
 bif b1 then
 ((zfi N b3).bind fun r8=>
 let x9:=([(([]:List Z3),(b4,(b8.2.1,(r8,b5))))]:List Z5)
 (zdq N b6 x9).bind fun r10=>
 bif (!(eqi r10.2.2 (0:Int)))then
 (some (.inl (((),r10.2.2),(b2,()))))
 else
 (gd (inB (0:Int) (r10.2.1.length))
 (let x11:=([(rdL r10.2.1 (0:Int) (0:Int))]:List Int)
 gd (fits (b7.length+x11.length) 8)
 (let x12:=(b7++x11)
 some (.inr (((),((),((),((),(rdL r10.2.1 (0:Int) (0:Int)))))),(b2,((),(r10.1,(x12,()))))))))))
 else
 (some (.inr (((),((),((),((),b0)))),(b2,((),(b6,(b7,())))))))
def z9a(N:Nat)(b0:Int)(b1:Y5)(b2:(List Z7))(b3:(List Int)):Option (yeu):=
 (z8x N b2 b0).bind fun r16=>
 (zgx N r16.1 b3).bind fun r17=>
 (zgx N r17 ([b1.2.1]:List Int)).bind fun r18=>
 some (((),(0:Int)),((r18,(b0,b1.2.2)),()))
def z4n(N:Nat)(rec:(List Int)->Int->Y5->(List Z5)->(List (List UInt8))->(List Z1)->(List Z7)->(List Int)->Option (yeu))(b0:(List Int))(b1:Int)(b2:Y5)(b3:(List Z5))(b4:(List (List UInt8)))(b5:(List Z1))(b6:(List Z7))(b7:(List Int)):Option (yeu):=
 (zdq N b6 b3).bind fun r1=>
 bif (!(eqi r1.2.2 (0:Int)))then
 (some (((),r1.2.2),(b2,())))
 else
 (gd (fits (b7.length+r1.2.1.length) 8)
 (let x2:=(b7++r1.2.1)
 gd (inB (0:Int) (r1.2.1.length))
 (bif (decide ((0:Int)<b1))then
 (gd (decide (0<=(0:Int))&&(decide ((0:Int)<=(aa .i64 (b1-(1:Int))))&&decide ((aa .i64 (b1-(1:Int)))<=(b0.length:Int))))
 (let x3:=(cut2 b0 (0:Int) (aa .i64 (b1-(1:Int))))
 (z8v N b2 x3).bind fun r4=>
 gd (inB (aa .i64 (b1-(1:Int))) (b0.length))
 (let x5:=(rdL b0 (aa .i64 (b1-(1:Int))) (0:Int))
 (z8m N r4.1 x5 (b3,(b4,b5)) r1.2.1).bind fun r6=>
 rec b0 (aa .i64 (b1-(1:Int))) b2 ([r6]:List Z5) ([]:List (List UInt8)) ([]:List Z1) r1.1 x2)))
 else
 (let x7:=(decide ((1:Int)<(b3.length:Int)))
 bif x7 then
 ((z99 N (rdL r1.2.1 (0:Int) (0:Int)) true b2 b3 b4 b5 r1.1 x2 r1).bind fun r13=>
 match r13 with
 | .inl r14=>(some (((),r14.1.2),(r14.2.1,())))
 | .inr r15=>((z9a N r15.1.2.2.2.2 r15.2.1 r15.2.2.2.1 r15.2.2.2.2.1).bind fun r19=>
 some (((),r19.1.2),(r19.2.1,()))))
 else
 (let x20:=(decide ((0:Int)<(b5.length:Int)))
 (z99 N (rdL r1.2.1 (0:Int) (0:Int)) x20 b2 b3 b4 b5 r1.1 x2 r1).bind fun r21=>
 match r21 with
 | .inl r22=>(some (((),r22.1.2),(r22.2.1,())))
 | .inr r23=>((z9a N r23.1.2.2.2.2 r23.2.1 r23.2.2.2.1 r23.2.2.2.2.1).bind fun r24=>
 some (((),r24.1.2),(r24.2.1,()))))))))
def zbz(N:Nat)(n:Nat):=
 itF (fun _ _ _ _ _ _ _ _=>none) (z4n N) n
theorem zi3(N:Nat)(n:Nat):zbz N (n+1)=z4n N (zbz N n):=rfl
def zbj(N:Nat)(a0:Y5)(a1:(List Int))(a2:ze4):Option ((Y5×Int)):=
 (zbz N N a1 (a1.length:Int) a0 a2.1 a2.2.1 a2.2.2 a0.1 ([]:List Int)).bind fun r25=>
 some (r25.2.1,r25.1.2)
def zkp(N:Nat)(b0:(List Int))(b1:Y5)(b2:ze4):Option (yeu):=
 let x2:=(decide ((0:Int)<(b0.length:Int)))
 bif x2 then
 (let x3:=(aa .i64 ((b0.length:Int)-(1:Int)))
 gd (decide (0<=(0:Int))&&(decide ((0:Int)<=x3)&&decide (x3<=(b0.length:Int))))
 ((z8v N b1 (cut2 b0 (0:Int) x3)).bind fun r4=>
 bif (!(eqi r4.2.2 (0:Int)))then
 (some (((),r4.2.2),(b1,())))
 else
 (gd (inB x3 (b0.length))
 (bif (decide ((rdL b0 x3 (0:Int))<(0:Int)))then
 (some (((),(140:Int)),(b1,())))
 else
 (gd (inB x3 (b0.length))
 (let x5:=(decide ((r4.1.2.2.1.length:Int)<=(rdL b0 x3 (0:Int))))
 bif x5 then
 (some (((),(140:Int)),(b1,())))
 else
 ((zbj N b1 b0 b2).bind fun r6=>
 some (((),r6.2),(r6.1,())))))))))
 else
 ((zbj N b1 b0 b2).bind fun r7=>
 some (((),r7.2),(r7.1,())))
def zgy(N:Nat)(a0:Y5)(a1:(List Int))(a2:ze4):Option ((Y5×Int)):=
 bif (eqi (a2.1.length:Int) (0:Int))then
 (some (a0,(1:Int)))
 else
 (let x1:=(aa .i64 ((a2.1.length:Int)-(1:Int)))
 bif (!(eqi (a2.2.1.length:Int) x1))then
 (some (a0,(1:Int)))
 else
 ((zkp N a1 a0 a2).bind fun r8=>
 some (r8.2.1,r8.1.2)))
def z1z(N:Nat)(rec:Int->Int->Z5->(List Z1)->(List Z5)->(List (List UInt8))->(List Int)->Option ypr)(b0 b1:Int)(b2:Z5)(b3:(List Z1))(b4:(List Z5))(b5:(List (List UInt8)))(b6:(List Int)):Option ypr:=
 bif (decide (b1<(b6.length:Int)))then
 (gd (inB b1 (b6.length))
 (let x2:=(aa .i64 (b0+(rdL b6 b1 (0:Int))))
 gd (decide (0<=b0)&&(decide (b0<=x2)&&decide (x2<=(b2.2.2.1.length:Int))))
 (gd (decide (0<=b0)&&(decide (b0<=x2)&&decide (x2<=(b2.2.2.2.1.length:Int))))
 (gd (decide (0<=b0)&&(decide (b0<=(aa .i64 (x2-(1:Int))))&&decide ((aa .i64 (x2-(1:Int)))<=(b2.2.1.length:Int))))
 (let x3:=(cut2 b2.2.1 b0 (aa .i64 (x2-(1:Int))))
 let x4:=([(([]:List Z3),(x3,((cut2 b2.2.2.1 b0 x2),((cut2 b2.2.2.2.1 b0 x2),([]:List Z1)))))]:List Z5)
 gd (fits (b4.length+x4.length) 120)
 (let x5:=(b4++x4)
 bif (decide ((0:Int)<b1))then
 (gd (inB (aa .i64 (b0-(1:Int))) (b2.2.1.length))
 (let x6:=(rdL b2.2.1 (aa .i64 (b0-(1:Int))) ([]:List UInt8))
 gd (fits (b5.length+1) 16)
 (let x7:=(b5++([x6]:List (List UInt8)))
 rec x2 (aa .i64 (b1+(1:Int))) b2 b3 x5 x7 b6)))
 else
 (rec x2 (aa .i64 (b1+(1:Int))) b2 b3 x5 b5 b6)))))))
 else
 (some (((),()),((),(((),((),b3)),(b4,(b5,()))))))
def z85(N:Nat)(n:Nat):=
 itF (fun _ _ _ _ _ _ _=>none) (z1z N) n
theorem zen(N:Nat)(n:Nat):z85 N (n+1)=z1z N (z85 N n):=rfl
def zih(N:Nat)(a0:Z5)(a1:V8):Option (zjq):=
 (z54 N (a0.2.2.1.length:Int) a1.2.1).bind fun r1=>
 (z85 N N (0:Int) (0:Int) a0 a0.2.2.2.2 ([]:List Z5) ([]:List (List UInt8)) r1).bind fun r8=>
 some (r8.2.2.2.1,(r8.2.2.2.2.1,r8.2.2.1.2.2))
def zns(N:Nat)(a0:(List (List UInt8))):Option ((List Z0)):=
 (ze0 N (([]:List UInt8),([]:List UInt8)) a0).bind fun r1=>
 some r1
def zb7(N:Nat)(a0:Z1):Option (Bool):=
 bif (eqi a0.1 (4:Int))then
 (some true)
 else
 (some (eqi a0.1 (5:Int)))
def z6g(N:Nat)(a0:Z1):Option ((List Z0)):=
 bif (eqi a0.1 (4:Int))then
 (match U2 N a0.2.2.2.2.1 with
 | some r1=>(some ([r1]:List Z0))
 | none=>none)
 else
 (bif (eqi a0.1 (5:Int))then
 (match U2 N a0.2.2.2.2.1 with
 | some r2=>(some ([r2]:List Z0))
 | none=>none)
 else
 (bif (eqi a0.1 (6:Int))then
 (some ([a0.2.2.2.1]:List Z0))
 else
 (some ([]:List Z0))))
def K8(N:Nat)(a0:Z1):Option ((List Z0)):=
 bif (eqi a0.1 (1:Int))then
 (match z9s N a0.2.1 with
 | some r1=>(some ([r1]:List Z0))
 | none=>none)
 else
 (bif (eqi a0.1 (2:Int))then
 (match z9s N a0.2.1 with
 | some r2=>(some ([r2]:List Z0))
 | none=>none)
 else
 (bif (eqi a0.1 (4:Int))then
 (match U2 N a0.2.2.2.2.1 with
 | some r3=>(match U2 N a0.2.2.2.2.2.1 with
 | some r4=>(some ([r3,r4]:List Z0))
 | none=>none)
 | none=>none)
 else
 (bif (eqi a0.1 (5:Int))then
 (match U2 N a0.2.2.2.2.2.1 with
 | some r5=>(some ([r5]:List Z0))
 | none=>none)
 else
 (some ([a0.2.2.2.1]:List Z0)))))
def zc6(N:Nat)(a0 a1:Z0):Option (Bool):=
 match z0h N a1 with
 | some r1=>(bif r1 then
 (some true)
 else
 (match z0h N a0 with
 | some r2=>(bif (!r2)then
 (bif (lts a0.1 a1.1 || eqs a0.1 a1.1)then
 (match zdg N a0.2 a1.2 with
 | some r3=>(some (!r3))
 | none=>none)
 else
 (some false))
 else
 (some false))
 | none=>none))
 | none=>none
def z3k(N:Nat)(rec:Int->Z0->(List Z0)->Option Ty3_)(b0:Int)(b1:Z0)(b2:(List Z0)):Option Ty3_:=
 bif (decide (b0<(b2.length:Int)))then
 (gd (inB b0 (b2.length))
 ((zc6 N b1 (rdL b2 b0 Y7)).bind fun r5=>
 bif (!r5)then
 (some (.inl (false,())))
 else
 (rec (aa .i64 (b0+(1:Int))) b1 b2)))
 else
 (some (.inr ((),())))
def zad(N:Nat)(n:Nat):=
 itF (fun _ _ _=>none) (z3k N) n
theorem zgg(N:Nat)(n:Nat):zad N (n+1)=z3k N (zad N n):=rfl
def zln(N:Nat)(a0:Z1)(a1:Z0):Option (Bool):=
 (z6g N a0).bind fun r1=>
 gd (fits (0+r1.length) 32)
 (let x2:=(([]:List Z0)++r1)
 (K8 N a0).bind fun r3=>
 gd (fits (x2.length+r3.length) 32)
 (let x4:=(x2++r3)
 (zad N N (0:Int) a1 x4).bind fun r6=>
 match r6 with
 | .inl r7=>(some r7.1)
 | .inr r8=>(some true)))
def z29(N:Nat)(rec:(List Z0)->(List Z0)->Int->Int->Option ((Bool×Unit)⊕(((List Z0)×((List Z0)×Int))×Unit)))(b0:(List Z0))(b1:(List Z0))(b2 b3:Int):Option ((Bool×Unit)⊕(((List Z0)×((List Z0)×Int))×Unit)):=
 bif (decide (b3<(b1.length:Int)))then
 (gd (inB b2 (b0.length))
 (gd (inB b3 (b1.length))
 (match z2n N (rdL b0 b2 Y7) (rdL b1 b3 Y7)with
 | some r1=>(match z0h N r1 with
 | some r2=>(bif (!r2)then
 (some (.inl (true,())))
 else
 (rec b0 b1 b2 (aa .i64 (b3+(1:Int)))))
 | none=>none)
 | none=>none)))
 else
 (some (.inr ((b0,(b1,b2)),())))
def z8a(N:Nat)(n:Nat):=
 itF (fun _ _ _ _=>none) (z29 N) n
theorem zeu(N:Nat)(n:Nat):z8a N (n+1)=z29 N (z8a N n):=rfl
def z2a(N:Nat)(rec:(List Z0)->(List Z0)->Int->Option Ty3_)(b0:(List Z0))(b1:(List Z0))(b2:Int):Option Ty3_:=
 bif (decide (b2<(b0.length:Int)))then
 (match z8a N N b0 b1 b2 (0:Int)with
 | some r3=>(match r3 with
 | .inl r4=>(some (.inl (r4.1,())))
 | .inr r5=>(rec r5.1.1 r5.1.2.1 (aa .i64 (r5.1.2.2+(1:Int)))))
 | none=>none)
 else
 (some (.inr ((),())))
def z8b(N:Nat)(n:Nat):=
 itF (fun _ _ _=>none) (z2a N) n
theorem zev(N:Nat)(n:Nat):z8b N (n+1)=z2a N (z8b N n):=rfl
def z8p(N:Nat)(a0:(List Z0))(a1:(List Z0)):Option (Bool):=
 match z8b N N a0 a1 (0:Int)with
 | some r6=>(match r6 with
 | .inl r7=>(some r7.1)
 | .inr r8=>(some false))
 | none=>none
def zhf(N:Nat)(a0:Z1)(a1:Z0):Option ((List Z1)):=
 (K8 N a0).bind fun r1=>
 (z8p N r1 ([a1]:List Z0)).bind fun r2=>
 bif (!r2)then
 (some ([]:List Z1))
 else
 (bif (eqi a0.1 (3:Int))then
 ((z2n N a0.2.2.2.1 a1).bind fun r3=>
 let x4:=([(a0.1,(a0.2.1,(a0.2.2.1,(r3,a0.2.2.2.2))))]:List Z1)
 some x4)
 else
 (bif (eqi a0.1 (6:Int))then
 ((z2n N a0.2.2.2.1 a1).bind fun r5=>
 let x6:=([(a0.1,(a0.2.1,(a0.2.2.1,(r5,a0.2.2.2.2))))]:List Z1)
 some x6)
 else
 (some ([a0]:List Z1))))
def z15(N:Nat)(rec:(List Z0)->Bool->Int->Z0->(List Z0)->Option (((Unit×(Unit×Bool))×yjc)))(b0:(List Z0))(b1:Bool)(b2:Int)(b3:Z0)(b4:(List Z0)):Option (((Unit×(Unit×Bool))×yjc)):=
 bif (decide (b2<(b0.length:Int)))then
 (bif (!b1)then
 (gd (inB b2 (b0.length))
 (bif (lts b3.1 ((rdL b0 b2 Y7).1))then
 (gd (fits (b4.length+1) 32)
 (let x2:=(b4++([b3]:List Z0))
 gd (inB b2 (b0.length))
 (gd (fits (x2.length+1) 32)
 (let x3:=(x2++([(rdL b0 b2 Y7)]:List Z0))
 rec b0 true (aa .i64 (b2+(1:Int))) b3 x3))))
 else
 (gd (inB b2 (b0.length))
 (gd (fits (b4.length+1) 32)
 (let x4:=(b4++([(rdL b0 b2 Y7)]:List Z0))
 rec b0 b1 (aa .i64 (b2+(1:Int))) b3 x4)))))
 else
 (gd (inB b2 (b0.length))
 (gd (fits (b4.length+1) 32)
 (let x5:=(b4++([(rdL b0 b2 Y7)]:List Z0))
 rec b0 b1 (aa .i64 (b2+(1:Int))) b3 x5))))
 else
 (some (((),((),b1)),(b3,(b4,()))))
def z75(N:Nat)(n:Nat):=
 itF (fun _ _ _ _ _=>none) (z15 N) n
theorem zde(N:Nat)(n:Nat):z75 N (n+1)=z15 N (z75 N n):=rfl
def zfp(N:Nat)(a0:(List Z0))(a1:Z0):Option ((List Z0)):=
 match z0h N a1 with
 | some r1=>(match z75 N N a0 r1 (0:Int) a1 ([]:List Z0)with
 | some r6=>(bif (!r6.1.2.2)then
 (gd (fits (r6.2.2.1.length+1) 32)
 (let x7:=(r6.2.2.1++([r6.2.1]:List Z0))
 some x7))
 else
 (some r6.2.2.1))
 | none=>none)
 | none=>none
def z2w(N:Nat)(b0 b1:Int)(b2:Bool)(b3:(List Z0))(b4:(List Z0)):Option (((Unit×(Unit×Int))×yn9)):=
 bif b2 then
 (gd (inB b0 (b3.length))
 (gd (fits (b4.length+1) 32)
 (let x4:=(b4++([(rdL b3 b0 Y7)]:List Z0))
 some (((),((),b0)),(b3,(x4,()))))))
 else
 (gd (inB b1 (b4.length))
 (gd (inB b0 (b3.length))
 (match zdg N ((rdL b4 b1 Y7).2) ((rdL b3 b0 Y7).2)with
 | some r5=>(bif r5 then
 (gd (inB b0 (b3.length))
 (gd (inB b1 (b4.length))
 (let x6:=(setL b4 b1 ((rdL b4 b1 Y7).1,(rdL b3 b0 Y7).2))
 some (((),((),b0)),(b3,(x6,()))))))
 else
 (some (((),((),b0)),(b3,(b4,())))))
 | none=>none)))
def z3m(N:Nat)(rec:Int->(List Z0)->(List Z0)->Option y9u)(b0:Int)(b1:(List Z0))(b2:(List Z0)):Option y9u:=
 bif (decide (b0<(b1.length:Int)))then
 (let x3:=(aa .i64 ((b2.length:Int)-(1:Int)))
 bif (decide (x3<(0:Int)))then
 (match z2w N b0 x3 true b1 b2 with
 | some r7=>(rec (aa .i64 (r7.1.2.2+(1:Int))) r7.2.1 r7.2.2.1)
 | none=>none)
 else
 (gd (inB x3 (b2.length))
 (let x8:=(!(eqs ((rdL b2 x3 Y7).2) ([]:List UInt8)))
 bif x8 then
 (gd (inB x3 (b2.length))
 (gd (inB b0 (b1.length))
 (let x9:=(lts ((rdL b2 x3 Y7).2) ((rdL b1 b0 Y7).1))
 match z2w N b0 x3 x9 b1 b2 with
 | some r10=>(rec (aa .i64 (r10.1.2.2+(1:Int))) r10.2.1 r10.2.2.1)
 | none=>none)))
 else
 (match z2w N b0 x3 false b1 b2 with
 | some r11=>(rec (aa .i64 (r11.1.2.2+(1:Int))) r11.2.1 r11.2.2.1)
 | none=>none))))
 else
 (some ((),(b2,())))
def z7h(N:Nat)(n:Nat):=
 itF (fun _ _ _=>none) (z3m N) n
theorem zgi(N:Nat)(n:Nat):z7h N (n+1)=z3m N (z7h N n):=rfl
def y6(N:Nat)(rec:(List Z0)->Int->(List Z0)->(List Z0)->Option (((Unit×Unit)×yn9)))(b0:(List Z0))(b1:Int)(b2:(List Z0))(b3:(List Z0)):Option (((Unit×Unit)×yn9)):=
 bif (decide (b1<(b0.length:Int)))then
 (gd (inB b1 (b0.length))
 (match zfp N b2 (rdL b0 b1 Y7)with
 | some r1=>(rec b0 (aa .i64 (b1+(1:Int))) r1 b3)
 | none=>none))
 else
 (some (((),()),(b2,(b3,()))))
def z7i(N:Nat)(n:Nat):=
 itF (fun _ _ _ _=>none) (y6 N) n
theorem z69(N:Nat)(n:Nat):z7i N (n+1)=y6 N (z7i N n):=rfl
def z16(N:Nat)(a0:(List Z0)):Option ((List Z0)):=
 match z7i N N a0 (0:Int) ([]:List Z0) ([]:List Z0)with
 | some r2=>(match z7h N N (0:Int) r2.2.1 r2.2.2.1 with
 | some r12=>(some r12.2.1)
 | none=>none)
 | none=>none
def z2f(N:Nat)(rec:(List Z0)->Int->Int->(List Z0)->(List Z0)->Option ((((List Z0)×(Int×Unit))×((List Z0)×Unit))))(b0:(List Z0))(b1 b2:Int)(b3:(List Z0))(b4:(List Z0)):Option ((((List Z0)×(Int×Unit))×((List Z0)×Unit))):=
 bif (decide (b2<(b3.length:Int)))then
 (gd (inB b1 (b0.length))
 (let x3:=(!(eqs ((rdL b0 b1 Y7).1) ([]:List UInt8)))
 bif x3 then
 (gd (inB b2 (b3.length))
 (gd (inB b1 (b0.length))
 (match z2n N (rdL b3 b2 Y7) (([]:List UInt8),(rdL b0 b1 Y7).1)with
 | some r4=>(gd (fits (b4.length+1) 32)
 (let x5:=(b4++([r4]:List Z0))
 gd (inB b1 (b0.length))
 (let x6:=(!(eqs ((rdL b0 b1 Y7).2) ([]:List UInt8)))
 bif x6 then
 (gd (inB b2 (b3.length))
 (gd (inB b1 (b0.length))
 (match z2n N (rdL b3 b2 Y7) ((rdL b0 b1 Y7).2,([]:List UInt8))with
 | some r7=>(gd (fits (x5.length+1) 32)
 (let x8:=(x5++([r7]:List Z0))
 rec b0 b1 (aa .i64 (b2+(1:Int))) b3 x8))
 | none=>none)))
 else
 (rec b0 b1 (aa .i64 (b2+(1:Int))) b3 x5))))
 | none=>none)))
 else
 (gd (inB b1 (b0.length))
 (let x9:=(!(eqs ((rdL b0 b1 Y7).2) ([]:List UInt8)))
 bif x9 then
 (gd (inB b2 (b3.length))
 (gd (inB b1 (b0.length))
 (match z2n N (rdL b3 b2 Y7) ((rdL b0 b1 Y7).2,([]:List UInt8))with
 | some r10=>(gd (fits (b4.length+1) 32)
 (let x11:=(b4++([r10]:List Z0))
 rec b0 b1 (aa .i64 (b2+(1:Int))) b3 x11))
 | none=>none)))
 else
 (rec b0 b1 (aa .i64 (b2+(1:Int))) b3 b4)))))
 else
 (some ((b0,(b1,())),(b4,())))
def z60(N:Nat)(n:Nat):=
 itF (fun _ _ _ _ _=>none) (z2f N) n
theorem zf0(N:Nat)(n:Nat):z60 N (n+1)=z2f N (z60 N n):=rfl
def Q9(N:Nat)(rec:(List Z0)->Int->(List Z0)->Option y9u)(b0:(List Z0))(b1:Int)(b2:(List Z0)):Option y9u:=
 bif (decide (b1<(b0.length:Int)))then
 (gd (inB b1 (b0.length))
 (match z0h N (rdL b0 b1 Y7)with
 | some r2=>(bif r2 then
 (rec b0 (aa .i64 (b1+(1:Int))) b2)
 else
 (match z60 N N b0 b1 (0:Int) b2 ([]:List Z0)with
 | some r12=>(match z16 N r12.2.1 with
 | some r13=>(rec r12.1.1 (aa .i64 (r12.1.2.1+(1:Int))) r13)
 | none=>none)
 | none=>none))
 | none=>none))
 else
 (some ((),(b2,())))
def z61(N:Nat)(n:Nat):=
 itF (fun _ _ _=>none) (Q9 N) n
theorem g9(N:Nat)(n:Nat):z61 N (n+1)=Q9 N (z61 N n):=rfl
def Q7(N:Nat)(a0:(List Z0))(a1:(List Z0)):Option ((List Z0)):=
 match z16 N a0 with
 | some r1=>(match z61 N N a1 (0:Int) r1 with
 | some r14=>(some r14.2.1)
 | none=>none)
 | none=>none
def z10(N:Nat)(rec:Int->(List Z1)->(List Z1)->(List Z0)->Z1->(List Z0)->Option ypt)(b0:Int)(b1:(List Z1))(b2:(List Z1))(b3:(List Z0))(b4:Z1)(b5:(List Z0)):Option ypt:=
 bif (decide (b0<(b5.length:Int)))then
 (gd (inB b0 (b5.length))
 (let x23:=([(b4.1,(b4.2.1,(b4.2.2.1,((rdL b5 b0 Y7),b4.2.2.2.2))))]:List Z1)
 gd (fits (b2.length+x23.length) 112)
 (let x24:=(b2++x23)
 rec (aa .i64 (b0+(1:Int))) b1 x24 b3 (b4.1,(b4.2.1,(b4.2.2.1,((rdL b5 b0 Y7),b4.2.2.2.2)))) b5)))
 else
 (some (((),()),(((),((),())),(b1,(b2,(b3,((),())))))))
def z4d(N:Nat)(n:Nat):=
 itF (fun _ _ _ _ _ _=>none) (z10 N) n
theorem zda(N:Nat)(n:Nat):z4d N (n+1)=z10 N (z4d N n):=rfl
def z2s(N:Nat)(a0:Z1)(a1:Z0)(a2:(List Z1))(a3:(List Z1))(a4:(List Z0)):Option (ync):=
 (zb7 N a0).bind fun r1=>
 bif r1 then
 ((z6g N a0).bind fun r2=>
 gd (fits (0+r2.length) 32)
 (let x3:=(([]:List Z0)++r2)
 (K8 N a0).bind fun r4=>
 gd (fits (x3.length+r4.length) 32)
 (let x5:=(x3++r4)
 (zln N a0 a1).bind fun r6=>
 bif r6 then
 ((z8p N x5 a4).bind fun r7=>
 bif (!r7)then
 (gd (fits (a2.length+1) 112)
 (let x8:=(a2++([a0]:List Z1))
 some (((),((),())),(x8,(a3,(a4,()))))))
 else
 (gd (fits (a3.length+1) 112)
 (let x9:=(a3++([a0]:List Z1))
 gd (fits (a4.length+x5.length) 32)
 (let x10:=(a4++x5)
 some (((),((),())),(a2,(x9,(x10,()))))))))
 else
 (gd (fits (a3.length+1) 112)
 (let x11:=(a3++([a0]:List Z1))
 gd (fits (a4.length+x5.length) 32)
 (let x12:=(a4++x5)
 some (((),((),())),(a2,(x11,(x12,()))))))))))
 else
 ((zhf N a0 a1).bind fun r13=>
 bif (eqi (r13.length:Int) (0:Int))then
 (gd (fits (a3.length+1) 112)
 (let x14:=(a3++([a0]:List Z1))
 some (((),((),())),(a2,(x14,(a4,()))))))
 else
 (gd (inB (0:Int) (r13.length))
 ((K8 N (rdL r13 (0:Int) U7)).bind fun r15=>
 (z8p N r15 a4).bind fun r16=>
 bif r16 then
 (gd (fits (a3.length+1) 112)
 (let x17:=(a3++([a0]:List Z1))
 gd (inB (0:Int) (r13.length))
 ((K8 N (rdL r13 (0:Int) U7)).bind fun r18=>
 gd (fits (a4.length+r18.length) 32)
 (let x19:=(a4++r18)
 some (((),((),())),(a2,(x17,(x19,()))))))))
 else
 (gd (inB (0:Int) (r13.length))
 (let x20:=([(rdL r13 (0:Int) U7)]:List Z1)
 gd (fits (a2.length+x20.length) 112)
 (let x21:=(a2++x20)
 bif (eqi a0.1 (3:Int))then
 ((Q7 N ([a0.2.2.2.1]:List Z0) ([a1]:List Z0)).bind fun r22=>
 (z4d N N (0:Int) x21 a3 a4 a0 r22).bind fun r25=>
 some (((),((),())),(r25.2.2.1,(r25.2.2.2.1,(r25.2.2.2.2.1,())))))
 else
 (bif (eqi a0.1 (6:Int))then
 ((Q7 N ([a0.2.2.2.1]:List Z0) ([a1]:List Z0)).bind fun r26=>
 (z4d N N (0:Int) x21 a3 a4 a0 r26).bind fun r27=>
 some (((),((),())),(r27.2.2.1,(r27.2.2.2.1,(r27.2.2.2.2.1,())))))
 else
 (some (((),((),())),(x21,(a3,(a4,()))))))))))))
def z26(N:Nat)(rec:(List Z1)->Int->(List Z1)->(List Z1)->(List Z0)->Z0->Option (((Unit×Unit)×(Unit×ync))))(b0:(List Z1))(b1:Int)(b2:(List Z1))(b3:(List Z1))(b4:(List Z0))(b5:Z0):Option (((Unit×Unit)×(Unit×ync))):=
 bif (decide (b1<(b0.length:Int)))then
 (gd (inB b1 (b0.length))
 ((z2s N (rdL b0 b1 U7) b5 b2 b3 b4).bind fun r2=>
 rec b0 (aa .i64 (b1+(1:Int))) r2.2.1 r2.2.2.1 r2.2.2.2.1 b5))
 else
 (some (((),()),((),(((),((),())),(b2,(b3,(b4,())))))))
def z87(N:Nat)(n:Nat):=
 itF (fun _ _ _ _ _ _=>none) (z26 N) n
theorem zes(N:Nat)(n:Nat):z87 N (n+1)=z26 N (z87 N n):=rfl
def z6f(N:Nat)(a0:(List Z1))(a1:(List (List UInt8)))(a2:Int):Option (zj3):=
 (zns N a1).bind fun r1=>
 gd (inB a2 (r1.length))
 ((z87 N N a0 (0:Int) ([]:List Z1) ([]:List Z1) ([]:List Z0) (rdL r1 a2 Y7)).bind fun r3=>
 some (r3.2.2.2.1,(r3.2.2.2.2.1,r3.2.2.2.2.2.1)))
def z3a(N:Nat)(rec:Int->Int->Int->Z5->Option (((Int×Int)×Unit)))(b0 b1 b2:Int)(b3:Z5):Option (((Int×Int)×Unit)):=
 bif (decide (b2<(b3.2.2.1.length:Int)))then
 ((z6f N b3.2.2.2.2 b3.2.1 b2).bind fun r1=>
 bif (decide (b1<(r1.1.length:Int)))then
 (rec b2 (r1.1.length:Int) (aa .i64 (b2+(1:Int))) b3)
 else
 (rec b0 b1 (aa .i64 (b2+(1:Int))) b3))
 else
 (some ((b0,b1),()))
def z7e(N:Nat)(n:Nat):=
 itF (fun _ _ _ _=>none) (z3a N) n
theorem zg6(N:Nat)(n:Nat):z7e N (n+1)=z3a N (z7e N n):=rfl
def zle(N:Nat)(a0:Z5):Option ((Int×Int)):=
 (z7e N N (0:Int) (0:Int) (0:Int) a0).bind fun r2=>
 some (r2.1.1,r2.1.2)
def za4(N:Nat)(a0:Z5)(a1:Int):Option (Z5):=
 let x1:=(bif decide ((aa .i64 (a1-(1:Int)))<(0:Int))then(0:Int)else(aa .i64 (a1-(1:Int))))
 gd (decide (0<=(0:Int))&&(decide ((0:Int)<=a1)&&decide (a1<=(a0.2.2.1.length:Int))))
 (gd (fits (0+ap (cut2 a0.2.2.1 (0:Int) a1)) 8)
 (let x2:=(([]:List Int)++(cut2 a0.2.2.1 (0:Int) a1))
 gd (decide (0<=(aa .i64 (a1+(1:Int))))&&(decide ((aa .i64 (a1+(1:Int)))<=(a0.2.2.1.length:Int))&&decide ((a0.2.2.1.length:Int)<=(a0.2.2.1.length:Int))))
 (let x3:=(cut2 a0.2.2.1 (aa .i64 (a1+(1:Int))) (a0.2.2.1.length:Int))
 gd (fits (x2.length+x3.length) 8)
 (let x4:=(x2++x3)
 gd (decide (0<=(0:Int))&&(decide ((0:Int)<=a1)&&decide (a1<=(a0.2.2.2.1.length:Int))))
 (gd (fits (0+ap (cut2 a0.2.2.2.1 (0:Int) a1)) 32)
 (let x5:=(([]:List Y6)++(cut2 a0.2.2.2.1 (0:Int) a1))
 gd (decide (0<=(aa .i64 (a1+(1:Int))))&&(decide ((aa .i64 (a1+(1:Int)))<=(a0.2.2.2.1.length:Int))&&decide ((a0.2.2.2.1.length:Int)<=(a0.2.2.2.1.length:Int))))
 (let x6:=(cut2 a0.2.2.2.1 (aa .i64 (a1+(1:Int))) (a0.2.2.2.1.length:Int))
 gd (fits (x5.length+x6.length) 32)
 (let x7:=(x5++x6)
 gd (decide (0<=(0:Int))&&(decide ((0:Int)<=x1)&&decide (x1<=(a0.2.1.length:Int))))
 (gd (fits (0+ap (cut2 a0.2.1 (0:Int) x1)) 16)
 (let x8:=(([]:List (List UInt8))++(cut2 a0.2.1 (0:Int) x1))
 gd (decide (0<=(aa .i64 (x1+(1:Int))))&&(decide ((aa .i64 (x1+(1:Int)))<=(a0.2.1.length:Int))&&decide ((a0.2.1.length:Int)<=(a0.2.1.length:Int))))
 (let x9:=(cut2 a0.2.1 (aa .i64 (x1+(1:Int))) (a0.2.1.length:Int))
 gd (fits (x8.length+x9.length) 16)
 (let x10:=(x8++x9)
 some (([]:List Z3),(x10,(x4,(x7,a0.2.2.2.2))))))))))))))))
def zaz(N:Nat)(a0 a1:Y5)(a2 a3:Int):Option (z7a):=
 bif (!(eqi a2 (0:Int)))then
 (some (a0,((0:Int),a2)))
 else
 (some (a1,(a3,(0:Int))))
def z4v(N:Nat)(rec:(List Z3)->(List Z1)->Int->Option (((List Z3)×Unit)))(b0:(List Z3))(b1:(List Z1))(b2:Int):Option (((List Z3)×Unit)):=
 bif (decide (b2<(b1.length:Int)))then
 (gd (inB b2 (b1.length))
 (match z31 N b0 (rdL b1 b2 U7)with
 | some r1=>(rec r1 b1 (aa .i64 (b2+(1:Int))))
 | none=>none))
 else
 (some (b0,()))
def zc5(N:Nat)(n:Nat):=
 itF (fun _ _ _=>none) (z4v N) n
theorem zib(N:Nat)(n:Nat):zc5 N (n+1)=z4v N (zc5 N n):=rfl
def zk9(N:Nat)(a0:(List Z3))(a1:(List Z1)):Option ((List Z3)):=
 match zc5 N N a0 a1 (0:Int)with
 | some r2=>(some r2.1)
 | none=>none
def z1f(N:Nat)(b0:(List Int))(b1:Int)(b2:Y5)(b3:Z5)(b4:zj3)(b5:(List Z5))(b6:(List (List UInt8)))(b7:(List Z1)):Option ((Unit×(z7a×Unit))):=
 (zdq N b2.1 b5).bind fun r14=>
 bif (!(eqi r14.2.2 (0:Int)))then
 (some ((),((b2,((0:Int),r14.2.2)),())))
 else
 ((z8m N b3 b1 (b5,(b6,b7)) r14.2.1).bind fun r15=>
 (zbj N (r14.1,b2.2) b0 (([r15]:List Z5),(([]:List (List UInt8)),([]:List Z1)))).bind fun r16=>
 (zgx N r16.1.1 r14.2.1).bind fun r17=>
 (zaz N b2 (r17,r16.1.2) r16.2 (b4.1.length:Int)).bind fun r18=>
 some ((),(r18,())))
def zgp(N:Nat)(b0:(List Int))(b1:Int)(b2:Y5)(b3:Z5):Option ((Unit×(z7a×Unit))):=
 gd (inB b1 (b3.2.2.1.length))
 ((z9r N b2.1 (rdL b3.2.2.1 b1 (0:Int))).bind fun r3=>
 bif (!(eqi r3.2 (0:Int)))then
 (some ((),((b2,((0:Int),r3.2)),())))
 else
 ((z6f N b3.2.2.2.2 b3.2.1 b1).bind fun r4=>
 bif (eqi (r4.1.length:Int) (0:Int))then
 (some ((),((b2,((0:Int),(0:Int))),())))
 else
 (let x5:=(decide ((0:Int)<(r3.1.2.2.1.length:Int)))
 bif x5 then
 (gd (fits (0+r3.1.2.2.2.2.length) 112)
 (let x6:=(([]:List Z1)++r3.1.2.2.2.2)
 gd (fits (x6.length+r4.1.length) 112)
 (let x7:=(x6++r4.1)
 let x8:=([(r3.1.1,(r3.1.2.1,(r3.1.2.2.1,(r3.1.2.2.2.1,x7))))]:List Z5)
 let x9:=(aa .i64 ((r3.1.2.2.1.length:Int)+(r3.1.1.length:Int)))
 bif (eqi x9 (0:Int))then
 (let x10:=(decide ((1:Int)<(b3.2.2.1.length:Int)))
 bif x10 then
 ((za4 N (b3.1,(b3.2.1,(b3.2.2.1,(b3.2.2.2.1,r4.2.1)))) b1).bind fun r11=>
 (zbj N b2 b0 (([r11]:List Z5),(([]:List (List UInt8)),([]:List Z1)))).bind fun r12=>
 (zaz N b2 r12.1 r12.2 (r4.1.length:Int)).bind fun r13=>
 some ((),(r13,())))
 else
 ((z1f N b0 b1 b2 (b3.1,(b3.2.1,(b3.2.2.1,(b3.2.2.2.1,r4.2.1)))) r4 x8 ([]:List (List UInt8)) ([]:List Z1)).bind fun r19=>
 some ((),(r19.2.1,()))))
 else
 ((z1f N b0 b1 b2 (b3.1,(b3.2.1,(b3.2.2.1,(b3.2.2.2.1,r4.2.1)))) r4 x8 ([]:List (List UInt8)) ([]:List Z1)).bind fun r20=>
 some ((),(r20.2.1,()))))))
 else
 ((zk9 N r3.1.1 r4.1).bind fun r21=>
 (zd4 N (r21,r3.1.2) b2.2.2).bind fun r22=>
 let x23:=(aa .i64 ((r3.1.2.2.1.length:Int)+(r21.length:Int)))
 bif (eqi x23 (0:Int))then
 (let x24:=(decide ((1:Int)<(b3.2.2.1.length:Int)))
 bif x24 then
 ((za4 N (b3.1,(b3.2.1,(b3.2.2.1,(b3.2.2.2.1,r4.2.1)))) b1).bind fun r25=>
 (zbj N b2 b0 (([r25]:List Z5),(([]:List (List UInt8)),([]:List Z1)))).bind fun r26=>
 (zaz N b2 r26.1 r26.2 (r4.1.length:Int)).bind fun r27=>
 some ((),(r27,())))
 else
 ((z1f N b0 b1 b2 (b3.1,(b3.2.1,(b3.2.2.1,(b3.2.2.2.1,r4.2.1)))) r4 r22.1 r22.2.1 ([]:List Z1)).bind fun r28=>
 some ((),(r28.2.1,()))))
 else
 ((z1f N b0 b1 b2 (b3.1,(b3.2.1,(b3.2.2.1,(b3.2.2.2.1,r4.2.1)))) r4 r22.1 r22.2.1 ([]:List Z1)).bind fun r29=>
 some ((),(r29.2.1,())))))))
def zig(N:Nat)(a0:Y5)(a1:(List Int))(a2:Int):Option (z7a):=
 (z8v N a0 a1).bind fun r1=>
 bif (!(eqi r1.2.2 (0:Int)))then
 (some (a0,((0:Int),r1.2.2)))
 else
 (bif (decide (a2<(0:Int)))then
 (some (a0,((0:Int),(140:Int))))
 else
 (let x2:=(decide ((r1.1.2.2.1.length:Int)<=a2))
 bif x2 then
 (some (a0,((0:Int),(140:Int))))
 else
 ((zgp N a1 a2 a0 r1.1).bind fun r30=>
 some r30.2.1)))
def zoy(N:Nat)(a0:Z0)(a1:(List UInt8)):Option (Bool):=
 bif (!(lts a1 a0.1))then
 (bif (eqs a0.2 ([]:List UInt8))then
 (some true)
 else
 (some (lts a1 a0.2)))
 else
 (some false)
def z0w(N:Nat)(rec:(List Z3)->(List Z0)->Int->Bool->Int->(List Z3)->Option ypo)(b0:(List Z3))(b1:(List Z0))(b2:Int)(b3:Bool)(b4:Int)(b5:(List Z3)):Option ypo:=
 bif (decide (b4<(b1.length:Int)))then
 (bif b3 then
 (rec b0 b1 b2 true (aa .i64 (b4+(1:Int))) b5)
 else
 (gd (inB b4 (b1.length))
 (gd (inB b2 (b0.length))
 ((zoy N (rdL b1 b4 Y7) ((rdL b0 b2 X5).1)).bind fun r1=>
 rec b0 b1 b2 r1 (aa .i64 (b4+(1:Int))) b5))))
 else
 (some ((b0,(b1,((),(b2,b3)))),(b5,())))
def z6z(N:Nat)(n:Nat):=
 itF (fun _ _ _ _ _ _=>none) (z0w N) n
theorem zd5(N:Nat)(n:Nat):z6z N (n+1)=z0w N (z6z N n):=rfl
def z0x(N:Nat)(rec:(List Z3)->(List Z0)->Int->(List Z3)->Option (Ty7_))(b0:(List Z3))(b1:(List Z0))(b2:Int)(b3:(List Z3)):Option (Ty7_):=
 bif (decide (b2<(b0.length:Int)))then
 ((z6z N N b0 b1 b2 false (0:Int) b3).bind fun r2=>
 bif r2.1.2.2.2.2 then
 (gd (inB r2.1.2.2.2.1 (r2.1.1.length))
 (let x3:=([(rdL r2.1.1 r2.1.2.2.2.1 X5)]:List Z3)
 gd (fits (r2.2.1.length+x3.length) 40)
 (let x4:=(r2.2.1++x3)
 let x5:=(aa .i64 (r2.1.2.2.2.1+(1:Int)))
 rec r2.1.1 r2.1.2.1 x5 x4)))
 else
 (let x6:=(aa .i64 (r2.1.2.2.2.1+(1:Int)))
 rec r2.1.1 r2.1.2.1 x6 r2.2.1))
 else
 (some ((),(b3,())))
def z70(N:Nat)(n:Nat):=
 itF (fun _ _ _ _=>none) (z0x N) n
theorem zd6(N:Nat)(n:Nat):z70 N (n+1)=z0x N (z70 N n):=rfl
def zc1(N:Nat)(a0:(List Z3))(a1:(List Z0)):Option ((List Z3)):=
 (z70 N N a0 a1 (0:Int) ([]:List Z3)).bind fun r7=>
 some r7.2.1
def zik(N:Nat)(a0:Z0)(a1 a2:(List UInt8)):Option (Z0):=
 (U2 N a2).bind fun r1=>
 gd (decide (0<=(a1.length:Int))&&(decide ((a1.length:Int)<=(a0.1.length:Int))&&decide ((a0.1.length:Int)<=(a0.1.length:Int))))
 (let x2:=(cut2 a0.1 (a1.length:Int) (a0.1.length:Int))
 gd (decide (a2.length+x2.length<maxS))
 (let x3:=(a2++x2)
 (z04 N a0.2 a1).bind fun r4=>
 bif r4 then
 (bif (!(eqs a0.2 ([]:List UInt8)))then
 (gd (decide (0<=(a1.length:Int))&&(decide ((a1.length:Int)<=(a0.2.length:Int))&&decide ((a0.2.length:Int)<=(a0.2.length:Int))))
 (let x5:=(cut2 a0.2 (a1.length:Int) (a0.2.length:Int))
 gd (decide (a2.length+x5.length<maxS))
 (let x6:=(a2++x5)
 some (x3,x6))))
 else
 (some (x3,r1.2)))
 else
 (some (x3,r1.2))))
def z0f(N:Nat)(rec:(List Z0)->Int->Z1->Z0->(List Z0)->Option y9u)(b0:(List Z0))(b1:Int)(b2:Z1)(b3:Z0)(b4:(List Z0)):Option y9u:=
 bif (decide (b1<(b0.length:Int)))then
 (gd (inB b1 (b0.length))
 ((z2n N (rdL b0 b1 Y7) b3).bind fun r10=>
 (z0h N r10).bind fun r11=>
 bif (!r11)then
 ((zik N r10 b2.2.2.2.2.2.1 b2.2.2.2.2.1).bind fun r12=>
 gd (fits (b4.length+1) 32)
 (let x13:=(b4++([r12]:List Z0))
 rec b0 (aa .i64 (b1+(1:Int))) b2 b3 x13))
 else
 (rec b0 (aa .i64 (b1+(1:Int))) b2 b3 b4)))
 else
 (some ((),(b4,())))
def z0n(N:Nat)(n:Nat):=
 itF (fun _ _ _ _ _=>none) (z0f N) n
theorem zcd(N:Nat)(n:Nat):z0n N (n+1)=z0f N (z0n N n):=rfl
def z2v(N:Nat)(a0:(List Z0))(a1:Z1):Option ((List Z0)):=
 bif (eqi a1.1 (1:Int))then
 ((z9s N a1.2.1).bind fun r1=>
 (Q7 N a0 ([r1]:List Z0)).bind fun r2=>
 some r2)
 else
 (bif (eqi a1.1 (2:Int))then
 ((z9s N a1.2.1).bind fun r3=>
 (Q7 N a0 ([r3]:List Z0)).bind fun r4=>
 some r4)
 else
 (bif (eqi a1.1 (3:Int))then
 ((Q7 N a0 ([a1.2.2.2.1]:List Z0)).bind fun r5=>
 some r5)
 else
 (bif (eqi a1.1 (6:Int))then
 (some a0)
 else
 ((U2 N a1.2.2.2.2.2.1).bind fun r6=>
 bif (eqi a1.1 (4:Int))then
 ((U2 N a1.2.2.2.2.1).bind fun r7=>
 gd (fits (1+1) 32)
 (let x8:=(([r6]:List Z0)++([r7]:List Z0))
 (Q7 N a0 x8).bind fun r9=>
 (z0n N N a0 (0:Int) a1 r6 r9).bind fun r14=>
 (z16 N r14.2.1).bind fun r15=>
 some r15))
 else
 ((Q7 N a0 ([r6]:List Z0)).bind fun r16=>
 (z0n N N a0 (0:Int) a1 r6 r16).bind fun r17=>
 (z16 N r17.2.1).bind fun r18=>
 some r18)))))
def z27(N:Nat)(rec:(List Z1)->(List Z0)->Int->Option (((List Z0)×Unit)))(b0:(List Z1))(b1:(List Z0))(b2:Int):Option (((List Z0)×Unit)):=
 bif (decide ((0:Int)<=b2))then
 (gd (inB b2 (b0.length))
 ((z2v N b1 (rdL b0 b2 U7)).bind fun r3=>
 rec b0 r3 (aa .i64 (b2-(1:Int)))))
 else
 (some (b1,()))
def z88(N:Nat)(n:Nat):=
 itF (fun _ _ _=>none) (z27 N) n
theorem zet(N:Nat)(n:Nat):z88 N (n+1)=z27 N (z88 N n):=rfl
def zij(N:Nat)(a0:Z0)(a1:(List Z1)):Option ((List Z0)):=
 (z16 N ([a0]:List Z0)).bind fun r1=>
 let x2:=(aa .i64 ((a1.length:Int)-(1:Int)))
 (z88 N N a1 r1 x2).bind fun r4=>
 some r4.1
def z3e(N:Nat)(self:(List Z7)->Int->Z0->(List Z0)->Option (((List Z3)×Int)))(rec:(List Z0)->(List Z0)->(List Z0)->Int->(List Z7)->Z5->(List Z3)->Option yps)(b0:(List Z0))(b1:(List Z0))(b2:(List Z0))(b3:Int)(b4:(List Z7))(b5:Z5)(b6:(List Z3)):Option yps:=
 bif (decide (b3<(b5.2.2.1.length:Int)))then
 (gd (decide (0<=b3)&&(decide (b3<=(aa .i64 (b3+(1:Int))))&&decide ((aa .i64 (b3+(1:Int)))<=(b2.length:Int))))
 (let x8:=(cut2 b2 b3 (aa .i64 (b3+(1:Int))))
 (z8p N b1 x8).bind fun r9=>
 bif (!r9)then
 (rec b0 b1 b2 (aa .i64 (b3+(1:Int))) b4 b5 b6)
 else
 (gd (inB b3 (b5.2.2.1.length))
 (gd (inB b3 (b2.length))
 ((self b4 (rdL b5.2.2.1 b3 (0:Int)) (rdL b2 b3 Y7) b1).bind fun r10=>
 bif (!(eqi r10.2 (0:Int)))then
 (some (.inl ((([]:List Z3),r10.2),())))
 else
 (gd (fits (b6.length+r10.1.length) 40)
 (let x11:=(b6++r10.1)
 rec b0 b1 b2 (aa .i64 (b3+(1:Int))) b4 b5 x11)))))))
 else
 (some (.inr ((b0,((),())),(b5,(b6,())))))
def z7f(N:Nat)(self:(List Z7)->Int->Z0->(List Z0)->Option (((List Z3)×Int)))(n:Nat):=
 itF (fun _ _ _ _ _ _ _=>none) (z3e N self) n
theorem zga(N:Nat)(self:(List Z7)->Int->Z0->(List Z0)->Option (((List Z3)×Int)))(n:Nat):z7f N self (n+1)=z3e N self (z7f N self n):=rfl
def z3f(N:Nat)(self:(List Z7)->Int->Z0->(List Z0)->Option (((List Z3)×Int)))(rec:(List Z0)->Int->(List Z7)->Z0->Z5->(List Z0)->Option ypq)(b0:(List Z0))(b1:Int)(b2:(List Z7))(b3:Z0)(b4:Z5)(b5:(List Z0)):Option ypq:=
 bif (decide (b1<(b0.length:Int)))then
 (gd (inB b1 (b0.length))
 ((zij N (rdL b0 b1 Y7) b4.2.2.2.2).bind fun r4=>
 gd (fits (b5.length+r4.length) 32)
 (let x5:=(b5++r4)
 rec b0 (aa .i64 (b1+(1:Int))) b2 b3 b4 x5)))
 else
 (some ((b0,((),((),((),())))),(b2,(b3,(b4,(b5,()))))))
def za8(N:Nat)(self:(List Z7)->Int->Z0->(List Z0)->Option (((List Z3)×Int)))(n:Nat):=
 itF (fun _ _ _ _ _ _=>none) (z3f N self) n
theorem zgb(N:Nat)(self:(List Z7)->Int->Z0->(List Z0)->Option (((List Z3)×Int)))(n:Nat):za8 N self (n+1)=z3f N self (za8 N self n):=rfl
def z4b(N:Nat)(self:(List Z7)->Int->Z0->(List Z0)->Option (((List Z3)×Int)))(a0:(List Z7))(a1:Int)(a2:Z0)(a3:(List Z0)):Option (((List Z3)×Int)):=
 (z9r N a0 a1).bind fun r1=>
 bif (!(eqi r1.2 (0:Int)))then
 (some (([]:List Z3),r1.2))
 else
 (let x2:=(eqi (r1.1.2.2.1.length:Int) (0:Int))
 bif x2 then
 ((zc1 N r1.1.1 a3).bind fun r3=>
 some (r3,(0:Int)))
 else
 ((za8 N self N a3 (0:Int) a0 a2 r1.1 ([]:List Z0)).bind fun r6=>
 (z8n N r6.2.2.2.1 r6.2.2.1).bind fun r7=>
 (z7f N self N r6.1.1 r6.2.2.2.2.1 r7 (0:Int) r6.2.1 r6.2.2.2.1 ([]:List Z3)).bind fun r12=>
 match r12 with
 | .inl r13=>(some (r13.1.1,r13.1.2))
 | .inr r14=>((zk9 N r14.2.2.1 r14.2.1.2.2.2.2).bind fun r15=>
 (zc1 N r15 r14.1.1).bind fun r16=>
 some (r16,(0:Int)))))
def z08(N n:Nat):(List Z7)->Int->Z0->(List Z0)->Option (((List Z3)×Int)):=
 itF (fun _ _ _ _=>none) (z4b N) n
theorem zd7(N n:Nat):z08 N (n+1)=z4b N (z08 N n):=rfl
def y26(N:Nat):(List Z7)->Int->Z0->(List Z0)->Option (((List Z3)×Int)):=
 z08 N N
def zli(N:Nat)(a0:Y5)(a1:Z0):Option (((List Z3)×Int)):=
 (y26 N a0.1 a0.2.1 (([]:List UInt8),([]:List UInt8)) ([a1]:List Z0)).bind fun r1=>
 some (r1.1,r1.2)
def z6e(N:Nat)(a0:Z1):Option (Bool):=
 bif (eqi a0.1 (4:Int))then
 (some true)
 else
 (some (eqi a0.1 (5:Int)))
def z3j(N:Nat)(rec:(List Z3)->Int->Z1->(List Z1)->Option (((Unit×Unit)×(Z1×((List Z1)×Unit)))))(b0:(List Z3))(b1:Int)(b2:Z1)(b3:(List Z1)):Option (((Unit×Unit)×(Z1×((List Z1)×Unit)))):=
 bif (decide (b1<(b0.length:Int)))then
 (gd (inB b1 (b0.length))
 (gd (decide (0<=(b2.2.2.2.2.1.length:Int))&&(decide ((b2.2.2.2.2.1.length:Int)<=(ap ((rdL b0 b1 X5).1):Int))&&decide ((ap ((rdL b0 b1 X5).1):Int)<=(ap ((rdL b0 b1 X5).1):Int))))
 (let x4:=(cut2 ((rdL b0 b1 X5).1) (b2.2.2.2.2.1.length:Int) (ap ((rdL b0 b1 X5).1):Int))
 gd (decide (b2.2.2.2.2.2.1.length+x4.length<maxS))
 (let x5:=(b2.2.2.2.2.2.1++x4)
 let x6:=([((1:Int),(x5,(((rdL b0 b1 X5).2).1,((([]:List UInt8),([]:List UInt8)),(([]:List UInt8),(([]:List UInt8),((rdL b0 b1 X5).2).2))))))]:List Z1)
 gd (fits (b3.length+x6.length) 112)
 (let x7:=(b3++x6)
 rec b0 (aa .i64 (b1+(1:Int))) b2 x7)))))
 else
 (some (((),()),(b2,(b3,()))))
def zac(N:Nat)(n:Nat):=
 itF (fun _ _ _ _=>none) (z3j N) n
theorem zgf(N:Nat)(n:Nat):zac N (n+1)=z3j N (zac N n):=rfl
def zlm(N:Nat)(a0:Z1)(a1:(List Z3)):Option ((List Z1)):=
 (z6e N a0).bind fun r1=>
 bif (!r1)then
 (some ([a0]:List Z1))
 else
 ((U2 N a0.2.2.2.2.2.1).bind fun r2=>
 let x3:=([((3:Int),(([]:List UInt8),(([]:List UInt8),(r2,(([]:List UInt8),(([]:List UInt8),(0:Int)))))))]:List Z1)
 (zac N N a1 (0:Int) a0 x3).bind fun r8=>
 bif (eqi r8.2.1.1 (4:Int))then
 ((U2 N r8.2.1.2.2.2.2.1).bind fun r9=>
 let x10:=([((3:Int),(([]:List UInt8),(([]:List UInt8),(r9,(([]:List UInt8),(([]:List UInt8),(0:Int)))))))]:List Z1)
 gd (fits (r8.2.2.1.length+x10.length) 112)
 (let x11:=(r8.2.2.1++x10)
 some x11))
 else
 (some r8.2.2.1))
def zll(N:Nat)(a0:(List Z1))(a1:(List Z3)):Option (((List Z1)×Int)):=
 bif (eqi (a0.length:Int) (0:Int))then
 (some (([]:List Z1),(50:Int)))
 else
 (gd (inB (0:Int) (a0.length))
 ((z6e N (rdL a0 (0:Int) U7)).bind fun r1=>
 bif (!r1)then
 (some (([]:List Z1),(50:Int)))
 else
 (gd (inB (0:Int) (a0.length))
 ((zlm N (rdL a0 (0:Int) U7) a1).bind fun r2=>
 gd (decide (0<=(1:Int))&&(decide ((1:Int)<=(a0.length:Int))&&decide ((a0.length:Int)<=(a0.length:Int))))
 (gd (fits (r2.length+ap (cut2 a0 (1:Int) (a0.length:Int))) 112)
 (let x3:=(r2++(cut2 a0 (1:Int) (a0.length:Int)))
 some (x3,(0:Int))))))))
def z0u(N:Nat)(rec:Int->Y5->Z5->(List Z3)->Option ypn)(b0:Int)(b1:Y5)(b2:Z5)(b3:(List Z3)):Option ypn:=
 bif (decide (b0<(b2.2.2.1.length:Int)))then
 (gd (inB b0 (b2.2.2.1.length))
 (gd (inB (0:Int) (b2.2.2.2.2.length))
 (let x1:=(((((rdL b2.2.2.2.2 (0:Int) U7).2).2).2).2).1
 (U2 N x1).bind fun r2=>
 (zli N (b1.1,((rdL b2.2.2.1 b0 (0:Int)),b1.2.2)) r2).bind fun r3=>
 bif (!(eqi r3.2 (0:Int)))then
 (some (.inl (((),r3.2),(b2,()))))
 else
 (gd (fits (b3.length+r3.1.length) 40)
 (let x4:=(b3++r3.1)
 rec (aa .i64 (b0+(1:Int))) b1 b2 x4)))))
 else
 (some (.inr (((),((),())),(b2,((),(b3,()))))))
def z1m(N:Nat)(n:Nat):=
 itF (fun _ _ _ _=>none) (z0u N) n
theorem zd1(N:Nat)(n:Nat):z1m N (n+1)=z0u N (z1m N n):=rfl
def z6o(N:Nat)(a0:Y5)(a1:Z5):Option ((Z5×Int)):=
 (z1m N N (0:Int) a0 a1 ([]:List Z3)).bind fun r5=>
 match r5 with
 | .inl r6=>(some (r6.2.1,r6.1.2))
 | .inr r7=>((zll N r7.2.1.2.2.2.2 r7.2.2.2.1).bind fun r8=>
 some ((r7.2.1.1,(r7.2.1.2.1,(r7.2.1.2.2.1,(r7.2.1.2.2.2.1,r8.1)))),r8.2))
def zlf(N:Nat)(a0:Y5)(a1:(List Int)):Option ((Y5×Int)):=
 (z8v N a0 a1).bind fun r1=>
 bif (!(eqi r1.2.2 (0:Int)))then
 (some (a0,r1.2.2))
 else
 (let x2:=(decide (a0.2.2.1<(r1.1.1.length:Int)))
 bif x2 then
 ((zd4 N r1.1 a0.2.2).bind fun r3=>
 (zgy N a0 a1 (r3.1,(r3.2.1,([]:List Z1)))).bind fun r4=>
 some (r4.1,r4.2))
 else
 (let x5:=(decide (a0.2.2.2.1<(r1.1.2.2.1.length:Int)))
 bif x5 then
 ((zih N r1.1 a0.2.2).bind fun r6=>
 (zgy N a0 a1 r6).bind fun r7=>
 some (r7.1,r7.2))
 else
 (let x8:=(eqi (r1.1.2.2.2.2.length:Int) (0:Int))
 bif x8 then
 (some (a0,(0:Int)))
 else
 ((zle N r1.1).bind fun r9=>
 bif (decide ((0:Int)<r9.2))then
 ((zig N a0 a1 r9.1).bind fun r10=>
 some (r10.1,r10.2.2))
 else
 ((z6o N a0 r1.1).bind fun r11=>
 bif (!(eqi r11.2 (0:Int)))then
 (some (a0,r11.2))
 else
 ((zgy N a0 a1 (([r11.1]:List Z5),(([]:List (List UInt8)),([]:List Z1)))).bind fun r12=>
 some (r12.1,r12.2)))))))
def z59(N:Nat)(rec:Bool->Y5->z3z->Option ((Unit×(z3z×Unit))))(b0:Bool)(b1:Y5)(b2:z3z):Option ((Unit×(z3z×Unit))):=
 (zyi N b2.1 ([]:List Int) b0).bind fun r1=>
 bif (!r1.2)then
 (some ((),(b2,())))
 else
 ((zlf N b2.1 r1.1).bind fun r2=>
 bif (!(eqi r2.2 (0:Int)))then
 (some ((),((b1,((0:Int),r2.2)),())))
 else
 (rec b0 b1 (r2.1,((aa .i64 (b2.2.1+(1:Int))),b2.2.2))))
def z83(N:Nat)(n:Nat):=
 itF (fun _ _ _=>none) (z59 N) n
theorem zoc(N:Nat)(n:Nat):z83 N (n+1)=z59 N (z83 N n):=rfl
def znq(N:Nat)(a0:Y5)(a1:Bool):Option (z3z):=
 (z83 N N a1 a0 (a0,((0:Int),(0:Int)))).bind fun r3=>
 some r3.2.1
def zlg(N:Nat)(a0:Y5):Option (z3z):=
 (znq N a0 false).bind fun r1=>
 some r1
def zrt(N:Nat)(a0:Z4)(a1:Y5):Option (Z4):=
 some (a1.1,(a1.2.2,(a0.2.2.1,(a0.2.2.2.1,(a1.2.1,a0.2.2.2.2.2)))))
def zim(N:Nat)(a0:Z1):Option ((List Z0)):=
 bif (eqi a0.1 (6:Int))then
 (some ([]:List Z0))
 else
 (match K8 N a0 with
 | some r1=>(some r1)
 | none=>none)
def z3l(N:Nat)(rec:(List Z1)->Int->(List Z1)->(List Z0)->Option (((Unit×(Unit×Unit))×(Unit×((List Z1)×((List Z0)×Unit))))))(b0:(List Z1))(b1:Int)(b2:(List Z1))(b3:(List Z0)):Option (((Unit×(Unit×Unit))×(Unit×((List Z1)×((List Z0)×Unit))))):=
 bif (decide ((0:Int)<=b1))then
 (gd (inB b1 (b0.length))
 ((K8 N (rdL b0 b1 U7)).bind fun r3=>
 (Q7 N r3 b3).bind fun r4=>
 bif (eqi (r4.length:Int) (0:Int))then
 (rec b0 (aa .i64 (b1-(1:Int))) b2 b3)
 else
 (gd (fits (1+b2.length) 112)
 (let x5:=(([(rdL b0 b1 U7)]:List Z1)++b2)
 gd (fits (0+b3.length) 32)
 (let x6:=(([]:List Z0)++b3)
 (zim N (rdL b0 b1 U7)).bind fun r7=>
 gd (fits (x6.length+r7.length) 32)
 (let x8:=(x6++r7)
 (z6g N (rdL b0 b1 U7)).bind fun r9=>
 (Q7 N x8 r9).bind fun r10=>
 rec b0 (aa .i64 (b1-(1:Int))) x5 r10))))))
 else
 (some (((),((),())),((),(b2,(b3,())))))
def zae(N:Nat)(n:Nat):=
 itF (fun _ _ _ _=>none) (z3l N) n
theorem zgh(N:Nat)(n:Nat):zae N (n+1)=z3l N (zae N n):=rfl
def zrw(N:Nat)(a0:(List Z1))(a1:(List Z0)):Option (zni):=
 (z16 N a1).bind fun r1=>
 let x2:=(aa .i64 ((a0.length:Int)-(1:Int)))
 (zae N N a0 x2 ([]:List Z1) r1).bind fun r11=>
 some (r11.2.2.1,r11.2.2.2.1)
def zc4(N:Nat)(a0:(List Z1)):Option ((List Z1)):=
 (zrw N a0 ([]:List Z0)).bind fun r1=>
 some r1.1
def z4m(N:Nat)(rec:(List Z1)->Int->Z4->Y5->Option ypw)(b0:(List Z1))(b1:Int)(b2:Z4)(b3:Y5):Option ypw:=
 bif (decide (b1<(b0.length:Int)))then
 (gd (inB b1 (b0.length))
 ((zk6 N b3 (rdL b0 b1 U7)).bind fun r2=>
 bif (!(eqi r2.2 (0:Int)))then
 (some (.inl (((),r2.2),(b2,()))))
 else
 (rec b0 (aa .i64 (b1+(1:Int))) b2 r2.1)))
 else
 (some (.inr ((b0,((),((),()))),(b2,((),(b3,()))))))
def z4x(N:Nat)(n:Nat):=
 itF (fun _ _ _ _=>none) (z4m N) n
theorem zi2(N:Nat)(n:Nat):z4x N (n+1)=z4m N (z4x N n):=rfl
def zk5(N:Nat)(a0:Z4)(a1:(List Z1)):Option ((Z4×Int)):=
 (zru N a0 (0:Int)).bind fun r1=>
 (z4x N N a1 (0:Int) a0 r1.1).bind fun r3=>
 match r3 with
 | .inl r4=>(some (r4.2.1,r4.1.2))
 | .inr r5=>((zlg N r5.2.2.2.1).bind fun r6=>
 bif (!(eqi r6.2.2 (0:Int)))then
 (some (r5.2.1,r6.2.2))
 else
 (gd (fits (0+r5.2.1.2.2.2.2.2.2.length) 112)
 (let x7:=(([]:List Z1)++r5.2.1.2.2.2.2.2.2)
 (zrt N r5.2.1 r6.1).bind fun r8=>
 gd (fits (x7.length+r5.1.1.length) 112)
 (let x9:=(x7++r5.1.1)
 (zc4 N x9).bind fun r10=>
 some ((r8.1,(r8.2.1,(r8.2.2.1,(r8.2.2.2.1,(r8.2.2.2.2.1,(r8.2.2.2.2.2.1,r10)))))),(0:Int))))))
def z97(N:Nat)(b0 b1:Int)(b2:Bool):Option (((Unit×Int)×(Unit×Unit))⊕((Int×(Int×Unit))×(Unit×Unit))):=
 bif b2 then
 (some (.inl (((),(1:Int)),((),()))))
 else
 (some (.inr ((b0,(b1,())),((),()))))
def z98(N:Nat)(b0 b1:Int):Option (((Unit×Int)×ynb)):=
 gd ((decide (0<=b1)&&decide (b1<=b1))&&(decide (b1<maxB)&&decide (b1*24<maxB)))
 (let x4:=(ar (cH b1) ([]:List Int))
 some (((),(0:Int)),((b0,((),())),(x4,(([]:List Y9),())))))
def zbi(N:Nat)(a0 a1:Int):Option ((W8×Int)):=
 bif (decide (a0<(1:Int)))then
 ((z97 N a0 a1 true).bind fun r1=>
 match r1 with
 | .inl r2=>(some (((0:Int),(([]:List (List Int)),([]:List Y9))),r2.1.2))
 | .inr r3=>((z98 N r3.1.1 r3.1.2.1).bind fun r5=>
 some ((r5.2.1.1,(r5.2.2.1,r5.2.2.2.1)),r5.1.2)))
 else
 (bif (decide ((65536:Int)<a0))then
 ((z97 N a0 a1 true).bind fun r6=>
 match r6 with
 | .inl r7=>(some (((0:Int),(([]:List (List Int)),([]:List Y9))),r7.1.2))
 | .inr r8=>((z98 N r8.1.1 r8.1.2.1).bind fun r9=>
 some ((r9.2.1.1,(r9.2.2.1,r9.2.2.2.1)),r9.1.2)))
 else
 (bif (decide (a1<(1:Int)))then
 ((z97 N a0 a1 true).bind fun r10=>
 match r10 with
 | .inl r11=>(some (((0:Int),(([]:List (List Int)),([]:List Y9))),r11.1.2))
 | .inr r12=>((z98 N r12.1.1 r12.1.2.1).bind fun r13=>
 some ((r13.2.1.1,(r13.2.2.1,r13.2.2.2.1)),r13.1.2)))
 else
 ((z97 N a0 a1 (decide ((4096:Int)<a1))).bind fun r14=>
 match r14 with
 | .inl r15=>(some (((0:Int),(([]:List (List Int)),([]:List Y9))),r15.1.2))
 | .inr r16=>((z98 N r16.1.1 r16.1.2.1).bind fun r17=>
 some ((r17.2.1.1,(r17.2.2.1,r17.2.2.2.1)),r17.1.2)))))
def z4l(N:Nat)(rec:Int->Int->Int->Int->(List Bool)->(List Int)->Option (((Unit×Unit)×(Unit×yna))))(b0 b1 b2 b3:Int)(b4:(List Bool))(b5:(List Int)):Option (((Unit×Unit)×(Unit×yna))):=
 bif (decide (b2<b0))then
 (gd (fits (b4.length+1) 1)
 (let x4:=(b4++([(decide (b2<b1))]:List Bool))
 rec b0 b1 (aa .i64 (b2+(1:Int))) b3 x4 b5))
 else
 (some (((),()),((),(((),((),b3)),(b4,(b5,()))))))
def zbx(N:Nat)(n:Nat):=
 itF (fun _ _ _ _ _ _=>none) (z4l N) n
theorem zi1(N:Nat)(n:Nat):zbx N (n+1)=z4l N (zbx N n):=rfl
def z95(N:Nat)(b0 b1:Int)(b2:Bool):Option (((Unit×Int)×(Unit×Unit))⊕((Int×(Int×Unit))×(Unit×Unit))):=
 bif b2 then
 (some (.inl (((),(1:Int)),((),()))))
 else
 (some (.inr ((b0,(b1,())),((),()))))
def z96(N:Nat)(b0 b1:Int):Option (((Unit×Int)×yna)):=
 (zbx N N b0 b1 (0:Int) (0:Int) ([]:List Bool) ([]:List Int)).bind fun r5=>
 some (((),(0:Int)),(((),((),r5.2.2.1.2.2)),(r5.2.2.2.1,(r5.2.2.2.2.1,()))))
def zow(N:Nat)(a0 a1:Int):Option ((V1×Int)):=
 bif (decide (a0<(1:Int)))then
 ((z95 N a0 a1 true).bind fun r1=>
 match r1 with
 | .inl r2=>(some ((([]:List Bool),(([]:List Int),(0:Int))),r2.1.2))
 | .inr r3=>((z96 N r3.1.1 r3.1.2.1).bind fun r6=>
 some ((r6.2.2.1,(r6.2.2.2.1,r6.2.1.2.2)),r6.1.2)))
 else
 (bif (decide ((4096:Int)<a0))then
 ((z95 N a0 a1 true).bind fun r7=>
 match r7 with
 | .inl r8=>(some ((([]:List Bool),(([]:List Int),(0:Int))),r8.1.2))
 | .inr r9=>((z96 N r9.1.1 r9.1.2.1).bind fun r10=>
 some ((r10.2.2.1,(r10.2.2.2.1,r10.2.1.2.2)),r10.1.2)))
 else
 (bif (decide (a1<(0:Int)))then
 ((z95 N a0 a1 true).bind fun r11=>
 match r11 with
 | .inl r12=>(some ((([]:List Bool),(([]:List Int),(0:Int))),r12.1.2))
 | .inr r13=>((z96 N r13.1.1 r13.1.2.1).bind fun r14=>
 some ((r14.2.2.1,(r14.2.2.2.1,r14.2.1.2.2)),r14.1.2)))
 else
 ((z95 N a0 a1 (decide (a0<a1))).bind fun r15=>
 match r15 with
 | .inl r16=>(some ((([]:List Bool),(([]:List Int),(0:Int))),r16.1.2))
 | .inr r17=>((z96 N r17.1.1 r17.1.2.1).bind fun r18=>
 some ((r18.2.2.1,(r18.2.2.2.1,r18.2.1.2.2)),r18.1.2)))))
def z5b(N:Nat)(rec:(List Z3)->Int->Option Ty3_)(b0:(List Z3))(b1:Int):Option Ty3_:=
 bif (decide (b1<(b0.length:Int)))then
 (gd (inB (aa .i64 (b1-(1:Int))) (b0.length))
 (let x1:=(rdL b0 (aa .i64 (b1-(1:Int))) X5)
 gd (inB b1 (b0.length))
 (bif (!(lts x1.1 ((rdL b0 b1 X5).1)))then
 (some (.inl (false,())))
 else
 (rec b0 (aa .i64 (b1+(1:Int)))))))
 else
 (some (.inr ((),())))
def z8d(N:Nat)(n:Nat):=
 itF (fun _ _=>none) (z5b N) n
theorem zod(N:Nat)(n:Nat):z8d N (n+1)=z5b N (z8d N n):=rfl
def zin(N:Nat)(a0:(List Z3)):Option (Bool):=
 match z8d N N a0 (1:Int)with
 | some r2=>(match r2 with
 | .inl r3=>(some r3.1)
 | .inr r4=>(some true))
 | none=>none
def zkg(N:Nat)(a0 a1 a2:Int):Option (Bool):=
 bif (decide (a1<=a0))then
 (some (decide (a0<=a2)))
 else
 (some false)
def z3i(N:Nat)(rec:Int->Z5->Z0->Option Ty3_)(b0:Int)(b1:Z5)(b2:Z0):Option Ty3_:=
 bif (decide (b0<(b1.1.length:Int)))then
 (gd (inB b0 (b1.1.length))
 (match zbk N b2 ((rdL b1.1 b0 X5).1)with
 | some r5=>(bif (!r5)then
 (some (.inl (false,())))
 else
 (let x6:=(ap ((rdL b1.1 b0 X5).1):Int)
 match zkg N x6 (1:Int) (65535:Int)with
 | some r7=>(bif (!r7)then
 (some (.inl (false,())))
 else
 (let x8:=(ap (((rdL b1.1 b0 X5).2).1):Int)
 bif (decide ((64:Int)<x8))then
 (some (.inl (false,())))
 else
 (match zkg N (((rdL b1.1 b0 X5).2).2) (0:Int) (1000000000:Int)with
 | some r9=>(bif (!r9)then
 (some (.inl (false,())))
 else
 (rec (aa .i64 (b0+(1:Int))) b1 b2))
 | none=>none)))
 | none=>none))
 | none=>none))
 else
 (some (.inr ((),())))
def zaa(N:Nat)(n:Nat):=
 itF (fun _ _ _=>none) (z3i N) n
theorem zge(N:Nat)(n:Nat):zaa N (n+1)=z3i N (zaa N n):=rfl
def zlj(N:Nat)(a0:Z5)(a1:Z0):Option (Bool):=
 let x1:=(decide ((0:Int)<(a0.2.1.length:Int)))
 bif x1 then
 (some false)
 else
 (let x2:=(decide ((0:Int)<(a0.2.2.2.1.length:Int)))
 bif x2 then
 (some false)
 else
 (let x3:=(decide ((0:Int)<(a0.2.2.2.2.length:Int)))
 bif x3 then
 (some false)
 else
 (match zin N a0.1 with
 | some r4=>(bif (!r4)then
 (some false)
 else
 (match zaa N N (0:Int) a0 a1 with
 | some r10=>(match r10 with
 | .inl r11=>(some r11.1)
 | .inr r12=>(some true))
 | none=>none))
 | none=>none)))
def z09(N:Nat)(b0:(List (List UInt8)))(b1:Int)(b2:Bool)(b3:Z0):Option ((Bool×Unit)⊕(((List (List UInt8))×(Unit×Int))×(Z0×Unit))):=
 bif b2 then
 (some (.inl (false,())))
 else
 (some (.inr ((b0,((),b1)),(b3,()))))
def z0a(N:Nat)(b0:(List (List UInt8)))(b1:Int)(b2:Z0):Option ((((List (List UInt8))×(Unit×Int))×(Z0×Unit))):=
 some ((b0,((),(aa .i64 (b1+(1:Int))))),(b2,()))
def z0y(N:Nat)(rec:(List (List UInt8))->Int->Z0->Option Ty3_)(b0:(List (List UInt8)))(b1:Int)(b2:Z0):Option Ty3_:=
 bif (decide (b1<(b0.length:Int)))then
 (gd (inB b1 (b0.length))
 (let x1:=(lts (rdL b0 b1 ([]:List UInt8)) b2.1 || eqs (rdL b0 b1 ([]:List UInt8)) b2.1)
 bif x1 then
 (match z09 N b0 b1 true b2 with
 | some r2=>(match r2 with
 | .inl r3=>(some (.inl (r3.1,())))
 | .inr r4=>(match z0a N r4.1.1 r4.1.2.2 r4.2.1 with
 | some r5=>(rec r5.1.1 r5.1.2.2 r5.2.1)
 | none=>none))
 | none=>none)
 else
 (bif (!(eqs b2.2 ([]:List UInt8)))then
 (gd (inB b1 (b0.length))
 (bif (!(lts (rdL b0 b1 ([]:List UInt8)) b2.2))then
 (match z09 N b0 b1 true b2 with
 | some r6=>(match r6 with
 | .inl r7=>(some (.inl (r7.1,())))
 | .inr r8=>(match z0a N r8.1.1 r8.1.2.2 r8.2.1 with
 | some r9=>(rec r9.1.1 r9.1.2.2 r9.2.1)
 | none=>none))
 | none=>none)
 else
 (bif (decide ((0:Int)<b1))then
 (gd (inB b1 (b0.length))
 (gd (inB (aa .i64 (b1-(1:Int))) (b0.length))
 (let x10:=(rdL b0 (aa .i64 (b1-(1:Int))) ([]:List UInt8))
 let x11:=(lts (rdL b0 b1 ([]:List UInt8)) x10 || eqs (rdL b0 b1 ([]:List UInt8)) x10)
 match z09 N b0 b1 x11 b2 with
 | some r12=>(match r12 with
 | .inl r13=>(some (.inl (r13.1,())))
 | .inr r14=>(match z0a N r14.1.1 r14.1.2.2 r14.2.1 with
 | some r15=>(rec r15.1.1 r15.1.2.2 r15.2.1)
 | none=>none))
 | none=>none)))
 else
 (match z09 N b0 b1 false b2 with
 | some r16=>(match r16 with
 | .inl r17=>(some (.inl (r17.1,())))
 | .inr r18=>(match z0a N r18.1.1 r18.1.2.2 r18.2.1 with
 | some r19=>(rec r19.1.1 r19.1.2.2 r19.2.1)
 | none=>none))
 | none=>none))))
 else
 (bif (decide ((0:Int)<b1))then
 (gd (inB b1 (b0.length))
 (gd (inB (aa .i64 (b1-(1:Int))) (b0.length))
 (let x20:=(rdL b0 (aa .i64 (b1-(1:Int))) ([]:List UInt8))
 let x21:=(lts (rdL b0 b1 ([]:List UInt8)) x20 || eqs (rdL b0 b1 ([]:List UInt8)) x20)
 match z09 N b0 b1 x21 b2 with
 | some r22=>(match r22 with
 | .inl r23=>(some (.inl (r23.1,())))
 | .inr r24=>(match z0a N r24.1.1 r24.1.2.2 r24.2.1 with
 | some r25=>(rec r25.1.1 r25.1.2.2 r25.2.1)
 | none=>none))
 | none=>none)))
 else
 (match z09 N b0 b1 false b2 with
 | some r26=>(match r26 with
 | .inl r27=>(some (.inl (r27.1,())))
 | .inr r28=>(match z0a N r28.1.1 r28.1.2.2 r28.2.1 with
 | some r29=>(rec r29.1.1 r29.1.2.2 r29.2.1)
 | none=>none))
 | none=>none)))))
 else
 (some (.inr ((),())))
def z1n(N:Nat)(n:Nat):=
 itF (fun _ _ _=>none) (z0y N) n
theorem zd8(N:Nat)(n:Nat):z1n N (n+1)=z0y N (z1n N n):=rfl
def zfk(N:Nat)(a0:(List (List UInt8)))(a1:Z0):Option (Bool):=
 match z1n N N a0 (0:Int) a1 with
 | some r30=>(match r30 with
 | .inl r31=>(some r31.1)
 | .inr r32=>(some true))
 | none=>none
def zdy(N:Nat)(a0:z55):Option (Bool):=
 bif (decide ((0:Int)<=a0.1))then
 (bif (decide (a0.1<=a0.2))then
 (some (decide (a0.2<=(1000000000000000:Int))))
 else
 (some false))
 else
 (some false)
def z0z(N:Nat)(rec:Int->Z0->(List Z0)->Option Ty3_)(b0:Int)(b1:Z0)(b2:(List Z0)):Option Ty3_:=
 bif (decide (b0<(b2.length:Int)))then
 (gd (inB b0 (b2.length))
 (match zc6 N b1 (rdL b2 b0 Y7)with
 | some r4=>(bif (!r4)then
 (some (.inl (false,())))
 else
 (rec (aa .i64 (b0+(1:Int))) b1 b2))
 | none=>none))
 else
 (some (.inr ((),())))
def z72(N:Nat)(n:Nat):=
 itF (fun _ _ _=>none) (z0z N) n
theorem zd9(N:Nat)(n:Nat):z72 N (n+1)=z0z N (z72 N n):=rfl
def zfl(N:Nat)(a0:Z1)(a1:Z0):Option (Bool):=
 match z6g N a0 with
 | some r1=>(match K8 N a0 with
 | some r2=>(gd (fits (r1.length+r2.length) 32)
 (let x3:=(r1++r2)
 match z72 N N (0:Int) a1 x3 with
 | some r5=>(match r5 with
 | .inl r6=>(some r6.1)
 | .inr r7=>(some true))
 | none=>none))
 | none=>none)
 | none=>none
def z24(N:Nat)(rec:Int->Z5->Z0->Option Ty3_)(b0:Int)(b1:Z5)(b2:Z0):Option Ty3_:=
 let x12:=(decide (b0<(b1.2.2.2.2.length:Int)))
 bif x12 then
 (gd (inB b0 (b1.2.2.2.2.length))
 (match zb8 N (rdL b1.2.2.2.2 b0 U7)with
 | some r13=>(bif (!r13)then
 (some (.inl (false,())))
 else
 (gd (inB b0 (b1.2.2.2.2.length))
 (match zfl N (rdL b1.2.2.2.2 b0 U7) b2 with
 | some r14=>(bif (!r14)then
 (some (.inl (false,())))
 else
 (rec (aa .i64 (b0+(1:Int))) b1 b2))
 | none=>none)))
 | none=>none))
 else
 (some (.inr ((),())))
def z86(N:Nat)(n:Nat):=
 itF (fun _ _ _=>none) (z24 N) n
theorem zeq(N:Nat)(n:Nat):z86 N (n+1)=z24 N (z86 N n):=rfl
def z25(N:Nat)(rec:Int->Z5->Z0->Option ((Bool×Unit)⊕((Unit×Unit)×yet)))(b0:Int)(b1:Z5)(b2:Z0):Option ((Bool×Unit)⊕((Unit×Unit)×yet)):=
 bif (decide (b0<(b1.2.2.1.length:Int)))then
 (gd (inB b0 (b1.2.2.1.length))
 (match zkg N (rdL b1.2.2.1 b0 (0:Int)) (0:Int) (4095:Int)with
 | some r6=>(bif (!r6)then
 (some (.inl (false,())))
 else
 (gd (inB b0 (b1.2.2.2.1.length))
 (match zdy N ((rdL b1.2.2.2.1 b0 z66).1)with
 | some r7=>(bif (!r7)then
 (some (.inl (false,())))
 else
 (gd (inB b0 (b1.2.2.2.1.length))
 (match zdy N ((rdL b1.2.2.2.1 b0 z66).2)with
 | some r8=>(bif (!r8)then
 (some (.inl (false,())))
 else
 (rec (aa .i64 (b0+(1:Int))) b1 b2))
 | none=>none)))
 | none=>none)))
 | none=>none))
 else
 (some (.inr (((),()),(b1,(b2,())))))
def z5s(N:Nat)(n:Nat):=
 itF (fun _ _ _=>none) (z25 N) n
theorem zer(N:Nat)(n:Nat):z5s N (n+1)=z25 N (z5s N n):=rfl
def zbp(N:Nat)(b0:Z5)(b1:Z0):Option ((Bool×Unit)):=
 match z5s N N (0:Int) b0 b1 with
 | some r9=>(match r9 with
 | .inl r10=>(some (r10.1,()))
 | .inr r11=>(match z86 N N (0:Int) r11.2.1 r11.2.2.1 with
 | some r15=>(match r15 with
 | .inl r16=>(some (r16.1,()))
 | .inr r17=>(some (true,())))
 | none=>none))
 | none=>none
def zii(N:Nat)(a0:Z5)(a1:Z0):Option (Bool):=
 bif (eqi (a0.2.2.1.length:Int) (0:Int))then
 (match zlj N a0 a1 with
 | some r1=>(some r1)
 | none=>none)
 else
 (let x2:=(decide ((0:Int)<(a0.1.length:Int)))
 bif x2 then
 (some false)
 else
 (let x3:=(!(eqi (a0.2.2.2.1.length:Int) (a0.2.2.1.length:Int)))
 bif x3 then
 (some false)
 else
 (let x4:=(aa .i64 ((a0.2.2.1.length:Int)-(1:Int)))
 bif (!(eqi (a0.2.1.length:Int) x4))then
 (some false)
 else
 (match zfk N a0.2.1 a1 with
 | some r5=>(bif (!r5)then
 (some false)
 else
 (match zbp N a0 a1 with
 | some r18=>(some r18.1)
 | none=>none))
 | none=>none))))
def y8(N:Nat)(rec:Int->Int->(List Int)->Option ((Unit×((List Int)×Unit))))(b0 b1:Int)(b2:(List Int)):Option ((Unit×((List Int)×Unit))):=
 bif (decide ((0:Int)<=b1))then
 (gd (decide (0<=(aa .i64 ((8:Int)*b1))))
 (let x1:=(d0 b0 (2^min (cH (aa .i64 ((8:Int)*b1))) (be .i64)))
 gd (fits (b2.length+1) 1)
 (let x2:=(b2++([(aa .u8 (x1))]:List Int))
 rec b0 (aa .i64 (b1-(1:Int))) x2)))
 else
 (some ((),(b2,())))
def z4c(N:Nat)(n:Nat):=
 itF (fun _ _ _=>none) (y8 N) n
theorem z7u(N:Nat)(n:Nat):z4c N (n+1)=y8 N (z4c N n):=rfl
def V5(N:Nat)(a0 a1:Int):Option ((List Int)):=
 match z4c N N a0 (aa .i64 (a1-(1:Int))) ([]:List Int)with
 | some r3=>(some r3.2.1)
 | none=>none
def z8y(N:Nat)(a0:(List UInt8)):Option ((List Int)):=
 match V5 N (a0.length:Int) (2:Int)with
 | some r1=>(gd (fits (r1.length+ap (w5 a0)) 1)
 (let x2:=(r1++(w5 a0))
 some x2))
 | none=>none
def z7v(N:Nat)(rec:Int->Int->(List Int)->Option ((Unit×((List Int)×Unit))))(b0 b1:Int)(b2:(List Int)):Option ((Unit×((List Int)×Unit))):=
 bif (decide ((0:Int)<=b1))then
 (gd (decide (0<=(aa .i64 ((8:Int)*b1))))
 (let x1:=(d0 b0 (2^min (cH (aa .i64 ((8:Int)*b1))) (be .i64)))
 gd (fits (b2.length+1) 1)
 (let x2:=(b2++([(aa .u8 (x1))]:List Int))
 rec b0 (aa .i64 (b1-(1:Int))) x2)))
 else
 (some ((),(b2,())))
def zaq(N:Nat)(n:Nat):=
 itF (fun _ _ _=>none) (z7v N) n
theorem y9g(N:Nat)(n:Nat):zaq N (n+1)=z7v N (zaq N n):=rfl
def z52(N:Nat)(a0 a1:Int):Option ((List Int)):=
 match zaq N N a0 (aa .i64 (a1-(1:Int))) ([]:List Int)with
 | some r3=>(some r3.2.1)
 | none=>none
def g8(N:Nat)(rec:(List (List UInt8))->Int->(List Int)->Option ((Unit×((List Int)×Unit))))(b0:(List (List UInt8)))(b1:Int)(b2:(List Int)):Option ((Unit×((List Int)×Unit))):=
 bif (decide (b1<(b0.length:Int)))then
 (gd (inB b1 (b0.length))
 (let x1:=(ap (rdL b0 b1 ([]:List UInt8)):Int)
 match z52 N x1 (2:Int)with
 | some r2=>(gd (fits (b2.length+r2.length) 1)
 (let x3:=(b2++r2)
 gd (inB b1 (b0.length))
 (gd (fits (x3.length+ap (w5 (rdL b0 b1 ([]:List UInt8)))) 1)
 (let x4:=(x3++(w5 (rdL b0 b1 ([]:List UInt8))))
 rec b0 (aa .i64 (b1+(1:Int))) x4))))
 | none=>none))
 else
 (some ((),(b2,())))
def z5z(N:Nat)(n:Nat):=
 itF (fun _ _ _=>none) (g8 N) n
theorem z9n(N:Nat)(n:Nat):z5z N (n+1)=g8 N (z5z N n):=rfl
def Q6(N:Nat)(a0:(List (List UInt8))):Option ((List Int)):=
 match z5z N N a0 (0:Int) ([]:List Int)with
 | some r5=>(some r5.2.1)
 | none=>none
def J8(N:Nat)(b0:Z1)(b1:(List Int)):Option ((Unit×((List Int)×Unit))):=
 bif (eqi b0.1 (1:Int))then
 (match z52 N b0.2.2.2.2.2.2 (4:Int)with
 | some r4=>(gd (fits (b1.length+r4.length) 1)
 (let x5:=(b1++r4)
 some ((),(x5,()))))
 | none=>none)
 else
 (bif (eqi b0.1 (6:Int))then
 (match z52 N b0.2.2.2.2.2.2 (4:Int)with
 | some r6=>(gd (fits (b1.length+r6.length) 1)
 (let x7:=(b1++r6)
 some ((),(x7,()))))
 | none=>none)
 else
 (some ((),(b1,()))))
def z8q(N:Nat)(a0:Z1):Option ((List Int)):=
 match zb8 N a0 with
 | some r1=>(bif (!r1)then
 (some ([]:List Int))
 else
 (bif (eqi a0.1 (1:Int))then
 (match Q6 N ([a0.2.1,a0.2.2.1]:List (List UInt8))with
 | some r2=>(gd (fits (1+r2.length) 1)
 (let x3:=(([(aa .u8 (a0.1))]:List Int)++r2)
 match J8 N a0 x3 with
 | some r8=>(some r8.2.1)
 | none=>none))
 | none=>none)
 else
 (bif (eqi a0.1 (2:Int))then
 (match Q6 N ([a0.2.1]:List (List UInt8))with
 | some r9=>(gd (fits (1+r9.length) 1)
 (let x10:=(([(aa .u8 (a0.1))]:List Int)++r9)
 match J8 N a0 x10 with
 | some r11=>(some r11.2.1)
 | none=>none))
 | none=>none)
 else
 (bif (eqi a0.1 (3:Int))then
 (let x12:=([a0.2.2.2.1.1,a0.2.2.2.1.2]:List (List UInt8))
 match Q6 N x12 with
 | some r13=>(gd (fits (1+r13.length) 1)
 (let x14:=(([(aa .u8 (a0.1))]:List Int)++r13)
 match J8 N a0 x14 with
 | some r15=>(some r15.2.1)
 | none=>none))
 | none=>none)
 else
 (bif (eqi a0.1 (6:Int))then
 (let x16:=([a0.2.2.2.1.1,a0.2.2.2.1.2]:List (List UInt8))
 match Q6 N x16 with
 | some r17=>(gd (fits (1+r17.length) 1)
 (let x18:=(([(aa .u8 (a0.1))]:List Int)++r17)
 match J8 N a0 x18 with
 | some r19=>(some r19.2.1)
 | none=>none))
 | none=>none)
 else
 (let x20:=([a0.2.2.2.2.1,a0.2.2.2.2.2.1]:List (List UInt8))
 match Q6 N x20 with
 | some r21=>(gd (fits (1+r21.length) 1)
 (let x22:=(([(aa .u8 (a0.1))]:List Int)++r21)
 match J8 N a0 x22 with
 | some r23=>(some r23.2.1)
 | none=>none))
 | none=>none))))))
 | none=>none
def Q8(N:Nat)(rec:Int->Int->Z5->(List Int)->zom->Option (((Unit×(Unit×Int))×(Z5×((List Int)×Unit)))))(b0 b1:Int)(b2:Z5)(b3:(List Int))(b4:zom):Option (((Unit×(Unit×Int))×(Z5×((List Int)×Unit)))):=
 bif (decide (b1<(4:Int)))then
 (bif (eqi b1 (3:Int))then
 (match V5 N b4.2.2.2 (8:Int)with
 | some r20=>(gd (fits (b3.length+r20.length) 1)
 (let x21:=(b3++r20)
 rec b0 (aa .i64 (b1+(1:Int))) b2 x21 b4))
 | none=>none)
 else
 (bif (eqi b1 (2:Int))then
 (match V5 N b4.2.2.1 (8:Int)with
 | some r22=>(gd (fits (b3.length+r22.length) 1)
 (let x23:=(b3++r22)
 rec b0 (aa .i64 (b1+(1:Int))) b2 x23 b4))
 | none=>none)
 else
 (bif (eqi b1 (1:Int))then
 (match V5 N b4.2.1 (8:Int)with
 | some r24=>(gd (fits (b3.length+r24.length) 1)
 (let x25:=(b3++r24)
 rec b0 (aa .i64 (b1+(1:Int))) b2 x25 b4))
 | none=>none)
 else
 (bif (eqi b1 (0:Int))then
 (match V5 N b4.1 (8:Int)with
 | some r26=>(gd (fits (b3.length+r26.length) 1)
 (let x27:=(b3++r26)
 rec b0 (aa .i64 (b1+(1:Int))) b2 x27 b4))
 | none=>none)
 else
 (none)))))
 else
 (some (((),((),b0)),(b2,(b3,()))))
def z01(N:Nat)(n:Nat):=
 itF (fun _ _ _ _ _=>none) (Q8 N) n
theorem k8(N:Nat)(n:Nat):z01 N (n+1)=Q8 N (z01 N n):=rfl
def k9(N:Nat)(rec:Int->Z5->(List Int)->Option ((Unit×((List Int)×Unit))))(b0:Int)(b1:Z5)(b2:(List Int)):Option ((Unit×((List Int)×Unit))):=
 let x32:=(decide (b0<(b1.2.2.2.2.length:Int)))
 bif x32 then
 (gd (inB b0 (b1.2.2.2.2.length))
 (match z8q N (rdL b1.2.2.2.2 b0 U7)with
 | some r33=>(gd (fits (b2.length+r33.length) 1)
 (let x34:=(b2++r33)
 rec (aa .i64 (b0+(1:Int))) b1 x34))
 | none=>none))
 else
 (some ((),(b2,())))
def z5u(N:Nat)(n:Nat):=
 itF (fun _ _ _=>none) (k9 N) n
theorem z9i(N:Nat)(n:Nat):z5u N (n+1)=k9 N (z5u N n):=rfl
def j0(N:Nat)(rec:Int->Z5->(List Int)->Option y9w)(b0:Int)(b1:Z5)(b2:(List Int)):Option y9w:=
 let x19:=(decide (b0<(b1.2.2.2.1.length:Int)))
 bif x19 then
 (gd (inB b0 (b1.2.2.2.1.length))
 (gd (inB b0 (b1.2.2.2.1.length))
 (gd (inB b0 (b1.2.2.2.1.length))
 (gd (inB b0 (b1.2.2.2.1.length))
 (match z01 N N b0 (0:Int) b1 b2 (((rdL b1.2.2.2.1 b0 z66).1).1,(((rdL b1.2.2.2.1 b0 z66).1).2,((rdL b1.2.2.2.1 b0 z66).2)))with
 | some r28=>(rec (aa .i64 (r28.1.2.2+(1:Int))) r28.2.1 r28.2.2.1)
 | none=>none)))))
 else
 (some (((),()),(b1,(b2,()))))
def z5v(N:Nat)(n:Nat):=
 itF (fun _ _ _=>none) (j0 N) n
theorem z9j(N:Nat)(n:Nat):z5v N (n+1)=j0 N (z5v N n):=rfl
def j7(N:Nat)(rec:Int->Z5->(List Int)->Option ((Unit×((List Int)×Unit))))(b0:Int)(b1:Z5)(b2:(List Int)):Option ((Unit×((List Int)×Unit))):=
 bif (decide (b0<(b1.1.length:Int)))then
 (gd (inB b0 (b1.1.length))
 (match z8y N ((rdL b1.1 b0 X5).1)with
 | some r4=>(gd (fits (b2.length+r4.length) 1)
 (let x5:=(b2++r4)
 gd (inB b0 (b1.1.length))
 (match z8y N (((rdL b1.1 b0 X5).2).1)with
 | some r6=>(gd (fits (x5.length+r6.length) 1)
 (let x7:=(x5++r6)
 gd (inB b0 (b1.1.length))
 (match V5 N (((rdL b1.1 b0 X5).2).2) (4:Int)with
 | some r8=>(gd (fits (x7.length+r8.length) 1)
 (let x9:=(x7++r8)
 rec (aa .i64 (b0+(1:Int))) b1 x9))
 | none=>none)))
 | none=>none)))
 | none=>none))
 else
 (some ((),(b2,())))
def z5w(N:Nat)(n:Nat):=
 itF (fun _ _ _=>none) (j7 N) n
theorem z9k(N:Nat)(n:Nat):z5w N (n+1)=j7 N (z5w N n):=rfl
def j8(N:Nat)(rec:Int->Z5->(List Int)->Option y9w)(b0:Int)(b1:Z5)(b2:(List Int)):Option y9w:=
 bif (decide (b0<(b1.2.1.length:Int)))then
 (gd (inB b0 (b1.2.1.length))
 (match z8y N (rdL b1.2.1 b0 ([]:List UInt8))with
 | some r16=>(gd (fits (b2.length+r16.length) 1)
 (let x17:=(b2++r16)
 rec (aa .i64 (b0+(1:Int))) b1 x17))
 | none=>none))
 else
 (some (((),()),(b1,(b2,()))))
def z5x(N:Nat)(n:Nat):=
 itF (fun _ _ _=>none) (j8 N) n
theorem z9l(N:Nat)(n:Nat):z5x N (n+1)=j8 N (z5x N n):=rfl
def j9(N:Nat)(rec:Int->Z5->(List Int)->Option y9w)(b0:Int)(b1:Z5)(b2:(List Int)):Option y9w:=
 bif (decide (b0<(b1.2.2.1.length:Int)))then
 (gd (inB b0 (b1.2.2.1.length))
 (match V5 N (rdL b1.2.2.1 b0 (0:Int)) (4:Int)with
 | some r13=>(gd (fits (b2.length+r13.length) 1)
 (let x14:=(b2++r13)
 rec (aa .i64 (b0+(1:Int))) b1 x14))
 | none=>none))
 else
 (some (((),()),(b1,(b2,()))))
def z5y(N:Nat)(n:Nat):=
 itF (fun _ _ _=>none) (j9 N) n
theorem z9m(N:Nat)(n:Nat):z5y N (n+1)=j9 N (z5y N n):=rfl
def z1i(N:Nat)(a0:Z5):Option ((List Int)):=
 match zii N a0 (([]:List UInt8),([]:List UInt8))with
 | some r1=>(bif (!r1)then
 (some ([]:List Int))
 else
 (bif (eqi (a0.2.2.1.length:Int) (0:Int))then
 (match V5 N (a0.1.length:Int) (4:Int)with
 | some r2=>(gd (fits (1+r2.length) 1)
 (let x3:=(([(76:Int)]:List Int)++r2)
 match z5w N N (0:Int) a0 x3 with
 | some r10=>(some r10.2.1)
 | none=>none))
 | none=>none)
 else
 (match V5 N (a0.2.2.1.length:Int) (4:Int)with
 | some r11=>(gd (fits (1+r11.length) 1)
 (let x12:=(([(78:Int)]:List Int)++r11)
 match z5y N N (0:Int) a0 x12 with
 | some r15=>(match z5x N N (0:Int) r15.2.1 r15.2.2.1 with
 | some r18=>(match z5v N N (0:Int) r18.2.1 r18.2.2.1 with
 | some r29=>(match V5 N (r29.2.1.2.2.2.2.length:Int) (4:Int)with
 | some r30=>(gd (fits (r29.2.2.1.length+r30.length) 1)
 (let x31:=(r29.2.2.1++r30)
 match z5u N N (0:Int) r29.2.1 x31 with
 | some r35=>(some r35.2.1)
 | none=>none))
 | none=>none)
 | none=>none)
 | none=>none)
 | none=>none))
 | none=>none)))
 | none=>none
def G5(N:Nat)(rec:(List Int)->Int->Int->Option ((Int×Unit)))(b0:(List Int))(b1 b2:Int):Option ((Int×Unit)):=
 bif (decide (b2<(b0.length:Int)))then
 (gd (inB b2 (b0.length))
 (let x1:=(aa .u64 (((BitVec.ofInt (be .u64) b1^^^BitVec.ofInt (be .u64) (aa .u64 ((rdL b0 b2 (0:Int))))).toNat:Int)))
 let x2:=(aa .u64 (x1*(1099511628211:Int)))
 rec b0 x2 (aa .i64 (b2+(1:Int)))))
 else
 (some (b1,()))
def z5t(N:Nat)(n:Nat):=
 itF (fun _ _ _=>none) (G5 N) n
theorem z5a(N:Nat)(n:Nat):z5t N (n+1)=G5 N (z5t N n):=rfl
def v7(N:Nat)(a0:(List Int)):Option (Int):=
 match z5t N N a0 (14695981039346656037:Int) (0:Int)with
 | some r3=>(some r3.1)
 | none=>none
def zcx(N:Nat)(a0:W8)(a1:Int):Option (Bool):=
 bif (decide ((0:Int)<=a1))then
 (some (decide (a1<(a0.2.1.length:Int))))
 else
 (some false)
def z7p(N:Nat)(rec:Int->(List Int)->Int->W8->Option (((List Int)×Unit)))(b0:Int)(b1:(List Int))(b2:Int)(b3:W8):Option (((List Int)×Unit)):=
 bif (decide (b2<(b3.2.2.length:Int)))then
 (gd (inB b2 (b3.2.2.length))
 (bif (!((rdL b3.2.2 b2 z1k).1))then
 (gd (inB b2 (b3.2.2.length))
 (bif (eqi (((rdL b3.2.2 b2 z1k).2).1) b0)then
 (gd (inB b2 (b3.2.2.length))
 (rec b0 (((rdL b3.2.2 b2 z1k).2).2) (aa .i64 (b2+(1:Int))) b3))
 else
 (rec b0 b1 (aa .i64 (b2+(1:Int))) b3)))
 else
 (rec b0 b1 (aa .i64 (b2+(1:Int))) b3)))
 else
 (some (b1,()))
def z6n(N:Nat)(n:Nat):=
 itF (fun _ _ _ _=>none) (z7p N) n
theorem ztu(N:Nat)(n:Nat):z6n N (n+1)=z7p N (z6n N n):=rfl
def zgw(N:Nat)(a0:W8)(a1:Int):Option (((List Int)×Int)):=
 (zcx N a0 a1).bind fun r1=>
 bif (!r1)then
 (some (([]:List Int),(230:Int)))
 else
 (gd (inB a1 (a0.2.1.length))
 ((z6n N N a1 (rdL a0.2.1 a1 ([]:List Int)) (0:Int) a0).bind fun r2=>
 some (r2.1,(0:Int))))
def zl9(N:Nat)(a0:Z6)(a1:Int)(a2:Z5):Option (Bool):=
 let x1:=(decide ((a0.2.2.2.2.2.1.length:Int)<=a1))
 bif x1 then
 (some false)
 else
 (gd (inB a1 (a0.2.2.2.2.2.1.length))
 (let x2:=(decide ((rdL a0.2.2.2.2.2.1 a1 (0:Int))<(0:Int)))
 bif x2 then
 (some false)
 else
 (gd (inB a1 (a0.2.2.2.2.2.1.length))
 ((zgw N a0.1 (rdL a0.2.2.2.2.2.1 a1 (0:Int))).bind fun r3=>
 (z1i N a2).bind fun r4=>
 some (eqs (zmm r3.1) (zmm r4))))))
def z1v(N:Nat)(rec:Int->Int->V1->Option ((Int×Unit)))(b0 b1:Int)(b2:V1):Option ((Int×Unit)):=
 bif (decide (b1<(b2.1.length:Int)))then
 (gd (inB b1 (b2.1.length))
 (bif (!(rdL b2.1 b1 false))then
 (rec (aa .i64 (b0+(1:Int))) (aa .i64 (b1+(1:Int))) b2)
 else
 (rec b0 (aa .i64 (b1+(1:Int))) b2)))
 else
 (some (b0,()))
def z81(N:Nat)(n:Nat):=
 itF (fun _ _ _=>none) (z1v N) n
theorem zek(N:Nat)(n:Nat):z81 N (n+1)=z1v N (z81 N n):=rfl
def zno(N:Nat)(a0:V1):Option (Int):=
 (z81 N N (0:Int) (0:Int) a0).bind fun r1=>
 some r1.1
def zrs(N:Nat)(a0:V1):Option (Int):=
 (zno N a0).bind fun r1=>
 some (aa .i64 (r1-a0.2.2))
def z1u(N:Nat)(rec:Int->V1->(List Bool)->Option ypv)(b0:Int)(b1:V1)(b2:(List Bool)):Option ypv:=
 bif (decide (b0<(b2.length:Int)))then
 (gd (inB b0 (b2.length))
 (bif (!(rdL b2 b0 false))then
 (gd (inB b0 (b2.length))
 (some (.inl ((),(((),(b1.2.1,(b1.2.2,(b0,(0:Int))))),((setL b2 b0 true),()))))))
 else
 (rec (aa .i64 (b0+(1:Int))) b1 b2)))
 else
 (some (.inr (((),()),(b1,((),())))))
def z5p(N:Nat)(n:Nat):=
 itF (fun _ _ _=>none) (z1u N) n
theorem zej(N:Nat)(n:Nat):z5p N (n+1)=z1u N (z5p N n):=rfl
def znn(N:Nat)(a0:V1):Option (zjp):=
 gd (fits (0+a0.1.length) 1)
 (let x1:=(([]:List Bool)++a0.1)
 (z5p N N (0:Int) a0 x1).bind fun r2=>
 match r2 with
 | .inl r3=>(some ((r3.2.2.1,(r3.2.1.2.1,r3.2.1.2.2.1)),r3.2.1.2.2.2))
 | .inr r4=>(some (r4.2.1,((0:Int),(250:Int)))))
def ref25_Take(N:Nat)(a0:V1):Option (zjp):=
 (zrs N a0).bind fun r1=>
 bif (decide (r1<(1:Int)))then
 (some (a0,((0:Int),(250:Int))))
 else
 ((znn N a0).bind fun r2=>
 some r2)
def z1c(N:Nat)(a0:W8):Option ((Int×((List (List Int))×(List Y9)))):=
 gd (fits (0+a0.2.1.length) 24)
 (let x1:=(([]:List (List Int))++a0.2.1)
 gd (fits (0+a0.2.2.length) 40)
 (let x2:=(([]:List Y9)++a0.2.2)
 some (a0.1,(x1,x2))))
def ref23_Put(N:Nat)(a0:W8)(a1:Int)(a2:(List Int)):Option ((W8×Int)):=
 (zcx N a0 a1).bind fun r1=>
 bif (!r1)then
 (some (a0,(230:Int)))
 else
 (bif (decide (a0.1<(a2.length:Int)))then
 (some (a0,(230:Int)))
 else
 ((z1c N a0).bind fun r2=>
 gd (fits (0+a2.length) 1)
 (let x3:=(([]:List Int)++a2)
 gd (fits (r2.2.2.length+1) 40)
 (let x4:=(r2.2.2++([(false,(a1,x3))]:List Y9))
 some ((r2.1,(r2.2.1,x4)),(0:Int))))))
def z8k(N:Nat)(a0:Z6)(a1:(List Int)):Option ((Z6×Int)):=
 (ref25_Take N a0.2.1).bind fun r1=>
 bif (!(eqi r1.2.2 (0:Int)))then
 (some (a0,(-1:Int)))
 else
 ((ref23_Put N a0.1 r1.2.1 a1).bind fun r2=>
 bif (!(eqi r2.2 (0:Int)))then
 (some (a0,(-1:Int)))
 else
 (some ((r2.1,(r1.1,a0.2.2)),r1.2.1)))
def zcs(N:Nat)(a0:Int)(a1:(List (List Int)))(a2:(List Y9))(a3:(List Bool))(a4:(List Int))(a5 a6 a7 a8:Int)(a9 a10 a11 a12:(List Int)):Option (((Ty2_×Int)×((List Int)×((List Int)×Unit)))):=
 (ref25_Take N (a3,(a4,a5))).bind fun r1=>
 bif (!(eqi r1.2.2 (0:Int)))then
 (some (((a0,(a1,(a2,(a3,(a4,(a5,(a6,(a7,(a8,((),((),a9))))))))))),(-1:Int)),(a10,(a11,()))))
 else
 ((ref23_Put N (a0,(a1,a2)) r1.2.1 a12).bind fun r2=>
 bif (!(eqi r2.2 (0:Int)))then
 (some (((a0,(a1,(a2,(a3,(a4,(a5,(a6,(a7,(a8,((),((),a9))))))))))),(-1:Int)),(a10,(a11,()))))
 else
 (some (((r2.1.1,(r2.1.2.1,(r2.1.2.2,(r1.1.1,(r1.1.2.1,(r1.1.2.2,(a6,(a7,(a8,((),((),a9))))))))))),r1.2.1),(a10,(a11,())))))
def z5o(N:Nat)(b0 b1 b2 b3:Int)(b4:(List (List Int)))(b5:(List Y9))(b6:(List Bool))(b7:(List Int))(b8 b9 b10 b11:Int)(b12 b13 b14:(List Int))(b15:Z4)(b16:Z6)(b17:(List Int)):Option Ty8_:=
 bif (decide (b0<(b15.1.length:Int)))then
 (gd (fits (b13.length+1) 8)
 (let x16:=(b13++([b1]:List Int))
 gd (fits (b14.length+1) 8)
 (let x17:=(b14++([b2]:List Int))
 some (((),((),((),((),((),b0))))),((b3,(b4,(b5,(b6,(b7,(b8,(b9,(b10,(b11,((),((),b12))))))))))),(x16,(x17,(b15,((),(b16,(b17,())))))))))))
 else
 (some (((),((),((),((),((),b0))))),((b3,(b4,(b5,(b6,(b7,(b8,(b9,(b10,(b11,((),((),b12))))))))))),(b13,(b14,(b15,((),(b16,(b17,())))))))))
def z3s(N:Nat)(b0 b1 b2:Int)(b3:Bool)(b4:Int)(b5:(List (List Int)))(b6:(List Y9))(b7:(List Bool))(b8:(List Int))(b9 b10 b11 b12:Int)(b13 b14 b15:(List Int))(b16:Z4)(b17:Z6)(b18:(List Int))(b19:Z7):Option (((Unit×(Unit×(Unit×(Unit×(Unit×(Int×(Int×Int)))))))×(Ty2_×((List Int)×((List Int)×(Z4×(Unit×(Z6×((List Int)×Unit))))))))⊕((Unit×((List Int)×Bool))×(Z6×Unit))):=
 bif b3 then
 (gd (inB b0 (b17.2.2.2.2.2.1.length))
 (gd (inB b0 (b17.2.2.2.2.2.2.1.length))
 (some (.inl (((),((),((),((),((),(b0,((rdL b17.2.2.2.2.2.1 b0 (0:Int)),(rdL b17.2.2.2.2.2.2.1 b0 (0:Int))))))))),((b4,(b5,(b6,(b7,(b8,(b9,(b10,(b11,(b12,((),((),b13))))))))))),(b14,(b15,(b16,((),(b17,(b18,()))))))))))))
 else
 (bif b19.1 then
 (bif (!b19.2.1)then
 ((z1i N b19.2.2.2).bind fun r3=>
 (v7 N r3).bind fun r4=>
 (zl9 N b17 b0 b19.2.2.2).bind fun r5=>
 bif r5 then
 (gd (inB b0 (b17.2.2.2.2.2.1.length))
 (let x6:=(decide ((rdL b17.2.2.2.2.2.1 b0 (0:Int))<(0:Int)))
 bif x6 then
 (some (.inr (((),(([]:List Int),false)),(b17,()))))
 else
 (some (.inl (((),((),((),((),((),(b0,((rdL b17.2.2.2.2.2.1 b0 (0:Int)),r4))))))),((b4,(b5,(b6,(b7,(b8,(b9,(b10,(b11,(b12,((),((),b13))))))))))),(b14,(b15,(b16,((),(b17,(b18,()))))))))))))
 else
 ((zcs N b4 b5 b6 b7 b8 b9 b10 b11 b12 b13 b14 b15 r3).bind fun r7=>
 bif (decide (r7.1.2<(0:Int)))then
 (some (.inr (((),(([]:List Int),false)),(b17,()))))
 else
 (some (.inl (((),((),((),((),((),(b0,(r7.1.2,r4))))))),((r7.1.1.1,(r7.1.1.2.1,(r7.1.1.2.2.1,(r7.1.1.2.2.2.1,(r7.1.1.2.2.2.2.1,(r7.1.1.2.2.2.2.2.1,(r7.1.1.2.2.2.2.2.2.1,(r7.1.1.2.2.2.2.2.2.2.1,(r7.1.1.2.2.2.2.2.2.2.2.1,((),((),r7.1.1.2.2.2.2.2.2.2.2.2.2.2))))))))))),(r7.2.1,(r7.2.2.1,(b16,((),(b17,(b18,()))))))))))))
 else
 (some (.inl (((),((),((),((),((),(b0,(b1,b2))))))),((b4,(b5,(b6,(b7,(b8,(b9,(b10,(b11,(b12,((),((),b13))))))))))),(b14,(b15,(b16,((),(b17,(b18,())))))))))))
 else
 (some (.inl (((),((),((),((),((),(b0,(b1,b2))))))),((b4,(b5,(b6,(b7,(b8,(b9,(b10,(b11,(b12,((),((),b13))))))))))),(b14,(b15,(b16,((),(b17,(b18,())))))))))))
def z3t(N:Nat)(b0 b1 b2 b3:Int)(b4:(List (List Int)))(b5:(List Y9))(b6:(List Bool))(b7:(List Int))(b8 b9 b10 b11:Int)(b12 b13 b14:(List Int))(b15:Z4)(b16:Z6)(b17:(List Int)):Option Ty8_:=
 let x11:=(decide (b0<(b16.2.2.2.2.2.1.length:Int)))
 bif x11 then
 (gd (inB b0 (b16.2.2.2.2.2.1.length))
 (let x12:=(decide ((0:Int)<=(rdL b16.2.2.2.2.2.1 b0 (0:Int))))
 bif x12 then
 (gd (inB b0 (b16.2.2.2.2.2.1.length))
 (let x13:=(!(eqi (rdL b16.2.2.2.2.2.1 b0 (0:Int)) b1))
 bif x13 then
 (gd (inB b0 (b16.2.2.2.2.2.1.length))
 (let x14:=([(rdL b16.2.2.2.2.2.1 b0 (0:Int))]:List Int)
 gd (fits (b17.length+x14.length) 8)
 (let x15:=(b17++x14)
 (z5o N b0 b1 b2 b3 b4 b5 b6 b7 b8 b9 b10 b11 b12 b13 b14 b15 b16 x15).bind fun r18=>
 some (((),((),((),((),((),r18.1.2.2.2.2.2))))),((r18.2.1.1,(r18.2.1.2.1,(r18.2.1.2.2.1,(r18.2.1.2.2.2.1,(r18.2.1.2.2.2.2.1,(r18.2.1.2.2.2.2.2.1,(r18.2.1.2.2.2.2.2.2.1,(r18.2.1.2.2.2.2.2.2.2.1,(r18.2.1.2.2.2.2.2.2.2.2.1,((),((),r18.2.1.2.2.2.2.2.2.2.2.2.2.2))))))))))),(r18.2.2.1,(r18.2.2.2.1,(r18.2.2.2.2.1,((),(r18.2.2.2.2.2.2.1,(r18.2.2.2.2.2.2.2.1,())))))))))))
 else
 ((z5o N b0 b1 b2 b3 b4 b5 b6 b7 b8 b9 b10 b11 b12 b13 b14 b15 b16 b17).bind fun r19=>
 some (((),((),((),((),((),r19.1.2.2.2.2.2))))),((r19.2.1.1,(r19.2.1.2.1,(r19.2.1.2.2.1,(r19.2.1.2.2.2.1,(r19.2.1.2.2.2.2.1,(r19.2.1.2.2.2.2.2.1,(r19.2.1.2.2.2.2.2.2.1,(r19.2.1.2.2.2.2.2.2.2.1,(r19.2.1.2.2.2.2.2.2.2.2.1,((),((),r19.2.1.2.2.2.2.2.2.2.2.2.2.2))))))))))),(r19.2.2.1,(r19.2.2.2.1,(r19.2.2.2.2.1,((),(r19.2.2.2.2.2.2.1,(r19.2.2.2.2.2.2.2.1,())))))))))))
 else
 ((z5o N b0 b1 b2 b3 b4 b5 b6 b7 b8 b9 b10 b11 b12 b13 b14 b15 b16 b17).bind fun r20=>
 some (((),((),((),((),((),r20.1.2.2.2.2.2))))),((r20.2.1.1,(r20.2.1.2.1,(r20.2.1.2.2.1,(r20.2.1.2.2.2.1,(r20.2.1.2.2.2.2.1,(r20.2.1.2.2.2.2.2.1,(r20.2.1.2.2.2.2.2.2.1,(r20.2.1.2.2.2.2.2.2.2.1,(r20.2.1.2.2.2.2.2.2.2.2.1,((),((),r20.2.1.2.2.2.2.2.2.2.2.2.2.2))))))))))),(r20.2.2.1,(r20.2.2.2.1,(r20.2.2.2.2.1,((),(r20.2.2.2.2.2.2.1,(r20.2.2.2.2.2.2.2.1,())))))))))))
 else
 ((z5o N b0 b1 b2 b3 b4 b5 b6 b7 b8 b9 b10 b11 b12 b13 b14 b15 b16 b17).bind fun r21=>
 some (((),((),((),((),((),r21.1.2.2.2.2.2))))),((r21.2.1.1,(r21.2.1.2.1,(r21.2.1.2.2.1,(r21.2.1.2.2.2.1,(r21.2.1.2.2.2.2.1,(r21.2.1.2.2.2.2.2.1,(r21.2.1.2.2.2.2.2.2.1,(r21.2.1.2.2.2.2.2.2.2.1,(r21.2.1.2.2.2.2.2.2.2.2.1,((),((),r21.2.1.2.2.2.2.2.2.2.2.2.2.2))))))))))),(r21.2.2.1,(r21.2.2.2.1,(r21.2.2.2.2.1,((),(r21.2.2.2.2.2.2.1,(r21.2.2.2.2.2.2.2.1,())))))))))
def z3u(N:Nat)(b0 b1:Int)(b2:(List (List Int)))(b3:(List Y9))(b4:(List Bool))(b5:(List Int))(b6 b7 b8 b9:Int)(b10 b11 b12:(List Int))(b13:Z4)(b14:Z6)(b15:(List Int)):Option Ty8_:=
 some (((),((),((),((),((),(aa .i64 (b0+(1:Int)))))))),((b1,(b2,(b3,(b4,(b5,(b6,(b7,(b8,(b9,((),((),b10))))))))))),(b11,(b12,(b13,((),(b14,(b15,()))))))))
def z1t(N:Nat)(rec:Int->Int->(List (List Int))->(List Y9)->(List Bool)->(List Int)->Int->Int->Int->Int->(List Int)->(List Int)->(List Int)->Z4->Z6->(List Int)->Option ypy)(b0 b1:Int)(b2:(List (List Int)))(b3:(List Y9))(b4:(List Bool))(b5:(List Int))(b6 b7 b8 b9:Int)(b10 b11 b12:(List Int))(b13:Z4)(b14:Z6)(b15:(List Int)):Option ypy:=
 let x1:=(bif decide ((b13.1.length:Int)<(b14.2.2.2.2.2.1.length:Int))then(b14.2.2.2.2.2.1.length:Int)else(b13.1.length:Int))
 bif (decide (b0<x1))then
 (bif (decide (b0<(b13.1.length:Int)))then
 (gd (inB b0 (b13.1.length))
 (bif (rdL b13.1 b0 X2).1 then
 (bif ((rdL b13.1 b0 X2).2).1 then
 (let x2:=(decide (b0<(b14.2.2.2.2.2.1.length:Int)))
 (z3s N b0 (-1:Int) (0:Int) x2 b1 b2 b3 b4 b5 b6 b7 b8 b9 b10 b11 b12 b13 b14 b15 (rdL b13.1 b0 X2)).bind fun r8=>
 match r8 with
 | .inl r9=>((z3t N r9.1.2.2.2.2.2.1 r9.1.2.2.2.2.2.2.1 r9.1.2.2.2.2.2.2.2 r9.2.1.1 r9.2.1.2.1 r9.2.1.2.2.1 r9.2.1.2.2.2.1 r9.2.1.2.2.2.2.1 r9.2.1.2.2.2.2.2.1 r9.2.1.2.2.2.2.2.2.1 r9.2.1.2.2.2.2.2.2.2.1 r9.2.1.2.2.2.2.2.2.2.2.1 r9.2.1.2.2.2.2.2.2.2.2.2.2.2 r9.2.2.1 r9.2.2.2.1 r9.2.2.2.2.1 r9.2.2.2.2.2.2.1 r9.2.2.2.2.2.2.2.1).bind fun r22=>
 (z3u N r22.1.2.2.2.2.2 r22.2.1.1 r22.2.1.2.1 r22.2.1.2.2.1 r22.2.1.2.2.2.1 r22.2.1.2.2.2.2.1 r22.2.1.2.2.2.2.2.1 r22.2.1.2.2.2.2.2.2.1 r22.2.1.2.2.2.2.2.2.2.1 r22.2.1.2.2.2.2.2.2.2.2.1 r22.2.1.2.2.2.2.2.2.2.2.2.2.2 r22.2.2.1 r22.2.2.2.1 r22.2.2.2.2.1 r22.2.2.2.2.2.2.1 r22.2.2.2.2.2.2.2.1).bind fun r23=>
 rec r23.1.2.2.2.2.2 r23.2.1.1 r23.2.1.2.1 r23.2.1.2.2.1 r23.2.1.2.2.2.1 r23.2.1.2.2.2.2.1 r23.2.1.2.2.2.2.2.1 r23.2.1.2.2.2.2.2.2.1 r23.2.1.2.2.2.2.2.2.2.1 r23.2.1.2.2.2.2.2.2.2.2.1 r23.2.1.2.2.2.2.2.2.2.2.2.2.2 r23.2.2.1 r23.2.2.2.1 r23.2.2.2.2.1 r23.2.2.2.2.2.2.1 r23.2.2.2.2.2.2.2.1)
 | .inr r10=>(some (.inl (((),(r10.1.2.1,r10.1.2.2)),(r10.2.1,())))))
 else
 ((z3s N b0 (-1:Int) (0:Int) false b1 b2 b3 b4 b5 b6 b7 b8 b9 b10 b11 b12 b13 b14 b15 (rdL b13.1 b0 X2)).bind fun r24=>
 match r24 with
 | .inl r25=>((z3t N r25.1.2.2.2.2.2.1 r25.1.2.2.2.2.2.2.1 r25.1.2.2.2.2.2.2.2 r25.2.1.1 r25.2.1.2.1 r25.2.1.2.2.1 r25.2.1.2.2.2.1 r25.2.1.2.2.2.2.1 r25.2.1.2.2.2.2.2.1 r25.2.1.2.2.2.2.2.2.1 r25.2.1.2.2.2.2.2.2.2.1 r25.2.1.2.2.2.2.2.2.2.2.1 r25.2.1.2.2.2.2.2.2.2.2.2.2.2 r25.2.2.1 r25.2.2.2.1 r25.2.2.2.2.1 r25.2.2.2.2.2.2.1 r25.2.2.2.2.2.2.2.1).bind fun r27=>
 (z3u N r27.1.2.2.2.2.2 r27.2.1.1 r27.2.1.2.1 r27.2.1.2.2.1 r27.2.1.2.2.2.1 r27.2.1.2.2.2.2.1 r27.2.1.2.2.2.2.2.1 r27.2.1.2.2.2.2.2.2.1 r27.2.1.2.2.2.2.2.2.2.1 r27.2.1.2.2.2.2.2.2.2.2.1 r27.2.1.2.2.2.2.2.2.2.2.2.2.2 r27.2.2.1 r27.2.2.2.1 r27.2.2.2.2.1 r27.2.2.2.2.2.2.1 r27.2.2.2.2.2.2.2.1).bind fun r28=>
 rec r28.1.2.2.2.2.2 r28.2.1.1 r28.2.1.2.1 r28.2.1.2.2.1 r28.2.1.2.2.2.1 r28.2.1.2.2.2.2.1 r28.2.1.2.2.2.2.2.1 r28.2.1.2.2.2.2.2.2.1 r28.2.1.2.2.2.2.2.2.2.1 r28.2.1.2.2.2.2.2.2.2.2.1 r28.2.1.2.2.2.2.2.2.2.2.2.2.2 r28.2.2.1 r28.2.2.2.1 r28.2.2.2.2.1 r28.2.2.2.2.2.2.1 r28.2.2.2.2.2.2.2.1)
 | .inr r26=>(some (.inl (((),(r26.1.2.1,r26.1.2.2)),(r26.2.1,()))))))
 else
 ((z3s N b0 (-1:Int) (0:Int) false b1 b2 b3 b4 b5 b6 b7 b8 b9 b10 b11 b12 b13 b14 b15 (rdL b13.1 b0 X2)).bind fun r29=>
 match r29 with
 | .inl r30=>((z3t N r30.1.2.2.2.2.2.1 r30.1.2.2.2.2.2.2.1 r30.1.2.2.2.2.2.2.2 r30.2.1.1 r30.2.1.2.1 r30.2.1.2.2.1 r30.2.1.2.2.2.1 r30.2.1.2.2.2.2.1 r30.2.1.2.2.2.2.2.1 r30.2.1.2.2.2.2.2.2.1 r30.2.1.2.2.2.2.2.2.2.1 r30.2.1.2.2.2.2.2.2.2.2.1 r30.2.1.2.2.2.2.2.2.2.2.2.2.2 r30.2.2.1 r30.2.2.2.1 r30.2.2.2.2.1 r30.2.2.2.2.2.2.1 r30.2.2.2.2.2.2.2.1).bind fun r32=>
 (z3u N r32.1.2.2.2.2.2 r32.2.1.1 r32.2.1.2.1 r32.2.1.2.2.1 r32.2.1.2.2.2.1 r32.2.1.2.2.2.2.1 r32.2.1.2.2.2.2.2.1 r32.2.1.2.2.2.2.2.2.1 r32.2.1.2.2.2.2.2.2.2.1 r32.2.1.2.2.2.2.2.2.2.2.1 r32.2.1.2.2.2.2.2.2.2.2.2.2.2 r32.2.2.1 r32.2.2.2.1 r32.2.2.2.2.1 r32.2.2.2.2.2.2.1 r32.2.2.2.2.2.2.2.1).bind fun r33=>
 rec r33.1.2.2.2.2.2 r33.2.1.1 r33.2.1.2.1 r33.2.1.2.2.1 r33.2.1.2.2.2.1 r33.2.1.2.2.2.2.1 r33.2.1.2.2.2.2.2.1 r33.2.1.2.2.2.2.2.2.1 r33.2.1.2.2.2.2.2.2.2.1 r33.2.1.2.2.2.2.2.2.2.2.1 r33.2.1.2.2.2.2.2.2.2.2.2.2.2 r33.2.2.1 r33.2.2.2.1 r33.2.2.2.2.1 r33.2.2.2.2.2.2.1 r33.2.2.2.2.2.2.2.1)
 | .inr r31=>(some (.inl (((),(r31.1.2.1,r31.1.2.2)),(r31.2.1,())))))))
 else
 ((z3s N b0 (-1:Int) (0:Int) false b1 b2 b3 b4 b5 b6 b7 b8 b9 b10 b11 b12 b13 b14 b15 (false,(false,((0:Int),(([]:List Z3),(([]:List (List UInt8)),(([]:List Int),(([]:List Y6),([]:List Z1))))))))).bind fun r34=>
 match r34 with
 | .inl r35=>((z3t N r35.1.2.2.2.2.2.1 r35.1.2.2.2.2.2.2.1 r35.1.2.2.2.2.2.2.2 r35.2.1.1 r35.2.1.2.1 r35.2.1.2.2.1 r35.2.1.2.2.2.1 r35.2.1.2.2.2.2.1 r35.2.1.2.2.2.2.2.1 r35.2.1.2.2.2.2.2.2.1 r35.2.1.2.2.2.2.2.2.2.1 r35.2.1.2.2.2.2.2.2.2.2.1 r35.2.1.2.2.2.2.2.2.2.2.2.2.2 r35.2.2.1 r35.2.2.2.1 r35.2.2.2.2.1 r35.2.2.2.2.2.2.1 r35.2.2.2.2.2.2.2.1).bind fun r37=>
 (z3u N r37.1.2.2.2.2.2 r37.2.1.1 r37.2.1.2.1 r37.2.1.2.2.1 r37.2.1.2.2.2.1 r37.2.1.2.2.2.2.1 r37.2.1.2.2.2.2.2.1 r37.2.1.2.2.2.2.2.2.1 r37.2.1.2.2.2.2.2.2.2.1 r37.2.1.2.2.2.2.2.2.2.2.1 r37.2.1.2.2.2.2.2.2.2.2.2.2.2 r37.2.2.1 r37.2.2.2.1 r37.2.2.2.2.1 r37.2.2.2.2.2.2.1 r37.2.2.2.2.2.2.2.1).bind fun r38=>
 rec r38.1.2.2.2.2.2 r38.2.1.1 r38.2.1.2.1 r38.2.1.2.2.1 r38.2.1.2.2.2.1 r38.2.1.2.2.2.2.1 r38.2.1.2.2.2.2.2.1 r38.2.1.2.2.2.2.2.2.1 r38.2.1.2.2.2.2.2.2.2.1 r38.2.1.2.2.2.2.2.2.2.2.1 r38.2.1.2.2.2.2.2.2.2.2.2.2.2 r38.2.2.1 r38.2.2.2.1 r38.2.2.2.2.1 r38.2.2.2.2.2.2.1 r38.2.2.2.2.2.2.2.1)
 | .inr r36=>(some (.inl (((),(r36.1.2.1,r36.1.2.2)),(r36.2.1,()))))))
 else
 (some (.inr (((),((),())),((b1,(b2,(b3,(b4,(b5,(b6,(b7,(b8,(b9,((),((),b10))))))))))),(b11,(b12,((),(b15,()))))))))
def z1e(N:Nat)(n:Nat):=
 itF (fun _ _ _ _ _ _ _ _ _ _ _ _ _ _ _ _=>none) (z1t N) n
theorem zei(N:Nat)(n:Nat):z1e N (n+1)=z1t N (z1e N n):=rfl
def zdv(N:Nat)(a0:Z6)(a1:Z4):Option ((Z6×((List Int)×Bool))):=
 (z1e N N (0:Int) a0.1.1 a0.1.2.1 a0.1.2.2 a0.2.1.1 a0.2.1.2.1 a0.2.1.2.2 a0.2.2.1 a0.2.2.2.1 a0.2.2.2.2.1 a0.2.2.2.2.2.2.2 ([]:List Int) ([]:List Int) a1 a0 ([]:List Int)).bind fun r39=>
 match r39 with
 | .inl r40=>(some (r40.2.1,(r40.1.2.1,r40.1.2.2)))
 | .inr r41=>(some (((r41.2.1.1,(r41.2.1.2.1,r41.2.1.2.2.1)),((r41.2.1.2.2.2.1,(r41.2.1.2.2.2.2.1,r41.2.1.2.2.2.2.2.1)),(r41.2.1.2.2.2.2.2.2.1,(r41.2.1.2.2.2.2.2.2.2.1,(r41.2.1.2.2.2.2.2.2.2.2.1,(r41.2.2.1,(r41.2.2.2.1,r41.2.1.2.2.2.2.2.2.2.2.2.2.2))))))),(r41.2.2.2.2.2.1,true)))
def z0q(N:Nat)(rec:Int->Int->(List Int)->Option ((Unit×((List Int)×Unit))))(b0 b1:Int)(b2:(List Int)):Option ((Unit×((List Int)×Unit))):=
 bif (decide ((0:Int)<=b1))then
 (gd (decide (0<=(aa .i64 ((8:Int)*b1))))
 (let x1:=(d0 b0 (2^min (cH (aa .i64 ((8:Int)*b1))) (be .u64)))
 gd (fits (b2.length+1) 1)
 (let x2:=(b2++([(aa .u8 (x1))]:List Int))
 rec b0 (aa .i64 (b1-(1:Int))) x2)))
 else
 (some ((),(b2,())))
def z6t(N:Nat)(n:Nat):=
 itF (fun _ _ _=>none) (z0q N) n
theorem zct(N:Nat)(n:Nat):z6t N (n+1)=z0q N (z6t N n):=rfl
def z2r(N:Nat)(a0 a1:Int):Option ((List Int)):=
 (z6t N N a0 (aa .i64 (a1-(1:Int))) ([]:List Int)).bind fun r3=>
 some r3.2.1
def w9(N:Nat)(a0 a1:Int):Option ((List Int)):=
 (z2r N (aa .u64 (a0)) a1).bind fun r1=>
 some r1
def z35(N:Nat)(rec:(List (List Int))->Int->(List Int)->Option ((Unit×((List Int)×Unit))))(b0:(List (List Int)))(b1:Int)(b2:(List Int)):Option ((Unit×((List Int)×Unit))):=
 bif (decide (b1<(b0.length:Int)))then
 (gd (inB b1 (b0.length))
 (gd (fits (b2.length+ap (rdL b0 b1 ([]:List Int))) 1)
 (let x1:=(b2++(rdL b0 b1 ([]:List Int)))
 rec b0 (aa .i64 (b1+(1:Int))) x1)))
 else
 (some ((),(b2,())))
def z9y(N:Nat)(n:Nat):=
 itF (fun _ _ _=>none) (z35 N) n
theorem zg1(N:Nat)(n:Nat):z9y N (n+1)=z35 N (z9y N n):=rfl
def z6v(N:Nat)(a0:(List (List Int))):Option ((List Int)):=
 (z9y N N a0 (0:Int) ([]:List Int)).bind fun r2=>
 some r2.2.1
def W3(N:Nat)(a0 a1:Int):Option ((List Int)):=
 (z2r N (aa .u64 (a0)) a1).bind fun r1=>
 some r1
def z0r(N:Nat)(rec:(List Z1)->Int->(List Int)->Option ((Unit×((List Int)×Unit))))(b0:(List Z1))(b1:Int)(b2:(List Int)):Option ((Unit×((List Int)×Unit))):=
 bif (decide (b1<(b0.length:Int)))then
 (gd (inB b1 (b0.length))
 ((z8q N (rdL b0 b1 U7)).bind fun r2=>
 gd (fits (b2.length+r2.length) 1)
 (let x3:=(b2++r2)
 rec b0 (aa .i64 (b1+(1:Int))) x3)))
 else
 (some ((),(b2,())))
def z6u(N:Nat)(n:Nat):=
 itF (fun _ _ _=>none) (z0r N) n
theorem zcu(N:Nat)(n:Nat):z6u N (n+1)=z0r N (z6u N n):=rfl
def zbw(N:Nat)(a0:(List Z1)):Option ((List Int)):=
 (w9 N (a0.length:Int) (4:Int)).bind fun r1=>
 (z6u N N a0 (0:Int) r1).bind fun r4=>
 some r4.2.1
def q9(N:Nat)(rec:Int->Int->(List Int)->Option ((Unit×((List Int)×Unit))))(b0 b1:Int)(b2:(List Int)):Option ((Unit×((List Int)×Unit))):=
 bif (decide ((0:Int)<=b1))then
 (gd (decide (0<=(aa .i64 ((8:Int)*b1))))
 (let x1:=(d0 b0 (2^min (cH (aa .i64 ((8:Int)*b1))) (be .u64)))
 gd (fits (b2.length+1) 1)
 (let x2:=(b2++([(aa .u8 (x1))]:List Int))
 rec b0 (aa .i64 (b1-(1:Int))) x2)))
 else
 (some ((),(b2,())))
def z4k(N:Nat)(n:Nat):=
 itF (fun _ _ _=>none) (q9 N) n
theorem zbh(N:Nat)(n:Nat):z4k N (n+1)=q9 N (z4k N n):=rfl
def z5n(N:Nat)(a0 a1:Int):Option ((List Int)):=
 (z4k N N a0 (aa .i64 (a1-(1:Int))) ([]:List Int)).bind fun r3=>
 some r3.2.1
def z0d(N:Nat)(rec:Int->Z4->Z6->(List Int)->Option ((Unit×((List Int)×Unit))))(b0:Int)(b1:Z4)(b2:Z6)(b3:(List Int)):Option ((Unit×((List Int)×Unit))):=
 bif (decide (b0<(b1.1.length:Int)))then
 (gd (inB b0 (b1.1.length))
 (bif (!((rdL b1.1 b0 X2).1))then
 (gd (fits (b3.length+1) 1)
 (let x21:=(b3++([(0:Int)]:List Int))
 rec (aa .i64 (b0+(1:Int))) b1 b2 x21))
 else
 (bif ((rdL b1.1 b0 X2).2).1 then
 ((W3 N ((((rdL b1.1 b0 X2).2).2).1) (4:Int)).bind fun r22=>
 gd (inB b0 (b2.2.2.2.2.2.1.length))
 (let x23:=(aa .i64 (((BitVec.ofInt (be .i64) (rdL b2.2.2.2.2.2.1 b0 (0:Int))&&&BitVec.ofInt (be .i64) (65535:Int)).toNat:Int)))
 (W3 N x23 (2:Int)).bind fun r24=>
 gd (inB b0 (b2.2.2.2.2.2.2.1.length))
 ((z5n N (rdL b2.2.2.2.2.2.2.1 b0 (0:Int)) (8:Int)).bind fun r25=>
 let x26:=([([(2:Int)]:List Int),r22,r24,r25]:List (List Int))
 (z6v N x26).bind fun r27=>
 gd (fits (b3.length+r27.length) 1)
 (let x28:=(b3++r27)
 rec (aa .i64 (b0+(1:Int))) b1 b2 x28))))
 else
 ((W3 N ((((rdL b1.1 b0 X2).2).2).1) (4:Int)).bind fun r29=>
 gd (inB b0 (b2.2.2.2.2.2.1.length))
 (let x30:=(aa .i64 (((BitVec.ofInt (be .i64) (rdL b2.2.2.2.2.2.1 b0 (0:Int))&&&BitVec.ofInt (be .i64) (65535:Int)).toNat:Int)))
 (W3 N x30 (2:Int)).bind fun r31=>
 gd (inB b0 (b2.2.2.2.2.2.2.1.length))
 ((z5n N (rdL b2.2.2.2.2.2.2.1 b0 (0:Int)) (8:Int)).bind fun r32=>
 let x33:=([([(1:Int)]:List Int),r29,r31,r32]:List (List Int))
 (z6v N x33).bind fun r34=>
 gd (fits (b3.length+r34.length) 1)
 (let x35:=(b3++r34)
 rec (aa .i64 (b0+(1:Int))) b1 b2 x35)))))))
 else
 (some ((),(b3,())))
def z2t(N:Nat)(n:Nat):=
 itF (fun _ _ _ _=>none) (z0d N) n
theorem zcb(N:Nat)(n:Nat):z2t N (n+1)=z0d N (z2t N n):=rfl
def z0e(N:Nat)(rec:Int->Z4->Z6->(List Int)->Option (((Unit×(Unit×Unit))×(Z4×(Z6×((List Int)×Unit))))))(b0:Int)(b1:Z4)(b2:Z6)(b3:(List Int)):Option (((Unit×(Unit×Unit))×(Z4×(Z6×((List Int)×Unit))))):=
 bif (decide (b0<(b1.2.2.1.length:Int)))then
 (gd (inB b0 (b1.2.2.1.length))
 ((W3 N ((rdL b1.2.2.1 b0 X0).1) (4:Int)).bind fun r8=>
 (W3 N (((rdL b1.2.2.1 b0 X0).2).1) (4:Int)).bind fun r9=>
 (W3 N ((((rdL b1.2.2.1 b0 X0).2).2).1) (2:Int)).bind fun r10=>
 let x11:=(ap (((((rdL b1.2.2.1 b0 X0).2).2).2).1):Int)
 (W3 N x11 (1:Int)).bind fun r12=>
 gd (decide (ap (((((rdL b1.2.2.1 b0 X0).2).2).2).1)<maxB))
 (let x13:=(w5 (((((rdL b1.2.2.1 b0 X0).2).2).2).1))
 (zbw N (((((rdL b1.2.2.1 b0 X0).2).2).2).2)).bind fun r14=>
 let x15:=([r8,r9,r10,r12,x13,r14]:List (List Int))
 (z6v N x15).bind fun r16=>
 gd (fits (b3.length+r16.length) 1)
 (let x17:=(b3++r16)
 rec (aa .i64 (b0+(1:Int))) b1 b2 x17))))
 else
 (some (((),((),())),(b1,(b2,(b3,())))))
def z5g(N:Nat)(n:Nat):=
 itF (fun _ _ _ _=>none) (z0e N) n
theorem zcc(N:Nat)(n:Nat):z5g N (n+1)=z0e N (z5g N n):=rfl
def zcw(N:Nat)(a0:Z4)(a1:Z6):Option ((List Int)):=
 let x1:=([(67:Int),(aa .u8 (a0.2.1.1)),(aa .u8 (a0.2.1.2.1)),(aa .u8 (a0.2.1.2.2))]:List Int)
 (W3 N a0.2.2.2.1 (4:Int)).bind fun r2=>
 (W3 N a0.2.2.2.2.2.1 (4:Int)).bind fun r3=>
 (W3 N a0.2.2.2.2.1 (2:Int)).bind fun r4=>
 (zbw N a0.2.2.2.2.2.2).bind fun r5=>
 (W3 N (a0.2.2.1.length:Int) (1:Int)).bind fun r6=>
 (z6v N ([x1,r2,r3,r4,r5,r6]:List (List Int))).bind fun r7=>
 (z5g N N (0:Int) a0 a1 r7).bind fun r18=>
 (W3 N (r18.2.1.1.length:Int) (2:Int)).bind fun r19=>
 gd (fits (r18.2.2.2.1.length+r19.length) 1)
 (let x20:=(r18.2.2.2.1++r19)
 (z2t N N (0:Int) r18.2.1 r18.2.2.1 x20).bind fun r36=>
 some r36.2.1)
def z48(N:Nat)(rec:(List Int)->Int->(List (List Int))->Option ((((List Int)×Unit)×((List (List Int))×Unit))))(b0:(List Int))(b1:Int)(b2:(List (List Int))):Option ((((List Int)×Unit)×((List (List Int))×Unit))):=
 bif (decide (b1<(b0.length:Int)))then
 (gd (decide (0<=(0:Int))&&(decide ((0:Int)<=b1)&&decide (b1<=(b0.length:Int))))
 (gd (fits (b2.length+1) 24)
 (let x1:=(b2++([(cut2 b0 (0:Int) b1)]:List (List Int)))
 gd (decide (0<=b1)&&(decide (b1<=(b0.length:Int))&&decide ((b0.length:Int)<=(b0.length:Int))))
 (rec (cut2 b0 b1 (b0.length:Int)) b1 x1))))
 else
 (some ((b0,()),(b2,())))
def z6w(N:Nat)(n:Nat):=
 itF (fun _ _ _=>none) (z48 N) n
theorem zmg(N:Nat)(n:Nat):z6w N (n+1)=z48 N (z6w N n):=rfl
def zfe(N:Nat)(a0:(List Int))(a1:Int):Option ((List (List Int))):=
 (z6w N N a0 a1 ([]:List (List Int))).bind fun r2=>
 gd (fits (r2.2.1.length+1) 24)
 (let x3:=(r2.2.1++([r2.1.1]:List (List Int)))
 some x3)
def z8l(N:Nat)(a0:W8):Option (W8):=
 (z1c N a0).bind fun r1=>
 let x2:=([(true,((0:Int),([]:List Int)))]:List Y9)
 gd (fits (r1.2.2.length+x2.length) 40)
 (let x3:=(r1.2.2++x2)
 some (r1.1,(r1.2.1,x3)))
def z0c(N:Nat)(rec:(List Int)->Int->(List Int)->Option ((Unit×((List Int)×Unit))))(b0:(List Int))(b1:Int)(b2:(List Int)):Option ((Unit×((List Int)×Unit))):=
 bif (decide (b1<(b0.length:Int)))then
 (gd (inB b1 (b0.length))
 ((w9 N (rdL b0 b1 (0:Int)) (2:Int)).bind fun r8=>
 gd (fits (b2.length+r8.length) 1)
 (let x9:=(b2++r8)
 rec b0 (aa .i64 (b1+(1:Int))) x9)))
 else
 (some ((),(b2,())))
def z5f(N:Nat)(n:Nat):=
 itF (fun _ _ _=>none) (z0c N) n
theorem zca(N:Nat)(n:Nat):z5f N (n+1)=z0c N (z5f N n):=rfl
def zcv(N:Nat)(a0:Int)(a1 a2:(List Int)):Option ((List Int)):=
 (w9 N a0 (4:Int)).bind fun r1=>
 (w9 N (a1.length:Int) (4:Int)).bind fun r2=>
 (v7 N a1).bind fun r3=>
 (z2r N r3 (8:Int)).bind fun r4=>
 (w9 N (a2.length:Int) (2:Int)).bind fun r5=>
 let x6:=([([(83:Int)]:List Int),r1,r2,r4,r5]:List (List Int))
 (z6v N x6).bind fun r7=>
 (z5f N N a2 (0:Int) r7).bind fun r10=>
 (v7 N r10.2.1).bind fun r11=>
 (z2r N r11 (8:Int)).bind fun r12=>
 gd (fits (r10.2.1.length+r12.length) 1)
 (let x13:=(r10.2.1++r12)
 some x13)
def zbn(N:Nat)(rec:(List Int)->Int->Int->Option Ty3_)(b0:(List Int))(b1 b2:Int):Option Ty3_:=
 bif (decide (b2<(b0.length:Int)))then
 (gd (inB b2 (b0.length))
 (bif (eqi (rdL b0 b2 (0:Int)) b1)then
 (some (.inl (true,())))
 else
 (rec b0 b1 (aa .i64 (b2+(1:Int))))))
 else
 (some (.inr ((),())))
def zff(N:Nat)(n:Nat):=
 itF (fun _ _ _=>none) (zbn N) n
theorem yf2(N:Nat)(n:Nat):zff N (n+1)=zbn N (zff N n):=rfl
def y6n(N:Nat)(a0:(List Int))(a1:Int):Option (Bool):=
 (zff N N a0 a1 (0:Int)).bind fun r1=>
 match r1 with
 | .inl r2=>(some r2.1)
 | .inr r3=>(some false)
def z9z(N:Nat)(b0:Int)(b1:Bool)(b2:V1):Option (((Unit×Int)×(V1×Unit))⊕((Int×(Unit×Unit))×(V1×(Unit×Unit)))):=
 bif b1 then
 (some (.inl (((),(230:Int)),(b2,()))))
 else
 (some (.inr ((b0,((),())),(b2,((),())))))
def za0(N:Nat)(b0:Int)(b1:V1):Option (((Unit×Int)×(((List Bool)×(Unit×Int))×((List Int)×Unit)))):=
 gd (fits (0+b1.2.1.length) 8)
 (let x4:=(([]:List Int)++b1.2.1)
 gd (fits (x4.length+1) 8)
 (let x5:=(x4++([b0]:List Int))
 some (((),(0:Int)),((b1.1,((),b1.2.2)),(x5,())))))
def y25(N:Nat)(a0:V1)(a1:Int):Option ((V1×Int)):=
 bif (decide (a1<(0:Int)))then
 ((z9z N a1 true a0).bind fun r1=>
 match r1 with
 | .inl r2=>(some (r2.2.1,r2.1.2))
 | .inr r3=>((za0 N r3.1.1 r3.2.1).bind fun r6=>
 some ((r6.2.1.1,(r6.2.2.1,r6.2.1.2.2)),r6.1.2)))
 else
 (bif (decide ((a0.1.length:Int)<=a1))then
 ((z9z N a1 true a0).bind fun r7=>
 match r7 with
 | .inl r8=>(some (r8.2.1,r8.1.2))
 | .inr r9=>((za0 N r9.1.1 r9.2.1).bind fun r10=>
 some ((r10.2.1.1,(r10.2.2.1,r10.2.1.2.2)),r10.1.2)))
 else
 (gd (inB a1 (a0.1.length))
 (bif (!(rdL a0.1 a1 false))then
 ((z9z N a1 true a0).bind fun r11=>
 match r11 with
 | .inl r12=>(some (r12.2.1,r12.1.2))
 | .inr r13=>((za0 N r13.1.1 r13.2.1).bind fun r14=>
 some ((r14.2.1.1,(r14.2.2.1,r14.2.1.2.2)),r14.1.2)))
 else
 ((y6n N a0.2.1 a1).bind fun r15=>
 (z9z N a1 r15 a0).bind fun r16=>
 match r16 with
 | .inl r17=>(some (r17.2.1,r17.1.2))
 | .inr r18=>((za0 N r18.1.1 r18.2.1).bind fun r19=>
 some ((r19.2.1.1,(r19.2.2.1,r19.2.1.2.2)),r19.1.2))))))
def z49(N:Nat)(rec:Int->V1->(List Bool)->Option (((Unit×(Unit×Unit))×(V1×(Unit×((List Bool)×Unit))))))(b0:Int)(b1:V1)(b2:(List Bool)):Option (((Unit×(Unit×Unit))×(V1×(Unit×((List Bool)×Unit))))):=
 bif (decide (b0<(b1.2.1.length:Int)))then
 (gd (inB b0 (b1.2.1.length))
 (gd (inB (rdL b1.2.1 b0 (0:Int)) (b2.length))
 (rec (aa .i64 (b0+(1:Int))) b1 (setL b2 (rdL b1.2.1 b0 (0:Int)) false))))
 else
 (some (((),((),())),(b1,((),(b2,())))))
def z1l(N:Nat)(n:Nat):=
 itF (fun _ _ _=>none) (z49 N) n
theorem zmh(N:Nat)(n:Nat):z1l N (n+1)=z49 N (z1l N n):=rfl
def zby(N:Nat)(a0:V1):Option (V1):=
 gd (fits (0+a0.1.length) 1)
 (let x1:=(([]:List Bool)++a0.1)
 (z1l N N (0:Int) a0 x1).bind fun r2=>
 some (r2.2.2.2.1,(([]:List Int),r2.2.1.2.2)))
def z67(N:Nat)(rec:(List Int)->Int->Z6->(List Int)->Option (((Unit×(Unit×(List Int)))×(Z6×(Unit×Unit)))))(b0:(List Int))(b1:Int)(b2:Z6)(b3:(List Int)):Option (((Unit×(Unit×(List Int)))×(Z6×(Unit×Unit)))):=
 bif (decide (b1<(b3.length:Int)))then
 (gd (inB b1 (b3.length))
 ((y25 N b2.2.1 (rdL b3 b1 (0:Int))).bind fun r16=>
 rec b0 (aa .i64 (b1+(1:Int))) (b2.1,(r16.1,b2.2.2)) b3))
 else
 (some (((),((),b0)),(b2,((),()))))
def z56(N:Nat)(n:Nat):=
 itF (fun _ _ _ _=>none) (z67 N) n
theorem zri(N:Nat)(n:Nat):z56 N (n+1)=z67 N (z56 N n):=rfl
def z36(N:Nat)(rec:(List Int)->(List Int)->Int->Z6->Z6->(List (List Int))->(List Int)->Option ypz)(b0 b1:(List Int))(b2:Int)(b3 b4:Z6)(b5:(List (List Int)))(b6:(List Int)):Option ypz:=
 bif (decide (b2<(b5.length:Int)))then
 (gd (inB b2 (b5.length))
 ((z8k N b3 (rdL b5 b2 ([]:List Int))).bind fun r4=>
 bif (decide (r4.2<(0:Int)))then
 (some (.inl ((),((b4,(250:Int)),()))))
 else
 (gd (fits (b6.length+1) 8)
 (let x5:=(b6++([r4.2]:List Int))
 rec b0 b1 (aa .i64 (b2+(1:Int))) r4.1 b4 b5 x5))))
 else
 (some (.inr (((),((),((),(b0,(b1,()))))),(b3,((),(b4,(b6,())))))))
def z7c(N:Nat)(n:Nat):=
 itF (fun _ _ _ _ _ _ _=>none) (z36 N) n
theorem zg2(N:Nat)(n:Nat):z7c N (n+1)=z36 N (z7c N n):=rfl
def zhc(N:Nat)(a0:Z6)(a1:Z4):Option (zdm):=
 (zdv N a0 a1).bind fun r1=>
 bif (!r1.2.2)then
 (some (a0,(250:Int)))
 else
 ((zcw N a1 r1.1).bind fun r2=>
 (zfe N r2 r1.1.1.1).bind fun r3=>
 (z7c N N r1.2.1 r2 (0:Int) r1.1 a0 r3 ([]:List Int)).bind fun r6=>
 match r6 with
 | .inl r7=>(some r7.2.1)
 | .inr r8=>(let x9:=(aa .i64 (r8.2.2.2.1.2.2.2.1+(1:Int)))
 (z8l N r8.2.1.1).bind fun r10=>
 (zcv N x9 r8.1.2.2.2.2.1 r8.2.2.2.2.1).bind fun r11=>
 (ref23_Put N r10 (aJ x9 (2:Int)) r11).bind fun r12=>
 bif (!(eqi r12.2 (0:Int)))then
 (some (r8.2.2.2.1,(250:Int)))
 else
 ((z8l N r12.1).bind fun r13=>
 gd (fits (0+r8.1.2.2.2.1.length) 8)
 (let x14:=(([]:List Int)++r8.1.2.2.2.1)
 gd (fits (x14.length+r8.2.2.2.1.2.2.2.2.2.2.2.length) 8)
 (let x15:=(x14++r8.2.2.2.1.2.2.2.2.2.2.2)
 (z56 N N r8.2.2.2.2.1 (0:Int) (r13,(r8.2.1.2.1,(r8.2.1.2.2.1,(x9,((0:Int),r8.2.1.2.2.2.2.2))))) x15).bind fun r17=>
 (zby N r17.2.1.2.1).bind fun r18=>
 some ((r17.2.1.1,(r18,(r17.2.1.2.2.1,(r17.2.1.2.2.2.1,(r17.2.1.2.2.2.2.1,(r17.2.1.2.2.2.2.2.1,(r17.2.1.2.2.2.2.2.2.1,r17.1.2.2))))))),(0:Int)))))))
def zov(N:Nat)(a0:W8)(a1:Int)(a2:Z4):Option (zdm):=
 bif (decide (a1<(0:Int)))then
 (some ((((0:Int),(([]:List (List Int)),([]:List Y9))),((([]:List Bool),(([]:List Int),(0:Int))),((0:Int),((0:Int),((0:Int),(([]:List Int),(([]:List Int),([]:List Int)))))))),(1:Int)))
 else
 (let x1:=(aa .i64 ((a0.2.1.length:Int)-(2:Int)))
 bif (decide (x1<=a1))then
 (some ((((0:Int),(([]:List (List Int)),([]:List Y9))),((([]:List Bool),(([]:List Int),(0:Int))),((0:Int),((0:Int),((0:Int),(([]:List Int),(([]:List Int),([]:List Int)))))))),(1:Int)))
 else
 ((zow N (a0.2.1.length:Int) (aa .i64 ((2:Int)+a1))).bind fun r2=>
 (zhc N (a0,(r2.1,(a1,((0:Int),((0:Int),(([]:List Int),(([]:List Int),([]:List Int)))))))) a2).bind fun r3=>
 bif (!(eqi r3.2 (0:Int)))then
 (some ((((0:Int),(([]:List (List Int)),([]:List Y9))),((([]:List Bool),(([]:List Int),(0:Int))),((0:Int),((0:Int),((0:Int),(([]:List Int),(([]:List Int),([]:List Int)))))))),r3.2))
 else
 (some r3)))
def zpu(N:Nat):Option (zbu):=
 (zk4 N ((2:Int),((2:Int),(1:Int)))).bind fun r1=>
 let x2:=([((1:Int),(([97]:List UInt8),(([]:List UInt8),((([]:List UInt8),([]:List UInt8)),(([]:List UInt8),(([]:List UInt8),(0:Int))))))),((1:Int),(([98]:List UInt8),(([]:List UInt8),((([]:List UInt8),([]:List UInt8)),(([]:List UInt8),(([]:List UInt8),(0:Int))))))),((1:Int),(([99]:List UInt8),(([]:List UInt8),((([]:List UInt8),([]:List UInt8)),(([]:List UInt8),(([]:List UInt8),(0:Int)))))))]:List Z1)
 (zk5 N r1.1 x2).bind fun r3=>
 (zbi N (1500:Int) (20:Int)).bind fun r4=>
 (zov N r4.1 (1:Int) r3.1).bind fun r5=>
 some (r5.1,(r3.1,(0:Int)))
def zp1(N:Nat)(a0:(List Z7))(a1:Int):Option (Bool):=
 bif (decide ((0:Int)<=a1))then
 (bif (decide (a1<(a0.length:Int)))then
 (gd (inB a1 (a0.length))
 (some ((rdL a0 a1 X2).1)))
 else
 (some false))
 else
 (some false)
def zar(N:Nat)(a0:Int)(a1:(List Int)):Option ((Unit×(Unit×((List Int)×Unit)))):=
 gd (fits (a1.length+1) 8)
 (let x1:=(a1++([a0]:List Int))
 some ((),((),(x1,()))))
def y7(N:Nat)(self:Int->(List Z7)->(List Int)->Bool->(List Int)->Option Ty1_)(rec:Int->(List Int)->Int->Int->(List Int)->(List Z7)->Bool->(List Int)->Option ypx)(b0:Int)(b1:(List Int))(b2 b3:Int)(b4:(List Int))(b5:(List Z7))(b6:Bool)(b7:(List Int)):Option ypx:=
 bif (decide (b3<b2))then
 (gd (inB b3 (b1.length))
 (match self (rdL b1 b3 (0:Int)) b5 b4 b6 b7 with
 | some r3=>(rec b0 b1 b2 (aa .i64 (b3+(1:Int))) r3.2.2.2.1 r3.2.1 r3.2.2.2.2.1 r3.2.2.2.2.2.2.2.2.1)
 | none=>none))
 else
 (some ((b0,((),())),((),(b4,((),((),(b7,(b5,(b6,(((),((),((),((),())))),()))))))))))
def z0m(N:Nat)(self:Int->(List Z7)->(List Int)->Bool->(List Int)->Option Ty1_)(n:Nat):=
 itF (fun _ _ _ _ _ _ _ _=>none) (y7 N self) n
theorem zau(N:Nat)(self:Int->(List Z7)->(List Int)->Bool->(List Int)->Option Ty1_)(n:Nat):z0m N self (n+1)=y7 N self (z0m N self n):=rfl
def z18(N:Nat)(self:Int->(List Z7)->(List Int)->Bool->(List Int)->Option Ty1_)(a0:Int)(a1:(List Z7))(a2:(List Int))(a3:Bool)(a4:(List Int)):Option Ty1_:=
 match zp1 N a1 a0 with
 | some r1=>(bif (!r1)then
 (some ((),(a1,((),(a2,(a3,(((),((),((),((),())))),((),((),(a4,()))))))))))
 else
 (gd (inB a0 (a2.length))
 (bif (eqi (rdL a2 a0 (0:Int)) (2:Int))then
 (some ((),(a1,((),(a2,(a3,(((),((),((),((),())))),((),((),(a4,()))))))))))
 else
 (gd (inB a0 (a2.length))
 (bif (eqi (rdL a2 a0 (0:Int)) (1:Int))then
 (some ((),(a1,((),(a2,(false,(((),((),((),((),())))),((),((),(a4,()))))))))))
 else
 (gd (inB a0 (a2.length))
 (gd (inB a0 (a1.length))
 (let x2:=(ap (((((((rdL a1 a0 X2).2).2).2).2).2).1):Int)
 match z0m N self N a0 (((((((rdL a1 a0 X2).2).2).2).2).2).1) x2 (0:Int) (setL a2 a0 (1:Int)) a1 a3 a4 with
 | some r4=>(gd (inB r4.1.1 (r4.2.2.1.length))
 (match zar N r4.1.1 r4.2.2.2.2.2.1 with
 | some r5=>(some ((),(r4.2.2.2.2.2.2.1,((),((setL r4.2.2.1 r4.1.1 (2:Int)),(r4.2.2.2.2.2.2.2.1,(((),((),((),((),())))),((),((),(r5.2.2.1,()))))))))))
 | none=>none))
 | none=>none))))))))
 | none=>none
def J5(N n:Nat):Int->(List Z7)->(List Int)->Bool->(List Int)->Option Ty1_:=
 itF (fun _ _ _ _ _=>none) (z18 N) n
theorem zhi(N n:Nat):J5 N (n+1)=z18 N (J5 N n):=rfl
def zlq(N:Nat):Int->(List Z7)->(List Int)->Bool->(List Int)->Option Ty1_:=
 J5 N N
def U5(N:Nat)(rec:(List Int)->Int->Int->Bool->(List Z7)->(List Int)->(List Int)->Option ((Unit×(Bool×(Unit×((List Int)×Unit))))))(b0:(List Int))(b1 b2:Int)(b3:Bool)(b4:(List Z7))(b5 b6:(List Int)):Option ((Unit×(Bool×(Unit×((List Int)×Unit))))):=
 bif (decide (b2<b1))then
 (gd (inB b2 (b0.length))
 (match zlq N (rdL b0 b2 (0:Int)) b4 b5 b3 b6 with
 | some r2=>(rec b0 b1 (aa .i64 (b2+(1:Int))) r2.2.2.2.2.1 r2.2.1 r2.2.2.2.1 r2.2.2.2.2.2.2.2.2.1)
 | none=>none))
 else
 (some ((),(b3,((),(b6,())))))
def U8(N:Nat)(n:Nat):=
 itF (fun _ _ _ _ _ _ _=>none) (U5 N) n
theorem z2o(N:Nat)(n:Nat):U8 N (n+1)=U5 N (U8 N n):=rfl
def pool_visit_m__pool_Reach_c1(N:Nat)(a0:(List Z7))(a1 a2:(List Int)):Option ((Bool×(Unit×((List Int)×Unit)))):=
 gd ((decide (0<=(a0.length:Int))&&decide ((a0.length:Int)<=(a0.length:Int)))&&(decide ((a0.length:Int)<maxB)&&decide ((a0.length:Int)*8<maxB)))
 (let x1:=(ar (cH (a0.length:Int)) (0:Int))
 match U8 N N a1 (a1.length:Int) (0:Int) true a0 x1 a2 with
 | some r3=>(some (r3.2.1,((),(r3.2.2.2.1,()))))
 | none=>none)
def z1g(N:Nat)(a0:List Int):Option (Unit×((List Int)×Unit)):=
 gd (Nat.blt (a0.length) 4611686018427387904) (some ((),(z7m a0,())))
def zb1(N:Nat)(a0:(List Z7))(a1:(List Int)):Option ((List Int)):=
 match pool_visit_m__pool_Reach_c1 N a0 a1 ([]:List Int)with
 | some r1=>(match z1g N r1.2.2.1 with
 | some r2=>(some r2.2.1)
 | none=>none)
 | none=>none
def zcp(N:Nat)(a0:Z6)(a1:Int):Option ((Int×Bool)):=
 bif (decide (a1<(0:Int)))then
 (some ((0:Int),false))
 else
 (let x1:=(decide ((a0.2.2.2.2.2.1.length:Int)<=a1))
 bif x1 then
 (some ((0:Int),false))
 else
 (gd (inB a1 (a0.2.2.2.2.2.1.length))
 (let x2:=(decide ((rdL a0.2.2.2.2.2.1 a1 (0:Int))<(0:Int)))
 bif x2 then
 (some ((0:Int),false))
 else
 (gd (inB a1 (a0.2.2.2.2.2.1.length))
 (some ((rdL a0.2.2.2.2.2.1 a1 (0:Int)),true))))))
def z1q(N:Nat)(rec:Int->Int->Z6->Int->(List Int)->(List Int)->(List Int)->Option Ty9_)(b0 b1:Int)(b2:Z6)(b3:Int)(b4 b5 b6:(List Int)):Option Ty9_:=
 bif (decide (b1<b0))then
 (gd (inB b1 (b6.length))
 ((zcp N b2 (rdL b6 b1 (0:Int))).bind fun r5=>
 bif r5.2 then
 (gd (fits (b4.length+1) 8)
 (let x6:=(b4++([(rdL b6 b1 (0:Int))]:List Int))
 rec b0 (aa .i64 (b1+(1:Int))) b2 b3 x6 b5 b6))
 else
 (rec b0 (aa .i64 (b1+(1:Int))) b2 b3 b4 b5 b6)))
 else
 (some (((),()),((),(((),((),b3)),(b4,(b5,()))))))
def z7x(N:Nat)(n:Nat):=
 itF (fun _ _ _ _ _ _ _=>none) (z1q N) n
theorem zef(N:Nat)(n:Nat):z7x N (n+1)=z1q N (z7x N n):=rfl
def z1r(N:Nat)(rec:(List W5)->Int->Int->Z6->Z4->(List Int)->Option ((y9v×(Z6×(Z4×(Unit×((List Int)×Unit)))))))(b0:(List W5))(b1 b2:Int)(b3:Z6)(b4:Z4)(b5:(List Int)):Option ((y9v×(Z6×(Z4×(Unit×((List Int)×Unit)))))):=
 bif (decide (b2<b1))then
 (gd (inB b2 (b0.length))
 (let x1:=([(((rdL b0 b2 X0).2).2).1]:List Int)
 gd (fits (b5.length+x1.length) 8)
 (let x2:=(b5++x1)
 rec b0 b1 (aa .i64 (b2+(1:Int))) b3 b4 x2)))
 else
 (some (((),((),((),()))),(b3,(b4,((),(b5,()))))))
def z7y(N:Nat)(n:Nat):=
 itF (fun _ _ _ _ _ _=>none) (z1r N) n
theorem zeg(N:Nat)(n:Nat):z7y N (n+1)=z1r N (z7y N n):=rfl
def zb4(N:Nat)(a0:Z6)(a1:Z4):Option (z7):=
 (z7y N N a1.2.2.1 (a1.2.2.1.length:Int) (0:Int) a0 a1 ([a1.2.2.2.2.1]:List Int)).bind fun r3=>
 (zb1 N r3.2.2.1.1 r3.2.2.2.2.1).bind fun r4=>
 (z7x N N (r4.length:Int) (0:Int) r3.2.1 (0:Int) ([]:List Int) ([]:List Int) r4).bind fun r7=>
 some (r7.2.2.2.1,(r7.2.2.2.2.1,r7.2.2.1.2.2))
def zrn(N:Nat)(a0:z7):Option (Bool):=
 some (eqi (a0.1.length:Int) (0:Int))
def z64(N:Nat)(a0:List Int):Option (List Int):=
 gd (fits (a0.length) 8) (some a0)
def zoj(N:Nat)(a0:W8)(a1:Int):Option (Bool):=
 bif (decide ((0:Int)<=a1))then
 (some (decide (a1<(a0.2.1.length:Int))))
 else
 (some false)
def J6(N:Nat)(a0:(List Y9)):Option ((List Y9)):=
 some a0
def zm0(N:Nat)(a0:Int)(a1:Bool)(a2:Int)(a3:(List Int))(a4:Int)(a5:(List Int))(a6:Int):Option ((Unit×(Int×((List Int)×((List Int)×(Unit×Unit)))))⊕(Unit×(Int×(Unit×((List Int)×(Int×Unit)))))):=
 bif (!a1)then
 (bif (eqi a2 a4)then
 (some (.inl ((),(a4,(a3,(a5,((),())))))))
 else
 (some (.inr ((),(a4,((),(a5,(a6,()))))))))
 else
 (some (.inr ((),(a4,((),(a5,(a6,())))))))
def V6(N:Nat)(rec:(List Y9)->Int->Int->(List Int)->Int->Option Ty6_)(b0:(List Y9))(b1 b2:Int)(b3:(List Int))(b4:Int):Option Ty6_:=
 bif (decide ((0:Int)<=b1))then
 (gd (inB b1 (b0.length))
 ((zm0 N b1 ((rdL b0 b1 z1k).1) (((rdL b0 b1 z1k).2).1) (((rdL b0 b1 z1k).2).2) b2 b3 b4).bind fun r2=>
 match r2 with
 | .inl r3=>(some (.inl ((),(((),((),())),(r3.2.1,(r3.2.2.1,((),(r3.2.2.2.1,()))))))))
 | .inr r4=>(rec b0 (aa .i64 (b1-(1:Int))) r4.2.1 r4.2.2.2.1 r4.2.2.2.2.1)))
 else
 (some (.inr ((),(((),((),())),(b2,((),(b3,(b4,()))))))))
def X6(N:Nat)(n:Nat):=
 itF (fun _ _ _ _ _=>none) (V6 N) n
theorem z2q(N:Nat)(n:Nat):X6 N (n+1)=V6 N (X6 N n):=rfl
def U4(N:Nat)(a0:(List Y9))(a1:Int)(a2:(List Int))(a3:Int):Option Ty6_:=
 let x1:=(aa .i64 ((a0.length:Int)-(1:Int)))
 (X6 N N a0 x1 a1 a2 a3).bind fun r5=>
 match r5 with
 | .inl r6=>(some (.inl ((),(((),((),())),(r6.2.2.1,(r6.2.2.2.1,((),(r6.2.2.2.2.2.1,()))))))))
 | .inr r7=>(some (.inr ((),(((),((),())),(r7.2.2.1,((),(r7.2.2.2.2.1,(r7.2.2.2.2.2.1,()))))))))
def znx(N:Nat)(b0:(List Y9))(b1:W8)(b2:Int):Option (((Unit×Unit)×((List Int)×(Unit×Unit)))⊕(y9v×(W8×(Int×(Unit×((List Int)×(Int×Unit))))))):=
 (U4 N b0 b2 ([]:List Int) (0:Int)).bind fun r3=>
 match r3 with
 | .inl r4=>(some (.inl (((),()),(r4.2.2.2.1,((),())))))
 | .inr r5=>(some (.inr (((),((),((),()))),(b1,(r5.2.2.1,((),(r5.2.2.2.2.1,(r5.2.2.2.2.2.1,()))))))))
def zvj(N:Nat)(a0:W8)(a1:Int):Option (((List Int)×Int)):=
 (zoj N a0 a1).bind fun r1=>
 bif (!r1)then
 (some (([]:List Int),(230:Int)))
 else
 ((J6 N a0.2.2).bind fun r2=>
 (znx N r2 a0 a1).bind fun r6=>
 match r6 with
 | .inl r7=>(some (r7.2.1,(0:Int)))
 | .inr r8=>(gd (inB r8.2.2.1 (r8.2.1.2.1.length))
 (some ((rdL r8.2.1.2.1 r8.2.2.1 ([]:List Int)),(0:Int)))))
def z3p(N:Nat)(rec:Int->(List Int)->Int->Int->Option ((Int×Unit)))(b0:Int)(b1:(List Int))(b2 b3:Int):Option ((Int×Unit)):=
 bif (decide (b3<b2))then
 (gd (inB b3 (b1.length))
 (let x1:=(aa .u64 (((BitVec.ofInt (be .u64) b0^^^BitVec.ofInt (be .u64) (aa .u64 ((rdL b1 b3 (0:Int))))).toNat:Int)))
 let x2:=(aa .u64 (x1*(1099511628211:Int)))
 rec x2 b1 b2 (aa .i64 (b3+(1:Int)))))
 else
 (some (b0,()))
def zah(N:Nat)(n:Nat):=
 itF (fun _ _ _ _=>none) (z3p N) n
theorem zgl(N:Nat)(n:Nat):zah N (n+1)=z3p N (zah N n):=rfl
def zlr(N:Nat)(a0:(List Int)):Option (Int):=
 (zah N N (14695981039346656037:Int) a0 (a0.length:Int) (0:Int)).bind fun r3=>
 some r3.1
def zan(N:Nat)(a0 a1:(List Int))(a2 a3:Int)(a4:(List (List Int)))(a5:(List Y9))(a6:(List Bool))(a7:(List Int))(a8 a9 a10 a11:Int)(a12 a13 a14:(List Int))(a15 a16:Int):Option (Bool):=
 (zvj N (a3,(a4,a5)) a16).bind fun r1=>
 bif (eqi r1.2 (0:Int))then
 (bif (decide (a15<(a13.length:Int)))then
 ((zlr N r1.1).bind fun r2=>
 gd (inB a15 (a13.length))
 (some (eqi r2 (rdL a13 a15 (0:Int)))))
 else
 (some false))
 else
 (some false)
def zat(N:Nat)(a0:(List Int))(a1 a2:Int)(a3:(List (List Int)))(a4:(List Y9))(a5:(List Bool))(a6:(List Int))(a7 a8 a9 a10:Int)(a11 a12 a13 a14:(List Int)):Option ((Unit×yev)):=
 some ((),((),((a0,((),(a1,(a2,(a3,(a4,(a5,(a6,(a7,(a8,(a9,(a10,(a11,(a12,a13)))))))))))))),(a14,()))))
def z7n(N:Nat)(a0 a1 a2:Int)(a3:(List Int))(a4 a5:Int)(a6:(List (List Int)))(a7:(List Y9))(a8:(List Bool))(a9:(List Int))(a10 a11 a12 a13:Int)(a14 a15 a16 a17:(List Int)):Option ((Unit×(Int×yev))⊕(Unit×(Int×yev))):=
 bif (eqi a2 (0:Int))then
 (some (.inl ((),(a2,((),((a3,((),(a4,(a5,(a6,(a7,(a8,(a9,(a10,(a11,(a12,(a13,(a14,(a15,a16)))))))))))))),(a17,())))))))
 else
 (bif (decide (a1<(0:Int)))then
 (some (.inr ((),((aa .i64 (a2-(1:Int))),((),((a3,((),(a4,(a5,(a6,(a7,(a8,(a9,(a10,(a11,(a12,(a13,(a14,(a15,a16)))))))))))))),(a17,())))))))
 else
 ((zan N a3 a17 a4 a5 a6 a7 a8 a9 a10 a11 a12 a13 a14 a15 a16 a0 a1).bind fun r1=>
 bif r1 then
 (some (.inr ((),((aa .i64 (a2-(1:Int))),((),((a3,((),((aa .i64 (a4+(1:Int))),(a5,(a6,(a7,(a8,(a9,(a10,(a11,(a12,(a13,(a14,(a15,a16)))))))))))))),(a17,())))))))
 else
 (gd (fits (a17.length+1) 8)
 (let x2:=(a17++([a0]:List Int))
 some (.inr ((),((aa .i64 (a2-(1:Int))),((),((a3,((),(a4,(a5,(a6,(a7,(a8,(a9,(a10,(a11,(a12,(a13,(a14,(a15,a16)))))))))))))),(x2,()))))))))))
def Q4(N:Nat)(rec:(List Int)->Int->Int->(List (List Int))->(List Y9)->(List Bool)->(List Int)->Int->Int->Int->Int->(List Int)->(List Int)->(List Int)->(List Int)->Int->Option (Ty5_⊕Ty5_))(b0:(List Int))(b1 b2:Int)(b3:(List (List Int)))(b4:(List Y9))(b5:(List Bool))(b6:(List Int))(b7 b8 b9 b10:Int)(b11 b12 b13 b14:(List Int))(b15:Int):Option (Ty5_⊕Ty5_):=
 let x1:=(decide ((0:Int)<(b0.length:Int)))
 bif x1 then
 (gd (inB (0:Int) (b0.length))
 ((zcp N ((b2,(b3,b4)),((b5,(b6,b7)),(b8,(b9,(b10,(b11,(b12,b13))))))) (rdL b0 (0:Int) (0:Int))).bind fun r2=>
 bif (!r2.2)then
 ((z7n N (rdL b0 (0:Int) (0:Int)) (-1:Int) b15 b0 b1 b2 b3 b4 b5 b6 b7 b8 b9 b10 b11 b12 b13 b14).bind fun r3=>
 match r3 with
 | .inl r4=>(some (.inl ((),(((),()),(r4.2.1,((),((r4.2.2.2.1.1,((),(r4.2.2.2.1.2.2.1,(r4.2.2.2.1.2.2.2.1,(r4.2.2.2.1.2.2.2.2.1,(r4.2.2.2.1.2.2.2.2.2.1,(r4.2.2.2.1.2.2.2.2.2.2.1,(r4.2.2.2.1.2.2.2.2.2.2.2.1,(r4.2.2.2.1.2.2.2.2.2.2.2.2.1,(r4.2.2.2.1.2.2.2.2.2.2.2.2.2.1,(r4.2.2.2.1.2.2.2.2.2.2.2.2.2.2.1,(r4.2.2.2.1.2.2.2.2.2.2.2.2.2.2.2.1,(r4.2.2.2.1.2.2.2.2.2.2.2.2.2.2.2.2.1,(r4.2.2.2.1.2.2.2.2.2.2.2.2.2.2.2.2.2.1,r4.2.2.2.1.2.2.2.2.2.2.2.2.2.2.2.2.2.2)))))))))))))),(r4.2.2.2.2.1,((),())))))))))
 | .inr r5=>(gd (decide (0<=(1:Int))&&(decide ((1:Int)<=(r5.2.2.2.1.1.length:Int))&&decide ((r5.2.2.2.1.1.length:Int)<=(r5.2.2.2.1.1.length:Int))))
 (let x6:=(cut2 r5.2.2.2.1.1 (1:Int) (r5.2.2.2.1.1.length:Int))
 rec x6 r5.2.2.2.1.2.2.1 r5.2.2.2.1.2.2.2.1 r5.2.2.2.1.2.2.2.2.1 r5.2.2.2.1.2.2.2.2.2.1 r5.2.2.2.1.2.2.2.2.2.2.1 r5.2.2.2.1.2.2.2.2.2.2.2.1 r5.2.2.2.1.2.2.2.2.2.2.2.2.1 r5.2.2.2.1.2.2.2.2.2.2.2.2.2.1 r5.2.2.2.1.2.2.2.2.2.2.2.2.2.2.1 r5.2.2.2.1.2.2.2.2.2.2.2.2.2.2.2.1 r5.2.2.2.1.2.2.2.2.2.2.2.2.2.2.2.2.1 r5.2.2.2.1.2.2.2.2.2.2.2.2.2.2.2.2.2.1 r5.2.2.2.1.2.2.2.2.2.2.2.2.2.2.2.2.2.2 r5.2.2.2.2.1 r5.2.1)))
 else
 ((z7n N (rdL b0 (0:Int) (0:Int)) r2.1 b15 b0 b1 b2 b3 b4 b5 b6 b7 b8 b9 b10 b11 b12 b13 b14).bind fun r7=>
 match r7 with
 | .inl r8=>(some (.inl ((),(((),()),(r8.2.1,((),((r8.2.2.2.1.1,((),(r8.2.2.2.1.2.2.1,(r8.2.2.2.1.2.2.2.1,(r8.2.2.2.1.2.2.2.2.1,(r8.2.2.2.1.2.2.2.2.2.1,(r8.2.2.2.1.2.2.2.2.2.2.1,(r8.2.2.2.1.2.2.2.2.2.2.2.1,(r8.2.2.2.1.2.2.2.2.2.2.2.2.1,(r8.2.2.2.1.2.2.2.2.2.2.2.2.2.1,(r8.2.2.2.1.2.2.2.2.2.2.2.2.2.2.1,(r8.2.2.2.1.2.2.2.2.2.2.2.2.2.2.2.1,(r8.2.2.2.1.2.2.2.2.2.2.2.2.2.2.2.2.1,(r8.2.2.2.1.2.2.2.2.2.2.2.2.2.2.2.2.2.1,r8.2.2.2.1.2.2.2.2.2.2.2.2.2.2.2.2.2.2)))))))))))))),(r8.2.2.2.2.1,((),())))))))))
 | .inr r9=>(gd (decide (0<=(1:Int))&&(decide ((1:Int)<=(r9.2.2.2.1.1.length:Int))&&decide ((r9.2.2.2.1.1.length:Int)<=(r9.2.2.2.1.1.length:Int))))
 (let x10:=(cut2 r9.2.2.2.1.1 (1:Int) (r9.2.2.2.1.1.length:Int))
 rec x10 r9.2.2.2.1.2.2.1 r9.2.2.2.1.2.2.2.1 r9.2.2.2.1.2.2.2.2.1 r9.2.2.2.1.2.2.2.2.2.1 r9.2.2.2.1.2.2.2.2.2.2.1 r9.2.2.2.1.2.2.2.2.2.2.2.1 r9.2.2.2.1.2.2.2.2.2.2.2.2.1 r9.2.2.2.1.2.2.2.2.2.2.2.2.2.1 r9.2.2.2.1.2.2.2.2.2.2.2.2.2.2.1 r9.2.2.2.1.2.2.2.2.2.2.2.2.2.2.2.1 r9.2.2.2.1.2.2.2.2.2.2.2.2.2.2.2.2.1 r9.2.2.2.1.2.2.2.2.2.2.2.2.2.2.2.2.2.1 r9.2.2.2.1.2.2.2.2.2.2.2.2.2.2.2.2.2.2 r9.2.2.2.2.1 r9.2.1)))))
 else
 (some (.inr ((),(((),()),(b15,((),((b0,((),(b1,(b2,(b3,(b4,(b5,(b6,(b7,(b8,(b9,(b10,(b11,(b12,b13)))))))))))))),(b14,((),())))))))))
def K1(N:Nat)(n:Nat):=
 itF (fun _ _ _ _ _ _ _ _ _ _ _ _ _ _ _ _=>none) (Q4 N) n
theorem z4w(N:Nat)(n:Nat):K1 N (n+1)=Q4 N (K1 N n):=rfl
def z5e(N:Nat)(a0:Int)(a1:(List Int))(a2 a3:Int)(a4:(List (List Int)))(a5:(List Y9))(a6:(List Bool))(a7:(List Int))(a8 a9 a10 a11:Int)(a12 a13 a14 a15:(List Int)):Option (Ty5_⊕Ty5_):=
 (K1 N N a1 a2 a3 a4 a5 a6 a7 a8 a9 a10 a11 a12 a13 a14 a15 a0).bind fun r11=>
 match r11 with
 | .inl r12=>(some (.inl ((),(((),()),(r12.2.2.1,((),((r12.2.2.2.2.1.1,((),(r12.2.2.2.2.1.2.2.1,(r12.2.2.2.2.1.2.2.2.1,(r12.2.2.2.2.1.2.2.2.2.1,(r12.2.2.2.2.1.2.2.2.2.2.1,(r12.2.2.2.2.1.2.2.2.2.2.2.1,(r12.2.2.2.2.1.2.2.2.2.2.2.2.1,(r12.2.2.2.2.1.2.2.2.2.2.2.2.2.1,(r12.2.2.2.2.1.2.2.2.2.2.2.2.2.2.1,(r12.2.2.2.2.1.2.2.2.2.2.2.2.2.2.2.1,(r12.2.2.2.2.1.2.2.2.2.2.2.2.2.2.2.2.1,(r12.2.2.2.2.1.2.2.2.2.2.2.2.2.2.2.2.2.1,(r12.2.2.2.2.1.2.2.2.2.2.2.2.2.2.2.2.2.2.1,r12.2.2.2.2.1.2.2.2.2.2.2.2.2.2.2.2.2.2.2)))))))))))))),(r12.2.2.2.2.2.1,((),())))))))))
 | .inr r13=>(some (.inr ((),(((),()),(r13.2.2.1,((),((r13.2.2.2.2.1.1,((),(r13.2.2.2.2.1.2.2.1,(r13.2.2.2.2.1.2.2.2.1,(r13.2.2.2.2.1.2.2.2.2.1,(r13.2.2.2.2.1.2.2.2.2.2.1,(r13.2.2.2.2.1.2.2.2.2.2.2.1,(r13.2.2.2.2.1.2.2.2.2.2.2.2.1,(r13.2.2.2.2.1.2.2.2.2.2.2.2.2.1,(r13.2.2.2.2.1.2.2.2.2.2.2.2.2.2.1,(r13.2.2.2.2.1.2.2.2.2.2.2.2.2.2.2.1,(r13.2.2.2.2.1.2.2.2.2.2.2.2.2.2.2.2.1,(r13.2.2.2.2.1.2.2.2.2.2.2.2.2.2.2.2.2.1,(r13.2.2.2.2.1.2.2.2.2.2.2.2.2.2.2.2.2.2.1,r13.2.2.2.2.1.2.2.2.2.2.2.2.2.2.2.2.2.2.2)))))))))))))),(r13.2.2.2.2.2.1,((),())))))))))
def zj5(N:Nat)(b0:Int)(b1:(List Int))(b2 b3:Int)(b4:(List (List Int)))(b5:(List Y9))(b6:(List Bool))(b7:(List Int))(b8 b9 b10 b11:Int)(b12 b13 b14 b15:(List Int)):Option (((Unit×Unit)×(Unit×yev))⊕((Unit×Unit)×(Unit×yev))):=
 (z5e N b0 b1 b2 b3 b4 b5 b6 b7 b8 b9 b10 b11 b12 b13 b14 b15).bind fun r3=>
 match r3 with
 | .inl r4=>(some (.inl (((),()),((),((),((r4.2.2.2.2.1.1,((),(r4.2.2.2.2.1.2.2.1,(r4.2.2.2.2.1.2.2.2.1,(r4.2.2.2.2.1.2.2.2.2.1,(r4.2.2.2.2.1.2.2.2.2.2.1,(r4.2.2.2.2.1.2.2.2.2.2.2.1,(r4.2.2.2.2.1.2.2.2.2.2.2.2.1,(r4.2.2.2.2.1.2.2.2.2.2.2.2.2.1,(r4.2.2.2.2.1.2.2.2.2.2.2.2.2.2.1,(r4.2.2.2.2.1.2.2.2.2.2.2.2.2.2.2.1,(r4.2.2.2.2.1.2.2.2.2.2.2.2.2.2.2.2.1,(r4.2.2.2.2.1.2.2.2.2.2.2.2.2.2.2.2.2.1,(r4.2.2.2.2.1.2.2.2.2.2.2.2.2.2.2.2.2.2.1,r4.2.2.2.2.1.2.2.2.2.2.2.2.2.2.2.2.2.2.2)))))))))))))),(r4.2.2.2.2.2.1,())))))))
 | .inr r5=>(some (.inr (((),()),((),((),((r5.2.2.2.2.1.1,((),(r5.2.2.2.2.1.2.2.1,(r5.2.2.2.2.1.2.2.2.1,(r5.2.2.2.2.1.2.2.2.2.1,(r5.2.2.2.2.1.2.2.2.2.2.1,(r5.2.2.2.2.1.2.2.2.2.2.2.1,(r5.2.2.2.2.1.2.2.2.2.2.2.2.1,(r5.2.2.2.2.1.2.2.2.2.2.2.2.2.1,(r5.2.2.2.2.1.2.2.2.2.2.2.2.2.2.1,(r5.2.2.2.2.1.2.2.2.2.2.2.2.2.2.2.1,(r5.2.2.2.2.1.2.2.2.2.2.2.2.2.2.2.2.1,(r5.2.2.2.2.1.2.2.2.2.2.2.2.2.2.2.2.2.1,(r5.2.2.2.2.1.2.2.2.2.2.2.2.2.2.2.2.2.2.1,r5.2.2.2.2.1.2.2.2.2.2.2.2.2.2.2.2.2.2.2)))))))))))))),(r5.2.2.2.2.2.1,())))))))
def zrm(N:Nat)(a0:z7)(a1:Z6)(a2:Int):Option ((z7×Int)):=
 bif (decide (a2<(0:Int)))then
 (some (a0,(280:Int)))
 else
 ((z64 N a0.2.1).bind fun r1=>
 (zat N a0.1 a0.2.2 a1.1.1 a1.1.2.1 a1.1.2.2 a1.2.1.1 a1.2.1.2.1 a1.2.1.2.2 a1.2.2.1 a1.2.2.2.1 a1.2.2.2.2.1 a1.2.2.2.2.2.1 a1.2.2.2.2.2.2.1 a1.2.2.2.2.2.2.2 r1).bind fun r2=>
 (zj5 N a2 r2.2.2.1.1 r2.2.2.1.2.2.1 r2.2.2.1.2.2.2.1 r2.2.2.1.2.2.2.2.1 r2.2.2.1.2.2.2.2.2.1 r2.2.2.1.2.2.2.2.2.2.1 r2.2.2.1.2.2.2.2.2.2.2.1 r2.2.2.1.2.2.2.2.2.2.2.2.1 r2.2.2.1.2.2.2.2.2.2.2.2.2.1 r2.2.2.1.2.2.2.2.2.2.2.2.2.2.1 r2.2.2.1.2.2.2.2.2.2.2.2.2.2.2.1 r2.2.2.1.2.2.2.2.2.2.2.2.2.2.2.2.1 r2.2.2.1.2.2.2.2.2.2.2.2.2.2.2.2.2.1 r2.2.2.1.2.2.2.2.2.2.2.2.2.2.2.2.2.2 r2.2.2.2.1).bind fun r6=>
 match r6 with
 | .inl r7=>(some ((r7.2.2.2.1.1,(r7.2.2.2.2.1,r7.2.2.2.1.2.2.1)),(0:Int)))
 | .inr r8=>(some ((r8.2.2.2.1.1,(r8.2.2.2.2.1,r8.2.2.2.1.2.2.1)),(0:Int))))
def z42(N:Nat)(a0:z7)(a1:Z6)(a2:Int):Option (zuy):=
 (zrm N a0 a1 a2).bind fun r1=>
 some r1
def z37(N:Nat)(rec:Int->W8->Int->(List (List Int))->(List Y9)->Option (((Unit×Unit)×(Unit×ynb))))(b0:Int)(b1:W8)(b2:Int)(b3:(List (List Int)))(b4:(List Y9)):Option (((Unit×Unit)×(Unit×ynb))):=
 bif (decide (b0<(b1.2.2.length:Int)))then
 (gd (inB b0 (b1.2.2.length))
 (bif (!((rdL b1.2.2 b0 z1k).1))then
 (gd (inB b0 (b1.2.2.length))
 (gd (inB b0 (b1.2.2.length))
 (gd (inB (((rdL b1.2.2 b0 z1k).2).1) (b3.length))
 (let x2:=(setL b3 (((rdL b1.2.2 b0 z1k).2).1) (((rdL b1.2.2 b0 z1k).2).2))
 rec (aa .i64 (b0+(1:Int))) b1 b2 x2 b4))))
 else
 (rec (aa .i64 (b0+(1:Int))) b1 b2 b3 b4)))
 else
 (some (((),()),((),((b2,((),())),(b3,(b4,()))))))
def za1(N:Nat)(n:Nat):=
 itF (fun _ _ _ _ _=>none) (z37 N) n
theorem zg3(N:Nat)(n:Nat):za1 N (n+1)=z37 N (za1 N n):=rfl
def zcy(N:Nat)(a0:W8):Option (W8):=
 (z1c N a0).bind fun r1=>
 (za1 N N (0:Int) a0 r1.1 r1.2.1 r1.2.2).bind fun r3=>
 some (r3.2.2.1.1,(r3.2.2.2.1,([]:List Y9)))
def z8u(N:Nat)(a0:Z6)(a1:Int):Option (Int):=
 bif (decide (a1<(0:Int)))then
 (some (-1:Int))
 else
 (let x1:=(decide ((a0.2.2.2.2.2.1.length:Int)<=a1))
 bif x1 then
 (some (-1:Int))
 else
 (gd (inB a1 (a0.2.2.2.2.2.1.length))
 (let x2:=(decide ((rdL a0.2.2.2.2.2.1 a1 (0:Int))<(0:Int)))
 bif x2 then
 (some (-1:Int))
 else
 (gd (inB a1 (a0.2.2.2.2.2.1.length))
 (some (rdL a0.2.2.2.2.2.1 a1 (0:Int)))))))
def zox(N:Nat)(a0:W8)(a1:zux):Option ((W8×Int)):=
 (zcx N a0 a1.1).bind fun r1=>
 bif (!r1)then
 (some (a0,(230:Int)))
 else
 (bif (decide (a1.2.1<(0:Int)))then
 (some (a0,(1:Int)))
 else
 (gd (inB a1.1 (a0.2.1.length))
 (let x2:=(ap (rdL a0.2.1 a1.1 ([]:List Int)):Int)
 bif (decide (x2<=a1.2.1))then
 (some (a0,(1:Int)))
 else
 ((z1c N a0).bind fun r3=>
 gd (inB a1.1 (a0.2.1.length))
 (gd (fits (0+ap (rdL a0.2.1 a1.1 ([]:List Int))) 1)
 (let x4:=(([]:List Int)++(rdL a0.2.1 a1.1 ([]:List Int)))
 gd (inB a1.1 (r3.2.1.length))
 (gd (inB a1.1 (r3.2.1.length))
 (gd (Nat.beq (cH a1.1) (cH a1.1))
 (gd (inB a1.2.1 (x4.length))
 (let x5:=(aa .u8 (((BitVec.ofInt (be .u8) (rdL x4 a1.2.1 (0:Int))^^^BitVec.ofInt (be .u8) a1.2.2).toNat:Int)))
 gd (inB a1.2.1 (x4.length))
 (some ((r3.1,((setL r3.2.1 a1.1 (setL x4 a1.2.1 x5)),r3.2.2)),(0:Int)))))))))))))
def z6m(N:Nat)(a0:Z6)(a1:(List Int))(a2:zbc):Option ((Z6×Int)):=
 bif (eqi (a1.length:Int) (0:Int))then
 (some (a0,(-1:Int)))
 else
 (gd (!(eqi (a1.length:Int) 0))
 (let x1:=(aJ (aa .i64 (a2.1)) (a1.length:Int))
 gd (inB x1 (a1.length))
 ((z8u N a0 (rdL a1 x1 (0:Int))).bind fun r2=>
 (zgw N a0.1 r2).bind fun r3=>
 bif (eqi (r3.1.length:Int) (0:Int))then
 (some (a0,(-1:Int)))
 else
 ((z8u N a0 (rdL a1 x1 (0:Int))).bind fun r4=>
 gd (!(eqi (r3.1.length:Int) 0))
 (let x5:=(aJ (aa .i64 (a2.2.1)) (r3.1.length:Int))
 let x6:=(bif decide (a2.2.2<(1:Int))then(1:Int)else a2.2.2)
 (zox N a0.1 (r4,(x5,x6))).bind fun r7=>
 bif (!(eqi r7.2 (0:Int)))then
 (some (a0,(-1:Int)))
 else
 (some ((r7.1,a0.2),(rdL a1 x1 (0:Int)))))))))
def z3g(N:Nat)(rec:(List Int)->(List Int)->Int->Option Ty3_)(b0 b1:(List Int))(b2:Int):Option Ty3_:=
 bif (decide (b2<(b0.length:Int)))then
 (gd (inB b2 (b0.length))
 (gd (inB b2 (b1.length))
 (let x2:=(!(eqi (rdL b0 b2 (0:Int)) (rdL b1 b2 (0:Int))))
 bif x2 then
 (some (.inl (false,())))
 else
 (rec b0 b1 (aa .i64 (b2+(1:Int)))))))
 else
 (some (.inr ((),())))
def za9(N:Nat)(n:Nat):=
 itF (fun _ _ _=>none) (z3g N) n
theorem zgc(N:Nat)(n:Nat):za9 N (n+1)=z3g N (za9 N n):=rfl
def z8w(N:Nat)(a0 a1:(List Int)):Option (Bool):=
 let x1:=(!(eqi (a0.length:Int) (a1.length:Int)))
 bif x1 then
 (some false)
 else
 (match za9 N N a0 a1 (0:Int)with
 | some r3=>(match r3 with
 | .inl r4=>(some r4.1)
 | .inr r5=>(some true))
 | none=>none)
def y24(N:Nat)(a0 a1:z7):Option (Bool):=
 (z8w N a0.1 a1.1).bind fun r1=>
 bif r1 then
 ((z8w N a0.2.1 a1.2.1).bind fun r2=>
 bif r2 then
 (some (eqi a0.2.2 a1.2.2))
 else
 (some false))
 else
 (some false)
def y5(N:Nat)(b0:Bool):Option ((Bool×Unit)):=
 some (b0,())
def zlu(N:Nat)(b0:zbu)(b1:z7):Option ((Bool×Unit)):=
 (z42 N b1 b0.1 (2:Int)).bind fun r5=>
 (z42 N r5.1 b0.1 (2:Int)).bind fun r6=>
 (zcy N b0.1.1).bind fun r7=>
 (z6m N (r7,b0.1.2) b1.1 ((1:Int),((0:Int),(7:Int)))).bind fun r8=>
 (z42 N b1 r8.1 (9:Int)).bind fun r9=>
 (z42 N b1 b0.1 (-1:Int)).bind fun r10=>
 bif (eqi r5.1.2.2 (2:Int))then
 (bif (eqi (r5.1.1.length:Int) (1:Int))then
 (bif (eqi r6.1.2.2 (3:Int))then
 ((zrn N r6.1).bind fun r11=>
 bif r11 then
 (bif (eqi r9.1.2.2 (2:Int))then
 ((z8w N r9.1.2.1 ([r8.2]:List Int)).bind fun r12=>
 bif r12 then
 (bif (eqi r10.2 (280:Int))then
 ((y24 N r10.1 b1).bind fun r13=>
 (y5 N r13).bind fun r14=>
 some (r14.1,()))
 else
 ((y5 N false).bind fun r15=>
 some (r15.1,())))
 else
 ((y5 N false).bind fun r16=>
 some (r16.1,())))
 else
 ((y5 N false).bind fun r17=>
 some (r17.1,())))
 else
 ((y5 N false).bind fun r18=>
 some (r18.1,())))
 else
 ((y5 N false).bind fun r19=>
 some (r19.1,())))
 else
 ((y5 N false).bind fun r20=>
 some (r20.1,())))
 else
 ((y5 N false).bind fun r21=>
 some (r21.1,()))
def zc7(N:Nat):Option (Bool):=
 (zpu N).bind fun r1=>
 (zb4 N r1.1 r1.2.1).bind fun r2=>
 bif (!(eqi (r2.1.length:Int) (3:Int)))then
 (some false)
 else
 (let x3:=(decide ((0:Int)<(r2.2.1.length:Int)))
 bif x3 then
 (some false)
 else
 (bif (!(eqi r2.2.2 (0:Int)))then
 (some false)
 else
 ((zrn N r2).bind fun r4=>
 bif r4 then
 (some false)
 else
 ((zlu N r1 r2).bind fun r22=>
 some r22.1))))
def zif(N:Nat)(a0:Int):Option (V8):=
 let x1:=(aJ (aa .i64 (a0)) (4:Int))
 let x2:=(aa .i64 (dc (aa .i64 (a0)) (4:Int)))
 let x3:=(aa .i64 ((2:Int)+(aJ x2 (3:Int))))
 let x4:=(aa .i64 (dc (aa .i64 (a0)) (16:Int)))
 let x5:=(aa .i64 ((1:Int)+(aJ x4 (5:Int))))
 some ((aa .i64 ((2:Int)+x1)),(x3,x5))
def zb0(N:Nat)(a0:Int):Option ((List UInt8)):=
 let x1:=([([97,47]:List UInt8),([98,47]:List UInt8),([97,47,98,47]:List UInt8),([99,47]:List UInt8),([100,47]:List UInt8)]:List (List UInt8))
 gd (inB (aJ a0 (5:Int)) (x1.length))
 (let x2:=(rdL x1 (aJ a0 (5:Int)) ([]:List UInt8))
 some x2)
def zk8(N:Nat)(a0:Int):Option ((List UInt8)):=
 match zb0 N (aJ a0 (4:Int))with
 | some r1=>(let x2:=([([1]:List UInt8),([2,0,0]:List UInt8),([2,0,1]:List UInt8),([2,0,2]:List UInt8),([3,120]:List UInt8)]:List (List UInt8))
 let x3:=(aJ (aa .u8 (dc a0 (4:Int))) (5:Int))
 gd (inB x3 (x2.length))
 (gd (decide (r1.length+ap (rdL x2 x3 ([]:List UInt8))<maxS))
 (let x4:=(r1++(rdL x2 x3 ([]:List UInt8)))
 some x4)))
 | none=>none
def zil(N:Nat)(a0:Int):Option ((List UInt8)):=
 let x1:=([([]:List UInt8),([120]:List UInt8),([121,121]:List UInt8),([49,50,51,52,53,54,55,56,57,48]:List UInt8),([0,255]:List UInt8)]:List (List UInt8))
 gd (inB (aJ a0 (5:Int)) (x1.length))
 (let x2:=(rdL x1 (aJ a0 (5:Int)) ([]:List UInt8))
 some x2)
def z12(N:Nat)(b0 b1 b2:(List UInt8))(b3:K3)(b4:Z0):Option ((Unit×(Z1×Unit))):=
 let x9:=(aa .i64 ((aJ b3.2.2.2.2.2 (8:Int))))
 bif (eqi (aJ b3.1 (6:Int)) (0:Int))then
 (match zil N b3.2.2.1 with
 | some r10=>(some ((),(((1:Int),(b0,(r10,((([]:List UInt8),([]:List UInt8)),(([]:List UInt8),(([]:List UInt8),x9)))))),())))
 | none=>none)
 else
 (bif (eqi (aJ b3.1 (6:Int)) (1:Int))then
 (some ((),(((2:Int),(b0,(([]:List UInt8),((([]:List UInt8),([]:List UInt8)),(([]:List UInt8),(([]:List UInt8),(0:Int))))))),())))
 else
 (bif (eqi (aJ b3.1 (6:Int)) (2:Int))then
 (some ((),(((3:Int),(([]:List UInt8),(([]:List UInt8),(b4,(([]:List UInt8),(([]:List UInt8),(0:Int))))))),())))
 else
 (bif (eqi (aJ b3.1 (6:Int)) (3:Int))then
 (some ((),(((4:Int),(([]:List UInt8),(([]:List UInt8),((([]:List UInt8),([]:List UInt8)),(b1,(b2,(0:Int))))))),())))
 else
 (bif (eqi (aJ b3.1 (6:Int)) (4:Int))then
 (some ((),(((5:Int),(([]:List UInt8),(([]:List UInt8),((([]:List UInt8),([]:List UInt8)),(b1,(b2,(0:Int))))))),())))
 else
 (some ((),(((6:Int),(([]:List UInt8),(([]:List UInt8),(b4,(([]:List UInt8),(([]:List UInt8),x9)))))),())))))))
def z13(N:Nat)(b0:(List UInt8))(b1:K3)(b2:Z0):Option ((Unit×(Z1×Unit))):=
 match zb0 N b1.2.1 with
 | some r6=>(match zb0 N b1.2.2.2.1 with
 | some r7=>(match z04 N r6 r7 with
 | some r8=>(bif r8 then
 (bif (eqs r6 ([100,47]:List UInt8))then
 (match z12 N b0 r6 ([99,47]:List UInt8) b1 b2 with
 | some r11=>(some ((),(r11.2.1,())))
 | none=>none)
 else
 (match z12 N b0 r6 ([100,47]:List UInt8) b1 b2 with
 | some r12=>(some ((),(r12.2.1,())))
 | none=>none))
 else
 (match z04 N r7 r6 with
 | some r13=>(bif r13 then
 (bif (eqs r6 ([100,47]:List UInt8))then
 (match z12 N b0 r6 ([99,47]:List UInt8) b1 b2 with
 | some r14=>(some ((),(r14.2.1,())))
 | none=>none)
 else
 (match z12 N b0 r6 ([100,47]:List UInt8) b1 b2 with
 | some r15=>(some ((),(r15.2.1,())))
 | none=>none))
 else
 (match z12 N b0 r6 r7 b1 b2 with
 | some r16=>(some ((),(r16.2.1,())))
 | none=>none))
 | none=>none))
 | none=>none)
 | none=>none)
 | none=>none
def zdc(N:Nat)(a0:K3):Option (Z1):=
 match zk8 N a0.2.1 with
 | some r1=>(match zk8 N a0.2.2.2.1 with
 | some r2=>(let x3:=(eqi (aJ a0.2.2.2.2.1 (4:Int)) (0:Int))
 bif x3 then
 (match zb0 N a0.2.1 with
 | some r4=>(match U2 N r4 with
 | some r5=>(match z13 N r1 a0 r5 with
 | some r17=>(some r17.2.1)
 | none=>none)
 | none=>none)
 | none=>none)
 else
 (let x18:=(eqi (aJ a0.2.2.2.2.1 (16:Int)) (1:Int))
 bif x18 then
 (match z13 N r1 a0 (r1,([]:List UInt8))with
 | some r19=>(some r19.2.1)
 | none=>none)
 else
 (let x20:=(eqi (aJ a0.2.2.2.2.1 (16:Int)) (5:Int))
 bif x20 then
 (match z13 N r1 a0 (([]:List UInt8),([]:List UInt8))with
 | some r21=>(some r21.2.1)
 | none=>none)
 else
 (bif (eqs r1 r2)then
 (match z9s N r1 with
 | some r22=>(match z13 N r1 a0 r22 with
 | some r23=>(some r23.2.1)
 | none=>none)
 | none=>none)
 else
 (match z13 N r1 a0 ((bif lts r1 r2 || eqs r1 r2 then r1 else r2),(bif !(lts r1 r2)then r1 else r2))with
 | some r24=>(some r24.2.1)
 | none=>none)))))
 | none=>none)
 | none=>none
def y9(N:Nat)(rec:(List K3)->Int->Int->(List Z1)->Option ((Unit×((List Z1)×Unit))))(b0:(List K3))(b1 b2:Int)(b3:(List Z1)):Option ((Unit×((List Z1)×Unit))):=
 bif (decide (b2<(b0.length:Int)))then
 (bif (decide (b2<b1))then
 (gd (inB b2 (b0.length))
 (match zdc N (rdL b0 b2 zz4)with
 | some r1=>(gd (fits (b3.length+1) 112)
 (let x2:=(b3++([r1]:List Z1))
 rec b0 b1 (aa .i64 (b2+(1:Int))) x2))
 | none=>none))
 else
 (some ((),(b3,()))))
 else
 (some ((),(b3,())))
def z74(N:Nat)(n:Nat):=
 itF (fun _ _ _ _=>none) (y9 N) n
theorem y9h(N:Nat)(n:Nat):z74 N (n+1)=y9 N (z74 N n):=rfl
def zfn(N:Nat)(a0:(List K3))(a1:Int):Option ((List Z1)):=
 match z74 N N a0 a1 (0:Int) ([]:List Z1)with
 | some r3=>(some r3.2.1)
 | none=>none
def zhe(N:Nat)(a0:Int):Option ((List UInt8)):=
 let x1:=([([111,110,101]:List UInt8),([116,119,111]:List UInt8),([116,104,114,101,101]:List UInt8),([120]:List UInt8),([121]:List UInt8),([122]:List UInt8)]:List (List UInt8))
 gd (inB (aJ a0 (6:Int)) (x1.length))
 (let x2:=(rdL x1 (aJ a0 (6:Int)) ([]:List UInt8))
 some x2)
def z38(N:Nat)(rec:(List UInt8)->Int->Z4->Option ypp)(b0:(List UInt8))(b1:Int)(b2:Z4):Option ypp:=
 bif (decide (b1<(b2.2.2.1.length:Int)))then
 (gd (inB b1 (b2.2.2.1.length))
 (let x2:=(eqs (((((rdL b2.2.2.1 b1 X0).2).2).2).1) b0)
 bif x2 then
 (some (.inl ((),((b2,((0:Int),(160:Int))),()))))
 else
 (rec b0 (aa .i64 (b1+(1:Int))) b2)))
 else
 (some (.inr ((b0,((),())),(b2,((),())))))
def z7d(N:Nat)(n:Nat):=
 itF (fun _ _ _=>none) (z38 N) n
theorem zg4(N:Nat)(n:Nat):z7d N (n+1)=z38 N (z7d N n):=rfl
def zhd(N:Nat)(a0:Z4)(a1:(List UInt8)):Option (zed):=
 (z8z N a1).bind fun r1=>
 bif (!r1)then
 (some (a0,((0:Int),(11:Int))))
 else
 ((z7d N N a1 (0:Int) a0).bind fun r3=>
 match r3 with
 | .inl r4=>(some r4.2.1)
 | .inr r5=>(let x6:=(decide ((16:Int)<=(r5.2.1.2.2.1.length:Int)))
 bif x6 then
 (some (r5.2.1,((0:Int),(161:Int))))
 else
 ((z8x N r5.2.1.1 r5.2.1.2.2.2.2.1).bind fun r7=>
 gd (fits (0+r5.2.1.2.2.1.length) 64)
 (let x8:=(([]:List W5)++r5.2.1.2.2.1)
 let x9:=([(r5.2.1.2.2.2.1,(r5.2.1.2.2.2.2.2.1,(r5.2.1.2.2.2.2.1,(r5.1.1,r5.2.1.2.2.2.2.2.2))))]:List W5)
 gd (fits (x8.length+x9.length) 64)
 (let x10:=(x8++x9)
 let x11:=(aa .i64 (r5.2.1.2.2.2.1+(1:Int)))
 some ((r7.1,(r5.2.1.2.1,(x10,(x11,(r5.2.1.2.2.2.2.1,(r5.2.1.2.2.2.1,([]:List Z1))))))),(r5.2.1.2.2.2.1,(0:Int))))))))
def zob(N:Nat)(a0:Z4)(a1:Int):Option (Int):=
 bif (eqi (a0.2.2.1.length:Int) (0:Int))then
 (some (9:Int))
 else
 (gd (!(eqi (a0.2.2.1.length:Int) 0))
 (let x1:=(aJ (aa .i64 (a1)) (a0.2.2.1.length:Int))
 gd (inB x1 (a0.2.2.1.length))
 (some ((rdL a0.2.2.1 x1 X0).1))))
def zfh(N:Nat)(a0:Z4)(a1:Int):Option ((Z4×Int)):=
 (zcz N a0 a1).bind fun r1=>
 bif (decide (r1<(0:Int)))then
 (some (a0,(160:Int)))
 else
 (gd (inB r1 (a0.2.2.1.length))
 ((z8x N a0.1 ((((rdL a0.2.2.1 r1 X0).2).2).1)).bind fun r2=>
 (z2m N r2.1 a0.2.2.2.2.1).bind fun r3=>
 gd (inB r1 (a0.2.2.1.length))
 (some ((r3.1,(a0.2.1,(a0.2.2.1,(a0.2.2.2.1,((((rdL a0.2.2.1 r1 X0).2).2).1,(a1,([]:List Z1))))))),(0:Int)))))
def z8o(N:Nat)(a0:(List Z1))(a1:(List Z1)):Option ((List Z1)):=
 gd (fits (0+a0.length) 112)
 (let x1:=(([]:List Z1)++a0)
 gd (fits (x1.length+a1.length) 112)
 (let x2:=(x1++a1)
 (zc4 N x2).bind fun r3=>
 some r3))
def z0t(N:Nat)(rec:Int->Int->Int->Z4->W5->(List Z7)->Int->Int->Int->Int->Int->Int->(List Z1)->(List W5)->Option yq1)(b0 b1 b2:Int)(b3:Z4)(b4:W5)(b5:(List Z7))(b6 b7 b8 b9 b10 b11:Int)(b12:(List Z1))(b13:(List W5)):Option yq1:=
 bif (decide (b2<(b3.2.2.1.length:Int)))then
 (gd (inB b2 (b3.2.2.1.length))
 (let x3:=(eqi (((rdL b3.2.2.1 b2 X0).2).1) b0)
 bif x3 then
 ((z8o N b4.2.2.2.2 (((((rdL b3.2.2.1 b2 X0).2).2).2).2)).bind fun r4=>
 bif (!(eqi b2 b1))then
 (let x5:=([((rdL b3.2.2.1 b2 X0).1,(b4.2.1,((((rdL b3.2.2.1 b2 X0).2).2).1,(((((rdL b3.2.2.1 b2 X0).2).2).2).1,r4))))]:List W5)
 gd (fits (b13.length+x5.length) 64)
 (let x6:=(b13++x5)
 rec b0 b1 (aa .i64 (b2+(1:Int))) b3 b4 b5 b6 b7 b8 b9 b10 b11 b12 x6))
 else
 (rec b0 b1 (aa .i64 (b2+(1:Int))) b3 b4 b5 b6 b7 b8 b9 b10 b11 b12 b13))
 else
 (bif (!(eqi b2 b1))then
 (let x7:=([(rdL b3.2.2.1 b2 X0)]:List W5)
 gd (fits (b13.length+x7.length) 64)
 (let x8:=(b13++x7)
 rec b0 b1 (aa .i64 (b2+(1:Int))) b3 b4 b5 b6 b7 b8 b9 b10 b11 b12 x8))
 else
 (rec b0 b1 (aa .i64 (b2+(1:Int))) b3 b4 b5 b6 b7 b8 b9 b10 b11 b12 b13))))
 else
 (some ((b0,((),((),((),())))),(b3,((),(b4,((b5,(b6,(b7,(b8,((),(b9,(b10,(b11,b12)))))))),(b13,())))))))
def z4a(N:Nat)(n:Nat):=
 itF (fun _ _ _ _ _ _ _ _ _ _ _ _ _ _=>none) (z0t N) n
theorem zd0(N:Nat)(n:Nat):z4a N (n+1)=z0t N (z4a N n):=rfl
def zfg(N:Nat)(a0:Z4)(a1:Int):Option ((Z4×Int)):=
 (zcz N a0 a1).bind fun r1=>
 bif (decide (r1<(0:Int)))then
 (some (a0,(160:Int)))
 else
 (gd (inB r1 (a0.2.2.1.length))
 ((z2m N a0.1 ((((rdL a0.2.2.1 r1 X0).2).2).1)).bind fun r2=>
 (z4a N N a1 r1 (0:Int) a0 (rdL a0.2.2.1 r1 X0) r2.1 a0.2.1.1 a0.2.1.2.1 a0.2.1.2.2 a0.2.2.2.1 a0.2.2.2.2.1 a0.2.2.2.2.2.1 a0.2.2.2.2.2.2 ([]:List W5)).bind fun r9=>
 bif (eqi r9.2.1.2.2.2.2.2.1 r9.1.1)then
 ((z8o N r9.2.2.2.1.2.2.2.2 r9.2.1.2.2.2.2.2.2).bind fun r10=>
 some ((r9.2.2.2.2.1.1,((r9.2.2.2.2.1.2.1,(r9.2.2.2.2.1.2.2.1,r9.2.2.2.2.1.2.2.2.1)),(r9.2.2.2.2.2.1,(r9.2.2.2.2.1.2.2.2.2.2.1,(r9.2.2.2.2.1.2.2.2.2.2.2.1,(r9.2.2.2.1.2.1,r10)))))),(0:Int)))
 else
 (some ((r9.2.2.2.2.1.1,((r9.2.2.2.2.1.2.1,(r9.2.2.2.2.1.2.2.1,r9.2.2.2.2.1.2.2.2.1)),(r9.2.2.2.2.2.1,r9.2.2.2.2.1.2.2.2.2.2))),(0:Int)))))
def z0s(N:Nat)(b0:Int)(b1:Bool)(b2:Z4)(b3:G3):Option ((Unit×(Z4×Unit))⊕((Unit×(Unit×Unit))×(Z4×(G3×(Unit×Unit))))):=
 bif b1 then
 ((zfn N b3.2.2 (6:Int)).bind fun r1=>
 (zk5 N b2 r1).bind fun r2=>
 some (.inl ((),(r2.1,()))))
 else
 (bif (eqi b0 (4:Int))then
 ((zhe N b3.2.1).bind fun r3=>
 (zhd N b2 r3).bind fun r4=>
 some (.inl ((),(r4.1,()))))
 else
 (bif (eqi b0 (5:Int))then
 ((zhe N b3.2.1).bind fun r5=>
 (zhd N b2 r5).bind fun r6=>
 some (.inl ((),(r6.1,()))))
 else
 (bif (eqi b0 (6:Int))then
 ((zob N b2 b3.2.1).bind fun r7=>
 (zfh N b2 r7).bind fun r8=>
 some (.inl ((),(r8.1,()))))
 else
 (some (.inr (((),((),())),(b2,(b3,((),())))))))))
def z2u(N:Nat)(b0:Z4)(b1:G3):Option ((Unit×(Z4×Unit))):=
 (zob N b0 b1.2.1).bind fun r12=>
 (zfg N b0 r12).bind fun r13=>
 some ((),(r13.1,()))
def zlc(N:Nat)(a0:Z4)(a1:G3):Option (Z4):=
 bif (eqi (aJ a1.1 (8:Int)) (0:Int))then
 ((z0s N (aJ a1.1 (8:Int)) true a0 a1).bind fun r9=>
 match r9 with
 | .inl r10=>(some r10.2.1)
 | .inr r11=>((z2u N r11.2.1 r11.2.2.1).bind fun r14=>
 some r14.2.1))
 else
 (bif (eqi (aJ a1.1 (8:Int)) (1:Int))then
 ((z0s N (aJ a1.1 (8:Int)) true a0 a1).bind fun r15=>
 match r15 with
 | .inl r16=>(some r16.2.1)
 | .inr r17=>((z2u N r17.2.1 r17.2.2.1).bind fun r18=>
 some r18.2.1))
 else
 (bif (eqi (aJ a1.1 (8:Int)) (2:Int))then
 ((z0s N (aJ a1.1 (8:Int)) true a0 a1).bind fun r19=>
 match r19 with
 | .inl r20=>(some r20.2.1)
 | .inr r21=>((z2u N r21.2.1 r21.2.2.1).bind fun r22=>
 some r22.2.1))
 else
 ((z0s N (aJ a1.1 (8:Int)) (eqi (aJ a1.1 (8:Int)) (3:Int)) a0 a1).bind fun r23=>
 match r23 with
 | .inl r24=>(some r24.2.1)
 | .inr r25=>((z2u N r25.2.1 r25.2.2.1).bind fun r26=>
 some r26.2.1))))
def z68(N:Nat)(rec:(List G3)->Int->Z4->Option (((Unit×Unit)×(Unit×(Z4×Unit)))))(b0:(List G3))(b1:Int)(b2:Z4):Option (((Unit×Unit)×(Unit×(Z4×Unit)))):=
 bif (decide (b1<(b0.length:Int)))then
 (bif (decide (b1<(7:Int)))then
 (gd (inB b1 (b0.length))
 ((zlc N b2 (rdL b0 b1 zj4)).bind fun r3=>
 rec b0 (aa .i64 (b1+(1:Int))) r3))
 else
 (some (((),()),((),(b2,())))))
 else
 (some (((),()),((),(b2,()))))
def za2(N:Nat)(n:Nat):=
 itF (fun _ _ _=>none) (z68 N) n
theorem zrj(N:Nat)(n:Nat):za2 N (n+1)=z68 N (za2 N n):=rfl
def zld(N:Nat)(a0:Int)(a1:(List G3)):Option (Z4):=
 (zif N a0).bind fun r1=>
 (zk4 N r1).bind fun r2=>
 (za2 N N a1 (0:Int) r2.1).bind fun r4=>
 some r4.2.2.1
def zlb(N:Nat)(a0:zm4):Option (W8):=
 bif (eqi (aJ a0.1 (8:Int)) (7:Int))then
 (let x1:=(aa .i64 ((30:Int)+(aa .i64 (a0.2.1))))
 bif (eqi (aJ a0.1 (8:Int)) (6:Int))then
 (let x2:=(aJ (aa .i64 (a0.2.1)) (24:Int))
 (zbi N x1 (aa .i64 ((4:Int)+x2))).bind fun r3=>
 some r3.1)
 else
 ((zbi N x1 (60:Int)).bind fun r4=>
 some r4.1))
 else
 (bif (eqi (aJ a0.1 (8:Int)) (6:Int))then
 (let x5:=(aJ (aa .i64 (a0.2.1)) (24:Int))
 (zbi N (1500:Int) (aa .i64 ((4:Int)+x5))).bind fun r6=>
 some r6.1)
 else
 ((zbi N (1500:Int) (60:Int)).bind fun r7=>
 some r7.1))
def zla(N:Nat)(a0:zbd):Option (zbu):=
 (zld N a0.1 a0.2.1).bind fun r1=>
 (zlb N a0.2.2).bind fun r2=>
 let x3:=(aa .i64 ((aJ a0.2.2.2.2 (4:Int))))
 (zov N r2 x3 r1).bind fun r4=>
 bif (!(eqi r4.2 (0:Int)))then
 (some ((((0:Int),(([]:List (List Int)),([]:List Y9))),((([]:List Bool),(([]:List Int),(0:Int))),((0:Int),((0:Int),((0:Int),(([]:List Int),(([]:List Int),([]:List Int)))))))),(r1,r4.2)))
 else
 ((zcy N r4.1.1).bind fun r5=>
 some ((r5,r4.1.2),(r1,(0:Int))))
def z1w(N:Nat)(rec:Int->Z4->(List Int)->Option ((Unit×((List Int)×Unit))))(b0:Int)(b1:Z4)(b2:(List Int)):Option ((Unit×((List Int)×Unit))):=
 bif (decide (b0<(b1.2.2.1.length:Int)))then
 (gd (inB b0 (b1.2.2.1.length))
 (let x1:=([(((rdL b1.2.2.1 b0 X0).2).2).1]:List Int)
 gd (fits (b2.length+x1.length) 8)
 (let x2:=(b2++x1)
 rec (aa .i64 (b0+(1:Int))) b1 x2)))
 else
 (some ((),(b2,())))
def z82(N:Nat)(n:Nat):=
 itF (fun _ _ _=>none) (z1w N) n
theorem zel(N:Nat)(n:Nat):z82 N (n+1)=z1w N (z82 N n):=rfl
def znp(N:Nat)(a0:Z4):Option ((List Int)):=
 (z82 N N (0:Int) a0 ([a0.2.2.2.2.1]:List Int)).bind fun r3=>
 some r3.2.1
def z20(N:Nat)(rec:Int->(List Bool)->(List Int)->Option ((Unit×((List Int)×Unit))))(b0:Int)(b1:(List Bool))(b2:(List Int)):Option ((Unit×((List Int)×Unit))):=
 bif (decide (b0<(b1.length:Int)))then
 (gd (inB b0 (b1.length))
 (bif (rdL b1 b0 false)then
 (gd (fits (b2.length+1) 8)
 (let x10:=(b2++([b0]:List Int))
 rec (aa .i64 (b0+(1:Int))) b1 x10))
 else
 (rec (aa .i64 (b0+(1:Int))) b1 b2)))
 else
 (some ((),(b2,())))
def z5q(N:Nat)(n:Nat):=
 itF (fun _ _ _=>none) (z20 N) n
theorem zeo(N:Nat)(n:Nat):z5q N (n+1)=z20 N (z5q N n):=rfl
def z21(N:Nat)(rec:(List Int)->(List Z7)->(List Bool)->Option ((Unit×((List Bool)×Unit))))(b0:(List Int))(b1:(List Z7))(b2:(List Bool)):Option ((Unit×((List Bool)×Unit))):=
 let x3:=(decide ((0:Int)<(b0.length:Int)))
 bif x3 then
 (gd (inB (0:Int) (b0.length))
 (gd (decide (0<=(1:Int))&&(decide ((1:Int)<=(b0.length:Int))&&decide ((b0.length:Int)<=(b0.length:Int))))
 (match z71 N b1 (rdL b0 (0:Int) (0:Int))with
 | some r4=>(bif r4 then
 (gd (inB (rdL b0 (0:Int) (0:Int)) (b2.length))
 (let x5:=(!(rdL b2 (rdL b0 (0:Int) (0:Int)) false))
 bif x5 then
 (gd (inB (rdL b0 (0:Int) (0:Int)) (b2.length))
 (gd (fits (0+ap (cut2 b0 (1:Int) (b0.length:Int))) 8)
 (let x6:=(([]:List Int)++(cut2 b0 (1:Int) (b0.length:Int)))
 gd (inB (rdL b0 (0:Int) (0:Int)) (b1.length))
 (let x7:=(rdL b1 (rdL b0 (0:Int) (0:Int)) X2)
 gd (fits (x6.length+x7.2.2.2.2.2.1.length) 8)
 (let x8:=(x6++x7.2.2.2.2.2.1)
 rec x8 b1 (setL b2 (rdL b0 (0:Int) (0:Int)) true))))))
 else
 (rec (cut2 b0 (1:Int) (b0.length:Int)) b1 b2)))
 else
 (rec (cut2 b0 (1:Int) (b0.length:Int)) b1 b2))
 | none=>none)))
 else
 (some ((),(b2,())))
def z5r(N:Nat)(n:Nat):=
 itF (fun _ _ _=>none) (z21 N) n
theorem zep(N:Nat)(n:Nat):z5r N (n+1)=z21 N (z5r N n):=rfl
def zdx(N:Nat)(a0:(List Z7))(a1:(List Int)):Option ((List Int)):=
 gd ((decide (0<=(a0.length:Int))&&decide ((a0.length:Int)<=(a0.length:Int)))&&(decide ((a0.length:Int)<maxB)&&decide ((a0.length:Int)*1<maxB)))
 (let x1:=(ar (cH (a0.length:Int)) false)
 gd (fits (0+a1.length) 8)
 (let x2:=(([]:List Int)++a1)
 match z5r N N x2 a0 x1 with
 | some r9=>(match z5q N N (0:Int) r9.2.1 ([]:List Int)with
 | some r11=>(some r11.2.1)
 | none=>none)
 | none=>none))
def z1s(N:Nat)(rec:Int->Z6->Int->(List Int)->(List Int)->(List Int)->Option Ty9_)(b0:Int)(b1:Z6)(b2:Int)(b3 b4 b5:(List Int)):Option Ty9_:=
 bif (decide (b0<(b5.length:Int)))then
 (gd (inB b0 (b5.length))
 ((z8u N b1 (rdL b5 b0 (0:Int))).bind fun r3=>
 bif (decide ((0:Int)<=r3))then
 (gd (inB b0 (b5.length))
 (gd (fits (b3.length+1) 8)
 (let x4:=(b3++([(rdL b5 b0 (0:Int))]:List Int))
 rec (aa .i64 (b0+(1:Int))) b1 b2 x4 b4 b5)))
 else
 (rec (aa .i64 (b0+(1:Int))) b1 b2 b3 b4 b5)))
 else
 (some (((),()),((),(((),((),b2)),(b3,(b4,()))))))
def z80(N:Nat)(n:Nat):=
 itF (fun _ _ _ _ _ _=>none) (z1s N) n
theorem zeh(N:Nat)(n:Nat):z80 N (n+1)=z1s N (z80 N n):=rfl
def zie(N:Nat)(a0:Z6)(a1:Z4):Option (z7):=
 (znp N a1).bind fun r1=>
 (zdx N a1.1 r1).bind fun r2=>
 (z80 N N (0:Int) a0 (0:Int) ([]:List Int) ([]:List Int) r2).bind fun r5=>
 some (r5.2.2.2.1,(r5.2.2.2.2.1,r5.2.2.1.2.2))
def z0l(N:Nat)(a0:List (List Int)):Option (List (List Int)):=
 gd (fits (a0.length) 24) (some a0)
def zny(N:Nat)(a0:List Int):Option (List Int):=
 gd (fits (a0.length) 1) (some a0)
def zvi(N:Nat)(a0:W8)(a1 a2 a3:Int):Option ((W8×Int)):=
 (zoj N a0 a1).bind fun r1=>
 bif (!r1)then
 (some (a0,(230:Int)))
 else
 (bif (decide (a2<(0:Int)))then
 (some (a0,(1:Int)))
 else
 (gd (inB a1 (a0.2.1.length))
 (let x2:=(ap (rdL a0.2.1 a1 ([]:List Int)):Int)
 bif (decide (x2<=a2))then
 (some (a0,(1:Int)))
 else
 ((z0l N a0.2.1).bind fun r3=>
 gd (inB a1 (r3.length))
 ((zny N (rdL r3 a1 ([]:List Int))).bind fun r4=>
 gd (inB a1 (r3.length))
 (gd (inB a1 (r3.length))
 (gd (Nat.beq (cH a1) (cH a1))
 (gd (inB a2 (r4.length))
 (let x5:=(aa .u8 (((BitVec.ofInt (be .u8) (rdL r4 a2 (0:Int))^^^BitVec.ofInt (be .u8) a3).toNat:Int)))
 gd (inB a2 (r4.length))
 (some ((a0.1,((setL r3 a1 (setL r4 a2 x5)),a0.2.2)),(0:Int))))))))))))
def zbr(N:Nat)(a0:zbd)(a1:zbc):Option (Bool):=
 (zc7 N).bind fun r1=>
 (zla N a0).bind fun r2=>
 bif (!(eqi r2.2.2 (0:Int)))then
 (some r1)
 else
 ((zb4 N r2.1 r2.2.1).bind fun r3=>
 (zie N r2.1 r2.2.1).bind fun r4=>
 (z6m N r2.1 r4.1 a1).bind fun r5=>
 bif (decide (r5.2<(0:Int)))then
 (some r1)
 else
 ((z42 N r3 r5.1 (4096:Int)).bind fun r6=>
 (z8u N r2.1 r5.2).bind fun r7=>
 (zgw N r2.1.1 r7).bind fun r8=>
 (z8u N r2.1 r5.2).bind fun r9=>
 gd (!(eqi (r8.1.length:Int) 0))
 (let x10:=(aJ (aa .i64 (a1.2.1)) (r8.1.length:Int))
 let x11:=(bif decide (a1.2.2<(1:Int))then(1:Int)else a1.2.2)
 (zvi N r5.1.1 r9 x10 x11).bind fun r12=>
 bif (!(eqi r12.2 (0:Int)))then
 (some false)
 else
 ((z42 N r3 (r12.1,r5.1.2) (4096:Int)).bind fun r13=>
 (z8w N r6.1.2.1 ([r5.2]:List Int)).bind fun r14=>
 bif r14 then
 (let x15:=(aa .i64 ((r3.1.length:Int)-(1:Int)))
 bif (eqi r6.1.2.2 x15)then
 (let x16:=(eqi (r13.1.2.1.length:Int) (0:Int))
 bif x16 then
 (bif (eqi r13.1.2.2 (r3.1.length:Int))then
 (some r1)
 else
 (some false))
 else
 (some false))
 else
 (some false))
 else
 (some false)))))
end Ds
