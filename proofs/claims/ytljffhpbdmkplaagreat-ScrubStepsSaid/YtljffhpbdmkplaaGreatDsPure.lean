/- Printed by a program of the session's: what the program's functions compute, and that they do. -/
import Derived.Test.YtljffhpbdmkplaaGreatDvD
set_option linter.all false
open Int renaming fdiv->dW,tdiv->c9,tmod->aH,toNat->cK
open Go.IntKind renaming bits->bj,wrap->aa
open List renaming length->aq,replicate->ar
namespace Ds
open Go Go.Dv
def w7:Ty:=(.pair (.int .u8) (.pair (.int .u8) (.pair (.int .u8) (.pair (.int .u8) (.pair (.int .u8) (.int .u8))))))
abbrev K0:Type:=(Int×(Int×(Int×(Int×(Int×Int)))))
abbrev zyy:K0:=((0:Int),((0:Int),((0:Int),((0:Int),((0:Int),(0:Int))))))
def w6:Ty:=(.pair (.int .u8) (.pair (.int .u8) (.list w7)))
abbrev G2:Type:=(Int×(Int×(List K0)))
abbrev zj4:G2:=((0:Int),((0:Int),([]:List K0)))
def zsb:Ty:=(.pair (.int .u8) (.pair (.int .u8) (.int .u8)))
abbrev zm7:Type:=(Int×(Int×Int))
abbrev yei:zm7:=((0:Int),((0:Int),(0:Int)))
def zb0:Ty:=(.pair (.int .u8) (.pair (.list w6) zsb))
abbrev zaz:Type:=(Int×((List G2)×zm7))
abbrev yo2:zaz:=((0:Int),(([]:List G2),yei))
def G9:Ty:=(.pair (.list (.int .i64)) (.pair (.list (.int .i64)) (.int .i64)))
abbrev K1:Type:=((List Int)×((List Int)×Int))
abbrev zz0:K1:=(([]:List Int),(([]:List Int),(0:Int)))
def J4:Ty:=(.pair .bool (.pair (.int .i64) (.list (.int .u8))))
abbrev Y9:Type:=(Bool×(Int×(List Int)))
abbrev z1a:Y9:=(false,((0:Int),([]:List Int)))
def Q3:Ty:=(.pair (.int .i64) (.pair (.list (.list (.int .u8))) (.list J4)))
abbrev V2:Type:=(Int×((List (List Int))×(List Y9)))
abbrev yeh:V2:=((0:Int),(([]:List (List Int)),([]:List Y9)))
def Q0:Ty:=(.pair (.list .bool) (.pair (.list (.int .i64)) (.int .i64)))
abbrev V0:Type:=((List Bool)×((List Int)×Int))
abbrev zz2:V0:=(([]:List Bool),(([]:List Int),(0:Int)))
def X1:Ty:=(.pair Q3 (.pair Q0 (.pair (.int .i64) (.pair (.int .i64) (.pair (.int .i64) (.pair (.list (.int .i64)) (.pair (.list (.int .u64)) (.list (.int .i64)))))))))
abbrev Z5:Type:=(V2×(V0×(Int×(Int×(Int×((List Int)×((List Int)×(List Int))))))))
abbrev zo3:Z5:=(yeh,(zz2,((0:Int),((0:Int),((0:Int),(([]:List Int),(([]:List Int),([]:List Int))))))))
def Y2:Ty:=(.pair .str (.pair .str (.int .i64)))
abbrev Z3:Type:=((List UInt8)×((List UInt8)×Int))
abbrev X5:Z3:=(([]:List UInt8),(([]:List UInt8),(0:Int)))
def z67:Ty:=(.pair (.int .i64) (.int .i64))
abbrev z4y:Type:=(Int×Int)
abbrev zz1:z4y:=((0:Int),(0:Int))
def K9:Ty:=(.pair z67 z67)
abbrev Y6:Type:=(z4y×z4y)
abbrev z5t:Y6:=(zz1,zz1)
def Z2:Ty:=(.pair .str .str)
abbrev Z0:Type:=((List UInt8)×(List UInt8))
abbrev Y7:Z0:=(([]:List UInt8),([]:List UInt8))
def Z8:Ty:=(.pair (.int .i64) (.pair .str (.pair .str (.pair Z2 (.pair .str (.pair .str (.int .i64)))))))
abbrev Z1:Type:=(Int×((List UInt8)×((List UInt8)×(Z0×((List UInt8)×((List UInt8)×Int))))))
abbrev U7:Z1:=((0:Int),(([]:List UInt8),(([]:List UInt8),(Y7,(([]:List UInt8),(([]:List UInt8),(0:Int)))))))
def Z9:Ty:=(.pair (.list Y2) (.pair (.list .str) (.pair (.list (.int .i64)) (.pair (.list K9) (.list Z8)))))
abbrev Z6:Type:=((List Z3)×((List (List UInt8))×((List Int)×((List Y6)×(List Z1)))))
abbrev zhr:Z6:=(([]:List Z3),(([]:List (List UInt8)),(([]:List Int),(([]:List Y6),([]:List Z1)))))
def Y8:Ty:=(.pair .bool (.pair .bool (.pair (.int .i64) Z9)))
abbrev Z7:Type:=(Bool×(Bool×(Int×Z6)))
abbrev X3:Z7:=(false,(false,((0:Int),zhr)))
def z31:Ty:=(.pair (.int .i64) (.pair (.int .i64) (.int .i64)))
abbrev V7:Type:=(Int×(Int×Int))
abbrev zyz:V7:=((0:Int),((0:Int),(0:Int)))
def z68:Ty:=(.pair (.int .i64) (.pair (.int .i64) (.pair (.int .i64) (.pair .str (.list Z8)))))
abbrev W5:Type:=(Int×(Int×(Int×((List UInt8)×(List Z1)))))
abbrev X0:W5:=((0:Int),((0:Int),((0:Int),(([]:List UInt8),([]:List Z1)))))
def Y1:Ty:=(.pair (.list Y8) (.pair z31 (.pair (.list z68) (.pair (.int .i64) (.pair (.int .i64) (.pair (.int .i64) (.list Z8)))))))
abbrev Z4:Type:=((List Z7)×(V7×((List W5)×(Int×(Int×(Int×(List Z1)))))))
abbrev zuy:Z4:=(([]:List Z7),(zyz,(([]:List W5),((0:Int),((0:Int),((0:Int),([]:List Z1)))))))
def zbh:Ty:=(.pair X1 (.pair Y1 (.int .i64)))
abbrev zbf:Type:=(Z5×(Z4×Int))
abbrev yj0:zbf:=(zo3,(zuy,(0:Int)))
def zj3:Ty:=(.pair (.int .u8) (.pair (.int .u16) (.int .u8)))
abbrev zay:Type:=(Int×(Int×Int))
abbrev zyx:zay:=((0:Int),((0:Int),(0:Int)))
def zfz:Ty:=(.pair G9 (.int .i64))
abbrev z99:Type:=(K1×Int)
abbrev ymm:z99:=(zz0,(0:Int))
def zbi:Ty:=(.pair zj3 zj3)
abbrev zbg:Type:=(zay×zay)
abbrev yj3:zbg:=(zyx,zyx)
def zdf:Ty:=(.pair X1 (.int .i64))
abbrev zdd:Type:=(Z5×Int)
abbrev ylu:zdd:=(zo3,(0:Int))
def zux:Ty:=(.pair (.int .i64) (.pair (.int .i64) (.int .u8)))
abbrev zuw:Type:=(Int×(Int×Int))
abbrev ymj:zuw:=((0:Int),((0:Int),(0:Int)))
def ze6:Ty:=(.pair Y1 (.pair (.int .i64) (.int .i64)))
abbrev ze5:Type:=(Z4×(Int×Int))
abbrev yiy:ze5:=(zuy,((0:Int),(0:Int)))
def y7z:Ty:=(.pair G9 X1)
abbrev y7y:Type:=(K1×Z5)
abbrev ymi:y7y:=(zz0,zo3)
def X9:Ty:=(.pair (.list Y8) (.pair (.int .i64) z31))
abbrev Y5:Type:=((List Z7)×(Int×V7))
abbrev y35:Y5:=(([]:List Z7),((0:Int),zyz))
def z8e:Ty:=(.pair X9 (.pair (.int .i64) (.int .i64)))
abbrev z3w:Type:=(Y5×(Int×Int))
abbrev yj1:z3w:=(y35,((0:Int),(0:Int)))
def zjs:Ty:=(.pair (.list Y8) (.pair (.int .i64) (.int .i64)))
abbrev zde:Type:=((List Z7)×(Int×Int))
abbrev yly:zde:=(([]:List Z7),((0:Int),(0:Int)))
def znl:Ty:=(.pair (.list Z8) (.list Z2))
abbrev znk:Type:=((List Z1)×(List Z0))
abbrev yj2:znk:=(([]:List Z1),([]:List Z0))
def zjp:Ty:=(.pair Q0 (.pair (.int .i64) (.int .i64)))
abbrev zjn:Type:=(V0×(Int×Int))
abbrev ylv:zjn:=(zz2,((0:Int),(0:Int)))
def zfy:Ty:=(.pair (.list (.int .i64)) .bool)
abbrev Q9:Type:=((List Int)×Bool)
abbrev ymk:Q9:=(([]:List Int),false)
def ycv:Ty:=(.pair (.int .i64) (.pair (.int .i64) (.pair (.int .i64) (.int .i64))))
abbrev zvl:Type:=(Int×(Int×(Int×Int)))
abbrev yq0:zvl:=((0:Int),((0:Int),((0:Int),(0:Int))))
def zl5:Ty:=(.pair Z9 (.pair Z2 (.int .i64)))
abbrev zfx:Type:=(Z6×(Z0×Int))
abbrev yml:zfx:=(zhr,(Y7,(0:Int)))
def zjr:Ty:=(.pair (.list Z9) (.pair (.list .str) (.list Z8)))
abbrev zjo:Type:=((List Z6)×((List (List UInt8))×(List Z1)))
abbrev ylx:zjo:=(([]:List Z6),(([]:List (List UInt8)),([]:List Z1)))
def zdy:Ty:=(.pair (.list Z9) (.pair (.list .str) (.list Z8)))
abbrev zdx:Type:=((List Z6)×((List (List UInt8))×(List Z1)))
abbrev yo3:zdx:=(([]:List Z6),(([]:List (List UInt8)),([]:List Z1)))
def z71:Ty:=(.pair X9 (.pair (.int .i64) (.int .i64)))
abbrev z70:Type:=(Y5×(Int×Int))
abbrev yiz:z70:=(y35,((0:Int),(0:Int)))
def zh5:Ty:=(.pair (.int .i64) (.int .i64))
abbrev z9h:Type:=(Int×Int)
abbrev ypz:z9h:=((0:Int),(0:Int))
def zo2:Ty:=(.pair (.list Z8) (.pair (.list Z8) (.list Z2)))
abbrev zj2:Type:=((List Z1)×((List Z1)×(List Z0)))
abbrev yo4:zj2:=(([]:List Z1),(([]:List Z1),([]:List Z0)))
def zjq:Ty:=(.pair (.list Y8) (.pair (.list (.int .i64)) (.int .i64)))
abbrev za9:Type:=((List Z7)×((List Int)×Int))
abbrev ylw:za9:=(([]:List Z7),(([]:List Int),(0:Int)))
def z19:Ty:=(.pair .str (.pair (.int .i64) (.pair (.int .i64) .str)))
abbrev G3:Type:=((List UInt8)×(Int×(Int×(List UInt8))))
abbrev yo5:G3:=(([]:List UInt8),((0:Int),((0:Int),([]:List UInt8))))
abbrev Ty0_:Type:=((List Int)×(Unit×(Int×(Int×((List (List Int))×((List Y9)×((List Bool)×((List Int)×(Int×(Int×(Int×(Int×((List Int)×((List Int)×(List Int)))))))))))))))
abbrev Ty1_:Type:=((Unit×((List Z7)×(Unit×((List Int)×(Bool×((Unit×(Unit×(Unit×(Unit×Unit))))×(Unit×(Unit×((List Int)×Unit))))))))))
abbrev Ty2_:Type:=(Int×((List (List Int))×((List Y9)×((List Bool)×((List Int)×(Int×(Int×(Int×(Int×(Unit×(Unit×(List Int))))))))))))
abbrev Ty3_:Type:=((Bool×Unit)⊕(Unit×Unit))
abbrev Ty4_:Type:=(Unit×((Unit×(Unit×(Unit×(Unit×(Unit×((List UInt8)×((List UInt8)×Int)))))))×((List Z3)×((List (List UInt8))×((List Int)×((List Y6)×((List Z1)×Unit)))))))
abbrev Ty5_:Type:=(Unit×((Unit×Unit)×(Int×(Unit×(Ty0_×((List Int)×(Unit×Unit)))))))
abbrev Ty6_:Type:=((Unit×((Unit×(Unit×Unit))×(Int×((List Int)×(Unit×((List Int)×Unit))))))⊕(Unit×((Unit×(Unit×Unit))×(Int×(Unit×((List Int)×(Int×Unit)))))))
abbrev Ty7_:Type:=(Unit×((List Z3)×Unit))
abbrev Ty8_:Type:=(((Unit×(Unit×(Unit×(Unit×(Unit×Int)))))×(Ty2_×((List Int)×((List Int)×(Z4×(Unit×(Z5×((List Int)×Unit)))))))))
abbrev Ty9_:Type:=(((Unit×Unit)×(Unit×((Unit×(Unit×Int))×((List Int)×((List Int)×Unit))))))
abbrev y9g:Type:=(((Unit×Unit)×(Z6×((List Int)×Unit))))
abbrev y9f:Type:=(Unit×(Unit×(Unit×Unit)))
abbrev yp0:Type:=(((Int×y9f)×(Z4×(Unit×(W5×(((List Z7)×(Int×(Int×(Int×(Unit×(Int×(Int×(Int×(List Z1)))))))))×((List W5)×Unit)))))))
abbrev ymd:Type:=((Unit×(Unit×Unit))×((List Z1)×((List Z1)×((List Z0)×Unit))))
abbrev yoz:Type:=((Unit×((Unit×(Unit×Int))×((List Z7)×((List Int)×Unit))))⊕((Unit×Unit)×(Unit×(((List Z7)×(Unit×Int))×((List Int)×Unit)))))
abbrev yoy:Type:=((Unit×(zdd×Unit))⊕((Unit×(Unit×(Unit×((List Int)×((List Int)×Unit)))))×(Z5×(Unit×(Z5×((List Int)×Unit))))))
abbrev y9e:Type:=((Unit×((List Z0)×Unit)))
abbrev yox:Type:=(((Unit×((List Int)×Bool))×(Z5×Unit))⊕((Unit×(Unit×Unit))×(Ty2_×((List Int)×((List Int)×(Unit×((List Int)×Unit)))))))
abbrev ymc:Type:=((Int×(Unit×Unit))×((List (List Int))×((List Y9)×Unit)))
abbrev yow:Type:=(((Int×(Unit×Unit))×(Unit×((List Int)×(Unit×(Unit×((List Int)×((List Z7)×(Bool×((Unit×y9f)×Unit))))))))))
abbrev yir:Type:=((List Z7)×(Z6×(Unit×Unit)))
abbrev yov:Type:=(((Unit×Int)×(Z4×Unit))⊕(((List Z1)×(Unit×(Unit×Unit)))×(Z4×(Unit×(Y5×Unit)))))
abbrev yed:Type:=(Unit×(Ty0_×((List Int)×Unit)))
abbrev you:Type:=((Unit×((Unit×((List Int)×(Int×(Int×Int))))×((List Bool)×Unit)))⊕((Unit×Unit)×(V0×(Unit×Unit))))
abbrev yec:Type:=((Unit×Int)×(Y5×Unit))
abbrev yot:Type:=(((Unit×Unit)×(Unit×((Unit×(Unit×Unit))×((List Z6)×((List (List UInt8))×((List Z1)×Unit)))))))
abbrev yos:Type:=(((Unit×Unit)×((Unit×(Unit×Unit))×((List Z1)×((List Z1)×((List Z0)×(Unit×Unit)))))))
abbrev yiq:Type:=(Unit×(Unit×((List Z7)×Unit)))
abbrev yeb:Type:=(Z6×(Z0×Unit))
abbrev yor:Type:=((((List Z3)×Int)×Unit)⊕(((List Z0)×(Unit×Unit))×(Z6×((List Z3)×Unit))))
abbrev ymb:Type:=((Unit×(Unit×Int))×((List Bool)×((List Int)×Unit)))
abbrev yoq:Type:=(((Unit×Unit)×(Unit×((Unit×(Unit×(List Z1)))×((List Z6)×((List (List UInt8))×Unit))))))
abbrev yip:Type:=(Z0×((List Z0)×Unit))
abbrev yop:Type:=((((List Z0)×y9f)×((List Z7)×(Z0×(Z6×((List Z0)×Unit))))))
abbrev yoo:Type:=((Unit×(ze5×Unit))⊕(((List UInt8)×(Unit×Unit))×(Z4×(Unit×Unit))))
abbrev yio:Type:=((Unit×((List Y6)×Unit)))
abbrev yon:Type:=((((List Z3)×((List Z0)×(Unit×(Int×Bool))))×((List Z3)×Unit)))
abbrev yom:Type:=(((Bool×(Unit×(Unit×Unit)))×(Z5×(z99×(K1×Unit)))))
abbrev yol:Type:=(((Unit×Int)×(Z6×Unit))⊕((Unit×(Unit×Unit))×(Z6×Ty7_)))
abbrev yma:Type:=((List Z0)×((List Z0)×Unit))

def zdn(N:Nat)(a0:V7):Option (Bool):=
 bif (decide ((2:Int)<=a0.1))then
 (bif (decide (a0.1<=(64:Int)))then
 (bif (decide ((2:Int)<=a0.2.1))then
 (bif (decide (a0.2.1<=(16:Int)))then
 (bif (decide ((1:Int)<=a0.2.2))then
 (some (decide (a0.2.2<=(64:Int))))
 else
 (some false))
 else
 (some false))
 else
 (some false))
 else
 (some false))
 else
 (some false)
def z6p(N:Nat)(a0:(List Z7))(a1:Int):Option (Bool):=
 bif (decide ((0:Int)<=a1))then
 (bif (decide (a1<(a0.length:Int)))then
 (gd (inB a1 (a0.length))
 (some ((rdL a0 a1 X3).1)))
 else
 (some false))
 else
 (some false)
def z93(N:Nat)(a0:(List Z7)):Option ((List Z7)):=
 gd (fits (0+a0.length) 136)
 (let x1:=(([]:List Z7)++a0)
 some x1)
def z4k(N:Nat)(rec:Int->Int->Z6->(List Z7)->Option (((Unit×(Int×Unit))×yiq)))(b0 b1:Int)(b2:Z6)(b3:(List Z7)):Option (((Unit×(Int×Unit))×yiq)):=
 bif (decide (b1<(b2.2.2.1.length:Int)))then
 (gd (inB b1 (b2.2.2.1.length))
 (gd (inB (rdL b2.2.2.1 b1 (0:Int)) (b3.length))
 (let x10:=(((rdL b3 (rdL b2.2.2.1 b1 (0:Int)) X3).2).2).1
 gd (inB (rdL b2.2.2.1 b1 (0:Int)) (b3.length))
 (let x11:=(setL b3 (rdL b2.2.2.1 b1 (0:Int)) ((rdL b3 (rdL b2.2.2.1 b1 (0:Int)) X3).1,(((rdL b3 (rdL b2.2.2.1 b1 (0:Int)) X3).2).1,((aa .i64 (x10+(1:Int))),((((rdL b3 (rdL b2.2.2.1 b1 (0:Int)) X3).2).2).2)))))
 rec b0 (aa .i64 (b1+(1:Int))) b2 x11))))
 else
 (some (((),(b0,())),((),((),(b3,())))))
def z4t(N:Nat)(n:Nat):=
 itF (fun _ _ _ _=>none) (z4k N) n
theorem zi5(N:Nat)(n:Nat):z4t N (n+1)=z4k N (z4t N n):=rfl
def z4l(N:Nat)(rec:Int->(List Z7)->Z6->Option (((Unit×(Unit×(Unit×Int)))×yir)))(b0:Int)(b1:(List Z7))(b2:Z6):Option (((Unit×(Unit×(Unit×Int)))×yir)):=
 bif (decide (b0<(b1.length:Int)))then
 (gd (inB b0 (b1.length))
 (bif (rdL b1 b0 X3).1 then
 (rec (aa .i64 (b0+(1:Int))) b1 b2)
 else
 (some (((),((),((),b0))),(b1,(b2,((),())))))))
 else
 (some (((),((),((),b0))),(b1,(b2,((),())))))
def z94(N:Nat)(n:Nat):=
 itF (fun _ _ _=>none) (z4l N) n
theorem zi6(N:Nat)(n:Nat):z94 N (n+1)=z4l N (z94 N n):=rfl
def z4m(N:Nat)(rec:Int->(List Z7)->Z6->Option ((Unit×(zde×Unit))⊕((Unit×(Unit×Unit))×yir)))(b0:Int)(b1:(List Z7))(b2:Z6):Option ((Unit×(zde×Unit))⊕((Unit×(Unit×Unit))×yir)):=
 bif (decide (b0<(b2.2.2.1.length:Int)))then
 (gd (inB b0 (b2.2.2.1.length))
 (match z6p N b1 (rdL b2.2.2.1 b0 (0:Int))with
 | some r1=>(bif (!r1)then
 (some (.inl ((),((b1,((0:Int),(110:Int))),()))))
 else
 (rec (aa .i64 (b0+(1:Int))) b1 b2))
 | none=>none))
 else
 (some (.inr (((),((),())),(b1,(b2,((),()))))))
def z95(N:Nat)(n:Nat):=
 itF (fun _ _ _=>none) (z4m N) n
theorem zi7(N:Nat)(n:Nat):z95 N (n+1)=z4m N (z95 N n):=rfl
def z5s(N:Nat)(a0:(List Z7))(a1:Z6):Option (zde):=
 match z95 N N (0:Int) a0 a1 with
 | some r2=>(match r2 with
 | .inl r3=>(some r3.2.1)
 | .inr r4=>(match z94 N N (0:Int) r4.2.1 r4.2.2.1 with
 | some r5=>(bif (decide ((4096:Int)<=r5.1.2.2.2))then
 (some (r5.2.1,((0:Int),(111:Int))))
 else
 (match z93 N r5.2.1 with
 | some r6=>(bif (eqi r5.1.2.2.2 (r6.length:Int))then
 (let x7:=([(false,(false,((0:Int),(([]:List Z3),(([]:List (List UInt8)),(([]:List Int),(([]:List Y6),([]:List Z1))))))))]:List Z7)
 gd (fits (r6.length+x7.length) 136)
 (let x8:=(r6++x7)
 gd (inB r5.1.2.2.2 (x8.length))
 (let x9:=(setL x8 r5.1.2.2.2 (true,(false,((1:Int),r5.2.2.1))))
 match z4t N N r5.1.2.2.2 (0:Int) r5.2.2.1 x9 with
 | some r12=>(some (r12.2.2.2.1,(r12.1.2.1,(0:Int))))
 | none=>none)))
 else
 (gd (inB r5.1.2.2.2 (r6.length))
 (let x13:=(setL r6 r5.1.2.2.2 (true,(false,((1:Int),r5.2.2.1))))
 match z4t N N r5.1.2.2.2 (0:Int) r5.2.2.1 x13 with
 | some r14=>(some (r14.2.2.2.1,(r14.1.2.1,(0:Int))))
 | none=>none)))
 | none=>none))
 | none=>none))
 | none=>none
def zxg(N:Nat)(a0:V7):Option ((Y5×Int)):=
 (zdn N a0).bind fun r1=>
 bif (!r1)then
 (some ((([]:List Z7),((0:Int),((0:Int),((0:Int),(0:Int))))),(120:Int)))
 else
 ((z5s N ([]:List Z7) (([]:List Z3),(([]:List (List UInt8)),(([]:List Int),(([]:List Y6),([]:List Z1)))))).bind fun r2=>
 some ((r2.1,(r2.2.1,a0)),(0:Int)))
def zk5(N:Nat)(a0:V7):Option ((Z4×Int)):=
 (zxg N a0).bind fun r1=>
 bif (!(eqi r1.2 (0:Int)))then
 (some ((([]:List Z7),(((0:Int),((0:Int),(0:Int))),(([]:List W5),((0:Int),((0:Int),((0:Int),([]:List Z1))))))),r1.2))
 else
 (some ((r1.1.1,(a0,(([]:List W5),((1:Int),(r1.1.2.1,((0:Int),([]:List Z1))))))),(0:Int)))
def z37(N:Nat)(rec:Int->Int->Z4->Option ((Int×Unit)⊕(Unit×Unit)))(b0 b1:Int)(b2:Z4):Option ((Int×Unit)⊕(Unit×Unit)):=
 bif (decide (b1<(b2.2.2.1.length:Int)))then
 (gd (inB b1 (b2.2.2.1.length))
 (bif (eqi ((rdL b2.2.2.1 b1 X0).1) b0)then
 (some (.inl (b1,())))
 else
 (rec b0 (aa .i64 (b1+(1:Int))) b2)))
 else
 (some (.inr ((),())))
def z9r(N:Nat)(n:Nat):=
 itF (fun _ _ _=>none) (z37 N) n
theorem zg6(N:Nat)(n:Nat):z9r N (n+1)=z37 N (z9r N n):=rfl
def zcn(N:Nat)(a0:Z4)(a1:Int):Option (Int):=
 (z9r N N a1 (0:Int) a0).bind fun r1=>
 match r1 with
 | .inl r2=>(some r2.1)
 | .inr r3=>(some (-1:Int))
def zrt(N:Nat)(a0:Z4)(a1:Int):Option ((Y5×Int)):=
 bif (eqi a1 (0:Int))then
 (some ((a0.1,(a0.2.2.2.2.1,a0.2.1)),(0:Int)))
 else
 ((zcn N a0 a1).bind fun r1=>
 bif (decide (r1<(0:Int)))then
 (some ((([]:List Z7),((0:Int),((0:Int),((0:Int),(0:Int))))),(160:Int)))
 else
 (gd (inB r1 (a0.2.2.1.length))
 (some ((a0.1,((((rdL a0.2.2.1 r1 X0).2).2).1,a0.2.1)),(0:Int)))))
def zhv(N:Nat)(a0 a1 a2:Int):Option (Bool):=
 bif (decide (a1<=a0))then
 (some (decide (a0<=a2)))
 else
 (some false)
def z07(N:Nat)(a0:Z0):Option (Bool):=
 bif (!(eqs a0.2 ([]:List UInt8)))then
 (some (lts a0.2 a0.1 || eqs a0.2 a0.1))
 else
 (some false)
def zhh(N:Nat)(a0:Z0):Option (Bool):=
 match z07 N a0 with
 | some r1=>(bif (!r1)then
 (let x2:=(decide ((a0.1.length:Int)<=(65535:Int)))
 bif x2 then
 (let x3:=(decide ((a0.2.length:Int)<=(65535:Int)))
 some x3)
 else
 (some false))
 else
 (some false))
 | none=>none
def j0(N:Nat)(a0 a1:(List UInt8)):Option (Bool):=
 let x1:=(decide ((a1.length:Int)<=(a0.length:Int)))
 bif x1 then
 (gd (decide (0<=(0:Int))&&(decide ((0:Int)<=(a1.length:Int))&&decide ((a1.length:Int)<=(a0.length:Int))))
 (let x2:=(eqs (cut2 a0 (0:Int) (a1.length:Int)) a1)
 some x2))
 else
 (some false)
def z84(N:Nat)(b0:Bool)(b1:Int)(b2:Bool)(b3:Z1):Option Ty3_:=
 bif b2 then
 (match j0 N b3.2.2.2.2.1 b3.2.2.2.2.2.1 with
 | some r8=>(bif (!r8)then
 (match j0 N b3.2.2.2.2.2.1 b3.2.2.2.2.1 with
 | some r9=>(bif (!r9)then
 (match zhv N (b3.2.2.2.2.1.length:Int) (1:Int) (200:Int)with
 | some r10=>(bif r10 then
 (match zhv N (b3.2.2.2.2.2.1.length:Int) (1:Int) (200:Int)with
 | some r11=>(bif r11 then
 (let x12:=(eqi b3.1 b3.1&&(eqs b3.2.1 ([]:List UInt8)&&(eqs b3.2.2.1 ([]:List UInt8)&&(eqs b3.2.2.2.1.1 ([]:List UInt8)&&(eqs b3.2.2.2.1.2 ([]:List UInt8)&&(eqs b3.2.2.2.2.1 b3.2.2.2.2.1&&(eqs b3.2.2.2.2.2.1 b3.2.2.2.2.2.1&&(eqi b3.2.2.2.2.2.2 (0:Int)&&true))))))))
 some (.inl (x12,())))
 else
 (some (.inl (false,()))))
 | none=>none)
 else
 (some (.inl (false,()))))
 | none=>none)
 else
 (some (.inl (false,()))))
 | none=>none)
 else
 (some (.inl (false,()))))
 | none=>none)
 else
 (bif (eqi b1 (6:Int))then
 (match zhh N b3.2.2.2.1 with
 | some r13=>(bif r13 then
 (bif b0 then
 (let x14:=(eqi b3.1 b3.1&&(eqs b3.2.1 ([]:List UInt8)&&(eqs b3.2.2.1 ([]:List UInt8)&&(eqs b3.2.2.2.1.1 b3.2.2.2.1.1&&(eqs b3.2.2.2.1.2 b3.2.2.2.1.2&&(eqs b3.2.2.2.2.1 ([]:List UInt8)&&(eqs b3.2.2.2.2.2.1 ([]:List UInt8)&&(eqi b3.2.2.2.2.2.2 b3.2.2.2.2.2.2&&true))))))))
 some (.inl (x14,())))
 else
 (some (.inl (false,()))))
 else
 (some (.inl (false,()))))
 | none=>none)
 else
 (some (.inr ((),()))))
def zau(N:Nat)(a0:Z1):Option (Bool):=
 match zhv N (a0.2.1.length:Int) (1:Int) (65535:Int)with
 | some r1=>(match zhv N a0.2.2.2.2.2.2 (0:Int) (1000000000:Int)with
 | some r2=>(bif (eqi a0.1 (1:Int))then
 (bif r1 then
 (let x3:=(decide ((a0.2.2.1.length:Int)<=(64:Int)))
 bif x3 then
 (bif r2 then
 (let x4:=(eqi a0.1 a0.1&&(eqs a0.2.1 a0.2.1&&(eqs a0.2.2.1 a0.2.2.1&&(eqs a0.2.2.2.1.1 ([]:List UInt8)&&(eqs a0.2.2.2.1.2 ([]:List UInt8)&&(eqs a0.2.2.2.2.1 ([]:List UInt8)&&(eqs a0.2.2.2.2.2.1 ([]:List UInt8)&&(eqi a0.2.2.2.2.2.2 a0.2.2.2.2.2.2&&true))))))))
 some x4)
 else
 (some false))
 else
 (some false))
 else
 (some false))
 else
 (bif (eqi a0.1 (2:Int))then
 (bif r1 then
 (let x5:=(eqi a0.1 a0.1&&(eqs a0.2.1 a0.2.1&&(eqs a0.2.2.1 ([]:List UInt8)&&(eqs a0.2.2.2.1.1 ([]:List UInt8)&&(eqs a0.2.2.2.1.2 ([]:List UInt8)&&(eqs a0.2.2.2.2.1 ([]:List UInt8)&&(eqs a0.2.2.2.2.2.1 ([]:List UInt8)&&(eqi a0.2.2.2.2.2.2 (0:Int)&&true))))))))
 some x5)
 else
 (some false))
 else
 (bif (eqi a0.1 (3:Int))then
 (match zhh N a0.2.2.2.1 with
 | some r6=>(bif r6 then
 (let x7:=(eqi a0.1 a0.1&&(eqs a0.2.1 ([]:List UInt8)&&(eqs a0.2.2.1 ([]:List UInt8)&&(eqs a0.2.2.2.1.1 a0.2.2.2.1.1&&(eqs a0.2.2.2.1.2 a0.2.2.2.1.2&&(eqs a0.2.2.2.2.1 ([]:List UInt8)&&(eqs a0.2.2.2.2.2.1 ([]:List UInt8)&&(eqi a0.2.2.2.2.2.2 (0:Int)&&true))))))))
 some x7)
 else
 (some false))
 | none=>none)
 else
 (bif (eqi a0.1 (4:Int))then
 (match z84 N r2 a0.1 true a0 with
 | some r15=>(match r15 with
 | .inl r16=>(some r16.1)
 | .inr r17=>(some false))
 | none=>none)
 else
 (match z84 N r2 a0.1 (eqi a0.1 (5:Int)) a0 with
 | some r18=>(match r18 with
 | .inl r19=>(some r19.1)
 | .inr r20=>(some false))
 | none=>none)))))
 | none=>none)
 | none=>none
def z9e(N:Nat)(a0:(List Z7))(a1:Int):Option ((Z6×Int)):=
 match z6p N a0 a1 with
 | some r1=>(bif (!r1)then
 (some ((([]:List Z3),(([]:List (List UInt8)),(([]:List Int),(([]:List Y6),([]:List Z1))))),(110:Int)))
 else
 (gd (inB a1 (a0.length))
 (bif ((rdL a0 a1 X3).2).1 then
 (some ((([]:List Z3),(([]:List (List UInt8)),(([]:List Int),(([]:List Y6),([]:List Z1))))),(112:Int)))
 else
 (gd (inB a1 (a0.length))
 (some (((((rdL a0 a1 X3).2).2).2),(0:Int)))))))
 | none=>none
def z1e(N:Nat)(b0:(List Z3))(b1:Bool)(b2:Int)(b3:Z3)(b4:(List Z3)):Option ((((List Z3)×(Unit×(Unit×(Bool×Int))))×(Z3×((List Z3)×Unit)))):=
 gd (inB b2 (b0.length))
 (bif (!(eqs ((rdL b0 b2 X5).1) b3.1))then
 (gd (inB b2 (b0.length))
 (gd (fits (b4.length+1) 40)
 (let x3:=(b4++([(rdL b0 b2 X5)]:List Z3))
 some ((b0,((),((),(b1,b2)))),(b3,(x3,()))))))
 else
 (some ((b0,((),((),(b1,b2)))),(b3,(b4,())))))
def z0u(N:Nat)(rec:(List Z3)->Bool->Int->Z3->(List Z3)->Option (((Unit×(Unit×Bool))×(Z3×((List Z3)×Unit)))))(b0:(List Z3))(b1:Bool)(b2:Int)(b3:Z3)(b4:(List Z3)):Option (((Unit×(Unit×Bool))×(Z3×((List Z3)×Unit)))):=
 bif (decide (b2<(b0.length:Int)))then
 (bif (!b1)then
 (gd (inB b2 (b0.length))
 (let x1:=(lts b3.1 ((rdL b0 b2 X5).1) || eqs b3.1 ((rdL b0 b2 X5).1))
 bif x1 then
 (gd (fits (b4.length+1) 40)
 (let x2:=(b4++([b3]:List Z3))
 match z1e N b0 true b2 b3 x2 with
 | some r4=>(let x5:=(aa .i64 (r4.1.2.2.2.2+(1:Int)))
 rec r4.1.1 r4.1.2.2.2.1 x5 r4.2.1 r4.2.2.1)
 | none=>none))
 else
 (match z1e N b0 b1 b2 b3 b4 with
 | some r6=>(let x7:=(aa .i64 (r6.1.2.2.2.2+(1:Int)))
 rec r6.1.1 r6.1.2.2.2.1 x7 r6.2.1 r6.2.2.1)
 | none=>none)))
 else
 (match z1e N b0 b1 b2 b3 b4 with
 | some r8=>(let x9:=(aa .i64 (r8.1.2.2.2.2+(1:Int)))
 rec r8.1.1 r8.1.2.2.2.1 x9 r8.2.1 r8.2.2.1)
 | none=>none))
 else
 (some (((),((),b1)),(b3,(b4,()))))
def z1f(N:Nat)(n:Nat):=
 itF (fun _ _ _ _ _=>none) (z0u N) n
theorem zd4(N:Nat)(n:Nat):z1f N (n+1)=z0u N (z1f N n):=rfl
def z96(N:Nat)(a0:(List Z3))(a1:Z3):Option ((List Z3)):=
 match z1f N N a0 false (0:Int) a1 ([]:List Z3)with
 | some r10=>(bif (!r10.1.2.2)then
 (gd (fits (r10.2.2.1.length+1) 40)
 (let x11:=(r10.2.2.1++([r10.2.1]:List Z3))
 some x11))
 else
 (some r10.2.2.1))
 | none=>none
def z9f(N:Nat)(a0:(List UInt8)):Option (Z0):=
 gd (decide (a0.length+aq ([0]:List UInt8)<maxS))
 (let x1:=(a0++([0]:List UInt8))
 some (a0,x1))
def zb5(N:Nat)(a0:Z0)(a1:(List UInt8)):Option (Bool):=
 bif (!(lts a1 a0.1))then
 (bif (eqs a0.2 ([]:List UInt8))then
 (some true)
 else
 (some (lts a1 a0.2)))
 else
 (some false)
def z5e(N:Nat)(rec:(List Z0)->(List UInt8)->Int->Option Ty3_)(b0:(List Z0))(b1:(List UInt8))(b2:Int):Option Ty3_:=
 bif (decide (b2<(b0.length:Int)))then
 (gd (inB b2 (b0.length))
 (match zb5 N (rdL b0 b2 Y7) b1 with
 | some r1=>(bif r1 then
 (some (.inl (true,())))
 else
 (rec b0 b1 (aa .i64 (b2+(1:Int)))))
 | none=>none))
 else
 (some (.inr ((),())))
def zdt(N:Nat)(n:Nat):=
 itF (fun _ _ _=>none) (z5e N) n
theorem zju(N:Nat)(n:Nat):zdt N (n+1)=z5e N (zdt N n):=rfl
def zof(N:Nat)(a0:(List Z0))(a1:(List UInt8)):Option (Bool):=
 match zdt N N a0 a1 (0:Int)with
 | some r2=>(match r2 with
 | .inl r3=>(some r3.1)
 | .inr r4=>(some false))
 | none=>none
def z06(N:Nat)(rec:(List Z3)->(List Z0)->Int->(List Z3)->Option (Ty7_))(b0:(List Z3))(b1:(List Z0))(b2:Int)(b3:(List Z3)):Option (Ty7_):=
 bif (decide (b2<(b0.length:Int)))then
 (gd (inB b2 (b0.length))
 (match zof N b1 ((rdL b0 b2 X5).1)with
 | some r1=>(bif (!r1)then
 (gd (inB b2 (b0.length))
 (gd (fits (b3.length+1) 40)
 (let x2:=(b3++([(rdL b0 b2 X5)]:List Z3))
 rec b0 b1 (aa .i64 (b2+(1:Int))) x2)))
 else
 (rec b0 b1 (aa .i64 (b2+(1:Int))) b3))
 | none=>none))
 else
 (some ((),(b3,())))
def z5d(N:Nat)(n:Nat):=
 itF (fun _ _ _ _=>none) (z06 N) n
theorem zc1(N:Nat)(n:Nat):z5d N (n+1)=z06 N (z5d N n):=rfl
def z50(N:Nat)(a0:(List Z3))(a1:(List Z0)):Option ((List Z3)):=
 match z5d N N a0 a1 (0:Int) ([]:List Z3)with
 | some r3=>(some r3.2.1)
 | none=>none
def z49(N:Nat)(rec:(List UInt8)->Int->Option ((((List UInt8)×(Unit×Int))×(Unit×Unit))))(b0:(List UInt8))(b1:Int):Option ((((List UInt8)×(Unit×Int))×(Unit×Unit))):=
 bif (decide ((0:Int)<b1))then
 (gd (inB (aa .i64 (b1-(1:Int))) (b0.length))
 (let x1:=(eqi (bt b0 (aa .i64 (b1-(1:Int)))) (255:Int))
 bif x1 then
 (rec b0 (aa .i64 (b1-(1:Int))))
 else
 (some ((b0,((),b1)),((),())))))
 else
 (some ((b0,((),b1)),((),())))
def J9(N:Nat)(n:Nat):=
 itF (fun _ _=>none) (z49 N) n
theorem zd6(N:Nat)(n:Nat):J9 N (n+1)=z49 N (J9 N n):=rfl
def U2(N:Nat)(a0:(List UInt8)):Option (Z0):=
 match J9 N N a0 (a0.length:Int)with
 | some r2=>(bif (eqi r2.1.2.2 (0:Int))then
 (some (r2.1.1,([]:List UInt8)))
 else
 (gd (decide (0<=(0:Int))&&(decide ((0:Int)<=(aa .i64 (r2.1.2.2-(1:Int))))&&decide ((aa .i64 (r2.1.2.2-(1:Int)))<=(r2.1.1.length:Int))))
 (let x3:=(cut2 r2.1.1 (0:Int) (aa .i64 (r2.1.2.2-(1:Int))))
 gd (inB (aa .i64 (r2.1.2.2-(1:Int))) (r2.1.1.length))
 (let x4:=(bt r2.1.1 (aa .i64 (r2.1.2.2-(1:Int))))
 let x5:=([(aa .u8 (x4+(1:Int)))]:List Int)
 gd (decide (x3.length+aq (zmn x5)<maxS))
 (let x6:=(x3++(zmn x5))
 some (r2.1.1,x6))))))
 | none=>none
def z0r(N:Nat)(rec:(List Z3)->(List Z0)->Int->(List Z3)->Option (Ty7_))(b0:(List Z3))(b1:(List Z0))(b2:Int)(b3:(List Z3)):Option (Ty7_):=
 bif (decide (b2<(b0.length:Int)))then
 (gd (inB b2 (b0.length))
 (match zof N b1 ((rdL b0 b2 X5).1)with
 | some r1=>(bif r1 then
 (gd (inB b2 (b0.length))
 (gd (fits (b3.length+1) 40)
 (let x2:=(b3++([(rdL b0 b2 X5)]:List Z3))
 rec b0 b1 (aa .i64 (b2+(1:Int))) x2)))
 else
 (rec b0 b1 (aa .i64 (b2+(1:Int))) b3))
 | none=>none))
 else
 (some ((),(b3,())))
def z6s(N:Nat)(n:Nat):=
 itF (fun _ _ _ _=>none) (z0r N) n
theorem zd2(N:Nat)(n:Nat):z6s N (n+1)=z0r N (z6s N n):=rfl
def zfm(N:Nat)(a0:(List Z3))(a1:(List Z0)):Option ((List Z3)):=
 match z6s N N a0 a1 (0:Int) ([]:List Z3)with
 | some r3=>(some r3.2.1)
 | none=>none
def zio(N:Nat)(a0 a1 a2:(List UInt8)):Option (((List UInt8)×Bool)):=
 match j0 N a0 a1 with
 | some r1=>(bif (!r1)then
 (some (([]:List UInt8),false))
 else
 (gd (decide (0<=(a1.length:Int))&&(decide ((a1.length:Int)<=(a0.length:Int))&&decide ((a0.length:Int)<=(a0.length:Int))))
 (let x2:=(cut2 a0 (a1.length:Int) (a0.length:Int))
 gd (decide (a2.length+x2.length<maxS))
 (let x3:=(a2++x2)
 some (x3,true)))))
 | none=>none
def z29(N:Nat)(rec:Int->Z1->(List Z3)->Option (Ty7_))(b0:Int)(b1:Z1)(b2:(List Z3)):Option (Ty7_):=
 bif (decide (b0<(b2.length:Int)))then
 (gd (inB b0 (b2.length))
 (match zb5 N b1.2.2.2.1 ((rdL b2 b0 X5).1)with
 | some r6=>(bif r6 then
 (gd (inB b0 (b2.length))
 (let x7:=(setL b2 b0 ((rdL b2 b0 X5).1,(((rdL b2 b0 X5).2).1,b1.2.2.2.2.2.2)))
 rec (aa .i64 (b0+(1:Int))) b1 x7))
 else
 (rec (aa .i64 (b0+(1:Int))) b1 b2))
 | none=>none))
 else
 (some ((),(b2,())))
def z87(N:Nat)(n:Nat):=
 itF (fun _ _ _=>none) (z29 N) n
theorem zew(N:Nat)(n:Nat):z87 N (n+1)=z29 N (z87 N n):=rfl
def z2a(N:Nat)(rec:Int->Z1->(List Z3)->(List Z3)->Option (Ty7_))(b0:Int)(b1:Z1)(b2:(List Z3))(b3:(List Z3)):Option (Ty7_):=
 bif (decide (b0<(b3.length:Int)))then
 (gd (inB b0 (b3.length))
 (match zio N ((rdL b3 b0 X5).1) b1.2.2.2.2.1 b1.2.2.2.2.2.1 with
 | some r15=>(gd (inB b0 (b3.length))
 (gd (inB b0 (b3.length))
 (match z96 N b2 (r15.1,((rdL b3 b0 X5).2))with
 | some r16=>(rec (aa .i64 (b0+(1:Int))) b1 r16 b3)
 | none=>none)))
 | none=>none))
 else
 (some ((),(b2,())))
def z3u(N:Nat)(n:Nat):=
 itF (fun _ _ _ _=>none) (z2a N) n
theorem zex(N:Nat)(n:Nat):z3u N (n+1)=z2a N (z3u N n):=rfl
def z30(N:Nat)(a0:(List Z3))(a1:Z1):Option ((List Z3)):=
 bif (eqi a1.1 (1:Int))then
 (match z96 N a0 (a1.2.1,(a1.2.2.1,a1.2.2.2.2.2.2))with
 | some r1=>(some r1)
 | none=>none)
 else
 (bif (eqi a1.1 (2:Int))then
 (match z9f N a1.2.1 with
 | some r2=>(match z50 N a0 ([r2]:List Z0)with
 | some r3=>(some r3)
 | none=>none)
 | none=>none)
 else
 (bif (eqi a1.1 (3:Int))then
 (match z50 N a0 ([a1.2.2.2.1]:List Z0)with
 | some r4=>(some r4)
 | none=>none)
 else
 (bif (eqi a1.1 (6:Int))then
 (gd (fits (0+a0.length) 40)
 (let x5:=(([]:List Z3)++a0)
 match z87 N N (0:Int) a1 x5 with
 | some r8=>(some r8.2.1)
 | none=>none))
 else
 (match U2 N a1.2.2.2.2.2.1 with
 | some r9=>(match z50 N a0 ([r9]:List Z0)with
 | some r10=>(match U2 N a1.2.2.2.2.1 with
 | some r11=>(match zfm N a0 ([r11]:List Z0)with
 | some r12=>(bif (eqi a1.1 (4:Int))then
 (match U2 N a1.2.2.2.2.1 with
 | some r13=>(match z50 N r10 ([r13]:List Z0)with
 | some r14=>(match z3u N N (0:Int) a1 r14 r12 with
 | some r17=>(some r17.2.1)
 | none=>none)
 | none=>none)
 | none=>none)
 else
 (match z3u N N (0:Int) a1 r10 r12 with
 | some r18=>(some r18.2.1)
 | none=>none))
 | none=>none)
 | none=>none)
 | none=>none)
 | none=>none))))
def z3f(N:Nat)(rec:(List Int)->(List Z7)->Option (((Unit×Unit)×yiq)))(b0:(List Int))(b1:(List Z7)):Option (((Unit×Unit)×yiq)):=
 let x3:=(decide ((0:Int)<(b0.length:Int)))
 bif x3 then
 (gd (inB (0:Int) (b0.length))
 (gd (decide (0<=(1:Int))&&(decide ((1:Int)<=(b0.length:Int))&&decide ((b0.length:Int)<=(b0.length:Int))))
 (match z6p N b1 (rdL b0 (0:Int) (0:Int))with
 | some r4=>(bif (!r4)then
 (rec (cut2 b0 (1:Int) (b0.length:Int)) b1)
 else
 (gd (inB (rdL b0 (0:Int) (0:Int)) (b1.length))
 (let x5:=(((rdL b1 (rdL b0 (0:Int) (0:Int)) X3).2).2).1
 gd (inB (rdL b0 (0:Int) (0:Int)) (b1.length))
 (let x6:=(setL b1 (rdL b0 (0:Int) (0:Int)) ((rdL b1 (rdL b0 (0:Int) (0:Int)) X3).1,(((rdL b1 (rdL b0 (0:Int) (0:Int)) X3).2).1,((aa .i64 (x5-(1:Int))),((((rdL b1 (rdL b0 (0:Int) (0:Int)) X3).2).2).2)))))
 gd (inB (rdL b0 (0:Int) (0:Int)) (x6.length))
 (let x7:=(((rdL x6 (rdL b0 (0:Int) (0:Int)) X3).2).2).1
 bif (eqi x7 (0:Int))then
 (gd (fits (0+aq (cut2 b0 (1:Int) (b0.length:Int))) 8)
 (let x8:=(([]:List Int)++(cut2 b0 (1:Int) (b0.length:Int)))
 gd (inB (rdL b0 (0:Int) (0:Int)) (x6.length))
 (let x9:=((((((rdL x6 (rdL b0 (0:Int) (0:Int)) X3).2).2).2).2).2).1
 gd (fits (x8.length+x9.length) 8)
 (let x10:=(x8++x9)
 gd (inB (rdL b0 (0:Int) (0:Int)) (x6.length))
 (let x11:=(setL x6 (rdL b0 (0:Int) (0:Int)) (false,(false,((0:Int),(([]:List Z3),(([]:List (List UInt8)),(([]:List Int),(([]:List Y6),([]:List Z1)))))))))
 rec x10 x11)))))
 else
 (rec (cut2 b0 (1:Int) (b0.length:Int)) x6))))))
 | none=>none)))
 else
 (some (((),()),((),((),(b1,())))))
def z76(N:Nat)(n:Nat):=
 itF (fun _ _=>none) (z3f N) n
theorem zge(N:Nat)(n:Nat):z76 N (n+1)=z3f N (z76 N n):=rfl
def z2k(N:Nat)(a0:(List Z7))(a1:Int):Option (((List Z7)×Int)):=
 match z6p N a0 a1 with
 | some r1=>(bif (!r1)then
 (some (a0,(110:Int)))
 else
 (match z93 N a0 with
 | some r2=>(match z76 N N ([a1]:List Int) r2 with
 | some r12=>(some (r12.2.2.2.1,(0:Int)))
 | none=>none)
 | none=>none))
 | none=>none
def zk7(N:Nat)(a0:Y5)(a1:Z1):Option ((Y5×Int)):=
 (zau N a1).bind fun r1=>
 bif (!r1)then
 (some (a0,(50:Int)))
 else
 ((z9e N a0.1 a0.2.1).bind fun r2=>
 bif (!(eqi r2.2 (0:Int)))then
 (some (a0,r2.2))
 else
 (let x3:=(eqi (r2.1.2.2.1.length:Int) (0:Int))
 bif x3 then
 ((z30 N r2.1.1 a1).bind fun r4=>
 (z5s N a0.1 (r4,r2.1.2)).bind fun r5=>
 bif (!(eqi r5.2.2 (0:Int)))then
 (some (a0,r5.2.2))
 else
 ((z2k N r5.1 a0.2.1).bind fun r6=>
 some ((r6.1,(r5.2.1,a0.2.2)),(0:Int))))
 else
 (gd (fits (0+r2.1.2.2.2.2.length) 112)
 (let x7:=(([]:List Z1)++r2.1.2.2.2.2)
 gd (fits (x7.length+1) 112)
 (let x8:=(x7++([a1]:List Z1))
 (z5s N a0.1 (r2.1.1,(r2.1.2.1,(r2.1.2.2.1,(r2.1.2.2.2.1,x8))))).bind fun r9=>
 bif (!(eqi r9.2.2 (0:Int)))then
 (some (a0,r9.2.2))
 else
 ((z2k N r9.1 a0.2.1).bind fun r10=>
 some ((r10.1,(r9.2.1,a0.2.2)),(0:Int))))))))
def zd7(N:Nat)(a0 a1:(List UInt8)):Option (Bool):=
 bif (!(eqs a0 ([]:List UInt8)))then
 (bif (eqs a1 ([]:List UInt8))then
 (some true)
 else
 (some (lts a0 a1)))
 else
 (some false)
def zls(N:Nat):Option (Z0):=
 some (([97]:List UInt8),([97]:List UInt8))
def z2l(N:Nat)(a0 a1:Z0):Option (Z0):=
 match zd7 N a1.2 a0.2 with
 | some r1=>(bif r1 then
 (match z07 N ((bif !(lts a0.1 a1.1)then a0.1 else a1.1),a1.2)with
 | some r2=>(bif r2 then
 (match zls N with
 | some r3=>(some r3)
 | none=>none)
 else
 (some ((bif !(lts a0.1 a1.1)then a0.1 else a1.1),a1.2)))
 | none=>none)
 else
 (match z07 N ((bif !(lts a0.1 a1.1)then a0.1 else a1.1),a0.2)with
 | some r4=>(bif r4 then
 (match zls N with
 | some r5=>(some r5)
 | none=>none)
 else
 (some ((bif !(lts a0.1 a1.1)then a0.1 else a1.1),a0.2)))
 | none=>none))
 | none=>none
def z2c(N:Nat)(rec:(List (List UInt8))->(List UInt8)->Int->Z0->(List Z0)->Option (((Unit×(Unit×(List UInt8)))×yip)))(b0:(List (List UInt8)))(b1:(List UInt8))(b2:Int)(b3:Z0)(b4:(List Z0)):Option (((Unit×(Unit×(List UInt8)))×yip)):=
 bif (decide (b2<(b0.length:Int)))then
 (gd (inB b2 (b0.length))
 (match z2l N b3 (b1,(rdL b0 b2 ([]:List UInt8)))with
 | some r1=>(gd (fits (b4.length+1) 32)
 (let x2:=(b4++([r1]:List Z0))
 gd (inB b2 (b0.length))
 (rec b0 (rdL b0 b2 ([]:List UInt8)) (aa .i64 (b2+(1:Int))) b3 x2)))
 | none=>none))
 else
 (some (((),((),b1)),(b3,(b4,()))))
def z8a(N:Nat)(n:Nat):=
 itF (fun _ _ _ _ _=>none) (z2c N) n
theorem zez(N:Nat)(n:Nat):z8a N (n+1)=z2c N (z8a N n):=rfl
def zds(N:Nat)(a0:Z0)(a1:(List (List UInt8))):Option ((List Z0)):=
 match z8a N N a1 ([]:List UInt8) (0:Int) a0 ([]:List Z0)with
 | some r3=>(match z2l N r3.2.1 (r3.1.2.2,([]:List UInt8))with
 | some r4=>(gd (fits (r3.2.2.1.length+1) 32)
 (let x5:=(r3.2.2.1++([r4]:List Z0))
 some x5))
 | none=>none)
 | none=>none
def z8i(N:Nat)(a0:Z6)(a1:Z0):Option ((List Z0)):=
 bif (eqi (a0.2.2.1.length:Int) (0:Int))then
 (some ([]:List Z0))
 else
 (match zds N a1 a0.2.1 with
 | some r1=>(some r1)
 | none=>none)
def zjb(N:Nat)(b0:(List Int))(b1:Int)(b2:Y5)(b3:Z6)(b4:Z0):Option (Ty4_⊕(((List Int)×(Unit×(Unit×(Unit×(Int×(Unit×Int))))))×(Y5×(Unit×yeb)))):=
 gd (inB b1 (b0.length))
 (bif (decide ((rdL b0 b1 (0:Int))<(0:Int)))then
 (some (.inl ((),(((),((),((),((),((),(([]:List UInt8),(([]:List UInt8),(140:Int)))))))),(([]:List Z3),(([]:List (List UInt8)),(([]:List Int),(([]:List Y6),(([]:List Z1),())))))))))
 else
 (gd (inB b1 (b0.length))
 (let x2:=(decide ((b3.2.2.1.length:Int)<=(rdL b0 b1 (0:Int))))
 bif x2 then
 (some (.inl ((),(((),((),((),((),((),(([]:List UInt8),(([]:List UInt8),(140:Int)))))))),(([]:List Z3),(([]:List (List UInt8)),(([]:List Int),(([]:List Y6),(([]:List Z1),())))))))))
 else
 ((z8i N b3 b4).bind fun r3=>
 gd (inB b1 (b0.length))
 (gd (inB (rdL b0 b1 (0:Int)) (r3.length))
 (gd (inB b1 (b0.length))
 (gd (inB (rdL b0 b1 (0:Int)) (b3.2.2.1.length))
 (let x4:=(rdL b3.2.2.1 (rdL b0 b1 (0:Int)) (0:Int))
 (z9e N b2.1 x4).bind fun r5=>
 some (.inr ((b0,((),((),((),(r5.2,((),(aa .i64 (b1+(1:Int))))))))),(b2,((),(r5.1,((rdL r3 (rdL b0 b1 (0:Int)) Y7),()))))))))))))))
def z3a(N:Nat)(rec:(List Int)->Int->Int->Y5->Z6->Z0->Option (Ty4_⊕((Unit×(Unit×(Int×Unit)))×(Unit×yeb))))(b0:(List Int))(b1 b2:Int)(b3:Y5)(b4:Z6)(b5:Z0):Option (Ty4_⊕((Unit×(Unit×(Int×Unit)))×(Unit×yeb))):=
 bif (decide (b2<(b0.length:Int)))then
 (bif (eqi b1 (0:Int))then
 ((zjb N b0 b2 b3 b4 b5).bind fun r6=>
 match r6 with
 | .inl r7=>(some (.inl ((),(((),((),((),((),((),(r7.2.1.2.2.2.2.2.1,(r7.2.1.2.2.2.2.2.2.1,r7.2.1.2.2.2.2.2.2.2))))))),(r7.2.2.1,(r7.2.2.2.1,(r7.2.2.2.2.1,(r7.2.2.2.2.2.1,(r7.2.2.2.2.2.2.1,())))))))))
 | .inr r8=>(rec r8.1.1 r8.1.2.2.2.2.1 r8.1.2.2.2.2.2.2 r8.2.1 r8.2.2.2.1 r8.2.2.2.2.1))
 else
 (some (.inr (((),((),(b1,()))),((),(b4,(b5,())))))))
 else
 (some (.inr (((),((),(b1,()))),((),(b4,(b5,()))))))
def z9u(N:Nat)(n:Nat):=
 itF (fun _ _ _ _ _ _=>none) (z3a N) n
theorem zg9(N:Nat)(n:Nat):z9u N (n+1)=z3a N (z9u N n):=rfl
def z8p(N:Nat)(a0:Y5)(a1:(List Int)):Option (zfx):=
 (z9e N a0.1 a0.2.1).bind fun r1=>
 (z9u N N a1 r1.2 (0:Int) a0 r1.1 (([]:List UInt8),([]:List UInt8))).bind fun r9=>
 match r9 with
 | .inl r10=>(some ((r10.2.2.1,(r10.2.2.2.1,(r10.2.2.2.2.1,(r10.2.2.2.2.2.1,r10.2.2.2.2.2.2.1)))),((r10.2.1.2.2.2.2.2.1,r10.2.1.2.2.2.2.2.2.1),r10.2.1.2.2.2.2.2.2.2)))
 | .inr r11=>(bif (!(eqi r11.1.2.2.1 (0:Int)))then
 (some ((([]:List Z3),(([]:List (List UInt8)),(([]:List Int),(([]:List Y6),([]:List Z1))))),((([]:List UInt8),([]:List UInt8)),r11.1.2.2.1)))
 else
 (some (r11.2.2.1,(r11.2.2.2.1,(0:Int)))))
def zlo(N:Nat)(a0:Z6)(a1:V7):Option (Bool):=
 bif (eqi (a0.2.2.1.length:Int) (0:Int))then
 (some (decide (a1.1<(a0.1.length:Int))))
 else
 (let x1:=(decide (a1.2.1<(a0.2.2.1.length:Int)))
 bif x1 then
 (some true)
 else
 (let x2:=(decide (a1.2.2<(a0.2.2.2.2.length:Int)))
 some x2))
def zcq(N:Nat)(a0:(List Int))(a1:Int):Option ((List Int)):=
 gd (fits (0+a0.length) 8)
 (let x1:=(([]:List Int)++a0)
 gd (fits (x1.length+1) 8)
 (let x2:=(x1++([a1]:List Int))
 some x2))
def z1n(N:Nat)(self:Y5->(List Int)->Bool->Option (Q9))(rec:(List Int)->Bool->Int->Y5->zfx->Option ((Unit×(Q9×Unit))⊕(Unit×(Unit×Unit))))(b0:(List Int))(b1:Bool)(b2:Int)(b3:Y5)(b4:zfx):Option ((Unit×(Q9×Unit))⊕(Unit×(Unit×Unit))):=
 let x4:=(decide (b2<(b4.1.2.2.1.length:Int)))
 bif x4 then
 ((zcq N b0 b2).bind fun r5=>
 (self b3 r5 b1).bind fun r6=>
 bif r6.2 then
 (some (.inl ((),(r6,()))))
 else
 (rec b0 b1 (aa .i64 (b2+(1:Int))) b3 b4))
 else
 (some (.inr ((),((),()))))
def J8(N:Nat)(self:Y5->(List Int)->Bool->Option (Q9))(n:Nat):=
 itF (fun _ _ _ _ _=>none) (z1n N self) n
theorem z9a(N:Nat)(self:Y5->(List Int)->Bool->Option (Q9))(n:Nat):J8 N self (n+1)=z1n N self (J8 N self n):=rfl
def z5c(N:Nat)(self:Y5->(List Int)->Bool->Option (Q9))(a0:Y5)(a1:(List Int))(a2:Bool):Option (Q9):=
 (z8p N a0 a1).bind fun r1=>
 bif (!(eqi r1.2.2 (0:Int)))then
 (some (([]:List Int),false))
 else
 ((zlo N r1.1 a0.2.2).bind fun r2=>
 bif r2 then
 (some (a1,true))
 else
 (bif a2 then
 (let x3:=(decide ((0:Int)<(r1.1.2.2.2.2.length:Int)))
 bif x3 then
 (some (a1,true))
 else
 ((J8 N self N a1 a2 (0:Int) a0 r1).bind fun r7=>
 match r7 with
 | .inl r8=>(some r8.2.1)
 | .inr r9=>(some (([]:List Int),false))))
 else
 ((J8 N self N a1 a2 (0:Int) a0 r1).bind fun r10=>
 match r10 with
 | .inl r11=>(some r11.2.1)
 | .inr r12=>(some (([]:List Int),false)))))
def y8(N n:Nat):Y5->(List Int)->Bool->Option (Q9):=
 itF (fun _ _ _=>none) (z5c N) n
theorem zmb(N n:Nat):y8 N (n+1)=z5c N (y8 N n):=rfl
def zyc(N:Nat):Y5->(List Int)->Bool->Option (Q9):=
 y8 N N
def z1o(N:Nat)(rec:Int->Int->Int->(List Int)->Option ((Unit×((List Int)×Unit))))(b0 b1 b2:Int)(b3:(List Int)):Option ((Unit×((List Int)×Unit))):=
 bif (decide (b2<b1))then
 (gd (!(eqi b1 0))
 (gd (!(eqi b1 0))
 (bif (decide (b2<(aH b0 b1)))then
 (let x2:=(aa .i64 ((aa .i64 (c9 b0 b1))+(1:Int)))
 gd (fits (b3.length+1) 8)
 (let x3:=(b3++([x2]:List Int))
 rec b0 b1 (aa .i64 (b2+(1:Int))) x3))
 else
 (let x4:=([(aa .i64 (c9 b0 b1))]:List Int)
 gd (fits (b3.length+x4.length) 8)
 (let x5:=(b3++x4)
 rec b0 b1 (aa .i64 (b2+(1:Int))) x5)))))
 else
 (some ((),(b3,())))
def z7s(N:Nat)(n:Nat):=
 itF (fun _ _ _ _=>none) (z1o N) n
theorem zef(N:Nat)(n:Nat):z7s N (n+1)=z1o N (z7s N n):=rfl
def z4w(N:Nat)(a0 a1:Int):Option ((List Int)):=
 bif (decide (a1<(1:Int)))then
 (some ([]:List Int))
 else
 (bif (decide (a0<(1:Int)))then
 (some ([]:List Int))
 else
 (gd (!(eqi a1 0))
 (let x1:=(aa .i64 (c9 (aa .i64 (a0-(1:Int))) a1))
 (z7s N N a0 (aa .i64 (x1+(1:Int))) (0:Int) ([]:List Int)).bind fun r6=>
 some r6.2.1)))
def z0k(N:Nat)(rec:(List Z3)->Int->Int->(List (List Z3))->(List Int)->Option ((Unit×((List (List Z3))×Unit))))(b0:(List Z3))(b1 b2:Int)(b3:(List (List Z3)))(b4:(List Int)):Option ((Unit×((List (List Z3))×Unit))):=
 bif (decide (b2<(b4.length:Int)))then
 (gd (inB b2 (b4.length))
 (let x2:=(aa .i64 (b1+(rdL b4 b2 (0:Int))))
 gd (decide (0<=b1)&&(decide (b1<=x2)&&decide (x2<=(b0.length:Int))))
 (gd (fits (b3.length+1) 24)
 (let x3:=(b3++([(cut2 b0 b1 x2)]:List (List Z3)))
 gd (inB b2 (b4.length))
 (let x4:=(aa .i64 (b1+(rdL b4 b2 (0:Int))))
 rec b0 x4 (aa .i64 (b2+(1:Int))) x3 b4)))))
 else
 (some ((),(b3,())))
def z6m(N:Nat)(n:Nat):=
 itF (fun _ _ _ _ _=>none) (z0k N) n
theorem zcr(N:Nat)(n:Nat):z6m N (n+1)=z0k N (z6m N n):=rfl
def zfj(N:Nat)(a0:(List Z3))(a1:Int):Option ((List (List Z3))):=
 (z4w N (a0.length:Int) a1).bind fun r1=>
 (z6m N N a0 (0:Int) (0:Int) ([]:List (List Z3)) r1).bind fun r5=>
 some r5.2.1
def z3b(N:Nat)(rec:Int->(List (List Z3))->(List Z6)->(List (List UInt8))->(List Z1)->Option yot)(b0:Int)(b1:(List (List Z3)))(b2:(List Z6))(b3:(List (List UInt8)))(b4:(List Z1)):Option yot:=
 bif (decide (b0<(b1.length:Int)))then
 (gd (inB b0 (b1.length))
 (let x3:=([((rdL b1 b0 ([]:List Z3)),(([]:List (List UInt8)),(([]:List Int),(([]:List Y6),([]:List Z1)))))]:List Z6)
 gd (fits (b2.length+x3.length) 120)
 (let x4:=(b2++x3)
 bif (decide ((0:Int)<b0))then
 (gd (inB b0 (b1.length))
 (gd (inB (0:Int) (aq (rdL b1 b0 ([]:List Z3))))
 (let x5:=(rdL (rdL b1 b0 ([]:List Z3)) (0:Int) X5)
 gd (fits (b3.length+1) 16)
 (let x6:=(b3++([x5.1]:List (List UInt8)))
 rec (aa .i64 (b0+(1:Int))) b1 x4 x6 b4))))
 else
 (rec (aa .i64 (b0+(1:Int))) b1 x4 b3 b4))))
 else
 (some (((),()),((),(((),((),())),(b2,(b3,(b4,())))))))
def z9v(N:Nat)(n:Nat):=
 itF (fun _ _ _ _ _=>none) (z3b N) n
theorem zga(N:Nat)(n:Nat):z9v N (n+1)=z3b N (z9v N n):=rfl
def zcs(N:Nat)(a0:Z6)(a1:V7):Option (zjo):=
 (zfj N a0.1 a1.1).bind fun r1=>
 bif (eqi (r1.length:Int) (0:Int))then
 (let x2:=([(([]:List Z3),(([]:List (List UInt8)),(([]:List Int),(([]:List Y6),([]:List Z1)))))]:List Z6)
 some (x2,(([]:List (List UInt8)),([]:List Z1))))
 else
 ((z9v N N (0:Int) r1 ([]:List Z6) ([]:List (List UInt8)) ([]:List Z1)).bind fun r7=>
 some (r7.2.2.2.1,(r7.2.2.2.2.1,r7.2.2.2.2.2.1)))
def z4j(N:Nat)(rec:(List Z6)->Int->(List Z7)->Int->(List Int)->Option yoz)(b0:(List Z6))(b1:Int)(b2:(List Z7))(b3:Int)(b4:(List Int)):Option yoz:=
 bif (decide (b1<(b0.length:Int)))then
 (gd (inB b1 (b0.length))
 ((z5s N b2 (rdL b0 b1 zhr)).bind fun r1=>
 bif (!(eqi r1.2.2 (0:Int)))then
 (some (.inl ((),(((),((),r1.2.2)),(([]:List Z7),(([]:List Int),()))))))
 else
 (gd (fits (b4.length+1) 8)
 (let x2:=(b4++([r1.2.1]:List Int))
 rec b0 (aa .i64 (b1+(1:Int))) r1.1 b3 x2))))
 else
 (some (.inr (((),()),((),((b2,((),b3)),(b4,()))))))
def z4s(N:Nat)(n:Nat):=
 itF (fun _ _ _ _ _=>none) (z4j N) n
theorem zi4(N:Nat)(n:Nat):z4s N (n+1)=z4j N (z4s N n):=rfl
def zdh(N:Nat)(a0:(List Z7))(a1:(List Z6)):Option (za9):=
 (z4s N N a1 (0:Int) a0 (0:Int) ([]:List Int)).bind fun r3=>
 match r3 with
 | .inl r4=>(some (r4.2.2.1,(r4.2.2.2.1,r4.2.1.2.2)))
 | .inr r5=>(some (r5.2.2.1.1,(r5.2.2.2.1,r5.2.2.1.2.2)))
def z3v(N:Nat)(b0:(List UInt8))(b1:Int)(b2:(List UInt8))(b3:G3):Option ((Unit×(G3×Unit))):=
 bif (eqi b3.2.1 (3:Int))then
 (bif (eqi b3.2.1 (1:Int))then
 (bif (decide ((0:Int)<b1))then
 (gd (inB (0:Int) (b0.length))
 (bif (eqi (bt b0 (0:Int)) (6:Int))then
 (gd (decide (0<=(1:Int))&&(decide ((1:Int)<=b1)&&decide (b1<=(b0.length:Int))))
 (some ((),(((cut2 b0 (1:Int) b1),((4:Int),(b3.2.2.1,b2))),()))))
 else
 (some ((),((b3.1,(b3.2.1,(b3.2.2.1,b2))),())))))
 else
 (some ((),((b3.1,(b3.2.1,(b3.2.2.1,b2))),()))))
 else
 (some ((),((b3.1,(b3.2.1,(b3.2.2.1,b2))),()))))
 else
 (bif (eqi b3.2.1 (1:Int))then
 (bif (decide ((0:Int)<b1))then
 (gd (inB (0:Int) (b0.length))
 (bif (eqi (bt b0 (0:Int)) (6:Int))then
 (gd (decide (0<=(1:Int))&&(decide ((1:Int)<=b1)&&decide (b1<=(b0.length:Int))))
 (some ((),(((cut2 b0 (1:Int) b1),((4:Int),b3.2.2)),()))))
 else
 (some ((),(b3,())))))
 else
 (some ((),(b3,()))))
 else
 (some ((),(b3,()))))
def zir(N:Nat)(a0:(List UInt8))(a1:Int):Option (G3):=
 gd (decide (0<=(0:Int))&&(decide ((0:Int)<=a1)&&decide (a1<=(a0.length:Int))))
 (gd (inB a1 (a0.length))
 (gd (decide (0<=(aa .i64 (a1+(1:Int))))&&(decide ((aa .i64 (a1+(1:Int)))<=(a0.length:Int))&&decide ((a0.length:Int)<=(a0.length:Int))))
 (let x1:=(cut2 a0 (aa .i64 (a1+(1:Int))) (a0.length:Int))
 let x2:=(eqi (aa .i64 ((bt a0 a1))) (2:Int))
 bif x2 then
 (bif (eqi (x1.length:Int) (2:Int))then
 (gd (inB (0:Int) (x1.length))
 (let x3:=(aa .i64 ((256:Int)*(aa .i64 ((bt x1 (0:Int))))))
 gd (inB (1:Int) (x1.length))
 (let x4:=(aa .i64 (x3+(aa .i64 ((bt x1 (1:Int))))))
 match z3v N a0 a1 x1 ((cut2 a0 (0:Int) a1),((aa .i64 ((bt a0 a1))),(x4,([]:List UInt8))))with
 | some r5=>(some r5.2.1)
 | none=>none)))
 else
 (match z3v N a0 a1 x1 ((cut2 a0 (0:Int) a1),((aa .i64 ((bt a0 a1))),((0:Int),([]:List UInt8))))with
 | some r6=>(some r6.2.1)
 | none=>none))
 else
 (match z3v N a0 a1 x1 ((cut2 a0 (0:Int) a1),((aa .i64 ((bt a0 a1))),((0:Int),([]:List UInt8))))with
 | some r7=>(some r7.2.1)
 | none=>none))))
def z2g(N:Nat)(rec:(List UInt8)->(List UInt8)->Int->(List (List UInt8))->Option (((Unit×(List UInt8))×((List (List UInt8))×Unit))))(b0 b1:(List UInt8))(b2:Int)(b3:(List (List UInt8))):Option (((Unit×(List UInt8))×((List (List UInt8))×Unit))):=
 bif (decide (b2<(b0.length:Int)))then
 (gd (inB b2 (b0.length))
 (bif (eqi (bt b0 b2) (47:Int))then
 (gd (fits (b3.length+1) 16)
 (let x1:=(b3++([b1]:List (List UInt8)))
 rec b0 ([]:List UInt8) (aa .i64 (b2+(1:Int))) x1))
 else
 (gd (decide (0<=b2)&&(decide (b2<=(aa .i64 (b2+(1:Int))))&&decide ((aa .i64 (b2+(1:Int)))<=(b0.length:Int))))
 (let x2:=(cut2 b0 b2 (aa .i64 (b2+(1:Int))))
 gd (decide (b1.length+x2.length<maxS))
 (let x3:=(b1++x2)
 rec b0 x3 (aa .i64 (b2+(1:Int))) b3)))))
 else
 (some (((),b1),(b3,())))
def z8d(N:Nat)(n:Nat):=
 itF (fun _ _ _ _=>none) (z2g N) n
theorem zf3(N:Nat)(n:Nat):z8d N (n+1)=z2g N (z8d N n):=rfl
def zis(N:Nat)(a0:(List UInt8)):Option (((List (List UInt8))×Bool)):=
 match z8d N N a0 ([]:List UInt8) (0:Int) ([]:List (List UInt8))with
 | some r4=>(some (r4.2.1,(eqs r4.1.2 ([]:List UInt8))))
 | none=>none
def z3l(N:Nat)(rec:(List UInt8)->Int->Option Ty3_)(b0:(List UInt8))(b1:Int):Option Ty3_:=
 bif (decide (b1<(b0.length:Int)))then
 (gd (inB b1 (b0.length))
 (bif (decide ((bt b0 b1)<(33:Int)))then
 (some (.inl (false,())))
 else
 (gd (inB b1 (b0.length))
 (bif (decide ((126:Int)<(bt b0 b1)))then
 (some (.inl (false,())))
 else
 (gd (inB b1 (b0.length))
 (bif (eqi (bt b0 b1) (47:Int))then
 (some (.inl (false,())))
 else
 (rec b0 (aa .i64 (b1+(1:Int))))))))))
 else
 (some (.inr ((),())))
def za3(N:Nat)(n:Nat):=
 itF (fun _ _=>none) (z3l N) n
theorem zgk(N:Nat)(n:Nat):za3 N (n+1)=z3l N (za3 N n):=rfl
def z8r(N:Nat)(a0:(List UInt8)):Option (Bool):=
 let x1:=(decide ((a0.length:Int)<(1:Int)))
 bif x1 then
 (some false)
 else
 (let x2:=(decide ((12:Int)<(a0.length:Int)))
 bif x2 then
 (some false)
 else
 (bif (eqs a0 ([46]:List UInt8))then
 (some false)
 else
 (bif (eqs a0 ([46,46]:List UInt8))then
 (some false)
 else
 (match za3 N N a0 (0:Int)with
 | some r3=>(match r3 with
 | .inl r4=>(some r4.1)
 | .inr r5=>(some true))
 | none=>none))))
def z2e(N:Nat)(rec:Bool->Int->(List (List UInt8))->Option ((Bool×Unit)⊕(Bool×Unit)))(b0:Bool)(b1:Int)(b2:(List (List UInt8))):Option ((Bool×Unit)⊕(Bool×Unit)):=
 bif (decide (b1<(b2.length:Int)))then
 (gd (inB b1 (b2.length))
 (match z8r N (rdL b2 b1 ([]:List UInt8))with
 | some r2=>(bif (!r2)then
 (some (.inl (false,())))
 else
 (rec b0 (aa .i64 (b1+(1:Int))) b2))
 | none=>none))
 else
 (some (.inr (b0,())))
def z8b(N:Nat)(n:Nat):=
 itF (fun _ _ _=>none) (z2e N) n
theorem zf1(N:Nat)(n:Nat):z8b N (n+1)=z2e N (z8b N n):=rfl
def z8l(N:Nat)(a0:(List UInt8)):Option (Bool):=
 match zis N a0 with
 | some r1=>(match z8b N N r1.2 (0:Int) r1.1 with
 | some r3=>(match r3 with
 | .inl r4=>(some r4.1)
 | .inr r5=>(some r5.1))
 | none=>none)
 | none=>none
def z3m(N:Nat)(rec:Int->(List UInt8)->Int->Option (((List UInt8)×Unit)))(b0:Int)(b1:(List UInt8))(b2:Int):Option (((List UInt8)×Unit)):=
 bif (decide (b2<(8:Int)))then
 (let x1:=(aa .i64 ((aH b0 (16:Int))+(1:Int)))
 gd (decide (0<=(aH b0 (16:Int)))&&(decide ((aH b0 (16:Int))<=x1)&&decide (x1<=(aq ([48,49,50,51,52,53,54,55,56,57,97,98,99,100,101,102]:List UInt8):Int))))
 (let x2:=(cut2 ([48,49,50,51,52,53,54,55,56,57,97,98,99,100,101,102]:List UInt8) (aH b0 (16:Int)) x1)
 gd (decide (x2.length+b1.length<maxS))
 (let x3:=(x2++b1)
 rec (aa .i64 (c9 b0 (16:Int))) x3 (aa .i64 (b2+(1:Int))))))
 else
 (some (b1,()))
def za4(N:Nat)(n:Nat):=
 itF (fun _ _ _=>none) (z3m N) n
theorem zgl(N:Nat)(n:Nat):za4 N (n+1)=z3m N (za4 N n):=rfl
def zlt(N:Nat)(a0:Int):Option ((List UInt8)):=
 bif (decide (a0<(0:Int)))then
 (some ([]:List UInt8))
 else
 (bif (decide ((2147483647:Int)<a0))then
 (some ([]:List UInt8))
 else
 (match za4 N N a0 ([]:List UInt8) (0:Int)with
 | some r4=>(gd (decide (aq ([5]:List UInt8)+r4.1.length<maxS))
 (let x5:=(([5]:List UInt8)++r4.1)
 gd (decide (x5.length+aq ([47]:List UInt8)<maxS))
 (let x6:=(x5++([47]:List UInt8))
 some x6)))
 | none=>none))
def z0x(N:Nat)(rec:(List UInt8)->Int->Int->Option ((((List UInt8)×Int)×Unit)))(b0:(List UInt8))(b1 b2:Int):Option ((((List UInt8)×Int)×Unit)):=
 bif (decide (b2<(9:Int)))then
 (gd (inB b2 (b0.length))
 (let x1:=(decide ((48:Int)<=(aa .i64 ((bt b0 b2)))))
 bif x1 then
 (let x2:=(decide ((aa .i64 ((bt b0 b2)))<=(57:Int)))
 bif x2 then
 (let x3:=(aa .i64 ((aa .i64 ((16:Int)*b1))+(aa .i64 ((bt b0 b2)))))
 rec b0 (aa .i64 (x3-(48:Int))) (aa .i64 (b2+(1:Int))))
 else
 (let x4:=(aa .i64 ((aa .i64 ((16:Int)*b1))+(aa .i64 ((bt b0 b2)))))
 let x5:=(aa .i64 ((aa .i64 (x4-(97:Int)))+(10:Int)))
 rec b0 x5 (aa .i64 (b2+(1:Int)))))
 else
 (let x6:=(aa .i64 ((aa .i64 ((16:Int)*b1))+(aa .i64 ((bt b0 b2)))))
 let x7:=(aa .i64 ((aa .i64 (x6-(97:Int)))+(10:Int)))
 rec b0 x7 (aa .i64 (b2+(1:Int))))))
 else
 (some ((b0,b1),()))
def z6v(N:Nat)(n:Nat):=
 itF (fun _ _ _=>none) (z0x N) n
theorem zd8(N:Nat)(n:Nat):z6v N (n+1)=z0x N (z6v N n):=rfl
def z97(N:Nat)(a0:(List UInt8)):Option (Bool):=
 bif (!(eqi (a0.length:Int) (10:Int)))then
 (some false)
 else
 (match z6v N N a0 (0:Int) (1:Int)with
 | some r8=>(match zlt N r8.1.2 with
 | some r9=>(some (eqs r9 r8.1.1))
 | none=>none)
 | none=>none)
def K2(N:Nat)(b0:Bool)(b1:G3):Option ((Bool×Unit)⊕(Unit×(G3×Unit))):=
 bif b0 then
 (some (.inl (false,())))
 else
 (some (.inr ((),(b1,()))))
def Q2(N:Nat)(b0:G3):Option ((Bool×Unit)):=
 bif (eqi b0.2.1 (1:Int))then
 (some (true,()))
 else
 (bif (eqi b0.2.1 (2:Int))then
 (bif (decide ((0:Int)<=b0.2.2.1))then
 (some ((decide (b0.2.2.1<=(60000:Int))),()))
 else
 (some (false,())))
 else
 (bif (eqi b0.2.1 (3:Int))then
 (match z8r N b0.2.2.2 with
 | some r6=>(some (r6,()))
 | none=>none)
 else
 (bif (eqi b0.2.1 (4:Int))then
 (match z8l N b0.1 with
 | some r7=>(some (r7,()))
 | none=>none)
 else
 (some (false,())))))
def ziq(N:Nat)(a0:G3):Option (Bool):=
 match z8l N a0.1 with
 | some r1=>(bif (!r1)then
 (match z97 N a0.1 with
 | some r2=>(bif (!r2)then
 (match K2 N true a0 with
 | some r3=>(match r3 with
 | .inl r4=>(some r4.1)
 | .inr r5=>(match Q2 N r5.2.1 with
 | some r8=>(some r8.1)
 | none=>none))
 | none=>none)
 else
 (bif (!(eqi a0.2.1 (2:Int)))then
 (bif (!(eqi a0.2.2.1 (0:Int)))then
 (match K2 N true a0 with
 | some r9=>(match r9 with
 | .inl r10=>(some r10.1)
 | .inr r11=>(match Q2 N r11.2.1 with
 | some r12=>(some r12.1)
 | none=>none))
 | none=>none)
 else
 (bif (!(eqi a0.2.1 (3:Int)))then
 (match K2 N (!(eqs a0.2.2.2 ([]:List UInt8))) a0 with
 | some r13=>(match r13 with
 | .inl r14=>(some r14.1)
 | .inr r15=>(match Q2 N r15.2.1 with
 | some r16=>(some r16.1)
 | none=>none))
 | none=>none)
 else
 (match K2 N false a0 with
 | some r17=>(match r17 with
 | .inl r18=>(some r18.1)
 | .inr r19=>(match Q2 N r19.2.1 with
 | some r20=>(some r20.1)
 | none=>none))
 | none=>none)))
 else
 (bif (!(eqi a0.2.1 (3:Int)))then
 (match K2 N (!(eqs a0.2.2.2 ([]:List UInt8))) a0 with
 | some r21=>(match r21 with
 | .inl r22=>(some r22.1)
 | .inr r23=>(match Q2 N r23.2.1 with
 | some r24=>(some r24.1)
 | none=>none))
 | none=>none)
 else
 (match K2 N false a0 with
 | some r25=>(match r25 with
 | .inl r26=>(some r26.1)
 | .inr r27=>(match Q2 N r27.2.1 with
 | some r28=>(some r28.1)
 | none=>none))
 | none=>none))))
 | none=>none)
 else
 (bif (!(eqi a0.2.1 (2:Int)))then
 (bif (!(eqi a0.2.2.1 (0:Int)))then
 (match K2 N true a0 with
 | some r29=>(match r29 with
 | .inl r30=>(some r30.1)
 | .inr r31=>(match Q2 N r31.2.1 with
 | some r32=>(some r32.1)
 | none=>none))
 | none=>none)
 else
 (bif (!(eqi a0.2.1 (3:Int)))then
 (match K2 N (!(eqs a0.2.2.2 ([]:List UInt8))) a0 with
 | some r33=>(match r33 with
 | .inl r34=>(some r34.1)
 | .inr r35=>(match Q2 N r35.2.1 with
 | some r36=>(some r36.1)
 | none=>none))
 | none=>none)
 else
 (match K2 N false a0 with
 | some r37=>(match r37 with
 | .inl r38=>(some r38.1)
 | .inr r39=>(match Q2 N r39.2.1 with
 | some r40=>(some r40.1)
 | none=>none))
 | none=>none)))
 else
 (bif (!(eqi a0.2.1 (3:Int)))then
 (match K2 N (!(eqs a0.2.2.2 ([]:List UInt8))) a0 with
 | some r41=>(match r41 with
 | .inl r42=>(some r42.1)
 | .inr r43=>(match Q2 N r43.2.1 with
 | some r44=>(some r44.1)
 | none=>none))
 | none=>none)
 else
 (match K2 N false a0 with
 | some r45=>(match r45 with
 | .inl r46=>(some r46.1)
 | .inr r47=>(match Q2 N r47.2.1 with
 | some r48=>(some r48.1)
 | none=>none))
 | none=>none))))
 | none=>none
def zow(N:Nat)(a0:G3):Option (((List UInt8)×Int)):=
 match ziq N a0 with
 | some r1=>(bif (!r1)then
 (some (([]:List UInt8),(12:Int)))
 else
 (bif (eqi a0.2.1 (1:Int))then
 (gd (decide (a0.1.length+aq ([1]:List UInt8)<maxS))
 (let x2:=(a0.1++([1]:List UInt8))
 some (x2,(0:Int))))
 else
 (bif (eqi a0.2.1 (2:Int))then
 (gd (decide (a0.1.length+aq ([2]:List UInt8)<maxS))
 (let x3:=(a0.1++([2]:List UInt8))
 let x4:=(aa .i64 (c9 a0.2.2.1 (256:Int)))
 let x5:=(aa .u8 ((aH a0.2.2.1 (256:Int))))
 let x6:=(zmn ([(aa .u8 (x4)),x5]:List Int))
 gd (decide (x3.length+x6.length<maxS))
 (let x7:=(x3++x6)
 some (x7,(0:Int)))))
 else
 (bif (eqi a0.2.1 (3:Int))then
 (gd (decide (a0.1.length+aq ([3]:List UInt8)<maxS))
 (let x8:=(a0.1++([3]:List UInt8))
 gd (decide (x8.length+a0.2.2.2.length<maxS))
 (let x9:=(x8++a0.2.2.2)
 some (x9,(0:Int)))))
 else
 (gd (decide (aq ([6]:List UInt8)+a0.1.length<maxS))
 (let x10:=(([6]:List UInt8)++a0.1)
 gd (decide (x10.length+aq ([1]:List UInt8)<maxS))
 (let x11:=(x10++([1]:List UInt8))
 some (x11,(0:Int)))))))))
 | none=>none
def z2f(N:Nat)(rec:(List UInt8)->Int->Option (((Unit×Int)×(G3×Unit))⊕(Unit×(Unit×Unit))))(b0:(List UInt8))(b1:Int):Option (((Unit×Int)×(G3×Unit))⊕(Unit×(Unit×Unit))):=
 bif (decide (b1<(b0.length:Int)))then
 (gd (inB b1 (b0.length))
 (bif (decide ((bt b0 b1)<(1:Int)))then
 (rec b0 (aa .i64 (b1+(1:Int))))
 else
 (gd (inB b1 (b0.length))
 (bif (decide ((3:Int)<(bt b0 b1)))then
 (rec b0 (aa .i64 (b1+(1:Int))))
 else
 (match zir N b0 b1 with
 | some r1=>(match zow N r1 with
 | some r2=>(bif (eqi r2.2 (0:Int))then
 (bif (eqs r2.1 b0)then
 (some (.inl (((),(0:Int)),(r1,()))))
 else
 (rec b0 (aa .i64 (b1+(1:Int)))))
 else
 (rec b0 (aa .i64 (b1+(1:Int)))))
 | none=>none)
 | none=>none)))))
 else
 (some (.inr ((),((),()))))
def z8c(N:Nat)(n:Nat):=
 itF (fun _ _=>none) (z2f N) n
theorem zf2(N:Nat)(n:Nat):z8c N (n+1)=z2f N (z8c N n):=rfl
def zdu(N:Nat)(a0:(List UInt8)):Option ((G3×Int)):=
 match z8c N N a0 (0:Int)with
 | some r3=>(match r3 with
 | .inl r4=>(some (r4.2.1,r4.1.2))
 | .inr r5=>(some ((([]:List UInt8),((0:Int),((0:Int),([]:List UInt8)))),(12:Int))))
 | none=>none
def zfo(N:Nat)(a0:Z3):Option (z9h):=
 match zdu N a0.1 with
 | some r1=>(bif (!(eqi r1.2 (0:Int)))then
 (some ((0:Int),(0:Int)))
 else
 (bif (eqi r1.1.2.1 (1:Int))then
 (some ((1:Int),(0:Int)))
 else
 (bif (eqi r1.1.2.1 (2:Int))then
 (some ((0:Int),(a0.2.1.length:Int)))
 else
 (bif (eqi r1.1.2.1 (3:Int))then
 (some ((0:Int),(a0.2.1.length:Int)))
 else
 (some ((0:Int),(0:Int)))))))
 | none=>none
def z2b(N:Nat)(rec:(List Z3)->Int->z9h->Option (((Unit×Unit)×(Unit×(z9h×Unit)))))(b0:(List Z3))(b1:Int)(b2:z9h):Option (((Unit×Unit)×(Unit×(z9h×Unit)))):=
 bif (decide (b1<(b0.length:Int)))then
 (gd (inB b1 (b0.length))
 (match zfo N (rdL b0 b1 X5)with
 | some r1=>(rec b0 (aa .i64 (b1+(1:Int))) ((aa .i64 (b2.1+r1.1)),(aa .i64 (b2.2+r1.2))))
 | none=>none))
 else
 (some (((),()),((),(b2,()))))
def z89(N:Nat)(n:Nat):=
 itF (fun _ _ _=>none) (z2b N) n
theorem zey(N:Nat)(n:Nat):z89 N (n+1)=z2b N (z89 N n):=rfl
def zin(N:Nat)(a0:(List Z3)):Option (z9h):=
 match z89 N N a0 (0:Int) ((0:Int),(0:Int))with
 | some r2=>(some r2.2.2.1)
 | none=>none
def znt(N:Nat)(a0:z9h):Option (Y6):=
 some ((a0.1,a0.1),(a0.2,a0.2))
def zru(N:Nat)(a0 a1:Y6):Option (Y6):=
 let x1:=(bif decide ((aa .i64 (a0.1.1+a1.1.1))<(1000000000000000:Int))then(aa .i64 (a0.1.1+a1.1.1))else(1000000000000000:Int))
 let x2:=(bif decide ((aa .i64 (a0.1.2+a1.1.2))<(1000000000000000:Int))then(aa .i64 (a0.1.2+a1.1.2))else(1000000000000000:Int))
 let x3:=(bif decide ((aa .i64 (a0.2.1+a1.2.1))<(1000000000000000:Int))then(aa .i64 (a0.2.1+a1.2.1))else(1000000000000000:Int))
 let x4:=(bif decide ((aa .i64 (a0.2.2+a1.2.2))<(1000000000000000:Int))then(aa .i64 (a0.2.2+a1.2.2))else(1000000000000000:Int))
 some ((x1,x2),(x3,x4))
def z9z(N:Nat)(a0:(List UInt8)):Option (Bool):=
 match zdu N a0 with
 | some r1=>(bif (eqi r1.2 (0:Int))then
 (some (eqi r1.1.2.1 (1:Int)))
 else
 (some false))
 | none=>none
def z4u(N:Nat)(a0:z4y)(a1:Int):Option (z4y):=
 let x1:=(bif decide ((aa .i64 (a0.2+a1))<(1000000000000000:Int))then(aa .i64 (a0.2+a1))else(1000000000000000:Int))
 some (a0.1,x1)
def zas(N:Nat)(a0:z4y)(a1:Int):Option (z4y):=
 let x1:=(bif decide ((0:Int)<(aa .i64 (a0.1-a1)))then(aa .i64 (a0.1-a1))else(0:Int))
 some (x1,a0.2)
def z3s(N:Nat)(b0 b1:(List UInt8))(b2 b3:Bool):Option ((Bool×Unit)):=
 bif b2 then
 (some (true,()))
 else
 (bif b3 then
 (some (true,()))
 else
 (match z97 N b0 with
 | some r5=>(bif r5 then
 (match z97 N b1 with
 | some r6=>(some (r6,()))
 | none=>none)
 else
 (some (false,())))
 | none=>none))
def z3t(N:Nat)(b0 b1:(List UInt8))(b2:Bool):Option ((Bool×Unit)):=
 bif (!(eqs b0 ([]:List UInt8)))then
 (bif (!(eqs b1 ([]:List UInt8)))then
 (match z8l N b0 with
 | some r3=>(bif r3 then
 (match z8l N b1 with
 | some r4=>(match z3s N b0 b1 b2 r4 with
 | some r7=>(some (r7.1,()))
 | none=>none)
 | none=>none)
 else
 (match z3s N b0 b1 b2 false with
 | some r8=>(some (r8.1,()))
 | none=>none))
 | none=>none)
 else
 (match z3s N b0 b1 b2 false with
 | some r9=>(some (r9.1,()))
 | none=>none))
 else
 (match z3s N b0 b1 b2 false with
 | some r10=>(some (r10.1,()))
 | none=>none)
def zdq(N:Nat)(a0 a1:(List UInt8)):Option (Bool):=
 let x1:=(decide ((0:Int)<(a0.length:Int)))
 bif x1 then
 (gd (inB (0:Int) (a0.length))
 (bif (eqi (bt a0 (0:Int)) (6:Int))then
 (let x2:=(decide ((0:Int)<(a1.length:Int)))
 bif x2 then
 (gd (inB (0:Int) (a1.length))
 (match z3t N a0 a1 (eqi (bt a1 (0:Int)) (6:Int))with
 | some r11=>(some r11.1)
 | none=>none))
 else
 (match z3t N a0 a1 false with
 | some r12=>(some r12.1)
 | none=>none))
 else
 (match z3t N a0 a1 false with
 | some r13=>(some r13.1)
 | none=>none)))
 else
 (match z3t N a0 a1 false with
 | some r14=>(some r14.1)
 | none=>none)
def z6c(N:Nat)(a0:Y6)(a1:Z1):Option (Y6):=
 bif (eqi a1.1 (1:Int))then
 (match z9z N a1.2.1 with
 | some r1=>(bif r1 then
 (match z4u N a0.1 (1:Int)with
 | some r2=>(some (r2,a0.2))
 | none=>none)
 else
 (match zas N a0.2 (64:Int)with
 | some r3=>(match z4u N r3 (a1.2.2.1.length:Int)with
 | some r4=>(some (a0.1,r4))
 | none=>none)
 | none=>none))
 | none=>none)
 else
 (bif (eqi a1.1 (2:Int))then
 (match z9z N a1.2.1 with
 | some r5=>(bif r5 then
 (match zas N a0.1 (1:Int)with
 | some r6=>(some (r6,a0.2))
 | none=>none)
 else
 (match zas N a0.2 (64:Int)with
 | some r7=>(some (a0.1,r7))
 | none=>none))
 | none=>none)
 else
 (bif (eqi a1.1 (6:Int))then
 (some a0)
 else
 (bif (eqi a1.1 (3:Int))then
 (some (((0:Int),a0.1.2),((0:Int),a0.2.2)))
 else
 (match zdq N a1.2.2.2.2.1 a1.2.2.2.2.2.1 with
 | some r8=>(bif (!r8)then
 (some (((0:Int),(1000000000000000:Int)),((0:Int),(1000000000000000:Int))))
 else
 (bif (eqi a1.1 (5:Int))then
 (match z4u N ((0:Int),a0.1.2) a0.1.2 with
 | some r9=>(match z4u N ((0:Int),a0.2.2) a0.2.2 with
 | some r10=>(some (r9,r10))
 | none=>none)
 | none=>none)
 else
 (some (((0:Int),a0.1.2),((0:Int),a0.2.2)))))
 | none=>none))))
def z4n(N:Nat)(rec:Int->Z6->Y6->Option (((Unit×Unit)×(Unit×(Y6×Unit)))))(b0:Int)(b1:Z6)(b2:Y6):Option (((Unit×Unit)×(Unit×(Y6×Unit)))):=
 let x6:=(decide (b0<(b1.2.2.2.2.length:Int)))
 bif x6 then
 (gd (inB b0 (b1.2.2.2.2.length))
 (match z6c N b2 (rdL b1.2.2.2.2 b0 U7)with
 | some r7=>(rec (aa .i64 (b0+(1:Int))) b1 r7)
 | none=>none))
 else
 (some (((),()),((),(b2,()))))
def zbp(N:Nat)(n:Nat):=
 itF (fun _ _ _=>none) (z4n N) n
theorem zi8(N:Nat)(n:Nat):zbp N (n+1)=z4n N (zbp N n):=rfl
def z4o(N:Nat)(rec:Int->Z6->Y6->Option (((Unit×(Unit×Unit))×(Z6×(Unit×(Y6×Unit))))))(b0:Int)(b1:Z6)(b2:Y6):Option (((Unit×(Unit×Unit))×(Z6×(Unit×(Y6×Unit))))):=
 let x3:=(decide (b0<(b1.2.2.2.1.length:Int)))
 bif x3 then
 (gd (inB b0 (b1.2.2.2.1.length))
 (match zru N b2 (rdL b1.2.2.2.1 b0 z5t)with
 | some r4=>(rec (aa .i64 (b0+(1:Int))) b1 r4)
 | none=>none))
 else
 (some (((),((),())),(b1,((),(b2,())))))
def zbq(N:Nat)(n:Nat):=
 itF (fun _ _ _=>none) (z4o N) n
theorem zi9(N:Nat)(n:Nat):zbq N (n+1)=z4o N (zbq N n):=rfl
def zk8(N:Nat)(a0:Z6):Option (Y6):=
 bif (eqi (a0.2.2.1.length:Int) (0:Int))then
 (match zin N a0.1 with
 | some r1=>(match znt N r1 with
 | some r2=>(some r2)
 | none=>none)
 | none=>none)
 else
 (match zbq N N (0:Int) a0 (((0:Int),(0:Int)),((0:Int),(0:Int)))with
 | some r5=>(match zbp N N (0:Int) r5.2.1 r5.2.2.2.1 with
 | some r8=>(some r8.2.2.1)
 | none=>none)
 | none=>none)
def z39(N:Nat)(rec:(List Z6)->Int->(List Y6)->Option yio)(b0:(List Z6))(b1:Int)(b2:(List Y6)):Option yio:=
 bif (decide (b1<(b0.length:Int)))then
 (gd (inB b1 (b0.length))
 ((zk8 N (rdL b0 b1 zhr)).bind fun r1=>
 gd (fits (b2.length+1) 32)
 (let x2:=(b2++([r1]:List Y6))
 rec b0 (aa .i64 (b1+(1:Int))) x2)))
 else
 (some ((),(b2,())))
def z9t(N:Nat)(n:Nat):=
 itF (fun _ _ _=>none) (z39 N) n
theorem zg8(N:Nat)(n:Nat):z9t N (n+1)=z39 N (z9t N n):=rfl
def zll(N:Nat)(a0:(List Z6)):Option ((List Y6)):=
 (z9t N N a0 (0:Int) ([]:List Y6)).bind fun r3=>
 some r3.2.1
def z8h(N:Nat)(a0:Z6)(a1:Int)(a2:zdx)(a3:(List Int)):Option (Z6):=
 gd (decide (0<=(0:Int))&&(decide ((0:Int)<=a1)&&decide (a1<=(a0.2.2.1.length:Int))))
 (gd (fits (0+aq (cut2 a0.2.2.1 (0:Int) a1)) 8)
 (let x1:=(([]:List Int)++(cut2 a0.2.2.1 (0:Int) a1))
 gd (fits (x1.length+a3.length) 8)
 (let x2:=(x1++a3)
 gd (decide (0<=(aa .i64 (a1+(1:Int))))&&(decide ((aa .i64 (a1+(1:Int)))<=(a0.2.2.1.length:Int))&&decide ((a0.2.2.1.length:Int)<=(a0.2.2.1.length:Int))))
 (let x3:=(cut2 a0.2.2.1 (aa .i64 (a1+(1:Int))) (a0.2.2.1.length:Int))
 gd (fits (x2.length+x3.length) 8)
 (let x4:=(x2++x3)
 gd (decide (0<=(0:Int))&&(decide ((0:Int)<=a1)&&decide (a1<=(a0.2.2.2.1.length:Int))))
 (gd (fits (0+aq (cut2 a0.2.2.2.1 (0:Int) a1)) 32)
 (let x5:=(([]:List Y6)++(cut2 a0.2.2.2.1 (0:Int) a1))
 (zll N a2.1).bind fun r6=>
 gd (fits (x5.length+r6.length) 32)
 (let x7:=(x5++r6)
 gd (decide (0<=(aa .i64 (a1+(1:Int))))&&(decide ((aa .i64 (a1+(1:Int)))<=(a0.2.2.2.1.length:Int))&&decide ((a0.2.2.2.1.length:Int)<=(a0.2.2.2.1.length:Int))))
 (let x8:=(cut2 a0.2.2.2.1 (aa .i64 (a1+(1:Int))) (a0.2.2.2.1.length:Int))
 gd (fits (x7.length+x8.length) 32)
 (let x9:=(x7++x8)
 gd (decide (0<=(0:Int))&&(decide ((0:Int)<=a1)&&decide (a1<=(a0.2.1.length:Int))))
 (gd (fits (0+aq (cut2 a0.2.1 (0:Int) a1)) 16)
 (let x10:=(([]:List (List UInt8))++(cut2 a0.2.1 (0:Int) a1))
 gd (fits (x10.length+a2.2.1.length) 16)
 (let x11:=(x10++a2.2.1)
 gd (decide (0<=a1)&&(decide (a1<=(a0.2.1.length:Int))&&decide ((a0.2.1.length:Int)<=(a0.2.1.length:Int))))
 (gd (fits (x11.length+aq (cut2 a0.2.1 a1 (a0.2.1.length:Int))) 16)
 (let x12:=(x11++(cut2 a0.2.1 a1 (a0.2.1.length:Int)))
 gd (fits (0+a2.2.2.length) 112)
 (let x13:=(([]:List Z1)++a2.2.2)
 gd (fits (x13.length+a0.2.2.2.2.length) 112)
 (let x14:=(x13++a0.2.2.2.2)
 some (([]:List Z3),(x12,(x4,(x9,x14)))))))))))))))))))))
def z7i(N:Nat)(rec:(List Z6)->Int->(List Y6)->Option yio)(b0:(List Z6))(b1:Int)(b2:(List Y6)):Option yio:=
 bif (decide (b1<(b0.length:Int)))then
 (gd (inB b1 (b0.length))
 ((zk8 N (rdL b0 b1 zhr)).bind fun r1=>
 gd (fits (b2.length+1) 32)
 (let x2:=(b2++([r1]:List Y6))
 rec b0 (aa .i64 (b1+(1:Int))) x2)))
 else
 (some ((),(b2,())))
def z6l(N:Nat)(n:Nat):=
 itF (fun _ _ _=>none) (z7i N) n
theorem y90(N:Nat)(n:Nat):z6l N (n+1)=z7i N (z6l N n):=rfl
def zfi(N:Nat)(a0:(List Z6)):Option ((List Y6)):=
 (z6l N N a0 (0:Int) ([]:List Y6)).bind fun r3=>
 some r3.2.1
def z8q(N:Nat)(a0:(List Z7))(a1:Int):Option (((List Z7)×Int)):=
 match z6p N a0 a1 with
 | some r1=>(bif (!r1)then
 (some (a0,(110:Int)))
 else
 (match z93 N a0 with
 | some r2=>(gd (inB a1 (r2.length))
 (let x3:=(aa .i64 ((((rdL r2 a1 X3).2).2).1+(1:Int)))
 gd (inB a1 (r2.length))
 (let x4:=(setL r2 a1 ((rdL r2 a1 X3).1,(((rdL r2 a1 X3).2).1,(x3,((((rdL r2 a1 X3).2).2).2)))))
 some (x4,(0:Int)))))
 | none=>none))
 | none=>none
def z4i(N:Nat)(rec:(List Int)->Int->(List Z7)->Option (((Unit×Unit)×((List Z7)×(Unit×Unit)))))(b0:(List Int))(b1:Int)(b2:(List Z7)):Option (((Unit×Unit)×((List Z7)×(Unit×Unit)))):=
 bif (decide (b1<(b0.length:Int)))then
 (gd (inB b1 (b0.length))
 ((z2k N b2 (rdL b0 b1 (0:Int))).bind fun r1=>
 rec b0 (aa .i64 (b1+(1:Int))) r1.1))
 else
 (some (((),()),(b2,((),()))))
def zbn(N:Nat)(n:Nat):=
 itF (fun _ _ _=>none) (z4i N) n
theorem zi3(N:Nat)(n:Nat):zbn N (n+1)=z4i N (zbn N n):=rfl
def zgx(N:Nat)(a0:(List Z7))(a1:(List Int)):Option ((List Z7)):=
 (zbn N N a1 (0:Int) a0).bind fun r2=>
 some r2.2.1
def z91(N:Nat)(b0:Int)(b1:Bool)(b2:Y5)(b3:(List Z6))(b4:(List (List UInt8)))(b5:(List Z1))(b6:(List Z7))(b7:(List Int))(b8:za9):Option (yec⊕((Unit×(Unit×(Unit×(Unit×Int))))×(Y5×(Unit×((List Z7)×((List Int)×Unit)))))):=
 bif b1 then
 ((zfi N b3).bind fun r8=>
 let x9:=([(([]:List Z3),(b4,(b8.2.1,(r8,b5))))]:List Z6)
 (zdh N b6 x9).bind fun r10=>
 bif (!(eqi r10.2.2 (0:Int)))then
 (some (.inl (((),r10.2.2),(b2,()))))
 else
 (gd (inB (0:Int) (r10.2.1.length))
 (let x11:=([(rdL r10.2.1 (0:Int) (0:Int))]:List Int)
 gd (fits (b7.length+x11.length) 8)
 (let x12:=(b7++x11)
 some (.inr (((),((),((),((),(rdL r10.2.1 (0:Int) (0:Int)))))),(b2,((),(r10.1,(x12,()))))))))))
 else
 (some (.inr (((),((),((),((),b0)))),(b2,((),(b6,(b7,())))))))
def z92(N:Nat)(b0:Int)(b1:Y5)(b2:(List Z7))(b3:(List Int)):Option (yec):=
 (z8q N b2 b0).bind fun r16=>
 (zgx N r16.1 b3).bind fun r17=>
 (zgx N r17 ([b1.2.1]:List Int)).bind fun r18=>
 some (((),(0:Int)),((r18,(b0,b1.2.2)),()))
def z4h(N:Nat)(rec:(List Int)->Int->Y5->(List Z6)->(List (List UInt8))->(List Z1)->(List Z7)->(List Int)->Option (yec))(b0:(List Int))(b1:Int)(b2:Y5)(b3:(List Z6))(b4:(List (List UInt8)))(b5:(List Z1))(b6:(List Z7))(b7:(List Int)):Option (yec):=
 (zdh N b6 b3).bind fun r1=>
 bif (!(eqi r1.2.2 (0:Int)))then
 (some (((),r1.2.2),(b2,())))
 else
 (gd (fits (b7.length+r1.2.1.length) 8)
 (let x2:=(b7++r1.2.1)
 gd (inB (0:Int) (r1.2.1.length))
 (bif (decide ((0:Int)<b1))then
 (gd (decide (0<=(0:Int))&&(decide ((0:Int)<=(aa .i64 (b1-(1:Int))))&&decide ((aa .i64 (b1-(1:Int)))<=(b0.length:Int))))
 (let x3:=(cut2 b0 (0:Int) (aa .i64 (b1-(1:Int))))
 (z8p N b2 x3).bind fun r4=>
 gd (inB (aa .i64 (b1-(1:Int))) (b0.length))
 (let x5:=(rdL b0 (aa .i64 (b1-(1:Int))) (0:Int))
 (z8h N r4.1 x5 (b3,(b4,b5)) r1.2.1).bind fun r6=>
 rec b0 (aa .i64 (b1-(1:Int))) b2 ([r6]:List Z6) ([]:List (List UInt8)) ([]:List Z1) r1.1 x2)))
 else
 (let x7:=(decide ((1:Int)<(b3.length:Int)))
 bif x7 then
 ((z91 N (rdL r1.2.1 (0:Int) (0:Int)) true b2 b3 b4 b5 r1.1 x2 r1).bind fun r13=>
 match r13 with
 | .inl r14=>(some (((),r14.1.2),(r14.2.1,())))
 | .inr r15=>((z92 N r15.1.2.2.2.2 r15.2.1 r15.2.2.2.1 r15.2.2.2.2.1).bind fun r19=>
 some (((),r19.1.2),(r19.2.1,()))))
 else
 (let x20:=(decide ((0:Int)<(b5.length:Int)))
 (z91 N (rdL r1.2.1 (0:Int) (0:Int)) x20 b2 b3 b4 b5 r1.1 x2 r1).bind fun r21=>
 match r21 with
 | .inl r22=>(some (((),r22.1.2),(r22.2.1,())))
 | .inr r23=>((z92 N r23.1.2.2.2.2 r23.2.1 r23.2.2.2.1 r23.2.2.2.2.1).bind fun r24=>
 some (((),r24.1.2),(r24.2.1,()))))))))
def zbm(N:Nat)(n:Nat):=
 itF (fun _ _ _ _ _ _ _ _=>none) (z4h N) n
theorem zi2(N:Nat)(n:Nat):zbm N (n+1)=z4h N (zbm N n):=rfl
def zb4(N:Nat)(a0:Y5)(a1:(List Int))(a2:zdx):Option ((Y5×Int)):=
 (zbm N N a1 (a1.length:Int) a0 a2.1 a2.2.1 a2.2.2 a0.1 ([]:List Int)).bind fun r25=>
 some (r25.2.1,r25.1.2)
def zkt(N:Nat)(b0:(List Int))(b1:Y5)(b2:zdx):Option (yec):=
 let x2:=(decide ((0:Int)<(b0.length:Int)))
 bif x2 then
 (let x3:=(aa .i64 ((b0.length:Int)-(1:Int)))
 gd (decide (0<=(0:Int))&&(decide ((0:Int)<=x3)&&decide (x3<=(b0.length:Int))))
 ((z8p N b1 (cut2 b0 (0:Int) x3)).bind fun r4=>
 bif (!(eqi r4.2.2 (0:Int)))then
 (some (((),r4.2.2),(b1,())))
 else
 (gd (inB x3 (b0.length))
 (bif (decide ((rdL b0 x3 (0:Int))<(0:Int)))then
 (some (((),(140:Int)),(b1,())))
 else
 (gd (inB x3 (b0.length))
 (let x5:=(decide ((r4.1.2.2.1.length:Int)<=(rdL b0 x3 (0:Int))))
 bif x5 then
 (some (((),(140:Int)),(b1,())))
 else
 ((zb4 N b1 b0 b2).bind fun r6=>
 some (((),r6.2),(r6.1,())))))))))
 else
 ((zb4 N b1 b0 b2).bind fun r7=>
 some (((),r7.2),(r7.1,())))
def zgy(N:Nat)(a0:Y5)(a1:(List Int))(a2:zdx):Option ((Y5×Int)):=
 bif (eqi (a2.1.length:Int) (0:Int))then
 (some (a0,(1:Int)))
 else
 (let x1:=(aa .i64 ((a2.1.length:Int)-(1:Int)))
 bif (!(eqi (a2.2.1.length:Int) x1))then
 (some (a0,(1:Int)))
 else
 ((zkt N a1 a0 a2).bind fun r8=>
 some (r8.2.1,r8.1.2)))
def z1p(N:Nat)(rec:Int->Int->Z6->(List Z1)->(List Z6)->(List (List UInt8))->(List Int)->Option yoq)(b0 b1:Int)(b2:Z6)(b3:(List Z1))(b4:(List Z6))(b5:(List (List UInt8)))(b6:(List Int)):Option yoq:=
 bif (decide (b1<(b6.length:Int)))then
 (gd (inB b1 (b6.length))
 (let x2:=(aa .i64 (b0+(rdL b6 b1 (0:Int))))
 gd (decide (0<=b0)&&(decide (b0<=x2)&&decide (x2<=(b2.2.2.1.length:Int))))
 (gd (decide (0<=b0)&&(decide (b0<=x2)&&decide (x2<=(b2.2.2.2.1.length:Int))))
 (gd (decide (0<=b0)&&(decide (b0<=(aa .i64 (x2-(1:Int))))&&decide ((aa .i64 (x2-(1:Int)))<=(b2.2.1.length:Int))))
 (let x3:=(cut2 b2.2.1 b0 (aa .i64 (x2-(1:Int))))
 let x4:=([(([]:List Z3),(x3,((cut2 b2.2.2.1 b0 x2),((cut2 b2.2.2.2.1 b0 x2),([]:List Z1)))))]:List Z6)
 gd (fits (b4.length+x4.length) 120)
 (let x5:=(b4++x4)
 bif (decide ((0:Int)<b1))then
 (gd (inB (aa .i64 (b0-(1:Int))) (b2.2.1.length))
 (let x6:=(rdL b2.2.1 (aa .i64 (b0-(1:Int))) ([]:List UInt8))
 gd (fits (b5.length+1) 16)
 (let x7:=(b5++([x6]:List (List UInt8)))
 rec x2 (aa .i64 (b1+(1:Int))) b2 b3 x5 x7 b6)))
 else
 (rec x2 (aa .i64 (b1+(1:Int))) b2 b3 x5 b5 b6)))))))
 else
 (some (((),()),((),(((),((),b3)),(b4,(b5,()))))))
def z7t(N:Nat)(n:Nat):=
 itF (fun _ _ _ _ _ _ _=>none) (z1p N) n
theorem zeg(N:Nat)(n:Nat):z7t N (n+1)=z1p N (z7t N n):=rfl
def zig(N:Nat)(a0:Z6)(a1:V7):Option (zjo):=
 (z4w N (a0.2.2.1.length:Int) a1.2.1).bind fun r1=>
 (z7t N N (0:Int) (0:Int) a0 a0.2.2.2.2 ([]:List Z6) ([]:List (List UInt8)) r1).bind fun r8=>
 some (r8.2.2.2.1,(r8.2.2.2.2.1,r8.2.2.1.2.2))
def znu(N:Nat)(a0:(List (List UInt8))):Option ((List Z0)):=
 (zds N (([]:List UInt8),([]:List UInt8)) a0).bind fun r1=>
 some r1
def zat(N:Nat)(a0:Z1):Option (Bool):=
 bif (eqi a0.1 (4:Int))then
 (some true)
 else
 (some (eqi a0.1 (5:Int)))
def z64(N:Nat)(a0:Z1):Option ((List Z0)):=
 bif (eqi a0.1 (4:Int))then
 (match U2 N a0.2.2.2.2.1 with
 | some r1=>(some ([r1]:List Z0))
 | none=>none)
 else
 (bif (eqi a0.1 (5:Int))then
 (match U2 N a0.2.2.2.2.1 with
 | some r2=>(some ([r2]:List Z0))
 | none=>none)
 else
 (bif (eqi a0.1 (6:Int))then
 (some ([a0.2.2.2.1]:List Z0))
 else
 (some ([]:List Z0))))
def K6(N:Nat)(a0:Z1):Option ((List Z0)):=
 bif (eqi a0.1 (1:Int))then
 (match z9f N a0.2.1 with
 | some r1=>(some ([r1]:List Z0))
 | none=>none)
 else
 (bif (eqi a0.1 (2:Int))then
 (match z9f N a0.2.1 with
 | some r2=>(some ([r2]:List Z0))
 | none=>none)
 else
 (bif (eqi a0.1 (4:Int))then
 (match U2 N a0.2.2.2.2.1 with
 | some r3=>(match U2 N a0.2.2.2.2.2.1 with
 | some r4=>(some ([r3,r4]:List Z0))
 | none=>none)
 | none=>none)
 else
 (bif (eqi a0.1 (5:Int))then
 (match U2 N a0.2.2.2.2.2.1 with
 | some r5=>(some ([r5]:List Z0))
 | none=>none)
 else
 (some ([a0.2.2.2.1]:List Z0)))))
def zbt(N:Nat)(a0 a1:Z0):Option (Bool):=
 match z07 N a1 with
 | some r1=>(bif r1 then
 (some true)
 else
 (match z07 N a0 with
 | some r2=>(bif (!r2)then
 (bif (lts a0.1 a1.1 || eqs a0.1 a1.1)then
 (match zd7 N a0.2 a1.2 with
 | some r3=>(some (!r3))
 | none=>none)
 else
 (some false))
 else
 (some false))
 | none=>none))
 | none=>none
def z3i(N:Nat)(rec:Int->Z0->(List Z0)->Option Ty3_)(b0:Int)(b1:Z0)(b2:(List Z0)):Option Ty3_:=
 bif (decide (b0<(b2.length:Int)))then
 (gd (inB b0 (b2.length))
 ((zbt N b1 (rdL b2 b0 Y7)).bind fun r5=>
 bif (!r5)then
 (some (.inl (false,())))
 else
 (rec (aa .i64 (b0+(1:Int))) b1 b2)))
 else
 (some (.inr ((),())))
def za1(N:Nat)(n:Nat):=
 itF (fun _ _ _=>none) (z3i N) n
theorem zgh(N:Nat)(n:Nat):za1 N (n+1)=z3i N (za1 N n):=rfl
def zlr(N:Nat)(a0:Z1)(a1:Z0):Option (Bool):=
 (z64 N a0).bind fun r1=>
 gd (fits (0+r1.length) 32)
 (let x2:=(([]:List Z0)++r1)
 (K6 N a0).bind fun r3=>
 gd (fits (x2.length+r3.length) 32)
 (let x4:=(x2++r3)
 (za1 N N (0:Int) a1 x4).bind fun r6=>
 match r6 with
 | .inl r7=>(some r7.1)
 | .inr r8=>(some true)))
def z26(N:Nat)(rec:(List Z0)->(List Z0)->Int->Int->Option ((Bool×Unit)⊕(((List Z0)×((List Z0)×Int))×Unit)))(b0:(List Z0))(b1:(List Z0))(b2 b3:Int):Option ((Bool×Unit)⊕(((List Z0)×((List Z0)×Int))×Unit)):=
 bif (decide (b3<(b1.length:Int)))then
 (gd (inB b2 (b0.length))
 (gd (inB b3 (b1.length))
 (match z2l N (rdL b0 b2 Y7) (rdL b1 b3 Y7)with
 | some r1=>(match z07 N r1 with
 | some r2=>(bif (!r2)then
 (some (.inl (true,())))
 else
 (rec b0 b1 b2 (aa .i64 (b3+(1:Int)))))
 | none=>none)
 | none=>none)))
 else
 (some (.inr ((b0,(b1,b2)),())))
def z85(N:Nat)(n:Nat):=
 itF (fun _ _ _ _=>none) (z26 N) n
theorem zeu(N:Nat)(n:Nat):z85 N (n+1)=z26 N (z85 N n):=rfl
def z27(N:Nat)(rec:(List Z0)->(List Z0)->Int->Option Ty3_)(b0:(List Z0))(b1:(List Z0))(b2:Int):Option Ty3_:=
 bif (decide (b2<(b0.length:Int)))then
 (match z85 N N b0 b1 b2 (0:Int)with
 | some r3=>(match r3 with
 | .inl r4=>(some (.inl (r4.1,())))
 | .inr r5=>(rec r5.1.1 r5.1.2.1 (aa .i64 (r5.1.2.2+(1:Int)))))
 | none=>none)
 else
 (some (.inr ((),())))
def z86(N:Nat)(n:Nat):=
 itF (fun _ _ _=>none) (z27 N) n
theorem zev(N:Nat)(n:Nat):z86 N (n+1)=z27 N (z86 N n):=rfl
def z8k(N:Nat)(a0:(List Z0))(a1:(List Z0)):Option (Bool):=
 match z86 N N a0 a1 (0:Int)with
 | some r6=>(match r6 with
 | .inl r7=>(some r7.1)
 | .inr r8=>(some false))
 | none=>none
def zhg(N:Nat)(a0:Z1)(a1:Z0):Option ((List Z1)):=
 (K6 N a0).bind fun r1=>
 (z8k N r1 ([a1]:List Z0)).bind fun r2=>
 bif (!r2)then
 (some ([]:List Z1))
 else
 (bif (eqi a0.1 (3:Int))then
 ((z2l N a0.2.2.2.1 a1).bind fun r3=>
 let x4:=([(a0.1,(a0.2.1,(a0.2.2.1,(r3,a0.2.2.2.2))))]:List Z1)
 some x4)
 else
 (bif (eqi a0.1 (6:Int))then
 ((z2l N a0.2.2.2.1 a1).bind fun r5=>
 let x6:=([(a0.1,(a0.2.1,(a0.2.2.1,(r5,a0.2.2.2.2))))]:List Z1)
 some x6)
 else
 (some ([a0]:List Z1))))
def z0v(N:Nat)(rec:(List Z0)->Bool->Int->Z0->(List Z0)->Option (((Unit×(Unit×Bool))×yip)))(b0:(List Z0))(b1:Bool)(b2:Int)(b3:Z0)(b4:(List Z0)):Option (((Unit×(Unit×Bool))×yip)):=
 bif (decide (b2<(b0.length:Int)))then
 (bif (!b1)then
 (gd (inB b2 (b0.length))
 (bif (lts b3.1 ((rdL b0 b2 Y7).1))then
 (gd (fits (b4.length+1) 32)
 (let x2:=(b4++([b3]:List Z0))
 gd (inB b2 (b0.length))
 (gd (fits (x2.length+1) 32)
 (let x3:=(x2++([(rdL b0 b2 Y7)]:List Z0))
 rec b0 true (aa .i64 (b2+(1:Int))) b3 x3))))
 else
 (gd (inB b2 (b0.length))
 (gd (fits (b4.length+1) 32)
 (let x4:=(b4++([(rdL b0 b2 Y7)]:List Z0))
 rec b0 b1 (aa .i64 (b2+(1:Int))) b3 x4)))))
 else
 (gd (inB b2 (b0.length))
 (gd (fits (b4.length+1) 32)
 (let x5:=(b4++([(rdL b0 b2 Y7)]:List Z0))
 rec b0 b1 (aa .i64 (b2+(1:Int))) b3 x5))))
 else
 (some (((),((),b1)),(b3,(b4,()))))
def z6u(N:Nat)(n:Nat):=
 itF (fun _ _ _ _ _=>none) (z0v N) n
theorem zd5(N:Nat)(n:Nat):z6u N (n+1)=z0v N (z6u N n):=rfl
def zfp(N:Nat)(a0:(List Z0))(a1:Z0):Option ((List Z0)):=
 match z07 N a1 with
 | some r1=>(match z6u N N a0 r1 (0:Int) a1 ([]:List Z0)with
 | some r6=>(bif (!r6.1.2.2)then
 (gd (fits (r6.2.2.1.length+1) 32)
 (let x7:=(r6.2.2.1++([r6.2.1]:List Z0))
 some x7))
 else
 (some r6.2.2.1))
 | none=>none)
 | none=>none
def z2w(N:Nat)(b0 b1:Int)(b2:Bool)(b3:(List Z0))(b4:(List Z0)):Option (((Unit×(Unit×Int))×yma)):=
 bif b2 then
 (gd (inB b0 (b3.length))
 (gd (fits (b4.length+1) 32)
 (let x4:=(b4++([(rdL b3 b0 Y7)]:List Z0))
 some (((),((),b0)),(b3,(x4,()))))))
 else
 (gd (inB b1 (b4.length))
 (gd (inB b0 (b3.length))
 (match zd7 N ((rdL b4 b1 Y7).2) ((rdL b3 b0 Y7).2)with
 | some r5=>(bif r5 then
 (gd (inB b0 (b3.length))
 (gd (inB b1 (b4.length))
 (let x6:=(setL b4 b1 ((rdL b4 b1 Y7).1,(rdL b3 b0 Y7).2))
 some (((),((),b0)),(b3,(x6,()))))))
 else
 (some (((),((),b0)),(b3,(b4,())))))
 | none=>none)))
def z3k(N:Nat)(rec:Int->(List Z0)->(List Z0)->Option y9e)(b0:Int)(b1:(List Z0))(b2:(List Z0)):Option y9e:=
 bif (decide (b0<(b1.length:Int)))then
 (let x3:=(aa .i64 ((b2.length:Int)-(1:Int)))
 bif (decide (x3<(0:Int)))then
 (match z2w N b0 x3 true b1 b2 with
 | some r7=>(rec (aa .i64 (r7.1.2.2+(1:Int))) r7.2.1 r7.2.2.1)
 | none=>none)
 else
 (gd (inB x3 (b2.length))
 (let x8:=(!(eqs ((rdL b2 x3 Y7).2) ([]:List UInt8)))
 bif x8 then
 (gd (inB x3 (b2.length))
 (gd (inB b0 (b1.length))
 (let x9:=(lts ((rdL b2 x3 Y7).2) ((rdL b1 b0 Y7).1))
 match z2w N b0 x3 x9 b1 b2 with
 | some r10=>(rec (aa .i64 (r10.1.2.2+(1:Int))) r10.2.1 r10.2.2.1)
 | none=>none)))
 else
 (match z2w N b0 x3 false b1 b2 with
 | some r11=>(rec (aa .i64 (r11.1.2.2+(1:Int))) r11.2.1 r11.2.2.1)
 | none=>none))))
 else
 (some ((),(b2,())))
def z77(N:Nat)(n:Nat):=
 itF (fun _ _ _=>none) (z3k N) n
theorem zgj(N:Nat)(n:Nat):z77 N (n+1)=z3k N (z77 N n):=rfl
def y0(N:Nat)(rec:(List Z0)->Int->(List Z0)->(List Z0)->Option (((Unit×Unit)×yma)))(b0:(List Z0))(b1:Int)(b2:(List Z0))(b3:(List Z0)):Option (((Unit×Unit)×yma)):=
 bif (decide (b1<(b0.length:Int)))then
 (gd (inB b1 (b0.length))
 (match zfp N b2 (rdL b0 b1 Y7)with
 | some r1=>(rec b0 (aa .i64 (b1+(1:Int))) r1 b3)
 | none=>none))
 else
 (some (((),()),(b2,(b3,()))))
def z78(N:Nat)(n:Nat):=
 itF (fun _ _ _ _=>none) (y0 N) n
theorem z5w(N:Nat)(n:Nat):z78 N (n+1)=y0 N (z78 N n):=rfl
def z0w(N:Nat)(a0:(List Z0)):Option ((List Z0)):=
 match z78 N N a0 (0:Int) ([]:List Z0) ([]:List Z0)with
 | some r2=>(match z77 N N (0:Int) r2.2.1 r2.2.2.1 with
 | some r12=>(some r12.2.1)
 | none=>none)
 | none=>none
def z2d(N:Nat)(rec:(List Z0)->Int->Int->(List Z0)->(List Z0)->Option ((((List Z0)×(Int×Unit))×((List Z0)×Unit))))(b0:(List Z0))(b1 b2:Int)(b3:(List Z0))(b4:(List Z0)):Option ((((List Z0)×(Int×Unit))×((List Z0)×Unit))):=
 bif (decide (b2<(b3.length:Int)))then
 (gd (inB b1 (b0.length))
 (let x3:=(!(eqs ((rdL b0 b1 Y7).1) ([]:List UInt8)))
 bif x3 then
 (gd (inB b2 (b3.length))
 (gd (inB b1 (b0.length))
 (match z2l N (rdL b3 b2 Y7) (([]:List UInt8),(rdL b0 b1 Y7).1)with
 | some r4=>(gd (fits (b4.length+1) 32)
 (let x5:=(b4++([r4]:List Z0))
 gd (inB b1 (b0.length))
 (let x6:=(!(eqs ((rdL b0 b1 Y7).2) ([]:List UInt8)))
 bif x6 then
 (gd (inB b2 (b3.length))
 (gd (inB b1 (b0.length))
 (match z2l N (rdL b3 b2 Y7) ((rdL b0 b1 Y7).2,([]:List UInt8))with
 | some r7=>(gd (fits (x5.length+1) 32)
 (let x8:=(x5++([r7]:List Z0))
 rec b0 b1 (aa .i64 (b2+(1:Int))) b3 x8))
 | none=>none)))
 else
 (rec b0 b1 (aa .i64 (b2+(1:Int))) b3 x5))))
 | none=>none)))
 else
 (gd (inB b1 (b0.length))
 (let x9:=(!(eqs ((rdL b0 b1 Y7).2) ([]:List UInt8)))
 bif x9 then
 (gd (inB b2 (b3.length))
 (gd (inB b1 (b0.length))
 (match z2l N (rdL b3 b2 Y7) ((rdL b0 b1 Y7).2,([]:List UInt8))with
 | some r10=>(gd (fits (b4.length+1) 32)
 (let x11:=(b4++([r10]:List Z0))
 rec b0 b1 (aa .i64 (b2+(1:Int))) b3 x11))
 | none=>none)))
 else
 (rec b0 b1 (aa .i64 (b2+(1:Int))) b3 b4)))))
 else
 (some ((b0,(b1,())),(b4,())))
def z5o(N:Nat)(n:Nat):=
 itF (fun _ _ _ _ _=>none) (z2d N) n
theorem zf0(N:Nat)(n:Nat):z5o N (n+1)=z2d N (z5o N n):=rfl
def Q7(N:Nat)(rec:(List Z0)->Int->(List Z0)->Option y9e)(b0:(List Z0))(b1:Int)(b2:(List Z0)):Option y9e:=
 bif (decide (b1<(b0.length:Int)))then
 (gd (inB b1 (b0.length))
 (match z07 N (rdL b0 b1 Y7)with
 | some r2=>(bif r2 then
 (rec b0 (aa .i64 (b1+(1:Int))) b2)
 else
 (match z5o N N b0 b1 (0:Int) b2 ([]:List Z0)with
 | some r12=>(match z0w N r12.2.1 with
 | some r13=>(rec r12.1.1 (aa .i64 (r12.1.2.1+(1:Int))) r13)
 | none=>none)
 | none=>none))
 | none=>none))
 else
 (some ((),(b2,())))
def z5p(N:Nat)(n:Nat):=
 itF (fun _ _ _=>none) (Q7 N) n
theorem v8(N:Nat)(n:Nat):z5p N (n+1)=Q7 N (z5p N n):=rfl
def Q6(N:Nat)(a0:(List Z0))(a1:(List Z0)):Option ((List Z0)):=
 match z0w N a0 with
 | some r1=>(match z5p N N a1 (0:Int) r1 with
 | some r14=>(some r14.2.1)
 | none=>none)
 | none=>none
def z0q(N:Nat)(rec:Int->(List Z1)->(List Z1)->(List Z0)->Z1->(List Z0)->Option yos)(b0:Int)(b1:(List Z1))(b2:(List Z1))(b3:(List Z0))(b4:Z1)(b5:(List Z0)):Option yos:=
 bif (decide (b0<(b5.length:Int)))then
 (gd (inB b0 (b5.length))
 (let x23:=([(b4.1,(b4.2.1,(b4.2.2.1,((rdL b5 b0 Y7),b4.2.2.2.2))))]:List Z1)
 gd (fits (b2.length+x23.length) 112)
 (let x24:=(b2++x23)
 rec (aa .i64 (b0+(1:Int))) b1 x24 b3 (b4.1,(b4.2.1,(b4.2.2.1,((rdL b5 b0 Y7),b4.2.2.2.2)))) b5)))
 else
 (some (((),()),(((),((),())),(b1,(b2,(b3,((),())))))))
def z48(N:Nat)(n:Nat):=
 itF (fun _ _ _ _ _ _=>none) (z0q N) n
theorem zd1(N:Nat)(n:Nat):z48 N (n+1)=z0q N (z48 N n):=rfl
def z2s(N:Nat)(a0:Z1)(a1:Z0)(a2:(List Z1))(a3:(List Z1))(a4:(List Z0)):Option (ymd):=
 (zat N a0).bind fun r1=>
 bif r1 then
 ((z64 N a0).bind fun r2=>
 gd (fits (0+r2.length) 32)
 (let x3:=(([]:List Z0)++r2)
 (K6 N a0).bind fun r4=>
 gd (fits (x3.length+r4.length) 32)
 (let x5:=(x3++r4)
 (zlr N a0 a1).bind fun r6=>
 bif r6 then
 ((z8k N x5 a4).bind fun r7=>
 bif (!r7)then
 (gd (fits (a2.length+1) 112)
 (let x8:=(a2++([a0]:List Z1))
 some (((),((),())),(x8,(a3,(a4,()))))))
 else
 (gd (fits (a3.length+1) 112)
 (let x9:=(a3++([a0]:List Z1))
 gd (fits (a4.length+x5.length) 32)
 (let x10:=(a4++x5)
 some (((),((),())),(a2,(x9,(x10,()))))))))
 else
 (gd (fits (a3.length+1) 112)
 (let x11:=(a3++([a0]:List Z1))
 gd (fits (a4.length+x5.length) 32)
 (let x12:=(a4++x5)
 some (((),((),())),(a2,(x11,(x12,()))))))))))
 else
 ((zhg N a0 a1).bind fun r13=>
 bif (eqi (r13.length:Int) (0:Int))then
 (gd (fits (a3.length+1) 112)
 (let x14:=(a3++([a0]:List Z1))
 some (((),((),())),(a2,(x14,(a4,()))))))
 else
 (gd (inB (0:Int) (r13.length))
 ((K6 N (rdL r13 (0:Int) U7)).bind fun r15=>
 (z8k N r15 a4).bind fun r16=>
 bif r16 then
 (gd (fits (a3.length+1) 112)
 (let x17:=(a3++([a0]:List Z1))
 gd (inB (0:Int) (r13.length))
 ((K6 N (rdL r13 (0:Int) U7)).bind fun r18=>
 gd (fits (a4.length+r18.length) 32)
 (let x19:=(a4++r18)
 some (((),((),())),(a2,(x17,(x19,()))))))))
 else
 (gd (inB (0:Int) (r13.length))
 (let x20:=([(rdL r13 (0:Int) U7)]:List Z1)
 gd (fits (a2.length+x20.length) 112)
 (let x21:=(a2++x20)
 bif (eqi a0.1 (3:Int))then
 ((Q6 N ([a0.2.2.2.1]:List Z0) ([a1]:List Z0)).bind fun r22=>
 (z48 N N (0:Int) x21 a3 a4 a0 r22).bind fun r25=>
 some (((),((),())),(r25.2.2.1,(r25.2.2.2.1,(r25.2.2.2.2.1,())))))
 else
 (bif (eqi a0.1 (6:Int))then
 ((Q6 N ([a0.2.2.2.1]:List Z0) ([a1]:List Z0)).bind fun r26=>
 (z48 N N (0:Int) x21 a3 a4 a0 r26).bind fun r27=>
 some (((),((),())),(r27.2.2.1,(r27.2.2.2.1,(r27.2.2.2.2.1,())))))
 else
 (some (((),((),())),(x21,(a3,(a4,()))))))))))))
def z21(N:Nat)(rec:(List Z1)->Int->(List Z1)->(List Z1)->(List Z0)->Z0->Option (((Unit×Unit)×(Unit×ymd))))(b0:(List Z1))(b1:Int)(b2:(List Z1))(b3:(List Z1))(b4:(List Z0))(b5:Z0):Option (((Unit×Unit)×(Unit×ymd))):=
 bif (decide (b1<(b0.length:Int)))then
 (gd (inB b1 (b0.length))
 ((z2s N (rdL b0 b1 U7) b5 b2 b3 b4).bind fun r2=>
 rec b0 (aa .i64 (b1+(1:Int))) r2.2.1 r2.2.2.1 r2.2.2.2.1 b5))
 else
 (some (((),()),((),(((),((),())),(b2,(b3,(b4,())))))))
def z81(N:Nat)(n:Nat):=
 itF (fun _ _ _ _ _ _=>none) (z21 N) n
theorem zer(N:Nat)(n:Nat):z81 N (n+1)=z21 N (z81 N n):=rfl
def z63(N:Nat)(a0:(List Z1))(a1:(List (List UInt8)))(a2:Int):Option (zj2):=
 (znu N a1).bind fun r1=>
 gd (inB a2 (r1.length))
 ((z81 N N a0 (0:Int) ([]:List Z1) ([]:List Z1) ([]:List Z0) (rdL r1 a2 Y7)).bind fun r3=>
 some (r3.2.2.2.1,(r3.2.2.2.2.1,r3.2.2.2.2.2.1)))
def z38(N:Nat)(rec:Int->Int->Int->Z6->Option (((Int×Int)×Unit)))(b0 b1 b2:Int)(b3:Z6):Option (((Int×Int)×Unit)):=
 bif (decide (b2<(b3.2.2.1.length:Int)))then
 ((z63 N b3.2.2.2.2 b3.2.1 b2).bind fun r1=>
 bif (decide (b1<(r1.1.length:Int)))then
 (rec b2 (r1.1.length:Int) (aa .i64 (b2+(1:Int))) b3)
 else
 (rec b0 b1 (aa .i64 (b2+(1:Int))) b3))
 else
 (some ((b0,b1),()))
def z74(N:Nat)(n:Nat):=
 itF (fun _ _ _ _=>none) (z38 N) n
theorem zg7(N:Nat)(n:Nat):z74 N (n+1)=z38 N (z74 N n):=rfl
def zli(N:Nat)(a0:Z6):Option ((Int×Int)):=
 (z74 N N (0:Int) (0:Int) (0:Int) a0).bind fun r2=>
 some (r2.1.1,r2.1.2)
def z9s(N:Nat)(a0:Z6)(a1:Int):Option (Z6):=
 let x1:=(bif decide ((aa .i64 (a1-(1:Int)))<(0:Int))then(0:Int)else(aa .i64 (a1-(1:Int))))
 gd (decide (0<=(0:Int))&&(decide ((0:Int)<=a1)&&decide (a1<=(a0.2.2.1.length:Int))))
 (gd (fits (0+aq (cut2 a0.2.2.1 (0:Int) a1)) 8)
 (let x2:=(([]:List Int)++(cut2 a0.2.2.1 (0:Int) a1))
 gd (decide (0<=(aa .i64 (a1+(1:Int))))&&(decide ((aa .i64 (a1+(1:Int)))<=(a0.2.2.1.length:Int))&&decide ((a0.2.2.1.length:Int)<=(a0.2.2.1.length:Int))))
 (let x3:=(cut2 a0.2.2.1 (aa .i64 (a1+(1:Int))) (a0.2.2.1.length:Int))
 gd (fits (x2.length+x3.length) 8)
 (let x4:=(x2++x3)
 gd (decide (0<=(0:Int))&&(decide ((0:Int)<=a1)&&decide (a1<=(a0.2.2.2.1.length:Int))))
 (gd (fits (0+aq (cut2 a0.2.2.2.1 (0:Int) a1)) 32)
 (let x5:=(([]:List Y6)++(cut2 a0.2.2.2.1 (0:Int) a1))
 gd (decide (0<=(aa .i64 (a1+(1:Int))))&&(decide ((aa .i64 (a1+(1:Int)))<=(a0.2.2.2.1.length:Int))&&decide ((a0.2.2.2.1.length:Int)<=(a0.2.2.2.1.length:Int))))
 (let x6:=(cut2 a0.2.2.2.1 (aa .i64 (a1+(1:Int))) (a0.2.2.2.1.length:Int))
 gd (fits (x5.length+x6.length) 32)
 (let x7:=(x5++x6)
 gd (decide (0<=(0:Int))&&(decide ((0:Int)<=x1)&&decide (x1<=(a0.2.1.length:Int))))
 (gd (fits (0+aq (cut2 a0.2.1 (0:Int) x1)) 16)
 (let x8:=(([]:List (List UInt8))++(cut2 a0.2.1 (0:Int) x1))
 gd (decide (0<=(aa .i64 (x1+(1:Int))))&&(decide ((aa .i64 (x1+(1:Int)))<=(a0.2.1.length:Int))&&decide ((a0.2.1.length:Int)<=(a0.2.1.length:Int))))
 (let x9:=(cut2 a0.2.1 (aa .i64 (x1+(1:Int))) (a0.2.1.length:Int))
 gd (fits (x8.length+x9.length) 16)
 (let x10:=(x8++x9)
 some (([]:List Z3),(x10,(x4,(x7,a0.2.2.2.2))))))))))))))))
def zal(N:Nat)(a0 a1:Y5)(a2 a3:Int):Option (z70):=
 bif (!(eqi a2 (0:Int)))then
 (some (a0,((0:Int),a2)))
 else
 (some (a1,(a3,(0:Int))))
def z4p(N:Nat)(rec:(List Z3)->(List Z1)->Int->Option (((List Z3)×Unit)))(b0:(List Z3))(b1:(List Z1))(b2:Int):Option (((List Z3)×Unit)):=
 bif (decide (b2<(b1.length:Int)))then
 (gd (inB b2 (b1.length))
 (match z30 N b0 (rdL b1 b2 U7)with
 | some r1=>(rec r1 b1 (aa .i64 (b2+(1:Int))))
 | none=>none))
 else
 (some (b0,()))
def zbs(N:Nat)(n:Nat):=
 itF (fun _ _ _=>none) (z4p N) n
theorem zia(N:Nat)(n:Nat):zbs N (n+1)=z4p N (zbs N n):=rfl
def zka(N:Nat)(a0:(List Z3))(a1:(List Z1)):Option ((List Z3)):=
 match zbs N N a0 a1 (0:Int)with
 | some r2=>(some r2.1)
 | none=>none
def z14(N:Nat)(b0:(List Int))(b1:Int)(b2:Y5)(b3:Z6)(b4:zj2)(b5:(List Z6))(b6:(List (List UInt8)))(b7:(List Z1)):Option ((Unit×(z70×Unit))):=
 (zdh N b2.1 b5).bind fun r14=>
 bif (!(eqi r14.2.2 (0:Int)))then
 (some ((),((b2,((0:Int),r14.2.2)),())))
 else
 ((z8h N b3 b1 (b5,(b6,b7)) r14.2.1).bind fun r15=>
 (zb4 N (r14.1,b2.2) b0 (([r15]:List Z6),(([]:List (List UInt8)),([]:List Z1)))).bind fun r16=>
 (zgx N r16.1.1 r14.2.1).bind fun r17=>
 (zal N b2 (r17,r16.1.2) r16.2 (b4.1.length:Int)).bind fun r18=>
 some ((),(r18,())))
def zgr(N:Nat)(b0:(List Int))(b1:Int)(b2:Y5)(b3:Z6):Option ((Unit×(z70×Unit))):=
 gd (inB b1 (b3.2.2.1.length))
 ((z9e N b2.1 (rdL b3.2.2.1 b1 (0:Int))).bind fun r3=>
 bif (!(eqi r3.2 (0:Int)))then
 (some ((),((b2,((0:Int),r3.2)),())))
 else
 ((z63 N b3.2.2.2.2 b3.2.1 b1).bind fun r4=>
 bif (eqi (r4.1.length:Int) (0:Int))then
 (some ((),((b2,((0:Int),(0:Int))),())))
 else
 (let x5:=(decide ((0:Int)<(r3.1.2.2.1.length:Int)))
 bif x5 then
 (gd (fits (0+r3.1.2.2.2.2.length) 112)
 (let x6:=(([]:List Z1)++r3.1.2.2.2.2)
 gd (fits (x6.length+r4.1.length) 112)
 (let x7:=(x6++r4.1)
 let x8:=([(r3.1.1,(r3.1.2.1,(r3.1.2.2.1,(r3.1.2.2.2.1,x7))))]:List Z6)
 let x9:=(aa .i64 ((r3.1.2.2.1.length:Int)+(r3.1.1.length:Int)))
 bif (eqi x9 (0:Int))then
 (let x10:=(decide ((1:Int)<(b3.2.2.1.length:Int)))
 bif x10 then
 ((z9s N (b3.1,(b3.2.1,(b3.2.2.1,(b3.2.2.2.1,r4.2.1)))) b1).bind fun r11=>
 (zb4 N b2 b0 (([r11]:List Z6),(([]:List (List UInt8)),([]:List Z1)))).bind fun r12=>
 (zal N b2 r12.1 r12.2 (r4.1.length:Int)).bind fun r13=>
 some ((),(r13,())))
 else
 ((z14 N b0 b1 b2 (b3.1,(b3.2.1,(b3.2.2.1,(b3.2.2.2.1,r4.2.1)))) r4 x8 ([]:List (List UInt8)) ([]:List Z1)).bind fun r19=>
 some ((),(r19.2.1,()))))
 else
 ((z14 N b0 b1 b2 (b3.1,(b3.2.1,(b3.2.2.1,(b3.2.2.2.1,r4.2.1)))) r4 x8 ([]:List (List UInt8)) ([]:List Z1)).bind fun r20=>
 some ((),(r20.2.1,()))))))
 else
 ((zka N r3.1.1 r4.1).bind fun r21=>
 (zcs N (r21,r3.1.2) b2.2.2).bind fun r22=>
 let x23:=(aa .i64 ((r3.1.2.2.1.length:Int)+(r21.length:Int)))
 bif (eqi x23 (0:Int))then
 (let x24:=(decide ((1:Int)<(b3.2.2.1.length:Int)))
 bif x24 then
 ((z9s N (b3.1,(b3.2.1,(b3.2.2.1,(b3.2.2.2.1,r4.2.1)))) b1).bind fun r25=>
 (zb4 N b2 b0 (([r25]:List Z6),(([]:List (List UInt8)),([]:List Z1)))).bind fun r26=>
 (zal N b2 r26.1 r26.2 (r4.1.length:Int)).bind fun r27=>
 some ((),(r27,())))
 else
 ((z14 N b0 b1 b2 (b3.1,(b3.2.1,(b3.2.2.1,(b3.2.2.2.1,r4.2.1)))) r4 r22.1 r22.2.1 ([]:List Z1)).bind fun r28=>
 some ((),(r28.2.1,()))))
 else
 ((z14 N b0 b1 b2 (b3.1,(b3.2.1,(b3.2.2.1,(b3.2.2.2.1,r4.2.1)))) r4 r22.1 r22.2.1 ([]:List Z1)).bind fun r29=>
 some ((),(r29.2.1,())))))))
def zif(N:Nat)(a0:Y5)(a1:(List Int))(a2:Int):Option (z70):=
 (z8p N a0 a1).bind fun r1=>
 bif (!(eqi r1.2.2 (0:Int)))then
 (some (a0,((0:Int),r1.2.2)))
 else
 (bif (decide (a2<(0:Int)))then
 (some (a0,((0:Int),(140:Int))))
 else
 (let x2:=(decide ((r1.1.2.2.1.length:Int)<=a2))
 bif x2 then
 (some (a0,((0:Int),(140:Int))))
 else
 ((zgr N a1 a2 a0 r1.1).bind fun r30=>
 some r30.2.1)))
def zov(N:Nat)(a0:Z0)(a1:(List UInt8)):Option (Bool):=
 bif (!(lts a1 a0.1))then
 (bif (eqs a0.2 ([]:List UInt8))then
 (some true)
 else
 (some (lts a1 a0.2)))
 else
 (some false)
def z0l(N:Nat)(rec:(List Z3)->(List Z0)->Int->Bool->Int->(List Z3)->Option yon)(b0:(List Z3))(b1:(List Z0))(b2:Int)(b3:Bool)(b4:Int)(b5:(List Z3)):Option yon:=
 bif (decide (b4<(b1.length:Int)))then
 (bif b3 then
 (rec b0 b1 b2 true (aa .i64 (b4+(1:Int))) b5)
 else
 (gd (inB b4 (b1.length))
 (gd (inB b2 (b0.length))
 ((zov N (rdL b1 b4 Y7) ((rdL b0 b2 X5).1)).bind fun r1=>
 rec b0 b1 b2 r1 (aa .i64 (b4+(1:Int))) b5))))
 else
 (some ((b0,(b1,((),(b2,b3)))),(b5,())))
def z6n(N:Nat)(n:Nat):=
 itF (fun _ _ _ _ _ _=>none) (z0l N) n
theorem zct(N:Nat)(n:Nat):z6n N (n+1)=z0l N (z6n N n):=rfl
def z0m(N:Nat)(rec:(List Z3)->(List Z0)->Int->(List Z3)->Option (Ty7_))(b0:(List Z3))(b1:(List Z0))(b2:Int)(b3:(List Z3)):Option (Ty7_):=
 bif (decide (b2<(b0.length:Int)))then
 ((z6n N N b0 b1 b2 false (0:Int) b3).bind fun r2=>
 bif r2.1.2.2.2.2 then
 (gd (inB r2.1.2.2.2.1 (r2.1.1.length))
 (let x3:=([(rdL r2.1.1 r2.1.2.2.2.1 X5)]:List Z3)
 gd (fits (r2.2.1.length+x3.length) 40)
 (let x4:=(r2.2.1++x3)
 let x5:=(aa .i64 (r2.1.2.2.2.1+(1:Int)))
 rec r2.1.1 r2.1.2.1 x5 x4)))
 else
 (let x6:=(aa .i64 (r2.1.2.2.2.1+(1:Int)))
 rec r2.1.1 r2.1.2.1 x6 r2.2.1))
 else
 (some ((),(b3,())))
def z6o(N:Nat)(n:Nat):=
 itF (fun _ _ _ _=>none) (z0m N) n
theorem zcu(N:Nat)(n:Nat):z6o N (n+1)=z0m N (z6o N n):=rfl
def zbo(N:Nat)(a0:(List Z3))(a1:(List Z0)):Option ((List Z3)):=
 (z6o N N a0 a1 (0:Int) ([]:List Z3)).bind fun r7=>
 some r7.2.1
def zij(N:Nat)(a0:Z0)(a1 a2:(List UInt8)):Option (Z0):=
 (U2 N a2).bind fun r1=>
 gd (decide (0<=(a1.length:Int))&&(decide ((a1.length:Int)<=(a0.1.length:Int))&&decide ((a0.1.length:Int)<=(a0.1.length:Int))))
 (let x2:=(cut2 a0.1 (a1.length:Int) (a0.1.length:Int))
 gd (decide (a2.length+x2.length<maxS))
 (let x3:=(a2++x2)
 (j0 N a0.2 a1).bind fun r4=>
 bif r4 then
 (bif (!(eqs a0.2 ([]:List UInt8)))then
 (gd (decide (0<=(a1.length:Int))&&(decide ((a1.length:Int)<=(a0.2.length:Int))&&decide ((a0.2.length:Int)<=(a0.2.length:Int))))
 (let x5:=(cut2 a0.2 (a1.length:Int) (a0.2.length:Int))
 gd (decide (a2.length+x5.length<maxS))
 (let x6:=(a2++x5)
 some (x3,x6))))
 else
 (some (x3,r1.2)))
 else
 (some (x3,r1.2))))
def z05(N:Nat)(rec:(List Z0)->Int->Z1->Z0->(List Z0)->Option y9e)(b0:(List Z0))(b1:Int)(b2:Z1)(b3:Z0)(b4:(List Z0)):Option y9e:=
 bif (decide (b1<(b0.length:Int)))then
 (gd (inB b1 (b0.length))
 ((z2l N (rdL b0 b1 Y7) b3).bind fun r10=>
 (z07 N r10).bind fun r11=>
 bif (!r11)then
 ((zij N r10 b2.2.2.2.2.2.1 b2.2.2.2.2.1).bind fun r12=>
 gd (fits (b4.length+1) 32)
 (let x13:=(b4++([r12]:List Z0))
 rec b0 (aa .i64 (b1+(1:Int))) b2 b3 x13))
 else
 (rec b0 (aa .i64 (b1+(1:Int))) b2 b3 b4)))
 else
 (some ((),(b4,())))
def z0c(N:Nat)(n:Nat):=
 itF (fun _ _ _ _ _=>none) (z05 N) n
theorem zc0(N:Nat)(n:Nat):z0c N (n+1)=z05 N (z0c N n):=rfl
def z2v(N:Nat)(a0:(List Z0))(a1:Z1):Option ((List Z0)):=
 bif (eqi a1.1 (1:Int))then
 ((z9f N a1.2.1).bind fun r1=>
 (Q6 N a0 ([r1]:List Z0)).bind fun r2=>
 some r2)
 else
 (bif (eqi a1.1 (2:Int))then
 ((z9f N a1.2.1).bind fun r3=>
 (Q6 N a0 ([r3]:List Z0)).bind fun r4=>
 some r4)
 else
 (bif (eqi a1.1 (3:Int))then
 ((Q6 N a0 ([a1.2.2.2.1]:List Z0)).bind fun r5=>
 some r5)
 else
 (bif (eqi a1.1 (6:Int))then
 (some a0)
 else
 ((U2 N a1.2.2.2.2.2.1).bind fun r6=>
 bif (eqi a1.1 (4:Int))then
 ((U2 N a1.2.2.2.2.1).bind fun r7=>
 gd (fits (1+1) 32)
 (let x8:=(([r6]:List Z0)++([r7]:List Z0))
 (Q6 N a0 x8).bind fun r9=>
 (z0c N N a0 (0:Int) a1 r6 r9).bind fun r14=>
 (z0w N r14.2.1).bind fun r15=>
 some r15))
 else
 ((Q6 N a0 ([r6]:List Z0)).bind fun r16=>
 (z0c N N a0 (0:Int) a1 r6 r16).bind fun r17=>
 (z0w N r17.2.1).bind fun r18=>
 some r18)))))
def z24(N:Nat)(rec:(List Z1)->(List Z0)->Int->Option (((List Z0)×Unit)))(b0:(List Z1))(b1:(List Z0))(b2:Int):Option (((List Z0)×Unit)):=
 bif (decide ((0:Int)<=b2))then
 (gd (inB b2 (b0.length))
 ((z2v N b1 (rdL b0 b2 U7)).bind fun r3=>
 rec b0 r3 (aa .i64 (b2-(1:Int)))))
 else
 (some (b1,()))
def z82(N:Nat)(n:Nat):=
 itF (fun _ _ _=>none) (z24 N) n
theorem zes(N:Nat)(n:Nat):z82 N (n+1)=z24 N (z82 N n):=rfl
def zii(N:Nat)(a0:Z0)(a1:(List Z1)):Option ((List Z0)):=
 (z0w N ([a0]:List Z0)).bind fun r1=>
 let x2:=(aa .i64 ((a1.length:Int)-(1:Int)))
 (z82 N N a1 r1 x2).bind fun r4=>
 some r4.1
def z3c(N:Nat)(self:(List Z7)->Int->Z0->(List Z0)->Option (((List Z3)×Int)))(rec:(List Z0)->(List Z0)->(List Z0)->Int->(List Z7)->Z6->(List Z3)->Option yor)(b0:(List Z0))(b1:(List Z0))(b2:(List Z0))(b3:Int)(b4:(List Z7))(b5:Z6)(b6:(List Z3)):Option yor:=
 bif (decide (b3<(b5.2.2.1.length:Int)))then
 (gd (decide (0<=b3)&&(decide (b3<=(aa .i64 (b3+(1:Int))))&&decide ((aa .i64 (b3+(1:Int)))<=(b2.length:Int))))
 (let x8:=(cut2 b2 b3 (aa .i64 (b3+(1:Int))))
 (z8k N b1 x8).bind fun r9=>
 bif (!r9)then
 (rec b0 b1 b2 (aa .i64 (b3+(1:Int))) b4 b5 b6)
 else
 (gd (inB b3 (b5.2.2.1.length))
 (gd (inB b3 (b2.length))
 ((self b4 (rdL b5.2.2.1 b3 (0:Int)) (rdL b2 b3 Y7) b1).bind fun r10=>
 bif (!(eqi r10.2 (0:Int)))then
 (some (.inl ((([]:List Z3),r10.2),())))
 else
 (gd (fits (b6.length+r10.1.length) 40)
 (let x11:=(b6++r10.1)
 rec b0 b1 b2 (aa .i64 (b3+(1:Int))) b4 b5 x11)))))))
 else
 (some (.inr ((b0,((),())),(b5,(b6,())))))
def z75(N:Nat)(self:(List Z7)->Int->Z0->(List Z0)->Option (((List Z3)×Int)))(n:Nat):=
 itF (fun _ _ _ _ _ _ _=>none) (z3c N self) n
theorem zgb(N:Nat)(self:(List Z7)->Int->Z0->(List Z0)->Option (((List Z3)×Int)))(n:Nat):z75 N self (n+1)=z3c N self (z75 N self n):=rfl
def z3d(N:Nat)(self:(List Z7)->Int->Z0->(List Z0)->Option (((List Z3)×Int)))(rec:(List Z0)->Int->(List Z7)->Z0->Z6->(List Z0)->Option yop)(b0:(List Z0))(b1:Int)(b2:(List Z7))(b3:Z0)(b4:Z6)(b5:(List Z0)):Option yop:=
 bif (decide (b1<(b0.length:Int)))then
 (gd (inB b1 (b0.length))
 ((zii N (rdL b0 b1 Y7) b4.2.2.2.2).bind fun r4=>
 gd (fits (b5.length+r4.length) 32)
 (let x5:=(b5++r4)
 rec b0 (aa .i64 (b1+(1:Int))) b2 b3 b4 x5)))
 else
 (some ((b0,((),((),((),())))),(b2,(b3,(b4,(b5,()))))))
def z9w(N:Nat)(self:(List Z7)->Int->Z0->(List Z0)->Option (((List Z3)×Int)))(n:Nat):=
 itF (fun _ _ _ _ _ _=>none) (z3d N self) n
theorem zgc(N:Nat)(self:(List Z7)->Int->Z0->(List Z0)->Option (((List Z3)×Int)))(n:Nat):z9w N self (n+1)=z3d N self (z9w N self n):=rfl
def z47(N:Nat)(self:(List Z7)->Int->Z0->(List Z0)->Option (((List Z3)×Int)))(a0:(List Z7))(a1:Int)(a2:Z0)(a3:(List Z0)):Option (((List Z3)×Int)):=
 (z9e N a0 a1).bind fun r1=>
 bif (!(eqi r1.2 (0:Int)))then
 (some (([]:List Z3),r1.2))
 else
 (let x2:=(eqi (r1.1.2.2.1.length:Int) (0:Int))
 bif x2 then
 ((zbo N r1.1.1 a3).bind fun r3=>
 some (r3,(0:Int)))
 else
 ((z9w N self N a3 (0:Int) a0 a2 r1.1 ([]:List Z0)).bind fun r6=>
 (z8i N r6.2.2.2.1 r6.2.2.1).bind fun r7=>
 (z75 N self N r6.1.1 r6.2.2.2.2.1 r7 (0:Int) r6.2.1 r6.2.2.2.1 ([]:List Z3)).bind fun r12=>
 match r12 with
 | .inl r13=>(some (r13.1.1,r13.1.2))
 | .inr r14=>((zka N r14.2.2.1 r14.2.1.2.2.2.2).bind fun r15=>
 (zbo N r15 r14.1.1).bind fun r16=>
 some (r16,(0:Int)))))
def g8(N n:Nat):(List Z7)->Int->Z0->(List Z0)->Option (((List Z3)×Int)):=
 itF (fun _ _ _ _=>none) (z47 N) n
theorem zcv(N n:Nat):g8 N (n+1)=z47 N (g8 N n):=rfl
def y1z(N:Nat):(List Z7)->Int->Z0->(List Z0)->Option (((List Z3)×Int)):=
 g8 N N
def zlm(N:Nat)(a0:Y5)(a1:Z0):Option (((List Z3)×Int)):=
 (y1z N a0.1 a0.2.1 (([]:List UInt8),([]:List UInt8)) ([a1]:List Z0)).bind fun r1=>
 some (r1.1,r1.2)
def z62(N:Nat)(a0:Z1):Option (Bool):=
 bif (eqi a0.1 (4:Int))then
 (some true)
 else
 (some (eqi a0.1 (5:Int)))
def z3h(N:Nat)(rec:(List Z3)->Int->Z1->(List Z1)->Option (((Unit×Unit)×(Z1×((List Z1)×Unit)))))(b0:(List Z3))(b1:Int)(b2:Z1)(b3:(List Z1)):Option (((Unit×Unit)×(Z1×((List Z1)×Unit)))):=
 bif (decide (b1<(b0.length:Int)))then
 (gd (inB b1 (b0.length))
 (gd (decide (0<=(b2.2.2.2.2.1.length:Int))&&(decide ((b2.2.2.2.2.1.length:Int)<=(aq ((rdL b0 b1 X5).1):Int))&&decide ((aq ((rdL b0 b1 X5).1):Int)<=(aq ((rdL b0 b1 X5).1):Int))))
 (let x4:=(cut2 ((rdL b0 b1 X5).1) (b2.2.2.2.2.1.length:Int) (aq ((rdL b0 b1 X5).1):Int))
 gd (decide (b2.2.2.2.2.2.1.length+x4.length<maxS))
 (let x5:=(b2.2.2.2.2.2.1++x4)
 let x6:=([((1:Int),(x5,(((rdL b0 b1 X5).2).1,((([]:List UInt8),([]:List UInt8)),(([]:List UInt8),(([]:List UInt8),((rdL b0 b1 X5).2).2))))))]:List Z1)
 gd (fits (b3.length+x6.length) 112)
 (let x7:=(b3++x6)
 rec b0 (aa .i64 (b1+(1:Int))) b2 x7)))))
 else
 (some (((),()),(b2,(b3,()))))
def za0(N:Nat)(n:Nat):=
 itF (fun _ _ _ _=>none) (z3h N) n
theorem zgg(N:Nat)(n:Nat):za0 N (n+1)=z3h N (za0 N n):=rfl
def zlq(N:Nat)(a0:Z1)(a1:(List Z3)):Option ((List Z1)):=
 (z62 N a0).bind fun r1=>
 bif (!r1)then
 (some ([a0]:List Z1))
 else
 ((U2 N a0.2.2.2.2.2.1).bind fun r2=>
 let x3:=([((3:Int),(([]:List UInt8),(([]:List UInt8),(r2,(([]:List UInt8),(([]:List UInt8),(0:Int)))))))]:List Z1)
 (za0 N N a1 (0:Int) a0 x3).bind fun r8=>
 bif (eqi r8.2.1.1 (4:Int))then
 ((U2 N r8.2.1.2.2.2.2.1).bind fun r9=>
 let x10:=([((3:Int),(([]:List UInt8),(([]:List UInt8),(r9,(([]:List UInt8),(([]:List UInt8),(0:Int)))))))]:List Z1)
 gd (fits (r8.2.2.1.length+x10.length) 112)
 (let x11:=(r8.2.2.1++x10)
 some x11))
 else
 (some r8.2.2.1))
def zlp(N:Nat)(a0:(List Z1))(a1:(List Z3)):Option (((List Z1)×Int)):=
 bif (eqi (a0.length:Int) (0:Int))then
 (some (([]:List Z1),(50:Int)))
 else
 (gd (inB (0:Int) (a0.length))
 ((z62 N (rdL a0 (0:Int) U7)).bind fun r1=>
 bif (!r1)then
 (some (([]:List Z1),(50:Int)))
 else
 (gd (inB (0:Int) (a0.length))
 ((zlq N (rdL a0 (0:Int) U7) a1).bind fun r2=>
 gd (decide (0<=(1:Int))&&(decide ((1:Int)<=(a0.length:Int))&&decide ((a0.length:Int)<=(a0.length:Int))))
 (gd (fits (r2.length+aq (cut2 a0 (1:Int) (a0.length:Int))) 112)
 (let x3:=(r2++(cut2 a0 (1:Int) (a0.length:Int)))
 some (x3,(0:Int))))))))
def z0j(N:Nat)(rec:Int->Y5->Z6->(List Z3)->Option yol)(b0:Int)(b1:Y5)(b2:Z6)(b3:(List Z3)):Option yol:=
 bif (decide (b0<(b2.2.2.1.length:Int)))then
 (gd (inB b0 (b2.2.2.1.length))
 (gd (inB (0:Int) (b2.2.2.2.2.length))
 (let x1:=(((((rdL b2.2.2.2.2 (0:Int) U7).2).2).2).2).1
 (U2 N x1).bind fun r2=>
 (zlm N (b1.1,((rdL b2.2.2.1 b0 (0:Int)),b1.2.2)) r2).bind fun r3=>
 bif (!(eqi r3.2 (0:Int)))then
 (some (.inl (((),r3.2),(b2,()))))
 else
 (gd (fits (b3.length+r3.1.length) 40)
 (let x4:=(b3++r3.1)
 rec (aa .i64 (b0+(1:Int))) b1 b2 x4)))))
 else
 (some (.inr (((),((),())),(b2,((),(b3,()))))))
def z1c(N:Nat)(n:Nat):=
 itF (fun _ _ _ _=>none) (z0j N) n
theorem zcp(N:Nat)(n:Nat):z1c N (n+1)=z0j N (z1c N n):=rfl
def z6b(N:Nat)(a0:Y5)(a1:Z6):Option ((Z6×Int)):=
 (z1c N N (0:Int) a0 a1 ([]:List Z3)).bind fun r5=>
 match r5 with
 | .inl r6=>(some (r6.2.1,r6.1.2))
 | .inr r7=>((zlp N r7.2.1.2.2.2.2 r7.2.2.2.1).bind fun r8=>
 some ((r7.2.1.1,(r7.2.1.2.1,(r7.2.1.2.2.1,(r7.2.1.2.2.2.1,r8.1)))),r8.2))
def zlj(N:Nat)(a0:Y5)(a1:(List Int)):Option ((Y5×Int)):=
 (z8p N a0 a1).bind fun r1=>
 bif (!(eqi r1.2.2 (0:Int)))then
 (some (a0,r1.2.2))
 else
 (let x2:=(decide (a0.2.2.1<(r1.1.1.length:Int)))
 bif x2 then
 ((zcs N r1.1 a0.2.2).bind fun r3=>
 (zgy N a0 a1 (r3.1,(r3.2.1,([]:List Z1)))).bind fun r4=>
 some (r4.1,r4.2))
 else
 (let x5:=(decide (a0.2.2.2.1<(r1.1.2.2.1.length:Int)))
 bif x5 then
 ((zig N r1.1 a0.2.2).bind fun r6=>
 (zgy N a0 a1 r6).bind fun r7=>
 some (r7.1,r7.2))
 else
 (let x8:=(eqi (r1.1.2.2.2.2.length:Int) (0:Int))
 bif x8 then
 (some (a0,(0:Int)))
 else
 ((zli N r1.1).bind fun r9=>
 bif (decide ((0:Int)<r9.2))then
 ((zif N a0 a1 r9.1).bind fun r10=>
 some (r10.1,r10.2.2))
 else
 ((z6b N a0 r1.1).bind fun r11=>
 bif (!(eqi r11.2 (0:Int)))then
 (some (a0,r11.2))
 else
 ((zgy N a0 a1 (([r11.1]:List Z6),(([]:List (List UInt8)),([]:List Z1)))).bind fun r12=>
 some (r12.1,r12.2)))))))
def z55(N:Nat)(rec:Bool->Y5->z3w->Option ((Unit×(z3w×Unit))))(b0:Bool)(b1:Y5)(b2:z3w):Option ((Unit×(z3w×Unit))):=
 (zyc N b2.1 ([]:List Int) b0).bind fun r1=>
 bif (!r1.2)then
 (some ((),(b2,())))
 else
 ((zlj N b2.1 r1.1).bind fun r2=>
 bif (!(eqi r2.2 (0:Int)))then
 (some ((),((b1,((0:Int),r2.2)),())))
 else
 (rec b0 b1 (r2.1,((aa .i64 (b2.2.1+(1:Int))),b2.2.2))))
def z7r(N:Nat)(n:Nat):=
 itF (fun _ _ _=>none) (z55 N) n
theorem zod(N:Nat)(n:Nat):z7r N (n+1)=z55 N (z7r N n):=rfl
def zns(N:Nat)(a0:Y5)(a1:Bool):Option (z3w):=
 (z7r N N a1 a0 (a0,((0:Int),(0:Int)))).bind fun r3=>
 some r3.2.1
def zlk(N:Nat)(a0:Y5):Option (z3w):=
 (zns N a0 false).bind fun r1=>
 some r1
def zrs(N:Nat)(a0:Z4)(a1:Y5):Option (Z4):=
 some (a1.1,(a1.2.2,(a0.2.2.1,(a0.2.2.2.1,(a1.2.1,a0.2.2.2.2.2)))))
def zil(N:Nat)(a0:Z1):Option ((List Z0)):=
 bif (eqi a0.1 (6:Int))then
 (some ([]:List Z0))
 else
 (match K6 N a0 with
 | some r1=>(some r1)
 | none=>none)
def z3j(N:Nat)(rec:(List Z1)->Int->(List Z1)->(List Z0)->Option (((Unit×(Unit×Unit))×(Unit×((List Z1)×((List Z0)×Unit))))))(b0:(List Z1))(b1:Int)(b2:(List Z1))(b3:(List Z0)):Option (((Unit×(Unit×Unit))×(Unit×((List Z1)×((List Z0)×Unit))))):=
 bif (decide ((0:Int)<=b1))then
 (gd (inB b1 (b0.length))
 ((K6 N (rdL b0 b1 U7)).bind fun r3=>
 (Q6 N r3 b3).bind fun r4=>
 bif (eqi (r4.length:Int) (0:Int))then
 (rec b0 (aa .i64 (b1-(1:Int))) b2 b3)
 else
 (gd (fits (1+b2.length) 112)
 (let x5:=(([(rdL b0 b1 U7)]:List Z1)++b2)
 gd (fits (0+b3.length) 32)
 (let x6:=(([]:List Z0)++b3)
 (zil N (rdL b0 b1 U7)).bind fun r7=>
 gd (fits (x6.length+r7.length) 32)
 (let x8:=(x6++r7)
 (z64 N (rdL b0 b1 U7)).bind fun r9=>
 (Q6 N x8 r9).bind fun r10=>
 rec b0 (aa .i64 (b1-(1:Int))) x5 r10))))))
 else
 (some (((),((),())),((),(b2,(b3,())))))
def za2(N:Nat)(n:Nat):=
 itF (fun _ _ _ _=>none) (z3j N) n
theorem zgi(N:Nat)(n:Nat):za2 N (n+1)=z3j N (za2 N n):=rfl
def zrv(N:Nat)(a0:(List Z1))(a1:(List Z0)):Option (znk):=
 (z0w N a1).bind fun r1=>
 let x2:=(aa .i64 ((a0.length:Int)-(1:Int)))
 (za2 N N a0 x2 ([]:List Z1) r1).bind fun r11=>
 some (r11.2.2.1,r11.2.2.2.1)
def zbr(N:Nat)(a0:(List Z1)):Option ((List Z1)):=
 (zrv N a0 ([]:List Z0)).bind fun r1=>
 some r1.1
def z4g(N:Nat)(rec:(List Z1)->Int->Z4->Y5->Option yov)(b0:(List Z1))(b1:Int)(b2:Z4)(b3:Y5):Option yov:=
 bif (decide (b1<(b0.length:Int)))then
 (gd (inB b1 (b0.length))
 ((zk7 N b3 (rdL b0 b1 U7)).bind fun r2=>
 bif (!(eqi r2.2 (0:Int)))then
 (some (.inl (((),r2.2),(b2,()))))
 else
 (rec b0 (aa .i64 (b1+(1:Int))) b2 r2.1)))
 else
 (some (.inr ((b0,((),((),()))),(b2,((),(b3,()))))))
def z4r(N:Nat)(n:Nat):=
 itF (fun _ _ _ _=>none) (z4g N) n
theorem zi1(N:Nat)(n:Nat):z4r N (n+1)=z4g N (z4r N n):=rfl
def zk6(N:Nat)(a0:Z4)(a1:(List Z1)):Option ((Z4×Int)):=
 (zrt N a0 (0:Int)).bind fun r1=>
 (z4r N N a1 (0:Int) a0 r1.1).bind fun r3=>
 match r3 with
 | .inl r4=>(some (r4.2.1,r4.1.2))
 | .inr r5=>((zlk N r5.2.2.2.1).bind fun r6=>
 bif (!(eqi r6.2.2 (0:Int)))then
 (some (r5.2.1,r6.2.2))
 else
 (gd (fits (0+r5.2.1.2.2.2.2.2.2.length) 112)
 (let x7:=(([]:List Z1)++r5.2.1.2.2.2.2.2.2)
 (zrs N r5.2.1 r6.1).bind fun r8=>
 gd (fits (x7.length+r5.1.1.length) 112)
 (let x9:=(x7++r5.1.1)
 (zbr N x9).bind fun r10=>
 some ((r8.1,(r8.2.1,(r8.2.2.1,(r8.2.2.2.1,(r8.2.2.2.2.1,(r8.2.2.2.2.2.1,r10)))))),(0:Int))))))
def z8z(N:Nat)(b0 b1:Int)(b2:Bool):Option (((Unit×Int)×(Unit×Unit))⊕((Int×(Int×Unit))×(Unit×Unit))):=
 bif b2 then
 (some (.inl (((),(1:Int)),((),()))))
 else
 (some (.inr ((b0,(b1,())),((),()))))
def z90(N:Nat)(b0 b1:Int):Option (((Unit×Int)×ymc)):=
 gd ((decide (0<=b1)&&decide (b1<=b1))&&(decide (b1<maxB)&&decide (b1*24<maxB)))
 (let x4:=(ar (cK b1) ([]:List Int))
 some (((),(0:Int)),((b0,((),())),(x4,(([]:List Y9),())))))
def zb3(N:Nat)(a0 a1:Int):Option ((V2×Int)):=
 bif (decide (a0<(1:Int)))then
 ((z8z N a0 a1 true).bind fun r1=>
 match r1 with
 | .inl r2=>(some (((0:Int),(([]:List (List Int)),([]:List Y9))),r2.1.2))
 | .inr r3=>((z90 N r3.1.1 r3.1.2.1).bind fun r5=>
 some ((r5.2.1.1,(r5.2.2.1,r5.2.2.2.1)),r5.1.2)))
 else
 (bif (decide ((65536:Int)<a0))then
 ((z8z N a0 a1 true).bind fun r6=>
 match r6 with
 | .inl r7=>(some (((0:Int),(([]:List (List Int)),([]:List Y9))),r7.1.2))
 | .inr r8=>((z90 N r8.1.1 r8.1.2.1).bind fun r9=>
 some ((r9.2.1.1,(r9.2.2.1,r9.2.2.2.1)),r9.1.2)))
 else
 (bif (decide (a1<(1:Int)))then
 ((z8z N a0 a1 true).bind fun r10=>
 match r10 with
 | .inl r11=>(some (((0:Int),(([]:List (List Int)),([]:List Y9))),r11.1.2))
 | .inr r12=>((z90 N r12.1.1 r12.1.2.1).bind fun r13=>
 some ((r13.2.1.1,(r13.2.2.1,r13.2.2.2.1)),r13.1.2)))
 else
 ((z8z N a0 a1 (decide ((4096:Int)<a1))).bind fun r14=>
 match r14 with
 | .inl r15=>(some (((0:Int),(([]:List (List Int)),([]:List Y9))),r15.1.2))
 | .inr r16=>((z90 N r16.1.1 r16.1.2.1).bind fun r17=>
 some ((r17.2.1.1,(r17.2.2.1,r17.2.2.2.1)),r17.1.2)))))
def z4f(N:Nat)(rec:Int->Int->Int->Int->(List Bool)->(List Int)->Option (((Unit×Unit)×(Unit×ymb))))(b0 b1 b2 b3:Int)(b4:(List Bool))(b5:(List Int)):Option (((Unit×Unit)×(Unit×ymb))):=
 bif (decide (b2<b0))then
 (gd (fits (b4.length+1) 1)
 (let x4:=(b4++([(decide (b2<b1))]:List Bool))
 rec b0 b1 (aa .i64 (b2+(1:Int))) b3 x4 b5))
 else
 (some (((),()),((),(((),((),b3)),(b4,(b5,()))))))
def zbk(N:Nat)(n:Nat):=
 itF (fun _ _ _ _ _ _=>none) (z4f N) n
theorem zi0(N:Nat)(n:Nat):zbk N (n+1)=z4f N (zbk N n):=rfl
def z8x(N:Nat)(b0 b1:Int)(b2:Bool):Option (((Unit×Int)×(Unit×Unit))⊕((Int×(Int×Unit))×(Unit×Unit))):=
 bif b2 then
 (some (.inl (((),(1:Int)),((),()))))
 else
 (some (.inr ((b0,(b1,())),((),()))))
def z8y(N:Nat)(b0 b1:Int):Option (((Unit×Int)×ymb)):=
 (zbk N N b0 b1 (0:Int) (0:Int) ([]:List Bool) ([]:List Int)).bind fun r5=>
 some (((),(0:Int)),(((),((),r5.2.2.1.2.2)),(r5.2.2.2.1,(r5.2.2.2.2.1,()))))
def zot(N:Nat)(a0 a1:Int):Option ((V0×Int)):=
 bif (decide (a0<(1:Int)))then
 ((z8x N a0 a1 true).bind fun r1=>
 match r1 with
 | .inl r2=>(some ((([]:List Bool),(([]:List Int),(0:Int))),r2.1.2))
 | .inr r3=>((z8y N r3.1.1 r3.1.2.1).bind fun r6=>
 some ((r6.2.2.1,(r6.2.2.2.1,r6.2.1.2.2)),r6.1.2)))
 else
 (bif (decide ((4096:Int)<a0))then
 ((z8x N a0 a1 true).bind fun r7=>
 match r7 with
 | .inl r8=>(some ((([]:List Bool),(([]:List Int),(0:Int))),r8.1.2))
 | .inr r9=>((z8y N r9.1.1 r9.1.2.1).bind fun r10=>
 some ((r10.2.2.1,(r10.2.2.2.1,r10.2.1.2.2)),r10.1.2)))
 else
 (bif (decide (a1<(0:Int)))then
 ((z8x N a0 a1 true).bind fun r11=>
 match r11 with
 | .inl r12=>(some ((([]:List Bool),(([]:List Int),(0:Int))),r12.1.2))
 | .inr r13=>((z8y N r13.1.1 r13.1.2.1).bind fun r14=>
 some ((r14.2.2.1,(r14.2.2.2.1,r14.2.1.2.2)),r14.1.2)))
 else
 ((z8x N a0 a1 (decide (a0<a1))).bind fun r15=>
 match r15 with
 | .inl r16=>(some ((([]:List Bool),(([]:List Int),(0:Int))),r16.1.2))
 | .inr r17=>((z8y N r17.1.1 r17.1.2.1).bind fun r18=>
 some ((r18.2.2.1,(r18.2.2.2.1,r18.2.1.2.2)),r18.1.2)))))
def z56(N:Nat)(rec:(List Z3)->Int->Option Ty3_)(b0:(List Z3))(b1:Int):Option Ty3_:=
 bif (decide (b1<(b0.length:Int)))then
 (gd (inB (aa .i64 (b1-(1:Int))) (b0.length))
 (let x1:=(rdL b0 (aa .i64 (b1-(1:Int))) X5)
 gd (inB b1 (b0.length))
 (bif (!(lts x1.1 ((rdL b0 b1 X5).1)))then
 (some (.inl (false,())))
 else
 (rec b0 (aa .i64 (b1+(1:Int)))))))
 else
 (some (.inr ((),())))
def z88(N:Nat)(n:Nat):=
 itF (fun _ _=>none) (z56 N) n
theorem zoe(N:Nat)(n:Nat):z88 N (n+1)=z56 N (z88 N n):=rfl
def zim(N:Nat)(a0:(List Z3)):Option (Bool):=
 match z88 N N a0 (1:Int)with
 | some r2=>(match r2 with
 | .inl r3=>(some r3.1)
 | .inr r4=>(some true))
 | none=>none
def zkl(N:Nat)(a0 a1 a2:Int):Option (Bool):=
 bif (decide (a1<=a0))then
 (some (decide (a0<=a2)))
 else
 (some false)
def z3g(N:Nat)(rec:Int->Z6->Z0->Option Ty3_)(b0:Int)(b1:Z6)(b2:Z0):Option Ty3_:=
 bif (decide (b0<(b1.1.length:Int)))then
 (gd (inB b0 (b1.1.length))
 (match zb5 N b2 ((rdL b1.1 b0 X5).1)with
 | some r5=>(bif (!r5)then
 (some (.inl (false,())))
 else
 (let x6:=(aq ((rdL b1.1 b0 X5).1):Int)
 match zkl N x6 (1:Int) (65535:Int)with
 | some r7=>(bif (!r7)then
 (some (.inl (false,())))
 else
 (let x8:=(aq (((rdL b1.1 b0 X5).2).1):Int)
 bif (decide ((64:Int)<x8))then
 (some (.inl (false,())))
 else
 (match zkl N (((rdL b1.1 b0 X5).2).2) (0:Int) (1000000000:Int)with
 | some r9=>(bif (!r9)then
 (some (.inl (false,())))
 else
 (rec (aa .i64 (b0+(1:Int))) b1 b2))
 | none=>none)))
 | none=>none))
 | none=>none))
 else
 (some (.inr ((),())))
def z9y(N:Nat)(n:Nat):=
 itF (fun _ _ _=>none) (z3g N) n
theorem zgf(N:Nat)(n:Nat):z9y N (n+1)=z3g N (z9y N n):=rfl
def zln(N:Nat)(a0:Z6)(a1:Z0):Option (Bool):=
 let x1:=(decide ((0:Int)<(a0.2.1.length:Int)))
 bif x1 then
 (some false)
 else
 (let x2:=(decide ((0:Int)<(a0.2.2.2.1.length:Int)))
 bif x2 then
 (some false)
 else
 (let x3:=(decide ((0:Int)<(a0.2.2.2.2.length:Int)))
 bif x3 then
 (some false)
 else
 (match zim N a0.1 with
 | some r4=>(bif (!r4)then
 (some false)
 else
 (match z9y N N (0:Int) a0 a1 with
 | some r10=>(match r10 with
 | .inl r11=>(some r11.1)
 | .inr r12=>(some true))
 | none=>none))
 | none=>none)))
def g9(N:Nat)(b0:(List (List UInt8)))(b1:Int)(b2:Bool)(b3:Z0):Option ((Bool×Unit)⊕(((List (List UInt8))×(Unit×Int))×(Z0×Unit))):=
 bif b2 then
 (some (.inl (false,())))
 else
 (some (.inr ((b0,((),b1)),(b3,()))))
def z00(N:Nat)(b0:(List (List UInt8)))(b1:Int)(b2:Z0):Option ((((List (List UInt8))×(Unit×Int))×(Z0×Unit))):=
 some ((b0,((),(aa .i64 (b1+(1:Int))))),(b2,()))
def z0n(N:Nat)(rec:(List (List UInt8))->Int->Z0->Option Ty3_)(b0:(List (List UInt8)))(b1:Int)(b2:Z0):Option Ty3_:=
 bif (decide (b1<(b0.length:Int)))then
 (gd (inB b1 (b0.length))
 (let x1:=(lts (rdL b0 b1 ([]:List UInt8)) b2.1 || eqs (rdL b0 b1 ([]:List UInt8)) b2.1)
 bif x1 then
 (match g9 N b0 b1 true b2 with
 | some r2=>(match r2 with
 | .inl r3=>(some (.inl (r3.1,())))
 | .inr r4=>(match z00 N r4.1.1 r4.1.2.2 r4.2.1 with
 | some r5=>(rec r5.1.1 r5.1.2.2 r5.2.1)
 | none=>none))
 | none=>none)
 else
 (bif (!(eqs b2.2 ([]:List UInt8)))then
 (gd (inB b1 (b0.length))
 (bif (!(lts (rdL b0 b1 ([]:List UInt8)) b2.2))then
 (match g9 N b0 b1 true b2 with
 | some r6=>(match r6 with
 | .inl r7=>(some (.inl (r7.1,())))
 | .inr r8=>(match z00 N r8.1.1 r8.1.2.2 r8.2.1 with
 | some r9=>(rec r9.1.1 r9.1.2.2 r9.2.1)
 | none=>none))
 | none=>none)
 else
 (bif (decide ((0:Int)<b1))then
 (gd (inB b1 (b0.length))
 (gd (inB (aa .i64 (b1-(1:Int))) (b0.length))
 (let x10:=(rdL b0 (aa .i64 (b1-(1:Int))) ([]:List UInt8))
 let x11:=(lts (rdL b0 b1 ([]:List UInt8)) x10 || eqs (rdL b0 b1 ([]:List UInt8)) x10)
 match g9 N b0 b1 x11 b2 with
 | some r12=>(match r12 with
 | .inl r13=>(some (.inl (r13.1,())))
 | .inr r14=>(match z00 N r14.1.1 r14.1.2.2 r14.2.1 with
 | some r15=>(rec r15.1.1 r15.1.2.2 r15.2.1)
 | none=>none))
 | none=>none)))
 else
 (match g9 N b0 b1 false b2 with
 | some r16=>(match r16 with
 | .inl r17=>(some (.inl (r17.1,())))
 | .inr r18=>(match z00 N r18.1.1 r18.1.2.2 r18.2.1 with
 | some r19=>(rec r19.1.1 r19.1.2.2 r19.2.1)
 | none=>none))
 | none=>none))))
 else
 (bif (decide ((0:Int)<b1))then
 (gd (inB b1 (b0.length))
 (gd (inB (aa .i64 (b1-(1:Int))) (b0.length))
 (let x20:=(rdL b0 (aa .i64 (b1-(1:Int))) ([]:List UInt8))
 let x21:=(lts (rdL b0 b1 ([]:List UInt8)) x20 || eqs (rdL b0 b1 ([]:List UInt8)) x20)
 match g9 N b0 b1 x21 b2 with
 | some r22=>(match r22 with
 | .inl r23=>(some (.inl (r23.1,())))
 | .inr r24=>(match z00 N r24.1.1 r24.1.2.2 r24.2.1 with
 | some r25=>(rec r25.1.1 r25.1.2.2 r25.2.1)
 | none=>none))
 | none=>none)))
 else
 (match g9 N b0 b1 false b2 with
 | some r26=>(match r26 with
 | .inl r27=>(some (.inl (r27.1,())))
 | .inr r28=>(match z00 N r28.1.1 r28.1.2.2 r28.2.1 with
 | some r29=>(rec r29.1.1 r29.1.2.2 r29.2.1)
 | none=>none))
 | none=>none)))))
 else
 (some (.inr ((),())))
def z1d(N:Nat)(n:Nat):=
 itF (fun _ _ _=>none) (z0n N) n
theorem zcy(N:Nat)(n:Nat):z1d N (n+1)=z0n N (z1d N n):=rfl
def zfk(N:Nat)(a0:(List (List UInt8)))(a1:Z0):Option (Bool):=
 match z1d N N a0 (0:Int) a1 with
 | some r30=>(match r30 with
 | .inl r31=>(some r31.1)
 | .inr r32=>(some true))
 | none=>none
def zdp(N:Nat)(a0:z4y):Option (Bool):=
 bif (decide ((0:Int)<=a0.1))then
 (bif (decide (a0.1<=a0.2))then
 (some (decide (a0.2<=(1000000000000000:Int))))
 else
 (some false))
 else
 (some false)
def z0p(N:Nat)(rec:Int->Z0->(List Z0)->Option Ty3_)(b0:Int)(b1:Z0)(b2:(List Z0)):Option Ty3_:=
 bif (decide (b0<(b2.length:Int)))then
 (gd (inB b0 (b2.length))
 (match zbt N b1 (rdL b2 b0 Y7)with
 | some r4=>(bif (!r4)then
 (some (.inl (false,())))
 else
 (rec (aa .i64 (b0+(1:Int))) b1 b2))
 | none=>none))
 else
 (some (.inr ((),())))
def z6r(N:Nat)(n:Nat):=
 itF (fun _ _ _=>none) (z0p N) n
theorem zd0(N:Nat)(n:Nat):z6r N (n+1)=z0p N (z6r N n):=rfl
def zfl(N:Nat)(a0:Z1)(a1:Z0):Option (Bool):=
 match z64 N a0 with
 | some r1=>(match K6 N a0 with
 | some r2=>(gd (fits (r1.length+r2.length) 32)
 (let x3:=(r1++r2)
 match z6r N N (0:Int) a1 x3 with
 | some r5=>(match r5 with
 | .inl r6=>(some r6.1)
 | .inr r7=>(some true))
 | none=>none))
 | none=>none)
 | none=>none
def z1s(N:Nat)(rec:Int->Z6->Z0->Option Ty3_)(b0:Int)(b1:Z6)(b2:Z0):Option Ty3_:=
 let x12:=(decide (b0<(b1.2.2.2.2.length:Int)))
 bif x12 then
 (gd (inB b0 (b1.2.2.2.2.length))
 (match zau N (rdL b1.2.2.2.2 b0 U7)with
 | some r13=>(bif (!r13)then
 (some (.inl (false,())))
 else
 (gd (inB b0 (b1.2.2.2.2.length))
 (match zfl N (rdL b1.2.2.2.2 b0 U7) b2 with
 | some r14=>(bif (!r14)then
 (some (.inl (false,())))
 else
 (rec (aa .i64 (b0+(1:Int))) b1 b2))
 | none=>none)))
 | none=>none))
 else
 (some (.inr ((),())))
def z7u(N:Nat)(n:Nat):=
 itF (fun _ _ _=>none) (z1s N) n
theorem zej(N:Nat)(n:Nat):z7u N (n+1)=z1s N (z7u N n):=rfl
def z1t(N:Nat)(rec:Int->Z6->Z0->Option ((Bool×Unit)⊕((Unit×Unit)×yeb)))(b0:Int)(b1:Z6)(b2:Z0):Option ((Bool×Unit)⊕((Unit×Unit)×yeb)):=
 bif (decide (b0<(b1.2.2.1.length:Int)))then
 (gd (inB b0 (b1.2.2.1.length))
 (match zkl N (rdL b1.2.2.1 b0 (0:Int)) (0:Int) (4095:Int)with
 | some r6=>(bif (!r6)then
 (some (.inl (false,())))
 else
 (gd (inB b0 (b1.2.2.2.1.length))
 (match zdp N ((rdL b1.2.2.2.1 b0 z5t).1)with
 | some r7=>(bif (!r7)then
 (some (.inl (false,())))
 else
 (gd (inB b0 (b1.2.2.2.1.length))
 (match zdp N ((rdL b1.2.2.2.1 b0 z5t).2)with
 | some r8=>(bif (!r8)then
 (some (.inl (false,())))
 else
 (rec (aa .i64 (b0+(1:Int))) b1 b2))
 | none=>none)))
 | none=>none)))
 | none=>none))
 else
 (some (.inr (((),()),(b1,(b2,())))))
def z5n(N:Nat)(n:Nat):=
 itF (fun _ _ _=>none) (z1t N) n
theorem zek(N:Nat)(n:Nat):z5n N (n+1)=z1t N (z5n N n):=rfl
def zbb(N:Nat)(b0:Z6)(b1:Z0):Option ((Bool×Unit)):=
 match z5n N N (0:Int) b0 b1 with
 | some r9=>(match r9 with
 | .inl r10=>(some (r10.1,()))
 | .inr r11=>(match z7u N N (0:Int) r11.2.1 r11.2.2.1 with
 | some r15=>(match r15 with
 | .inl r16=>(some (r16.1,()))
 | .inr r17=>(some (true,())))
 | none=>none))
 | none=>none
def zih(N:Nat)(a0:Z6)(a1:Z0):Option (Bool):=
 bif (eqi (a0.2.2.1.length:Int) (0:Int))then
 (match zln N a0 a1 with
 | some r1=>(some r1)
 | none=>none)
 else
 (let x2:=(decide ((0:Int)<(a0.1.length:Int)))
 bif x2 then
 (some false)
 else
 (let x3:=(!(eqi (a0.2.2.2.1.length:Int) (a0.2.2.1.length:Int)))
 bif x3 then
 (some false)
 else
 (let x4:=(aa .i64 ((a0.2.2.1.length:Int)-(1:Int)))
 bif (!(eqi (a0.2.1.length:Int) x4))then
 (some false)
 else
 (match zfk N a0.2.1 a1 with
 | some r5=>(bif (!r5)then
 (some false)
 else
 (match zbb N a0 a1 with
 | some r18=>(some r18.1)
 | none=>none))
 | none=>none))))
def z0o(N:Nat)(rec:Int->Int->(List Int)->Option ((Unit×((List Int)×Unit))))(b0 b1:Int)(b2:(List Int)):Option ((Unit×((List Int)×Unit))):=
 bif (decide ((0:Int)<=b1))then
 (gd (decide (0<=(aa .i64 ((8:Int)*b1))))
 (let x1:=(dW b0 (2^min (cK (aa .i64 ((8:Int)*b1))) (bj .i64)))
 gd (fits (b2.length+1) 1)
 (let x2:=(b2++([(aa .u8 (x1))]:List Int))
 rec b0 (aa .i64 (b1-(1:Int))) x2)))
 else
 (some ((),(b2,())))
def z6q(N:Nat)(n:Nat):=
 itF (fun _ _ _=>none) (z0o N) n
theorem zcz(N:Nat)(n:Nat):z6q N (n+1)=z0o N (z6q N n):=rfl
def V8(N:Nat)(a0 a1:Int):Option ((List Int)):=
 match z6q N N a0 (aa .i64 (a1-(1:Int))) ([]:List Int)with
 | some r3=>(some r3.2.1)
 | none=>none
def zcx(N:Nat)(a0:(List UInt8)):Option ((List Int)):=
 match V8 N (a0.length:Int) (2:Int)with
 | some r1=>(gd (fits (r1.length+aq (u7 a0)) 1)
 (let x2:=(r1++(u7 a0))
 some x2))
 | none=>none
def z7j(N:Nat)(rec:Int->Int->(List Int)->Option ((Unit×((List Int)×Unit))))(b0 b1:Int)(b2:(List Int)):Option ((Unit×((List Int)×Unit))):=
 bif (decide ((0:Int)<=b1))then
 (gd (decide (0<=(aa .i64 ((8:Int)*b1))))
 (let x1:=(dW b0 (2^min (cK (aa .i64 ((8:Int)*b1))) (bj .i64)))
 gd (fits (b2.length+1) 1)
 (let x2:=(b2++([(aa .u8 (x1))]:List Int))
 rec b0 (aa .i64 (b1-(1:Int))) x2)))
 else
 (some ((),(b2,())))
def zad(N:Nat)(n:Nat):=
 itF (fun _ _ _=>none) (z7j N) n
theorem y91(N:Nat)(n:Nat):zad N (n+1)=z7j N (zad N n):=rfl
def z6d(N:Nat)(a0 a1:Int):Option ((List Int)):=
 match zad N N a0 (aa .i64 (a1-(1:Int))) ([]:List Int)with
 | some r3=>(some r3.2.1)
 | none=>none
def z25(N:Nat)(rec:(List (List UInt8))->Int->(List Int)->Option ((Unit×((List Int)×Unit))))(b0:(List (List UInt8)))(b1:Int)(b2:(List Int)):Option ((Unit×((List Int)×Unit))):=
 bif (decide (b1<(b0.length:Int)))then
 (gd (inB b1 (b0.length))
 (let x1:=(aq (rdL b0 b1 ([]:List UInt8)):Int)
 match z6d N x1 (2:Int)with
 | some r2=>(gd (fits (b2.length+r2.length) 1)
 (let x3:=(b2++r2)
 gd (inB b1 (b0.length))
 (gd (fits (x3.length+aq (u7 (rdL b0 b1 ([]:List UInt8)))) 1)
 (let x4:=(x3++(u7 (rdL b0 b1 ([]:List UInt8))))
 rec b0 (aa .i64 (b1+(1:Int))) x4))))
 | none=>none))
 else
 (some ((),(b2,())))
def z83(N:Nat)(n:Nat):=
 itF (fun _ _ _=>none) (z25 N) n
theorem zet(N:Nat)(n:Nat):z83 N (n+1)=z25 N (z83 N n):=rfl
def J3(N:Nat)(a0:(List (List UInt8))):Option ((List Int)):=
 match z83 N N a0 (0:Int) ([]:List Int)with
 | some r5=>(some r5.2.1)
 | none=>none
def q9(N:Nat)(b0:Z1)(b1:(List Int)):Option ((Unit×((List Int)×Unit))):=
 bif (eqi b0.1 (1:Int))then
 (match z6d N b0.2.2.2.2.2.2 (4:Int)with
 | some r4=>(gd (fits (b1.length+r4.length) 1)
 (let x5:=(b1++r4)
 some ((),(x5,()))))
 | none=>none)
 else
 (bif (eqi b0.1 (6:Int))then
 (match z6d N b0.2.2.2.2.2.2 (4:Int)with
 | some r6=>(gd (fits (b1.length+r6.length) 1)
 (let x7:=(b1++r6)
 some ((),(x7,()))))
 | none=>none)
 else
 (some ((),(b1,()))))
def zdr(N:Nat)(a0:Z1):Option ((List Int)):=
 match zau N a0 with
 | some r1=>(bif (!r1)then
 (some ([]:List Int))
 else
 (bif (eqi a0.1 (1:Int))then
 (match J3 N ([a0.2.1,a0.2.2.1]:List (List UInt8))with
 | some r2=>(gd (fits (1+r2.length) 1)
 (let x3:=(([(aa .u8 (a0.1))]:List Int)++r2)
 match q9 N a0 x3 with
 | some r8=>(some r8.2.1)
 | none=>none))
 | none=>none)
 else
 (bif (eqi a0.1 (2:Int))then
 (match J3 N ([a0.2.1]:List (List UInt8))with
 | some r9=>(gd (fits (1+r9.length) 1)
 (let x10:=(([(aa .u8 (a0.1))]:List Int)++r9)
 match q9 N a0 x10 with
 | some r11=>(some r11.2.1)
 | none=>none))
 | none=>none)
 else
 (bif (eqi a0.1 (3:Int))then
 (let x12:=([a0.2.2.2.1.1,a0.2.2.2.1.2]:List (List UInt8))
 match J3 N x12 with
 | some r13=>(gd (fits (1+r13.length) 1)
 (let x14:=(([(aa .u8 (a0.1))]:List Int)++r13)
 match q9 N a0 x14 with
 | some r15=>(some r15.2.1)
 | none=>none))
 | none=>none)
 else
 (bif (eqi a0.1 (6:Int))then
 (let x16:=([a0.2.2.2.1.1,a0.2.2.2.1.2]:List (List UInt8))
 match J3 N x16 with
 | some r17=>(gd (fits (1+r17.length) 1)
 (let x18:=(([(aa .u8 (a0.1))]:List Int)++r17)
 match q9 N a0 x18 with
 | some r19=>(some r19.2.1)
 | none=>none))
 | none=>none)
 else
 (let x20:=([a0.2.2.2.2.1,a0.2.2.2.2.2.1]:List (List UInt8))
 match J3 N x20 with
 | some r21=>(gd (fits (1+r21.length) 1)
 (let x22:=(([(aa .u8 (a0.1))]:List Int)++r21)
 match q9 N a0 x22 with
 | some r23=>(some r23.2.1)
 | none=>none))
 | none=>none))))))
 | none=>none
def J1(N:Nat)(rec:Int->Int->Z6->(List Int)->zvl->Option (((Unit×(Unit×Int))×(Z6×((List Int)×Unit)))))(b0 b1:Int)(b2:Z6)(b3:(List Int))(b4:zvl):Option (((Unit×(Unit×Int))×(Z6×((List Int)×Unit)))):=
 bif (decide (b1<(4:Int)))then
 (bif (eqi b1 (3:Int))then
 (match V8 N b4.2.2.2 (8:Int)with
 | some r20=>(gd (fits (b3.length+r20.length) 1)
 (let x21:=(b3++r20)
 rec b0 (aa .i64 (b1+(1:Int))) b2 x21 b4))
 | none=>none)
 else
 (bif (eqi b1 (2:Int))then
 (match V8 N b4.2.2.1 (8:Int)with
 | some r22=>(gd (fits (b3.length+r22.length) 1)
 (let x23:=(b3++r22)
 rec b0 (aa .i64 (b1+(1:Int))) b2 x23 b4))
 | none=>none)
 else
 (bif (eqi b1 (1:Int))then
 (match V8 N b4.2.1 (8:Int)with
 | some r24=>(gd (fits (b3.length+r24.length) 1)
 (let x25:=(b3++r24)
 rec b0 (aa .i64 (b1+(1:Int))) b2 x25 b4))
 | none=>none)
 else
 (bif (eqi b1 (0:Int))then
 (match V8 N b4.1 (8:Int)with
 | some r26=>(gd (fits (b3.length+r26.length) 1)
 (let x27:=(b3++r26)
 rec b0 (aa .i64 (b1+(1:Int))) b2 x27 b4))
 | none=>none)
 else
 (none)))))
 else
 (some (((),((),b0)),(b2,(b3,()))))
def z15(N:Nat)(n:Nat):=
 itF (fun _ _ _ _ _=>none) (J1 N) n
theorem z1v(N:Nat)(n:Nat):z15 N (n+1)=J1 N (z15 N n):=rfl
def z1w(N:Nat)(rec:Int->Z6->(List Int)->Option ((Unit×((List Int)×Unit))))(b0:Int)(b1:Z6)(b2:(List Int)):Option ((Unit×((List Int)×Unit))):=
 let x32:=(decide (b0<(b1.2.2.2.2.length:Int)))
 bif x32 then
 (gd (inB b0 (b1.2.2.2.2.length))
 (match zdr N (rdL b1.2.2.2.2 b0 U7)with
 | some r33=>(gd (fits (b2.length+r33.length) 1)
 (let x34:=(b2++r33)
 rec (aa .i64 (b0+(1:Int))) b1 x34))
 | none=>none))
 else
 (some ((),(b2,())))
def z7w(N:Nat)(n:Nat):=
 itF (fun _ _ _=>none) (z1w N) n
theorem zem(N:Nat)(n:Nat):z7w N (n+1)=z1w N (z7w N n):=rfl
def z1x(N:Nat)(rec:Int->Z6->(List Int)->Option y9g)(b0:Int)(b1:Z6)(b2:(List Int)):Option y9g:=
 let x19:=(decide (b0<(b1.2.2.2.1.length:Int)))
 bif x19 then
 (gd (inB b0 (b1.2.2.2.1.length))
 (gd (inB b0 (b1.2.2.2.1.length))
 (gd (inB b0 (b1.2.2.2.1.length))
 (gd (inB b0 (b1.2.2.2.1.length))
 (match z15 N N b0 (0:Int) b1 b2 (((rdL b1.2.2.2.1 b0 z5t).1).1,(((rdL b1.2.2.2.1 b0 z5t).1).2,((rdL b1.2.2.2.1 b0 z5t).2)))with
 | some r28=>(rec (aa .i64 (r28.1.2.2+(1:Int))) r28.2.1 r28.2.2.1)
 | none=>none)))))
 else
 (some (((),()),(b1,(b2,()))))
def z7x(N:Nat)(n:Nat):=
 itF (fun _ _ _=>none) (z1x N) n
theorem zen(N:Nat)(n:Nat):z7x N (n+1)=z1x N (z7x N n):=rfl
def z1y(N:Nat)(rec:Int->Z6->(List Int)->Option ((Unit×((List Int)×Unit))))(b0:Int)(b1:Z6)(b2:(List Int)):Option ((Unit×((List Int)×Unit))):=
 bif (decide (b0<(b1.1.length:Int)))then
 (gd (inB b0 (b1.1.length))
 (match zcx N ((rdL b1.1 b0 X5).1)with
 | some r4=>(gd (fits (b2.length+r4.length) 1)
 (let x5:=(b2++r4)
 gd (inB b0 (b1.1.length))
 (match zcx N (((rdL b1.1 b0 X5).2).1)with
 | some r6=>(gd (fits (x5.length+r6.length) 1)
 (let x7:=(x5++r6)
 gd (inB b0 (b1.1.length))
 (match V8 N (((rdL b1.1 b0 X5).2).2) (4:Int)with
 | some r8=>(gd (fits (x7.length+r8.length) 1)
 (let x9:=(x7++r8)
 rec (aa .i64 (b0+(1:Int))) b1 x9))
 | none=>none)))
 | none=>none)))
 | none=>none))
 else
 (some ((),(b2,())))
def z7y(N:Nat)(n:Nat):=
 itF (fun _ _ _=>none) (z1y N) n
theorem zeo(N:Nat)(n:Nat):z7y N (n+1)=z1y N (z7y N n):=rfl
def z1z(N:Nat)(rec:Int->Z6->(List Int)->Option y9g)(b0:Int)(b1:Z6)(b2:(List Int)):Option y9g:=
 bif (decide (b0<(b1.2.1.length:Int)))then
 (gd (inB b0 (b1.2.1.length))
 (match zcx N (rdL b1.2.1 b0 ([]:List UInt8))with
 | some r16=>(gd (fits (b2.length+r16.length) 1)
 (let x17:=(b2++r16)
 rec (aa .i64 (b0+(1:Int))) b1 x17))
 | none=>none))
 else
 (some (((),()),(b1,(b2,()))))
def z7z(N:Nat)(n:Nat):=
 itF (fun _ _ _=>none) (z1z N) n
theorem zep(N:Nat)(n:Nat):z7z N (n+1)=z1z N (z7z N n):=rfl
def z20(N:Nat)(rec:Int->Z6->(List Int)->Option y9g)(b0:Int)(b1:Z6)(b2:(List Int)):Option y9g:=
 bif (decide (b0<(b1.2.2.1.length:Int)))then
 (gd (inB b0 (b1.2.2.1.length))
 (match V8 N (rdL b1.2.2.1 b0 (0:Int)) (4:Int)with
 | some r13=>(gd (fits (b2.length+r13.length) 1)
 (let x14:=(b2++r13)
 rec (aa .i64 (b0+(1:Int))) b1 x14))
 | none=>none))
 else
 (some (((),()),(b1,(b2,()))))
def z80(N:Nat)(n:Nat):=
 itF (fun _ _ _=>none) (z20 N) n
theorem zeq(N:Nat)(n:Nat):z80 N (n+1)=z20 N (z80 N n):=rfl
def z4x(N:Nat)(a0:Z6):Option ((List Int)):=
 match zih N a0 (([]:List UInt8),([]:List UInt8))with
 | some r1=>(bif (!r1)then
 (some ([]:List Int))
 else
 (bif (eqi (a0.2.2.1.length:Int) (0:Int))then
 (match V8 N (a0.1.length:Int) (4:Int)with
 | some r2=>(gd (fits (1+r2.length) 1)
 (let x3:=(([(76:Int)]:List Int)++r2)
 match z7y N N (0:Int) a0 x3 with
 | some r10=>(some r10.2.1)
 | none=>none))
 | none=>none)
 else
 (match V8 N (a0.2.2.1.length:Int) (4:Int)with
 | some r11=>(gd (fits (1+r11.length) 1)
 (let x12:=(([(78:Int)]:List Int)++r11)
 match z80 N N (0:Int) a0 x12 with
 | some r15=>(match z7z N N (0:Int) r15.2.1 r15.2.2.1 with
 | some r18=>(match z7x N N (0:Int) r18.2.1 r18.2.2.1 with
 | some r29=>(match V8 N (r29.2.1.2.2.2.2.length:Int) (4:Int)with
 | some r30=>(gd (fits (r29.2.2.1.length+r30.length) 1)
 (let x31:=(r29.2.2.1++r30)
 match z7w N N (0:Int) r29.2.1 x31 with
 | some r35=>(some r35.2.1)
 | none=>none))
 | none=>none)
 | none=>none)
 | none=>none)
 | none=>none))
 | none=>none)))
 | none=>none
def z1u(N:Nat)(rec:(List Int)->Int->Int->Option ((Int×Unit)))(b0:(List Int))(b1 b2:Int):Option ((Int×Unit)):=
 bif (decide (b2<(b0.length:Int)))then
 (gd (inB b2 (b0.length))
 (let x1:=(aa .u64 (((BitVec.ofInt (bj .u64) b1^^^BitVec.ofInt (bj .u64) (aa .u64 ((rdL b0 b2 (0:Int))))).toNat:Int)))
 let x2:=(aa .u64 (x1*(1099511628211:Int)))
 rec b0 x2 (aa .i64 (b2+(1:Int)))))
 else
 (some (b1,()))
def z7v(N:Nat)(n:Nat):=
 itF (fun _ _ _=>none) (z1u N) n
theorem zel(N:Nat)(n:Nat):z7v N (n+1)=z1u N (z7v N n):=rfl
def z18(N:Nat)(a0:(List Int)):Option (Int):=
 match z7v N N a0 (14695981039346656037:Int) (0:Int)with
 | some r3=>(some r3.1)
 | none=>none
def zcl(N:Nat)(a0:V2)(a1:Int):Option (Bool):=
 bif (decide ((0:Int)<=a1))then
 (some (decide (a1<(a0.2.1.length:Int))))
 else
 (some false)
def z7f(N:Nat)(rec:Int->(List Int)->Int->V2->Option (((List Int)×Unit)))(b0:Int)(b1:(List Int))(b2:Int)(b3:V2):Option (((List Int)×Unit)):=
 bif (decide (b2<(b3.2.2.length:Int)))then
 (gd (inB b2 (b3.2.2.length))
 (bif (!((rdL b3.2.2 b2 z1a).1))then
 (gd (inB b2 (b3.2.2.length))
 (bif (eqi (((rdL b3.2.2 b2 z1a).2).1) b0)then
 (gd (inB b2 (b3.2.2.length))
 (rec b0 (((rdL b3.2.2 b2 z1a).2).2) (aa .i64 (b2+(1:Int))) b3))
 else
 (rec b0 b1 (aa .i64 (b2+(1:Int))) b3)))
 else
 (rec b0 b1 (aa .i64 (b2+(1:Int))) b3)))
 else
 (some (b1,()))
def z6a(N:Nat)(n:Nat):=
 itF (fun _ _ _ _=>none) (z7f N) n
theorem zts(N:Nat)(n:Nat):z6a N (n+1)=z7f N (z6a N n):=rfl
def zk4(N:Nat)(a0:V2)(a1:Int):Option (((List Int)×Int)):=
 (zcl N a0 a1).bind fun r1=>
 bif (!r1)then
 (some (([]:List Int),(230:Int)))
 else
 (gd (inB a1 (a0.2.1.length))
 ((z6a N N a1 (rdL a0.2.1 a1 ([]:List Int)) (0:Int) a0).bind fun r2=>
 some (r2.1,(0:Int))))
def zld(N:Nat)(a0:Z5)(a1:Int)(a2:Z6):Option (Bool):=
 let x1:=(decide ((a0.2.2.2.2.2.1.length:Int)<=a1))
 bif x1 then
 (some false)
 else
 (gd (inB a1 (a0.2.2.2.2.2.1.length))
 (let x2:=(decide ((rdL a0.2.2.2.2.2.1 a1 (0:Int))<(0:Int)))
 bif x2 then
 (some false)
 else
 (gd (inB a1 (a0.2.2.2.2.2.1.length))
 ((zk4 N a0.1 (rdL a0.2.2.2.2.2.1 a1 (0:Int))).bind fun r3=>
 (z4x N a2).bind fun r4=>
 some (eqs (zmn r3.1) (zmn r4))))))
def z1l(N:Nat)(rec:Int->Int->V0->Option ((Int×Unit)))(b0 b1:Int)(b2:V0):Option ((Int×Unit)):=
 bif (decide (b1<(b2.1.length:Int)))then
 (gd (inB b1 (b2.1.length))
 (bif (!(rdL b2.1 b1 false))then
 (rec (aa .i64 (b0+(1:Int))) (aa .i64 (b1+(1:Int))) b2)
 else
 (rec b0 (aa .i64 (b1+(1:Int))) b2)))
 else
 (some (b0,()))
def z7p(N:Nat)(n:Nat):=
 itF (fun _ _ _=>none) (z1l N) n
theorem zed(N:Nat)(n:Nat):z7p N (n+1)=z1l N (z7p N n):=rfl
def znq(N:Nat)(a0:V0):Option (Int):=
 (z7p N N (0:Int) (0:Int) a0).bind fun r1=>
 some r1.1
def zrr(N:Nat)(a0:V0):Option (Int):=
 (znq N a0).bind fun r1=>
 some (aa .i64 (r1-a0.2.2))
def z1k(N:Nat)(rec:Int->V0->(List Bool)->Option you)(b0:Int)(b1:V0)(b2:(List Bool)):Option you:=
 bif (decide (b0<(b2.length:Int)))then
 (gd (inB b0 (b2.length))
 (bif (!(rdL b2 b0 false))then
 (gd (inB b0 (b2.length))
 (some (.inl ((),(((),(b1.2.1,(b1.2.2,(b0,(0:Int))))),((setL b2 b0 true),()))))))
 else
 (rec (aa .i64 (b0+(1:Int))) b1 b2)))
 else
 (some (.inr (((),()),(b1,((),())))))
def z5k(N:Nat)(n:Nat):=
 itF (fun _ _ _=>none) (z1k N) n
theorem zec(N:Nat)(n:Nat):z5k N (n+1)=z1k N (z5k N n):=rfl
def znp(N:Nat)(a0:V0):Option (zjn):=
 gd (fits (0+a0.1.length) 1)
 (let x1:=(([]:List Bool)++a0.1)
 (z5k N N (0:Int) a0 x1).bind fun r2=>
 match r2 with
 | .inl r3=>(some ((r3.2.2.1,(r3.2.1.2.1,r3.2.1.2.2.1)),r3.2.1.2.2.2))
 | .inr r4=>(some (r4.2.1,((0:Int),(250:Int)))))
def ref25_Take(N:Nat)(a0:V0):Option (zjn):=
 (zrr N a0).bind fun r1=>
 bif (decide (r1<(1:Int)))then
 (some (a0,((0:Int),(250:Int))))
 else
 ((znp N a0).bind fun r2=>
 some r2)
def z12(N:Nat)(a0:V2):Option ((Int×((List (List Int))×(List Y9)))):=
 gd (fits (0+a0.2.1.length) 24)
 (let x1:=(([]:List (List Int))++a0.2.1)
 gd (fits (0+a0.2.2.length) 40)
 (let x2:=(([]:List Y9)++a0.2.2)
 some (a0.1,(x1,x2))))
def ref23_Put(N:Nat)(a0:V2)(a1:Int)(a2:(List Int)):Option ((V2×Int)):=
 (zcl N a0 a1).bind fun r1=>
 bif (!r1)then
 (some (a0,(230:Int)))
 else
 (bif (decide (a0.1<(a2.length:Int)))then
 (some (a0,(230:Int)))
 else
 ((z12 N a0).bind fun r2=>
 gd (fits (0+a2.length) 1)
 (let x3:=(([]:List Int)++a2)
 gd (fits (r2.2.2.length+1) 40)
 (let x4:=(r2.2.2++([(false,(a1,x3))]:List Y9))
 some ((r2.1,(r2.2.1,x4)),(0:Int))))))
def z8f(N:Nat)(a0:Z5)(a1:(List Int)):Option ((Z5×Int)):=
 (ref25_Take N a0.2.1).bind fun r1=>
 bif (!(eqi r1.2.2 (0:Int)))then
 (some (a0,(-1:Int)))
 else
 ((ref23_Put N a0.1 r1.2.1 a1).bind fun r2=>
 bif (!(eqi r2.2 (0:Int)))then
 (some (a0,(-1:Int)))
 else
 (some ((r2.1,(r1.1,a0.2.2)),r1.2.1)))
def zcg(N:Nat)(a0:Int)(a1:(List (List Int)))(a2:(List Y9))(a3:(List Bool))(a4:(List Int))(a5 a6 a7 a8:Int)(a9 a10 a11 a12:(List Int)):Option (((Ty2_×Int)×((List Int)×((List Int)×Unit)))):=
 (ref25_Take N (a3,(a4,a5))).bind fun r1=>
 bif (!(eqi r1.2.2 (0:Int)))then
 (some (((a0,(a1,(a2,(a3,(a4,(a5,(a6,(a7,(a8,((),((),a9))))))))))),(-1:Int)),(a10,(a11,()))))
 else
 ((ref23_Put N (a0,(a1,a2)) r1.2.1 a12).bind fun r2=>
 bif (!(eqi r2.2 (0:Int)))then
 (some (((a0,(a1,(a2,(a3,(a4,(a5,(a6,(a7,(a8,((),((),a9))))))))))),(-1:Int)),(a10,(a11,()))))
 else
 (some (((r2.1.1,(r2.1.2.1,(r2.1.2.2,(r1.1.1,(r1.1.2.1,(r1.1.2.2,(a6,(a7,(a8,((),((),a9))))))))))),r1.2.1),(a10,(a11,())))))
def z5j(N:Nat)(b0 b1 b2 b3:Int)(b4:(List (List Int)))(b5:(List Y9))(b6:(List Bool))(b7:(List Int))(b8 b9 b10 b11:Int)(b12 b13 b14:(List Int))(b15:Z4)(b16:Z5)(b17:(List Int)):Option Ty8_:=
 bif (decide (b0<(b15.1.length:Int)))then
 (gd (fits (b13.length+1) 8)
 (let x16:=(b13++([b1]:List Int))
 gd (fits (b14.length+1) 8)
 (let x17:=(b14++([b2]:List Int))
 some (((),((),((),((),((),b0))))),((b3,(b4,(b5,(b6,(b7,(b8,(b9,(b10,(b11,((),((),b12))))))))))),(x16,(x17,(b15,((),(b16,(b17,())))))))))))
 else
 (some (((),((),((),((),((),b0))))),((b3,(b4,(b5,(b6,(b7,(b8,(b9,(b10,(b11,((),((),b12))))))))))),(b13,(b14,(b15,((),(b16,(b17,())))))))))
def z3p(N:Nat)(b0 b1 b2:Int)(b3:Bool)(b4:Int)(b5:(List (List Int)))(b6:(List Y9))(b7:(List Bool))(b8:(List Int))(b9 b10 b11 b12:Int)(b13 b14 b15:(List Int))(b16:Z4)(b17:Z5)(b18:(List Int))(b19:Z7):Option (((Unit×(Unit×(Unit×(Unit×(Unit×(Int×(Int×Int)))))))×(Ty2_×((List Int)×((List Int)×(Z4×(Unit×(Z5×((List Int)×Unit))))))))⊕((Unit×((List Int)×Bool))×(Z5×Unit))):=
 bif b3 then
 (gd (inB b0 (b17.2.2.2.2.2.1.length))
 (gd (inB b0 (b17.2.2.2.2.2.2.1.length))
 (some (.inl (((),((),((),((),((),(b0,((rdL b17.2.2.2.2.2.1 b0 (0:Int)),(rdL b17.2.2.2.2.2.2.1 b0 (0:Int))))))))),((b4,(b5,(b6,(b7,(b8,(b9,(b10,(b11,(b12,((),((),b13))))))))))),(b14,(b15,(b16,((),(b17,(b18,()))))))))))))
 else
 (bif b19.1 then
 (bif (!b19.2.1)then
 ((z4x N b19.2.2.2).bind fun r3=>
 (z18 N r3).bind fun r4=>
 (zld N b17 b0 b19.2.2.2).bind fun r5=>
 bif r5 then
 (gd (inB b0 (b17.2.2.2.2.2.1.length))
 (let x6:=(decide ((rdL b17.2.2.2.2.2.1 b0 (0:Int))<(0:Int)))
 bif x6 then
 (some (.inr (((),(([]:List Int),false)),(b17,()))))
 else
 (some (.inl (((),((),((),((),((),(b0,((rdL b17.2.2.2.2.2.1 b0 (0:Int)),r4))))))),((b4,(b5,(b6,(b7,(b8,(b9,(b10,(b11,(b12,((),((),b13))))))))))),(b14,(b15,(b16,((),(b17,(b18,()))))))))))))
 else
 ((zcg N b4 b5 b6 b7 b8 b9 b10 b11 b12 b13 b14 b15 r3).bind fun r7=>
 bif (decide (r7.1.2<(0:Int)))then
 (some (.inr (((),(([]:List Int),false)),(b17,()))))
 else
 (some (.inl (((),((),((),((),((),(b0,(r7.1.2,r4))))))),((r7.1.1.1,(r7.1.1.2.1,(r7.1.1.2.2.1,(r7.1.1.2.2.2.1,(r7.1.1.2.2.2.2.1,(r7.1.1.2.2.2.2.2.1,(r7.1.1.2.2.2.2.2.2.1,(r7.1.1.2.2.2.2.2.2.2.1,(r7.1.1.2.2.2.2.2.2.2.2.1,((),((),r7.1.1.2.2.2.2.2.2.2.2.2.2.2))))))))))),(r7.2.1,(r7.2.2.1,(b16,((),(b17,(b18,()))))))))))))
 else
 (some (.inl (((),((),((),((),((),(b0,(b1,b2))))))),((b4,(b5,(b6,(b7,(b8,(b9,(b10,(b11,(b12,((),((),b13))))))))))),(b14,(b15,(b16,((),(b17,(b18,())))))))))))
 else
 (some (.inl (((),((),((),((),((),(b0,(b1,b2))))))),((b4,(b5,(b6,(b7,(b8,(b9,(b10,(b11,(b12,((),((),b13))))))))))),(b14,(b15,(b16,((),(b17,(b18,())))))))))))
def z3q(N:Nat)(b0 b1 b2 b3:Int)(b4:(List (List Int)))(b5:(List Y9))(b6:(List Bool))(b7:(List Int))(b8 b9 b10 b11:Int)(b12 b13 b14:(List Int))(b15:Z4)(b16:Z5)(b17:(List Int)):Option Ty8_:=
 let x11:=(decide (b0<(b16.2.2.2.2.2.1.length:Int)))
 bif x11 then
 (gd (inB b0 (b16.2.2.2.2.2.1.length))
 (let x12:=(decide ((0:Int)<=(rdL b16.2.2.2.2.2.1 b0 (0:Int))))
 bif x12 then
 (gd (inB b0 (b16.2.2.2.2.2.1.length))
 (let x13:=(!(eqi (rdL b16.2.2.2.2.2.1 b0 (0:Int)) b1))
 bif x13 then
 (gd (inB b0 (b16.2.2.2.2.2.1.length))
 (let x14:=([(rdL b16.2.2.2.2.2.1 b0 (0:Int))]:List Int)
 gd (fits (b17.length+x14.length) 8)
 (let x15:=(b17++x14)
 (z5j N b0 b1 b2 b3 b4 b5 b6 b7 b8 b9 b10 b11 b12 b13 b14 b15 b16 x15).bind fun r18=>
 some (((),((),((),((),((),r18.1.2.2.2.2.2))))),((r18.2.1.1,(r18.2.1.2.1,(r18.2.1.2.2.1,(r18.2.1.2.2.2.1,(r18.2.1.2.2.2.2.1,(r18.2.1.2.2.2.2.2.1,(r18.2.1.2.2.2.2.2.2.1,(r18.2.1.2.2.2.2.2.2.2.1,(r18.2.1.2.2.2.2.2.2.2.2.1,((),((),r18.2.1.2.2.2.2.2.2.2.2.2.2.2))))))))))),(r18.2.2.1,(r18.2.2.2.1,(r18.2.2.2.2.1,((),(r18.2.2.2.2.2.2.1,(r18.2.2.2.2.2.2.2.1,())))))))))))
 else
 ((z5j N b0 b1 b2 b3 b4 b5 b6 b7 b8 b9 b10 b11 b12 b13 b14 b15 b16 b17).bind fun r19=>
 some (((),((),((),((),((),r19.1.2.2.2.2.2))))),((r19.2.1.1,(r19.2.1.2.1,(r19.2.1.2.2.1,(r19.2.1.2.2.2.1,(r19.2.1.2.2.2.2.1,(r19.2.1.2.2.2.2.2.1,(r19.2.1.2.2.2.2.2.2.1,(r19.2.1.2.2.2.2.2.2.2.1,(r19.2.1.2.2.2.2.2.2.2.2.1,((),((),r19.2.1.2.2.2.2.2.2.2.2.2.2.2))))))))))),(r19.2.2.1,(r19.2.2.2.1,(r19.2.2.2.2.1,((),(r19.2.2.2.2.2.2.1,(r19.2.2.2.2.2.2.2.1,())))))))))))
 else
 ((z5j N b0 b1 b2 b3 b4 b5 b6 b7 b8 b9 b10 b11 b12 b13 b14 b15 b16 b17).bind fun r20=>
 some (((),((),((),((),((),r20.1.2.2.2.2.2))))),((r20.2.1.1,(r20.2.1.2.1,(r20.2.1.2.2.1,(r20.2.1.2.2.2.1,(r20.2.1.2.2.2.2.1,(r20.2.1.2.2.2.2.2.1,(r20.2.1.2.2.2.2.2.2.1,(r20.2.1.2.2.2.2.2.2.2.1,(r20.2.1.2.2.2.2.2.2.2.2.1,((),((),r20.2.1.2.2.2.2.2.2.2.2.2.2.2))))))))))),(r20.2.2.1,(r20.2.2.2.1,(r20.2.2.2.2.1,((),(r20.2.2.2.2.2.2.1,(r20.2.2.2.2.2.2.2.1,())))))))))))
 else
 ((z5j N b0 b1 b2 b3 b4 b5 b6 b7 b8 b9 b10 b11 b12 b13 b14 b15 b16 b17).bind fun r21=>
 some (((),((),((),((),((),r21.1.2.2.2.2.2))))),((r21.2.1.1,(r21.2.1.2.1,(r21.2.1.2.2.1,(r21.2.1.2.2.2.1,(r21.2.1.2.2.2.2.1,(r21.2.1.2.2.2.2.2.1,(r21.2.1.2.2.2.2.2.2.1,(r21.2.1.2.2.2.2.2.2.2.1,(r21.2.1.2.2.2.2.2.2.2.2.1,((),((),r21.2.1.2.2.2.2.2.2.2.2.2.2.2))))))))))),(r21.2.2.1,(r21.2.2.2.1,(r21.2.2.2.2.1,((),(r21.2.2.2.2.2.2.1,(r21.2.2.2.2.2.2.2.1,())))))))))
def z3r(N:Nat)(b0 b1:Int)(b2:(List (List Int)))(b3:(List Y9))(b4:(List Bool))(b5:(List Int))(b6 b7 b8 b9:Int)(b10 b11 b12:(List Int))(b13:Z4)(b14:Z5)(b15:(List Int)):Option Ty8_:=
 some (((),((),((),((),((),(aa .i64 (b0+(1:Int)))))))),((b1,(b2,(b3,(b4,(b5,(b6,(b7,(b8,(b9,((),((),b10))))))))))),(b11,(b12,(b13,((),(b14,(b15,()))))))))
def z1j(N:Nat)(rec:Int->Int->(List (List Int))->(List Y9)->(List Bool)->(List Int)->Int->Int->Int->Int->(List Int)->(List Int)->(List Int)->Z4->Z5->(List Int)->Option yox)(b0 b1:Int)(b2:(List (List Int)))(b3:(List Y9))(b4:(List Bool))(b5:(List Int))(b6 b7 b8 b9:Int)(b10 b11 b12:(List Int))(b13:Z4)(b14:Z5)(b15:(List Int)):Option yox:=
 let x1:=(bif decide ((b13.1.length:Int)<(b14.2.2.2.2.2.1.length:Int))then(b14.2.2.2.2.2.1.length:Int)else(b13.1.length:Int))
 bif (decide (b0<x1))then
 (bif (decide (b0<(b13.1.length:Int)))then
 (gd (inB b0 (b13.1.length))
 (bif (rdL b13.1 b0 X3).1 then
 (bif ((rdL b13.1 b0 X3).2).1 then
 (let x2:=(decide (b0<(b14.2.2.2.2.2.1.length:Int)))
 (z3p N b0 (-1:Int) (0:Int) x2 b1 b2 b3 b4 b5 b6 b7 b8 b9 b10 b11 b12 b13 b14 b15 (rdL b13.1 b0 X3)).bind fun r8=>
 match r8 with
 | .inl r9=>((z3q N r9.1.2.2.2.2.2.1 r9.1.2.2.2.2.2.2.1 r9.1.2.2.2.2.2.2.2 r9.2.1.1 r9.2.1.2.1 r9.2.1.2.2.1 r9.2.1.2.2.2.1 r9.2.1.2.2.2.2.1 r9.2.1.2.2.2.2.2.1 r9.2.1.2.2.2.2.2.2.1 r9.2.1.2.2.2.2.2.2.2.1 r9.2.1.2.2.2.2.2.2.2.2.1 r9.2.1.2.2.2.2.2.2.2.2.2.2.2 r9.2.2.1 r9.2.2.2.1 r9.2.2.2.2.1 r9.2.2.2.2.2.2.1 r9.2.2.2.2.2.2.2.1).bind fun r22=>
 (z3r N r22.1.2.2.2.2.2 r22.2.1.1 r22.2.1.2.1 r22.2.1.2.2.1 r22.2.1.2.2.2.1 r22.2.1.2.2.2.2.1 r22.2.1.2.2.2.2.2.1 r22.2.1.2.2.2.2.2.2.1 r22.2.1.2.2.2.2.2.2.2.1 r22.2.1.2.2.2.2.2.2.2.2.1 r22.2.1.2.2.2.2.2.2.2.2.2.2.2 r22.2.2.1 r22.2.2.2.1 r22.2.2.2.2.1 r22.2.2.2.2.2.2.1 r22.2.2.2.2.2.2.2.1).bind fun r23=>
 rec r23.1.2.2.2.2.2 r23.2.1.1 r23.2.1.2.1 r23.2.1.2.2.1 r23.2.1.2.2.2.1 r23.2.1.2.2.2.2.1 r23.2.1.2.2.2.2.2.1 r23.2.1.2.2.2.2.2.2.1 r23.2.1.2.2.2.2.2.2.2.1 r23.2.1.2.2.2.2.2.2.2.2.1 r23.2.1.2.2.2.2.2.2.2.2.2.2.2 r23.2.2.1 r23.2.2.2.1 r23.2.2.2.2.1 r23.2.2.2.2.2.2.1 r23.2.2.2.2.2.2.2.1)
 | .inr r10=>(some (.inl (((),(r10.1.2.1,r10.1.2.2)),(r10.2.1,())))))
 else
 ((z3p N b0 (-1:Int) (0:Int) false b1 b2 b3 b4 b5 b6 b7 b8 b9 b10 b11 b12 b13 b14 b15 (rdL b13.1 b0 X3)).bind fun r24=>
 match r24 with
 | .inl r25=>((z3q N r25.1.2.2.2.2.2.1 r25.1.2.2.2.2.2.2.1 r25.1.2.2.2.2.2.2.2 r25.2.1.1 r25.2.1.2.1 r25.2.1.2.2.1 r25.2.1.2.2.2.1 r25.2.1.2.2.2.2.1 r25.2.1.2.2.2.2.2.1 r25.2.1.2.2.2.2.2.2.1 r25.2.1.2.2.2.2.2.2.2.1 r25.2.1.2.2.2.2.2.2.2.2.1 r25.2.1.2.2.2.2.2.2.2.2.2.2.2 r25.2.2.1 r25.2.2.2.1 r25.2.2.2.2.1 r25.2.2.2.2.2.2.1 r25.2.2.2.2.2.2.2.1).bind fun r27=>
 (z3r N r27.1.2.2.2.2.2 r27.2.1.1 r27.2.1.2.1 r27.2.1.2.2.1 r27.2.1.2.2.2.1 r27.2.1.2.2.2.2.1 r27.2.1.2.2.2.2.2.1 r27.2.1.2.2.2.2.2.2.1 r27.2.1.2.2.2.2.2.2.2.1 r27.2.1.2.2.2.2.2.2.2.2.1 r27.2.1.2.2.2.2.2.2.2.2.2.2.2 r27.2.2.1 r27.2.2.2.1 r27.2.2.2.2.1 r27.2.2.2.2.2.2.1 r27.2.2.2.2.2.2.2.1).bind fun r28=>
 rec r28.1.2.2.2.2.2 r28.2.1.1 r28.2.1.2.1 r28.2.1.2.2.1 r28.2.1.2.2.2.1 r28.2.1.2.2.2.2.1 r28.2.1.2.2.2.2.2.1 r28.2.1.2.2.2.2.2.2.1 r28.2.1.2.2.2.2.2.2.2.1 r28.2.1.2.2.2.2.2.2.2.2.1 r28.2.1.2.2.2.2.2.2.2.2.2.2.2 r28.2.2.1 r28.2.2.2.1 r28.2.2.2.2.1 r28.2.2.2.2.2.2.1 r28.2.2.2.2.2.2.2.1)
 | .inr r26=>(some (.inl (((),(r26.1.2.1,r26.1.2.2)),(r26.2.1,()))))))
 else
 ((z3p N b0 (-1:Int) (0:Int) false b1 b2 b3 b4 b5 b6 b7 b8 b9 b10 b11 b12 b13 b14 b15 (rdL b13.1 b0 X3)).bind fun r29=>
 match r29 with
 | .inl r30=>((z3q N r30.1.2.2.2.2.2.1 r30.1.2.2.2.2.2.2.1 r30.1.2.2.2.2.2.2.2 r30.2.1.1 r30.2.1.2.1 r30.2.1.2.2.1 r30.2.1.2.2.2.1 r30.2.1.2.2.2.2.1 r30.2.1.2.2.2.2.2.1 r30.2.1.2.2.2.2.2.2.1 r30.2.1.2.2.2.2.2.2.2.1 r30.2.1.2.2.2.2.2.2.2.2.1 r30.2.1.2.2.2.2.2.2.2.2.2.2.2 r30.2.2.1 r30.2.2.2.1 r30.2.2.2.2.1 r30.2.2.2.2.2.2.1 r30.2.2.2.2.2.2.2.1).bind fun r32=>
 (z3r N r32.1.2.2.2.2.2 r32.2.1.1 r32.2.1.2.1 r32.2.1.2.2.1 r32.2.1.2.2.2.1 r32.2.1.2.2.2.2.1 r32.2.1.2.2.2.2.2.1 r32.2.1.2.2.2.2.2.2.1 r32.2.1.2.2.2.2.2.2.2.1 r32.2.1.2.2.2.2.2.2.2.2.1 r32.2.1.2.2.2.2.2.2.2.2.2.2.2 r32.2.2.1 r32.2.2.2.1 r32.2.2.2.2.1 r32.2.2.2.2.2.2.1 r32.2.2.2.2.2.2.2.1).bind fun r33=>
 rec r33.1.2.2.2.2.2 r33.2.1.1 r33.2.1.2.1 r33.2.1.2.2.1 r33.2.1.2.2.2.1 r33.2.1.2.2.2.2.1 r33.2.1.2.2.2.2.2.1 r33.2.1.2.2.2.2.2.2.1 r33.2.1.2.2.2.2.2.2.2.1 r33.2.1.2.2.2.2.2.2.2.2.1 r33.2.1.2.2.2.2.2.2.2.2.2.2.2 r33.2.2.1 r33.2.2.2.1 r33.2.2.2.2.1 r33.2.2.2.2.2.2.1 r33.2.2.2.2.2.2.2.1)
 | .inr r31=>(some (.inl (((),(r31.1.2.1,r31.1.2.2)),(r31.2.1,())))))))
 else
 ((z3p N b0 (-1:Int) (0:Int) false b1 b2 b3 b4 b5 b6 b7 b8 b9 b10 b11 b12 b13 b14 b15 (false,(false,((0:Int),(([]:List Z3),(([]:List (List UInt8)),(([]:List Int),(([]:List Y6),([]:List Z1))))))))).bind fun r34=>
 match r34 with
 | .inl r35=>((z3q N r35.1.2.2.2.2.2.1 r35.1.2.2.2.2.2.2.1 r35.1.2.2.2.2.2.2.2 r35.2.1.1 r35.2.1.2.1 r35.2.1.2.2.1 r35.2.1.2.2.2.1 r35.2.1.2.2.2.2.1 r35.2.1.2.2.2.2.2.1 r35.2.1.2.2.2.2.2.2.1 r35.2.1.2.2.2.2.2.2.2.1 r35.2.1.2.2.2.2.2.2.2.2.1 r35.2.1.2.2.2.2.2.2.2.2.2.2.2 r35.2.2.1 r35.2.2.2.1 r35.2.2.2.2.1 r35.2.2.2.2.2.2.1 r35.2.2.2.2.2.2.2.1).bind fun r37=>
 (z3r N r37.1.2.2.2.2.2 r37.2.1.1 r37.2.1.2.1 r37.2.1.2.2.1 r37.2.1.2.2.2.1 r37.2.1.2.2.2.2.1 r37.2.1.2.2.2.2.2.1 r37.2.1.2.2.2.2.2.2.1 r37.2.1.2.2.2.2.2.2.2.1 r37.2.1.2.2.2.2.2.2.2.2.1 r37.2.1.2.2.2.2.2.2.2.2.2.2.2 r37.2.2.1 r37.2.2.2.1 r37.2.2.2.2.1 r37.2.2.2.2.2.2.1 r37.2.2.2.2.2.2.2.1).bind fun r38=>
 rec r38.1.2.2.2.2.2 r38.2.1.1 r38.2.1.2.1 r38.2.1.2.2.1 r38.2.1.2.2.2.1 r38.2.1.2.2.2.2.1 r38.2.1.2.2.2.2.2.1 r38.2.1.2.2.2.2.2.2.1 r38.2.1.2.2.2.2.2.2.2.1 r38.2.1.2.2.2.2.2.2.2.2.1 r38.2.1.2.2.2.2.2.2.2.2.2.2.2 r38.2.2.1 r38.2.2.2.1 r38.2.2.2.2.1 r38.2.2.2.2.2.2.1 r38.2.2.2.2.2.2.2.1)
 | .inr r36=>(some (.inl (((),(r36.1.2.1,r36.1.2.2)),(r36.2.1,()))))))
 else
 (some (.inr (((),((),())),((b1,(b2,(b3,(b4,(b5,(b6,(b7,(b8,(b9,((),((),b10))))))))))),(b11,(b12,((),(b15,()))))))))
def z13(N:Nat)(n:Nat):=
 itF (fun _ _ _ _ _ _ _ _ _ _ _ _ _ _ _ _=>none) (z1j N) n
theorem zeb(N:Nat)(n:Nat):z13 N (n+1)=z1j N (z13 N n):=rfl
def zdm(N:Nat)(a0:Z5)(a1:Z4):Option ((Z5×((List Int)×Bool))):=
 (z13 N N (0:Int) a0.1.1 a0.1.2.1 a0.1.2.2 a0.2.1.1 a0.2.1.2.1 a0.2.1.2.2 a0.2.2.1 a0.2.2.2.1 a0.2.2.2.2.1 a0.2.2.2.2.2.2.2 ([]:List Int) ([]:List Int) a1 a0 ([]:List Int)).bind fun r39=>
 match r39 with
 | .inl r40=>(some (r40.2.1,(r40.1.2.1,r40.1.2.2)))
 | .inr r41=>(some (((r41.2.1.1,(r41.2.1.2.1,r41.2.1.2.2.1)),((r41.2.1.2.2.2.1,(r41.2.1.2.2.2.2.1,r41.2.1.2.2.2.2.2.1)),(r41.2.1.2.2.2.2.2.2.1,(r41.2.1.2.2.2.2.2.2.2.1,(r41.2.1.2.2.2.2.2.2.2.2.1,(r41.2.2.1,(r41.2.2.2.1,r41.2.1.2.2.2.2.2.2.2.2.2.2.2))))))),(r41.2.2.2.2.2.1,true)))
def z0f(N:Nat)(rec:Int->Int->(List Int)->Option ((Unit×((List Int)×Unit))))(b0 b1:Int)(b2:(List Int)):Option ((Unit×((List Int)×Unit))):=
 bif (decide ((0:Int)<=b1))then
 (gd (decide (0<=(aa .i64 ((8:Int)*b1))))
 (let x1:=(dW b0 (2^min (cK (aa .i64 ((8:Int)*b1))) (bj .u64)))
 gd (fits (b2.length+1) 1)
 (let x2:=(b2++([(aa .u8 (x1))]:List Int))
 rec b0 (aa .i64 (b1-(1:Int))) x2)))
 else
 (some ((),(b2,())))
def z6h(N:Nat)(n:Nat):=
 itF (fun _ _ _=>none) (z0f N) n
theorem zch(N:Nat)(n:Nat):z6h N (n+1)=z0f N (z6h N n):=rfl
def z2r(N:Nat)(a0 a1:Int):Option ((List Int)):=
 (z6h N N a0 (aa .i64 (a1-(1:Int))) ([]:List Int)).bind fun r3=>
 some r3.2.1
def w5(N:Nat)(a0 a1:Int):Option ((List Int)):=
 (z2r N (aa .u64 (a0)) a1).bind fun r1=>
 some r1
def z33(N:Nat)(rec:(List (List Int))->Int->(List Int)->Option ((Unit×((List Int)×Unit))))(b0:(List (List Int)))(b1:Int)(b2:(List Int)):Option ((Unit×((List Int)×Unit))):=
 bif (decide (b1<(b0.length:Int)))then
 (gd (inB b1 (b0.length))
 (gd (fits (b2.length+aq (rdL b0 b1 ([]:List Int))) 1)
 (let x1:=(b2++(rdL b0 b1 ([]:List Int)))
 rec b0 (aa .i64 (b1+(1:Int))) x1)))
 else
 (some ((),(b2,())))
def z9m(N:Nat)(n:Nat):=
 itF (fun _ _ _=>none) (z33 N) n
theorem zg2(N:Nat)(n:Nat):z9m N (n+1)=z33 N (z9m N n):=rfl
def z6j(N:Nat)(a0:(List (List Int))):Option ((List Int)):=
 (z9m N N a0 (0:Int) ([]:List Int)).bind fun r2=>
 some r2.2.1
def W3(N:Nat)(a0 a1:Int):Option ((List Int)):=
 (z2r N (aa .u64 (a0)) a1).bind fun r1=>
 some r1
def z0g(N:Nat)(rec:(List Z1)->Int->(List Int)->Option ((Unit×((List Int)×Unit))))(b0:(List Z1))(b1:Int)(b2:(List Int)):Option ((Unit×((List Int)×Unit))):=
 bif (decide (b1<(b0.length:Int)))then
 (gd (inB b1 (b0.length))
 ((zdr N (rdL b0 b1 U7)).bind fun r2=>
 gd (fits (b2.length+r2.length) 1)
 (let x3:=(b2++r2)
 rec b0 (aa .i64 (b1+(1:Int))) x3)))
 else
 (some ((),(b2,())))
def z6i(N:Nat)(n:Nat):=
 itF (fun _ _ _=>none) (z0g N) n
theorem zci(N:Nat)(n:Nat):z6i N (n+1)=z0g N (z6i N n):=rfl
def zbj(N:Nat)(a0:(List Z1)):Option ((List Int)):=
 (w5 N (a0.length:Int) (4:Int)).bind fun r1=>
 (z6i N N a0 (0:Int) r1).bind fun r4=>
 some r4.2.1
def v7(N:Nat)(rec:Int->Int->(List Int)->Option ((Unit×((List Int)×Unit))))(b0 b1:Int)(b2:(List Int)):Option ((Unit×((List Int)×Unit))):=
 bif (decide ((0:Int)<=b1))then
 (gd (decide (0<=(aa .i64 ((8:Int)*b1))))
 (let x1:=(dW b0 (2^min (cK (aa .i64 ((8:Int)*b1))) (bj .u64)))
 gd (fits (b2.length+1) 1)
 (let x2:=(b2++([(aa .u8 (x1))]:List Int))
 rec b0 (aa .i64 (b1-(1:Int))) x2)))
 else
 (some ((),(b2,())))
def z4e(N:Nat)(n:Nat):=
 itF (fun _ _ _=>none) (v7 N) n
theorem zb2(N:Nat)(n:Nat):z4e N (n+1)=v7 N (z4e N n):=rfl
def z5i(N:Nat)(a0 a1:Int):Option ((List Int)):=
 (z4e N N a0 (aa .i64 (a1-(1:Int))) ([]:List Int)).bind fun r3=>
 some r3.2.1
def z03(N:Nat)(rec:Int->Z4->Z5->(List Int)->Option ((Unit×((List Int)×Unit))))(b0:Int)(b1:Z4)(b2:Z5)(b3:(List Int)):Option ((Unit×((List Int)×Unit))):=
 bif (decide (b0<(b1.1.length:Int)))then
 (gd (inB b0 (b1.1.length))
 (bif (!((rdL b1.1 b0 X3).1))then
 (gd (fits (b3.length+1) 1)
 (let x21:=(b3++([(0:Int)]:List Int))
 rec (aa .i64 (b0+(1:Int))) b1 b2 x21))
 else
 (bif ((rdL b1.1 b0 X3).2).1 then
 ((W3 N ((((rdL b1.1 b0 X3).2).2).1) (4:Int)).bind fun r22=>
 gd (inB b0 (b2.2.2.2.2.2.1.length))
 (let x23:=(aa .i64 (((BitVec.ofInt (bj .i64) (rdL b2.2.2.2.2.2.1 b0 (0:Int))&&&BitVec.ofInt (bj .i64) (65535:Int)).toNat:Int)))
 (W3 N x23 (2:Int)).bind fun r24=>
 gd (inB b0 (b2.2.2.2.2.2.2.1.length))
 ((z5i N (rdL b2.2.2.2.2.2.2.1 b0 (0:Int)) (8:Int)).bind fun r25=>
 let x26:=([([(2:Int)]:List Int),r22,r24,r25]:List (List Int))
 (z6j N x26).bind fun r27=>
 gd (fits (b3.length+r27.length) 1)
 (let x28:=(b3++r27)
 rec (aa .i64 (b0+(1:Int))) b1 b2 x28))))
 else
 ((W3 N ((((rdL b1.1 b0 X3).2).2).1) (4:Int)).bind fun r29=>
 gd (inB b0 (b2.2.2.2.2.2.1.length))
 (let x30:=(aa .i64 (((BitVec.ofInt (bj .i64) (rdL b2.2.2.2.2.2.1 b0 (0:Int))&&&BitVec.ofInt (bj .i64) (65535:Int)).toNat:Int)))
 (W3 N x30 (2:Int)).bind fun r31=>
 gd (inB b0 (b2.2.2.2.2.2.2.1.length))
 ((z5i N (rdL b2.2.2.2.2.2.2.1 b0 (0:Int)) (8:Int)).bind fun r32=>
 let x33:=([([(1:Int)]:List Int),r29,r31,r32]:List (List Int))
 (z6j N x33).bind fun r34=>
 gd (fits (b3.length+r34.length) 1)
 (let x35:=(b3++r34)
 rec (aa .i64 (b0+(1:Int))) b1 b2 x35)))))))
 else
 (some ((),(b3,())))
def z2t(N:Nat)(n:Nat):=
 itF (fun _ _ _ _=>none) (z03 N) n
theorem zby(N:Nat)(n:Nat):z2t N (n+1)=z03 N (z2t N n):=rfl
def z04(N:Nat)(rec:Int->Z4->Z5->(List Int)->Option (((Unit×(Unit×Unit))×(Z4×(Z5×((List Int)×Unit))))))(b0:Int)(b1:Z4)(b2:Z5)(b3:(List Int)):Option (((Unit×(Unit×Unit))×(Z4×(Z5×((List Int)×Unit))))):=
 bif (decide (b0<(b1.2.2.1.length:Int)))then
 (gd (inB b0 (b1.2.2.1.length))
 ((W3 N ((rdL b1.2.2.1 b0 X0).1) (4:Int)).bind fun r8=>
 (W3 N (((rdL b1.2.2.1 b0 X0).2).1) (4:Int)).bind fun r9=>
 (W3 N ((((rdL b1.2.2.1 b0 X0).2).2).1) (2:Int)).bind fun r10=>
 let x11:=(aq (((((rdL b1.2.2.1 b0 X0).2).2).2).1):Int)
 (W3 N x11 (1:Int)).bind fun r12=>
 gd (decide (aq (((((rdL b1.2.2.1 b0 X0).2).2).2).1)<maxB))
 (let x13:=(u7 (((((rdL b1.2.2.1 b0 X0).2).2).2).1))
 (zbj N (((((rdL b1.2.2.1 b0 X0).2).2).2).2)).bind fun r14=>
 let x15:=([r8,r9,r10,r12,x13,r14]:List (List Int))
 (z6j N x15).bind fun r16=>
 gd (fits (b3.length+r16.length) 1)
 (let x17:=(b3++r16)
 rec (aa .i64 (b0+(1:Int))) b1 b2 x17))))
 else
 (some (((),((),())),(b1,(b2,(b3,())))))
def z5b(N:Nat)(n:Nat):=
 itF (fun _ _ _ _=>none) (z04 N) n
theorem zbz(N:Nat)(n:Nat):z5b N (n+1)=z04 N (z5b N n):=rfl
def zck(N:Nat)(a0:Z4)(a1:Z5):Option ((List Int)):=
 let x1:=([(67:Int),(aa .u8 (a0.2.1.1)),(aa .u8 (a0.2.1.2.1)),(aa .u8 (a0.2.1.2.2))]:List Int)
 (W3 N a0.2.2.2.1 (4:Int)).bind fun r2=>
 (W3 N a0.2.2.2.2.2.1 (4:Int)).bind fun r3=>
 (W3 N a0.2.2.2.2.1 (2:Int)).bind fun r4=>
 (zbj N a0.2.2.2.2.2.2).bind fun r5=>
 (W3 N (a0.2.2.1.length:Int) (1:Int)).bind fun r6=>
 (z6j N ([x1,r2,r3,r4,r5,r6]:List (List Int))).bind fun r7=>
 (z5b N N (0:Int) a0 a1 r7).bind fun r18=>
 (W3 N (r18.2.1.1.length:Int) (2:Int)).bind fun r19=>
 gd (fits (r18.2.2.2.1.length+r19.length) 1)
 (let x20:=(r18.2.2.2.1++r19)
 (z2t N N (0:Int) r18.2.1 r18.2.2.1 x20).bind fun r36=>
 some r36.2.1)
def z43(N:Nat)(rec:(List Int)->Int->(List (List Int))->Option ((((List Int)×Unit)×((List (List Int))×Unit))))(b0:(List Int))(b1:Int)(b2:(List (List Int))):Option ((((List Int)×Unit)×((List (List Int))×Unit))):=
 bif (decide (b1<(b0.length:Int)))then
 (gd (decide (0<=(0:Int))&&(decide ((0:Int)<=b1)&&decide (b1<=(b0.length:Int))))
 (gd (fits (b2.length+1) 24)
 (let x1:=(b2++([(cut2 b0 (0:Int) b1)]:List (List Int)))
 gd (decide (0<=b1)&&(decide (b1<=(b0.length:Int))&&decide ((b0.length:Int)<=(b0.length:Int))))
 (rec (cut2 b0 b1 (b0.length:Int)) b1 x1))))
 else
 (some ((b0,()),(b2,())))
def z6k(N:Nat)(n:Nat):=
 itF (fun _ _ _=>none) (z43 N) n
theorem zmj(N:Nat)(n:Nat):z6k N (n+1)=z43 N (z6k N n):=rfl
def zfe(N:Nat)(a0:(List Int))(a1:Int):Option ((List (List Int))):=
 (z6k N N a0 a1 ([]:List (List Int))).bind fun r2=>
 gd (fits (r2.2.1.length+1) 24)
 (let x3:=(r2.2.1++([r2.1.1]:List (List Int)))
 some x3)
def z8g(N:Nat)(a0:V2):Option (V2):=
 (z12 N a0).bind fun r1=>
 let x2:=([(true,((0:Int),([]:List Int)))]:List Y9)
 gd (fits (r1.2.2.length+x2.length) 40)
 (let x3:=(r1.2.2++x2)
 some (r1.1,(r1.2.1,x3)))
def z02(N:Nat)(rec:(List Int)->Int->(List Int)->Option ((Unit×((List Int)×Unit))))(b0:(List Int))(b1:Int)(b2:(List Int)):Option ((Unit×((List Int)×Unit))):=
 bif (decide (b1<(b0.length:Int)))then
 (gd (inB b1 (b0.length))
 ((w5 N (rdL b0 b1 (0:Int)) (2:Int)).bind fun r8=>
 gd (fits (b2.length+r8.length) 1)
 (let x9:=(b2++r8)
 rec b0 (aa .i64 (b1+(1:Int))) x9)))
 else
 (some ((),(b2,())))
def z5a(N:Nat)(n:Nat):=
 itF (fun _ _ _=>none) (z02 N) n
theorem zbx(N:Nat)(n:Nat):z5a N (n+1)=z02 N (z5a N n):=rfl
def zcj(N:Nat)(a0:Int)(a1 a2:(List Int)):Option ((List Int)):=
 (w5 N a0 (4:Int)).bind fun r1=>
 (w5 N (a1.length:Int) (4:Int)).bind fun r2=>
 (z18 N a1).bind fun r3=>
 (z2r N r3 (8:Int)).bind fun r4=>
 (w5 N (a2.length:Int) (2:Int)).bind fun r5=>
 let x6:=([([(83:Int)]:List Int),r1,r2,r4,r5]:List (List Int))
 (z6j N x6).bind fun r7=>
 (z5a N N a2 (0:Int) r7).bind fun r10=>
 (z18 N r10.2.1).bind fun r11=>
 (z2r N r11 (8:Int)).bind fun r12=>
 gd (fits (r10.2.1.length+r12.length) 1)
 (let x13:=(r10.2.1++r12)
 some x13)
def zb8(N:Nat)(rec:(List Int)->Int->Int->Option Ty3_)(b0:(List Int))(b1 b2:Int):Option Ty3_:=
 bif (decide (b2<(b0.length:Int)))then
 (gd (inB b2 (b0.length))
 (bif (eqi (rdL b0 b2 (0:Int)) b1)then
 (some (.inl (true,())))
 else
 (rec b0 b1 (aa .i64 (b2+(1:Int))))))
 else
 (some (.inr ((),())))
def zff(N:Nat)(n:Nat):=
 itF (fun _ _ _=>none) (zb8 N) n
theorem yek(N:Nat)(n:Nat):zff N (n+1)=zb8 N (zff N n):=rfl
def y69(N:Nat)(a0:(List Int))(a1:Int):Option (Bool):=
 (zff N N a0 a1 (0:Int)).bind fun r1=>
 match r1 with
 | .inl r2=>(some r2.1)
 | .inr r3=>(some false)
def z9n(N:Nat)(b0:Int)(b1:Bool)(b2:V0):Option (((Unit×Int)×(V0×Unit))⊕((Int×(Unit×Unit))×(V0×(Unit×Unit)))):=
 bif b1 then
 (some (.inl (((),(230:Int)),(b2,()))))
 else
 (some (.inr ((b0,((),())),(b2,((),())))))
def z9o(N:Nat)(b0:Int)(b1:V0):Option (((Unit×Int)×(((List Bool)×(Unit×Int))×((List Int)×Unit)))):=
 gd (fits (0+b1.2.1.length) 8)
 (let x4:=(([]:List Int)++b1.2.1)
 gd (fits (x4.length+1) 8)
 (let x5:=(x4++([b0]:List Int))
 some (((),(0:Int)),((b1.1,((),b1.2.2)),(x5,())))))
def y1y(N:Nat)(a0:V0)(a1:Int):Option ((V0×Int)):=
 bif (decide (a1<(0:Int)))then
 ((z9n N a1 true a0).bind fun r1=>
 match r1 with
 | .inl r2=>(some (r2.2.1,r2.1.2))
 | .inr r3=>((z9o N r3.1.1 r3.2.1).bind fun r6=>
 some ((r6.2.1.1,(r6.2.2.1,r6.2.1.2.2)),r6.1.2)))
 else
 (bif (decide ((a0.1.length:Int)<=a1))then
 ((z9n N a1 true a0).bind fun r7=>
 match r7 with
 | .inl r8=>(some (r8.2.1,r8.1.2))
 | .inr r9=>((z9o N r9.1.1 r9.2.1).bind fun r10=>
 some ((r10.2.1.1,(r10.2.2.1,r10.2.1.2.2)),r10.1.2)))
 else
 (gd (inB a1 (a0.1.length))
 (bif (!(rdL a0.1 a1 false))then
 ((z9n N a1 true a0).bind fun r11=>
 match r11 with
 | .inl r12=>(some (r12.2.1,r12.1.2))
 | .inr r13=>((z9o N r13.1.1 r13.2.1).bind fun r14=>
 some ((r14.2.1.1,(r14.2.2.1,r14.2.1.2.2)),r14.1.2)))
 else
 ((y69 N a0.2.1 a1).bind fun r15=>
 (z9n N a1 r15 a0).bind fun r16=>
 match r16 with
 | .inl r17=>(some (r17.2.1,r17.1.2))
 | .inr r18=>((z9o N r18.1.1 r18.2.1).bind fun r19=>
 some ((r19.2.1.1,(r19.2.2.1,r19.2.1.2.2)),r19.1.2))))))
def z44(N:Nat)(rec:Int->V0->(List Bool)->Option (((Unit×(Unit×Unit))×(V0×(Unit×((List Bool)×Unit))))))(b0:Int)(b1:V0)(b2:(List Bool)):Option (((Unit×(Unit×Unit))×(V0×(Unit×((List Bool)×Unit))))):=
 bif (decide (b0<(b1.2.1.length:Int)))then
 (gd (inB b0 (b1.2.1.length))
 (gd (inB (rdL b1.2.1 b0 (0:Int)) (b2.length))
 (rec (aa .i64 (b0+(1:Int))) b1 (setL b2 (rdL b1.2.1 b0 (0:Int)) false))))
 else
 (some (((),((),())),(b1,((),(b2,())))))
def z1b(N:Nat)(n:Nat):=
 itF (fun _ _ _=>none) (z44 N) n
theorem zmk(N:Nat)(n:Nat):z1b N (n+1)=z44 N (z1b N n):=rfl
def zbl(N:Nat)(a0:V0):Option (V0):=
 gd (fits (0+a0.1.length) 1)
 (let x1:=(([]:List Bool)++a0.1)
 (z1b N N (0:Int) a0 x1).bind fun r2=>
 some (r2.2.2.2.1,(([]:List Int),r2.2.1.2.2)))
def z5u(N:Nat)(rec:(List Int)->Int->Z5->(List Int)->Option (((Unit×(Unit×(List Int)))×(Z5×(Unit×Unit)))))(b0:(List Int))(b1:Int)(b2:Z5)(b3:(List Int)):Option (((Unit×(Unit×(List Int)))×(Z5×(Unit×Unit)))):=
 bif (decide (b1<(b3.length:Int)))then
 (gd (inB b1 (b3.length))
 ((y1y N b2.2.1 (rdL b3 b1 (0:Int))).bind fun r16=>
 rec b0 (aa .i64 (b1+(1:Int))) (b2.1,(r16.1,b2.2.2)) b3))
 else
 (some (((),((),b0)),(b2,((),()))))
def z4z(N:Nat)(n:Nat):=
 itF (fun _ _ _ _=>none) (z5u N) n
theorem zri(N:Nat)(n:Nat):z4z N (n+1)=z5u N (z4z N n):=rfl
def z34(N:Nat)(rec:(List Int)->(List Int)->Int->Z5->Z5->(List (List Int))->(List Int)->Option yoy)(b0 b1:(List Int))(b2:Int)(b3 b4:Z5)(b5:(List (List Int)))(b6:(List Int)):Option yoy:=
 bif (decide (b2<(b5.length:Int)))then
 (gd (inB b2 (b5.length))
 ((z8f N b3 (rdL b5 b2 ([]:List Int))).bind fun r4=>
 bif (decide (r4.2<(0:Int)))then
 (some (.inl ((),((b4,(250:Int)),()))))
 else
 (gd (fits (b6.length+1) 8)
 (let x5:=(b6++([r4.2]:List Int))
 rec b0 b1 (aa .i64 (b2+(1:Int))) r4.1 b4 b5 x5))))
 else
 (some (.inr (((),((),((),(b0,(b1,()))))),(b3,((),(b4,(b6,())))))))
def z72(N:Nat)(n:Nat):=
 itF (fun _ _ _ _ _ _ _=>none) (z34 N) n
theorem zg3(N:Nat)(n:Nat):z72 N (n+1)=z34 N (z72 N n):=rfl
def zhd(N:Nat)(a0:Z5)(a1:Z4):Option (zdd):=
 (zdm N a0 a1).bind fun r1=>
 bif (!r1.2.2)then
 (some (a0,(250:Int)))
 else
 ((zck N a1 r1.1).bind fun r2=>
 (zfe N r2 r1.1.1.1).bind fun r3=>
 (z72 N N r1.2.1 r2 (0:Int) r1.1 a0 r3 ([]:List Int)).bind fun r6=>
 match r6 with
 | .inl r7=>(some r7.2.1)
 | .inr r8=>(let x9:=(aa .i64 (r8.2.2.2.1.2.2.2.1+(1:Int)))
 (z8g N r8.2.1.1).bind fun r10=>
 (zcj N x9 r8.1.2.2.2.2.1 r8.2.2.2.2.1).bind fun r11=>
 (ref23_Put N r10 (aH x9 (2:Int)) r11).bind fun r12=>
 bif (!(eqi r12.2 (0:Int)))then
 (some (r8.2.2.2.1,(250:Int)))
 else
 ((z8g N r12.1).bind fun r13=>
 gd (fits (0+r8.1.2.2.2.1.length) 8)
 (let x14:=(([]:List Int)++r8.1.2.2.2.1)
 gd (fits (x14.length+r8.2.2.2.1.2.2.2.2.2.2.2.length) 8)
 (let x15:=(x14++r8.2.2.2.1.2.2.2.2.2.2.2)
 (z4z N N r8.2.2.2.2.1 (0:Int) (r13,(r8.2.1.2.1,(r8.2.1.2.2.1,(x9,((0:Int),r8.2.1.2.2.2.2.2))))) x15).bind fun r17=>
 (zbl N r17.2.1.2.1).bind fun r18=>
 some ((r17.2.1.1,(r18,(r17.2.1.2.2.1,(r17.2.1.2.2.2.1,(r17.2.1.2.2.2.2.1,(r17.2.1.2.2.2.2.2.1,(r17.2.1.2.2.2.2.2.2.1,r17.1.2.2))))))),(0:Int)))))))
def zos(N:Nat)(a0:V2)(a1:Int)(a2:Z4):Option (zdd):=
 bif (decide (a1<(0:Int)))then
 (some ((((0:Int),(([]:List (List Int)),([]:List Y9))),((([]:List Bool),(([]:List Int),(0:Int))),((0:Int),((0:Int),((0:Int),(([]:List Int),(([]:List Int),([]:List Int)))))))),(1:Int)))
 else
 (let x1:=(aa .i64 ((a0.2.1.length:Int)-(2:Int)))
 bif (decide (x1<=a1))then
 (some ((((0:Int),(([]:List (List Int)),([]:List Y9))),((([]:List Bool),(([]:List Int),(0:Int))),((0:Int),((0:Int),((0:Int),(([]:List Int),(([]:List Int),([]:List Int)))))))),(1:Int)))
 else
 ((zot N (a0.2.1.length:Int) (aa .i64 ((2:Int)+a1))).bind fun r2=>
 (zhd N (a0,(r2.1,(a1,((0:Int),((0:Int),(([]:List Int),(([]:List Int),([]:List Int)))))))) a2).bind fun r3=>
 bif (!(eqi r3.2 (0:Int)))then
 (some ((((0:Int),(([]:List (List Int)),([]:List Y9))),((([]:List Bool),(([]:List Int),(0:Int))),((0:Int),((0:Int),((0:Int),(([]:List Int),(([]:List Int),([]:List Int)))))))),r3.2))
 else
 (some r3)))
def zpv(N:Nat):Option (zbf):=
 (zk5 N ((2:Int),((2:Int),(1:Int)))).bind fun r1=>
 let x2:=([((1:Int),(([97]:List UInt8),(([]:List UInt8),((([]:List UInt8),([]:List UInt8)),(([]:List UInt8),(([]:List UInt8),(0:Int))))))),((1:Int),(([98]:List UInt8),(([]:List UInt8),((([]:List UInt8),([]:List UInt8)),(([]:List UInt8),(([]:List UInt8),(0:Int))))))),((1:Int),(([99]:List UInt8),(([]:List UInt8),((([]:List UInt8),([]:List UInt8)),(([]:List UInt8),(([]:List UInt8),(0:Int)))))))]:List Z1)
 (zk6 N r1.1 x2).bind fun r3=>
 (zb3 N (1500:Int) (20:Int)).bind fun r4=>
 (zos N r4.1 (1:Int) r3.1).bind fun r5=>
 some (r5.1,(r3.1,(0:Int)))
def zoy(N:Nat)(a0:(List Z7))(a1:Int):Option (Bool):=
 bif (decide ((0:Int)<=a1))then
 (bif (decide (a1<(a0.length:Int)))then
 (gd (inB a1 (a0.length))
 (some ((rdL a0 a1 X3).1)))
 else
 (some false))
 else
 (some false)
def zae(N:Nat)(a0:Int)(a1:(List Int)):Option ((Unit×(Unit×((List Int)×Unit)))):=
 gd (fits (a1.length+1) 8)
 (let x1:=(a1++([a0]:List Int))
 some ((),((),(x1,()))))
def y5(N:Nat)(self:Int->(List Z7)->(List Int)->Bool->(List Int)->Option Ty1_)(rec:Int->(List Int)->Int->Int->(List Int)->(List Z7)->Bool->(List Int)->Option yow)(b0:Int)(b1:(List Int))(b2 b3:Int)(b4:(List Int))(b5:(List Z7))(b6:Bool)(b7:(List Int)):Option yow:=
 bif (decide (b3<b2))then
 (gd (inB b3 (b1.length))
 (match self (rdL b1 b3 (0:Int)) b5 b4 b6 b7 with
 | some r3=>(rec b0 b1 b2 (aa .i64 (b3+(1:Int))) r3.2.2.2.1 r3.2.1 r3.2.2.2.2.1 r3.2.2.2.2.2.2.2.2.1)
 | none=>none))
 else
 (some ((b0,((),())),((),(b4,((),((),(b7,(b5,(b6,(((),((),((),((),())))),()))))))))))
def z0b(N:Nat)(self:Int->(List Z7)->(List Int)->Bool->(List Int)->Option Ty1_)(n:Nat):=
 itF (fun _ _ _ _ _ _ _ _=>none) (y5 N self) n
theorem zah(N:Nat)(self:Int->(List Z7)->(List Int)->Bool->(List Int)->Option Ty1_)(n:Nat):z0b N self (n+1)=y5 N self (z0b N self n):=rfl
def z0y(N:Nat)(self:Int->(List Z7)->(List Int)->Bool->(List Int)->Option Ty1_)(a0:Int)(a1:(List Z7))(a2:(List Int))(a3:Bool)(a4:(List Int)):Option Ty1_:=
 match zoy N a1 a0 with
 | some r1=>(bif (!r1)then
 (some ((),(a1,((),(a2,(a3,(((),((),((),((),())))),((),((),(a4,()))))))))))
 else
 (gd (inB a0 (a2.length))
 (bif (eqi (rdL a2 a0 (0:Int)) (2:Int))then
 (some ((),(a1,((),(a2,(a3,(((),((),((),((),())))),((),((),(a4,()))))))))))
 else
 (gd (inB a0 (a2.length))
 (bif (eqi (rdL a2 a0 (0:Int)) (1:Int))then
 (some ((),(a1,((),(a2,(false,(((),((),((),((),())))),((),((),(a4,()))))))))))
 else
 (gd (inB a0 (a2.length))
 (gd (inB a0 (a1.length))
 (let x2:=(aq (((((((rdL a1 a0 X3).2).2).2).2).2).1):Int)
 match z0b N self N a0 (((((((rdL a1 a0 X3).2).2).2).2).2).1) x2 (0:Int) (setL a2 a0 (1:Int)) a1 a3 a4 with
 | some r4=>(gd (inB r4.1.1 (r4.2.2.1.length))
 (match zae N r4.1.1 r4.2.2.2.2.2.1 with
 | some r5=>(some ((),(r4.2.2.2.2.2.2.1,((),((setL r4.2.2.1 r4.1.1 (2:Int)),(r4.2.2.2.2.2.2.2.1,(((),((),((),((),())))),((),((),(r5.2.2.1,()))))))))))
 | none=>none))
 | none=>none))))))))
 | none=>none
def J5(N n:Nat):Int->(List Z7)->(List Int)->Bool->(List Int)->Option Ty1_:=
 itF (fun _ _ _ _ _=>none) (z0y N) n
theorem zhj(N n:Nat):J5 N (n+1)=z0y N (J5 N n):=rfl
def zlu(N:Nat):Int->(List Z7)->(List Int)->Bool->(List Int)->Option Ty1_:=
 J5 N N
def U5(N:Nat)(rec:(List Int)->Int->Int->Bool->(List Z7)->(List Int)->(List Int)->Option ((Unit×(Bool×(Unit×((List Int)×Unit))))))(b0:(List Int))(b1 b2:Int)(b3:Bool)(b4:(List Z7))(b5 b6:(List Int)):Option ((Unit×(Bool×(Unit×((List Int)×Unit))))):=
 bif (decide (b2<b1))then
 (gd (inB b2 (b0.length))
 (match zlu N (rdL b0 b2 (0:Int)) b4 b5 b3 b6 with
 | some r2=>(rec b0 b1 (aa .i64 (b2+(1:Int))) r2.2.2.2.2.1 r2.2.1 r2.2.2.2.1 r2.2.2.2.2.2.2.2.2.1)
 | none=>none))
 else
 (some ((),(b3,((),(b6,())))))
def U8(N:Nat)(n:Nat):=
 itF (fun _ _ _ _ _ _ _=>none) (U5 N) n
theorem z2m(N:Nat)(n:Nat):U8 N (n+1)=U5 N (U8 N n):=rfl
def pool_visit_m__pool_Reach_c1(N:Nat)(a0:(List Z7))(a1 a2:(List Int)):Option ((Bool×(Unit×((List Int)×Unit)))):=
 gd ((decide (0<=(a0.length:Int))&&decide ((a0.length:Int)<=(a0.length:Int)))&&(decide ((a0.length:Int)<maxB)&&decide ((a0.length:Int)*8<maxB)))
 (let x1:=(ar (cK (a0.length:Int)) (0:Int))
 match U8 N N a1 (a1.length:Int) (0:Int) true a0 x1 a2 with
 | some r3=>(some (r3.2.1,((),(r3.2.2.2.1,()))))
 | none=>none)
def z16(N:Nat)(a0:List Int):Option (Unit×((List Int)×Unit)):=
 gd (Nat.blt (a0.length) 4611686018427387904) (some ((),(z7c a0,())))
def zan(N:Nat)(a0:(List Z7))(a1:(List Int)):Option ((List Int)):=
 match pool_visit_m__pool_Reach_c1 N a0 a1 ([]:List Int)with
 | some r1=>(match z16 N r1.2.2.1 with
 | some r2=>(some r2.2.1)
 | none=>none)
 | none=>none
def zcb(N:Nat)(a0:Z5)(a1:Int):Option ((Int×Bool)):=
 bif (decide (a1<(0:Int)))then
 (some ((0:Int),false))
 else
 (let x1:=(decide ((a0.2.2.2.2.2.1.length:Int)<=a1))
 bif x1 then
 (some ((0:Int),false))
 else
 (gd (inB a1 (a0.2.2.2.2.2.1.length))
 (let x2:=(decide ((rdL a0.2.2.2.2.2.1 a1 (0:Int))<(0:Int)))
 bif x2 then
 (some ((0:Int),false))
 else
 (gd (inB a1 (a0.2.2.2.2.2.1.length))
 (some ((rdL a0.2.2.2.2.2.1 a1 (0:Int)),true))))))
def z1g(N:Nat)(rec:Int->Int->Z5->Int->(List Int)->(List Int)->(List Int)->Option Ty9_)(b0 b1:Int)(b2:Z5)(b3:Int)(b4 b5 b6:(List Int)):Option Ty9_:=
 bif (decide (b1<b0))then
 (gd (inB b1 (b6.length))
 ((zcb N b2 (rdL b6 b1 (0:Int))).bind fun r5=>
 bif r5.2 then
 (gd (fits (b4.length+1) 8)
 (let x6:=(b4++([(rdL b6 b1 (0:Int))]:List Int))
 rec b0 (aa .i64 (b1+(1:Int))) b2 b3 x6 b5 b6))
 else
 (rec b0 (aa .i64 (b1+(1:Int))) b2 b3 b4 b5 b6)))
 else
 (some (((),()),((),(((),((),b3)),(b4,(b5,()))))))
def z7l(N:Nat)(n:Nat):=
 itF (fun _ _ _ _ _ _ _=>none) (z1g N) n
theorem ze7(N:Nat)(n:Nat):z7l N (n+1)=z1g N (z7l N n):=rfl
def z1h(N:Nat)(rec:(List W5)->Int->Int->Z5->Z4->(List Int)->Option ((y9f×(Z5×(Z4×(Unit×((List Int)×Unit)))))))(b0:(List W5))(b1 b2:Int)(b3:Z5)(b4:Z4)(b5:(List Int)):Option ((y9f×(Z5×(Z4×(Unit×((List Int)×Unit)))))):=
 bif (decide (b2<b1))then
 (gd (inB b2 (b0.length))
 (let x1:=([(((rdL b0 b2 X0).2).2).1]:List Int)
 gd (fits (b5.length+x1.length) 8)
 (let x2:=(b5++x1)
 rec b0 b1 (aa .i64 (b2+(1:Int))) b3 b4 x2)))
 else
 (some (((),((),((),()))),(b3,(b4,((),(b5,()))))))
def z7m(N:Nat)(n:Nat):=
 itF (fun _ _ _ _ _ _=>none) (z1h N) n
theorem ze8(N:Nat)(n:Nat):z7m N (n+1)=z1h N (z7m N n):=rfl
def zaq(N:Nat)(a0:Z5)(a1:Z4):Option (K1):=
 (z7m N N a1.2.2.1 (a1.2.2.1.length:Int) (0:Int) a0 a1 ([a1.2.2.2.2.1]:List Int)).bind fun r3=>
 (zan N r3.2.2.1.1 r3.2.2.2.2.1).bind fun r4=>
 (z7l N N (r4.length:Int) (0:Int) r3.2.1 (0:Int) ([]:List Int) ([]:List Int) r4).bind fun r7=>
 some (r7.2.2.2.1,(r7.2.2.2.2.1,r7.2.2.1.2.2))
def zhb(N:Nat)(a0:K1):Option (Bool):=
 some (eqi (a0.1.length:Int) (0:Int))
def z5r(N:Nat)(a0:List Int):Option (List Int):=
 gd (fits (a0.length) 8) (some a0)
def y42(N:Nat)(a0:V2)(a1:Int):Option (Bool):=
 bif (decide ((0:Int)<=a1))then
 (some (decide (a1<(a0.2.1.length:Int))))
 else
 (some false)
def J7(N:Nat)(a0:(List Y9)):Option ((List Y9)):=
 some a0
def zm3(N:Nat)(a0:Int)(a1:Bool)(a2:Int)(a3:(List Int))(a4:Int)(a5:(List Int))(a6:Int):Option ((Unit×(Int×((List Int)×((List Int)×(Unit×Unit)))))⊕(Unit×(Int×(Unit×((List Int)×(Int×Unit)))))):=
 bif (!a1)then
 (bif (eqi a2 a4)then
 (some (.inl ((),(a4,(a3,(a5,((),())))))))
 else
 (some (.inr ((),(a4,((),(a5,(a6,()))))))))
 else
 (some (.inr ((),(a4,((),(a5,(a6,())))))))
def V5(N:Nat)(rec:(List Y9)->Int->Int->(List Int)->Int->Option Ty6_)(b0:(List Y9))(b1 b2:Int)(b3:(List Int))(b4:Int):Option Ty6_:=
 bif (decide ((0:Int)<=b1))then
 (gd (inB b1 (b0.length))
 ((zm3 N b1 ((rdL b0 b1 z1a).1) (((rdL b0 b1 z1a).2).1) (((rdL b0 b1 z1a).2).2) b2 b3 b4).bind fun r2=>
 match r2 with
 | .inl r3=>(some (.inl ((),(((),((),())),(r3.2.1,(r3.2.2.1,((),(r3.2.2.2.1,()))))))))
 | .inr r4=>(rec b0 (aa .i64 (b1-(1:Int))) r4.2.1 r4.2.2.2.1 r4.2.2.2.2.1)))
 else
 (some (.inr ((),(((),((),())),(b2,((),(b3,(b4,()))))))))
def X6(N:Nat)(n:Nat):=
 itF (fun _ _ _ _ _=>none) (V5 N) n
theorem z2p(N:Nat)(n:Nat):X6 N (n+1)=V5 N (X6 N n):=rfl
def U4(N:Nat)(a0:(List Y9))(a1:Int)(a2:(List Int))(a3:Int):Option Ty6_:=
 let x1:=(aa .i64 ((a0.length:Int)-(1:Int)))
 (X6 N N a0 x1 a1 a2 a3).bind fun r5=>
 match r5 with
 | .inl r6=>(some (.inl ((),(((),((),())),(r6.2.2.1,(r6.2.2.2.1,((),(r6.2.2.2.2.2.1,()))))))))
 | .inr r7=>(some (.inr ((),(((),((),())),(r7.2.2.1,((),(r7.2.2.2.2.1,(r7.2.2.2.2.2.1,()))))))))
def znz(N:Nat)(b0:(List Y9))(b1:V2)(b2:Int):Option (((Unit×Unit)×((List Int)×(Unit×Unit)))⊕(y9f×(V2×(Int×(Unit×((List Int)×(Int×Unit))))))):=
 (U4 N b0 b2 ([]:List Int) (0:Int)).bind fun r3=>
 match r3 with
 | .inl r4=>(some (.inl (((),()),(r4.2.2.2.1,((),())))))
 | .inr r5=>(some (.inr (((),((),((),()))),(b1,(r5.2.2.1,((),(r5.2.2.2.2.1,(r5.2.2.2.2.2.1,()))))))))
def zvd(N:Nat)(a0:V2)(a1:Int):Option (((List Int)×Int)):=
 (y42 N a0 a1).bind fun r1=>
 bif (!r1)then
 (some (([]:List Int),(230:Int)))
 else
 ((J7 N a0.2.2).bind fun r2=>
 (znz N r2 a0 a1).bind fun r6=>
 match r6 with
 | .inl r7=>(some (r7.2.1,(0:Int)))
 | .inr r8=>(gd (inB r8.2.2.1 (r8.2.1.2.1.length))
 (some ((rdL r8.2.1.2.1 r8.2.2.1 ([]:List Int)),(0:Int)))))
def z3n(N:Nat)(rec:Int->(List Int)->Int->Int->Option ((Int×Unit)))(b0:Int)(b1:(List Int))(b2 b3:Int):Option ((Int×Unit)):=
 bif (decide (b3<b2))then
 (gd (inB b3 (b1.length))
 (let x1:=(aa .u64 (((BitVec.ofInt (bj .u64) b0^^^BitVec.ofInt (bj .u64) (aa .u64 ((rdL b1 b3 (0:Int))))).toNat:Int)))
 let x2:=(aa .u64 (x1*(1099511628211:Int)))
 rec x2 b1 b2 (aa .i64 (b3+(1:Int)))))
 else
 (some (b0,()))
def za5(N:Nat)(n:Nat):=
 itF (fun _ _ _ _=>none) (z3n N) n
theorem zgm(N:Nat)(n:Nat):za5 N (n+1)=z3n N (za5 N n):=rfl
def zlv(N:Nat)(a0:(List Int)):Option (Int):=
 (za5 N N (14695981039346656037:Int) a0 (a0.length:Int) (0:Int)).bind fun r3=>
 some r3.1
def zaa(N:Nat)(a0 a1:(List Int))(a2 a3:Int)(a4:(List (List Int)))(a5:(List Y9))(a6:(List Bool))(a7:(List Int))(a8 a9 a10 a11:Int)(a12 a13 a14:(List Int))(a15 a16:Int):Option (Bool):=
 (zvd N (a3,(a4,a5)) a16).bind fun r1=>
 bif (eqi r1.2 (0:Int))then
 (bif (decide (a15<(a13.length:Int)))then
 ((zlv N r1.1).bind fun r2=>
 gd (inB a15 (a13.length))
 (some (eqi r2 (rdL a13 a15 (0:Int)))))
 else
 (some false))
 else
 (some false)
def zag(N:Nat)(a0:(List Int))(a1 a2:Int)(a3:(List (List Int)))(a4:(List Y9))(a5:(List Bool))(a6:(List Int))(a7 a8 a9 a10:Int)(a11 a12 a13 a14:(List Int)):Option ((Unit×yed)):=
 some ((),((),((a0,((),(a1,(a2,(a3,(a4,(a5,(a6,(a7,(a8,(a9,(a10,(a11,(a12,a13)))))))))))))),(a14,()))))
def z7d(N:Nat)(a0 a1 a2:Int)(a3:(List Int))(a4 a5:Int)(a6:(List (List Int)))(a7:(List Y9))(a8:(List Bool))(a9:(List Int))(a10 a11 a12 a13:Int)(a14 a15 a16 a17:(List Int)):Option ((Unit×(Int×yed))⊕(Unit×(Int×yed))):=
 bif (eqi a2 (0:Int))then
 (some (.inl ((),(a2,((),((a3,((),(a4,(a5,(a6,(a7,(a8,(a9,(a10,(a11,(a12,(a13,(a14,(a15,a16)))))))))))))),(a17,())))))))
 else
 (bif (decide (a1<(0:Int)))then
 (some (.inr ((),((aa .i64 (a2-(1:Int))),((),((a3,((),(a4,(a5,(a6,(a7,(a8,(a9,(a10,(a11,(a12,(a13,(a14,(a15,a16)))))))))))))),(a17,())))))))
 else
 ((zaa N a3 a17 a4 a5 a6 a7 a8 a9 a10 a11 a12 a13 a14 a15 a16 a0 a1).bind fun r1=>
 bif r1 then
 (some (.inr ((),((aa .i64 (a2-(1:Int))),((),((a3,((),((aa .i64 (a4+(1:Int))),(a5,(a6,(a7,(a8,(a9,(a10,(a11,(a12,(a13,(a14,(a15,a16)))))))))))))),(a17,())))))))
 else
 (gd (fits (a17.length+1) 8)
 (let x2:=(a17++([a0]:List Int))
 some (.inr ((),((aa .i64 (a2-(1:Int))),((),((a3,((),(a4,(a5,(a6,(a7,(a8,(a9,(a10,(a11,(a12,(a13,(a14,(a15,a16)))))))))))))),(x2,()))))))))))
def Q4(N:Nat)(rec:(List Int)->Int->Int->(List (List Int))->(List Y9)->(List Bool)->(List Int)->Int->Int->Int->Int->(List Int)->(List Int)->(List Int)->(List Int)->Int->Option (Ty5_⊕Ty5_))(b0:(List Int))(b1 b2:Int)(b3:(List (List Int)))(b4:(List Y9))(b5:(List Bool))(b6:(List Int))(b7 b8 b9 b10:Int)(b11 b12 b13 b14:(List Int))(b15:Int):Option (Ty5_⊕Ty5_):=
 let x1:=(decide ((0:Int)<(b0.length:Int)))
 bif x1 then
 (gd (inB (0:Int) (b0.length))
 ((zcb N ((b2,(b3,b4)),((b5,(b6,b7)),(b8,(b9,(b10,(b11,(b12,b13))))))) (rdL b0 (0:Int) (0:Int))).bind fun r2=>
 bif (!r2.2)then
 ((z7d N (rdL b0 (0:Int) (0:Int)) (-1:Int) b15 b0 b1 b2 b3 b4 b5 b6 b7 b8 b9 b10 b11 b12 b13 b14).bind fun r3=>
 match r3 with
 | .inl r4=>(some (.inl ((),(((),()),(r4.2.1,((),((r4.2.2.2.1.1,((),(r4.2.2.2.1.2.2.1,(r4.2.2.2.1.2.2.2.1,(r4.2.2.2.1.2.2.2.2.1,(r4.2.2.2.1.2.2.2.2.2.1,(r4.2.2.2.1.2.2.2.2.2.2.1,(r4.2.2.2.1.2.2.2.2.2.2.2.1,(r4.2.2.2.1.2.2.2.2.2.2.2.2.1,(r4.2.2.2.1.2.2.2.2.2.2.2.2.2.1,(r4.2.2.2.1.2.2.2.2.2.2.2.2.2.2.1,(r4.2.2.2.1.2.2.2.2.2.2.2.2.2.2.2.1,(r4.2.2.2.1.2.2.2.2.2.2.2.2.2.2.2.2.1,(r4.2.2.2.1.2.2.2.2.2.2.2.2.2.2.2.2.2.1,r4.2.2.2.1.2.2.2.2.2.2.2.2.2.2.2.2.2.2)))))))))))))),(r4.2.2.2.2.1,((),())))))))))
 | .inr r5=>(gd (decide (0<=(1:Int))&&(decide ((1:Int)<=(r5.2.2.2.1.1.length:Int))&&decide ((r5.2.2.2.1.1.length:Int)<=(r5.2.2.2.1.1.length:Int))))
 (let x6:=(cut2 r5.2.2.2.1.1 (1:Int) (r5.2.2.2.1.1.length:Int))
 rec x6 r5.2.2.2.1.2.2.1 r5.2.2.2.1.2.2.2.1 r5.2.2.2.1.2.2.2.2.1 r5.2.2.2.1.2.2.2.2.2.1 r5.2.2.2.1.2.2.2.2.2.2.1 r5.2.2.2.1.2.2.2.2.2.2.2.1 r5.2.2.2.1.2.2.2.2.2.2.2.2.1 r5.2.2.2.1.2.2.2.2.2.2.2.2.2.1 r5.2.2.2.1.2.2.2.2.2.2.2.2.2.2.1 r5.2.2.2.1.2.2.2.2.2.2.2.2.2.2.2.1 r5.2.2.2.1.2.2.2.2.2.2.2.2.2.2.2.2.1 r5.2.2.2.1.2.2.2.2.2.2.2.2.2.2.2.2.2.1 r5.2.2.2.1.2.2.2.2.2.2.2.2.2.2.2.2.2.2 r5.2.2.2.2.1 r5.2.1)))
 else
 ((z7d N (rdL b0 (0:Int) (0:Int)) r2.1 b15 b0 b1 b2 b3 b4 b5 b6 b7 b8 b9 b10 b11 b12 b13 b14).bind fun r7=>
 match r7 with
 | .inl r8=>(some (.inl ((),(((),()),(r8.2.1,((),((r8.2.2.2.1.1,((),(r8.2.2.2.1.2.2.1,(r8.2.2.2.1.2.2.2.1,(r8.2.2.2.1.2.2.2.2.1,(r8.2.2.2.1.2.2.2.2.2.1,(r8.2.2.2.1.2.2.2.2.2.2.1,(r8.2.2.2.1.2.2.2.2.2.2.2.1,(r8.2.2.2.1.2.2.2.2.2.2.2.2.1,(r8.2.2.2.1.2.2.2.2.2.2.2.2.2.1,(r8.2.2.2.1.2.2.2.2.2.2.2.2.2.2.1,(r8.2.2.2.1.2.2.2.2.2.2.2.2.2.2.2.1,(r8.2.2.2.1.2.2.2.2.2.2.2.2.2.2.2.2.1,(r8.2.2.2.1.2.2.2.2.2.2.2.2.2.2.2.2.2.1,r8.2.2.2.1.2.2.2.2.2.2.2.2.2.2.2.2.2.2)))))))))))))),(r8.2.2.2.2.1,((),())))))))))
 | .inr r9=>(gd (decide (0<=(1:Int))&&(decide ((1:Int)<=(r9.2.2.2.1.1.length:Int))&&decide ((r9.2.2.2.1.1.length:Int)<=(r9.2.2.2.1.1.length:Int))))
 (let x10:=(cut2 r9.2.2.2.1.1 (1:Int) (r9.2.2.2.1.1.length:Int))
 rec x10 r9.2.2.2.1.2.2.1 r9.2.2.2.1.2.2.2.1 r9.2.2.2.1.2.2.2.2.1 r9.2.2.2.1.2.2.2.2.2.1 r9.2.2.2.1.2.2.2.2.2.2.1 r9.2.2.2.1.2.2.2.2.2.2.2.1 r9.2.2.2.1.2.2.2.2.2.2.2.2.1 r9.2.2.2.1.2.2.2.2.2.2.2.2.2.1 r9.2.2.2.1.2.2.2.2.2.2.2.2.2.2.1 r9.2.2.2.1.2.2.2.2.2.2.2.2.2.2.2.1 r9.2.2.2.1.2.2.2.2.2.2.2.2.2.2.2.2.1 r9.2.2.2.1.2.2.2.2.2.2.2.2.2.2.2.2.2.1 r9.2.2.2.1.2.2.2.2.2.2.2.2.2.2.2.2.2.2 r9.2.2.2.2.1 r9.2.1)))))
 else
 (some (.inr ((),(((),()),(b15,((),((b0,((),(b1,(b2,(b3,(b4,(b5,(b6,(b7,(b8,(b9,(b10,(b11,(b12,b13)))))))))))))),(b14,((),())))))))))
def Q8(N:Nat)(n:Nat):=
 itF (fun _ _ _ _ _ _ _ _ _ _ _ _ _ _ _ _=>none) (Q4 N) n
theorem z4q(N:Nat)(n:Nat):Q8 N (n+1)=Q4 N (Q8 N n):=rfl
def z59(N:Nat)(a0:Int)(a1:(List Int))(a2 a3:Int)(a4:(List (List Int)))(a5:(List Y9))(a6:(List Bool))(a7:(List Int))(a8 a9 a10 a11:Int)(a12 a13 a14 a15:(List Int)):Option (Ty5_⊕Ty5_):=
 (Q8 N N a1 a2 a3 a4 a5 a6 a7 a8 a9 a10 a11 a12 a13 a14 a15 a0).bind fun r11=>
 match r11 with
 | .inl r12=>(some (.inl ((),(((),()),(r12.2.2.1,((),((r12.2.2.2.2.1.1,((),(r12.2.2.2.2.1.2.2.1,(r12.2.2.2.2.1.2.2.2.1,(r12.2.2.2.2.1.2.2.2.2.1,(r12.2.2.2.2.1.2.2.2.2.2.1,(r12.2.2.2.2.1.2.2.2.2.2.2.1,(r12.2.2.2.2.1.2.2.2.2.2.2.2.1,(r12.2.2.2.2.1.2.2.2.2.2.2.2.2.1,(r12.2.2.2.2.1.2.2.2.2.2.2.2.2.2.1,(r12.2.2.2.2.1.2.2.2.2.2.2.2.2.2.2.1,(r12.2.2.2.2.1.2.2.2.2.2.2.2.2.2.2.2.1,(r12.2.2.2.2.1.2.2.2.2.2.2.2.2.2.2.2.2.1,(r12.2.2.2.2.1.2.2.2.2.2.2.2.2.2.2.2.2.2.1,r12.2.2.2.2.1.2.2.2.2.2.2.2.2.2.2.2.2.2.2)))))))))))))),(r12.2.2.2.2.2.1,((),())))))))))
 | .inr r13=>(some (.inr ((),(((),()),(r13.2.2.1,((),((r13.2.2.2.2.1.1,((),(r13.2.2.2.2.1.2.2.1,(r13.2.2.2.2.1.2.2.2.1,(r13.2.2.2.2.1.2.2.2.2.1,(r13.2.2.2.2.1.2.2.2.2.2.1,(r13.2.2.2.2.1.2.2.2.2.2.2.1,(r13.2.2.2.2.1.2.2.2.2.2.2.2.1,(r13.2.2.2.2.1.2.2.2.2.2.2.2.2.1,(r13.2.2.2.2.1.2.2.2.2.2.2.2.2.2.1,(r13.2.2.2.2.1.2.2.2.2.2.2.2.2.2.2.1,(r13.2.2.2.2.1.2.2.2.2.2.2.2.2.2.2.2.1,(r13.2.2.2.2.1.2.2.2.2.2.2.2.2.2.2.2.2.1,(r13.2.2.2.2.1.2.2.2.2.2.2.2.2.2.2.2.2.2.1,r13.2.2.2.2.1.2.2.2.2.2.2.2.2.2.2.2.2.2.2)))))))))))))),(r13.2.2.2.2.2.1,((),())))))))))
def zj5(N:Nat)(b0:Int)(b1:(List Int))(b2 b3:Int)(b4:(List (List Int)))(b5:(List Y9))(b6:(List Bool))(b7:(List Int))(b8 b9 b10 b11:Int)(b12 b13 b14 b15:(List Int)):Option (((Unit×Unit)×(Unit×yed))⊕((Unit×Unit)×(Unit×yed))):=
 (z59 N b0 b1 b2 b3 b4 b5 b6 b7 b8 b9 b10 b11 b12 b13 b14 b15).bind fun r3=>
 match r3 with
 | .inl r4=>(some (.inl (((),()),((),((),((r4.2.2.2.2.1.1,((),(r4.2.2.2.2.1.2.2.1,(r4.2.2.2.2.1.2.2.2.1,(r4.2.2.2.2.1.2.2.2.2.1,(r4.2.2.2.2.1.2.2.2.2.2.1,(r4.2.2.2.2.1.2.2.2.2.2.2.1,(r4.2.2.2.2.1.2.2.2.2.2.2.2.1,(r4.2.2.2.2.1.2.2.2.2.2.2.2.2.1,(r4.2.2.2.2.1.2.2.2.2.2.2.2.2.2.1,(r4.2.2.2.2.1.2.2.2.2.2.2.2.2.2.2.1,(r4.2.2.2.2.1.2.2.2.2.2.2.2.2.2.2.2.1,(r4.2.2.2.2.1.2.2.2.2.2.2.2.2.2.2.2.2.1,(r4.2.2.2.2.1.2.2.2.2.2.2.2.2.2.2.2.2.2.1,r4.2.2.2.2.1.2.2.2.2.2.2.2.2.2.2.2.2.2.2)))))))))))))),(r4.2.2.2.2.2.1,())))))))
 | .inr r5=>(some (.inr (((),()),((),((),((r5.2.2.2.2.1.1,((),(r5.2.2.2.2.1.2.2.1,(r5.2.2.2.2.1.2.2.2.1,(r5.2.2.2.2.1.2.2.2.2.1,(r5.2.2.2.2.1.2.2.2.2.2.1,(r5.2.2.2.2.1.2.2.2.2.2.2.1,(r5.2.2.2.2.1.2.2.2.2.2.2.2.1,(r5.2.2.2.2.1.2.2.2.2.2.2.2.2.1,(r5.2.2.2.2.1.2.2.2.2.2.2.2.2.2.1,(r5.2.2.2.2.1.2.2.2.2.2.2.2.2.2.2.1,(r5.2.2.2.2.1.2.2.2.2.2.2.2.2.2.2.2.1,(r5.2.2.2.2.1.2.2.2.2.2.2.2.2.2.2.2.2.1,(r5.2.2.2.2.1.2.2.2.2.2.2.2.2.2.2.2.2.2.1,r5.2.2.2.2.1.2.2.2.2.2.2.2.2.2.2.2.2.2.2)))))))))))))),(r5.2.2.2.2.2.1,())))))))
def zrm(N:Nat)(a0:K1)(a1:Z5)(a2:Int):Option ((K1×Int)):=
 bif (decide (a2<(0:Int)))then
 (some (a0,(280:Int)))
 else
 ((z5r N a0.2.1).bind fun r1=>
 (zag N a0.1 a0.2.2 a1.1.1 a1.1.2.1 a1.1.2.2 a1.2.1.1 a1.2.1.2.1 a1.2.1.2.2 a1.2.2.1 a1.2.2.2.1 a1.2.2.2.2.1 a1.2.2.2.2.2.1 a1.2.2.2.2.2.2.1 a1.2.2.2.2.2.2.2 r1).bind fun r2=>
 (zj5 N a2 r2.2.2.1.1 r2.2.2.1.2.2.1 r2.2.2.1.2.2.2.1 r2.2.2.1.2.2.2.2.1 r2.2.2.1.2.2.2.2.2.1 r2.2.2.1.2.2.2.2.2.2.1 r2.2.2.1.2.2.2.2.2.2.2.1 r2.2.2.1.2.2.2.2.2.2.2.2.1 r2.2.2.1.2.2.2.2.2.2.2.2.2.1 r2.2.2.1.2.2.2.2.2.2.2.2.2.2.1 r2.2.2.1.2.2.2.2.2.2.2.2.2.2.2.1 r2.2.2.1.2.2.2.2.2.2.2.2.2.2.2.2.1 r2.2.2.1.2.2.2.2.2.2.2.2.2.2.2.2.2.1 r2.2.2.1.2.2.2.2.2.2.2.2.2.2.2.2.2.2 r2.2.2.2.1).bind fun r6=>
 match r6 with
 | .inl r7=>(some ((r7.2.2.2.1.1,(r7.2.2.2.2.1,r7.2.2.2.1.2.2.1)),(0:Int)))
 | .inr r8=>(some ((r8.2.2.2.1.1,(r8.2.2.2.2.1,r8.2.2.2.1.2.2.1)),(0:Int))))
def z2n(N:Nat)(a0:K1)(a1:Z5)(a2:Int):Option (z99):=
 (zrm N a0 a1 a2).bind fun r1=>
 some r1
def z35(N:Nat)(rec:Int->V2->Int->(List (List Int))->(List Y9)->Option (((Unit×Unit)×(Unit×ymc))))(b0:Int)(b1:V2)(b2:Int)(b3:(List (List Int)))(b4:(List Y9)):Option (((Unit×Unit)×(Unit×ymc))):=
 bif (decide (b0<(b1.2.2.length:Int)))then
 (gd (inB b0 (b1.2.2.length))
 (bif (!((rdL b1.2.2 b0 z1a).1))then
 (gd (inB b0 (b1.2.2.length))
 (gd (inB b0 (b1.2.2.length))
 (gd (inB (((rdL b1.2.2 b0 z1a).2).1) (b3.length))
 (let x2:=(setL b3 (((rdL b1.2.2 b0 z1a).2).1) (((rdL b1.2.2 b0 z1a).2).2))
 rec (aa .i64 (b0+(1:Int))) b1 b2 x2 b4))))
 else
 (rec (aa .i64 (b0+(1:Int))) b1 b2 b3 b4)))
 else
 (some (((),()),((),((b2,((),())),(b3,(b4,()))))))
def z9p(N:Nat)(n:Nat):=
 itF (fun _ _ _ _ _=>none) (z35 N) n
theorem zg4(N:Nat)(n:Nat):z9p N (n+1)=z35 N (z9p N n):=rfl
def zcm(N:Nat)(a0:V2):Option (V2):=
 (z12 N a0).bind fun r1=>
 (z9p N N (0:Int) a0 r1.1 r1.2.1 r1.2.2).bind fun r3=>
 some (r3.2.2.1.1,(r3.2.2.2.1,([]:List Y9)))
def zcf(N:Nat)(a0:Z5)(a1:Int):Option (Int):=
 bif (decide (a1<(0:Int)))then
 (some (-1:Int))
 else
 (let x1:=(decide ((a0.2.2.2.2.2.1.length:Int)<=a1))
 bif x1 then
 (some (-1:Int))
 else
 (gd (inB a1 (a0.2.2.2.2.2.1.length))
 (let x2:=(decide ((rdL a0.2.2.2.2.2.1 a1 (0:Int))<(0:Int)))
 bif x2 then
 (some (-1:Int))
 else
 (gd (inB a1 (a0.2.2.2.2.2.1.length))
 (some (rdL a0.2.2.2.2.2.1 a1 (0:Int)))))))
def zou(N:Nat)(a0:V2)(a1:zuw):Option ((V2×Int)):=
 (zcl N a0 a1.1).bind fun r1=>
 bif (!r1)then
 (some (a0,(230:Int)))
 else
 (bif (decide (a1.2.1<(0:Int)))then
 (some (a0,(1:Int)))
 else
 (gd (inB a1.1 (a0.2.1.length))
 (let x2:=(aq (rdL a0.2.1 a1.1 ([]:List Int)):Int)
 bif (decide (x2<=a1.2.1))then
 (some (a0,(1:Int)))
 else
 ((z12 N a0).bind fun r3=>
 gd (inB a1.1 (a0.2.1.length))
 (gd (fits (0+aq (rdL a0.2.1 a1.1 ([]:List Int))) 1)
 (let x4:=(([]:List Int)++(rdL a0.2.1 a1.1 ([]:List Int)))
 gd (inB a1.1 (r3.2.1.length))
 (gd (inB a1.1 (r3.2.1.length))
 (gd (Nat.beq (cK a1.1) (cK a1.1))
 (gd (inB a1.2.1 (x4.length))
 (let x5:=(aa .u8 (((BitVec.ofInt (bj .u8) (rdL x4 a1.2.1 (0:Int))^^^BitVec.ofInt (bj .u8) a1.2.2).toNat:Int)))
 gd (inB a1.2.1 (x4.length))
 (some ((r3.1,((setL r3.2.1 a1.1 (setL x4 a1.2.1 x5)),r3.2.2)),(0:Int)))))))))))))
def z2q(N:Nat)(a0:Z5)(a1:(List Int))(a2:zay):Option ((Z5×Int)):=
 bif (eqi (a1.length:Int) (0:Int))then
 (some (a0,(-1:Int)))
 else
 (gd (!(eqi (a1.length:Int) 0))
 (let x1:=(aH (aa .i64 (a2.1)) (a1.length:Int))
 gd (inB x1 (a1.length))
 ((zcf N a0 (rdL a1 x1 (0:Int))).bind fun r2=>
 (zk4 N a0.1 r2).bind fun r3=>
 bif (eqi (r3.1.length:Int) (0:Int))then
 (some (a0,(-1:Int)))
 else
 ((zcf N a0 (rdL a1 x1 (0:Int))).bind fun r4=>
 gd (!(eqi (r3.1.length:Int) 0))
 (let x5:=(aH (aa .i64 (a2.2.1)) (r3.1.length:Int))
 let x6:=(bif decide (a2.2.2<(1:Int))then(1:Int)else a2.2.2)
 (zou N a0.1 (r4,(x5,x6))).bind fun r7=>
 bif (!(eqi r7.2 (0:Int)))then
 (some (a0,(-1:Int)))
 else
 (some ((r7.1,a0.2),(rdL a1 x1 (0:Int)))))))))
def z3e(N:Nat)(rec:(List Int)->(List Int)->Int->Option Ty3_)(b0 b1:(List Int))(b2:Int):Option Ty3_:=
 bif (decide (b2<(b0.length:Int)))then
 (gd (inB b2 (b0.length))
 (gd (inB b2 (b1.length))
 (let x2:=(!(eqi (rdL b0 b2 (0:Int)) (rdL b1 b2 (0:Int))))
 bif x2 then
 (some (.inl (false,())))
 else
 (rec b0 b1 (aa .i64 (b2+(1:Int)))))))
 else
 (some (.inr ((),())))
def z9x(N:Nat)(n:Nat):=
 itF (fun _ _ _=>none) (z3e N) n
theorem zgd(N:Nat)(n:Nat):z9x N (n+1)=z3e N (z9x N n):=rfl
def zcw(N:Nat)(a0 a1:(List Int)):Option (Bool):=
 let x1:=(!(eqi (a0.length:Int) (a1.length:Int)))
 bif x1 then
 (some false)
 else
 (match z9x N N a0 a1 (0:Int)with
 | some r3=>(match r3 with
 | .inl r4=>(some r4.1)
 | .inr r5=>(some true))
 | none=>none)
def zce(N:Nat)(a0 a1:K1):Option (Bool):=
 (zcw N a0.1 a1.1).bind fun r1=>
 bif r1 then
 ((zcw N a0.2.1 a1.2.1).bind fun r2=>
 bif r2 then
 (some (eqi a0.2.2 a1.2.2))
 else
 (some false))
 else
 (some false)
def z8(N:Nat)(b0:Bool):Option ((Bool×Unit)):=
 some (b0,())
def zly(N:Nat)(b0:zbf)(b1:K1):Option ((Bool×Unit)):=
 (z2n N b1 b0.1 (2:Int)).bind fun r5=>
 (z2n N r5.1 b0.1 (2:Int)).bind fun r6=>
 (zcm N b0.1.1).bind fun r7=>
 (z2q N (r7,b0.1.2) b1.1 ((1:Int),((0:Int),(7:Int)))).bind fun r8=>
 (z2n N b1 r8.1 (9:Int)).bind fun r9=>
 (z2n N b1 b0.1 (-1:Int)).bind fun r10=>
 bif (eqi r5.1.2.2 (2:Int))then
 (bif (eqi (r5.1.1.length:Int) (1:Int))then
 (bif (eqi r6.1.2.2 (3:Int))then
 ((zhb N r6.1).bind fun r11=>
 bif r11 then
 (bif (eqi r9.1.2.2 (2:Int))then
 ((zcw N r9.1.2.1 ([r8.2]:List Int)).bind fun r12=>
 bif r12 then
 (bif (eqi r10.2 (280:Int))then
 ((zce N r10.1 b1).bind fun r13=>
 (z8 N r13).bind fun r14=>
 some (r14.1,()))
 else
 ((z8 N false).bind fun r15=>
 some (r15.1,())))
 else
 ((z8 N false).bind fun r16=>
 some (r16.1,())))
 else
 ((z8 N false).bind fun r17=>
 some (r17.1,())))
 else
 ((z8 N false).bind fun r18=>
 some (r18.1,())))
 else
 ((z8 N false).bind fun r19=>
 some (r19.1,())))
 else
 ((z8 N false).bind fun r20=>
 some (r20.1,())))
 else
 ((z8 N false).bind fun r21=>
 some (r21.1,()))
def zbu(N:Nat):Option (Bool):=
 (zpv N).bind fun r1=>
 (zaq N r1.1 r1.2.1).bind fun r2=>
 bif (!(eqi (r2.1.length:Int) (3:Int)))then
 (some false)
 else
 (let x3:=(decide ((0:Int)<(r2.2.1.length:Int)))
 bif x3 then
 (some false)
 else
 (bif (!(eqi r2.2.2 (0:Int)))then
 (some false)
 else
 ((zhb N r2).bind fun r4=>
 bif r4 then
 (some false)
 else
 ((zly N r1 r2).bind fun r22=>
 some r22.1))))
def zie(N:Nat)(a0:Int):Option (V7):=
 let x1:=(aH (aa .i64 (a0)) (4:Int))
 let x2:=(aa .i64 (c9 (aa .i64 (a0)) (4:Int)))
 let x3:=(aa .i64 ((2:Int)+(aH x2 (3:Int))))
 let x4:=(aa .i64 (c9 (aa .i64 (a0)) (16:Int)))
 let x5:=(aa .i64 ((1:Int)+(aH x4 (5:Int))))
 some ((aa .i64 ((2:Int)+x1)),(x3,x5))
def zam(N:Nat)(a0:Int):Option ((List UInt8)):=
 let x1:=([([97,47]:List UInt8),([98,47]:List UInt8),([97,47,98,47]:List UInt8),([99,47]:List UInt8),([100,47]:List UInt8)]:List (List UInt8))
 gd (inB (aH a0 (5:Int)) (x1.length))
 (let x2:=(rdL x1 (aH a0 (5:Int)) ([]:List UInt8))
 some x2)
def zk9(N:Nat)(a0:Int):Option ((List UInt8)):=
 match zam N (aH a0 (4:Int))with
 | some r1=>(let x2:=([([1]:List UInt8),([2,0,0]:List UInt8),([2,0,1]:List UInt8),([2,0,2]:List UInt8),([3,120]:List UInt8)]:List (List UInt8))
 let x3:=(aH (aa .u8 (c9 a0 (4:Int))) (5:Int))
 gd (inB x3 (x2.length))
 (gd (decide (r1.length+aq (rdL x2 x3 ([]:List UInt8))<maxS))
 (let x4:=(r1++(rdL x2 x3 ([]:List UInt8)))
 some x4)))
 | none=>none
def zik(N:Nat)(a0:Int):Option ((List UInt8)):=
 let x1:=([([]:List UInt8),([120]:List UInt8),([121,121]:List UInt8),([49,50,51,52,53,54,55,56,57,48]:List UInt8),([0,255]:List UInt8)]:List (List UInt8))
 gd (inB (aH a0 (5:Int)) (x1.length))
 (let x2:=(rdL x1 (aH a0 (5:Int)) ([]:List UInt8))
 some x2)
def z0s(N:Nat)(b0 b1 b2:(List UInt8))(b3:K0)(b4:Z0):Option ((Unit×(Z1×Unit))):=
 let x9:=(aa .i64 ((aH b3.2.2.2.2.2 (8:Int))))
 bif (eqi (aH b3.1 (6:Int)) (0:Int))then
 (match zik N b3.2.2.1 with
 | some r10=>(some ((),(((1:Int),(b0,(r10,((([]:List UInt8),([]:List UInt8)),(([]:List UInt8),(([]:List UInt8),x9)))))),())))
 | none=>none)
 else
 (bif (eqi (aH b3.1 (6:Int)) (1:Int))then
 (some ((),(((2:Int),(b0,(([]:List UInt8),((([]:List UInt8),([]:List UInt8)),(([]:List UInt8),(([]:List UInt8),(0:Int))))))),())))
 else
 (bif (eqi (aH b3.1 (6:Int)) (2:Int))then
 (some ((),(((3:Int),(([]:List UInt8),(([]:List UInt8),(b4,(([]:List UInt8),(([]:List UInt8),(0:Int))))))),())))
 else
 (bif (eqi (aH b3.1 (6:Int)) (3:Int))then
 (some ((),(((4:Int),(([]:List UInt8),(([]:List UInt8),((([]:List UInt8),([]:List UInt8)),(b1,(b2,(0:Int))))))),())))
 else
 (bif (eqi (aH b3.1 (6:Int)) (4:Int))then
 (some ((),(((5:Int),(([]:List UInt8),(([]:List UInt8),((([]:List UInt8),([]:List UInt8)),(b1,(b2,(0:Int))))))),())))
 else
 (some ((),(((6:Int),(([]:List UInt8),(([]:List UInt8),(b4,(([]:List UInt8),(([]:List UInt8),x9)))))),())))))))
def z0t(N:Nat)(b0:(List UInt8))(b1:K0)(b2:Z0):Option ((Unit×(Z1×Unit))):=
 match zam N b1.2.1 with
 | some r6=>(match zam N b1.2.2.2.1 with
 | some r7=>(match j0 N r6 r7 with
 | some r8=>(bif r8 then
 (bif (eqs r6 ([100,47]:List UInt8))then
 (match z0s N b0 r6 ([99,47]:List UInt8) b1 b2 with
 | some r11=>(some ((),(r11.2.1,())))
 | none=>none)
 else
 (match z0s N b0 r6 ([100,47]:List UInt8) b1 b2 with
 | some r12=>(some ((),(r12.2.1,())))
 | none=>none))
 else
 (match j0 N r7 r6 with
 | some r13=>(bif r13 then
 (bif (eqs r6 ([100,47]:List UInt8))then
 (match z0s N b0 r6 ([99,47]:List UInt8) b1 b2 with
 | some r14=>(some ((),(r14.2.1,())))
 | none=>none)
 else
 (match z0s N b0 r6 ([100,47]:List UInt8) b1 b2 with
 | some r15=>(some ((),(r15.2.1,())))
 | none=>none))
 else
 (match z0s N b0 r6 r7 b1 b2 with
 | some r16=>(some ((),(r16.2.1,())))
 | none=>none))
 | none=>none))
 | none=>none)
 | none=>none)
 | none=>none
def zd3(N:Nat)(a0:K0):Option (Z1):=
 match zk9 N a0.2.1 with
 | some r1=>(match zk9 N a0.2.2.2.1 with
 | some r2=>(let x3:=(eqi (aH a0.2.2.2.2.1 (4:Int)) (0:Int))
 bif x3 then
 (match zam N a0.2.1 with
 | some r4=>(match U2 N r4 with
 | some r5=>(match z0t N r1 a0 r5 with
 | some r17=>(some r17.2.1)
 | none=>none)
 | none=>none)
 | none=>none)
 else
 (let x18:=(eqi (aH a0.2.2.2.2.1 (16:Int)) (1:Int))
 bif x18 then
 (match z0t N r1 a0 (r1,([]:List UInt8))with
 | some r19=>(some r19.2.1)
 | none=>none)
 else
 (let x20:=(eqi (aH a0.2.2.2.2.1 (16:Int)) (5:Int))
 bif x20 then
 (match z0t N r1 a0 (([]:List UInt8),([]:List UInt8))with
 | some r21=>(some r21.2.1)
 | none=>none)
 else
 (bif (eqs r1 r2)then
 (match z9f N r1 with
 | some r22=>(match z0t N r1 a0 r22 with
 | some r23=>(some r23.2.1)
 | none=>none)
 | none=>none)
 else
 (match z0t N r1 a0 ((bif lts r1 r2 || eqs r1 r2 then r1 else r2),(bif !(lts r1 r2)then r1 else r2))with
 | some r24=>(some r24.2.1)
 | none=>none)))))
 | none=>none)
 | none=>none
def y6(N:Nat)(rec:(List K0)->Int->Int->(List Z1)->Option ((Unit×((List Z1)×Unit))))(b0:(List K0))(b1 b2:Int)(b3:(List Z1)):Option ((Unit×((List Z1)×Unit))):=
 bif (decide (b2<(b0.length:Int)))then
 (bif (decide (b2<b1))then
 (gd (inB b2 (b0.length))
 (match zd3 N (rdL b0 b2 zyy)with
 | some r1=>(gd (fits (b3.length+1) 112)
 (let x2:=(b3++([r1]:List Z1))
 rec b0 b1 (aa .i64 (b2+(1:Int))) x2))
 | none=>none))
 else
 (some ((),(b3,()))))
 else
 (some ((),(b3,())))
def z6t(N:Nat)(n:Nat):=
 itF (fun _ _ _ _=>none) (y6 N) n
theorem y92(N:Nat)(n:Nat):z6t N (n+1)=y6 N (z6t N n):=rfl
def zfn(N:Nat)(a0:(List K0))(a1:Int):Option ((List Z1)):=
 match z6t N N a0 a1 (0:Int) ([]:List Z1)with
 | some r3=>(some r3.2.1)
 | none=>none
def zhf(N:Nat)(a0:Int):Option ((List UInt8)):=
 let x1:=([([111,110,101]:List UInt8),([116,119,111]:List UInt8),([116,104,114,101,101]:List UInt8),([120]:List UInt8),([121]:List UInt8),([122]:List UInt8)]:List (List UInt8))
 gd (inB (aH a0 (6:Int)) (x1.length))
 (let x2:=(rdL x1 (aH a0 (6:Int)) ([]:List UInt8))
 some x2)
def z36(N:Nat)(rec:(List UInt8)->Int->Z4->Option yoo)(b0:(List UInt8))(b1:Int)(b2:Z4):Option yoo:=
 bif (decide (b1<(b2.2.2.1.length:Int)))then
 (gd (inB b1 (b2.2.2.1.length))
 (let x2:=(eqs (((((rdL b2.2.2.1 b1 X0).2).2).2).1) b0)
 bif x2 then
 (some (.inl ((),((b2,((0:Int),(160:Int))),()))))
 else
 (rec b0 (aa .i64 (b1+(1:Int))) b2)))
 else
 (some (.inr ((b0,((),())),(b2,((),())))))
def z73(N:Nat)(n:Nat):=
 itF (fun _ _ _=>none) (z36 N) n
theorem zg5(N:Nat)(n:Nat):z73 N (n+1)=z36 N (z73 N n):=rfl
def zhe(N:Nat)(a0:Z4)(a1:(List UInt8)):Option (ze5):=
 (z8r N a1).bind fun r1=>
 bif (!r1)then
 (some (a0,((0:Int),(11:Int))))
 else
 ((z73 N N a1 (0:Int) a0).bind fun r3=>
 match r3 with
 | .inl r4=>(some r4.2.1)
 | .inr r5=>(let x6:=(decide ((16:Int)<=(r5.2.1.2.2.1.length:Int)))
 bif x6 then
 (some (r5.2.1,((0:Int),(161:Int))))
 else
 ((z8q N r5.2.1.1 r5.2.1.2.2.2.2.1).bind fun r7=>
 gd (fits (0+r5.2.1.2.2.1.length) 64)
 (let x8:=(([]:List W5)++r5.2.1.2.2.1)
 let x9:=([(r5.2.1.2.2.2.1,(r5.2.1.2.2.2.2.2.1,(r5.2.1.2.2.2.2.1,(r5.1.1,r5.2.1.2.2.2.2.2.2))))]:List W5)
 gd (fits (x8.length+x9.length) 64)
 (let x10:=(x8++x9)
 let x11:=(aa .i64 (r5.2.1.2.2.2.1+(1:Int)))
 some ((r7.1,(r5.2.1.2.1,(x10,(x11,(r5.2.1.2.2.2.2.1,(r5.2.1.2.2.2.1,([]:List Z1))))))),(r5.2.1.2.2.2.1,(0:Int))))))))
def zoc(N:Nat)(a0:Z4)(a1:Int):Option (Int):=
 bif (eqi (a0.2.2.1.length:Int) (0:Int))then
 (some (9:Int))
 else
 (gd (!(eqi (a0.2.2.1.length:Int) 0))
 (let x1:=(aH (aa .i64 (a1)) (a0.2.2.1.length:Int))
 gd (inB x1 (a0.2.2.1.length))
 (some ((rdL a0.2.2.1 x1 X0).1))))
def zfh(N:Nat)(a0:Z4)(a1:Int):Option ((Z4×Int)):=
 (zcn N a0 a1).bind fun r1=>
 bif (decide (r1<(0:Int)))then
 (some (a0,(160:Int)))
 else
 (gd (inB r1 (a0.2.2.1.length))
 ((z8q N a0.1 ((((rdL a0.2.2.1 r1 X0).2).2).1)).bind fun r2=>
 (z2k N r2.1 a0.2.2.2.2.1).bind fun r3=>
 gd (inB r1 (a0.2.2.1.length))
 (some ((r3.1,(a0.2.1,(a0.2.2.1,(a0.2.2.2.1,((((rdL a0.2.2.1 r1 X0).2).2).1,(a1,([]:List Z1))))))),(0:Int)))))
def z8j(N:Nat)(a0:(List Z1))(a1:(List Z1)):Option ((List Z1)):=
 gd (fits (0+a0.length) 112)
 (let x1:=(([]:List Z1)++a0)
 gd (fits (x1.length+a1.length) 112)
 (let x2:=(x1++a1)
 (zbr N x2).bind fun r3=>
 some r3))
def z0i(N:Nat)(rec:Int->Int->Int->Z4->W5->(List Z7)->Int->Int->Int->Int->Int->Int->(List Z1)->(List W5)->Option yp0)(b0 b1 b2:Int)(b3:Z4)(b4:W5)(b5:(List Z7))(b6 b7 b8 b9 b10 b11:Int)(b12:(List Z1))(b13:(List W5)):Option yp0:=
 bif (decide (b2<(b3.2.2.1.length:Int)))then
 (gd (inB b2 (b3.2.2.1.length))
 (let x3:=(eqi (((rdL b3.2.2.1 b2 X0).2).1) b0)
 bif x3 then
 ((z8j N b4.2.2.2.2 (((((rdL b3.2.2.1 b2 X0).2).2).2).2)).bind fun r4=>
 bif (!(eqi b2 b1))then
 (let x5:=([((rdL b3.2.2.1 b2 X0).1,(b4.2.1,((((rdL b3.2.2.1 b2 X0).2).2).1,(((((rdL b3.2.2.1 b2 X0).2).2).2).1,r4))))]:List W5)
 gd (fits (b13.length+x5.length) 64)
 (let x6:=(b13++x5)
 rec b0 b1 (aa .i64 (b2+(1:Int))) b3 b4 b5 b6 b7 b8 b9 b10 b11 b12 x6))
 else
 (rec b0 b1 (aa .i64 (b2+(1:Int))) b3 b4 b5 b6 b7 b8 b9 b10 b11 b12 b13))
 else
 (bif (!(eqi b2 b1))then
 (let x7:=([(rdL b3.2.2.1 b2 X0)]:List W5)
 gd (fits (b13.length+x7.length) 64)
 (let x8:=(b13++x7)
 rec b0 b1 (aa .i64 (b2+(1:Int))) b3 b4 b5 b6 b7 b8 b9 b10 b11 b12 x8))
 else
 (rec b0 b1 (aa .i64 (b2+(1:Int))) b3 b4 b5 b6 b7 b8 b9 b10 b11 b12 b13))))
 else
 (some ((b0,((),((),((),())))),(b3,((),(b4,((b5,(b6,(b7,(b8,((),(b9,(b10,(b11,b12)))))))),(b13,())))))))
def z45(N:Nat)(n:Nat):=
 itF (fun _ _ _ _ _ _ _ _ _ _ _ _ _ _=>none) (z0i N) n
theorem zco(N:Nat)(n:Nat):z45 N (n+1)=z0i N (z45 N n):=rfl
def zfg(N:Nat)(a0:Z4)(a1:Int):Option ((Z4×Int)):=
 (zcn N a0 a1).bind fun r1=>
 bif (decide (r1<(0:Int)))then
 (some (a0,(160:Int)))
 else
 (gd (inB r1 (a0.2.2.1.length))
 ((z2k N a0.1 ((((rdL a0.2.2.1 r1 X0).2).2).1)).bind fun r2=>
 (z45 N N a1 r1 (0:Int) a0 (rdL a0.2.2.1 r1 X0) r2.1 a0.2.1.1 a0.2.1.2.1 a0.2.1.2.2 a0.2.2.2.1 a0.2.2.2.2.1 a0.2.2.2.2.2.1 a0.2.2.2.2.2.2 ([]:List W5)).bind fun r9=>
 bif (eqi r9.2.1.2.2.2.2.2.1 r9.1.1)then
 ((z8j N r9.2.2.2.1.2.2.2.2 r9.2.1.2.2.2.2.2.2).bind fun r10=>
 some ((r9.2.2.2.2.1.1,((r9.2.2.2.2.1.2.1,(r9.2.2.2.2.1.2.2.1,r9.2.2.2.2.1.2.2.2.1)),(r9.2.2.2.2.2.1,(r9.2.2.2.2.1.2.2.2.2.2.1,(r9.2.2.2.2.1.2.2.2.2.2.2.1,(r9.2.2.2.1.2.1,r10)))))),(0:Int)))
 else
 (some ((r9.2.2.2.2.1.1,((r9.2.2.2.2.1.2.1,(r9.2.2.2.2.1.2.2.1,r9.2.2.2.2.1.2.2.2.1)),(r9.2.2.2.2.2.1,r9.2.2.2.2.1.2.2.2.2.2))),(0:Int)))))
def z0h(N:Nat)(b0:Int)(b1:Bool)(b2:Z4)(b3:G2):Option ((Unit×(Z4×Unit))⊕((Unit×(Unit×Unit))×(Z4×(G2×(Unit×Unit))))):=
 bif b1 then
 ((zfn N b3.2.2 (6:Int)).bind fun r1=>
 (zk6 N b2 r1).bind fun r2=>
 some (.inl ((),(r2.1,()))))
 else
 (bif (eqi b0 (4:Int))then
 ((zhf N b3.2.1).bind fun r3=>
 (zhe N b2 r3).bind fun r4=>
 some (.inl ((),(r4.1,()))))
 else
 (bif (eqi b0 (5:Int))then
 ((zhf N b3.2.1).bind fun r5=>
 (zhe N b2 r5).bind fun r6=>
 some (.inl ((),(r6.1,()))))
 else
 (bif (eqi b0 (6:Int))then
 ((zoc N b2 b3.2.1).bind fun r7=>
 (zfh N b2 r7).bind fun r8=>
 some (.inl ((),(r8.1,()))))
 else
 (some (.inr (((),((),())),(b2,(b3,((),())))))))))
def z2u(N:Nat)(b0:Z4)(b1:G2):Option ((Unit×(Z4×Unit))):=
 (zoc N b0 b1.2.1).bind fun r12=>
 (zfg N b0 r12).bind fun r13=>
 some ((),(r13.1,()))
def zlg(N:Nat)(a0:Z4)(a1:G2):Option (Z4):=
 bif (eqi (aH a1.1 (8:Int)) (0:Int))then
 ((z0h N (aH a1.1 (8:Int)) true a0 a1).bind fun r9=>
 match r9 with
 | .inl r10=>(some r10.2.1)
 | .inr r11=>((z2u N r11.2.1 r11.2.2.1).bind fun r14=>
 some r14.2.1))
 else
 (bif (eqi (aH a1.1 (8:Int)) (1:Int))then
 ((z0h N (aH a1.1 (8:Int)) true a0 a1).bind fun r15=>
 match r15 with
 | .inl r16=>(some r16.2.1)
 | .inr r17=>((z2u N r17.2.1 r17.2.2.1).bind fun r18=>
 some r18.2.1))
 else
 (bif (eqi (aH a1.1 (8:Int)) (2:Int))then
 ((z0h N (aH a1.1 (8:Int)) true a0 a1).bind fun r19=>
 match r19 with
 | .inl r20=>(some r20.2.1)
 | .inr r21=>((z2u N r21.2.1 r21.2.2.1).bind fun r22=>
 some r22.2.1))
 else
 ((z0h N (aH a1.1 (8:Int)) (eqi (aH a1.1 (8:Int)) (3:Int)) a0 a1).bind fun r23=>
 match r23 with
 | .inl r24=>(some r24.2.1)
 | .inr r25=>((z2u N r25.2.1 r25.2.2.1).bind fun r26=>
 some r26.2.1))))
def z5v(N:Nat)(rec:(List G2)->Int->Z4->Option (((Unit×Unit)×(Unit×(Z4×Unit)))))(b0:(List G2))(b1:Int)(b2:Z4):Option (((Unit×Unit)×(Unit×(Z4×Unit)))):=
 bif (decide (b1<(b0.length:Int)))then
 (bif (decide (b1<(7:Int)))then
 (gd (inB b1 (b0.length))
 ((zlg N b2 (rdL b0 b1 zj4)).bind fun r3=>
 rec b0 (aa .i64 (b1+(1:Int))) r3))
 else
 (some (((),()),((),(b2,())))))
 else
 (some (((),()),((),(b2,()))))
def z9q(N:Nat)(n:Nat):=
 itF (fun _ _ _=>none) (z5v N) n
theorem zrj(N:Nat)(n:Nat):z9q N (n+1)=z5v N (z9q N n):=rfl
def zlh(N:Nat)(a0:Int)(a1:(List G2)):Option (Z4):=
 (zie N a0).bind fun r1=>
 (zk5 N r1).bind fun r2=>
 (z9q N N a1 (0:Int) r2.1).bind fun r4=>
 some r4.2.2.1
def zlf(N:Nat)(a0:zm7):Option (V2):=
 bif (eqi (aH a0.1 (8:Int)) (7:Int))then
 (let x1:=(aa .i64 ((30:Int)+(aa .i64 (a0.2.1))))
 bif (eqi (aH a0.1 (8:Int)) (6:Int))then
 (let x2:=(aH (aa .i64 (a0.2.1)) (24:Int))
 (zb3 N x1 (aa .i64 ((4:Int)+x2))).bind fun r3=>
 some r3.1)
 else
 ((zb3 N x1 (60:Int)).bind fun r4=>
 some r4.1))
 else
 (bif (eqi (aH a0.1 (8:Int)) (6:Int))then
 (let x5:=(aH (aa .i64 (a0.2.1)) (24:Int))
 (zb3 N (1500:Int) (aa .i64 ((4:Int)+x5))).bind fun r6=>
 some r6.1)
 else
 ((zb3 N (1500:Int) (60:Int)).bind fun r7=>
 some r7.1))
def zle(N:Nat)(a0:zaz):Option (zbf):=
 (zlh N a0.1 a0.2.1).bind fun r1=>
 (zlf N a0.2.2).bind fun r2=>
 let x3:=(aa .i64 ((aH a0.2.2.2.2 (4:Int))))
 (zos N r2 x3 r1).bind fun r4=>
 bif (!(eqi r4.2 (0:Int)))then
 (some ((((0:Int),(([]:List (List Int)),([]:List Y9))),((([]:List Bool),(([]:List Int),(0:Int))),((0:Int),((0:Int),((0:Int),(([]:List Int),(([]:List Int),([]:List Int)))))))),(r1,r4.2)))
 else
 ((zcm N r4.1.1).bind fun r5=>
 some ((r5,r4.1.2),(r1,(0:Int))))
def z1m(N:Nat)(rec:Int->Z4->(List Int)->Option ((Unit×((List Int)×Unit))))(b0:Int)(b1:Z4)(b2:(List Int)):Option ((Unit×((List Int)×Unit))):=
 bif (decide (b0<(b1.2.2.1.length:Int)))then
 (gd (inB b0 (b1.2.2.1.length))
 (let x1:=([(((rdL b1.2.2.1 b0 X0).2).2).1]:List Int)
 gd (fits (b2.length+x1.length) 8)
 (let x2:=(b2++x1)
 rec (aa .i64 (b0+(1:Int))) b1 x2)))
 else
 (some ((),(b2,())))
def z7q(N:Nat)(n:Nat):=
 itF (fun _ _ _=>none) (z1m N) n
theorem zee(N:Nat)(n:Nat):z7q N (n+1)=z1m N (z7q N n):=rfl
def znr(N:Nat)(a0:Z4):Option ((List Int)):=
 (z7q N N (0:Int) a0 ([a0.2.2.2.2.1]:List Int)).bind fun r3=>
 some r3.2.1
def z1q(N:Nat)(rec:Int->(List Bool)->(List Int)->Option ((Unit×((List Int)×Unit))))(b0:Int)(b1:(List Bool))(b2:(List Int)):Option ((Unit×((List Int)×Unit))):=
 bif (decide (b0<(b1.length:Int)))then
 (gd (inB b0 (b1.length))
 (bif (rdL b1 b0 false)then
 (gd (fits (b2.length+1) 8)
 (let x10:=(b2++([b0]:List Int))
 rec (aa .i64 (b0+(1:Int))) b1 x10))
 else
 (rec (aa .i64 (b0+(1:Int))) b1 b2)))
 else
 (some ((),(b2,())))
def z5l(N:Nat)(n:Nat):=
 itF (fun _ _ _=>none) (z1q N) n
theorem zeh(N:Nat)(n:Nat):z5l N (n+1)=z1q N (z5l N n):=rfl
def z1r(N:Nat)(rec:(List Int)->(List Z7)->(List Bool)->Option ((Unit×((List Bool)×Unit))))(b0:(List Int))(b1:(List Z7))(b2:(List Bool)):Option ((Unit×((List Bool)×Unit))):=
 let x3:=(decide ((0:Int)<(b0.length:Int)))
 bif x3 then
 (gd (inB (0:Int) (b0.length))
 (gd (decide (0<=(1:Int))&&(decide ((1:Int)<=(b0.length:Int))&&decide ((b0.length:Int)<=(b0.length:Int))))
 (match z6p N b1 (rdL b0 (0:Int) (0:Int))with
 | some r4=>(bif r4 then
 (gd (inB (rdL b0 (0:Int) (0:Int)) (b2.length))
 (let x5:=(!(rdL b2 (rdL b0 (0:Int) (0:Int)) false))
 bif x5 then
 (gd (inB (rdL b0 (0:Int) (0:Int)) (b2.length))
 (gd (fits (0+aq (cut2 b0 (1:Int) (b0.length:Int))) 8)
 (let x6:=(([]:List Int)++(cut2 b0 (1:Int) (b0.length:Int)))
 gd (inB (rdL b0 (0:Int) (0:Int)) (b1.length))
 (let x7:=(rdL b1 (rdL b0 (0:Int) (0:Int)) X3)
 gd (fits (x6.length+x7.2.2.2.2.2.1.length) 8)
 (let x8:=(x6++x7.2.2.2.2.2.1)
 rec x8 b1 (setL b2 (rdL b0 (0:Int) (0:Int)) true))))))
 else
 (rec (cut2 b0 (1:Int) (b0.length:Int)) b1 b2)))
 else
 (rec (cut2 b0 (1:Int) (b0.length:Int)) b1 b2))
 | none=>none)))
 else
 (some ((),(b2,())))
def z5m(N:Nat)(n:Nat):=
 itF (fun _ _ _=>none) (z1r N) n
theorem zei(N:Nat)(n:Nat):z5m N (n+1)=z1r N (z5m N n):=rfl
def zdo(N:Nat)(a0:(List Z7))(a1:(List Int)):Option ((List Int)):=
 gd ((decide (0<=(a0.length:Int))&&decide ((a0.length:Int)<=(a0.length:Int)))&&(decide ((a0.length:Int)<maxB)&&decide ((a0.length:Int)*1<maxB)))
 (let x1:=(ar (cK (a0.length:Int)) false)
 gd (fits (0+a1.length) 8)
 (let x2:=(([]:List Int)++a1)
 match z5m N N x2 a0 x1 with
 | some r9=>(match z5l N N (0:Int) r9.2.1 ([]:List Int)with
 | some r11=>(some r11.2.1)
 | none=>none)
 | none=>none))
def z1i(N:Nat)(rec:Int->Z5->Int->(List Int)->(List Int)->(List Int)->Option Ty9_)(b0:Int)(b1:Z5)(b2:Int)(b3 b4 b5:(List Int)):Option Ty9_:=
 bif (decide (b0<(b5.length:Int)))then
 (gd (inB b0 (b5.length))
 ((zcf N b1 (rdL b5 b0 (0:Int))).bind fun r3=>
 bif (decide ((0:Int)<=r3))then
 (gd (inB b0 (b5.length))
 (gd (fits (b3.length+1) 8)
 (let x4:=(b3++([(rdL b5 b0 (0:Int))]:List Int))
 rec (aa .i64 (b0+(1:Int))) b1 b2 x4 b4 b5)))
 else
 (rec (aa .i64 (b0+(1:Int))) b1 b2 b3 b4 b5)))
 else
 (some (((),()),((),(((),((),b2)),(b3,(b4,()))))))
def z7o(N:Nat)(n:Nat):=
 itF (fun _ _ _ _ _ _=>none) (z1i N) n
theorem zea(N:Nat)(n:Nat):z7o N (n+1)=z1i N (z7o N n):=rfl
def zid(N:Nat)(a0:Z5)(a1:Z4):Option (K1):=
 (znr N a1).bind fun r1=>
 (zdo N a1.1 r1).bind fun r2=>
 (z7o N N (0:Int) a0 (0:Int) ([]:List Int) ([]:List Int) r2).bind fun r5=>
 some (r5.2.2.2.1,(r5.2.2.2.2.1,r5.2.2.1.2.2))
def G5(N:Nat)(rec:(List Int)->Bool->Int->Z5->z99->K1->Option yom)(b0:(List Int))(b1:Bool)(b2:Int)(b3:Z5)(b4:z99)(b5:K1):Option yom:=
 bif (decide (b2<(b0.length:Int)))then
 (bif (decide (b2<(8:Int)))then
 (gd (inB b2 (b0.length))
 (let x8:=(aH (aa .i64 ((rdL b0 b2 (0:Int)))) (5:Int))
 (z2n N b5 b3 x8).bind fun r9=>
 rec b0 b1 (aa .i64 (b2+(1:Int))) b3 b4 r9.1))
 else
 (some ((b1,((),((),()))),(b3,(b4,(b5,()))))))
 else
 (some ((b1,((),((),()))),(b3,(b4,(b5,())))))
def z2h(N:Nat)(n:Nat):=
 itF (fun _ _ _ _ _ _=>none) (G5 N) n
theorem z9i(N:Nat)(n:Nat):z2h N (n+1)=G5 N (z2h N n):=rfl
def z8u(N:Nat)(a0:zaz)(a1:zbg)(a2:(List Int)):Option (Bool):=
 (zbu N).bind fun r1=>
 (zle N a0).bind fun r2=>
 bif (!(eqi r2.2.2 (0:Int)))then
 (some r1)
 else
 ((zid N r2.1 r2.2.1).bind fun r3=>
 (z2q N r2.1 r3.1 a1.1).bind fun r4=>
 (z2q N r4.1 r3.1 a1.2).bind fun r5=>
 (zaq N r5.1 r2.2.1).bind fun r6=>
 (z2n N r6 r5.1 (4096:Int)).bind fun r7=>
 (z2h N N a2 r1 (0:Int) r5.1 r7 r6).bind fun r10=>
 (z2n N r10.2.2.2.1 r10.2.1 (4096:Int)).bind fun r11=>
 bif (eqi r10.2.2.1.2 (0:Int))then
 ((zce N r11.1 r10.2.2.1.1).bind fun r12=>
 bif r12 then
 ((zhb N r11.1).bind fun r13=>
 bif r13 then
 (some r10.1.1)
 else
 (some false))
 else
 (some false))
 else
 (some false))
end Ds
