/- Printed by a program of the session's: what the program's functions compute, and that they do. -/
import Derived.Test.YtljffhpbdmkplaaGreatDvD
set_option linter.all false
open Int renaming fdiv->dX,tdiv->c9,tmod->aJ,toNat->cK
open Go.IntKind renaming bits->bi,wrap->aa
open List renaming length->ap,replicate->ar
namespace Ds
open Go Go.Dv
def g8:Ty:=(.pair (.int .u8) (.pair (.int .u8) (.pair (.int .u8) (.pair (.int .u8) (.pair (.int .u8) (.int .u8))))))
abbrev J2:Type:=(Int×(Int×(Int×(Int×(Int×Int)))))
abbrev zzk:J2:=((0:Int),((0:Int),((0:Int),((0:Int),((0:Int),(0:Int))))))
def j9:Ty:=(.pair (.int .u8) (.pair (.int .u8) (.list g8)))
abbrev y0:Type:=(Int×(Int×(List J2)))
abbrev zjr:y0:=((0:Int),((0:Int),([]:List J2)))
def zsu:Ty:=(.pair (.int .u8) (.pair (.int .u8) (.int .u8)))
abbrev zms:Type:=(Int×(Int×Int))
abbrev yf6:zms:=((0:Int),((0:Int),(0:Int)))
def zbu:Ty:=(.pair (.int .u8) (.pair (.list j9) zsu))
abbrev zbt:Type:=(Int×((List y0)×zms))
abbrev yp1:zbt:=((0:Int),(([]:List y0),yf6))
def T_ref28_Rot:Ty:=(.pair (.int .u8) (.pair (.int .u16) (.int .u8)))
abbrev U9:Type:=(Int×(Int×Int))
abbrev z0q:U9:=((0:Int),((0:Int),(0:Int)))
def U2:Ty:=(.pair (.list (.int .i64)) (.pair (.list (.int .i64)) (.int .i64)))
abbrev X5:Type:=((List Int)×((List Int)×Int))
abbrev zjs:X5:=(([]:List Int),(([]:List Int),(0:Int)))
def G4:Ty:=(.pair .bool (.pair (.int .i64) (.list (.int .u8))))
abbrev X0:Type:=(Bool×(Int×(List Int)))
abbrev z1t:X0:=(false,((0:Int),([]:List Int)))
def K3:Ty:=(.pair (.int .i64) (.pair (.list (.list (.int .u8))) (.list G4)))
abbrev V7:Type:=(Int×((List (List Int))×(List X0)))
abbrev yf5:V7:=((0:Int),(([]:List (List Int)),([]:List X0)))
def K0:Ty:=(.pair (.list .bool) (.pair (.list (.int .i64)) (.int .i64)))
abbrev V4:Type:=((List Bool)×((List Int)×Int))
abbrev zzn:V4:=(([]:List Bool),(([]:List Int),(0:Int)))
def Y5:Ty:=(.pair K3 (.pair K0 (.pair (.int .i64) (.pair (.int .i64) (.pair (.int .i64) (.pair (.list (.int .i64)) (.pair (.list (.int .u64)) (.list (.int .i64)))))))))
abbrev Z4:Type:=(V7×(V4×(Int×(Int×(Int×((List Int)×((List Int)×(List Int))))))))
abbrev zon:Z4:=(yf5,(zzn,((0:Int),((0:Int),((0:Int),(([]:List Int),(([]:List Int),([]:List Int))))))))
def Y2:Ty:=(.pair .str (.pair .str (.int .i64)))
abbrev Z3:Type:=((List UInt8)×((List UInt8)×Int))
abbrev X6:Z3:=(([]:List UInt8),(([]:List UInt8),(0:Int)))
def z6w:Ty:=(.pair (.int .i64) (.int .i64))
abbrev z5k:Type:=(Int×Int)
abbrev zzm:z5k:=((0:Int),(0:Int))
def J9:Ty:=(.pair z6w z6w)
abbrev Y7:Type:=(z5k×z5k)
abbrev z6h:Y7:=(zzm,zzm)
def Z2:Ty:=(.pair .str .str)
abbrev Z0:Type:=((List UInt8)×(List UInt8))
abbrev Y8:Z0:=(([]:List UInt8),([]:List UInt8))
def Z9:Ty:=(.pair (.int .i64) (.pair .str (.pair .str (.pair Z2 (.pair .str (.pair .str (.int .i64)))))))
abbrev Z1:Type:=(Int×((List UInt8)×((List UInt8)×(Z0×((List UInt8)×((List UInt8)×Int))))))
abbrev Q7:Z1:=((0:Int),(([]:List UInt8),(([]:List UInt8),(Y8,(([]:List UInt8),(([]:List UInt8),(0:Int)))))))
def Y0:Ty:=(.pair (.list Y2) (.pair (.list .str) (.pair (.list (.int .i64)) (.pair (.list J9) (.list Z9)))))
abbrev Z6:Type:=((List Z3)×((List (List UInt8))×((List Int)×((List Y7)×(List Z1)))))
abbrev zig:Z6:=(([]:List Z3),(([]:List (List UInt8)),(([]:List Int),(([]:List Y7),([]:List Z1)))))
def Y9:Ty:=(.pair .bool (.pair .bool (.pair (.int .i64) Y0)))
abbrev Z7:Type:=(Bool×(Bool×(Int×Z6)))
abbrev X4:Z7:=(false,(false,((0:Int),zig)))
def z3i:Ty:=(.pair (.int .i64) (.pair (.int .i64) (.int .i64)))
abbrev U0:Type:=(Int×(Int×Int))
abbrev zzl:U0:=((0:Int),((0:Int),(0:Int)))
def z6x:Ty:=(.pair (.int .i64) (.pair (.int .i64) (.pair (.int .i64) (.pair .str (.list Z9)))))
abbrev W7:Type:=(Int×(Int×(Int×((List UInt8)×(List Z1)))))
abbrev X1:W7:=((0:Int),((0:Int),((0:Int),(([]:List UInt8),([]:List Z1)))))
def Y1:Ty:=(.pair (.list Y9) (.pair z3i (.pair (.list z6x) (.pair (.int .i64) (.pair (.int .i64) (.pair (.int .i64) (.list Z9)))))))
abbrev Z5:Type:=((List Z7)×(U0×((List W7)×(Int×(Int×(Int×(List Z1)))))))
abbrev zvh:Z5:=(([]:List Z7),(zzl,(([]:List W7),((0:Int),((0:Int),((0:Int),([]:List Z1)))))))
def z4g:Ty:=(.pair Y5 (.pair Y1 (.int .i64)))
abbrev z09:Type:=(Z4×(Z5×Int))
abbrev yju:z09:=(zon,(zvh,(0:Int)))
def z1o:Ty:=(.pair U2 U2)
abbrev v7:Type:=(X5×X5)
abbrev yjx:v7:=(zjs,zjs)
def zlo:Ty:=(.pair U2 (.int .i64))
abbrev zcl:Type:=(X5×Int)
abbrev ynl:zcl:=(zjs,(0:Int))
def ze5:Ty:=(.pair Y5 (.int .i64))
abbrev ze3:Type:=(Z4×Int)
abbrev yms:ze3:=(zon,(0:Int))
def zvg:Ty:=(.pair (.int .i64) (.pair (.int .i64) (.int .u8)))
abbrev zvf:Type:=(Int×(Int×Int))
abbrev yni:zvf:=((0:Int),((0:Int),(0:Int)))
def zex:Ty:=(.pair Y1 (.pair (.int .i64) (.int .i64)))
abbrev zew:Type:=(Z5×(Int×Int))
abbrev yjs:zew:=(zvh,((0:Int),(0:Int)))
def y8m:Ty:=(.pair U2 Y5)
abbrev y8l:Type:=(X5×Z4)
abbrev ynh:y8l:=(zjs,zon)
def W2:Ty:=(.pair (.list Y9) (.pair (.int .i64) z3i))
abbrev Y6:Type:=((List Z7)×(Int×U0))
abbrev y3r:Y6:=(([]:List Z7),((0:Int),zzl))
def z92:Ty:=(.pair W2 (.pair (.int .i64) (.int .i64)))
abbrev z4f:Type:=(Y6×(Int×Int))
abbrev yjv:z4f:=(y3r,((0:Int),(0:Int)))
def zkg:Ty:=(.pair (.list Y9) (.pair (.int .i64) (.int .i64)))
abbrev ze4:Type:=((List Z7)×(Int×Int))
abbrev ymw:ze4:=(([]:List Z7),((0:Int),(0:Int)))
def zo5:Ty:=(.pair (.list Z9) (.list Z2))
abbrev zo4:Type:=((List Z1)×(List Z0))
abbrev yjw:zo4:=(([]:List Z1),([]:List Z0))
def zkd:Ty:=(.pair K0 (.pair (.int .i64) (.int .i64)))
abbrev zkb:Type:=(V4×(Int×Int))
abbrev ymt:zkb:=(zzn,((0:Int),(0:Int)))
def zgn:Ty:=(.pair (.list (.int .i64)) .bool)
abbrev J1:Type:=((List Int)×Bool)
abbrev ynj:J1:=(([]:List Int),false)
def ydk:Ty:=(.pair (.int .i64) (.pair (.int .i64) (.pair (.int .i64) (.int .i64))))
abbrev zw6:Type:=(Int×(Int×(Int×Int)))
abbrev yr1:zw6:=((0:Int),((0:Int),((0:Int),(0:Int))))
def zln:Ty:=(.pair Y0 (.pair Z2 (.int .i64)))
abbrev zgm:Type:=(Z6×(Z0×Int))
abbrev ynk:zgm:=(zig,(Y8,(0:Int)))
def zkf:Ty:=(.pair (.list Y0) (.pair (.list .str) (.list Z9)))
abbrev zkc:Type:=((List Z6)×((List (List UInt8))×(List Z1)))
abbrev ymv:zkc:=(([]:List Z6),(([]:List (List UInt8)),([]:List Z1)))
def zep:Ty:=(.pair (.list Y0) (.pair (.list .str) (.list Z9)))
abbrev zeo:Type:=((List Z6)×((List (List UInt8))×(List Z1)))
abbrev yp2:zeo:=(([]:List Z6),(([]:List (List UInt8)),([]:List Z1)))
def z7q:Ty:=(.pair W2 (.pair (.int .i64) (.int .i64)))
abbrev z7p:Type:=(Y6×(Int×Int))
abbrev yjt:z7p:=(y3r,((0:Int),(0:Int)))
def zhv:Ty:=(.pair (.int .i64) (.int .i64))
abbrev za4:Type:=(Int×Int)
abbrev yr0:za4:=((0:Int),(0:Int))
def zom:Ty:=(.pair (.list Z9) (.pair (.list Z9) (.list Z2)))
abbrev zjq:Type:=((List Z1)×((List Z1)×(List Z0)))
abbrev yp3:zjq:=(([]:List Z1),(([]:List Z1),([]:List Z0)))
def zke:Ty:=(.pair (.list Y9) (.pair (.list (.int .i64)) (.int .i64)))
abbrev zaw:Type:=((List Z7)×((List Int)×Int))
abbrev ymu:zaw:=(([]:List Z7),(([]:List Int),(0:Int)))
def z1s:Ty:=(.pair .str (.pair (.int .i64) (.pair (.int .i64) .str)))
abbrev y5:Type:=((List UInt8)×(Int×(Int×(List UInt8))))
abbrev yp4:y5:=(([]:List UInt8),((0:Int),((0:Int),([]:List UInt8))))
abbrev Ty0_:Type:=((List Int)×(Unit×(Int×(Int×((List (List Int))×((List X0)×((List Bool)×((List Int)×(Int×(Int×(Int×(Int×((List Int)×((List Int)×(List Int)))))))))))))))
abbrev Ty1_:Type:=((Unit×((List Z7)×(Unit×((List Int)×(Bool×((Unit×(Unit×(Unit×(Unit×Unit))))×(Unit×(Unit×((List Int)×Unit))))))))))
abbrev Ty2_:Type:=(Int×((List (List Int))×((List X0)×((List Bool)×((List Int)×(Int×(Int×(Int×(Int×(Unit×(Unit×(List Int))))))))))))
abbrev Ty3_:Type:=((Bool×Unit)⊕(Unit×Unit))
abbrev Ty4_:Type:=(Unit×((Unit×(Unit×(Unit×(Unit×(Unit×((List UInt8)×((List UInt8)×Int)))))))×((List Z3)×((List (List UInt8))×((List Int)×((List Y7)×((List Z1)×Unit)))))))
abbrev Ty5_:Type:=(Unit×((Unit×Unit)×(Int×(Unit×(Ty0_×((List Int)×(Unit×Unit)))))))
abbrev Ty6_:Type:=((Unit×((Unit×(Unit×Unit))×(Int×((List Int)×(Unit×((List Int)×Unit))))))⊕(Unit×((Unit×(Unit×Unit))×(Int×(Unit×((List Int)×(Int×Unit)))))))
abbrev Ty7_:Type:=(Unit×((List Z3)×Unit))
abbrev Ty8_:Type:=(((Unit×(Unit×(Unit×(Unit×(Unit×Int)))))×(Ty2_×((List Int)×((List Int)×(Z5×(Unit×(Z4×((List Int)×Unit)))))))))
abbrev Ty9_:Type:=((Unit×(Unit×Int))×((List Int)×((List Int)×Unit)))
abbrev ya2:Type:=(((Unit×Unit)×(Z6×((List Int)×Unit))))
abbrev ya1:Type:=(Unit×(Unit×(Unit×Unit)))
abbrev ync:Type:=((((List U9)×(Bool×(Unit×(Unit×(Int×Bool)))))×(Z4×(v7×Unit))))
abbrev yq0:Type:=(((Int×ya1)×(Z5×(Unit×(W7×(((List Z7)×(Int×(Int×(Int×(Unit×(Int×(Int×(Int×(List Z1)))))))))×((List W7)×Unit)))))))
abbrev ynb:Type:=((Unit×(Unit×Unit))×((List Z1)×((List Z1)×((List Z0)×Unit))))
abbrev ypz:Type:=((Unit×((Unit×(Unit×Int))×((List Z7)×((List Int)×Unit))))⊕((Unit×Unit)×(Unit×(((List Z7)×(Unit×Int))×((List Int)×Unit)))))
abbrev ypy:Type:=((Unit×(ze3×Unit))⊕((Unit×(Unit×(Unit×((List Int)×((List Int)×Unit)))))×(Z4×(Unit×(Z4×((List Int)×Unit))))))
abbrev ya0:Type:=((Unit×((List Z0)×Unit)))
abbrev ypx:Type:=(((Unit×((List Int)×Bool))×(Z4×Unit))⊕((Unit×(Unit×Unit))×(Ty2_×((List Int)×((List Int)×(Unit×((List Int)×Unit)))))))
abbrev yna:Type:=((Int×(Unit×Unit))×((List (List Int))×((List X0)×Unit)))
abbrev ypw:Type:=(((Int×(Unit×Unit))×(Unit×((List Int)×(Unit×(Unit×((List Int)×((List Z7)×(Bool×((Unit×ya1)×Unit))))))))))
abbrev ypv:Type:=((((List U9)×(Unit×(Bool×(Unit×(Unit×Unit)))))×(X5×(z09×(X5×(Z4×Unit))))))
abbrev yji:Type:=((List Z7)×(Z6×(Unit×Unit)))
abbrev ypu:Type:=(((Unit×Int)×(Z5×Unit))⊕(((List Z1)×(Unit×(Unit×Unit)))×(Z5×(Unit×(Y6×Unit)))))
abbrev yf2:Type:=(Unit×(Ty0_×((List Int)×Unit)))
abbrev ypt:Type:=((Unit×((Unit×((List Int)×(Int×(Int×Int))))×((List Bool)×Unit)))⊕((Unit×Unit)×(V4×(Unit×Unit))))
abbrev yf1:Type:=((Unit×Int)×(Y6×Unit))
abbrev yps:Type:=(((Unit×Unit)×(Unit×((Unit×(Unit×Unit))×((List Z6)×((List (List UInt8))×((List Z1)×Unit)))))))
abbrev ypr:Type:=(((Unit×Unit)×((Unit×(Unit×Unit))×((List Z1)×((List Z1)×((List Z0)×(Unit×Unit)))))))
abbrev yjh:Type:=(Unit×(Unit×((List Z7)×Unit)))
abbrev yf0:Type:=(Z6×(Z0×Unit))
abbrev ypq:Type:=((((List Z3)×Int)×Unit)⊕(((List Z0)×(Unit×Unit))×(Z6×((List Z3)×Unit))))
abbrev yn9:Type:=((Unit×(Unit×Int))×((List Bool)×((List Int)×Unit)))
abbrev ypp:Type:=(((Unit×Unit)×(Unit×((Unit×(Unit×(List Z1)))×((List Z6)×((List (List UInt8))×Unit))))))
abbrev yjg:Type:=(Z0×((List Z0)×Unit))
abbrev ypo:Type:=((((List Z0)×ya1)×((List Z7)×(Z0×(Z6×((List Z0)×Unit))))))
abbrev ypn:Type:=((Unit×(zew×Unit))⊕(((List UInt8)×(Unit×Unit))×(Z5×(Unit×Unit))))
abbrev yjf:Type:=((Unit×((List Y7)×Unit)))
abbrev ypm:Type:=((((List Z3)×((List Z0)×(Unit×(Int×Bool))))×((List Z3)×Unit)))
abbrev ypl:Type:=(((List U9)×(Bool×(Unit×(Unit×Int))))×(Z4×(v7×Unit)))
abbrev yje:Type:=(((Unit×Unit)×(Unit×Ty9_)))
abbrev ypk:Type:=(((Unit×Int)×(Z6×Unit))⊕((Unit×(Unit×Unit))×(Z6×Ty7_)))
abbrev yjd:Type:=((Bool×Unit)⊕(Bool×Unit))
abbrev yn8:Type:=((List Z0)×((List Z0)×Unit))

def zee(N:Nat)(a0:U0):Option (Bool):=
 bif (decide ((2:Int)<=a0.1))then
 (bif (decide (a0.1<=(64:Int)))then
 (bif (decide ((2:Int)<=a0.2.1))then
 (bif (decide (a0.2.1<=(16:Int)))then
 (bif (decide ((1:Int)<=a0.2.2))then
 (some (decide (a0.2.2<=(64:Int))))
 else
 (some false))
 else
 (some false))
 else
 (some false))
 else
 (some false))
 else
 (some false)
def z7f(N:Nat)(a0:(List Z7))(a1:Int):Option (Bool):=
 bif (decide ((0:Int)<=a1))then
 (bif (decide (a1<(a0.length:Int)))then
 (gd (inB a1 (a0.length))
 (some ((rdL a0 a1 X4).1)))
 else
 (some false))
 else
 (some false)
def z9r(N:Nat)(a0:(List Z7)):Option ((List Z7)):=
 gd (fits (0+a0.length) 136)
 (let x1:=(([]:List Z7)++a0)
 some x1)
def z55(N:Nat)(rec:Int->Int->Z6->(List Z7)->Option (((Unit×(Int×Unit))×yjh)))(b0 b1:Int)(b2:Z6)(b3:(List Z7)):Option (((Unit×(Int×Unit))×yjh)):=
 bif (decide (b1<(b2.2.2.1.length:Int)))then
 (gd (inB b1 (b2.2.2.1.length))
 (gd (inB (rdL b2.2.2.1 b1 (0:Int)) (b3.length))
 (let x10:=(((rdL b3 (rdL b2.2.2.1 b1 (0:Int)) X4).2).2).1
 gd (inB (rdL b2.2.2.1 b1 (0:Int)) (b3.length))
 (let x11:=(setL b3 (rdL b2.2.2.1 b1 (0:Int)) ((rdL b3 (rdL b2.2.2.1 b1 (0:Int)) X4).1,(((rdL b3 (rdL b2.2.2.1 b1 (0:Int)) X4).2).1,((aa .i64 (x10+(1:Int))),((((rdL b3 (rdL b2.2.2.1 b1 (0:Int)) X4).2).2).2)))))
 rec b0 (aa .i64 (b1+(1:Int))) b2 x11))))
 else
 (some (((),(b0,())),((),((),(b3,())))))
def z5f(N:Nat)(n:Nat):=
 itF (fun _ _ _ _=>none) (z55 N) n
theorem ziv(N:Nat)(n:Nat):z5f N (n+1)=z55 N (z5f N n):=rfl
def z56(N:Nat)(rec:Int->(List Z7)->Z6->Option (((Unit×(Unit×(Unit×Int)))×yji)))(b0:Int)(b1:(List Z7))(b2:Z6):Option (((Unit×(Unit×(Unit×Int)))×yji)):=
 bif (decide (b0<(b1.length:Int)))then
 (gd (inB b0 (b1.length))
 (bif (rdL b1 b0 X4).1 then
 (rec (aa .i64 (b0+(1:Int))) b1 b2)
 else
 (some (((),((),((),b0))),(b1,(b2,((),())))))))
 else
 (some (((),((),((),b0))),(b1,(b2,((),())))))
def z9s(N:Nat)(n:Nat):=
 itF (fun _ _ _=>none) (z56 N) n
theorem ziw(N:Nat)(n:Nat):z9s N (n+1)=z56 N (z9s N n):=rfl
def z57(N:Nat)(rec:Int->(List Z7)->Z6->Option ((Unit×(ze4×Unit))⊕((Unit×(Unit×Unit))×yji)))(b0:Int)(b1:(List Z7))(b2:Z6):Option ((Unit×(ze4×Unit))⊕((Unit×(Unit×Unit))×yji)):=
 bif (decide (b0<(b2.2.2.1.length:Int)))then
 (gd (inB b0 (b2.2.2.1.length))
 (match z7f N b1 (rdL b2.2.2.1 b0 (0:Int))with
 | some r1=>(bif (!r1)then
 (some (.inl ((),((b1,((0:Int),(110:Int))),()))))
 else
 (rec (aa .i64 (b0+(1:Int))) b1 b2))
 | none=>none))
 else
 (some (.inr (((),((),())),(b1,(b2,((),()))))))
def z9t(N:Nat)(n:Nat):=
 itF (fun _ _ _=>none) (z57 N) n
theorem zix(N:Nat)(n:Nat):z9t N (n+1)=z57 N (z9t N n):=rfl
def z6g(N:Nat)(a0:(List Z7))(a1:Z6):Option (ze4):=
 match z9t N N (0:Int) a0 a1 with
 | some r2=>(match r2 with
 | .inl r3=>(some r3.2.1)
 | .inr r4=>(match z9s N N (0:Int) r4.2.1 r4.2.2.1 with
 | some r5=>(bif (decide ((4096:Int)<=r5.1.2.2.2))then
 (some (r5.2.1,((0:Int),(111:Int))))
 else
 (match z9r N r5.2.1 with
 | some r6=>(bif (eqi r5.1.2.2.2 (r6.length:Int))then
 (let x7:=([(false,(false,((0:Int),(([]:List Z3),(([]:List (List UInt8)),(([]:List Int),(([]:List Y7),([]:List Z1))))))))]:List Z7)
 gd (fits (r6.length+x7.length) 136)
 (let x8:=(r6++x7)
 gd (inB r5.1.2.2.2 (x8.length))
 (let x9:=(setL x8 r5.1.2.2.2 (true,(false,((1:Int),r5.2.2.1))))
 match z5f N N r5.1.2.2.2 (0:Int) r5.2.2.1 x9 with
 | some r12=>(some (r12.2.2.2.1,(r12.1.2.1,(0:Int))))
 | none=>none)))
 else
 (gd (inB r5.1.2.2.2 (r6.length))
 (let x13:=(setL r6 r5.1.2.2.2 (true,(false,((1:Int),r5.2.2.1))))
 match z5f N N r5.1.2.2.2 (0:Int) r5.2.2.1 x13 with
 | some r14=>(some (r14.2.2.2.1,(r14.1.2.1,(0:Int))))
 | none=>none)))
 | none=>none))
 | none=>none))
 | none=>none
def zy2(N:Nat)(a0:U0):Option ((Y6×Int)):=
 (zee N a0).bind fun r1=>
 bif (!r1)then
 (some ((([]:List Z7),((0:Int),((0:Int),((0:Int),(0:Int))))),(120:Int)))
 else
 ((z6g N ([]:List Z7) (([]:List Z3),(([]:List (List UInt8)),(([]:List Int),(([]:List Y7),([]:List Z1)))))).bind fun r2=>
 some ((r2.1,(r2.2.1,a0)),(0:Int)))
def zkq(N:Nat)(a0:U0):Option ((Z5×Int)):=
 (zy2 N a0).bind fun r1=>
 bif (!(eqi r1.2 (0:Int)))then
 (some ((([]:List Z7),(((0:Int),((0:Int),(0:Int))),(([]:List W7),((0:Int),((0:Int),((0:Int),([]:List Z1))))))),r1.2))
 else
 (some ((r1.1.1,(a0,(([]:List W7),((1:Int),(r1.1.2.1,((0:Int),([]:List Z1))))))),(0:Int)))
def z3p(N:Nat)(rec:Int->Int->Z5->Option ((Int×Unit)⊕(Unit×Unit)))(b0 b1:Int)(b2:Z5):Option ((Int×Unit)⊕(Unit×Unit)):=
 bif (decide (b1<(b2.2.2.1.length:Int)))then
 (gd (inB b1 (b2.2.2.1.length))
 (bif (eqi ((rdL b2.2.2.1 b1 X1).1) b0)then
 (some (.inl (b1,())))
 else
 (rec b0 (aa .i64 (b1+(1:Int))) b2)))
 else
 (some (.inr ((),())))
def zae(N:Nat)(n:Nat):=
 itF (fun _ _ _=>none) (z3p N) n
theorem zgv(N:Nat)(n:Nat):zae N (n+1)=z3p N (zae N n):=rfl
def zdd(N:Nat)(a0:Z5)(a1:Int):Option (Int):=
 (zae N N a1 (0:Int) a0).bind fun r1=>
 match r1 with
 | .inl r2=>(some r2.1)
 | .inr r3=>(some (-1:Int))
def zsd(N:Nat)(a0:Z5)(a1:Int):Option ((Y6×Int)):=
 bif (eqi a1 (0:Int))then
 (some ((a0.1,(a0.2.2.2.2.1,a0.2.1)),(0:Int)))
 else
 ((zdd N a0 a1).bind fun r1=>
 bif (decide (r1<(0:Int)))then
 (some ((([]:List Z7),((0:Int),((0:Int),((0:Int),(0:Int))))),(160:Int)))
 else
 (gd (inB r1 (a0.2.2.1.length))
 (some ((a0.1,((((rdL a0.2.2.1 r1 X1).2).2).1,a0.2.1)),(0:Int)))))
def zik(N:Nat)(a0 a1 a2:Int):Option (Bool):=
 bif (decide (a1<=a0))then
 (some (decide (a0<=a2)))
 else
 (some false)
def z0n(N:Nat)(a0:Z0):Option (Bool):=
 bif (!(eqs a0.2 ([]:List UInt8)))then
 (some (lts a0.2 a0.1 || eqs a0.2 a0.1))
 else
 (some false)
def zi6(N:Nat)(a0:Z0):Option (Bool):=
 match z0n N a0 with
 | some r1=>(bif (!r1)then
 (let x2:=(decide ((a0.1.length:Int)<=(65535:Int)))
 bif x2 then
 (let x3:=(decide ((a0.2.length:Int)<=(65535:Int)))
 some x3)
 else
 (some false))
 else
 (some false))
 | none=>none
def z0a(N:Nat)(a0 a1:(List UInt8)):Option (Bool):=
 let x1:=(decide ((a1.length:Int)<=(a0.length:Int)))
 bif x1 then
 (gd (decide (0<=(0:Int))&&(decide ((0:Int)<=(a1.length:Int))&&decide ((a1.length:Int)<=(a0.length:Int))))
 (let x2:=(eqs (cut2 a0 (0:Int) (a1.length:Int)) a1)
 some x2))
 else
 (some false)
def z8s(N:Nat)(b0:Bool)(b1:Int)(b2:Bool)(b3:Z1):Option Ty3_:=
 bif b2 then
 (match z0a N b3.2.2.2.2.1 b3.2.2.2.2.2.1 with
 | some r8=>(bif (!r8)then
 (match z0a N b3.2.2.2.2.2.1 b3.2.2.2.2.1 with
 | some r9=>(bif (!r9)then
 (match zik N (b3.2.2.2.2.1.length:Int) (1:Int) (200:Int)with
 | some r10=>(bif r10 then
 (match zik N (b3.2.2.2.2.2.1.length:Int) (1:Int) (200:Int)with
 | some r11=>(bif r11 then
 (let x12:=(eqi b3.1 b3.1&&(eqs b3.2.1 ([]:List UInt8)&&(eqs b3.2.2.1 ([]:List UInt8)&&(eqs b3.2.2.2.1.1 ([]:List UInt8)&&(eqs b3.2.2.2.1.2 ([]:List UInt8)&&(eqs b3.2.2.2.2.1 b3.2.2.2.2.1&&(eqs b3.2.2.2.2.2.1 b3.2.2.2.2.2.1&&(eqi b3.2.2.2.2.2.2 (0:Int)&&true))))))))
 some (.inl (x12,())))
 else
 (some (.inl (false,()))))
 | none=>none)
 else
 (some (.inl (false,()))))
 | none=>none)
 else
 (some (.inl (false,()))))
 | none=>none)
 else
 (some (.inl (false,()))))
 | none=>none)
 else
 (bif (eqi b1 (6:Int))then
 (match zi6 N b3.2.2.2.1 with
 | some r13=>(bif r13 then
 (bif b0 then
 (let x14:=(eqi b3.1 b3.1&&(eqs b3.2.1 ([]:List UInt8)&&(eqs b3.2.2.1 ([]:List UInt8)&&(eqs b3.2.2.2.1.1 b3.2.2.2.1.1&&(eqs b3.2.2.2.1.2 b3.2.2.2.1.2&&(eqs b3.2.2.2.2.1 ([]:List UInt8)&&(eqs b3.2.2.2.2.2.1 ([]:List UInt8)&&(eqi b3.2.2.2.2.2.2 b3.2.2.2.2.2.2&&true))))))))
 some (.inl (x14,())))
 else
 (some (.inl (false,()))))
 else
 (some (.inl (false,()))))
 | none=>none)
 else
 (some (.inr ((),()))))
def zbp(N:Nat)(a0:Z1):Option (Bool):=
 match zik N (a0.2.1.length:Int) (1:Int) (65535:Int)with
 | some r1=>(match zik N a0.2.2.2.2.2.2 (0:Int) (1000000000:Int)with
 | some r2=>(bif (eqi a0.1 (1:Int))then
 (bif r1 then
 (let x3:=(decide ((a0.2.2.1.length:Int)<=(64:Int)))
 bif x3 then
 (bif r2 then
 (let x4:=(eqi a0.1 a0.1&&(eqs a0.2.1 a0.2.1&&(eqs a0.2.2.1 a0.2.2.1&&(eqs a0.2.2.2.1.1 ([]:List UInt8)&&(eqs a0.2.2.2.1.2 ([]:List UInt8)&&(eqs a0.2.2.2.2.1 ([]:List UInt8)&&(eqs a0.2.2.2.2.2.1 ([]:List UInt8)&&(eqi a0.2.2.2.2.2.2 a0.2.2.2.2.2.2&&true))))))))
 some x4)
 else
 (some false))
 else
 (some false))
 else
 (some false))
 else
 (bif (eqi a0.1 (2:Int))then
 (bif r1 then
 (let x5:=(eqi a0.1 a0.1&&(eqs a0.2.1 a0.2.1&&(eqs a0.2.2.1 ([]:List UInt8)&&(eqs a0.2.2.2.1.1 ([]:List UInt8)&&(eqs a0.2.2.2.1.2 ([]:List UInt8)&&(eqs a0.2.2.2.2.1 ([]:List UInt8)&&(eqs a0.2.2.2.2.2.1 ([]:List UInt8)&&(eqi a0.2.2.2.2.2.2 (0:Int)&&true))))))))
 some x5)
 else
 (some false))
 else
 (bif (eqi a0.1 (3:Int))then
 (match zi6 N a0.2.2.2.1 with
 | some r6=>(bif r6 then
 (let x7:=(eqi a0.1 a0.1&&(eqs a0.2.1 ([]:List UInt8)&&(eqs a0.2.2.1 ([]:List UInt8)&&(eqs a0.2.2.2.1.1 a0.2.2.2.1.1&&(eqs a0.2.2.2.1.2 a0.2.2.2.1.2&&(eqs a0.2.2.2.2.1 ([]:List UInt8)&&(eqs a0.2.2.2.2.2.1 ([]:List UInt8)&&(eqi a0.2.2.2.2.2.2 (0:Int)&&true))))))))
 some x7)
 else
 (some false))
 | none=>none)
 else
 (bif (eqi a0.1 (4:Int))then
 (match z8s N r2 a0.1 true a0 with
 | some r15=>(match r15 with
 | .inl r16=>(some r16.1)
 | .inr r17=>(some false))
 | none=>none)
 else
 (match z8s N r2 a0.1 (eqi a0.1 (5:Int)) a0 with
 | some r18=>(match r18 with
 | .inl r19=>(some r19.1)
 | .inr r20=>(some false))
 | none=>none)))))
 | none=>none)
 | none=>none
def za1(N:Nat)(a0:(List Z7))(a1:Int):Option ((Z6×Int)):=
 match z7f N a0 a1 with
 | some r1=>(bif (!r1)then
 (some ((([]:List Z3),(([]:List (List UInt8)),(([]:List Int),(([]:List Y7),([]:List Z1))))),(110:Int)))
 else
 (gd (inB a1 (a0.length))
 (bif ((rdL a0 a1 X4).2).1 then
 (some ((([]:List Z3),(([]:List (List UInt8)),(([]:List Int),(([]:List Y7),([]:List Z1))))),(112:Int)))
 else
 (gd (inB a1 (a0.length))
 (some (((((rdL a0 a1 X4).2).2).2),(0:Int)))))))
 | none=>none
def z1x(N:Nat)(b0:(List Z3))(b1:Bool)(b2:Int)(b3:Z3)(b4:(List Z3)):Option ((((List Z3)×(Unit×(Unit×(Bool×Int))))×(Z3×((List Z3)×Unit)))):=
 gd (inB b2 (b0.length))
 (bif (!(eqs ((rdL b0 b2 X6).1) b3.1))then
 (gd (inB b2 (b0.length))
 (gd (fits (b4.length+1) 40)
 (let x3:=(b4++([(rdL b0 b2 X6)]:List Z3))
 some ((b0,((),((),(b1,b2)))),(b3,(x3,()))))))
 else
 (some ((b0,((),((),(b1,b2)))),(b3,(b4,())))))
def z1c(N:Nat)(rec:(List Z3)->Bool->Int->Z3->(List Z3)->Option (((Unit×(Unit×Bool))×(Z3×((List Z3)×Unit)))))(b0:(List Z3))(b1:Bool)(b2:Int)(b3:Z3)(b4:(List Z3)):Option (((Unit×(Unit×Bool))×(Z3×((List Z3)×Unit)))):=
 bif (decide (b2<(b0.length:Int)))then
 (bif (!b1)then
 (gd (inB b2 (b0.length))
 (let x1:=(lts b3.1 ((rdL b0 b2 X6).1) || eqs b3.1 ((rdL b0 b2 X6).1))
 bif x1 then
 (gd (fits (b4.length+1) 40)
 (let x2:=(b4++([b3]:List Z3))
 match z1x N b0 true b2 b3 x2 with
 | some r4=>(let x5:=(aa .i64 (r4.1.2.2.2.2+(1:Int)))
 rec r4.1.1 r4.1.2.2.2.1 x5 r4.2.1 r4.2.2.1)
 | none=>none))
 else
 (match z1x N b0 b1 b2 b3 b4 with
 | some r6=>(let x7:=(aa .i64 (r6.1.2.2.2.2+(1:Int)))
 rec r6.1.1 r6.1.2.2.2.1 x7 r6.2.1 r6.2.2.1)
 | none=>none)))
 else
 (match z1x N b0 b1 b2 b3 b4 with
 | some r8=>(let x9:=(aa .i64 (r8.1.2.2.2.2+(1:Int)))
 rec r8.1.1 r8.1.2.2.2.1 x9 r8.2.1 r8.2.2.1)
 | none=>none))
 else
 (some (((),((),b1)),(b3,(b4,()))))
def z1y(N:Nat)(n:Nat):=
 itF (fun _ _ _ _ _=>none) (z1c N) n
theorem zdu(N:Nat)(n:Nat):z1y N (n+1)=z1c N (z1y N n):=rfl
def z9u(N:Nat)(a0:(List Z3))(a1:Z3):Option ((List Z3)):=
 match z1y N N a0 false (0:Int) a1 ([]:List Z3)with
 | some r10=>(bif (!r10.1.2.2)then
 (gd (fits (r10.2.2.1.length+1) 40)
 (let x11:=(r10.2.2.1++([r10.2.1]:List Z3))
 some x11))
 else
 (some r10.2.2.1))
 | none=>none
def za2(N:Nat)(a0:(List UInt8)):Option (Z0):=
 gd (decide (a0.length+ap ([0]:List UInt8)<maxS))
 (let x1:=(a0++([0]:List UInt8))
 some (a0,x1))
def zbz(N:Nat)(a0:Z0)(a1:(List UInt8)):Option (Bool):=
 bif (!(lts a1 a0.1))then
 (bif (eqs a0.2 ([]:List UInt8))then
 (some true)
 else
 (some (lts a1 a0.2)))
 else
 (some false)
def z60(N:Nat)(rec:(List Z0)->(List UInt8)->Int->Option Ty3_)(b0:(List Z0))(b1:(List UInt8))(b2:Int):Option Ty3_:=
 bif (decide (b2<(b0.length:Int)))then
 (gd (inB b2 (b0.length))
 (match zbz N (rdL b0 b2 Y8) b1 with
 | some r1=>(bif r1 then
 (some (.inl (true,())))
 else
 (rec b0 b1 (aa .i64 (b2+(1:Int)))))
 | none=>none))
 else
 (some (.inr ((),())))
def zek(N:Nat)(n:Nat):=
 itF (fun _ _ _=>none) (z60 N) n
theorem zki(N:Nat)(n:Nat):zek N (n+1)=z60 N (zek N n):=rfl
def zoz(N:Nat)(a0:(List Z0))(a1:(List UInt8)):Option (Bool):=
 match zek N N a0 a1 (0:Int)with
 | some r2=>(match r2 with
 | .inl r3=>(some r3.1)
 | .inr r4=>(some false))
 | none=>none
def z0m(N:Nat)(rec:(List Z3)->(List Z0)->Int->(List Z3)->Option (Ty7_))(b0:(List Z3))(b1:(List Z0))(b2:Int)(b3:(List Z3)):Option (Ty7_):=
 bif (decide (b2<(b0.length:Int)))then
 (gd (inB b2 (b0.length))
 (match zoz N b1 ((rdL b0 b2 X6).1)with
 | some r1=>(bif (!r1)then
 (gd (inB b2 (b0.length))
 (gd (fits (b3.length+1) 40)
 (let x2:=(b3++([(rdL b0 b2 X6)]:List Z3))
 rec b0 b1 (aa .i64 (b2+(1:Int))) x2)))
 else
 (rec b0 b1 (aa .i64 (b2+(1:Int))) b3))
 | none=>none))
 else
 (some ((),(b3,())))
def z5z(N:Nat)(n:Nat):=
 itF (fun _ _ _ _=>none) (z0m N) n
theorem zcs(N:Nat)(n:Nat):z5z N (n+1)=z0m N (z5z N n):=rfl
def z5m(N:Nat)(a0:(List Z3))(a1:(List Z0)):Option ((List Z3)):=
 match z5z N N a0 a1 (0:Int) ([]:List Z3)with
 | some r3=>(some r3.2.1)
 | none=>none
def z4s(N:Nat)(rec:(List UInt8)->Int->Option ((((List UInt8)×(Unit×Int))×(Unit×Unit))))(b0:(List UInt8))(b1:Int):Option ((((List UInt8)×(Unit×Int))×(Unit×Unit))):=
 bif (decide ((0:Int)<b1))then
 (gd (inB (aa .i64 (b1-(1:Int))) (b0.length))
 (let x1:=(eqi (bt b0 (aa .i64 (b1-(1:Int)))) (255:Int))
 bif x1 then
 (rec b0 (aa .i64 (b1-(1:Int))))
 else
 (some ((b0,((),b1)),((),())))))
 else
 (some ((b0,((),b1)),((),())))
def G9(N:Nat)(n:Nat):=
 itF (fun _ _=>none) (z4s N) n
theorem zdw(N:Nat)(n:Nat):G9 N (n+1)=z4s N (G9 N n):=rfl
def U8(N:Nat)(a0:(List UInt8)):Option (Z0):=
 match G9 N N a0 (a0.length:Int)with
 | some r2=>(bif (eqi r2.1.2.2 (0:Int))then
 (some (r2.1.1,([]:List UInt8)))
 else
 (gd (decide (0<=(0:Int))&&(decide ((0:Int)<=(aa .i64 (r2.1.2.2-(1:Int))))&&decide ((aa .i64 (r2.1.2.2-(1:Int)))<=(r2.1.1.length:Int))))
 (let x3:=(cut2 r2.1.1 (0:Int) (aa .i64 (r2.1.2.2-(1:Int))))
 gd (inB (aa .i64 (r2.1.2.2-(1:Int))) (r2.1.1.length))
 (let x4:=(bt r2.1.1 (aa .i64 (r2.1.2.2-(1:Int))))
 let x5:=([(aa .u8 (x4+(1:Int)))]:List Int)
 gd (decide (x3.length+ap (zn8 x5)<maxS))
 (let x6:=(x3++(zn8 x5))
 some (r2.1.1,x6))))))
 | none=>none
def z19(N:Nat)(rec:(List Z3)->(List Z0)->Int->(List Z3)->Option (Ty7_))(b0:(List Z3))(b1:(List Z0))(b2:Int)(b3:(List Z3)):Option (Ty7_):=
 bif (decide (b2<(b0.length:Int)))then
 (gd (inB b2 (b0.length))
 (match zoz N b1 ((rdL b0 b2 X6).1)with
 | some r1=>(bif r1 then
 (gd (inB b2 (b0.length))
 (gd (fits (b3.length+1) 40)
 (let x2:=(b3++([(rdL b0 b2 X6)]:List Z3))
 rec b0 b1 (aa .i64 (b2+(1:Int))) x2)))
 else
 (rec b0 b1 (aa .i64 (b2+(1:Int))) b3))
 | none=>none))
 else
 (some ((),(b3,())))
def z7i(N:Nat)(n:Nat):=
 itF (fun _ _ _ _=>none) (z19 N) n
theorem zds(N:Nat)(n:Nat):z7i N (n+1)=z19 N (z7i N n):=rfl
def zgb(N:Nat)(a0:(List Z3))(a1:(List Z0)):Option ((List Z3)):=
 match z7i N N a0 a1 (0:Int) ([]:List Z3)with
 | some r3=>(some r3.2.1)
 | none=>none
def zjd(N:Nat)(a0 a1 a2:(List UInt8)):Option (((List UInt8)×Bool)):=
 match z0a N a0 a1 with
 | some r1=>(bif (!r1)then
 (some (([]:List UInt8),false))
 else
 (gd (decide (0<=(a1.length:Int))&&(decide ((a1.length:Int)<=(a0.length:Int))&&decide ((a0.length:Int)<=(a0.length:Int))))
 (let x2:=(cut2 a0 (a1.length:Int) (a0.length:Int))
 gd (decide (a2.length+x2.length<maxS))
 (let x3:=(a2++x2)
 some (x3,true)))))
 | none=>none
def z2r(N:Nat)(rec:Int->Z1->(List Z3)->Option (Ty7_))(b0:Int)(b1:Z1)(b2:(List Z3)):Option (Ty7_):=
 bif (decide (b0<(b2.length:Int)))then
 (gd (inB b0 (b2.length))
 (match zbz N b1.2.2.2.1 ((rdL b2 b0 X6).1)with
 | some r6=>(bif r6 then
 (gd (inB b0 (b2.length))
 (let x7:=(setL b2 b0 ((rdL b2 b0 X6).1,(((rdL b2 b0 X6).2).1,b1.2.2.2.2.2.2)))
 rec (aa .i64 (b0+(1:Int))) b1 x7))
 else
 (rec (aa .i64 (b0+(1:Int))) b1 b2))
 | none=>none))
 else
 (some ((),(b2,())))
def z8v(N:Nat)(n:Nat):=
 itF (fun _ _ _=>none) (z2r N) n
theorem zfl(N:Nat)(n:Nat):z8v N (n+1)=z2r N (z8v N n):=rfl
def z2s(N:Nat)(rec:Int->Z1->(List Z3)->(List Z3)->Option (Ty7_))(b0:Int)(b1:Z1)(b2:(List Z3))(b3:(List Z3)):Option (Ty7_):=
 bif (decide (b0<(b3.length:Int)))then
 (gd (inB b0 (b3.length))
 (match zjd N ((rdL b3 b0 X6).1) b1.2.2.2.2.1 b1.2.2.2.2.2.1 with
 | some r15=>(gd (inB b0 (b3.length))
 (gd (inB b0 (b3.length))
 (match z9u N b2 (r15.1,((rdL b3 b0 X6).2))with
 | some r16=>(rec (aa .i64 (b0+(1:Int))) b1 r16 b3)
 | none=>none)))
 | none=>none))
 else
 (some ((),(b2,())))
def z4d(N:Nat)(n:Nat):=
 itF (fun _ _ _ _=>none) (z2s N) n
theorem zfm(N:Nat)(n:Nat):z4d N (n+1)=z2s N (z4d N n):=rfl
def z3h(N:Nat)(a0:(List Z3))(a1:Z1):Option ((List Z3)):=
 bif (eqi a1.1 (1:Int))then
 (match z9u N a0 (a1.2.1,(a1.2.2.1,a1.2.2.2.2.2.2))with
 | some r1=>(some r1)
 | none=>none)
 else
 (bif (eqi a1.1 (2:Int))then
 (match za2 N a1.2.1 with
 | some r2=>(match z5m N a0 ([r2]:List Z0)with
 | some r3=>(some r3)
 | none=>none)
 | none=>none)
 else
 (bif (eqi a1.1 (3:Int))then
 (match z5m N a0 ([a1.2.2.2.1]:List Z0)with
 | some r4=>(some r4)
 | none=>none)
 else
 (bif (eqi a1.1 (6:Int))then
 (gd (fits (0+a0.length) 40)
 (let x5:=(([]:List Z3)++a0)
 match z8v N N (0:Int) a1 x5 with
 | some r8=>(some r8.2.1)
 | none=>none))
 else
 (match U8 N a1.2.2.2.2.2.1 with
 | some r9=>(match z5m N a0 ([r9]:List Z0)with
 | some r10=>(match U8 N a1.2.2.2.2.1 with
 | some r11=>(match zgb N a0 ([r11]:List Z0)with
 | some r12=>(bif (eqi a1.1 (4:Int))then
 (match U8 N a1.2.2.2.2.1 with
 | some r13=>(match z5m N r10 ([r13]:List Z0)with
 | some r14=>(match z4d N N (0:Int) a1 r14 r12 with
 | some r17=>(some r17.2.1)
 | none=>none)
 | none=>none)
 | none=>none)
 else
 (match z4d N N (0:Int) a1 r10 r12 with
 | some r18=>(some r18.2.1)
 | none=>none))
 | none=>none)
 | none=>none)
 | none=>none)
 | none=>none))))
def z3x(N:Nat)(rec:(List Int)->(List Z7)->Option (((Unit×Unit)×yjh)))(b0:(List Int))(b1:(List Z7)):Option (((Unit×Unit)×yjh)):=
 let x3:=(decide ((0:Int)<(b0.length:Int)))
 bif x3 then
 (gd (inB (0:Int) (b0.length))
 (gd (decide (0<=(1:Int))&&(decide ((1:Int)<=(b0.length:Int))&&decide ((b0.length:Int)<=(b0.length:Int))))
 (match z7f N b1 (rdL b0 (0:Int) (0:Int))with
 | some r4=>(bif (!r4)then
 (rec (cut2 b0 (1:Int) (b0.length:Int)) b1)
 else
 (gd (inB (rdL b0 (0:Int) (0:Int)) (b1.length))
 (let x5:=(((rdL b1 (rdL b0 (0:Int) (0:Int)) X4).2).2).1
 gd (inB (rdL b0 (0:Int) (0:Int)) (b1.length))
 (let x6:=(setL b1 (rdL b0 (0:Int) (0:Int)) ((rdL b1 (rdL b0 (0:Int) (0:Int)) X4).1,(((rdL b1 (rdL b0 (0:Int) (0:Int)) X4).2).1,((aa .i64 (x5-(1:Int))),((((rdL b1 (rdL b0 (0:Int) (0:Int)) X4).2).2).2)))))
 gd (inB (rdL b0 (0:Int) (0:Int)) (x6.length))
 (let x7:=(((rdL x6 (rdL b0 (0:Int) (0:Int)) X4).2).2).1
 bif (eqi x7 (0:Int))then
 (gd (fits (0+ap (cut2 b0 (1:Int) (b0.length:Int))) 8)
 (let x8:=(([]:List Int)++(cut2 b0 (1:Int) (b0.length:Int)))
 gd (inB (rdL b0 (0:Int) (0:Int)) (x6.length))
 (let x9:=((((((rdL x6 (rdL b0 (0:Int) (0:Int)) X4).2).2).2).2).2).1
 gd (fits (x8.length+x9.length) 8)
 (let x10:=(x8++x9)
 gd (inB (rdL b0 (0:Int) (0:Int)) (x6.length))
 (let x11:=(setL x6 (rdL b0 (0:Int) (0:Int)) (false,(false,((0:Int),(([]:List Z3),(([]:List (List UInt8)),(([]:List Int),(([]:List Y7),([]:List Z1)))))))))
 rec x10 x11)))))
 else
 (rec (cut2 b0 (1:Int) (b0.length:Int)) x6))))))
 | none=>none)))
 else
 (some (((),()),((),((),(b1,())))))
def z7v(N:Nat)(n:Nat):=
 itF (fun _ _=>none) (z3x N) n
theorem zh3(N:Nat)(n:Nat):z7v N (n+1)=z3x N (z7v N n):=rfl
def z31(N:Nat)(a0:(List Z7))(a1:Int):Option (((List Z7)×Int)):=
 match z7f N a0 a1 with
 | some r1=>(bif (!r1)then
 (some (a0,(110:Int)))
 else
 (match z9r N a0 with
 | some r2=>(match z7v N N ([a1]:List Int) r2 with
 | some r12=>(some (r12.2.2.2.1,(0:Int)))
 | none=>none)
 | none=>none))
 | none=>none
def zks(N:Nat)(a0:Y6)(a1:Z1):Option ((Y6×Int)):=
 (zbp N a1).bind fun r1=>
 bif (!r1)then
 (some (a0,(50:Int)))
 else
 ((za1 N a0.1 a0.2.1).bind fun r2=>
 bif (!(eqi r2.2 (0:Int)))then
 (some (a0,r2.2))
 else
 (let x3:=(eqi (r2.1.2.2.1.length:Int) (0:Int))
 bif x3 then
 ((z3h N r2.1.1 a1).bind fun r4=>
 (z6g N a0.1 (r4,r2.1.2)).bind fun r5=>
 bif (!(eqi r5.2.2 (0:Int)))then
 (some (a0,r5.2.2))
 else
 ((z31 N r5.1 a0.2.1).bind fun r6=>
 some ((r6.1,(r5.2.1,a0.2.2)),(0:Int))))
 else
 (gd (fits (0+r2.1.2.2.2.2.length) 112)
 (let x7:=(([]:List Z1)++r2.1.2.2.2.2)
 gd (fits (x7.length+1) 112)
 (let x8:=(x7++([a1]:List Z1))
 (z6g N a0.1 (r2.1.1,(r2.1.2.1,(r2.1.2.2.1,(r2.1.2.2.2.1,x8))))).bind fun r9=>
 bif (!(eqi r9.2.2 (0:Int)))then
 (some (a0,r9.2.2))
 else
 ((z31 N r9.1 a0.2.1).bind fun r10=>
 some ((r10.1,(r9.2.1,a0.2.2)),(0:Int))))))))
def zdx(N:Nat)(a0 a1:(List UInt8)):Option (Bool):=
 bif (!(eqs a0 ([]:List UInt8)))then
 (bif (eqs a1 ([]:List UInt8))then
 (some true)
 else
 (some (lts a0 a1)))
 else
 (some false)
def zmd(N:Nat):Option (Z0):=
 some (([97]:List UInt8),([97]:List UInt8))
def z32(N:Nat)(a0 a1:Z0):Option (Z0):=
 match zdx N a1.2 a0.2 with
 | some r1=>(bif r1 then
 (match z0n N ((bif !(lts a0.1 a1.1)then a0.1 else a1.1),a1.2)with
 | some r2=>(bif r2 then
 (match zmd N with
 | some r3=>(some r3)
 | none=>none)
 else
 (some ((bif !(lts a0.1 a1.1)then a0.1 else a1.1),a1.2)))
 | none=>none)
 else
 (match z0n N ((bif !(lts a0.1 a1.1)then a0.1 else a1.1),a0.2)with
 | some r4=>(bif r4 then
 (match zmd N with
 | some r5=>(some r5)
 | none=>none)
 else
 (some ((bif !(lts a0.1 a1.1)then a0.1 else a1.1),a0.2)))
 | none=>none))
 | none=>none
def z2u(N:Nat)(rec:(List (List UInt8))->(List UInt8)->Int->Z0->(List Z0)->Option (((Unit×(Unit×(List UInt8)))×yjg)))(b0:(List (List UInt8)))(b1:(List UInt8))(b2:Int)(b3:Z0)(b4:(List Z0)):Option (((Unit×(Unit×(List UInt8)))×yjg)):=
 bif (decide (b2<(b0.length:Int)))then
 (gd (inB b2 (b0.length))
 (match z32 N b3 (b1,(rdL b0 b2 ([]:List UInt8)))with
 | some r1=>(gd (fits (b4.length+1) 32)
 (let x2:=(b4++([r1]:List Z0))
 gd (inB b2 (b0.length))
 (rec b0 (rdL b0 b2 ([]:List UInt8)) (aa .i64 (b2+(1:Int))) b3 x2)))
 | none=>none))
 else
 (some (((),((),b1)),(b3,(b4,()))))
def z8y(N:Nat)(n:Nat):=
 itF (fun _ _ _ _ _=>none) (z2u N) n
theorem zfo(N:Nat)(n:Nat):z8y N (n+1)=z2u N (z8y N n):=rfl
def zej(N:Nat)(a0:Z0)(a1:(List (List UInt8))):Option ((List Z0)):=
 match z8y N N a1 ([]:List UInt8) (0:Int) a0 ([]:List Z0)with
 | some r3=>(match z32 N r3.2.1 (r3.1.2.2,([]:List UInt8))with
 | some r4=>(gd (fits (r3.2.2.1.length+1) 32)
 (let x5:=(r3.2.2.1++([r4]:List Z0))
 some x5))
 | none=>none)
 | none=>none
def z96(N:Nat)(a0:Z6)(a1:Z0):Option ((List Z0)):=
 bif (eqi (a0.2.2.1.length:Int) (0:Int))then
 (some ([]:List Z0))
 else
 (match zej N a1 a0.2.1 with
 | some r1=>(some r1)
 | none=>none)
def zjz(N:Nat)(b0:(List Int))(b1:Int)(b2:Y6)(b3:Z6)(b4:Z0):Option (Ty4_⊕(((List Int)×(Unit×(Unit×(Unit×(Int×(Unit×Int))))))×(Y6×(Unit×yf0)))):=
 gd (inB b1 (b0.length))
 (bif (decide ((rdL b0 b1 (0:Int))<(0:Int)))then
 (some (.inl ((),(((),((),((),((),((),(([]:List UInt8),(([]:List UInt8),(140:Int)))))))),(([]:List Z3),(([]:List (List UInt8)),(([]:List Int),(([]:List Y7),(([]:List Z1),())))))))))
 else
 (gd (inB b1 (b0.length))
 (let x2:=(decide ((b3.2.2.1.length:Int)<=(rdL b0 b1 (0:Int))))
 bif x2 then
 (some (.inl ((),(((),((),((),((),((),(([]:List UInt8),(([]:List UInt8),(140:Int)))))))),(([]:List Z3),(([]:List (List UInt8)),(([]:List Int),(([]:List Y7),(([]:List Z1),())))))))))
 else
 ((z96 N b3 b4).bind fun r3=>
 gd (inB b1 (b0.length))
 (gd (inB (rdL b0 b1 (0:Int)) (r3.length))
 (gd (inB b1 (b0.length))
 (gd (inB (rdL b0 b1 (0:Int)) (b3.2.2.1.length))
 (let x4:=(rdL b3.2.2.1 (rdL b0 b1 (0:Int)) (0:Int))
 (za1 N b2.1 x4).bind fun r5=>
 some (.inr ((b0,((),((),((),(r5.2,((),(aa .i64 (b1+(1:Int))))))))),(b2,((),(r5.1,((rdL r3 (rdL b0 b1 (0:Int)) Y8),()))))))))))))))
def z3s(N:Nat)(rec:(List Int)->Int->Int->Y6->Z6->Z0->Option (Ty4_⊕((Unit×(Unit×(Int×Unit)))×(Unit×yf0))))(b0:(List Int))(b1 b2:Int)(b3:Y6)(b4:Z6)(b5:Z0):Option (Ty4_⊕((Unit×(Unit×(Int×Unit)))×(Unit×yf0))):=
 bif (decide (b2<(b0.length:Int)))then
 (bif (eqi b1 (0:Int))then
 ((zjz N b0 b2 b3 b4 b5).bind fun r6=>
 match r6 with
 | .inl r7=>(some (.inl ((),(((),((),((),((),((),(r7.2.1.2.2.2.2.2.1,(r7.2.1.2.2.2.2.2.2.1,r7.2.1.2.2.2.2.2.2.2))))))),(r7.2.2.1,(r7.2.2.2.1,(r7.2.2.2.2.1,(r7.2.2.2.2.2.1,(r7.2.2.2.2.2.2.1,())))))))))
 | .inr r8=>(rec r8.1.1 r8.1.2.2.2.2.1 r8.1.2.2.2.2.2.2 r8.2.1 r8.2.2.2.1 r8.2.2.2.2.1))
 else
 (some (.inr (((),((),(b1,()))),((),(b4,(b5,())))))))
 else
 (some (.inr (((),((),(b1,()))),((),(b4,(b5,()))))))
def zah(N:Nat)(n:Nat):=
 itF (fun _ _ _ _ _ _=>none) (z3s N) n
theorem zgy(N:Nat)(n:Nat):zah N (n+1)=z3s N (zah N n):=rfl
def z9e(N:Nat)(a0:Y6)(a1:(List Int)):Option (zgm):=
 (za1 N a0.1 a0.2.1).bind fun r1=>
 (zah N N a1 r1.2 (0:Int) a0 r1.1 (([]:List UInt8),([]:List UInt8))).bind fun r9=>
 match r9 with
 | .inl r10=>(some ((r10.2.2.1,(r10.2.2.2.1,(r10.2.2.2.2.1,(r10.2.2.2.2.2.1,r10.2.2.2.2.2.2.1)))),((r10.2.1.2.2.2.2.2.1,r10.2.1.2.2.2.2.2.2.1),r10.2.1.2.2.2.2.2.2.2)))
 | .inr r11=>(bif (!(eqi r11.1.2.2.1 (0:Int)))then
 (some ((([]:List Z3),(([]:List (List UInt8)),(([]:List Int),(([]:List Y7),([]:List Z1))))),((([]:List UInt8),([]:List UInt8)),r11.1.2.2.1)))
 else
 (some (r11.2.2.1,(r11.2.2.2.1,(0:Int)))))
def zm9(N:Nat)(a0:Z6)(a1:U0):Option (Bool):=
 bif (eqi (a0.2.2.1.length:Int) (0:Int))then
 (some (decide (a1.1<(a0.1.length:Int))))
 else
 (let x1:=(decide (a1.2.1<(a0.2.2.1.length:Int)))
 bif x1 then
 (some true)
 else
 (let x2:=(decide (a1.2.2<(a0.2.2.2.2.length:Int)))
 some x2))
def zdg(N:Nat)(a0:(List Int))(a1:Int):Option ((List Int)):=
 gd (fits (0+a0.length) 8)
 (let x1:=(([]:List Int)++a0)
 gd (fits (x1.length+1) 8)
 (let x2:=(x1++([a1]:List Int))
 some x2))
def z29(N:Nat)(self:Y6->(List Int)->Bool->Option (J1))(rec:(List Int)->Bool->Int->Y6->zgm->Option ((Unit×(J1×Unit))⊕(Unit×(Unit×Unit))))(b0:(List Int))(b1:Bool)(b2:Int)(b3:Y6)(b4:zgm):Option ((Unit×(J1×Unit))⊕(Unit×(Unit×Unit))):=
 let x4:=(decide (b2<(b4.1.2.2.1.length:Int)))
 bif x4 then
 ((zdg N b0 b2).bind fun r5=>
 (self b3 r5 b1).bind fun r6=>
 bif r6.2 then
 (some (.inl ((),(r6,()))))
 else
 (rec b0 b1 (aa .i64 (b2+(1:Int))) b3 b4))
 else
 (some (.inr ((),((),()))))
def G8(N:Nat)(self:Y6->(List Int)->Bool->Option (J1))(n:Nat):=
 itF (fun _ _ _ _ _=>none) (z29 N self) n
theorem z9x(N:Nat)(self:Y6->(List Int)->Bool->Option (J1))(n:Nat):G8 N self (n+1)=z29 N self (G8 N self n):=rfl
def z5y(N:Nat)(self:Y6->(List Int)->Bool->Option (J1))(a0:Y6)(a1:(List Int))(a2:Bool):Option (J1):=
 (z9e N a0 a1).bind fun r1=>
 bif (!(eqi r1.2.2 (0:Int)))then
 (some (([]:List Int),false))
 else
 ((zm9 N r1.1 a0.2.2).bind fun r2=>
 bif r2 then
 (some (a1,true))
 else
 (bif a2 then
 (let x3:=(decide ((0:Int)<(r1.1.2.2.2.2.length:Int)))
 bif x3 then
 (some (a1,true))
 else
 ((G8 N self N a1 a2 (0:Int) a0 r1).bind fun r7=>
 match r7 with
 | .inl r8=>(some r8.2.1)
 | .inr r9=>(some (([]:List Int),false))))
 else
 ((G8 N self N a1 a2 (0:Int) a0 r1).bind fun r10=>
 match r10 with
 | .inl r11=>(some r11.2.1)
 | .inr r12=>(some (([]:List Int),false)))))
def j0(N n:Nat):Y6->(List Int)->Bool->Option (J1):=
 itF (fun _ _ _=>none) (z5y N) n
theorem zmv(N n:Nat):j0 N (n+1)=z5y N (j0 N n):=rfl
def zyz(N:Nat):Y6->(List Int)->Bool->Option (J1):=
 j0 N N
def z2a(N:Nat)(rec:Int->Int->Int->(List Int)->Option ((Unit×((List Int)×Unit))))(b0 b1 b2:Int)(b3:(List Int)):Option ((Unit×((List Int)×Unit))):=
 bif (decide (b2<b1))then
 (gd (!(eqi b1 0))
 (gd (!(eqi b1 0))
 (bif (decide (b2<(aJ b0 b1)))then
 (let x2:=(aa .i64 ((aa .i64 (c9 b0 b1))+(1:Int)))
 gd (fits (b3.length+1) 8)
 (let x3:=(b3++([x2]:List Int))
 rec b0 b1 (aa .i64 (b2+(1:Int))) x3))
 else
 (let x4:=([(aa .i64 (c9 b0 b1))]:List Int)
 gd (fits (b3.length+x4.length) 8)
 (let x5:=(b3++x4)
 rec b0 b1 (aa .i64 (b2+(1:Int))) x5)))))
 else
 (some ((),(b3,())))
def z8h(N:Nat)(n:Nat):=
 itF (fun _ _ _ _=>none) (z2a N) n
theorem zf5(N:Nat)(n:Nat):z8h N (n+1)=z2a N (z8h N n):=rfl
def z5i(N:Nat)(a0 a1:Int):Option ((List Int)):=
 bif (decide (a1<(1:Int)))then
 (some ([]:List Int))
 else
 (bif (decide (a0<(1:Int)))then
 (some ([]:List Int))
 else
 (gd (!(eqi a1 0))
 (let x1:=(aa .i64 (c9 (aa .i64 (a0-(1:Int))) a1))
 (z8h N N a0 (aa .i64 (x1+(1:Int))) (0:Int) ([]:List Int)).bind fun r6=>
 some r6.2.1)))
def z12(N:Nat)(rec:(List Z3)->Int->Int->(List (List Z3))->(List Int)->Option ((Unit×((List (List Z3))×Unit))))(b0:(List Z3))(b1 b2:Int)(b3:(List (List Z3)))(b4:(List Int)):Option ((Unit×((List (List Z3))×Unit))):=
 bif (decide (b2<(b4.length:Int)))then
 (gd (inB b2 (b4.length))
 (let x2:=(aa .i64 (b1+(rdL b4 b2 (0:Int))))
 gd (decide (0<=b1)&&(decide (b1<=x2)&&decide (x2<=(b0.length:Int))))
 (gd (fits (b3.length+1) 24)
 (let x3:=(b3++([(cut2 b0 b1 x2)]:List (List Z3)))
 gd (inB b2 (b4.length))
 (let x4:=(aa .i64 (b1+(rdL b4 b2 (0:Int))))
 rec b0 x4 (aa .i64 (b2+(1:Int))) x3 b4)))))
 else
 (some ((),(b3,())))
def z7c(N:Nat)(n:Nat):=
 itF (fun _ _ _ _ _=>none) (z12 N) n
theorem zdh(N:Nat)(n:Nat):z7c N (n+1)=z12 N (z7c N n):=rfl
def zg8(N:Nat)(a0:(List Z3))(a1:Int):Option ((List (List Z3))):=
 (z5i N (a0.length:Int) a1).bind fun r1=>
 (z7c N N a0 (0:Int) (0:Int) ([]:List (List Z3)) r1).bind fun r5=>
 some r5.2.1
def z3t(N:Nat)(rec:Int->(List (List Z3))->(List Z6)->(List (List UInt8))->(List Z1)->Option yps)(b0:Int)(b1:(List (List Z3)))(b2:(List Z6))(b3:(List (List UInt8)))(b4:(List Z1)):Option yps:=
 bif (decide (b0<(b1.length:Int)))then
 (gd (inB b0 (b1.length))
 (let x3:=([((rdL b1 b0 ([]:List Z3)),(([]:List (List UInt8)),(([]:List Int),(([]:List Y7),([]:List Z1)))))]:List Z6)
 gd (fits (b2.length+x3.length) 120)
 (let x4:=(b2++x3)
 bif (decide ((0:Int)<b0))then
 (gd (inB b0 (b1.length))
 (gd (inB (0:Int) (ap (rdL b1 b0 ([]:List Z3))))
 (let x5:=(rdL (rdL b1 b0 ([]:List Z3)) (0:Int) X6)
 gd (fits (b3.length+1) 16)
 (let x6:=(b3++([x5.1]:List (List UInt8)))
 rec (aa .i64 (b0+(1:Int))) b1 x4 x6 b4))))
 else
 (rec (aa .i64 (b0+(1:Int))) b1 x4 b3 b4))))
 else
 (some (((),()),((),(((),((),())),(b2,(b3,(b4,())))))))
def zai(N:Nat)(n:Nat):=
 itF (fun _ _ _ _ _=>none) (z3t N) n
theorem zgz(N:Nat)(n:Nat):zai N (n+1)=z3t N (zai N n):=rfl
def zdi(N:Nat)(a0:Z6)(a1:U0):Option (zkc):=
 (zg8 N a0.1 a1.1).bind fun r1=>
 bif (eqi (r1.length:Int) (0:Int))then
 (let x2:=([(([]:List Z3),(([]:List (List UInt8)),(([]:List Int),(([]:List Y7),([]:List Z1)))))]:List Z6)
 some (x2,(([]:List (List UInt8)),([]:List Z1))))
 else
 ((zai N N (0:Int) r1 ([]:List Z6) ([]:List (List UInt8)) ([]:List Z1)).bind fun r7=>
 some (r7.2.2.2.1,(r7.2.2.2.2.1,r7.2.2.2.2.2.1)))
def z54(N:Nat)(rec:(List Z6)->Int->(List Z7)->Int->(List Int)->Option ypz)(b0:(List Z6))(b1:Int)(b2:(List Z7))(b3:Int)(b4:(List Int)):Option ypz:=
 bif (decide (b1<(b0.length:Int)))then
 (gd (inB b1 (b0.length))
 ((z6g N b2 (rdL b0 b1 zig)).bind fun r1=>
 bif (!(eqi r1.2.2 (0:Int)))then
 (some (.inl ((),(((),((),r1.2.2)),(([]:List Z7),(([]:List Int),()))))))
 else
 (gd (fits (b4.length+1) 8)
 (let x2:=(b4++([r1.2.1]:List Int))
 rec b0 (aa .i64 (b1+(1:Int))) r1.1 b3 x2))))
 else
 (some (.inr (((),()),((),((b2,((),b3)),(b4,()))))))
def z5e(N:Nat)(n:Nat):=
 itF (fun _ _ _ _ _=>none) (z54 N) n
theorem ziu(N:Nat)(n:Nat):z5e N (n+1)=z54 N (z5e N n):=rfl
def ze7(N:Nat)(a0:(List Z7))(a1:(List Z6)):Option (zaw):=
 (z5e N N a1 (0:Int) a0 (0:Int) ([]:List Int)).bind fun r3=>
 match r3 with
 | .inl r4=>(some (r4.2.2.1,(r4.2.2.2.1,r4.2.1.2.2)))
 | .inr r5=>(some (r5.2.2.1.1,(r5.2.2.2.1,r5.2.2.1.2.2)))
def z4e(N:Nat)(b0:(List UInt8))(b1:Int)(b2:(List UInt8))(b3:y5):Option ((Unit×(y5×Unit))):=
 bif (eqi b3.2.1 (3:Int))then
 (bif (eqi b3.2.1 (1:Int))then
 (bif (decide ((0:Int)<b1))then
 (gd (inB (0:Int) (b0.length))
 (bif (eqi (bt b0 (0:Int)) (6:Int))then
 (gd (decide (0<=(1:Int))&&(decide ((1:Int)<=b1)&&decide (b1<=(b0.length:Int))))
 (some ((),(((cut2 b0 (1:Int) b1),((4:Int),(b3.2.2.1,b2))),()))))
 else
 (some ((),((b3.1,(b3.2.1,(b3.2.2.1,b2))),())))))
 else
 (some ((),((b3.1,(b3.2.1,(b3.2.2.1,b2))),()))))
 else
 (some ((),((b3.1,(b3.2.1,(b3.2.2.1,b2))),()))))
 else
 (bif (eqi b3.2.1 (1:Int))then
 (bif (decide ((0:Int)<b1))then
 (gd (inB (0:Int) (b0.length))
 (bif (eqi (bt b0 (0:Int)) (6:Int))then
 (gd (decide (0<=(1:Int))&&(decide ((1:Int)<=b1)&&decide (b1<=(b0.length:Int))))
 (some ((),(((cut2 b0 (1:Int) b1),((4:Int),b3.2.2)),()))))
 else
 (some ((),(b3,())))))
 else
 (some ((),(b3,()))))
 else
 (some ((),(b3,()))))
def zjf(N:Nat)(a0:(List UInt8))(a1:Int):Option (y5):=
 gd (decide (0<=(0:Int))&&(decide ((0:Int)<=a1)&&decide (a1<=(a0.length:Int))))
 (gd (inB a1 (a0.length))
 (gd (decide (0<=(aa .i64 (a1+(1:Int))))&&(decide ((aa .i64 (a1+(1:Int)))<=(a0.length:Int))&&decide ((a0.length:Int)<=(a0.length:Int))))
 (let x1:=(cut2 a0 (aa .i64 (a1+(1:Int))) (a0.length:Int))
 let x2:=(eqi (aa .i64 ((bt a0 a1))) (2:Int))
 bif x2 then
 (bif (eqi (x1.length:Int) (2:Int))then
 (gd (inB (0:Int) (x1.length))
 (let x3:=(aa .i64 ((256:Int)*(aa .i64 ((bt x1 (0:Int))))))
 gd (inB (1:Int) (x1.length))
 (let x4:=(aa .i64 (x3+(aa .i64 ((bt x1 (1:Int))))))
 match z4e N a0 a1 x1 ((cut2 a0 (0:Int) a1),((aa .i64 ((bt a0 a1))),(x4,([]:List UInt8))))with
 | some r5=>(some r5.2.1)
 | none=>none)))
 else
 (match z4e N a0 a1 x1 ((cut2 a0 (0:Int) a1),((aa .i64 ((bt a0 a1))),((0:Int),([]:List UInt8))))with
 | some r6=>(some r6.2.1)
 | none=>none))
 else
 (match z4e N a0 a1 x1 ((cut2 a0 (0:Int) a1),((aa .i64 ((bt a0 a1))),((0:Int),([]:List UInt8))))with
 | some r7=>(some r7.2.1)
 | none=>none))))
def z2y(N:Nat)(rec:(List UInt8)->(List UInt8)->Int->(List (List UInt8))->Option (((Unit×(List UInt8))×((List (List UInt8))×Unit))))(b0 b1:(List UInt8))(b2:Int)(b3:(List (List UInt8))):Option (((Unit×(List UInt8))×((List (List UInt8))×Unit))):=
 bif (decide (b2<(b0.length:Int)))then
 (gd (inB b2 (b0.length))
 (bif (eqi (bt b0 b2) (47:Int))then
 (gd (fits (b3.length+1) 16)
 (let x1:=(b3++([b1]:List (List UInt8)))
 rec b0 ([]:List UInt8) (aa .i64 (b2+(1:Int))) x1))
 else
 (gd (decide (0<=b2)&&(decide (b2<=(aa .i64 (b2+(1:Int))))&&decide ((aa .i64 (b2+(1:Int)))<=(b0.length:Int))))
 (let x2:=(cut2 b0 b2 (aa .i64 (b2+(1:Int))))
 gd (decide (b1.length+x2.length<maxS))
 (let x3:=(b1++x2)
 rec b0 x3 (aa .i64 (b2+(1:Int))) b3)))))
 else
 (some (((),b1),(b3,())))
def z91(N:Nat)(n:Nat):=
 itF (fun _ _ _ _=>none) (z2y N) n
theorem zfs(N:Nat)(n:Nat):z91 N (n+1)=z2y N (z91 N n):=rfl
def zjg(N:Nat)(a0:(List UInt8)):Option (((List (List UInt8))×Bool)):=
 match z91 N N a0 ([]:List UInt8) (0:Int) ([]:List (List UInt8))with
 | some r4=>(some (r4.2.1,(eqs r4.1.2 ([]:List UInt8))))
 | none=>none
def z43(N:Nat)(rec:(List UInt8)->Int->Option Ty3_)(b0:(List UInt8))(b1:Int):Option Ty3_:=
 bif (decide (b1<(b0.length:Int)))then
 (gd (inB b1 (b0.length))
 (bif (decide ((bt b0 b1)<(33:Int)))then
 (some (.inl (false,())))
 else
 (gd (inB b1 (b0.length))
 (bif (decide ((126:Int)<(bt b0 b1)))then
 (some (.inl (false,())))
 else
 (gd (inB b1 (b0.length))
 (bif (eqi (bt b0 b1) (47:Int))then
 (some (.inl (false,())))
 else
 (rec b0 (aa .i64 (b1+(1:Int))))))))))
 else
 (some (.inr ((),())))
def zaq(N:Nat)(n:Nat):=
 itF (fun _ _=>none) (z43 N) n
theorem zh9(N:Nat)(n:Nat):zaq N (n+1)=z43 N (zaq N n):=rfl
def z9g(N:Nat)(a0:(List UInt8)):Option (Bool):=
 let x1:=(decide ((a0.length:Int)<(1:Int)))
 bif x1 then
 (some false)
 else
 (let x2:=(decide ((12:Int)<(a0.length:Int)))
 bif x2 then
 (some false)
 else
 (bif (eqs a0 ([46]:List UInt8))then
 (some false)
 else
 (bif (eqs a0 ([46,46]:List UInt8))then
 (some false)
 else
 (match zaq N N a0 (0:Int)with
 | some r3=>(match r3 with
 | .inl r4=>(some r4.1)
 | .inr r5=>(some true))
 | none=>none))))
def z2w(N:Nat)(rec:Bool->Int->(List (List UInt8))->Option yjd)(b0:Bool)(b1:Int)(b2:(List (List UInt8))):Option yjd:=
 bif (decide (b1<(b2.length:Int)))then
 (gd (inB b1 (b2.length))
 (match z9g N (rdL b2 b1 ([]:List UInt8))with
 | some r2=>(bif (!r2)then
 (some (.inl (false,())))
 else
 (rec b0 (aa .i64 (b1+(1:Int))) b2))
 | none=>none))
 else
 (some (.inr (b0,())))
def z8z(N:Nat)(n:Nat):=
 itF (fun _ _ _=>none) (z2w N) n
theorem zfq(N:Nat)(n:Nat):z8z N (n+1)=z2w N (z8z N n):=rfl
def z99(N:Nat)(a0:(List UInt8)):Option (Bool):=
 match zjg N a0 with
 | some r1=>(match z8z N N r1.2 (0:Int) r1.1 with
 | some r3=>(match r3 with
 | .inl r4=>(some r4.1)
 | .inr r5=>(some r5.1))
 | none=>none)
 | none=>none
def z44(N:Nat)(rec:Int->(List UInt8)->Int->Option (((List UInt8)×Unit)))(b0:Int)(b1:(List UInt8))(b2:Int):Option (((List UInt8)×Unit)):=
 bif (decide (b2<(8:Int)))then
 (let x1:=(aa .i64 ((aJ b0 (16:Int))+(1:Int)))
 gd (decide (0<=(aJ b0 (16:Int)))&&(decide ((aJ b0 (16:Int))<=x1)&&decide (x1<=(ap ([48,49,50,51,52,53,54,55,56,57,97,98,99,100,101,102]:List UInt8):Int))))
 (let x2:=(cut2 ([48,49,50,51,52,53,54,55,56,57,97,98,99,100,101,102]:List UInt8) (aJ b0 (16:Int)) x1)
 gd (decide (x2.length+b1.length<maxS))
 (let x3:=(x2++b1)
 rec (aa .i64 (c9 b0 (16:Int))) x3 (aa .i64 (b2+(1:Int))))))
 else
 (some (b1,()))
def zar(N:Nat)(n:Nat):=
 itF (fun _ _ _=>none) (z44 N) n
theorem zha(N:Nat)(n:Nat):zar N (n+1)=z44 N (zar N n):=rfl
def zme(N:Nat)(a0:Int):Option ((List UInt8)):=
 bif (decide (a0<(0:Int)))then
 (some ([]:List UInt8))
 else
 (bif (decide ((2147483647:Int)<a0))then
 (some ([]:List UInt8))
 else
 (match zar N N a0 ([]:List UInt8) (0:Int)with
 | some r4=>(gd (decide (ap ([5]:List UInt8)+r4.1.length<maxS))
 (let x5:=(([5]:List UInt8)++r4.1)
 gd (decide (x5.length+ap ([47]:List UInt8)<maxS))
 (let x6:=(x5++([47]:List UInt8))
 some x6)))
 | none=>none))
def z1f(N:Nat)(rec:(List UInt8)->Int->Int->Option ((((List UInt8)×Int)×Unit)))(b0:(List UInt8))(b1 b2:Int):Option ((((List UInt8)×Int)×Unit)):=
 bif (decide (b2<(9:Int)))then
 (gd (inB b2 (b0.length))
 (let x1:=(decide ((48:Int)<=(aa .i64 ((bt b0 b2)))))
 bif x1 then
 (let x2:=(decide ((aa .i64 ((bt b0 b2)))<=(57:Int)))
 bif x2 then
 (let x3:=(aa .i64 ((aa .i64 ((16:Int)*b1))+(aa .i64 ((bt b0 b2)))))
 rec b0 (aa .i64 (x3-(48:Int))) (aa .i64 (b2+(1:Int))))
 else
 (let x4:=(aa .i64 ((aa .i64 ((16:Int)*b1))+(aa .i64 ((bt b0 b2)))))
 let x5:=(aa .i64 ((aa .i64 (x4-(97:Int)))+(10:Int)))
 rec b0 x5 (aa .i64 (b2+(1:Int)))))
 else
 (let x6:=(aa .i64 ((aa .i64 ((16:Int)*b1))+(aa .i64 ((bt b0 b2)))))
 let x7:=(aa .i64 ((aa .i64 (x6-(97:Int)))+(10:Int)))
 rec b0 x7 (aa .i64 (b2+(1:Int))))))
 else
 (some ((b0,b1),()))
def z7l(N:Nat)(n:Nat):=
 itF (fun _ _ _=>none) (z1f N) n
theorem zdy(N:Nat)(n:Nat):z7l N (n+1)=z1f N (z7l N n):=rfl
def z9v(N:Nat)(a0:(List UInt8)):Option (Bool):=
 bif (!(eqi (a0.length:Int) (10:Int)))then
 (some false)
 else
 (match z7l N N a0 (0:Int) (1:Int)with
 | some r8=>(match zme N r8.1.2 with
 | some r9=>(some (eqs r9 r8.1.1))
 | none=>none)
 | none=>none)
def J3(N:Nat)(b0:Bool)(b1:y5):Option ((Bool×Unit)⊕(Unit×(y5×Unit))):=
 bif b0 then
 (some (.inl (false,())))
 else
 (some (.inr ((),(b1,()))))
def K2(N:Nat)(b0:y5):Option ((Bool×Unit)):=
 bif (eqi b0.2.1 (1:Int))then
 (some (true,()))
 else
 (bif (eqi b0.2.1 (2:Int))then
 (bif (decide ((0:Int)<=b0.2.2.1))then
 (some ((decide (b0.2.2.1<=(60000:Int))),()))
 else
 (some (false,())))
 else
 (bif (eqi b0.2.1 (3:Int))then
 (match z9g N b0.2.2.2 with
 | some r6=>(some (r6,()))
 | none=>none)
 else
 (bif (eqi b0.2.1 (4:Int))then
 (match z99 N b0.1 with
 | some r7=>(some (r7,()))
 | none=>none)
 else
 (some (false,())))))
def zje(N:Nat)(a0:y5):Option (Bool):=
 match z99 N a0.1 with
 | some r1=>(bif (!r1)then
 (match z9v N a0.1 with
 | some r2=>(bif (!r2)then
 (match J3 N true a0 with
 | some r3=>(match r3 with
 | .inl r4=>(some r4.1)
 | .inr r5=>(match K2 N r5.2.1 with
 | some r8=>(some r8.1)
 | none=>none))
 | none=>none)
 else
 (bif (!(eqi a0.2.1 (2:Int)))then
 (bif (!(eqi a0.2.2.1 (0:Int)))then
 (match J3 N true a0 with
 | some r9=>(match r9 with
 | .inl r10=>(some r10.1)
 | .inr r11=>(match K2 N r11.2.1 with
 | some r12=>(some r12.1)
 | none=>none))
 | none=>none)
 else
 (bif (!(eqi a0.2.1 (3:Int)))then
 (match J3 N (!(eqs a0.2.2.2 ([]:List UInt8))) a0 with
 | some r13=>(match r13 with
 | .inl r14=>(some r14.1)
 | .inr r15=>(match K2 N r15.2.1 with
 | some r16=>(some r16.1)
 | none=>none))
 | none=>none)
 else
 (match J3 N false a0 with
 | some r17=>(match r17 with
 | .inl r18=>(some r18.1)
 | .inr r19=>(match K2 N r19.2.1 with
 | some r20=>(some r20.1)
 | none=>none))
 | none=>none)))
 else
 (bif (!(eqi a0.2.1 (3:Int)))then
 (match J3 N (!(eqs a0.2.2.2 ([]:List UInt8))) a0 with
 | some r21=>(match r21 with
 | .inl r22=>(some r22.1)
 | .inr r23=>(match K2 N r23.2.1 with
 | some r24=>(some r24.1)
 | none=>none))
 | none=>none)
 else
 (match J3 N false a0 with
 | some r25=>(match r25 with
 | .inl r26=>(some r26.1)
 | .inr r27=>(match K2 N r27.2.1 with
 | some r28=>(some r28.1)
 | none=>none))
 | none=>none))))
 | none=>none)
 else
 (bif (!(eqi a0.2.1 (2:Int)))then
 (bif (!(eqi a0.2.2.1 (0:Int)))then
 (match J3 N true a0 with
 | some r29=>(match r29 with
 | .inl r30=>(some r30.1)
 | .inr r31=>(match K2 N r31.2.1 with
 | some r32=>(some r32.1)
 | none=>none))
 | none=>none)
 else
 (bif (!(eqi a0.2.1 (3:Int)))then
 (match J3 N (!(eqs a0.2.2.2 ([]:List UInt8))) a0 with
 | some r33=>(match r33 with
 | .inl r34=>(some r34.1)
 | .inr r35=>(match K2 N r35.2.1 with
 | some r36=>(some r36.1)
 | none=>none))
 | none=>none)
 else
 (match J3 N false a0 with
 | some r37=>(match r37 with
 | .inl r38=>(some r38.1)
 | .inr r39=>(match K2 N r39.2.1 with
 | some r40=>(some r40.1)
 | none=>none))
 | none=>none)))
 else
 (bif (!(eqi a0.2.1 (3:Int)))then
 (match J3 N (!(eqs a0.2.2.2 ([]:List UInt8))) a0 with
 | some r41=>(match r41 with
 | .inl r42=>(some r42.1)
 | .inr r43=>(match K2 N r43.2.1 with
 | some r44=>(some r44.1)
 | none=>none))
 | none=>none)
 else
 (match J3 N false a0 with
 | some r45=>(match r45 with
 | .inl r46=>(some r46.1)
 | .inr r47=>(match K2 N r47.2.1 with
 | some r48=>(some r48.1)
 | none=>none))
 | none=>none))))
 | none=>none
def zph(N:Nat)(a0:y5):Option (((List UInt8)×Int)):=
 match zje N a0 with
 | some r1=>(bif (!r1)then
 (some (([]:List UInt8),(12:Int)))
 else
 (bif (eqi a0.2.1 (1:Int))then
 (gd (decide (a0.1.length+ap ([1]:List UInt8)<maxS))
 (let x2:=(a0.1++([1]:List UInt8))
 some (x2,(0:Int))))
 else
 (bif (eqi a0.2.1 (2:Int))then
 (gd (decide (a0.1.length+ap ([2]:List UInt8)<maxS))
 (let x3:=(a0.1++([2]:List UInt8))
 let x4:=(aa .i64 (c9 a0.2.2.1 (256:Int)))
 let x5:=(aa .u8 ((aJ a0.2.2.1 (256:Int))))
 let x6:=(zn8 ([(aa .u8 (x4)),x5]:List Int))
 gd (decide (x3.length+x6.length<maxS))
 (let x7:=(x3++x6)
 some (x7,(0:Int)))))
 else
 (bif (eqi a0.2.1 (3:Int))then
 (gd (decide (a0.1.length+ap ([3]:List UInt8)<maxS))
 (let x8:=(a0.1++([3]:List UInt8))
 gd (decide (x8.length+a0.2.2.2.length<maxS))
 (let x9:=(x8++a0.2.2.2)
 some (x9,(0:Int)))))
 else
 (gd (decide (ap ([6]:List UInt8)+a0.1.length<maxS))
 (let x10:=(([6]:List UInt8)++a0.1)
 gd (decide (x10.length+ap ([1]:List UInt8)<maxS))
 (let x11:=(x10++([1]:List UInt8))
 some (x11,(0:Int)))))))))
 | none=>none
def z2x(N:Nat)(rec:(List UInt8)->Int->Option (((Unit×Int)×(y5×Unit))⊕(Unit×(Unit×Unit))))(b0:(List UInt8))(b1:Int):Option (((Unit×Int)×(y5×Unit))⊕(Unit×(Unit×Unit))):=
 bif (decide (b1<(b0.length:Int)))then
 (gd (inB b1 (b0.length))
 (bif (decide ((bt b0 b1)<(1:Int)))then
 (rec b0 (aa .i64 (b1+(1:Int))))
 else
 (gd (inB b1 (b0.length))
 (bif (decide ((3:Int)<(bt b0 b1)))then
 (rec b0 (aa .i64 (b1+(1:Int))))
 else
 (match zjf N b0 b1 with
 | some r1=>(match zph N r1 with
 | some r2=>(bif (eqi r2.2 (0:Int))then
 (bif (eqs r2.1 b0)then
 (some (.inl (((),(0:Int)),(r1,()))))
 else
 (rec b0 (aa .i64 (b1+(1:Int)))))
 else
 (rec b0 (aa .i64 (b1+(1:Int)))))
 | none=>none)
 | none=>none)))))
 else
 (some (.inr ((),((),()))))
def z90(N:Nat)(n:Nat):=
 itF (fun _ _=>none) (z2x N) n
theorem zfr(N:Nat)(n:Nat):z90 N (n+1)=z2x N (z90 N n):=rfl
def zel(N:Nat)(a0:(List UInt8)):Option ((y5×Int)):=
 match z90 N N a0 (0:Int)with
 | some r3=>(match r3 with
 | .inl r4=>(some (r4.2.1,r4.1.2))
 | .inr r5=>(some ((([]:List UInt8),((0:Int),((0:Int),([]:List UInt8)))),(12:Int))))
 | none=>none
def zgd(N:Nat)(a0:Z3):Option (za4):=
 match zel N a0.1 with
 | some r1=>(bif (!(eqi r1.2 (0:Int)))then
 (some ((0:Int),(0:Int)))
 else
 (bif (eqi r1.1.2.1 (1:Int))then
 (some ((1:Int),(0:Int)))
 else
 (bif (eqi r1.1.2.1 (2:Int))then
 (some ((0:Int),(a0.2.1.length:Int)))
 else
 (bif (eqi r1.1.2.1 (3:Int))then
 (some ((0:Int),(a0.2.1.length:Int)))
 else
 (some ((0:Int),(0:Int)))))))
 | none=>none
def z2t(N:Nat)(rec:(List Z3)->Int->za4->Option (((Unit×Unit)×(Unit×(za4×Unit)))))(b0:(List Z3))(b1:Int)(b2:za4):Option (((Unit×Unit)×(Unit×(za4×Unit)))):=
 bif (decide (b1<(b0.length:Int)))then
 (gd (inB b1 (b0.length))
 (match zgd N (rdL b0 b1 X6)with
 | some r1=>(rec b0 (aa .i64 (b1+(1:Int))) ((aa .i64 (b2.1+r1.1)),(aa .i64 (b2.2+r1.2))))
 | none=>none))
 else
 (some (((),()),((),(b2,()))))
def z8x(N:Nat)(n:Nat):=
 itF (fun _ _ _=>none) (z2t N) n
theorem zfn(N:Nat)(n:Nat):z8x N (n+1)=z2t N (z8x N n):=rfl
def zjc(N:Nat)(a0:(List Z3)):Option (za4):=
 match z8x N N a0 (0:Int) ((0:Int),(0:Int))with
 | some r2=>(some r2.2.2.1)
 | none=>none
def zod(N:Nat)(a0:za4):Option (Y7):=
 some ((a0.1,a0.1),(a0.2,a0.2))
def zse(N:Nat)(a0 a1:Y7):Option (Y7):=
 let x1:=(bif decide ((aa .i64 (a0.1.1+a1.1.1))<(1000000000000000:Int))then(aa .i64 (a0.1.1+a1.1.1))else(1000000000000000:Int))
 let x2:=(bif decide ((aa .i64 (a0.1.2+a1.1.2))<(1000000000000000:Int))then(aa .i64 (a0.1.2+a1.1.2))else(1000000000000000:Int))
 let x3:=(bif decide ((aa .i64 (a0.2.1+a1.2.1))<(1000000000000000:Int))then(aa .i64 (a0.2.1+a1.2.1))else(1000000000000000:Int))
 let x4:=(bif decide ((aa .i64 (a0.2.2+a1.2.2))<(1000000000000000:Int))then(aa .i64 (a0.2.2+a1.2.2))else(1000000000000000:Int))
 some ((x1,x2),(x3,x4))
def zam(N:Nat)(a0:(List UInt8)):Option (Bool):=
 match zel N a0 with
 | some r1=>(bif (eqi r1.2 (0:Int))then
 (some (eqi r1.1.2.1 (1:Int)))
 else
 (some false))
 | none=>none
def z5g(N:Nat)(a0:z5k)(a1:Int):Option (z5k):=
 let x1:=(bif decide ((aa .i64 (a0.2+a1))<(1000000000000000:Int))then(aa .i64 (a0.2+a1))else(1000000000000000:Int))
 some (a0.1,x1)
def zbn(N:Nat)(a0:z5k)(a1:Int):Option (z5k):=
 let x1:=(bif decide ((0:Int)<(aa .i64 (a0.1-a1)))then(aa .i64 (a0.1-a1))else(0:Int))
 some (x1,a0.2)
def z4b(N:Nat)(b0 b1:(List UInt8))(b2 b3:Bool):Option ((Bool×Unit)):=
 bif b2 then
 (some (true,()))
 else
 (bif b3 then
 (some (true,()))
 else
 (match z9v N b0 with
 | some r5=>(bif r5 then
 (match z9v N b1 with
 | some r6=>(some (r6,()))
 | none=>none)
 else
 (some (false,())))
 | none=>none))
def z4c(N:Nat)(b0 b1:(List UInt8))(b2:Bool):Option ((Bool×Unit)):=
 bif (!(eqs b0 ([]:List UInt8)))then
 (bif (!(eqs b1 ([]:List UInt8)))then
 (match z99 N b0 with
 | some r3=>(bif r3 then
 (match z99 N b1 with
 | some r4=>(match z4b N b0 b1 b2 r4 with
 | some r7=>(some (r7.1,()))
 | none=>none)
 | none=>none)
 else
 (match z4b N b0 b1 b2 false with
 | some r8=>(some (r8.1,()))
 | none=>none))
 | none=>none)
 else
 (match z4b N b0 b1 b2 false with
 | some r9=>(some (r9.1,()))
 | none=>none))
 else
 (match z4b N b0 b1 b2 false with
 | some r10=>(some (r10.1,()))
 | none=>none)
def zeh(N:Nat)(a0 a1:(List UInt8)):Option (Bool):=
 let x1:=(decide ((0:Int)<(a0.length:Int)))
 bif x1 then
 (gd (inB (0:Int) (a0.length))
 (bif (eqi (bt a0 (0:Int)) (6:Int))then
 (let x2:=(decide ((0:Int)<(a1.length:Int)))
 bif x2 then
 (gd (inB (0:Int) (a1.length))
 (match z4c N a0 a1 (eqi (bt a1 (0:Int)) (6:Int))with
 | some r11=>(some r11.1)
 | none=>none))
 else
 (match z4c N a0 a1 false with
 | some r12=>(some r12.1)
 | none=>none))
 else
 (match z4c N a0 a1 false with
 | some r13=>(some r13.1)
 | none=>none)))
 else
 (match z4c N a0 a1 false with
 | some r14=>(some r14.1)
 | none=>none)
def z71(N:Nat)(a0:Y7)(a1:Z1):Option (Y7):=
 bif (eqi a1.1 (1:Int))then
 (match zam N a1.2.1 with
 | some r1=>(bif r1 then
 (match z5g N a0.1 (1:Int)with
 | some r2=>(some (r2,a0.2))
 | none=>none)
 else
 (match zbn N a0.2 (64:Int)with
 | some r3=>(match z5g N r3 (a1.2.2.1.length:Int)with
 | some r4=>(some (a0.1,r4))
 | none=>none)
 | none=>none))
 | none=>none)
 else
 (bif (eqi a1.1 (2:Int))then
 (match zam N a1.2.1 with
 | some r5=>(bif r5 then
 (match zbn N a0.1 (1:Int)with
 | some r6=>(some (r6,a0.2))
 | none=>none)
 else
 (match zbn N a0.2 (64:Int)with
 | some r7=>(some (a0.1,r7))
 | none=>none))
 | none=>none)
 else
 (bif (eqi a1.1 (6:Int))then
 (some a0)
 else
 (bif (eqi a1.1 (3:Int))then
 (some (((0:Int),a0.1.2),((0:Int),a0.2.2)))
 else
 (match zeh N a1.2.2.2.2.1 a1.2.2.2.2.2.1 with
 | some r8=>(bif (!r8)then
 (some (((0:Int),(1000000000000000:Int)),((0:Int),(1000000000000000:Int))))
 else
 (bif (eqi a1.1 (5:Int))then
 (match z5g N ((0:Int),a0.1.2) a0.1.2 with
 | some r9=>(match z5g N ((0:Int),a0.2.2) a0.2.2 with
 | some r10=>(some (r9,r10))
 | none=>none)
 | none=>none)
 else
 (some (((0:Int),a0.1.2),((0:Int),a0.2.2)))))
 | none=>none))))
def z58(N:Nat)(rec:Int->Z6->Y7->Option (((Unit×Unit)×(Unit×(Y7×Unit)))))(b0:Int)(b1:Z6)(b2:Y7):Option (((Unit×Unit)×(Unit×(Y7×Unit)))):=
 let x6:=(decide (b0<(b1.2.2.2.2.length:Int)))
 bif x6 then
 (gd (inB b0 (b1.2.2.2.2.length))
 (match z71 N b2 (rdL b1.2.2.2.2 b0 Q7)with
 | some r7=>(rec (aa .i64 (b0+(1:Int))) b1 r7)
 | none=>none))
 else
 (some (((),()),((),(b2,()))))
def zcf(N:Nat)(n:Nat):=
 itF (fun _ _ _=>none) (z58 N) n
theorem ziy(N:Nat)(n:Nat):zcf N (n+1)=z58 N (zcf N n):=rfl
def z59(N:Nat)(rec:Int->Z6->Y7->Option (((Unit×(Unit×Unit))×(Z6×(Unit×(Y7×Unit))))))(b0:Int)(b1:Z6)(b2:Y7):Option (((Unit×(Unit×Unit))×(Z6×(Unit×(Y7×Unit))))):=
 let x3:=(decide (b0<(b1.2.2.2.1.length:Int)))
 bif x3 then
 (gd (inB b0 (b1.2.2.2.1.length))
 (match zse N b2 (rdL b1.2.2.2.1 b0 z6h)with
 | some r4=>(rec (aa .i64 (b0+(1:Int))) b1 r4)
 | none=>none))
 else
 (some (((),((),())),(b1,((),(b2,())))))
def zcg(N:Nat)(n:Nat):=
 itF (fun _ _ _=>none) (z59 N) n
theorem ziz(N:Nat)(n:Nat):zcg N (n+1)=z59 N (zcg N n):=rfl
def zkt(N:Nat)(a0:Z6):Option (Y7):=
 bif (eqi (a0.2.2.1.length:Int) (0:Int))then
 (match zjc N a0.1 with
 | some r1=>(match zod N r1 with
 | some r2=>(some r2)
 | none=>none)
 | none=>none)
 else
 (match zcg N N (0:Int) a0 (((0:Int),(0:Int)),((0:Int),(0:Int)))with
 | some r5=>(match zcf N N (0:Int) r5.2.1 r5.2.2.2.1 with
 | some r8=>(some r8.2.2.1)
 | none=>none)
 | none=>none)
def z3r(N:Nat)(rec:(List Z6)->Int->(List Y7)->Option yjf)(b0:(List Z6))(b1:Int)(b2:(List Y7)):Option yjf:=
 bif (decide (b1<(b0.length:Int)))then
 (gd (inB b1 (b0.length))
 ((zkt N (rdL b0 b1 zig)).bind fun r1=>
 gd (fits (b2.length+1) 32)
 (let x2:=(b2++([r1]:List Y7))
 rec b0 (aa .i64 (b1+(1:Int))) x2)))
 else
 (some ((),(b2,())))
def zag(N:Nat)(n:Nat):=
 itF (fun _ _ _=>none) (z3r N) n
theorem zgx(N:Nat)(n:Nat):zag N (n+1)=z3r N (zag N n):=rfl
def zm6(N:Nat)(a0:(List Z6)):Option ((List Y7)):=
 (zag N N a0 (0:Int) ([]:List Y7)).bind fun r3=>
 some r3.2.1
def z95(N:Nat)(a0:Z6)(a1:Int)(a2:zeo)(a3:(List Int)):Option (Z6):=
 gd (decide (0<=(0:Int))&&(decide ((0:Int)<=a1)&&decide (a1<=(a0.2.2.1.length:Int))))
 (gd (fits (0+ap (cut2 a0.2.2.1 (0:Int) a1)) 8)
 (let x1:=(([]:List Int)++(cut2 a0.2.2.1 (0:Int) a1))
 gd (fits (x1.length+a3.length) 8)
 (let x2:=(x1++a3)
 gd (decide (0<=(aa .i64 (a1+(1:Int))))&&(decide ((aa .i64 (a1+(1:Int)))<=(a0.2.2.1.length:Int))&&decide ((a0.2.2.1.length:Int)<=(a0.2.2.1.length:Int))))
 (let x3:=(cut2 a0.2.2.1 (aa .i64 (a1+(1:Int))) (a0.2.2.1.length:Int))
 gd (fits (x2.length+x3.length) 8)
 (let x4:=(x2++x3)
 gd (decide (0<=(0:Int))&&(decide ((0:Int)<=a1)&&decide (a1<=(a0.2.2.2.1.length:Int))))
 (gd (fits (0+ap (cut2 a0.2.2.2.1 (0:Int) a1)) 32)
 (let x5:=(([]:List Y7)++(cut2 a0.2.2.2.1 (0:Int) a1))
 (zm6 N a2.1).bind fun r6=>
 gd (fits (x5.length+r6.length) 32)
 (let x7:=(x5++r6)
 gd (decide (0<=(aa .i64 (a1+(1:Int))))&&(decide ((aa .i64 (a1+(1:Int)))<=(a0.2.2.2.1.length:Int))&&decide ((a0.2.2.2.1.length:Int)<=(a0.2.2.2.1.length:Int))))
 (let x8:=(cut2 a0.2.2.2.1 (aa .i64 (a1+(1:Int))) (a0.2.2.2.1.length:Int))
 gd (fits (x7.length+x8.length) 32)
 (let x9:=(x7++x8)
 gd (decide (0<=(0:Int))&&(decide ((0:Int)<=a1)&&decide (a1<=(a0.2.1.length:Int))))
 (gd (fits (0+ap (cut2 a0.2.1 (0:Int) a1)) 16)
 (let x10:=(([]:List (List UInt8))++(cut2 a0.2.1 (0:Int) a1))
 gd (fits (x10.length+a2.2.1.length) 16)
 (let x11:=(x10++a2.2.1)
 gd (decide (0<=a1)&&(decide (a1<=(a0.2.1.length:Int))&&decide ((a0.2.1.length:Int)<=(a0.2.1.length:Int))))
 (gd (fits (x11.length+ap (cut2 a0.2.1 a1 (a0.2.1.length:Int))) 16)
 (let x12:=(x11++(cut2 a0.2.1 a1 (a0.2.1.length:Int)))
 gd (fits (0+a2.2.2.length) 112)
 (let x13:=(([]:List Z1)++a2.2.2)
 gd (fits (x13.length+a0.2.2.2.2.length) 112)
 (let x14:=(x13++a0.2.2.2.2)
 some (([]:List Z3),(x12,(x4,(x9,x14)))))))))))))))))))))
def z87(N:Nat)(rec:(List Z6)->Int->(List Y7)->Option yjf)(b0:(List Z6))(b1:Int)(b2:(List Y7)):Option yjf:=
 bif (decide (b1<(b0.length:Int)))then
 (gd (inB b1 (b0.length))
 ((zkt N (rdL b0 b1 zig)).bind fun r1=>
 gd (fits (b2.length+1) 32)
 (let x2:=(b2++([r1]:List Y7))
 rec b0 (aa .i64 (b1+(1:Int))) x2)))
 else
 (some ((),(b2,())))
def z7b(N:Nat)(n:Nat):=
 itF (fun _ _ _=>none) (z87 N) n
theorem y9m(N:Nat)(n:Nat):z7b N (n+1)=z87 N (z7b N n):=rfl
def zg7(N:Nat)(a0:(List Z6)):Option ((List Y7)):=
 (z7b N N a0 (0:Int) ([]:List Y7)).bind fun r3=>
 some r3.2.1
def z9f(N:Nat)(a0:(List Z7))(a1:Int):Option (((List Z7)×Int)):=
 match z7f N a0 a1 with
 | some r1=>(bif (!r1)then
 (some (a0,(110:Int)))
 else
 (match z9r N a0 with
 | some r2=>(gd (inB a1 (r2.length))
 (let x3:=(aa .i64 ((((rdL r2 a1 X4).2).2).1+(1:Int)))
 gd (inB a1 (r2.length))
 (let x4:=(setL r2 a1 ((rdL r2 a1 X4).1,(((rdL r2 a1 X4).2).1,(x3,((((rdL r2 a1 X4).2).2).2)))))
 some (x4,(0:Int)))))
 | none=>none))
 | none=>none
def z52(N:Nat)(rec:(List Int)->Int->(List Z7)->Option (((Unit×Unit)×((List Z7)×(Unit×Unit)))))(b0:(List Int))(b1:Int)(b2:(List Z7)):Option (((Unit×Unit)×((List Z7)×(Unit×Unit)))):=
 bif (decide (b1<(b0.length:Int)))then
 (gd (inB b1 (b0.length))
 ((z31 N b2 (rdL b0 b1 (0:Int))).bind fun r1=>
 rec b0 (aa .i64 (b1+(1:Int))) r1.1))
 else
 (some (((),()),(b2,((),()))))
def zcd(N:Nat)(n:Nat):=
 itF (fun _ _ _=>none) (z52 N) n
theorem zit(N:Nat)(n:Nat):zcd N (n+1)=z52 N (zcd N n):=rfl
def zhn(N:Nat)(a0:(List Z7))(a1:(List Int)):Option ((List Z7)):=
 (zcd N N a1 (0:Int) a0).bind fun r2=>
 some r2.2.1
def z9p(N:Nat)(b0:Int)(b1:Bool)(b2:Y6)(b3:(List Z6))(b4:(List (List UInt8)))(b5:(List Z1))(b6:(List Z7))(b7:(List Int))(b8:zaw):Option (yf1⊕((Unit×(Unit×(Unit×(Unit×Int))))×(Y6×(Unit×((List Z7)×((List Int)×Unit)))))):=
 bif b1 then
 ((zg7 N b3).bind fun r8=>
 let x9:=([(([]:List Z3),(b4,(b8.2.1,(r8,b5))))]:List Z6)
 (ze7 N b6 x9).bind fun r10=>
 bif (!(eqi r10.2.2 (0:Int)))then
 (some (.inl (((),r10.2.2),(b2,()))))
 else
 (gd (inB (0:Int) (r10.2.1.length))
 (let x11:=([(rdL r10.2.1 (0:Int) (0:Int))]:List Int)
 gd (fits (b7.length+x11.length) 8)
 (let x12:=(b7++x11)
 some (.inr (((),((),((),((),(rdL r10.2.1 (0:Int) (0:Int)))))),(b2,((),(r10.1,(x12,()))))))))))
 else
 (some (.inr (((),((),((),((),b0)))),(b2,((),(b6,(b7,())))))))
def z9q(N:Nat)(b0:Int)(b1:Y6)(b2:(List Z7))(b3:(List Int)):Option (yf1):=
 (z9f N b2 b0).bind fun r16=>
 (zhn N r16.1 b3).bind fun r17=>
 (zhn N r17 ([b1.2.1]:List Int)).bind fun r18=>
 some (((),(0:Int)),((r18,(b0,b1.2.2)),()))
def z50(N:Nat)(rec:(List Int)->Int->Y6->(List Z6)->(List (List UInt8))->(List Z1)->(List Z7)->(List Int)->Option (yf1))(b0:(List Int))(b1:Int)(b2:Y6)(b3:(List Z6))(b4:(List (List UInt8)))(b5:(List Z1))(b6:(List Z7))(b7:(List Int)):Option (yf1):=
 (ze7 N b6 b3).bind fun r1=>
 bif (!(eqi r1.2.2 (0:Int)))then
 (some (((),r1.2.2),(b2,())))
 else
 (gd (fits (b7.length+r1.2.1.length) 8)
 (let x2:=(b7++r1.2.1)
 gd (inB (0:Int) (r1.2.1.length))
 (bif (decide ((0:Int)<b1))then
 (gd (decide (0<=(0:Int))&&(decide ((0:Int)<=(aa .i64 (b1-(1:Int))))&&decide ((aa .i64 (b1-(1:Int)))<=(b0.length:Int))))
 (let x3:=(cut2 b0 (0:Int) (aa .i64 (b1-(1:Int))))
 (z9e N b2 x3).bind fun r4=>
 gd (inB (aa .i64 (b1-(1:Int))) (b0.length))
 (let x5:=(rdL b0 (aa .i64 (b1-(1:Int))) (0:Int))
 (z95 N r4.1 x5 (b3,(b4,b5)) r1.2.1).bind fun r6=>
 rec b0 (aa .i64 (b1-(1:Int))) b2 ([r6]:List Z6) ([]:List (List UInt8)) ([]:List Z1) r1.1 x2)))
 else
 (let x7:=(decide ((1:Int)<(b3.length:Int)))
 bif x7 then
 ((z9p N (rdL r1.2.1 (0:Int) (0:Int)) true b2 b3 b4 b5 r1.1 x2 r1).bind fun r13=>
 match r13 with
 | .inl r14=>(some (((),r14.1.2),(r14.2.1,())))
 | .inr r15=>((z9q N r15.1.2.2.2.2 r15.2.1 r15.2.2.2.1 r15.2.2.2.2.1).bind fun r19=>
 some (((),r19.1.2),(r19.2.1,()))))
 else
 (let x20:=(decide ((0:Int)<(b5.length:Int)))
 (z9p N (rdL r1.2.1 (0:Int) (0:Int)) x20 b2 b3 b4 b5 r1.1 x2 r1).bind fun r21=>
 match r21 with
 | .inl r22=>(some (((),r22.1.2),(r22.2.1,())))
 | .inr r23=>((z9q N r23.1.2.2.2.2 r23.2.1 r23.2.2.2.1 r23.2.2.2.2.1).bind fun r24=>
 some (((),r24.1.2),(r24.2.1,()))))))))
def zcc(N:Nat)(n:Nat):=
 itF (fun _ _ _ _ _ _ _ _=>none) (z50 N) n
theorem zis(N:Nat)(n:Nat):zcc N (n+1)=z50 N (zcc N n):=rfl
def zby(N:Nat)(a0:Y6)(a1:(List Int))(a2:zeo):Option ((Y6×Int)):=
 (zcc N N a1 (a1.length:Int) a0 a2.1 a2.2.1 a2.2.2 a0.1 ([]:List Int)).bind fun r25=>
 some (r25.2.1,r25.1.2)
def zlb(N:Nat)(b0:(List Int))(b1:Y6)(b2:zeo):Option (yf1):=
 let x2:=(decide ((0:Int)<(b0.length:Int)))
 bif x2 then
 (let x3:=(aa .i64 ((b0.length:Int)-(1:Int)))
 gd (decide (0<=(0:Int))&&(decide ((0:Int)<=x3)&&decide (x3<=(b0.length:Int))))
 ((z9e N b1 (cut2 b0 (0:Int) x3)).bind fun r4=>
 bif (!(eqi r4.2.2 (0:Int)))then
 (some (((),r4.2.2),(b1,())))
 else
 (gd (inB x3 (b0.length))
 (bif (decide ((rdL b0 x3 (0:Int))<(0:Int)))then
 (some (((),(140:Int)),(b1,())))
 else
 (gd (inB x3 (b0.length))
 (let x5:=(decide ((r4.1.2.2.1.length:Int)<=(rdL b0 x3 (0:Int))))
 bif x5 then
 (some (((),(140:Int)),(b1,())))
 else
 ((zby N b1 b0 b2).bind fun r6=>
 some (((),r6.2),(r6.1,())))))))))
 else
 ((zby N b1 b0 b2).bind fun r7=>
 some (((),r7.2),(r7.1,())))
def zho(N:Nat)(a0:Y6)(a1:(List Int))(a2:zeo):Option ((Y6×Int)):=
 bif (eqi (a2.1.length:Int) (0:Int))then
 (some (a0,(1:Int)))
 else
 (let x1:=(aa .i64 ((a2.1.length:Int)-(1:Int)))
 bif (!(eqi (a2.2.1.length:Int) x1))then
 (some (a0,(1:Int)))
 else
 ((zlb N a1 a0 a2).bind fun r8=>
 some (r8.2.1,r8.1.2)))
def z2b(N:Nat)(rec:Int->Int->Z6->(List Z1)->(List Z6)->(List (List UInt8))->(List Int)->Option ypp)(b0 b1:Int)(b2:Z6)(b3:(List Z1))(b4:(List Z6))(b5:(List (List UInt8)))(b6:(List Int)):Option ypp:=
 bif (decide (b1<(b6.length:Int)))then
 (gd (inB b1 (b6.length))
 (let x2:=(aa .i64 (b0+(rdL b6 b1 (0:Int))))
 gd (decide (0<=b0)&&(decide (b0<=x2)&&decide (x2<=(b2.2.2.1.length:Int))))
 (gd (decide (0<=b0)&&(decide (b0<=x2)&&decide (x2<=(b2.2.2.2.1.length:Int))))
 (gd (decide (0<=b0)&&(decide (b0<=(aa .i64 (x2-(1:Int))))&&decide ((aa .i64 (x2-(1:Int)))<=(b2.2.1.length:Int))))
 (let x3:=(cut2 b2.2.1 b0 (aa .i64 (x2-(1:Int))))
 let x4:=([(([]:List Z3),(x3,((cut2 b2.2.2.1 b0 x2),((cut2 b2.2.2.2.1 b0 x2),([]:List Z1)))))]:List Z6)
 gd (fits (b4.length+x4.length) 120)
 (let x5:=(b4++x4)
 bif (decide ((0:Int)<b1))then
 (gd (inB (aa .i64 (b0-(1:Int))) (b2.2.1.length))
 (let x6:=(rdL b2.2.1 (aa .i64 (b0-(1:Int))) ([]:List UInt8))
 gd (fits (b5.length+1) 16)
 (let x7:=(b5++([x6]:List (List UInt8)))
 rec x2 (aa .i64 (b1+(1:Int))) b2 b3 x5 x7 b6)))
 else
 (rec x2 (aa .i64 (b1+(1:Int))) b2 b3 x5 b5 b6)))))))
 else
 (some (((),()),((),(((),((),b3)),(b4,(b5,()))))))
def z8i(N:Nat)(n:Nat):=
 itF (fun _ _ _ _ _ _ _=>none) (z2b N) n
theorem zf6(N:Nat)(n:Nat):z8i N (n+1)=z2b N (z8i N n):=rfl
def zj5(N:Nat)(a0:Z6)(a1:U0):Option (zkc):=
 (z5i N (a0.2.2.1.length:Int) a1.2.1).bind fun r1=>
 (z8i N N (0:Int) (0:Int) a0 a0.2.2.2.2 ([]:List Z6) ([]:List (List UInt8)) r1).bind fun r8=>
 some (r8.2.2.2.1,(r8.2.2.2.2.1,r8.2.2.1.2.2))
def zoe(N:Nat)(a0:(List (List UInt8))):Option ((List Z0)):=
 (zej N (([]:List UInt8),([]:List UInt8)) a0).bind fun r1=>
 some r1
def zbo(N:Nat)(a0:Z1):Option (Bool):=
 bif (eqi a0.1 (4:Int))then
 (some true)
 else
 (some (eqi a0.1 (5:Int)))
def z6t(N:Nat)(a0:Z1):Option ((List Z0)):=
 bif (eqi a0.1 (4:Int))then
 (match U8 N a0.2.2.2.2.1 with
 | some r1=>(some ([r1]:List Z0))
 | none=>none)
 else
 (bif (eqi a0.1 (5:Int))then
 (match U8 N a0.2.2.2.2.1 with
 | some r2=>(some ([r2]:List Z0))
 | none=>none)
 else
 (bif (eqi a0.1 (6:Int))then
 (some ([a0.2.2.2.1]:List Z0))
 else
 (some ([]:List Z0))))
def J7(N:Nat)(a0:Z1):Option ((List Z0)):=
 bif (eqi a0.1 (1:Int))then
 (match za2 N a0.2.1 with
 | some r1=>(some ([r1]:List Z0))
 | none=>none)
 else
 (bif (eqi a0.1 (2:Int))then
 (match za2 N a0.2.1 with
 | some r2=>(some ([r2]:List Z0))
 | none=>none)
 else
 (bif (eqi a0.1 (4:Int))then
 (match U8 N a0.2.2.2.2.1 with
 | some r3=>(match U8 N a0.2.2.2.2.2.1 with
 | some r4=>(some ([r3,r4]:List Z0))
 | none=>none)
 | none=>none)
 else
 (bif (eqi a0.1 (5:Int))then
 (match U8 N a0.2.2.2.2.2.1 with
 | some r5=>(some ([r5]:List Z0))
 | none=>none)
 else
 (some ([a0.2.2.2.1]:List Z0)))))
def zcj(N:Nat)(a0 a1:Z0):Option (Bool):=
 match z0n N a1 with
 | some r1=>(bif r1 then
 (some true)
 else
 (match z0n N a0 with
 | some r2=>(bif (!r2)then
 (bif (lts a0.1 a1.1 || eqs a0.1 a1.1)then
 (match zdx N a0.2 a1.2 with
 | some r3=>(some (!r3))
 | none=>none)
 else
 (some false))
 else
 (some false))
 | none=>none))
 | none=>none
def z40(N:Nat)(rec:Int->Z0->(List Z0)->Option Ty3_)(b0:Int)(b1:Z0)(b2:(List Z0)):Option Ty3_:=
 bif (decide (b0<(b2.length:Int)))then
 (gd (inB b0 (b2.length))
 ((zcj N b1 (rdL b2 b0 Y8)).bind fun r5=>
 bif (!r5)then
 (some (.inl (false,())))
 else
 (rec (aa .i64 (b0+(1:Int))) b1 b2)))
 else
 (some (.inr ((),())))
def zao(N:Nat)(n:Nat):=
 itF (fun _ _ _=>none) (z40 N) n
theorem zh6(N:Nat)(n:Nat):zao N (n+1)=z40 N (zao N n):=rfl
def zmc(N:Nat)(a0:Z1)(a1:Z0):Option (Bool):=
 (z6t N a0).bind fun r1=>
 gd (fits (0+r1.length) 32)
 (let x2:=(([]:List Z0)++r1)
 (J7 N a0).bind fun r3=>
 gd (fits (x2.length+r3.length) 32)
 (let x4:=(x2++r3)
 (zao N N (0:Int) a1 x4).bind fun r6=>
 match r6 with
 | .inl r7=>(some r7.1)
 | .inr r8=>(some true)))
def z2p(N:Nat)(rec:(List Z0)->(List Z0)->Int->Int->Option ((Bool×Unit)⊕(((List Z0)×((List Z0)×Int))×Unit)))(b0:(List Z0))(b1:(List Z0))(b2 b3:Int):Option ((Bool×Unit)⊕(((List Z0)×((List Z0)×Int))×Unit)):=
 bif (decide (b3<(b1.length:Int)))then
 (gd (inB b2 (b0.length))
 (gd (inB b3 (b1.length))
 (match z32 N (rdL b0 b2 Y8) (rdL b1 b3 Y8)with
 | some r1=>(match z0n N r1 with
 | some r2=>(bif (!r2)then
 (some (.inl (true,())))
 else
 (rec b0 b1 b2 (aa .i64 (b3+(1:Int)))))
 | none=>none)
 | none=>none)))
 else
 (some (.inr ((b0,(b1,b2)),())))
def z8t(N:Nat)(n:Nat):=
 itF (fun _ _ _ _=>none) (z2p N) n
theorem zfj(N:Nat)(n:Nat):z8t N (n+1)=z2p N (z8t N n):=rfl
def z2q(N:Nat)(rec:(List Z0)->(List Z0)->Int->Option Ty3_)(b0:(List Z0))(b1:(List Z0))(b2:Int):Option Ty3_:=
 bif (decide (b2<(b0.length:Int)))then
 (match z8t N N b0 b1 b2 (0:Int)with
 | some r3=>(match r3 with
 | .inl r4=>(some (.inl (r4.1,())))
 | .inr r5=>(rec r5.1.1 r5.1.2.1 (aa .i64 (r5.1.2.2+(1:Int)))))
 | none=>none)
 else
 (some (.inr ((),())))
def z8u(N:Nat)(n:Nat):=
 itF (fun _ _ _=>none) (z2q N) n
theorem zfk(N:Nat)(n:Nat):z8u N (n+1)=z2q N (z8u N n):=rfl
def z98(N:Nat)(a0:(List Z0))(a1:(List Z0)):Option (Bool):=
 match z8u N N a0 a1 (0:Int)with
 | some r6=>(match r6 with
 | .inl r7=>(some r7.1)
 | .inr r8=>(some false))
 | none=>none
def zi5(N:Nat)(a0:Z1)(a1:Z0):Option ((List Z1)):=
 (J7 N a0).bind fun r1=>
 (z98 N r1 ([a1]:List Z0)).bind fun r2=>
 bif (!r2)then
 (some ([]:List Z1))
 else
 (bif (eqi a0.1 (3:Int))then
 ((z32 N a0.2.2.2.1 a1).bind fun r3=>
 let x4:=([(a0.1,(a0.2.1,(a0.2.2.1,(r3,a0.2.2.2.2))))]:List Z1)
 some x4)
 else
 (bif (eqi a0.1 (6:Int))then
 ((z32 N a0.2.2.2.1 a1).bind fun r5=>
 let x6:=([(a0.1,(a0.2.1,(a0.2.2.1,(r5,a0.2.2.2.2))))]:List Z1)
 some x6)
 else
 (some ([a0]:List Z1))))
def z1d(N:Nat)(rec:(List Z0)->Bool->Int->Z0->(List Z0)->Option (((Unit×(Unit×Bool))×yjg)))(b0:(List Z0))(b1:Bool)(b2:Int)(b3:Z0)(b4:(List Z0)):Option (((Unit×(Unit×Bool))×yjg)):=
 bif (decide (b2<(b0.length:Int)))then
 (bif (!b1)then
 (gd (inB b2 (b0.length))
 (bif (lts b3.1 ((rdL b0 b2 Y8).1))then
 (gd (fits (b4.length+1) 32)
 (let x2:=(b4++([b3]:List Z0))
 gd (inB b2 (b0.length))
 (gd (fits (x2.length+1) 32)
 (let x3:=(x2++([(rdL b0 b2 Y8)]:List Z0))
 rec b0 true (aa .i64 (b2+(1:Int))) b3 x3))))
 else
 (gd (inB b2 (b0.length))
 (gd (fits (b4.length+1) 32)
 (let x4:=(b4++([(rdL b0 b2 Y8)]:List Z0))
 rec b0 b1 (aa .i64 (b2+(1:Int))) b3 x4)))))
 else
 (gd (inB b2 (b0.length))
 (gd (fits (b4.length+1) 32)
 (let x5:=(b4++([(rdL b0 b2 Y8)]:List Z0))
 rec b0 b1 (aa .i64 (b2+(1:Int))) b3 x5))))
 else
 (some (((),((),b1)),(b3,(b4,()))))
def z7k(N:Nat)(n:Nat):=
 itF (fun _ _ _ _ _=>none) (z1d N) n
theorem zdv(N:Nat)(n:Nat):z7k N (n+1)=z1d N (z7k N n):=rfl
def zge(N:Nat)(a0:(List Z0))(a1:Z0):Option ((List Z0)):=
 match z0n N a1 with
 | some r1=>(match z7k N N a0 r1 (0:Int) a1 ([]:List Z0)with
 | some r6=>(bif (!r6.1.2.2)then
 (gd (fits (r6.2.2.1.length+1) 32)
 (let x7:=(r6.2.2.1++([r6.2.1]:List Z0))
 some x7))
 else
 (some r6.2.2.1))
 | none=>none)
 | none=>none
def z3d(N:Nat)(b0 b1:Int)(b2:Bool)(b3:(List Z0))(b4:(List Z0)):Option (((Unit×(Unit×Int))×yn8)):=
 bif b2 then
 (gd (inB b0 (b3.length))
 (gd (fits (b4.length+1) 32)
 (let x4:=(b4++([(rdL b3 b0 Y8)]:List Z0))
 some (((),((),b0)),(b3,(x4,()))))))
 else
 (gd (inB b1 (b4.length))
 (gd (inB b0 (b3.length))
 (match zdx N ((rdL b4 b1 Y8).2) ((rdL b3 b0 Y8).2)with
 | some r5=>(bif r5 then
 (gd (inB b0 (b3.length))
 (gd (inB b1 (b4.length))
 (let x6:=(setL b4 b1 ((rdL b4 b1 Y8).1,(rdL b3 b0 Y8).2))
 some (((),((),b0)),(b3,(x6,()))))))
 else
 (some (((),((),b0)),(b3,(b4,())))))
 | none=>none)))
def z42(N:Nat)(rec:Int->(List Z0)->(List Z0)->Option ya0)(b0:Int)(b1:(List Z0))(b2:(List Z0)):Option ya0:=
 bif (decide (b0<(b1.length:Int)))then
 (let x3:=(aa .i64 ((b2.length:Int)-(1:Int)))
 bif (decide (x3<(0:Int)))then
 (match z3d N b0 x3 true b1 b2 with
 | some r7=>(rec (aa .i64 (r7.1.2.2+(1:Int))) r7.2.1 r7.2.2.1)
 | none=>none)
 else
 (gd (inB x3 (b2.length))
 (let x8:=(!(eqs ((rdL b2 x3 Y8).2) ([]:List UInt8)))
 bif x8 then
 (gd (inB x3 (b2.length))
 (gd (inB b0 (b1.length))
 (let x9:=(lts ((rdL b2 x3 Y8).2) ((rdL b1 b0 Y8).1))
 match z3d N b0 x3 x9 b1 b2 with
 | some r10=>(rec (aa .i64 (r10.1.2.2+(1:Int))) r10.2.1 r10.2.2.1)
 | none=>none)))
 else
 (match z3d N b0 x3 false b1 b2 with
 | some r11=>(rec (aa .i64 (r11.1.2.2+(1:Int))) r11.2.1 r11.2.2.1)
 | none=>none))))
 else
 (some ((),(b2,())))
def z7w(N:Nat)(n:Nat):=
 itF (fun _ _ _=>none) (z42 N) n
theorem zh8(N:Nat)(n:Nat):z7w N (n+1)=z42 N (z7w N n):=rfl
def u7(N:Nat)(rec:(List Z0)->Int->(List Z0)->(List Z0)->Option (((Unit×Unit)×yn8)))(b0:(List Z0))(b1:Int)(b2:(List Z0))(b3:(List Z0)):Option (((Unit×Unit)×yn8)):=
 bif (decide (b1<(b0.length:Int)))then
 (gd (inB b1 (b0.length))
 (match zge N b2 (rdL b0 b1 Y8)with
 | some r1=>(rec b0 (aa .i64 (b1+(1:Int))) r1 b3)
 | none=>none))
 else
 (some (((),()),(b2,(b3,()))))
def z7x(N:Nat)(n:Nat):=
 itF (fun _ _ _ _=>none) (u7 N) n
theorem z6k(N:Nat)(n:Nat):z7x N (n+1)=u7 N (z7x N n):=rfl
def z1e(N:Nat)(a0:(List Z0)):Option ((List Z0)):=
 match z7x N N a0 (0:Int) ([]:List Z0) ([]:List Z0)with
 | some r2=>(match z7w N N (0:Int) r2.2.1 r2.2.2.1 with
 | some r12=>(some r12.2.1)
 | none=>none)
 | none=>none
def z2v(N:Nat)(rec:(List Z0)->Int->Int->(List Z0)->(List Z0)->Option ((((List Z0)×(Int×Unit))×((List Z0)×Unit))))(b0:(List Z0))(b1 b2:Int)(b3:(List Z0))(b4:(List Z0)):Option ((((List Z0)×(Int×Unit))×((List Z0)×Unit))):=
 bif (decide (b2<(b3.length:Int)))then
 (gd (inB b1 (b0.length))
 (let x3:=(!(eqs ((rdL b0 b1 Y8).1) ([]:List UInt8)))
 bif x3 then
 (gd (inB b2 (b3.length))
 (gd (inB b1 (b0.length))
 (match z32 N (rdL b3 b2 Y8) (([]:List UInt8),(rdL b0 b1 Y8).1)with
 | some r4=>(gd (fits (b4.length+1) 32)
 (let x5:=(b4++([r4]:List Z0))
 gd (inB b1 (b0.length))
 (let x6:=(!(eqs ((rdL b0 b1 Y8).2) ([]:List UInt8)))
 bif x6 then
 (gd (inB b2 (b3.length))
 (gd (inB b1 (b0.length))
 (match z32 N (rdL b3 b2 Y8) ((rdL b0 b1 Y8).2,([]:List UInt8))with
 | some r7=>(gd (fits (x5.length+1) 32)
 (let x8:=(x5++([r7]:List Z0))
 rec b0 b1 (aa .i64 (b2+(1:Int))) b3 x8))
 | none=>none)))
 else
 (rec b0 b1 (aa .i64 (b2+(1:Int))) b3 x5))))
 | none=>none)))
 else
 (gd (inB b1 (b0.length))
 (let x9:=(!(eqs ((rdL b0 b1 Y8).2) ([]:List UInt8)))
 bif x9 then
 (gd (inB b2 (b3.length))
 (gd (inB b1 (b0.length))
 (match z32 N (rdL b3 b2 Y8) ((rdL b0 b1 Y8).2,([]:List UInt8))with
 | some r10=>(gd (fits (b4.length+1) 32)
 (let x11:=(b4++([r10]:List Z0))
 rec b0 b1 (aa .i64 (b2+(1:Int))) b3 x11))
 | none=>none)))
 else
 (rec b0 b1 (aa .i64 (b2+(1:Int))) b3 b4)))))
 else
 (some ((b0,(b1,())),(b4,())))
def z6b(N:Nat)(n:Nat):=
 itF (fun _ _ _ _ _=>none) (z2v N) n
theorem zfp(N:Nat)(n:Nat):z6b N (n+1)=z2v N (z6b N n):=rfl
def K7(N:Nat)(rec:(List Z0)->Int->(List Z0)->Option ya0)(b0:(List Z0))(b1:Int)(b2:(List Z0)):Option ya0:=
 bif (decide (b1<(b0.length:Int)))then
 (gd (inB b1 (b0.length))
 (match z0n N (rdL b0 b1 Y8)with
 | some r2=>(bif r2 then
 (rec b0 (aa .i64 (b1+(1:Int))) b2)
 else
 (match z6b N N b0 b1 (0:Int) b2 ([]:List Z0)with
 | some r12=>(match z1e N r12.2.1 with
 | some r13=>(rec r12.1.1 (aa .i64 (r12.1.2.1+(1:Int))) r13)
 | none=>none)
 | none=>none))
 | none=>none))
 else
 (some ((),(b2,())))
def z6c(N:Nat)(n:Nat):=
 itF (fun _ _ _=>none) (K7 N) n
theorem z03(N:Nat)(n:Nat):z6c N (n+1)=K7 N (z6c N n):=rfl
def K6(N:Nat)(a0:(List Z0))(a1:(List Z0)):Option ((List Z0)):=
 match z1e N a0 with
 | some r1=>(match z6c N N a1 (0:Int) r1 with
 | some r14=>(some r14.2.1)
 | none=>none)
 | none=>none
def z18(N:Nat)(rec:Int->(List Z1)->(List Z1)->(List Z0)->Z1->(List Z0)->Option ypr)(b0:Int)(b1:(List Z1))(b2:(List Z1))(b3:(List Z0))(b4:Z1)(b5:(List Z0)):Option ypr:=
 bif (decide (b0<(b5.length:Int)))then
 (gd (inB b0 (b5.length))
 (let x23:=([(b4.1,(b4.2.1,(b4.2.2.1,((rdL b5 b0 Y8),b4.2.2.2.2))))]:List Z1)
 gd (fits (b2.length+x23.length) 112)
 (let x24:=(b2++x23)
 rec (aa .i64 (b0+(1:Int))) b1 x24 b3 (b4.1,(b4.2.1,(b4.2.2.1,((rdL b5 b0 Y8),b4.2.2.2.2)))) b5)))
 else
 (some (((),()),(((),((),())),(b1,(b2,(b3,((),())))))))
def z4r(N:Nat)(n:Nat):=
 itF (fun _ _ _ _ _ _=>none) (z18 N) n
theorem zdr(N:Nat)(n:Nat):z4r N (n+1)=z18 N (z4r N n):=rfl
def z39(N:Nat)(a0:Z1)(a1:Z0)(a2:(List Z1))(a3:(List Z1))(a4:(List Z0)):Option (ynb):=
 (zbo N a0).bind fun r1=>
 bif r1 then
 ((z6t N a0).bind fun r2=>
 gd (fits (0+r2.length) 32)
 (let x3:=(([]:List Z0)++r2)
 (J7 N a0).bind fun r4=>
 gd (fits (x3.length+r4.length) 32)
 (let x5:=(x3++r4)
 (zmc N a0 a1).bind fun r6=>
 bif r6 then
 ((z98 N x5 a4).bind fun r7=>
 bif (!r7)then
 (gd (fits (a2.length+1) 112)
 (let x8:=(a2++([a0]:List Z1))
 some (((),((),())),(x8,(a3,(a4,()))))))
 else
 (gd (fits (a3.length+1) 112)
 (let x9:=(a3++([a0]:List Z1))
 gd (fits (a4.length+x5.length) 32)
 (let x10:=(a4++x5)
 some (((),((),())),(a2,(x9,(x10,()))))))))
 else
 (gd (fits (a3.length+1) 112)
 (let x11:=(a3++([a0]:List Z1))
 gd (fits (a4.length+x5.length) 32)
 (let x12:=(a4++x5)
 some (((),((),())),(a2,(x11,(x12,()))))))))))
 else
 ((zi5 N a0 a1).bind fun r13=>
 bif (eqi (r13.length:Int) (0:Int))then
 (gd (fits (a3.length+1) 112)
 (let x14:=(a3++([a0]:List Z1))
 some (((),((),())),(a2,(x14,(a4,()))))))
 else
 (gd (inB (0:Int) (r13.length))
 ((J7 N (rdL r13 (0:Int) Q7)).bind fun r15=>
 (z98 N r15 a4).bind fun r16=>
 bif r16 then
 (gd (fits (a3.length+1) 112)
 (let x17:=(a3++([a0]:List Z1))
 gd (inB (0:Int) (r13.length))
 ((J7 N (rdL r13 (0:Int) Q7)).bind fun r18=>
 gd (fits (a4.length+r18.length) 32)
 (let x19:=(a4++r18)
 some (((),((),())),(a2,(x17,(x19,()))))))))
 else
 (gd (inB (0:Int) (r13.length))
 (let x20:=([(rdL r13 (0:Int) Q7)]:List Z1)
 gd (fits (a2.length+x20.length) 112)
 (let x21:=(a2++x20)
 bif (eqi a0.1 (3:Int))then
 ((K6 N ([a0.2.2.2.1]:List Z0) ([a1]:List Z0)).bind fun r22=>
 (z4r N N (0:Int) x21 a3 a4 a0 r22).bind fun r25=>
 some (((),((),())),(r25.2.2.1,(r25.2.2.2.1,(r25.2.2.2.2.1,())))))
 else
 (bif (eqi a0.1 (6:Int))then
 ((K6 N ([a0.2.2.2.1]:List Z0) ([a1]:List Z0)).bind fun r26=>
 (z4r N N (0:Int) x21 a3 a4 a0 r26).bind fun r27=>
 some (((),((),())),(r27.2.2.1,(r27.2.2.2.1,(r27.2.2.2.2.1,())))))
 else
 (some (((),((),())),(x21,(a3,(a4,()))))))))))))
def z2m(N:Nat)(rec:(List Z1)->Int->(List Z1)->(List Z1)->(List Z0)->Z0->Option (((Unit×Unit)×(Unit×ynb))))(b0:(List Z1))(b1:Int)(b2:(List Z1))(b3:(List Z1))(b4:(List Z0))(b5:Z0):Option (((Unit×Unit)×(Unit×ynb))):=
 bif (decide (b1<(b0.length:Int)))then
 (gd (inB b1 (b0.length))
 ((z39 N (rdL b0 b1 Q7) b5 b2 b3 b4).bind fun r2=>
 rec b0 (aa .i64 (b1+(1:Int))) r2.2.1 r2.2.2.1 r2.2.2.2.1 b5))
 else
 (some (((),()),((),(((),((),())),(b2,(b3,(b4,())))))))
def z8p(N:Nat)(n:Nat):=
 itF (fun _ _ _ _ _ _=>none) (z2m N) n
theorem zfg(N:Nat)(n:Nat):z8p N (n+1)=z2m N (z8p N n):=rfl
def z6s(N:Nat)(a0:(List Z1))(a1:(List (List UInt8)))(a2:Int):Option (zjq):=
 (zoe N a1).bind fun r1=>
 gd (inB a2 (r1.length))
 ((z8p N N a0 (0:Int) ([]:List Z1) ([]:List Z1) ([]:List Z0) (rdL r1 a2 Y8)).bind fun r3=>
 some (r3.2.2.2.1,(r3.2.2.2.2.1,r3.2.2.2.2.2.1)))
def z3q(N:Nat)(rec:Int->Int->Int->Z6->Option (((Int×Int)×Unit)))(b0 b1 b2:Int)(b3:Z6):Option (((Int×Int)×Unit)):=
 bif (decide (b2<(b3.2.2.1.length:Int)))then
 ((z6s N b3.2.2.2.2 b3.2.1 b2).bind fun r1=>
 bif (decide (b1<(r1.1.length:Int)))then
 (rec b2 (r1.1.length:Int) (aa .i64 (b2+(1:Int))) b3)
 else
 (rec b0 b1 (aa .i64 (b2+(1:Int))) b3))
 else
 (some ((b0,b1),()))
def z7t(N:Nat)(n:Nat):=
 itF (fun _ _ _ _=>none) (z3q N) n
theorem zgw(N:Nat)(n:Nat):z7t N (n+1)=z3q N (z7t N n):=rfl
def zm3(N:Nat)(a0:Z6):Option ((Int×Int)):=
 (z7t N N (0:Int) (0:Int) (0:Int) a0).bind fun r2=>
 some (r2.1.1,r2.1.2)
def zaf(N:Nat)(a0:Z6)(a1:Int):Option (Z6):=
 let x1:=(bif decide ((aa .i64 (a1-(1:Int)))<(0:Int))then(0:Int)else(aa .i64 (a1-(1:Int))))
 gd (decide (0<=(0:Int))&&(decide ((0:Int)<=a1)&&decide (a1<=(a0.2.2.1.length:Int))))
 (gd (fits (0+ap (cut2 a0.2.2.1 (0:Int) a1)) 8)
 (let x2:=(([]:List Int)++(cut2 a0.2.2.1 (0:Int) a1))
 gd (decide (0<=(aa .i64 (a1+(1:Int))))&&(decide ((aa .i64 (a1+(1:Int)))<=(a0.2.2.1.length:Int))&&decide ((a0.2.2.1.length:Int)<=(a0.2.2.1.length:Int))))
 (let x3:=(cut2 a0.2.2.1 (aa .i64 (a1+(1:Int))) (a0.2.2.1.length:Int))
 gd (fits (x2.length+x3.length) 8)
 (let x4:=(x2++x3)
 gd (decide (0<=(0:Int))&&(decide ((0:Int)<=a1)&&decide (a1<=(a0.2.2.2.1.length:Int))))
 (gd (fits (0+ap (cut2 a0.2.2.2.1 (0:Int) a1)) 32)
 (let x5:=(([]:List Y7)++(cut2 a0.2.2.2.1 (0:Int) a1))
 gd (decide (0<=(aa .i64 (a1+(1:Int))))&&(decide ((aa .i64 (a1+(1:Int)))<=(a0.2.2.2.1.length:Int))&&decide ((a0.2.2.2.1.length:Int)<=(a0.2.2.2.1.length:Int))))
 (let x6:=(cut2 a0.2.2.2.1 (aa .i64 (a1+(1:Int))) (a0.2.2.2.1.length:Int))
 gd (fits (x5.length+x6.length) 32)
 (let x7:=(x5++x6)
 gd (decide (0<=(0:Int))&&(decide ((0:Int)<=x1)&&decide (x1<=(a0.2.1.length:Int))))
 (gd (fits (0+ap (cut2 a0.2.1 (0:Int) x1)) 16)
 (let x8:=(([]:List (List UInt8))++(cut2 a0.2.1 (0:Int) x1))
 gd (decide (0<=(aa .i64 (x1+(1:Int))))&&(decide ((aa .i64 (x1+(1:Int)))<=(a0.2.1.length:Int))&&decide ((a0.2.1.length:Int)<=(a0.2.1.length:Int))))
 (let x9:=(cut2 a0.2.1 (aa .i64 (x1+(1:Int))) (a0.2.1.length:Int))
 gd (fits (x8.length+x9.length) 16)
 (let x10:=(x8++x9)
 some (([]:List Z3),(x10,(x4,(x7,a0.2.2.2.2))))))))))))))))
def zbg(N:Nat)(a0 a1:Y6)(a2 a3:Int):Option (z7p):=
 bif (!(eqi a2 (0:Int)))then
 (some (a0,((0:Int),a2)))
 else
 (some (a1,(a3,(0:Int))))
def z5a(N:Nat)(rec:(List Z3)->(List Z1)->Int->Option (((List Z3)×Unit)))(b0:(List Z3))(b1:(List Z1))(b2:Int):Option (((List Z3)×Unit)):=
 bif (decide (b2<(b1.length:Int)))then
 (gd (inB b2 (b1.length))
 (match z3h N b0 (rdL b1 b2 Q7)with
 | some r1=>(rec r1 b1 (aa .i64 (b2+(1:Int))))
 | none=>none))
 else
 (some (b0,()))
def zci(N:Nat)(n:Nat):=
 itF (fun _ _ _=>none) (z5a N) n
theorem zj0(N:Nat)(n:Nat):zci N (n+1)=z5a N (zci N n):=rfl
def zkv(N:Nat)(a0:(List Z3))(a1:(List Z1)):Option ((List Z3)):=
 match zci N N a0 a1 (0:Int)with
 | some r2=>(some r2.1)
 | none=>none
def z1m(N:Nat)(b0:(List Int))(b1:Int)(b2:Y6)(b3:Z6)(b4:zjq)(b5:(List Z6))(b6:(List (List UInt8)))(b7:(List Z1)):Option ((Unit×(z7p×Unit))):=
 (ze7 N b2.1 b5).bind fun r14=>
 bif (!(eqi r14.2.2 (0:Int)))then
 (some ((),((b2,((0:Int),r14.2.2)),())))
 else
 ((z95 N b3 b1 (b5,(b6,b7)) r14.2.1).bind fun r15=>
 (zby N (r14.1,b2.2) b0 (([r15]:List Z6),(([]:List (List UInt8)),([]:List Z1)))).bind fun r16=>
 (zhn N r16.1.1 r14.2.1).bind fun r17=>
 (zbg N b2 (r17,r16.1.2) r16.2 (b4.1.length:Int)).bind fun r18=>
 some ((),(r18,())))
def zhg(N:Nat)(b0:(List Int))(b1:Int)(b2:Y6)(b3:Z6):Option ((Unit×(z7p×Unit))):=
 gd (inB b1 (b3.2.2.1.length))
 ((za1 N b2.1 (rdL b3.2.2.1 b1 (0:Int))).bind fun r3=>
 bif (!(eqi r3.2 (0:Int)))then
 (some ((),((b2,((0:Int),r3.2)),())))
 else
 ((z6s N b3.2.2.2.2 b3.2.1 b1).bind fun r4=>
 bif (eqi (r4.1.length:Int) (0:Int))then
 (some ((),((b2,((0:Int),(0:Int))),())))
 else
 (let x5:=(decide ((0:Int)<(r3.1.2.2.1.length:Int)))
 bif x5 then
 (gd (fits (0+r3.1.2.2.2.2.length) 112)
 (let x6:=(([]:List Z1)++r3.1.2.2.2.2)
 gd (fits (x6.length+r4.1.length) 112)
 (let x7:=(x6++r4.1)
 let x8:=([(r3.1.1,(r3.1.2.1,(r3.1.2.2.1,(r3.1.2.2.2.1,x7))))]:List Z6)
 let x9:=(aa .i64 ((r3.1.2.2.1.length:Int)+(r3.1.1.length:Int)))
 bif (eqi x9 (0:Int))then
 (let x10:=(decide ((1:Int)<(b3.2.2.1.length:Int)))
 bif x10 then
 ((zaf N (b3.1,(b3.2.1,(b3.2.2.1,(b3.2.2.2.1,r4.2.1)))) b1).bind fun r11=>
 (zby N b2 b0 (([r11]:List Z6),(([]:List (List UInt8)),([]:List Z1)))).bind fun r12=>
 (zbg N b2 r12.1 r12.2 (r4.1.length:Int)).bind fun r13=>
 some ((),(r13,())))
 else
 ((z1m N b0 b1 b2 (b3.1,(b3.2.1,(b3.2.2.1,(b3.2.2.2.1,r4.2.1)))) r4 x8 ([]:List (List UInt8)) ([]:List Z1)).bind fun r19=>
 some ((),(r19.2.1,()))))
 else
 ((z1m N b0 b1 b2 (b3.1,(b3.2.1,(b3.2.2.1,(b3.2.2.2.1,r4.2.1)))) r4 x8 ([]:List (List UInt8)) ([]:List Z1)).bind fun r20=>
 some ((),(r20.2.1,()))))))
 else
 ((zkv N r3.1.1 r4.1).bind fun r21=>
 (zdi N (r21,r3.1.2) b2.2.2).bind fun r22=>
 let x23:=(aa .i64 ((r3.1.2.2.1.length:Int)+(r21.length:Int)))
 bif (eqi x23 (0:Int))then
 (let x24:=(decide ((1:Int)<(b3.2.2.1.length:Int)))
 bif x24 then
 ((zaf N (b3.1,(b3.2.1,(b3.2.2.1,(b3.2.2.2.1,r4.2.1)))) b1).bind fun r25=>
 (zby N b2 b0 (([r25]:List Z6),(([]:List (List UInt8)),([]:List Z1)))).bind fun r26=>
 (zbg N b2 r26.1 r26.2 (r4.1.length:Int)).bind fun r27=>
 some ((),(r27,())))
 else
 ((z1m N b0 b1 b2 (b3.1,(b3.2.1,(b3.2.2.1,(b3.2.2.2.1,r4.2.1)))) r4 r22.1 r22.2.1 ([]:List Z1)).bind fun r28=>
 some ((),(r28.2.1,()))))
 else
 ((z1m N b0 b1 b2 (b3.1,(b3.2.1,(b3.2.2.1,(b3.2.2.2.1,r4.2.1)))) r4 r22.1 r22.2.1 ([]:List Z1)).bind fun r29=>
 some ((),(r29.2.1,())))))))
def zj4(N:Nat)(a0:Y6)(a1:(List Int))(a2:Int):Option (z7p):=
 (z9e N a0 a1).bind fun r1=>
 bif (!(eqi r1.2.2 (0:Int)))then
 (some (a0,((0:Int),r1.2.2)))
 else
 (bif (decide (a2<(0:Int)))then
 (some (a0,((0:Int),(140:Int))))
 else
 (let x2:=(decide ((r1.1.2.2.1.length:Int)<=a2))
 bif x2 then
 (some (a0,((0:Int),(140:Int))))
 else
 ((zhg N a1 a2 a0 r1.1).bind fun r30=>
 some r30.2.1)))
def zpg(N:Nat)(a0:Z0)(a1:(List UInt8)):Option (Bool):=
 bif (!(lts a1 a0.1))then
 (bif (eqs a0.2 ([]:List UInt8))then
 (some true)
 else
 (some (lts a1 a0.2)))
 else
 (some false)
def z13(N:Nat)(rec:(List Z3)->(List Z0)->Int->Bool->Int->(List Z3)->Option ypm)(b0:(List Z3))(b1:(List Z0))(b2:Int)(b3:Bool)(b4:Int)(b5:(List Z3)):Option ypm:=
 bif (decide (b4<(b1.length:Int)))then
 (bif b3 then
 (rec b0 b1 b2 true (aa .i64 (b4+(1:Int))) b5)
 else
 (gd (inB b4 (b1.length))
 (gd (inB b2 (b0.length))
 ((zpg N (rdL b1 b4 Y8) ((rdL b0 b2 X6).1)).bind fun r1=>
 rec b0 b1 b2 r1 (aa .i64 (b4+(1:Int))) b5))))
 else
 (some ((b0,(b1,((),(b2,b3)))),(b5,())))
def z7d(N:Nat)(n:Nat):=
 itF (fun _ _ _ _ _ _=>none) (z13 N) n
theorem zdj(N:Nat)(n:Nat):z7d N (n+1)=z13 N (z7d N n):=rfl
def z14(N:Nat)(rec:(List Z3)->(List Z0)->Int->(List Z3)->Option (Ty7_))(b0:(List Z3))(b1:(List Z0))(b2:Int)(b3:(List Z3)):Option (Ty7_):=
 bif (decide (b2<(b0.length:Int)))then
 ((z7d N N b0 b1 b2 false (0:Int) b3).bind fun r2=>
 bif r2.1.2.2.2.2 then
 (gd (inB r2.1.2.2.2.1 (r2.1.1.length))
 (let x3:=([(rdL r2.1.1 r2.1.2.2.2.1 X6)]:List Z3)
 gd (fits (r2.2.1.length+x3.length) 40)
 (let x4:=(r2.2.1++x3)
 let x5:=(aa .i64 (r2.1.2.2.2.1+(1:Int)))
 rec r2.1.1 r2.1.2.1 x5 x4)))
 else
 (let x6:=(aa .i64 (r2.1.2.2.2.1+(1:Int)))
 rec r2.1.1 r2.1.2.1 x6 r2.2.1))
 else
 (some ((),(b3,())))
def z7e(N:Nat)(n:Nat):=
 itF (fun _ _ _ _=>none) (z14 N) n
theorem zdk(N:Nat)(n:Nat):z7e N (n+1)=z14 N (z7e N n):=rfl
def zce(N:Nat)(a0:(List Z3))(a1:(List Z0)):Option ((List Z3)):=
 (z7e N N a0 a1 (0:Int) ([]:List Z3)).bind fun r7=>
 some r7.2.1
def zj8(N:Nat)(a0:Z0)(a1 a2:(List UInt8)):Option (Z0):=
 (U8 N a2).bind fun r1=>
 gd (decide (0<=(a1.length:Int))&&(decide ((a1.length:Int)<=(a0.1.length:Int))&&decide ((a0.1.length:Int)<=(a0.1.length:Int))))
 (let x2:=(cut2 a0.1 (a1.length:Int) (a0.1.length:Int))
 gd (decide (a2.length+x2.length<maxS))
 (let x3:=(a2++x2)
 (z0a N a0.2 a1).bind fun r4=>
 bif r4 then
 (bif (!(eqs a0.2 ([]:List UInt8)))then
 (gd (decide (0<=(a1.length:Int))&&(decide ((a1.length:Int)<=(a0.2.length:Int))&&decide ((a0.2.length:Int)<=(a0.2.length:Int))))
 (let x5:=(cut2 a0.2 (a1.length:Int) (a0.2.length:Int))
 gd (decide (a2.length+x5.length<maxS))
 (let x6:=(a2++x5)
 some (x3,x6))))
 else
 (some (x3,r1.2)))
 else
 (some (x3,r1.2))))
def z0l(N:Nat)(rec:(List Z0)->Int->Z1->Z0->(List Z0)->Option ya0)(b0:(List Z0))(b1:Int)(b2:Z1)(b3:Z0)(b4:(List Z0)):Option ya0:=
 bif (decide (b1<(b0.length:Int)))then
 (gd (inB b1 (b0.length))
 ((z32 N (rdL b0 b1 Y8) b3).bind fun r10=>
 (z0n N r10).bind fun r11=>
 bif (!r11)then
 ((zj8 N r10 b2.2.2.2.2.2.1 b2.2.2.2.2.1).bind fun r12=>
 gd (fits (b4.length+1) 32)
 (let x13:=(b4++([r12]:List Z0))
 rec b0 (aa .i64 (b1+(1:Int))) b2 b3 x13))
 else
 (rec b0 (aa .i64 (b1+(1:Int))) b2 b3 b4)))
 else
 (some ((),(b4,())))
def z0u(N:Nat)(n:Nat):=
 itF (fun _ _ _ _ _=>none) (z0l N) n
theorem zcr(N:Nat)(n:Nat):z0u N (n+1)=z0l N (z0u N n):=rfl
def z3c(N:Nat)(a0:(List Z0))(a1:Z1):Option ((List Z0)):=
 bif (eqi a1.1 (1:Int))then
 ((za2 N a1.2.1).bind fun r1=>
 (K6 N a0 ([r1]:List Z0)).bind fun r2=>
 some r2)
 else
 (bif (eqi a1.1 (2:Int))then
 ((za2 N a1.2.1).bind fun r3=>
 (K6 N a0 ([r3]:List Z0)).bind fun r4=>
 some r4)
 else
 (bif (eqi a1.1 (3:Int))then
 ((K6 N a0 ([a1.2.2.2.1]:List Z0)).bind fun r5=>
 some r5)
 else
 (bif (eqi a1.1 (6:Int))then
 (some a0)
 else
 ((U8 N a1.2.2.2.2.2.1).bind fun r6=>
 bif (eqi a1.1 (4:Int))then
 ((U8 N a1.2.2.2.2.1).bind fun r7=>
 gd (fits (1+1) 32)
 (let x8:=(([r6]:List Z0)++([r7]:List Z0))
 (K6 N a0 x8).bind fun r9=>
 (z0u N N a0 (0:Int) a1 r6 r9).bind fun r14=>
 (z1e N r14.2.1).bind fun r15=>
 some r15))
 else
 ((K6 N a0 ([r6]:List Z0)).bind fun r16=>
 (z0u N N a0 (0:Int) a1 r6 r16).bind fun r17=>
 (z1e N r17.2.1).bind fun r18=>
 some r18)))))
def z2n(N:Nat)(rec:(List Z1)->(List Z0)->Int->Option (((List Z0)×Unit)))(b0:(List Z1))(b1:(List Z0))(b2:Int):Option (((List Z0)×Unit)):=
 bif (decide ((0:Int)<=b2))then
 (gd (inB b2 (b0.length))
 ((z3c N b1 (rdL b0 b2 Q7)).bind fun r3=>
 rec b0 r3 (aa .i64 (b2-(1:Int)))))
 else
 (some (b1,()))
def z8q(N:Nat)(n:Nat):=
 itF (fun _ _ _=>none) (z2n N) n
theorem zfh(N:Nat)(n:Nat):z8q N (n+1)=z2n N (z8q N n):=rfl
def zj7(N:Nat)(a0:Z0)(a1:(List Z1)):Option ((List Z0)):=
 (z1e N ([a0]:List Z0)).bind fun r1=>
 let x2:=(aa .i64 ((a1.length:Int)-(1:Int)))
 (z8q N N a1 r1 x2).bind fun r4=>
 some r4.1
def z3u(N:Nat)(self:(List Z7)->Int->Z0->(List Z0)->Option (((List Z3)×Int)))(rec:(List Z0)->(List Z0)->(List Z0)->Int->(List Z7)->Z6->(List Z3)->Option ypq)(b0:(List Z0))(b1:(List Z0))(b2:(List Z0))(b3:Int)(b4:(List Z7))(b5:Z6)(b6:(List Z3)):Option ypq:=
 bif (decide (b3<(b5.2.2.1.length:Int)))then
 (gd (decide (0<=b3)&&(decide (b3<=(aa .i64 (b3+(1:Int))))&&decide ((aa .i64 (b3+(1:Int)))<=(b2.length:Int))))
 (let x8:=(cut2 b2 b3 (aa .i64 (b3+(1:Int))))
 (z98 N b1 x8).bind fun r9=>
 bif (!r9)then
 (rec b0 b1 b2 (aa .i64 (b3+(1:Int))) b4 b5 b6)
 else
 (gd (inB b3 (b5.2.2.1.length))
 (gd (inB b3 (b2.length))
 ((self b4 (rdL b5.2.2.1 b3 (0:Int)) (rdL b2 b3 Y8) b1).bind fun r10=>
 bif (!(eqi r10.2 (0:Int)))then
 (some (.inl ((([]:List Z3),r10.2),())))
 else
 (gd (fits (b6.length+r10.1.length) 40)
 (let x11:=(b6++r10.1)
 rec b0 b1 b2 (aa .i64 (b3+(1:Int))) b4 b5 x11)))))))
 else
 (some (.inr ((b0,((),())),(b5,(b6,())))))
def z7u(N:Nat)(self:(List Z7)->Int->Z0->(List Z0)->Option (((List Z3)×Int)))(n:Nat):=
 itF (fun _ _ _ _ _ _ _=>none) (z3u N self) n
theorem zh0(N:Nat)(self:(List Z7)->Int->Z0->(List Z0)->Option (((List Z3)×Int)))(n:Nat):z7u N self (n+1)=z3u N self (z7u N self n):=rfl
def z3v(N:Nat)(self:(List Z7)->Int->Z0->(List Z0)->Option (((List Z3)×Int)))(rec:(List Z0)->Int->(List Z7)->Z0->Z6->(List Z0)->Option ypo)(b0:(List Z0))(b1:Int)(b2:(List Z7))(b3:Z0)(b4:Z6)(b5:(List Z0)):Option ypo:=
 bif (decide (b1<(b0.length:Int)))then
 (gd (inB b1 (b0.length))
 ((zj7 N (rdL b0 b1 Y8) b4.2.2.2.2).bind fun r4=>
 gd (fits (b5.length+r4.length) 32)
 (let x5:=(b5++r4)
 rec b0 (aa .i64 (b1+(1:Int))) b2 b3 b4 x5)))
 else
 (some ((b0,((),((),((),())))),(b2,(b3,(b4,(b5,()))))))
def zaj(N:Nat)(self:(List Z7)->Int->Z0->(List Z0)->Option (((List Z3)×Int)))(n:Nat):=
 itF (fun _ _ _ _ _ _=>none) (z3v N self) n
theorem zh1(N:Nat)(self:(List Z7)->Int->Z0->(List Z0)->Option (((List Z3)×Int)))(n:Nat):zaj N self (n+1)=z3v N self (zaj N self n):=rfl
def z4q(N:Nat)(self:(List Z7)->Int->Z0->(List Z0)->Option (((List Z3)×Int)))(a0:(List Z7))(a1:Int)(a2:Z0)(a3:(List Z0)):Option (((List Z3)×Int)):=
 (za1 N a0 a1).bind fun r1=>
 bif (!(eqi r1.2 (0:Int)))then
 (some (([]:List Z3),r1.2))
 else
 (let x2:=(eqi (r1.1.2.2.1.length:Int) (0:Int))
 bif x2 then
 ((zce N r1.1.1 a3).bind fun r3=>
 some (r3,(0:Int)))
 else
 ((zaj N self N a3 (0:Int) a0 a2 r1.1 ([]:List Z0)).bind fun r6=>
 (z96 N r6.2.2.2.1 r6.2.2.1).bind fun r7=>
 (z7u N self N r6.1.1 r6.2.2.2.2.1 r7 (0:Int) r6.2.1 r6.2.2.2.1 ([]:List Z3)).bind fun r12=>
 match r12 with
 | .inl r13=>(some (r13.1.1,r13.1.2))
 | .inr r14=>((zkv N r14.2.2.1 r14.2.1.2.2.2.2).bind fun r15=>
 (zce N r15 r14.1.1).bind fun r16=>
 some (r16,(0:Int)))))
def z0e(N n:Nat):(List Z7)->Int->Z0->(List Z0)->Option (((List Z3)×Int)):=
 itF (fun _ _ _ _=>none) (z4q N) n
theorem zdl(N n:Nat):z0e N (n+1)=z4q N (z0e N n):=rfl
def y2j(N:Nat):(List Z7)->Int->Z0->(List Z0)->Option (((List Z3)×Int)):=
 z0e N N
def zm7(N:Nat)(a0:Y6)(a1:Z0):Option (((List Z3)×Int)):=
 (y2j N a0.1 a0.2.1 (([]:List UInt8),([]:List UInt8)) ([a1]:List Z0)).bind fun r1=>
 some (r1.1,r1.2)
def z6r(N:Nat)(a0:Z1):Option (Bool):=
 bif (eqi a0.1 (4:Int))then
 (some true)
 else
 (some (eqi a0.1 (5:Int)))
def z3z(N:Nat)(rec:(List Z3)->Int->Z1->(List Z1)->Option (((Unit×Unit)×(Z1×((List Z1)×Unit)))))(b0:(List Z3))(b1:Int)(b2:Z1)(b3:(List Z1)):Option (((Unit×Unit)×(Z1×((List Z1)×Unit)))):=
 bif (decide (b1<(b0.length:Int)))then
 (gd (inB b1 (b0.length))
 (gd (decide (0<=(b2.2.2.2.2.1.length:Int))&&(decide ((b2.2.2.2.2.1.length:Int)<=(ap ((rdL b0 b1 X6).1):Int))&&decide ((ap ((rdL b0 b1 X6).1):Int)<=(ap ((rdL b0 b1 X6).1):Int))))
 (let x4:=(cut2 ((rdL b0 b1 X6).1) (b2.2.2.2.2.1.length:Int) (ap ((rdL b0 b1 X6).1):Int))
 gd (decide (b2.2.2.2.2.2.1.length+x4.length<maxS))
 (let x5:=(b2.2.2.2.2.2.1++x4)
 let x6:=([((1:Int),(x5,(((rdL b0 b1 X6).2).1,((([]:List UInt8),([]:List UInt8)),(([]:List UInt8),(([]:List UInt8),((rdL b0 b1 X6).2).2))))))]:List Z1)
 gd (fits (b3.length+x6.length) 112)
 (let x7:=(b3++x6)
 rec b0 (aa .i64 (b1+(1:Int))) b2 x7)))))
 else
 (some (((),()),(b2,(b3,()))))
def zan(N:Nat)(n:Nat):=
 itF (fun _ _ _ _=>none) (z3z N) n
theorem zh5(N:Nat)(n:Nat):zan N (n+1)=z3z N (zan N n):=rfl
def zmb(N:Nat)(a0:Z1)(a1:(List Z3)):Option ((List Z1)):=
 (z6r N a0).bind fun r1=>
 bif (!r1)then
 (some ([a0]:List Z1))
 else
 ((U8 N a0.2.2.2.2.2.1).bind fun r2=>
 let x3:=([((3:Int),(([]:List UInt8),(([]:List UInt8),(r2,(([]:List UInt8),(([]:List UInt8),(0:Int)))))))]:List Z1)
 (zan N N a1 (0:Int) a0 x3).bind fun r8=>
 bif (eqi r8.2.1.1 (4:Int))then
 ((U8 N r8.2.1.2.2.2.2.1).bind fun r9=>
 let x10:=([((3:Int),(([]:List UInt8),(([]:List UInt8),(r9,(([]:List UInt8),(([]:List UInt8),(0:Int)))))))]:List Z1)
 gd (fits (r8.2.2.1.length+x10.length) 112)
 (let x11:=(r8.2.2.1++x10)
 some x11))
 else
 (some r8.2.2.1))
def zma(N:Nat)(a0:(List Z1))(a1:(List Z3)):Option (((List Z1)×Int)):=
 bif (eqi (a0.length:Int) (0:Int))then
 (some (([]:List Z1),(50:Int)))
 else
 (gd (inB (0:Int) (a0.length))
 ((z6r N (rdL a0 (0:Int) Q7)).bind fun r1=>
 bif (!r1)then
 (some (([]:List Z1),(50:Int)))
 else
 (gd (inB (0:Int) (a0.length))
 ((zmb N (rdL a0 (0:Int) Q7) a1).bind fun r2=>
 gd (decide (0<=(1:Int))&&(decide ((1:Int)<=(a0.length:Int))&&decide ((a0.length:Int)<=(a0.length:Int))))
 (gd (fits (r2.length+ap (cut2 a0 (1:Int) (a0.length:Int))) 112)
 (let x3:=(r2++(cut2 a0 (1:Int) (a0.length:Int)))
 some (x3,(0:Int))))))))
def z11(N:Nat)(rec:Int->Y6->Z6->(List Z3)->Option ypk)(b0:Int)(b1:Y6)(b2:Z6)(b3:(List Z3)):Option ypk:=
 bif (decide (b0<(b2.2.2.1.length:Int)))then
 (gd (inB b0 (b2.2.2.1.length))
 (gd (inB (0:Int) (b2.2.2.2.2.length))
 (let x1:=(((((rdL b2.2.2.2.2 (0:Int) Q7).2).2).2).2).1
 (U8 N x1).bind fun r2=>
 (zm7 N (b1.1,((rdL b2.2.2.1 b0 (0:Int)),b1.2.2)) r2).bind fun r3=>
 bif (!(eqi r3.2 (0:Int)))then
 (some (.inl (((),r3.2),(b2,()))))
 else
 (gd (fits (b3.length+r3.1.length) 40)
 (let x4:=(b3++r3.1)
 rec (aa .i64 (b0+(1:Int))) b1 b2 x4)))))
 else
 (some (.inr (((),((),())),(b2,((),(b3,()))))))
def z1v(N:Nat)(n:Nat):=
 itF (fun _ _ _ _=>none) (z11 N) n
theorem zdf(N:Nat)(n:Nat):z1v N (n+1)=z11 N (z1v N n):=rfl
def z70(N:Nat)(a0:Y6)(a1:Z6):Option ((Z6×Int)):=
 (z1v N N (0:Int) a0 a1 ([]:List Z3)).bind fun r5=>
 match r5 with
 | .inl r6=>(some (r6.2.1,r6.1.2))
 | .inr r7=>((zma N r7.2.1.2.2.2.2 r7.2.2.2.1).bind fun r8=>
 some ((r7.2.1.1,(r7.2.1.2.1,(r7.2.1.2.2.1,(r7.2.1.2.2.2.1,r8.1)))),r8.2))
def zm4(N:Nat)(a0:Y6)(a1:(List Int)):Option ((Y6×Int)):=
 (z9e N a0 a1).bind fun r1=>
 bif (!(eqi r1.2.2 (0:Int)))then
 (some (a0,r1.2.2))
 else
 (let x2:=(decide (a0.2.2.1<(r1.1.1.length:Int)))
 bif x2 then
 ((zdi N r1.1 a0.2.2).bind fun r3=>
 (zho N a0 a1 (r3.1,(r3.2.1,([]:List Z1)))).bind fun r4=>
 some (r4.1,r4.2))
 else
 (let x5:=(decide (a0.2.2.2.1<(r1.1.2.2.1.length:Int)))
 bif x5 then
 ((zj5 N r1.1 a0.2.2).bind fun r6=>
 (zho N a0 a1 r6).bind fun r7=>
 some (r7.1,r7.2))
 else
 (let x8:=(eqi (r1.1.2.2.2.2.length:Int) (0:Int))
 bif x8 then
 (some (a0,(0:Int)))
 else
 ((zm3 N r1.1).bind fun r9=>
 bif (decide ((0:Int)<r9.2))then
 ((zj4 N a0 a1 r9.1).bind fun r10=>
 some (r10.1,r10.2.2))
 else
 ((z70 N a0 r1.1).bind fun r11=>
 bif (!(eqi r11.2 (0:Int)))then
 (some (a0,r11.2))
 else
 ((zho N a0 a1 (([r11.1]:List Z6),(([]:List (List UInt8)),([]:List Z1)))).bind fun r12=>
 some (r12.1,r12.2)))))))
def z5q(N:Nat)(rec:Bool->Y6->z4f->Option ((Unit×(z4f×Unit))))(b0:Bool)(b1:Y6)(b2:z4f):Option ((Unit×(z4f×Unit))):=
 (zyz N b2.1 ([]:List Int) b0).bind fun r1=>
 bif (!r1.2)then
 (some ((),(b2,())))
 else
 ((zm4 N b2.1 r1.1).bind fun r2=>
 bif (!(eqi r2.2 (0:Int)))then
 (some ((),((b1,((0:Int),r2.2)),())))
 else
 (rec b0 b1 (r2.1,((aa .i64 (b2.2.1+(1:Int))),b2.2.2))))
def z8g(N:Nat)(n:Nat):=
 itF (fun _ _ _=>none) (z5q N) n
theorem zox(N:Nat)(n:Nat):z8g N (n+1)=z5q N (z8g N n):=rfl
def zoc(N:Nat)(a0:Y6)(a1:Bool):Option (z4f):=
 (z8g N N a1 a0 (a0,((0:Int),(0:Int)))).bind fun r3=>
 some r3.2.1
def zm5(N:Nat)(a0:Y6):Option (z4f):=
 (zoc N a0 false).bind fun r1=>
 some r1
def zsc(N:Nat)(a0:Z5)(a1:Y6):Option (Z5):=
 some (a1.1,(a1.2.2,(a0.2.2.1,(a0.2.2.2.1,(a1.2.1,a0.2.2.2.2.2)))))
def zja(N:Nat)(a0:Z1):Option ((List Z0)):=
 bif (eqi a0.1 (6:Int))then
 (some ([]:List Z0))
 else
 (match J7 N a0 with
 | some r1=>(some r1)
 | none=>none)
def z41(N:Nat)(rec:(List Z1)->Int->(List Z1)->(List Z0)->Option (((Unit×(Unit×Unit))×(Unit×((List Z1)×((List Z0)×Unit))))))(b0:(List Z1))(b1:Int)(b2:(List Z1))(b3:(List Z0)):Option (((Unit×(Unit×Unit))×(Unit×((List Z1)×((List Z0)×Unit))))):=
 bif (decide ((0:Int)<=b1))then
 (gd (inB b1 (b0.length))
 ((J7 N (rdL b0 b1 Q7)).bind fun r3=>
 (K6 N r3 b3).bind fun r4=>
 bif (eqi (r4.length:Int) (0:Int))then
 (rec b0 (aa .i64 (b1-(1:Int))) b2 b3)
 else
 (gd (fits (1+b2.length) 112)
 (let x5:=(([(rdL b0 b1 Q7)]:List Z1)++b2)
 gd (fits (0+b3.length) 32)
 (let x6:=(([]:List Z0)++b3)
 (zja N (rdL b0 b1 Q7)).bind fun r7=>
 gd (fits (x6.length+r7.length) 32)
 (let x8:=(x6++r7)
 (z6t N (rdL b0 b1 Q7)).bind fun r9=>
 (K6 N x8 r9).bind fun r10=>
 rec b0 (aa .i64 (b1-(1:Int))) x5 r10))))))
 else
 (some (((),((),())),((),(b2,(b3,())))))
def zap(N:Nat)(n:Nat):=
 itF (fun _ _ _ _=>none) (z41 N) n
theorem zh7(N:Nat)(n:Nat):zap N (n+1)=z41 N (zap N n):=rfl
def zsf(N:Nat)(a0:(List Z1))(a1:(List Z0)):Option (zo4):=
 (z1e N a1).bind fun r1=>
 let x2:=(aa .i64 ((a0.length:Int)-(1:Int)))
 (zap N N a0 x2 ([]:List Z1) r1).bind fun r11=>
 some (r11.2.2.1,r11.2.2.2.1)
def zch(N:Nat)(a0:(List Z1)):Option ((List Z1)):=
 (zsf N a0 ([]:List Z0)).bind fun r1=>
 some r1.1
def z4z(N:Nat)(rec:(List Z1)->Int->Z5->Y6->Option ypu)(b0:(List Z1))(b1:Int)(b2:Z5)(b3:Y6):Option ypu:=
 bif (decide (b1<(b0.length:Int)))then
 (gd (inB b1 (b0.length))
 ((zks N b3 (rdL b0 b1 Q7)).bind fun r2=>
 bif (!(eqi r2.2 (0:Int)))then
 (some (.inl (((),r2.2),(b2,()))))
 else
 (rec b0 (aa .i64 (b1+(1:Int))) b2 r2.1)))
 else
 (some (.inr ((b0,((),((),()))),(b2,((),(b3,()))))))
def z5d(N:Nat)(n:Nat):=
 itF (fun _ _ _ _=>none) (z4z N) n
theorem zir(N:Nat)(n:Nat):z5d N (n+1)=z4z N (z5d N n):=rfl
def zkr(N:Nat)(a0:Z5)(a1:(List Z1)):Option ((Z5×Int)):=
 (zsd N a0 (0:Int)).bind fun r1=>
 (z5d N N a1 (0:Int) a0 r1.1).bind fun r3=>
 match r3 with
 | .inl r4=>(some (r4.2.1,r4.1.2))
 | .inr r5=>((zm5 N r5.2.2.2.1).bind fun r6=>
 bif (!(eqi r6.2.2 (0:Int)))then
 (some (r5.2.1,r6.2.2))
 else
 (gd (fits (0+r5.2.1.2.2.2.2.2.2.length) 112)
 (let x7:=(([]:List Z1)++r5.2.1.2.2.2.2.2.2)
 (zsc N r5.2.1 r6.1).bind fun r8=>
 gd (fits (x7.length+r5.1.1.length) 112)
 (let x9:=(x7++r5.1.1)
 (zch N x9).bind fun r10=>
 some ((r8.1,(r8.2.1,(r8.2.2.1,(r8.2.2.2.1,(r8.2.2.2.2.1,(r8.2.2.2.2.2.1,r10)))))),(0:Int))))))
def z9n(N:Nat)(b0 b1:Int)(b2:Bool):Option (((Unit×Int)×(Unit×Unit))⊕((Int×(Int×Unit))×(Unit×Unit))):=
 bif b2 then
 (some (.inl (((),(1:Int)),((),()))))
 else
 (some (.inr ((b0,(b1,())),((),()))))
def z9o(N:Nat)(b0 b1:Int):Option (((Unit×Int)×yna)):=
 gd ((decide (0<=b1)&&decide (b1<=b1))&&(decide (b1<maxB)&&decide (b1*24<maxB)))
 (let x4:=(ar (cK b1) ([]:List Int))
 some (((),(0:Int)),((b0,((),())),(x4,(([]:List X0),())))))
def zbx(N:Nat)(a0 a1:Int):Option ((V7×Int)):=
 bif (decide (a0<(1:Int)))then
 ((z9n N a0 a1 true).bind fun r1=>
 match r1 with
 | .inl r2=>(some (((0:Int),(([]:List (List Int)),([]:List X0))),r2.1.2))
 | .inr r3=>((z9o N r3.1.1 r3.1.2.1).bind fun r5=>
 some ((r5.2.1.1,(r5.2.2.1,r5.2.2.2.1)),r5.1.2)))
 else
 (bif (decide ((65536:Int)<a0))then
 ((z9n N a0 a1 true).bind fun r6=>
 match r6 with
 | .inl r7=>(some (((0:Int),(([]:List (List Int)),([]:List X0))),r7.1.2))
 | .inr r8=>((z9o N r8.1.1 r8.1.2.1).bind fun r9=>
 some ((r9.2.1.1,(r9.2.2.1,r9.2.2.2.1)),r9.1.2)))
 else
 (bif (decide (a1<(1:Int)))then
 ((z9n N a0 a1 true).bind fun r10=>
 match r10 with
 | .inl r11=>(some (((0:Int),(([]:List (List Int)),([]:List X0))),r11.1.2))
 | .inr r12=>((z9o N r12.1.1 r12.1.2.1).bind fun r13=>
 some ((r13.2.1.1,(r13.2.2.1,r13.2.2.2.1)),r13.1.2)))
 else
 ((z9n N a0 a1 (decide ((4096:Int)<a1))).bind fun r14=>
 match r14 with
 | .inl r15=>(some (((0:Int),(([]:List (List Int)),([]:List X0))),r15.1.2))
 | .inr r16=>((z9o N r16.1.1 r16.1.2.1).bind fun r17=>
 some ((r17.2.1.1,(r17.2.2.1,r17.2.2.2.1)),r17.1.2)))))
def z4y(N:Nat)(rec:Int->Int->Int->Int->(List Bool)->(List Int)->Option (((Unit×Unit)×(Unit×yn9))))(b0 b1 b2 b3:Int)(b4:(List Bool))(b5:(List Int)):Option (((Unit×Unit)×(Unit×yn9))):=
 bif (decide (b2<b0))then
 (gd (fits (b4.length+1) 1)
 (let x4:=(b4++([(decide (b2<b1))]:List Bool))
 rec b0 b1 (aa .i64 (b2+(1:Int))) b3 x4 b5))
 else
 (some (((),()),((),(((),((),b3)),(b4,(b5,()))))))
def zca(N:Nat)(n:Nat):=
 itF (fun _ _ _ _ _ _=>none) (z4y N) n
theorem ziq(N:Nat)(n:Nat):zca N (n+1)=z4y N (zca N n):=rfl
def z9l(N:Nat)(b0 b1:Int)(b2:Bool):Option (((Unit×Int)×(Unit×Unit))⊕((Int×(Int×Unit))×(Unit×Unit))):=
 bif b2 then
 (some (.inl (((),(1:Int)),((),()))))
 else
 (some (.inr ((b0,(b1,())),((),()))))
def z9m(N:Nat)(b0 b1:Int):Option (((Unit×Int)×yn9)):=
 (zca N N b0 b1 (0:Int) (0:Int) ([]:List Bool) ([]:List Int)).bind fun r5=>
 some (((),(0:Int)),(((),((),r5.2.2.1.2.2)),(r5.2.2.2.1,(r5.2.2.2.2.1,()))))
def zpe(N:Nat)(a0 a1:Int):Option ((V4×Int)):=
 bif (decide (a0<(1:Int)))then
 ((z9l N a0 a1 true).bind fun r1=>
 match r1 with
 | .inl r2=>(some ((([]:List Bool),(([]:List Int),(0:Int))),r2.1.2))
 | .inr r3=>((z9m N r3.1.1 r3.1.2.1).bind fun r6=>
 some ((r6.2.2.1,(r6.2.2.2.1,r6.2.1.2.2)),r6.1.2)))
 else
 (bif (decide ((4096:Int)<a0))then
 ((z9l N a0 a1 true).bind fun r7=>
 match r7 with
 | .inl r8=>(some ((([]:List Bool),(([]:List Int),(0:Int))),r8.1.2))
 | .inr r9=>((z9m N r9.1.1 r9.1.2.1).bind fun r10=>
 some ((r10.2.2.1,(r10.2.2.2.1,r10.2.1.2.2)),r10.1.2)))
 else
 (bif (decide (a1<(0:Int)))then
 ((z9l N a0 a1 true).bind fun r11=>
 match r11 with
 | .inl r12=>(some ((([]:List Bool),(([]:List Int),(0:Int))),r12.1.2))
 | .inr r13=>((z9m N r13.1.1 r13.1.2.1).bind fun r14=>
 some ((r14.2.2.1,(r14.2.2.2.1,r14.2.1.2.2)),r14.1.2)))
 else
 ((z9l N a0 a1 (decide (a0<a1))).bind fun r15=>
 match r15 with
 | .inl r16=>(some ((([]:List Bool),(([]:List Int),(0:Int))),r16.1.2))
 | .inr r17=>((z9m N r17.1.1 r17.1.2.1).bind fun r18=>
 some ((r18.2.2.1,(r18.2.2.2.1,r18.2.1.2.2)),r18.1.2)))))
def z5s(N:Nat)(rec:(List Z3)->Int->Option Ty3_)(b0:(List Z3))(b1:Int):Option Ty3_:=
 bif (decide (b1<(b0.length:Int)))then
 (gd (inB (aa .i64 (b1-(1:Int))) (b0.length))
 (let x1:=(rdL b0 (aa .i64 (b1-(1:Int))) X6)
 gd (inB b1 (b0.length))
 (bif (!(lts x1.1 ((rdL b0 b1 X6).1)))then
 (some (.inl (false,())))
 else
 (rec b0 (aa .i64 (b1+(1:Int)))))))
 else
 (some (.inr ((),())))
def z8w(N:Nat)(n:Nat):=
 itF (fun _ _=>none) (z5s N) n
theorem zoy(N:Nat)(n:Nat):z8w N (n+1)=z5s N (z8w N n):=rfl
def zjb(N:Nat)(a0:(List Z3)):Option (Bool):=
 match z8w N N a0 (1:Int)with
 | some r2=>(match r2 with
 | .inl r3=>(some r3.1)
 | .inr r4=>(some true))
 | none=>none
def zl2(N:Nat)(a0 a1 a2:Int):Option (Bool):=
 bif (decide (a1<=a0))then
 (some (decide (a0<=a2)))
 else
 (some false)
def z3y(N:Nat)(rec:Int->Z6->Z0->Option Ty3_)(b0:Int)(b1:Z6)(b2:Z0):Option Ty3_:=
 bif (decide (b0<(b1.1.length:Int)))then
 (gd (inB b0 (b1.1.length))
 (match zbz N b2 ((rdL b1.1 b0 X6).1)with
 | some r5=>(bif (!r5)then
 (some (.inl (false,())))
 else
 (let x6:=(ap ((rdL b1.1 b0 X6).1):Int)
 match zl2 N x6 (1:Int) (65535:Int)with
 | some r7=>(bif (!r7)then
 (some (.inl (false,())))
 else
 (let x8:=(ap (((rdL b1.1 b0 X6).2).1):Int)
 bif (decide ((64:Int)<x8))then
 (some (.inl (false,())))
 else
 (match zl2 N (((rdL b1.1 b0 X6).2).2) (0:Int) (1000000000:Int)with
 | some r9=>(bif (!r9)then
 (some (.inl (false,())))
 else
 (rec (aa .i64 (b0+(1:Int))) b1 b2))
 | none=>none)))
 | none=>none))
 | none=>none))
 else
 (some (.inr ((),())))
def zal(N:Nat)(n:Nat):=
 itF (fun _ _ _=>none) (z3y N) n
theorem zh4(N:Nat)(n:Nat):zal N (n+1)=z3y N (zal N n):=rfl
def zm8(N:Nat)(a0:Z6)(a1:Z0):Option (Bool):=
 let x1:=(decide ((0:Int)<(a0.2.1.length:Int)))
 bif x1 then
 (some false)
 else
 (let x2:=(decide ((0:Int)<(a0.2.2.2.1.length:Int)))
 bif x2 then
 (some false)
 else
 (let x3:=(decide ((0:Int)<(a0.2.2.2.2.length:Int)))
 bif x3 then
 (some false)
 else
 (match zjb N a0.1 with
 | some r4=>(bif (!r4)then
 (some false)
 else
 (match zal N N (0:Int) a0 a1 with
 | some r10=>(match r10 with
 | .inl r11=>(some r11.1)
 | .inr r12=>(some true))
 | none=>none))
 | none=>none)))
def z0f(N:Nat)(b0:(List (List UInt8)))(b1:Int)(b2:Bool)(b3:Z0):Option ((Bool×Unit)⊕(((List (List UInt8))×(Unit×Int))×(Z0×Unit))):=
 bif b2 then
 (some (.inl (false,())))
 else
 (some (.inr ((b0,((),b1)),(b3,()))))
def z0g(N:Nat)(b0:(List (List UInt8)))(b1:Int)(b2:Z0):Option ((((List (List UInt8))×(Unit×Int))×(Z0×Unit))):=
 some ((b0,((),(aa .i64 (b1+(1:Int))))),(b2,()))
def z15(N:Nat)(rec:(List (List UInt8))->Int->Z0->Option Ty3_)(b0:(List (List UInt8)))(b1:Int)(b2:Z0):Option Ty3_:=
 bif (decide (b1<(b0.length:Int)))then
 (gd (inB b1 (b0.length))
 (let x1:=(lts (rdL b0 b1 ([]:List UInt8)) b2.1 || eqs (rdL b0 b1 ([]:List UInt8)) b2.1)
 bif x1 then
 (match z0f N b0 b1 true b2 with
 | some r2=>(match r2 with
 | .inl r3=>(some (.inl (r3.1,())))
 | .inr r4=>(match z0g N r4.1.1 r4.1.2.2 r4.2.1 with
 | some r5=>(rec r5.1.1 r5.1.2.2 r5.2.1)
 | none=>none))
 | none=>none)
 else
 (bif (!(eqs b2.2 ([]:List UInt8)))then
 (gd (inB b1 (b0.length))
 (bif (!(lts (rdL b0 b1 ([]:List UInt8)) b2.2))then
 (match z0f N b0 b1 true b2 with
 | some r6=>(match r6 with
 | .inl r7=>(some (.inl (r7.1,())))
 | .inr r8=>(match z0g N r8.1.1 r8.1.2.2 r8.2.1 with
 | some r9=>(rec r9.1.1 r9.1.2.2 r9.2.1)
 | none=>none))
 | none=>none)
 else
 (bif (decide ((0:Int)<b1))then
 (gd (inB b1 (b0.length))
 (gd (inB (aa .i64 (b1-(1:Int))) (b0.length))
 (let x10:=(rdL b0 (aa .i64 (b1-(1:Int))) ([]:List UInt8))
 let x11:=(lts (rdL b0 b1 ([]:List UInt8)) x10 || eqs (rdL b0 b1 ([]:List UInt8)) x10)
 match z0f N b0 b1 x11 b2 with
 | some r12=>(match r12 with
 | .inl r13=>(some (.inl (r13.1,())))
 | .inr r14=>(match z0g N r14.1.1 r14.1.2.2 r14.2.1 with
 | some r15=>(rec r15.1.1 r15.1.2.2 r15.2.1)
 | none=>none))
 | none=>none)))
 else
 (match z0f N b0 b1 false b2 with
 | some r16=>(match r16 with
 | .inl r17=>(some (.inl (r17.1,())))
 | .inr r18=>(match z0g N r18.1.1 r18.1.2.2 r18.2.1 with
 | some r19=>(rec r19.1.1 r19.1.2.2 r19.2.1)
 | none=>none))
 | none=>none))))
 else
 (bif (decide ((0:Int)<b1))then
 (gd (inB b1 (b0.length))
 (gd (inB (aa .i64 (b1-(1:Int))) (b0.length))
 (let x20:=(rdL b0 (aa .i64 (b1-(1:Int))) ([]:List UInt8))
 let x21:=(lts (rdL b0 b1 ([]:List UInt8)) x20 || eqs (rdL b0 b1 ([]:List UInt8)) x20)
 match z0f N b0 b1 x21 b2 with
 | some r22=>(match r22 with
 | .inl r23=>(some (.inl (r23.1,())))
 | .inr r24=>(match z0g N r24.1.1 r24.1.2.2 r24.2.1 with
 | some r25=>(rec r25.1.1 r25.1.2.2 r25.2.1)
 | none=>none))
 | none=>none)))
 else
 (match z0f N b0 b1 false b2 with
 | some r26=>(match r26 with
 | .inl r27=>(some (.inl (r27.1,())))
 | .inr r28=>(match z0g N r28.1.1 r28.1.2.2 r28.2.1 with
 | some r29=>(rec r29.1.1 r29.1.2.2 r29.2.1)
 | none=>none))
 | none=>none)))))
 else
 (some (.inr ((),())))
def z1w(N:Nat)(n:Nat):=
 itF (fun _ _ _=>none) (z15 N) n
theorem zdo(N:Nat)(n:Nat):z1w N (n+1)=z15 N (z1w N n):=rfl
def zg9(N:Nat)(a0:(List (List UInt8)))(a1:Z0):Option (Bool):=
 match z1w N N a0 (0:Int) a1 with
 | some r30=>(match r30 with
 | .inl r31=>(some r31.1)
 | .inr r32=>(some true))
 | none=>none
def zeg(N:Nat)(a0:z5k):Option (Bool):=
 bif (decide ((0:Int)<=a0.1))then
 (bif (decide (a0.1<=a0.2))then
 (some (decide (a0.2<=(1000000000000000:Int))))
 else
 (some false))
 else
 (some false)
def z17(N:Nat)(rec:Int->Z0->(List Z0)->Option Ty3_)(b0:Int)(b1:Z0)(b2:(List Z0)):Option Ty3_:=
 bif (decide (b0<(b2.length:Int)))then
 (gd (inB b0 (b2.length))
 (match zcj N b1 (rdL b2 b0 Y8)with
 | some r4=>(bif (!r4)then
 (some (.inl (false,())))
 else
 (rec (aa .i64 (b0+(1:Int))) b1 b2))
 | none=>none))
 else
 (some (.inr ((),())))
def z7h(N:Nat)(n:Nat):=
 itF (fun _ _ _=>none) (z17 N) n
theorem zdq(N:Nat)(n:Nat):z7h N (n+1)=z17 N (z7h N n):=rfl
def zga(N:Nat)(a0:Z1)(a1:Z0):Option (Bool):=
 match z6t N a0 with
 | some r1=>(match J7 N a0 with
 | some r2=>(gd (fits (r1.length+r2.length) 32)
 (let x3:=(r1++r2)
 match z7h N N (0:Int) a1 x3 with
 | some r5=>(match r5 with
 | .inl r6=>(some r6.1)
 | .inr r7=>(some true))
 | none=>none))
 | none=>none)
 | none=>none
def z2e(N:Nat)(rec:Int->Z6->Z0->Option Ty3_)(b0:Int)(b1:Z6)(b2:Z0):Option Ty3_:=
 let x12:=(decide (b0<(b1.2.2.2.2.length:Int)))
 bif x12 then
 (gd (inB b0 (b1.2.2.2.2.length))
 (match zbp N (rdL b1.2.2.2.2 b0 Q7)with
 | some r13=>(bif (!r13)then
 (some (.inl (false,())))
 else
 (gd (inB b0 (b1.2.2.2.2.length))
 (match zga N (rdL b1.2.2.2.2 b0 Q7) b2 with
 | some r14=>(bif (!r14)then
 (some (.inl (false,())))
 else
 (rec (aa .i64 (b0+(1:Int))) b1 b2))
 | none=>none)))
 | none=>none))
 else
 (some (.inr ((),())))
def z8j(N:Nat)(n:Nat):=
 itF (fun _ _ _=>none) (z2e N) n
theorem zf9(N:Nat)(n:Nat):z8j N (n+1)=z2e N (z8j N n):=rfl
def z2f(N:Nat)(rec:Int->Z6->Z0->Option ((Bool×Unit)⊕((Unit×Unit)×yf0)))(b0:Int)(b1:Z6)(b2:Z0):Option ((Bool×Unit)⊕((Unit×Unit)×yf0)):=
 bif (decide (b0<(b1.2.2.1.length:Int)))then
 (gd (inB b0 (b1.2.2.1.length))
 (match zl2 N (rdL b1.2.2.1 b0 (0:Int)) (0:Int) (4095:Int)with
 | some r6=>(bif (!r6)then
 (some (.inl (false,())))
 else
 (gd (inB b0 (b1.2.2.2.1.length))
 (match zeg N ((rdL b1.2.2.2.1 b0 z6h).1)with
 | some r7=>(bif (!r7)then
 (some (.inl (false,())))
 else
 (gd (inB b0 (b1.2.2.2.1.length))
 (match zeg N ((rdL b1.2.2.2.1 b0 z6h).2)with
 | some r8=>(bif (!r8)then
 (some (.inl (false,())))
 else
 (rec (aa .i64 (b0+(1:Int))) b1 b2))
 | none=>none)))
 | none=>none)))
 | none=>none))
 else
 (some (.inr (((),()),(b1,(b2,())))))
def z69(N:Nat)(n:Nat):=
 itF (fun _ _ _=>none) (z2f N) n
theorem zfa(N:Nat)(n:Nat):z69 N (n+1)=z2f N (z69 N n):=rfl
def zc5(N:Nat)(b0:Z6)(b1:Z0):Option ((Bool×Unit)):=
 match z69 N N (0:Int) b0 b1 with
 | some r9=>(match r9 with
 | .inl r10=>(some (r10.1,()))
 | .inr r11=>(match z8j N N (0:Int) r11.2.1 r11.2.2.1 with
 | some r15=>(match r15 with
 | .inl r16=>(some (r16.1,()))
 | .inr r17=>(some (true,())))
 | none=>none))
 | none=>none
def zj6(N:Nat)(a0:Z6)(a1:Z0):Option (Bool):=
 bif (eqi (a0.2.2.1.length:Int) (0:Int))then
 (match zm8 N a0 a1 with
 | some r1=>(some r1)
 | none=>none)
 else
 (let x2:=(decide ((0:Int)<(a0.1.length:Int)))
 bif x2 then
 (some false)
 else
 (let x3:=(!(eqi (a0.2.2.2.1.length:Int) (a0.2.2.1.length:Int)))
 bif x3 then
 (some false)
 else
 (let x4:=(aa .i64 ((a0.2.2.1.length:Int)-(1:Int)))
 bif (!(eqi (a0.2.1.length:Int) x4))then
 (some false)
 else
 (match zg9 N a0.2.1 a1 with
 | some r5=>(bif (!r5)then
 (some false)
 else
 (match zc5 N a0 a1 with
 | some r18=>(some r18.1)
 | none=>none))
 | none=>none))))
def z16(N:Nat)(rec:Int->Int->(List Int)->Option ((Unit×((List Int)×Unit))))(b0 b1:Int)(b2:(List Int)):Option ((Unit×((List Int)×Unit))):=
 bif (decide ((0:Int)<=b1))then
 (gd (decide (0<=(aa .i64 ((8:Int)*b1))))
 (let x1:=(dX b0 (2^min (cK (aa .i64 ((8:Int)*b1))) (bi .i64)))
 gd (fits (b2.length+1) 1)
 (let x2:=(b2++([(aa .u8 (x1))]:List Int))
 rec b0 (aa .i64 (b1-(1:Int))) x2)))
 else
 (some ((),(b2,())))
def z7g(N:Nat)(n:Nat):=
 itF (fun _ _ _=>none) (z16 N) n
theorem zdp(N:Nat)(n:Nat):z7g N (n+1)=z16 N (z7g N n):=rfl
def U3(N:Nat)(a0 a1:Int):Option ((List Int)):=
 match z7g N N a0 (aa .i64 (a1-(1:Int))) ([]:List Int)with
 | some r3=>(some r3.2.1)
 | none=>none
def zdn(N:Nat)(a0:(List UInt8)):Option ((List Int)):=
 match U3 N (a0.length:Int) (2:Int)with
 | some r1=>(gd (fits (r1.length+ap (z04 a0)) 1)
 (let x2:=(r1++(z04 a0))
 some x2))
 | none=>none
def z88(N:Nat)(rec:Int->Int->(List Int)->Option ((Unit×((List Int)×Unit))))(b0 b1:Int)(b2:(List Int)):Option ((Unit×((List Int)×Unit))):=
 bif (decide ((0:Int)<=b1))then
 (gd (decide (0<=(aa .i64 ((8:Int)*b1))))
 (let x1:=(dX b0 (2^min (cK (aa .i64 ((8:Int)*b1))) (bi .i64)))
 gd (fits (b2.length+1) 1)
 (let x2:=(b2++([(aa .u8 (x1))]:List Int))
 rec b0 (aa .i64 (b1-(1:Int))) x2)))
 else
 (some ((),(b2,())))
def zb0(N:Nat)(n:Nat):=
 itF (fun _ _ _=>none) (z88 N) n
theorem y9n(N:Nat)(n:Nat):zb0 N (n+1)=z88 N (zb0 N n):=rfl
def z72(N:Nat)(a0 a1:Int):Option ((List Int)):=
 match zb0 N N a0 (aa .i64 (a1-(1:Int))) ([]:List Int)with
 | some r3=>(some r3.2.1)
 | none=>none
def z2o(N:Nat)(rec:(List (List UInt8))->Int->(List Int)->Option ((Unit×((List Int)×Unit))))(b0:(List (List UInt8)))(b1:Int)(b2:(List Int)):Option ((Unit×((List Int)×Unit))):=
 bif (decide (b1<(b0.length:Int)))then
 (gd (inB b1 (b0.length))
 (let x1:=(ap (rdL b0 b1 ([]:List UInt8)):Int)
 match z72 N x1 (2:Int)with
 | some r2=>(gd (fits (b2.length+r2.length) 1)
 (let x3:=(b2++r2)
 gd (inB b1 (b0.length))
 (gd (fits (x3.length+ap (z04 (rdL b0 b1 ([]:List UInt8)))) 1)
 (let x4:=(x3++(z04 (rdL b0 b1 ([]:List UInt8))))
 rec b0 (aa .i64 (b1+(1:Int))) x4))))
 | none=>none))
 else
 (some ((),(b2,())))
def z8r(N:Nat)(n:Nat):=
 itF (fun _ _ _=>none) (z2o N) n
theorem zfi(N:Nat)(n:Nat):z8r N (n+1)=z2o N (z8r N n):=rfl
def G3(N:Nat)(a0:(List (List UInt8))):Option ((List Int)):=
 match z8r N N a0 (0:Int) ([]:List Int)with
 | some r5=>(some r5.2.1)
 | none=>none
def z06(N:Nat)(b0:Z1)(b1:(List Int)):Option ((Unit×((List Int)×Unit))):=
 bif (eqi b0.1 (1:Int))then
 (match z72 N b0.2.2.2.2.2.2 (4:Int)with
 | some r4=>(gd (fits (b1.length+r4.length) 1)
 (let x5:=(b1++r4)
 some ((),(x5,()))))
 | none=>none)
 else
 (bif (eqi b0.1 (6:Int))then
 (match z72 N b0.2.2.2.2.2.2 (4:Int)with
 | some r6=>(gd (fits (b1.length+r6.length) 1)
 (let x7:=(b1++r6)
 some ((),(x7,()))))
 | none=>none)
 else
 (some ((),(b1,()))))
def zei(N:Nat)(a0:Z1):Option ((List Int)):=
 match zbp N a0 with
 | some r1=>(bif (!r1)then
 (some ([]:List Int))
 else
 (bif (eqi a0.1 (1:Int))then
 (match G3 N ([a0.2.1,a0.2.2.1]:List (List UInt8))with
 | some r2=>(gd (fits (1+r2.length) 1)
 (let x3:=(([(aa .u8 (a0.1))]:List Int)++r2)
 match z06 N a0 x3 with
 | some r8=>(some r8.2.1)
 | none=>none))
 | none=>none)
 else
 (bif (eqi a0.1 (2:Int))then
 (match G3 N ([a0.2.1]:List (List UInt8))with
 | some r9=>(gd (fits (1+r9.length) 1)
 (let x10:=(([(aa .u8 (a0.1))]:List Int)++r9)
 match z06 N a0 x10 with
 | some r11=>(some r11.2.1)
 | none=>none))
 | none=>none)
 else
 (bif (eqi a0.1 (3:Int))then
 (let x12:=([a0.2.2.2.1.1,a0.2.2.2.1.2]:List (List UInt8))
 match G3 N x12 with
 | some r13=>(gd (fits (1+r13.length) 1)
 (let x14:=(([(aa .u8 (a0.1))]:List Int)++r13)
 match z06 N a0 x14 with
 | some r15=>(some r15.2.1)
 | none=>none))
 | none=>none)
 else
 (bif (eqi a0.1 (6:Int))then
 (let x16:=([a0.2.2.2.1.1,a0.2.2.2.1.2]:List (List UInt8))
 match G3 N x16 with
 | some r17=>(gd (fits (1+r17.length) 1)
 (let x18:=(([(aa .u8 (a0.1))]:List Int)++r17)
 match z06 N a0 x18 with
 | some r19=>(some r19.2.1)
 | none=>none))
 | none=>none)
 else
 (let x20:=([a0.2.2.2.2.1,a0.2.2.2.2.2.1]:List (List UInt8))
 match G3 N x20 with
 | some r21=>(gd (fits (1+r21.length) 1)
 (let x22:=(([(aa .u8 (a0.1))]:List Int)++r21)
 match z06 N a0 x22 with
 | some r23=>(some r23.2.1)
 | none=>none))
 | none=>none))))))
 | none=>none
def G1(N:Nat)(rec:Int->Int->Z6->(List Int)->zw6->Option (((Unit×(Unit×Int))×(Z6×((List Int)×Unit)))))(b0 b1:Int)(b2:Z6)(b3:(List Int))(b4:zw6):Option (((Unit×(Unit×Int))×(Z6×((List Int)×Unit)))):=
 bif (decide (b1<(4:Int)))then
 (bif (eqi b1 (3:Int))then
 (match U3 N b4.2.2.2 (8:Int)with
 | some r20=>(gd (fits (b3.length+r20.length) 1)
 (let x21:=(b3++r20)
 rec b0 (aa .i64 (b1+(1:Int))) b2 x21 b4))
 | none=>none)
 else
 (bif (eqi b1 (2:Int))then
 (match U3 N b4.2.2.1 (8:Int)with
 | some r22=>(gd (fits (b3.length+r22.length) 1)
 (let x23:=(b3++r22)
 rec b0 (aa .i64 (b1+(1:Int))) b2 x23 b4))
 | none=>none)
 else
 (bif (eqi b1 (1:Int))then
 (match U3 N b4.2.1 (8:Int)with
 | some r24=>(gd (fits (b3.length+r24.length) 1)
 (let x25:=(b3++r24)
 rec b0 (aa .i64 (b1+(1:Int))) b2 x25 b4))
 | none=>none)
 else
 (bif (eqi b1 (0:Int))then
 (match U3 N b4.1 (8:Int)with
 | some r26=>(gd (fits (b3.length+r26.length) 1)
 (let x27:=(b3++r26)
 rec b0 (aa .i64 (b1+(1:Int))) b2 x27 b4))
 | none=>none)
 else
 (none)))))
 else
 (some (((),((),b0)),(b2,(b3,()))))
def z1n(N:Nat)(n:Nat):=
 itF (fun _ _ _ _ _=>none) (G1 N) n
theorem z2g(N:Nat)(n:Nat):z1n N (n+1)=G1 N (z1n N n):=rfl
def z2h(N:Nat)(rec:Int->Z6->(List Int)->Option ((Unit×((List Int)×Unit))))(b0:Int)(b1:Z6)(b2:(List Int)):Option ((Unit×((List Int)×Unit))):=
 let x32:=(decide (b0<(b1.2.2.2.2.length:Int)))
 bif x32 then
 (gd (inB b0 (b1.2.2.2.2.length))
 (match zei N (rdL b1.2.2.2.2 b0 Q7)with
 | some r33=>(gd (fits (b2.length+r33.length) 1)
 (let x34:=(b2++r33)
 rec (aa .i64 (b0+(1:Int))) b1 x34))
 | none=>none))
 else
 (some ((),(b2,())))
def z8k(N:Nat)(n:Nat):=
 itF (fun _ _ _=>none) (z2h N) n
theorem zfb(N:Nat)(n:Nat):z8k N (n+1)=z2h N (z8k N n):=rfl
def z2i(N:Nat)(rec:Int->Z6->(List Int)->Option ya2)(b0:Int)(b1:Z6)(b2:(List Int)):Option ya2:=
 let x19:=(decide (b0<(b1.2.2.2.1.length:Int)))
 bif x19 then
 (gd (inB b0 (b1.2.2.2.1.length))
 (gd (inB b0 (b1.2.2.2.1.length))
 (gd (inB b0 (b1.2.2.2.1.length))
 (gd (inB b0 (b1.2.2.2.1.length))
 (match z1n N N b0 (0:Int) b1 b2 (((rdL b1.2.2.2.1 b0 z6h).1).1,(((rdL b1.2.2.2.1 b0 z6h).1).2,((rdL b1.2.2.2.1 b0 z6h).2)))with
 | some r28=>(rec (aa .i64 (r28.1.2.2+(1:Int))) r28.2.1 r28.2.2.1)
 | none=>none)))))
 else
 (some (((),()),(b1,(b2,()))))
def z8l(N:Nat)(n:Nat):=
 itF (fun _ _ _=>none) (z2i N) n
theorem zfc(N:Nat)(n:Nat):z8l N (n+1)=z2i N (z8l N n):=rfl
def z2j(N:Nat)(rec:Int->Z6->(List Int)->Option ((Unit×((List Int)×Unit))))(b0:Int)(b1:Z6)(b2:(List Int)):Option ((Unit×((List Int)×Unit))):=
 bif (decide (b0<(b1.1.length:Int)))then
 (gd (inB b0 (b1.1.length))
 (match zdn N ((rdL b1.1 b0 X6).1)with
 | some r4=>(gd (fits (b2.length+r4.length) 1)
 (let x5:=(b2++r4)
 gd (inB b0 (b1.1.length))
 (match zdn N (((rdL b1.1 b0 X6).2).1)with
 | some r6=>(gd (fits (x5.length+r6.length) 1)
 (let x7:=(x5++r6)
 gd (inB b0 (b1.1.length))
 (match U3 N (((rdL b1.1 b0 X6).2).2) (4:Int)with
 | some r8=>(gd (fits (x7.length+r8.length) 1)
 (let x9:=(x7++r8)
 rec (aa .i64 (b0+(1:Int))) b1 x9))
 | none=>none)))
 | none=>none)))
 | none=>none))
 else
 (some ((),(b2,())))
def z8m(N:Nat)(n:Nat):=
 itF (fun _ _ _=>none) (z2j N) n
theorem zfd(N:Nat)(n:Nat):z8m N (n+1)=z2j N (z8m N n):=rfl
def z2k(N:Nat)(rec:Int->Z6->(List Int)->Option ya2)(b0:Int)(b1:Z6)(b2:(List Int)):Option ya2:=
 bif (decide (b0<(b1.2.1.length:Int)))then
 (gd (inB b0 (b1.2.1.length))
 (match zdn N (rdL b1.2.1 b0 ([]:List UInt8))with
 | some r16=>(gd (fits (b2.length+r16.length) 1)
 (let x17:=(b2++r16)
 rec (aa .i64 (b0+(1:Int))) b1 x17))
 | none=>none))
 else
 (some (((),()),(b1,(b2,()))))
def z8n(N:Nat)(n:Nat):=
 itF (fun _ _ _=>none) (z2k N) n
theorem zfe(N:Nat)(n:Nat):z8n N (n+1)=z2k N (z8n N n):=rfl
def z2l(N:Nat)(rec:Int->Z6->(List Int)->Option ya2)(b0:Int)(b1:Z6)(b2:(List Int)):Option ya2:=
 bif (decide (b0<(b1.2.2.1.length:Int)))then
 (gd (inB b0 (b1.2.2.1.length))
 (match U3 N (rdL b1.2.2.1 b0 (0:Int)) (4:Int)with
 | some r13=>(gd (fits (b2.length+r13.length) 1)
 (let x14:=(b2++r13)
 rec (aa .i64 (b0+(1:Int))) b1 x14))
 | none=>none))
 else
 (some (((),()),(b1,(b2,()))))
def z8o(N:Nat)(n:Nat):=
 itF (fun _ _ _=>none) (z2l N) n
theorem zff(N:Nat)(n:Nat):z8o N (n+1)=z2l N (z8o N n):=rfl
def z5j(N:Nat)(a0:Z6):Option ((List Int)):=
 match zj6 N a0 (([]:List UInt8),([]:List UInt8))with
 | some r1=>(bif (!r1)then
 (some ([]:List Int))
 else
 (bif (eqi (a0.2.2.1.length:Int) (0:Int))then
 (match U3 N (a0.1.length:Int) (4:Int)with
 | some r2=>(gd (fits (1+r2.length) 1)
 (let x3:=(([(76:Int)]:List Int)++r2)
 match z8m N N (0:Int) a0 x3 with
 | some r10=>(some r10.2.1)
 | none=>none))
 | none=>none)
 else
 (match U3 N (a0.2.2.1.length:Int) (4:Int)with
 | some r11=>(gd (fits (1+r11.length) 1)
 (let x12:=(([(78:Int)]:List Int)++r11)
 match z8o N N (0:Int) a0 x12 with
 | some r15=>(match z8n N N (0:Int) r15.2.1 r15.2.2.1 with
 | some r18=>(match z8l N N (0:Int) r18.2.1 r18.2.2.1 with
 | some r29=>(match U3 N (r29.2.1.2.2.2.2.length:Int) (4:Int)with
 | some r30=>(gd (fits (r29.2.2.1.length+r30.length) 1)
 (let x31:=(r29.2.2.1++r30)
 match z8k N N (0:Int) r29.2.1 x31 with
 | some r35=>(some r35.2.1)
 | none=>none))
 | none=>none)
 | none=>none)
 | none=>none)
 | none=>none))
 | none=>none)))
 | none=>none
def y6(N:Nat)(rec:(List Int)->Int->Int->Option ((Int×Unit)))(b0:(List Int))(b1 b2:Int):Option ((Int×Unit)):=
 bif (decide (b2<(b0.length:Int)))then
 (gd (inB b2 (b0.length))
 (let x1:=(aa .u64 (((BitVec.ofInt (bi .u64) b1^^^BitVec.ofInt (bi .u64) (aa .u64 ((rdL b0 b2 (0:Int))))).toNat:Int)))
 let x2:=(aa .u64 (x1*(1099511628211:Int)))
 rec b0 x2 (aa .i64 (b2+(1:Int)))))
 else
 (some (b1,()))
def z6a(N:Nat)(n:Nat):=
 itF (fun _ _ _=>none) (y6 N) n
theorem z5r(N:Nat)(n:Nat):z6a N (n+1)=y6 N (z6a N n):=rfl
def y9(N:Nat)(a0:(List Int)):Option (Int):=
 match z6a N N a0 (14695981039346656037:Int) (0:Int)with
 | some r3=>(some r3.1)
 | none=>none
def zdb(N:Nat)(a0:V7)(a1:Int):Option (Bool):=
 bif (decide ((0:Int)<=a1))then
 (some (decide (a1<(a0.2.1.length:Int))))
 else
 (some false)
def z84(N:Nat)(rec:Int->(List Int)->Int->V7->Option (((List Int)×Unit)))(b0:Int)(b1:(List Int))(b2:Int)(b3:V7):Option (((List Int)×Unit)):=
 bif (decide (b2<(b3.2.2.length:Int)))then
 (gd (inB b2 (b3.2.2.length))
 (bif (!((rdL b3.2.2 b2 z1t).1))then
 (gd (inB b2 (b3.2.2.length))
 (bif (eqi (((rdL b3.2.2 b2 z1t).2).1) b0)then
 (gd (inB b2 (b3.2.2.length))
 (rec b0 (((rdL b3.2.2 b2 z1t).2).2) (aa .i64 (b2+(1:Int))) b3))
 else
 (rec b0 b1 (aa .i64 (b2+(1:Int))) b3)))
 else
 (rec b0 b1 (aa .i64 (b2+(1:Int))) b3)))
 else
 (some (b1,()))
def z6z(N:Nat)(n:Nat):=
 itF (fun _ _ _ _=>none) (z84 N) n
theorem zub(N:Nat)(n:Nat):z6z N (n+1)=z84 N (z6z N n):=rfl
def zhm(N:Nat)(a0:V7)(a1:Int):Option (((List Int)×Int)):=
 (zdb N a0 a1).bind fun r1=>
 bif (!r1)then
 (some (([]:List Int),(230:Int)))
 else
 (gd (inB a1 (a0.2.1.length))
 ((z6z N N a1 (rdL a0.2.1 a1 ([]:List Int)) (0:Int) a0).bind fun r2=>
 some (r2.1,(0:Int))))
def zly(N:Nat)(a0:Z4)(a1:Int)(a2:Z6):Option (Bool):=
 let x1:=(decide ((a0.2.2.2.2.2.1.length:Int)<=a1))
 bif x1 then
 (some false)
 else
 (gd (inB a1 (a0.2.2.2.2.2.1.length))
 (let x2:=(decide ((rdL a0.2.2.2.2.2.1 a1 (0:Int))<(0:Int)))
 bif x2 then
 (some false)
 else
 (gd (inB a1 (a0.2.2.2.2.2.1.length))
 ((zhm N a0.1 (rdL a0.2.2.2.2.2.1 a1 (0:Int))).bind fun r3=>
 (z5j N a2).bind fun r4=>
 some (eqs (zn8 r3.1) (zn8 r4))))))
def z26(N:Nat)(rec:Int->Int->V4->Option ((Int×Unit)))(b0 b1:Int)(b2:V4):Option ((Int×Unit)):=
 bif (decide (b1<(b2.1.length:Int)))then
 (gd (inB b1 (b2.1.length))
 (bif (!(rdL b2.1 b1 false))then
 (rec (aa .i64 (b0+(1:Int))) (aa .i64 (b1+(1:Int))) b2)
 else
 (rec b0 (aa .i64 (b1+(1:Int))) b2)))
 else
 (some (b0,()))
def z8e(N:Nat)(n:Nat):=
 itF (fun _ _ _=>none) (z26 N) n
theorem zf3(N:Nat)(n:Nat):z8e N (n+1)=z26 N (z8e N n):=rfl
def zoa(N:Nat)(a0:V4):Option (Int):=
 (z8e N N (0:Int) (0:Int) a0).bind fun r1=>
 some r1.1
def zsb(N:Nat)(a0:V4):Option (Int):=
 (zoa N a0).bind fun r1=>
 some (aa .i64 (r1-a0.2.2))
def z25(N:Nat)(rec:Int->V4->(List Bool)->Option ypt)(b0:Int)(b1:V4)(b2:(List Bool)):Option ypt:=
 bif (decide (b0<(b2.length:Int)))then
 (gd (inB b0 (b2.length))
 (bif (!(rdL b2 b0 false))then
 (gd (inB b0 (b2.length))
 (some (.inl ((),(((),(b1.2.1,(b1.2.2,(b0,(0:Int))))),((setL b2 b0 true),()))))))
 else
 (rec (aa .i64 (b0+(1:Int))) b1 b2)))
 else
 (some (.inr (((),()),(b1,((),())))))
def z66(N:Nat)(n:Nat):=
 itF (fun _ _ _=>none) (z25 N) n
theorem zf2(N:Nat)(n:Nat):z66 N (n+1)=z25 N (z66 N n):=rfl
def zo9(N:Nat)(a0:V4):Option (zkb):=
 gd (fits (0+a0.1.length) 1)
 (let x1:=(([]:List Bool)++a0.1)
 (z66 N N (0:Int) a0 x1).bind fun r2=>
 match r2 with
 | .inl r3=>(some ((r3.2.2.1,(r3.2.1.2.1,r3.2.1.2.2.1)),r3.2.1.2.2.2))
 | .inr r4=>(some (r4.2.1,((0:Int),(250:Int)))))
def ref25_Take(N:Nat)(a0:V4):Option (zkb):=
 (zsb N a0).bind fun r1=>
 bif (decide (r1<(1:Int)))then
 (some (a0,((0:Int),(250:Int))))
 else
 ((zo9 N a0).bind fun r2=>
 some r2)
def z1k(N:Nat)(a0:V7):Option ((Int×((List (List Int))×(List X0)))):=
 gd (fits (0+a0.2.1.length) 24)
 (let x1:=(([]:List (List Int))++a0.2.1)
 gd (fits (0+a0.2.2.length) 40)
 (let x2:=(([]:List X0)++a0.2.2)
 some (a0.1,(x1,x2))))
def ref23_Put(N:Nat)(a0:V7)(a1:Int)(a2:(List Int)):Option ((V7×Int)):=
 (zdb N a0 a1).bind fun r1=>
 bif (!r1)then
 (some (a0,(230:Int)))
 else
 (bif (decide (a0.1<(a2.length:Int)))then
 (some (a0,(230:Int)))
 else
 ((z1k N a0).bind fun r2=>
 gd (fits (0+a2.length) 1)
 (let x3:=(([]:List Int)++a2)
 gd (fits (r2.2.2.length+1) 40)
 (let x4:=(r2.2.2++([(false,(a1,x3))]:List X0))
 some ((r2.1,(r2.2.1,x4)),(0:Int))))))
def z93(N:Nat)(a0:Z4)(a1:(List Int)):Option ((Z4×Int)):=
 (ref25_Take N a0.2.1).bind fun r1=>
 bif (!(eqi r1.2.2 (0:Int)))then
 (some (a0,(-1:Int)))
 else
 ((ref23_Put N a0.1 r1.2.1 a1).bind fun r2=>
 bif (!(eqi r2.2 (0:Int)))then
 (some (a0,(-1:Int)))
 else
 (some ((r2.1,(r1.1,a0.2.2)),r1.2.1)))
def zd6(N:Nat)(a0:Int)(a1:(List (List Int)))(a2:(List X0))(a3:(List Bool))(a4:(List Int))(a5 a6 a7 a8:Int)(a9 a10 a11 a12:(List Int)):Option (((Ty2_×Int)×((List Int)×((List Int)×Unit)))):=
 (ref25_Take N (a3,(a4,a5))).bind fun r1=>
 bif (!(eqi r1.2.2 (0:Int)))then
 (some (((a0,(a1,(a2,(a3,(a4,(a5,(a6,(a7,(a8,((),((),a9))))))))))),(-1:Int)),(a10,(a11,()))))
 else
 ((ref23_Put N (a0,(a1,a2)) r1.2.1 a12).bind fun r2=>
 bif (!(eqi r2.2 (0:Int)))then
 (some (((a0,(a1,(a2,(a3,(a4,(a5,(a6,(a7,(a8,((),((),a9))))))))))),(-1:Int)),(a10,(a11,()))))
 else
 (some (((r2.1.1,(r2.1.2.1,(r2.1.2.2,(r1.1.1,(r1.1.2.1,(r1.1.2.2,(a6,(a7,(a8,((),((),a9))))))))))),r1.2.1),(a10,(a11,())))))
def z65(N:Nat)(b0 b1 b2 b3:Int)(b4:(List (List Int)))(b5:(List X0))(b6:(List Bool))(b7:(List Int))(b8 b9 b10 b11:Int)(b12 b13 b14:(List Int))(b15:Z5)(b16:Z4)(b17:(List Int)):Option Ty8_:=
 bif (decide (b0<(b15.1.length:Int)))then
 (gd (fits (b13.length+1) 8)
 (let x16:=(b13++([b1]:List Int))
 gd (fits (b14.length+1) 8)
 (let x17:=(b14++([b2]:List Int))
 some (((),((),((),((),((),b0))))),((b3,(b4,(b5,(b6,(b7,(b8,(b9,(b10,(b11,((),((),b12))))))))))),(x16,(x17,(b15,((),(b16,(b17,())))))))))))
 else
 (some (((),((),((),((),((),b0))))),((b3,(b4,(b5,(b6,(b7,(b8,(b9,(b10,(b11,((),((),b12))))))))))),(b13,(b14,(b15,((),(b16,(b17,())))))))))
def z48(N:Nat)(b0 b1 b2:Int)(b3:Bool)(b4:Int)(b5:(List (List Int)))(b6:(List X0))(b7:(List Bool))(b8:(List Int))(b9 b10 b11 b12:Int)(b13 b14 b15:(List Int))(b16:Z5)(b17:Z4)(b18:(List Int))(b19:Z7):Option (((Unit×(Unit×(Unit×(Unit×(Unit×(Int×(Int×Int)))))))×(Ty2_×((List Int)×((List Int)×(Z5×(Unit×(Z4×((List Int)×Unit))))))))⊕((Unit×((List Int)×Bool))×(Z4×Unit))):=
 bif b3 then
 (gd (inB b0 (b17.2.2.2.2.2.1.length))
 (gd (inB b0 (b17.2.2.2.2.2.2.1.length))
 (some (.inl (((),((),((),((),((),(b0,((rdL b17.2.2.2.2.2.1 b0 (0:Int)),(rdL b17.2.2.2.2.2.2.1 b0 (0:Int))))))))),((b4,(b5,(b6,(b7,(b8,(b9,(b10,(b11,(b12,((),((),b13))))))))))),(b14,(b15,(b16,((),(b17,(b18,()))))))))))))
 else
 (bif b19.1 then
 (bif (!b19.2.1)then
 ((z5j N b19.2.2.2).bind fun r3=>
 (y9 N r3).bind fun r4=>
 (zly N b17 b0 b19.2.2.2).bind fun r5=>
 bif r5 then
 (gd (inB b0 (b17.2.2.2.2.2.1.length))
 (let x6:=(decide ((rdL b17.2.2.2.2.2.1 b0 (0:Int))<(0:Int)))
 bif x6 then
 (some (.inr (((),(([]:List Int),false)),(b17,()))))
 else
 (some (.inl (((),((),((),((),((),(b0,((rdL b17.2.2.2.2.2.1 b0 (0:Int)),r4))))))),((b4,(b5,(b6,(b7,(b8,(b9,(b10,(b11,(b12,((),((),b13))))))))))),(b14,(b15,(b16,((),(b17,(b18,()))))))))))))
 else
 ((zd6 N b4 b5 b6 b7 b8 b9 b10 b11 b12 b13 b14 b15 r3).bind fun r7=>
 bif (decide (r7.1.2<(0:Int)))then
 (some (.inr (((),(([]:List Int),false)),(b17,()))))
 else
 (some (.inl (((),((),((),((),((),(b0,(r7.1.2,r4))))))),((r7.1.1.1,(r7.1.1.2.1,(r7.1.1.2.2.1,(r7.1.1.2.2.2.1,(r7.1.1.2.2.2.2.1,(r7.1.1.2.2.2.2.2.1,(r7.1.1.2.2.2.2.2.2.1,(r7.1.1.2.2.2.2.2.2.2.1,(r7.1.1.2.2.2.2.2.2.2.2.1,((),((),r7.1.1.2.2.2.2.2.2.2.2.2.2.2))))))))))),(r7.2.1,(r7.2.2.1,(b16,((),(b17,(b18,()))))))))))))
 else
 (some (.inl (((),((),((),((),((),(b0,(b1,b2))))))),((b4,(b5,(b6,(b7,(b8,(b9,(b10,(b11,(b12,((),((),b13))))))))))),(b14,(b15,(b16,((),(b17,(b18,())))))))))))
 else
 (some (.inl (((),((),((),((),((),(b0,(b1,b2))))))),((b4,(b5,(b6,(b7,(b8,(b9,(b10,(b11,(b12,((),((),b13))))))))))),(b14,(b15,(b16,((),(b17,(b18,())))))))))))
def z49(N:Nat)(b0 b1 b2 b3:Int)(b4:(List (List Int)))(b5:(List X0))(b6:(List Bool))(b7:(List Int))(b8 b9 b10 b11:Int)(b12 b13 b14:(List Int))(b15:Z5)(b16:Z4)(b17:(List Int)):Option Ty8_:=
 let x11:=(decide (b0<(b16.2.2.2.2.2.1.length:Int)))
 bif x11 then
 (gd (inB b0 (b16.2.2.2.2.2.1.length))
 (let x12:=(decide ((0:Int)<=(rdL b16.2.2.2.2.2.1 b0 (0:Int))))
 bif x12 then
 (gd (inB b0 (b16.2.2.2.2.2.1.length))
 (let x13:=(!(eqi (rdL b16.2.2.2.2.2.1 b0 (0:Int)) b1))
 bif x13 then
 (gd (inB b0 (b16.2.2.2.2.2.1.length))
 (let x14:=([(rdL b16.2.2.2.2.2.1 b0 (0:Int))]:List Int)
 gd (fits (b17.length+x14.length) 8)
 (let x15:=(b17++x14)
 (z65 N b0 b1 b2 b3 b4 b5 b6 b7 b8 b9 b10 b11 b12 b13 b14 b15 b16 x15).bind fun r18=>
 some (((),((),((),((),((),r18.1.2.2.2.2.2))))),((r18.2.1.1,(r18.2.1.2.1,(r18.2.1.2.2.1,(r18.2.1.2.2.2.1,(r18.2.1.2.2.2.2.1,(r18.2.1.2.2.2.2.2.1,(r18.2.1.2.2.2.2.2.2.1,(r18.2.1.2.2.2.2.2.2.2.1,(r18.2.1.2.2.2.2.2.2.2.2.1,((),((),r18.2.1.2.2.2.2.2.2.2.2.2.2.2))))))))))),(r18.2.2.1,(r18.2.2.2.1,(r18.2.2.2.2.1,((),(r18.2.2.2.2.2.2.1,(r18.2.2.2.2.2.2.2.1,())))))))))))
 else
 ((z65 N b0 b1 b2 b3 b4 b5 b6 b7 b8 b9 b10 b11 b12 b13 b14 b15 b16 b17).bind fun r19=>
 some (((),((),((),((),((),r19.1.2.2.2.2.2))))),((r19.2.1.1,(r19.2.1.2.1,(r19.2.1.2.2.1,(r19.2.1.2.2.2.1,(r19.2.1.2.2.2.2.1,(r19.2.1.2.2.2.2.2.1,(r19.2.1.2.2.2.2.2.2.1,(r19.2.1.2.2.2.2.2.2.2.1,(r19.2.1.2.2.2.2.2.2.2.2.1,((),((),r19.2.1.2.2.2.2.2.2.2.2.2.2.2))))))))))),(r19.2.2.1,(r19.2.2.2.1,(r19.2.2.2.2.1,((),(r19.2.2.2.2.2.2.1,(r19.2.2.2.2.2.2.2.1,())))))))))))
 else
 ((z65 N b0 b1 b2 b3 b4 b5 b6 b7 b8 b9 b10 b11 b12 b13 b14 b15 b16 b17).bind fun r20=>
 some (((),((),((),((),((),r20.1.2.2.2.2.2))))),((r20.2.1.1,(r20.2.1.2.1,(r20.2.1.2.2.1,(r20.2.1.2.2.2.1,(r20.2.1.2.2.2.2.1,(r20.2.1.2.2.2.2.2.1,(r20.2.1.2.2.2.2.2.2.1,(r20.2.1.2.2.2.2.2.2.2.1,(r20.2.1.2.2.2.2.2.2.2.2.1,((),((),r20.2.1.2.2.2.2.2.2.2.2.2.2.2))))))))))),(r20.2.2.1,(r20.2.2.2.1,(r20.2.2.2.2.1,((),(r20.2.2.2.2.2.2.1,(r20.2.2.2.2.2.2.2.1,())))))))))))
 else
 ((z65 N b0 b1 b2 b3 b4 b5 b6 b7 b8 b9 b10 b11 b12 b13 b14 b15 b16 b17).bind fun r21=>
 some (((),((),((),((),((),r21.1.2.2.2.2.2))))),((r21.2.1.1,(r21.2.1.2.1,(r21.2.1.2.2.1,(r21.2.1.2.2.2.1,(r21.2.1.2.2.2.2.1,(r21.2.1.2.2.2.2.2.1,(r21.2.1.2.2.2.2.2.2.1,(r21.2.1.2.2.2.2.2.2.2.1,(r21.2.1.2.2.2.2.2.2.2.2.1,((),((),r21.2.1.2.2.2.2.2.2.2.2.2.2.2))))))))))),(r21.2.2.1,(r21.2.2.2.1,(r21.2.2.2.2.1,((),(r21.2.2.2.2.2.2.1,(r21.2.2.2.2.2.2.2.1,())))))))))
def z4a(N:Nat)(b0 b1:Int)(b2:(List (List Int)))(b3:(List X0))(b4:(List Bool))(b5:(List Int))(b6 b7 b8 b9:Int)(b10 b11 b12:(List Int))(b13:Z5)(b14:Z4)(b15:(List Int)):Option Ty8_:=
 some (((),((),((),((),((),(aa .i64 (b0+(1:Int)))))))),((b1,(b2,(b3,(b4,(b5,(b6,(b7,(b8,(b9,((),((),b10))))))))))),(b11,(b12,(b13,((),(b14,(b15,()))))))))
def z24(N:Nat)(rec:Int->Int->(List (List Int))->(List X0)->(List Bool)->(List Int)->Int->Int->Int->Int->(List Int)->(List Int)->(List Int)->Z5->Z4->(List Int)->Option ypx)(b0 b1:Int)(b2:(List (List Int)))(b3:(List X0))(b4:(List Bool))(b5:(List Int))(b6 b7 b8 b9:Int)(b10 b11 b12:(List Int))(b13:Z5)(b14:Z4)(b15:(List Int)):Option ypx:=
 let x1:=(bif decide ((b13.1.length:Int)<(b14.2.2.2.2.2.1.length:Int))then(b14.2.2.2.2.2.1.length:Int)else(b13.1.length:Int))
 bif (decide (b0<x1))then
 (bif (decide (b0<(b13.1.length:Int)))then
 (gd (inB b0 (b13.1.length))
 (bif (rdL b13.1 b0 X4).1 then
 (bif ((rdL b13.1 b0 X4).2).1 then
 (let x2:=(decide (b0<(b14.2.2.2.2.2.1.length:Int)))
 (z48 N b0 (-1:Int) (0:Int) x2 b1 b2 b3 b4 b5 b6 b7 b8 b9 b10 b11 b12 b13 b14 b15 (rdL b13.1 b0 X4)).bind fun r8=>
 match r8 with
 | .inl r9=>((z49 N r9.1.2.2.2.2.2.1 r9.1.2.2.2.2.2.2.1 r9.1.2.2.2.2.2.2.2 r9.2.1.1 r9.2.1.2.1 r9.2.1.2.2.1 r9.2.1.2.2.2.1 r9.2.1.2.2.2.2.1 r9.2.1.2.2.2.2.2.1 r9.2.1.2.2.2.2.2.2.1 r9.2.1.2.2.2.2.2.2.2.1 r9.2.1.2.2.2.2.2.2.2.2.1 r9.2.1.2.2.2.2.2.2.2.2.2.2.2 r9.2.2.1 r9.2.2.2.1 r9.2.2.2.2.1 r9.2.2.2.2.2.2.1 r9.2.2.2.2.2.2.2.1).bind fun r22=>
 (z4a N r22.1.2.2.2.2.2 r22.2.1.1 r22.2.1.2.1 r22.2.1.2.2.1 r22.2.1.2.2.2.1 r22.2.1.2.2.2.2.1 r22.2.1.2.2.2.2.2.1 r22.2.1.2.2.2.2.2.2.1 r22.2.1.2.2.2.2.2.2.2.1 r22.2.1.2.2.2.2.2.2.2.2.1 r22.2.1.2.2.2.2.2.2.2.2.2.2.2 r22.2.2.1 r22.2.2.2.1 r22.2.2.2.2.1 r22.2.2.2.2.2.2.1 r22.2.2.2.2.2.2.2.1).bind fun r23=>
 rec r23.1.2.2.2.2.2 r23.2.1.1 r23.2.1.2.1 r23.2.1.2.2.1 r23.2.1.2.2.2.1 r23.2.1.2.2.2.2.1 r23.2.1.2.2.2.2.2.1 r23.2.1.2.2.2.2.2.2.1 r23.2.1.2.2.2.2.2.2.2.1 r23.2.1.2.2.2.2.2.2.2.2.1 r23.2.1.2.2.2.2.2.2.2.2.2.2.2 r23.2.2.1 r23.2.2.2.1 r23.2.2.2.2.1 r23.2.2.2.2.2.2.1 r23.2.2.2.2.2.2.2.1)
 | .inr r10=>(some (.inl (((),(r10.1.2.1,r10.1.2.2)),(r10.2.1,())))))
 else
 ((z48 N b0 (-1:Int) (0:Int) false b1 b2 b3 b4 b5 b6 b7 b8 b9 b10 b11 b12 b13 b14 b15 (rdL b13.1 b0 X4)).bind fun r24=>
 match r24 with
 | .inl r25=>((z49 N r25.1.2.2.2.2.2.1 r25.1.2.2.2.2.2.2.1 r25.1.2.2.2.2.2.2.2 r25.2.1.1 r25.2.1.2.1 r25.2.1.2.2.1 r25.2.1.2.2.2.1 r25.2.1.2.2.2.2.1 r25.2.1.2.2.2.2.2.1 r25.2.1.2.2.2.2.2.2.1 r25.2.1.2.2.2.2.2.2.2.1 r25.2.1.2.2.2.2.2.2.2.2.1 r25.2.1.2.2.2.2.2.2.2.2.2.2.2 r25.2.2.1 r25.2.2.2.1 r25.2.2.2.2.1 r25.2.2.2.2.2.2.1 r25.2.2.2.2.2.2.2.1).bind fun r27=>
 (z4a N r27.1.2.2.2.2.2 r27.2.1.1 r27.2.1.2.1 r27.2.1.2.2.1 r27.2.1.2.2.2.1 r27.2.1.2.2.2.2.1 r27.2.1.2.2.2.2.2.1 r27.2.1.2.2.2.2.2.2.1 r27.2.1.2.2.2.2.2.2.2.1 r27.2.1.2.2.2.2.2.2.2.2.1 r27.2.1.2.2.2.2.2.2.2.2.2.2.2 r27.2.2.1 r27.2.2.2.1 r27.2.2.2.2.1 r27.2.2.2.2.2.2.1 r27.2.2.2.2.2.2.2.1).bind fun r28=>
 rec r28.1.2.2.2.2.2 r28.2.1.1 r28.2.1.2.1 r28.2.1.2.2.1 r28.2.1.2.2.2.1 r28.2.1.2.2.2.2.1 r28.2.1.2.2.2.2.2.1 r28.2.1.2.2.2.2.2.2.1 r28.2.1.2.2.2.2.2.2.2.1 r28.2.1.2.2.2.2.2.2.2.2.1 r28.2.1.2.2.2.2.2.2.2.2.2.2.2 r28.2.2.1 r28.2.2.2.1 r28.2.2.2.2.1 r28.2.2.2.2.2.2.1 r28.2.2.2.2.2.2.2.1)
 | .inr r26=>(some (.inl (((),(r26.1.2.1,r26.1.2.2)),(r26.2.1,()))))))
 else
 ((z48 N b0 (-1:Int) (0:Int) false b1 b2 b3 b4 b5 b6 b7 b8 b9 b10 b11 b12 b13 b14 b15 (rdL b13.1 b0 X4)).bind fun r29=>
 match r29 with
 | .inl r30=>((z49 N r30.1.2.2.2.2.2.1 r30.1.2.2.2.2.2.2.1 r30.1.2.2.2.2.2.2.2 r30.2.1.1 r30.2.1.2.1 r30.2.1.2.2.1 r30.2.1.2.2.2.1 r30.2.1.2.2.2.2.1 r30.2.1.2.2.2.2.2.1 r30.2.1.2.2.2.2.2.2.1 r30.2.1.2.2.2.2.2.2.2.1 r30.2.1.2.2.2.2.2.2.2.2.1 r30.2.1.2.2.2.2.2.2.2.2.2.2.2 r30.2.2.1 r30.2.2.2.1 r30.2.2.2.2.1 r30.2.2.2.2.2.2.1 r30.2.2.2.2.2.2.2.1).bind fun r32=>
 (z4a N r32.1.2.2.2.2.2 r32.2.1.1 r32.2.1.2.1 r32.2.1.2.2.1 r32.2.1.2.2.2.1 r32.2.1.2.2.2.2.1 r32.2.1.2.2.2.2.2.1 r32.2.1.2.2.2.2.2.2.1 r32.2.1.2.2.2.2.2.2.2.1 r32.2.1.2.2.2.2.2.2.2.2.1 r32.2.1.2.2.2.2.2.2.2.2.2.2.2 r32.2.2.1 r32.2.2.2.1 r32.2.2.2.2.1 r32.2.2.2.2.2.2.1 r32.2.2.2.2.2.2.2.1).bind fun r33=>
 rec r33.1.2.2.2.2.2 r33.2.1.1 r33.2.1.2.1 r33.2.1.2.2.1 r33.2.1.2.2.2.1 r33.2.1.2.2.2.2.1 r33.2.1.2.2.2.2.2.1 r33.2.1.2.2.2.2.2.2.1 r33.2.1.2.2.2.2.2.2.2.1 r33.2.1.2.2.2.2.2.2.2.2.1 r33.2.1.2.2.2.2.2.2.2.2.2.2.2 r33.2.2.1 r33.2.2.2.1 r33.2.2.2.2.1 r33.2.2.2.2.2.2.1 r33.2.2.2.2.2.2.2.1)
 | .inr r31=>(some (.inl (((),(r31.1.2.1,r31.1.2.2)),(r31.2.1,())))))))
 else
 ((z48 N b0 (-1:Int) (0:Int) false b1 b2 b3 b4 b5 b6 b7 b8 b9 b10 b11 b12 b13 b14 b15 (false,(false,((0:Int),(([]:List Z3),(([]:List (List UInt8)),(([]:List Int),(([]:List Y7),([]:List Z1))))))))).bind fun r34=>
 match r34 with
 | .inl r35=>((z49 N r35.1.2.2.2.2.2.1 r35.1.2.2.2.2.2.2.1 r35.1.2.2.2.2.2.2.2 r35.2.1.1 r35.2.1.2.1 r35.2.1.2.2.1 r35.2.1.2.2.2.1 r35.2.1.2.2.2.2.1 r35.2.1.2.2.2.2.2.1 r35.2.1.2.2.2.2.2.2.1 r35.2.1.2.2.2.2.2.2.2.1 r35.2.1.2.2.2.2.2.2.2.2.1 r35.2.1.2.2.2.2.2.2.2.2.2.2.2 r35.2.2.1 r35.2.2.2.1 r35.2.2.2.2.1 r35.2.2.2.2.2.2.1 r35.2.2.2.2.2.2.2.1).bind fun r37=>
 (z4a N r37.1.2.2.2.2.2 r37.2.1.1 r37.2.1.2.1 r37.2.1.2.2.1 r37.2.1.2.2.2.1 r37.2.1.2.2.2.2.1 r37.2.1.2.2.2.2.2.1 r37.2.1.2.2.2.2.2.2.1 r37.2.1.2.2.2.2.2.2.2.1 r37.2.1.2.2.2.2.2.2.2.2.1 r37.2.1.2.2.2.2.2.2.2.2.2.2.2 r37.2.2.1 r37.2.2.2.1 r37.2.2.2.2.1 r37.2.2.2.2.2.2.1 r37.2.2.2.2.2.2.2.1).bind fun r38=>
 rec r38.1.2.2.2.2.2 r38.2.1.1 r38.2.1.2.1 r38.2.1.2.2.1 r38.2.1.2.2.2.1 r38.2.1.2.2.2.2.1 r38.2.1.2.2.2.2.2.1 r38.2.1.2.2.2.2.2.2.1 r38.2.1.2.2.2.2.2.2.2.1 r38.2.1.2.2.2.2.2.2.2.2.1 r38.2.1.2.2.2.2.2.2.2.2.2.2.2 r38.2.2.1 r38.2.2.2.1 r38.2.2.2.2.1 r38.2.2.2.2.2.2.1 r38.2.2.2.2.2.2.2.1)
 | .inr r36=>(some (.inl (((),(r36.1.2.1,r36.1.2.2)),(r36.2.1,()))))))
 else
 (some (.inr (((),((),())),((b1,(b2,(b3,(b4,(b5,(b6,(b7,(b8,(b9,((),((),b10))))))))))),(b11,(b12,((),(b15,()))))))))
def z1l(N:Nat)(n:Nat):=
 itF (fun _ _ _ _ _ _ _ _ _ _ _ _ _ _ _ _=>none) (z24 N) n
theorem zf1(N:Nat)(n:Nat):z1l N (n+1)=z24 N (z1l N n):=rfl
def zed(N:Nat)(a0:Z4)(a1:Z5):Option ((Z4×((List Int)×Bool))):=
 (z1l N N (0:Int) a0.1.1 a0.1.2.1 a0.1.2.2 a0.2.1.1 a0.2.1.2.1 a0.2.1.2.2 a0.2.2.1 a0.2.2.2.1 a0.2.2.2.2.1 a0.2.2.2.2.2.2.2 ([]:List Int) ([]:List Int) a1 a0 ([]:List Int)).bind fun r39=>
 match r39 with
 | .inl r40=>(some (r40.2.1,(r40.1.2.1,r40.1.2.2)))
 | .inr r41=>(some (((r41.2.1.1,(r41.2.1.2.1,r41.2.1.2.2.1)),((r41.2.1.2.2.2.1,(r41.2.1.2.2.2.2.1,r41.2.1.2.2.2.2.2.1)),(r41.2.1.2.2.2.2.2.2.1,(r41.2.1.2.2.2.2.2.2.2.1,(r41.2.1.2.2.2.2.2.2.2.2.1,(r41.2.2.1,(r41.2.2.2.1,r41.2.1.2.2.2.2.2.2.2.2.2.2.2))))))),(r41.2.2.2.2.2.1,true)))
def z0x(N:Nat)(rec:Int->Int->(List Int)->Option ((Unit×((List Int)×Unit))))(b0 b1:Int)(b2:(List Int)):Option ((Unit×((List Int)×Unit))):=
 bif (decide ((0:Int)<=b1))then
 (gd (decide (0<=(aa .i64 ((8:Int)*b1))))
 (let x1:=(dX b0 (2^min (cK (aa .i64 ((8:Int)*b1))) (bi .u64)))
 gd (fits (b2.length+1) 1)
 (let x2:=(b2++([(aa .u8 (x1))]:List Int))
 rec b0 (aa .i64 (b1-(1:Int))) x2)))
 else
 (some ((),(b2,())))
def z77(N:Nat)(n:Nat):=
 itF (fun _ _ _=>none) (z0x N) n
theorem zd7(N:Nat)(n:Nat):z77 N (n+1)=z0x N (z77 N n):=rfl
def z38(N:Nat)(a0 a1:Int):Option ((List Int)):=
 (z77 N N a0 (aa .i64 (a1-(1:Int))) ([]:List Int)).bind fun r3=>
 some r3.2.1
def j8(N:Nat)(a0 a1:Int):Option ((List Int)):=
 (z38 N (aa .u64 (a0)) a1).bind fun r1=>
 some r1
def z3l(N:Nat)(rec:(List (List Int))->Int->(List Int)->Option ((Unit×((List Int)×Unit))))(b0:(List (List Int)))(b1:Int)(b2:(List Int)):Option ((Unit×((List Int)×Unit))):=
 bif (decide (b1<(b0.length:Int)))then
 (gd (inB b1 (b0.length))
 (gd (fits (b2.length+ap (rdL b0 b1 ([]:List Int))) 1)
 (let x1:=(b2++(rdL b0 b1 ([]:List Int)))
 rec b0 (aa .i64 (b1+(1:Int))) x1)))
 else
 (some ((),(b2,())))
def za9(N:Nat)(n:Nat):=
 itF (fun _ _ _=>none) (z3l N) n
theorem zgr(N:Nat)(n:Nat):za9 N (n+1)=z3l N (za9 N n):=rfl
def z79(N:Nat)(a0:(List (List Int))):Option ((List Int)):=
 (za9 N N a0 (0:Int) ([]:List Int)).bind fun r2=>
 some r2.2.1
def W6(N:Nat)(a0 a1:Int):Option ((List Int)):=
 (z38 N (aa .u64 (a0)) a1).bind fun r1=>
 some r1
def z0y(N:Nat)(rec:(List Z1)->Int->(List Int)->Option ((Unit×((List Int)×Unit))))(b0:(List Z1))(b1:Int)(b2:(List Int)):Option ((Unit×((List Int)×Unit))):=
 bif (decide (b1<(b0.length:Int)))then
 (gd (inB b1 (b0.length))
 ((zei N (rdL b0 b1 Q7)).bind fun r2=>
 gd (fits (b2.length+r2.length) 1)
 (let x3:=(b2++r2)
 rec b0 (aa .i64 (b1+(1:Int))) x3)))
 else
 (some ((),(b2,())))
def z78(N:Nat)(n:Nat):=
 itF (fun _ _ _=>none) (z0y N) n
theorem zd8(N:Nat)(n:Nat):z78 N (n+1)=z0y N (z78 N n):=rfl
def zc9(N:Nat)(a0:(List Z1)):Option ((List Int)):=
 (j8 N (a0.length:Int) (4:Int)).bind fun r1=>
 (z78 N N a0 (0:Int) r1).bind fun r4=>
 some r4.2.1
def z02(N:Nat)(rec:Int->Int->(List Int)->Option ((Unit×((List Int)×Unit))))(b0 b1:Int)(b2:(List Int)):Option ((Unit×((List Int)×Unit))):=
 bif (decide ((0:Int)<=b1))then
 (gd (decide (0<=(aa .i64 ((8:Int)*b1))))
 (let x1:=(dX b0 (2^min (cK (aa .i64 ((8:Int)*b1))) (bi .u64)))
 gd (fits (b2.length+1) 1)
 (let x2:=(b2++([(aa .u8 (x1))]:List Int))
 rec b0 (aa .i64 (b1-(1:Int))) x2)))
 else
 (some ((),(b2,())))
def z4x(N:Nat)(n:Nat):=
 itF (fun _ _ _=>none) (z02 N) n
theorem zbw(N:Nat)(n:Nat):z4x N (n+1)=z02 N (z4x N n):=rfl
def z64(N:Nat)(a0 a1:Int):Option ((List Int)):=
 (z4x N N a0 (aa .i64 (a1-(1:Int))) ([]:List Int)).bind fun r3=>
 some r3.2.1
def z0j(N:Nat)(rec:Int->Z5->Z4->(List Int)->Option ((Unit×((List Int)×Unit))))(b0:Int)(b1:Z5)(b2:Z4)(b3:(List Int)):Option ((Unit×((List Int)×Unit))):=
 bif (decide (b0<(b1.1.length:Int)))then
 (gd (inB b0 (b1.1.length))
 (bif (!((rdL b1.1 b0 X4).1))then
 (gd (fits (b3.length+1) 1)
 (let x21:=(b3++([(0:Int)]:List Int))
 rec (aa .i64 (b0+(1:Int))) b1 b2 x21))
 else
 (bif ((rdL b1.1 b0 X4).2).1 then
 ((W6 N ((((rdL b1.1 b0 X4).2).2).1) (4:Int)).bind fun r22=>
 gd (inB b0 (b2.2.2.2.2.2.1.length))
 (let x23:=(aa .i64 (((BitVec.ofInt (bi .i64) (rdL b2.2.2.2.2.2.1 b0 (0:Int))&&&BitVec.ofInt (bi .i64) (65535:Int)).toNat:Int)))
 (W6 N x23 (2:Int)).bind fun r24=>
 gd (inB b0 (b2.2.2.2.2.2.2.1.length))
 ((z64 N (rdL b2.2.2.2.2.2.2.1 b0 (0:Int)) (8:Int)).bind fun r25=>
 let x26:=([([(2:Int)]:List Int),r22,r24,r25]:List (List Int))
 (z79 N x26).bind fun r27=>
 gd (fits (b3.length+r27.length) 1)
 (let x28:=(b3++r27)
 rec (aa .i64 (b0+(1:Int))) b1 b2 x28))))
 else
 ((W6 N ((((rdL b1.1 b0 X4).2).2).1) (4:Int)).bind fun r29=>
 gd (inB b0 (b2.2.2.2.2.2.1.length))
 (let x30:=(aa .i64 (((BitVec.ofInt (bi .i64) (rdL b2.2.2.2.2.2.1 b0 (0:Int))&&&BitVec.ofInt (bi .i64) (65535:Int)).toNat:Int)))
 (W6 N x30 (2:Int)).bind fun r31=>
 gd (inB b0 (b2.2.2.2.2.2.2.1.length))
 ((z64 N (rdL b2.2.2.2.2.2.2.1 b0 (0:Int)) (8:Int)).bind fun r32=>
 let x33:=([([(1:Int)]:List Int),r29,r31,r32]:List (List Int))
 (z79 N x33).bind fun r34=>
 gd (fits (b3.length+r34.length) 1)
 (let x35:=(b3++r34)
 rec (aa .i64 (b0+(1:Int))) b1 b2 x35)))))))
 else
 (some ((),(b3,())))
def z3a(N:Nat)(n:Nat):=
 itF (fun _ _ _ _=>none) (z0j N) n
theorem zcp(N:Nat)(n:Nat):z3a N (n+1)=z0j N (z3a N n):=rfl
def z0k(N:Nat)(rec:Int->Z5->Z4->(List Int)->Option (((Unit×(Unit×Unit))×(Z5×(Z4×((List Int)×Unit))))))(b0:Int)(b1:Z5)(b2:Z4)(b3:(List Int)):Option (((Unit×(Unit×Unit))×(Z5×(Z4×((List Int)×Unit))))):=
 bif (decide (b0<(b1.2.2.1.length:Int)))then
 (gd (inB b0 (b1.2.2.1.length))
 ((W6 N ((rdL b1.2.2.1 b0 X1).1) (4:Int)).bind fun r8=>
 (W6 N (((rdL b1.2.2.1 b0 X1).2).1) (4:Int)).bind fun r9=>
 (W6 N ((((rdL b1.2.2.1 b0 X1).2).2).1) (2:Int)).bind fun r10=>
 let x11:=(ap (((((rdL b1.2.2.1 b0 X1).2).2).2).1):Int)
 (W6 N x11 (1:Int)).bind fun r12=>
 gd (decide (ap (((((rdL b1.2.2.1 b0 X1).2).2).2).1)<maxB))
 (let x13:=(z04 (((((rdL b1.2.2.1 b0 X1).2).2).2).1))
 (zc9 N (((((rdL b1.2.2.1 b0 X1).2).2).2).2)).bind fun r14=>
 let x15:=([r8,r9,r10,r12,x13,r14]:List (List Int))
 (z79 N x15).bind fun r16=>
 gd (fits (b3.length+r16.length) 1)
 (let x17:=(b3++r16)
 rec (aa .i64 (b0+(1:Int))) b1 b2 x17))))
 else
 (some (((),((),())),(b1,(b2,(b3,())))))
def z5x(N:Nat)(n:Nat):=
 itF (fun _ _ _ _=>none) (z0k N) n
theorem zcq(N:Nat)(n:Nat):z5x N (n+1)=z0k N (z5x N n):=rfl
def zda(N:Nat)(a0:Z5)(a1:Z4):Option ((List Int)):=
 let x1:=([(67:Int),(aa .u8 (a0.2.1.1)),(aa .u8 (a0.2.1.2.1)),(aa .u8 (a0.2.1.2.2))]:List Int)
 (W6 N a0.2.2.2.1 (4:Int)).bind fun r2=>
 (W6 N a0.2.2.2.2.2.1 (4:Int)).bind fun r3=>
 (W6 N a0.2.2.2.2.1 (2:Int)).bind fun r4=>
 (zc9 N a0.2.2.2.2.2.2).bind fun r5=>
 (W6 N (a0.2.2.1.length:Int) (1:Int)).bind fun r6=>
 (z79 N ([x1,r2,r3,r4,r5,r6]:List (List Int))).bind fun r7=>
 (z5x N N (0:Int) a0 a1 r7).bind fun r18=>
 (W6 N (r18.2.1.1.length:Int) (2:Int)).bind fun r19=>
 gd (fits (r18.2.2.2.1.length+r19.length) 1)
 (let x20:=(r18.2.2.2.1++r19)
 (z3a N N (0:Int) r18.2.1 r18.2.2.1 x20).bind fun r36=>
 some r36.2.1)
def z4n(N:Nat)(rec:(List Int)->Int->(List (List Int))->Option ((((List Int)×Unit)×((List (List Int))×Unit))))(b0:(List Int))(b1:Int)(b2:(List (List Int))):Option ((((List Int)×Unit)×((List (List Int))×Unit))):=
 bif (decide (b1<(b0.length:Int)))then
 (gd (decide (0<=(0:Int))&&(decide ((0:Int)<=b1)&&decide (b1<=(b0.length:Int))))
 (gd (fits (b2.length+1) 24)
 (let x1:=(b2++([(cut2 b0 (0:Int) b1)]:List (List Int)))
 gd (decide (0<=b1)&&(decide (b1<=(b0.length:Int))&&decide ((b0.length:Int)<=(b0.length:Int))))
 (rec (cut2 b0 b1 (b0.length:Int)) b1 x1))))
 else
 (some ((b0,()),(b2,())))
def z7a(N:Nat)(n:Nat):=
 itF (fun _ _ _=>none) (z4n N) n
theorem zn4(N:Nat)(n:Nat):z7a N (n+1)=z4n N (z7a N n):=rfl
def zg3(N:Nat)(a0:(List Int))(a1:Int):Option ((List (List Int))):=
 (z7a N N a0 a1 ([]:List (List Int))).bind fun r2=>
 gd (fits (r2.2.1.length+1) 24)
 (let x3:=(r2.2.1++([r2.1.1]:List (List Int)))
 some x3)
def z94(N:Nat)(a0:V7):Option (V7):=
 (z1k N a0).bind fun r1=>
 let x2:=([(true,((0:Int),([]:List Int)))]:List X0)
 gd (fits (r1.2.2.length+x2.length) 40)
 (let x3:=(r1.2.2++x2)
 some (r1.1,(r1.2.1,x3)))
def z0i(N:Nat)(rec:(List Int)->Int->(List Int)->Option ((Unit×((List Int)×Unit))))(b0:(List Int))(b1:Int)(b2:(List Int)):Option ((Unit×((List Int)×Unit))):=
 bif (decide (b1<(b0.length:Int)))then
 (gd (inB b1 (b0.length))
 ((j8 N (rdL b0 b1 (0:Int)) (2:Int)).bind fun r8=>
 gd (fits (b2.length+r8.length) 1)
 (let x9:=(b2++r8)
 rec b0 (aa .i64 (b1+(1:Int))) x9)))
 else
 (some ((),(b2,())))
def z5w(N:Nat)(n:Nat):=
 itF (fun _ _ _=>none) (z0i N) n
theorem zco(N:Nat)(n:Nat):z5w N (n+1)=z0i N (z5w N n):=rfl
def zd9(N:Nat)(a0:Int)(a1 a2:(List Int)):Option ((List Int)):=
 (j8 N a0 (4:Int)).bind fun r1=>
 (j8 N (a1.length:Int) (4:Int)).bind fun r2=>
 (y9 N a1).bind fun r3=>
 (z38 N r3 (8:Int)).bind fun r4=>
 (j8 N (a2.length:Int) (2:Int)).bind fun r5=>
 let x6:=([([(83:Int)]:List Int),r1,r2,r4,r5]:List (List Int))
 (z79 N x6).bind fun r7=>
 (z5w N N a2 (0:Int) r7).bind fun r10=>
 (y9 N r10.2.1).bind fun r11=>
 (z38 N r11 (8:Int)).bind fun r12=>
 gd (fits (r10.2.1.length+r12.length) 1)
 (let x13:=(r10.2.1++r12)
 some x13)
def zc2(N:Nat)(rec:(List Int)->Int->Int->Option Ty3_)(b0:(List Int))(b1 b2:Int):Option Ty3_:=
 bif (decide (b2<(b0.length:Int)))then
 (gd (inB b2 (b0.length))
 (bif (eqi (rdL b0 b2 (0:Int)) b1)then
 (some (.inl (true,())))
 else
 (rec b0 b1 (aa .i64 (b2+(1:Int))))))
 else
 (some (.inr ((),())))
def zg4(N:Nat)(n:Nat):=
 itF (fun _ _ _=>none) (zc2 N) n
theorem yf8(N:Nat)(n:Nat):zg4 N (n+1)=zc2 N (zg4 N n):=rfl
def y6x(N:Nat)(a0:(List Int))(a1:Int):Option (Bool):=
 (zg4 N N a0 a1 (0:Int)).bind fun r1=>
 match r1 with
 | .inl r2=>(some r2.1)
 | .inr r3=>(some false)
def zaa(N:Nat)(b0:Int)(b1:Bool)(b2:V4):Option (((Unit×Int)×(V4×Unit))⊕((Int×(Unit×Unit))×(V4×(Unit×Unit)))):=
 bif b1 then
 (some (.inl (((),(230:Int)),(b2,()))))
 else
 (some (.inr ((b0,((),())),(b2,((),())))))
def zab(N:Nat)(b0:Int)(b1:V4):Option (((Unit×Int)×(((List Bool)×(Unit×Int))×((List Int)×Unit)))):=
 gd (fits (0+b1.2.1.length) 8)
 (let x4:=(([]:List Int)++b1.2.1)
 gd (fits (x4.length+1) 8)
 (let x5:=(x4++([b0]:List Int))
 some (((),(0:Int)),((b1.1,((),b1.2.2)),(x5,())))))
def y2i(N:Nat)(a0:V4)(a1:Int):Option ((V4×Int)):=
 bif (decide (a1<(0:Int)))then
 ((zaa N a1 true a0).bind fun r1=>
 match r1 with
 | .inl r2=>(some (r2.2.1,r2.1.2))
 | .inr r3=>((zab N r3.1.1 r3.2.1).bind fun r6=>
 some ((r6.2.1.1,(r6.2.2.1,r6.2.1.2.2)),r6.1.2)))
 else
 (bif (decide ((a0.1.length:Int)<=a1))then
 ((zaa N a1 true a0).bind fun r7=>
 match r7 with
 | .inl r8=>(some (r8.2.1,r8.1.2))
 | .inr r9=>((zab N r9.1.1 r9.2.1).bind fun r10=>
 some ((r10.2.1.1,(r10.2.2.1,r10.2.1.2.2)),r10.1.2)))
 else
 (gd (inB a1 (a0.1.length))
 (bif (!(rdL a0.1 a1 false))then
 ((zaa N a1 true a0).bind fun r11=>
 match r11 with
 | .inl r12=>(some (r12.2.1,r12.1.2))
 | .inr r13=>((zab N r13.1.1 r13.2.1).bind fun r14=>
 some ((r14.2.1.1,(r14.2.2.1,r14.2.1.2.2)),r14.1.2)))
 else
 ((y6x N a0.2.1 a1).bind fun r15=>
 (zaa N a1 r15 a0).bind fun r16=>
 match r16 with
 | .inl r17=>(some (r17.2.1,r17.1.2))
 | .inr r18=>((zab N r18.1.1 r18.2.1).bind fun r19=>
 some ((r19.2.1.1,(r19.2.2.1,r19.2.1.2.2)),r19.1.2))))))
def z4o(N:Nat)(rec:Int->V4->(List Bool)->Option (((Unit×(Unit×Unit))×(V4×(Unit×((List Bool)×Unit))))))(b0:Int)(b1:V4)(b2:(List Bool)):Option (((Unit×(Unit×Unit))×(V4×(Unit×((List Bool)×Unit))))):=
 bif (decide (b0<(b1.2.1.length:Int)))then
 (gd (inB b0 (b1.2.1.length))
 (gd (inB (rdL b1.2.1 b0 (0:Int)) (b2.length))
 (rec (aa .i64 (b0+(1:Int))) b1 (setL b2 (rdL b1.2.1 b0 (0:Int)) false))))
 else
 (some (((),((),())),(b1,((),(b2,())))))
def z1u(N:Nat)(n:Nat):=
 itF (fun _ _ _=>none) (z4o N) n
theorem zn5(N:Nat)(n:Nat):z1u N (n+1)=z4o N (z1u N n):=rfl
def zcb(N:Nat)(a0:V4):Option (V4):=
 gd (fits (0+a0.1.length) 1)
 (let x1:=(([]:List Bool)++a0.1)
 (z1u N N (0:Int) a0 x1).bind fun r2=>
 some (r2.2.2.2.1,(([]:List Int),r2.2.1.2.2)))
def z6i(N:Nat)(rec:(List Int)->Int->Z4->(List Int)->Option (((Unit×(Unit×(List Int)))×(Z4×(Unit×Unit)))))(b0:(List Int))(b1:Int)(b2:Z4)(b3:(List Int)):Option (((Unit×(Unit×(List Int)))×(Z4×(Unit×Unit)))):=
 bif (decide (b1<(b3.length:Int)))then
 (gd (inB b1 (b3.length))
 ((y2i N b2.2.1 (rdL b3 b1 (0:Int))).bind fun r16=>
 rec b0 (aa .i64 (b1+(1:Int))) (b2.1,(r16.1,b2.2.2)) b3))
 else
 (some (((),((),b0)),(b2,((),()))))
def z5l(N:Nat)(n:Nat):=
 itF (fun _ _ _ _=>none) (z6i N) n
theorem zs3(N:Nat)(n:Nat):z5l N (n+1)=z6i N (z5l N n):=rfl
def z3m(N:Nat)(rec:(List Int)->(List Int)->Int->Z4->Z4->(List (List Int))->(List Int)->Option ypy)(b0 b1:(List Int))(b2:Int)(b3 b4:Z4)(b5:(List (List Int)))(b6:(List Int)):Option ypy:=
 bif (decide (b2<(b5.length:Int)))then
 (gd (inB b2 (b5.length))
 ((z93 N b3 (rdL b5 b2 ([]:List Int))).bind fun r4=>
 bif (decide (r4.2<(0:Int)))then
 (some (.inl ((),((b4,(250:Int)),()))))
 else
 (gd (fits (b6.length+1) 8)
 (let x5:=(b6++([r4.2]:List Int))
 rec b0 b1 (aa .i64 (b2+(1:Int))) r4.1 b4 b5 x5))))
 else
 (some (.inr (((),((),((),(b0,(b1,()))))),(b3,((),(b4,(b6,())))))))
def z7r(N:Nat)(n:Nat):=
 itF (fun _ _ _ _ _ _ _=>none) (z3m N) n
theorem zgs(N:Nat)(n:Nat):z7r N (n+1)=z3m N (z7r N n):=rfl
def zi2(N:Nat)(a0:Z4)(a1:Z5):Option (ze3):=
 (zed N a0 a1).bind fun r1=>
 bif (!r1.2.2)then
 (some (a0,(250:Int)))
 else
 ((zda N a1 r1.1).bind fun r2=>
 (zg3 N r2 r1.1.1.1).bind fun r3=>
 (z7r N N r1.2.1 r2 (0:Int) r1.1 a0 r3 ([]:List Int)).bind fun r6=>
 match r6 with
 | .inl r7=>(some r7.2.1)
 | .inr r8=>(let x9:=(aa .i64 (r8.2.2.2.1.2.2.2.1+(1:Int)))
 (z94 N r8.2.1.1).bind fun r10=>
 (zd9 N x9 r8.1.2.2.2.2.1 r8.2.2.2.2.1).bind fun r11=>
 (ref23_Put N r10 (aJ x9 (2:Int)) r11).bind fun r12=>
 bif (!(eqi r12.2 (0:Int)))then
 (some (r8.2.2.2.1,(250:Int)))
 else
 ((z94 N r12.1).bind fun r13=>
 gd (fits (0+r8.1.2.2.2.1.length) 8)
 (let x14:=(([]:List Int)++r8.1.2.2.2.1)
 gd (fits (x14.length+r8.2.2.2.1.2.2.2.2.2.2.2.length) 8)
 (let x15:=(x14++r8.2.2.2.1.2.2.2.2.2.2.2)
 (z5l N N r8.2.2.2.2.1 (0:Int) (r13,(r8.2.1.2.1,(r8.2.1.2.2.1,(x9,((0:Int),r8.2.1.2.2.2.2.2))))) x15).bind fun r17=>
 (zcb N r17.2.1.2.1).bind fun r18=>
 some ((r17.2.1.1,(r18,(r17.2.1.2.2.1,(r17.2.1.2.2.2.1,(r17.2.1.2.2.2.2.1,(r17.2.1.2.2.2.2.2.1,(r17.2.1.2.2.2.2.2.2.1,r17.1.2.2))))))),(0:Int)))))))
def zpd(N:Nat)(a0:V7)(a1:Int)(a2:Z5):Option (ze3):=
 bif (decide (a1<(0:Int)))then
 (some ((((0:Int),(([]:List (List Int)),([]:List X0))),((([]:List Bool),(([]:List Int),(0:Int))),((0:Int),((0:Int),((0:Int),(([]:List Int),(([]:List Int),([]:List Int)))))))),(1:Int)))
 else
 (let x1:=(aa .i64 ((a0.2.1.length:Int)-(2:Int)))
 bif (decide (x1<=a1))then
 (some ((((0:Int),(([]:List (List Int)),([]:List X0))),((([]:List Bool),(([]:List Int),(0:Int))),((0:Int),((0:Int),((0:Int),(([]:List Int),(([]:List Int),([]:List Int)))))))),(1:Int)))
 else
 ((zpe N (a0.2.1.length:Int) (aa .i64 ((2:Int)+a1))).bind fun r2=>
 (zi2 N (a0,(r2.1,(a1,((0:Int),((0:Int),(([]:List Int),(([]:List Int),([]:List Int)))))))) a2).bind fun r3=>
 bif (!(eqi r3.2 (0:Int)))then
 (some ((((0:Int),(([]:List (List Int)),([]:List X0))),((([]:List Bool),(([]:List Int),(0:Int))),((0:Int),((0:Int),((0:Int),(([]:List Int),(([]:List Int),([]:List Int)))))))),r3.2))
 else
 (some r3)))
def zqf(N:Nat):Option (z09):=
 (zkq N ((2:Int),((2:Int),(1:Int)))).bind fun r1=>
 let x2:=([((1:Int),(([97]:List UInt8),(([]:List UInt8),((([]:List UInt8),([]:List UInt8)),(([]:List UInt8),(([]:List UInt8),(0:Int))))))),((1:Int),(([98]:List UInt8),(([]:List UInt8),((([]:List UInt8),([]:List UInt8)),(([]:List UInt8),(([]:List UInt8),(0:Int))))))),((1:Int),(([99]:List UInt8),(([]:List UInt8),((([]:List UInt8),([]:List UInt8)),(([]:List UInt8),(([]:List UInt8),(0:Int)))))))]:List Z1)
 (zkr N r1.1 x2).bind fun r3=>
 (zbx N (1500:Int) (20:Int)).bind fun r4=>
 (zpd N r4.1 (1:Int) r3.1).bind fun r5=>
 some (r5.1,(r3.1,(0:Int)))
def zpj(N:Nat)(a0:(List Z7))(a1:Int):Option (Bool):=
 bif (decide ((0:Int)<=a1))then
 (bif (decide (a1<(a0.length:Int)))then
 (gd (inB a1 (a0.length))
 (some ((rdL a0 a1 X4).1)))
 else
 (some false))
 else
 (some false)
def zb1(N:Nat)(a0:Int)(a1:(List Int)):Option ((Unit×(Unit×((List Int)×Unit)))):=
 gd (fits (a1.length+1) 8)
 (let x1:=(a1++([a0]:List Int))
 some ((),((),(x1,()))))
def u9(N:Nat)(self:Int->(List Z7)->(List Int)->Bool->(List Int)->Option Ty1_)(rec:Int->(List Int)->Int->Int->(List Int)->(List Z7)->Bool->(List Int)->Option ypw)(b0:Int)(b1:(List Int))(b2 b3:Int)(b4:(List Int))(b5:(List Z7))(b6:Bool)(b7:(List Int)):Option ypw:=
 bif (decide (b3<b2))then
 (gd (inB b3 (b1.length))
 (match self (rdL b1 b3 (0:Int)) b5 b4 b6 b7 with
 | some r3=>(rec b0 b1 b2 (aa .i64 (b3+(1:Int))) r3.2.2.2.1 r3.2.1 r3.2.2.2.2.1 r3.2.2.2.2.2.2.2.2.1)
 | none=>none))
 else
 (some ((b0,((),())),((),(b4,((),((),(b7,(b5,(b6,(((),((),((),((),())))),()))))))))))
def z0t(N:Nat)(self:Int->(List Z7)->(List Int)->Bool->(List Int)->Option Ty1_)(n:Nat):=
 itF (fun _ _ _ _ _ _ _ _=>none) (u9 N self) n
theorem zb4(N:Nat)(self:Int->(List Z7)->(List Int)->Bool->(List Int)->Option Ty1_)(n:Nat):z0t N self (n+1)=u9 N self (z0t N self n):=rfl
def z1g(N:Nat)(self:Int->(List Z7)->(List Int)->Bool->(List Int)->Option Ty1_)(a0:Int)(a1:(List Z7))(a2:(List Int))(a3:Bool)(a4:(List Int)):Option Ty1_:=
 match zpj N a1 a0 with
 | some r1=>(bif (!r1)then
 (some ((),(a1,((),(a2,(a3,(((),((),((),((),())))),((),((),(a4,()))))))))))
 else
 (gd (inB a0 (a2.length))
 (bif (eqi (rdL a2 a0 (0:Int)) (2:Int))then
 (some ((),(a1,((),(a2,(a3,(((),((),((),((),())))),((),((),(a4,()))))))))))
 else
 (gd (inB a0 (a2.length))
 (bif (eqi (rdL a2 a0 (0:Int)) (1:Int))then
 (some ((),(a1,((),(a2,(false,(((),((),((),((),())))),((),((),(a4,()))))))))))
 else
 (gd (inB a0 (a2.length))
 (gd (inB a0 (a1.length))
 (let x2:=(ap (((((((rdL a1 a0 X4).2).2).2).2).2).1):Int)
 match z0t N self N a0 (((((((rdL a1 a0 X4).2).2).2).2).2).1) x2 (0:Int) (setL a2 a0 (1:Int)) a1 a3 a4 with
 | some r4=>(gd (inB r4.1.1 (r4.2.2.1.length))
 (match zb1 N r4.1.1 r4.2.2.2.2.2.1 with
 | some r5=>(some ((),(r4.2.2.2.2.2.2.1,((),((setL r4.2.2.1 r4.1.1 (2:Int)),(r4.2.2.2.2.2.2.2.1,(((),((),((),((),())))),((),((),(r5.2.2.1,()))))))))))
 | none=>none))
 | none=>none))))))))
 | none=>none
def G5(N n:Nat):Int->(List Z7)->(List Int)->Bool->(List Int)->Option Ty1_:=
 itF (fun _ _ _ _ _=>none) (z1g N) n
theorem zi8(N n:Nat):G5 N (n+1)=z1g N (G5 N n):=rfl
def zmf(N:Nat):Int->(List Z7)->(List Int)->Bool->(List Int)->Option Ty1_:=
 G5 N N
def Q3(N:Nat)(rec:(List Int)->Int->Int->Bool->(List Z7)->(List Int)->(List Int)->Option ((Unit×(Bool×(Unit×((List Int)×Unit))))))(b0:(List Int))(b1 b2:Int)(b3:Bool)(b4:(List Z7))(b5 b6:(List Int)):Option ((Unit×(Bool×(Unit×((List Int)×Unit))))):=
 bif (decide (b2<b1))then
 (gd (inB b2 (b0.length))
 (match zmf N (rdL b0 b2 (0:Int)) b4 b5 b3 b6 with
 | some r2=>(rec b0 b1 (aa .i64 (b2+(1:Int))) r2.2.2.2.2.1 r2.2.1 r2.2.2.2.1 r2.2.2.2.2.2.2.2.2.1)
 | none=>none))
 else
 (some ((),(b3,((),(b6,())))))
def Q8(N:Nat)(n:Nat):=
 itF (fun _ _ _ _ _ _ _=>none) (Q3 N) n
theorem z33(N:Nat)(n:Nat):Q8 N (n+1)=Q3 N (Q8 N n):=rfl
def pool_visit_m__pool_Reach_c1(N:Nat)(a0:(List Z7))(a1 a2:(List Int)):Option ((Bool×(Unit×((List Int)×Unit)))):=
 gd ((decide (0<=(a0.length:Int))&&decide ((a0.length:Int)<=(a0.length:Int)))&&(decide ((a0.length:Int)<maxB)&&decide ((a0.length:Int)*8<maxB)))
 (let x1:=(ar (cK (a0.length:Int)) (0:Int))
 match Q8 N N a1 (a1.length:Int) (0:Int) true a0 x1 a2 with
 | some r3=>(some (r3.2.1,((),(r3.2.2.2.1,()))))
 | none=>none)
def z1q(N:Nat)(a0:List Int):Option (Unit×((List Int)×Unit)):=
 gd (Nat.blt (a0.length) 4611686018427387904) (some ((),(z81 a0,())))
def zbi(N:Nat)(a0:(List Z7))(a1:(List Int)):Option ((List Int)):=
 match pool_visit_m__pool_Reach_c1 N a0 a1 ([]:List Int)with
 | some r1=>(match z1q N r1.2.2.1 with
 | some r2=>(some r2.2.1)
 | none=>none)
 | none=>none
def zd2(N:Nat)(a0:Z4)(a1:Int):Option ((Int×Bool)):=
 bif (decide (a1<(0:Int)))then
 (some ((0:Int),false))
 else
 (let x1:=(decide ((a0.2.2.2.2.2.1.length:Int)<=a1))
 bif x1 then
 (some ((0:Int),false))
 else
 (gd (inB a1 (a0.2.2.2.2.2.1.length))
 (let x2:=(decide ((rdL a0.2.2.2.2.2.1 a1 (0:Int))<(0:Int)))
 bif x2 then
 (some ((0:Int),false))
 else
 (gd (inB a1 (a0.2.2.2.2.2.1.length))
 (some ((rdL a0.2.2.2.2.2.1 a1 (0:Int)),true))))))
def z1z(N:Nat)(rec:Int->Int->Z4->Int->(List Int)->(List Int)->(List Int)->Option yje)(b0 b1:Int)(b2:Z4)(b3:Int)(b4 b5 b6:(List Int)):Option yje:=
 bif (decide (b1<b0))then
 (gd (inB b1 (b6.length))
 ((zd2 N b2 (rdL b6 b1 (0:Int))).bind fun r5=>
 bif r5.2 then
 (gd (fits (b4.length+1) 8)
 (let x6:=(b4++([(rdL b6 b1 (0:Int))]:List Int))
 rec b0 (aa .i64 (b1+(1:Int))) b2 b3 x6 b5 b6))
 else
 (rec b0 (aa .i64 (b1+(1:Int))) b2 b3 b4 b5 b6)))
 else
 (some (((),()),((),(((),((),b3)),(b4,(b5,()))))))
def z8a(N:Nat)(n:Nat):=
 itF (fun _ _ _ _ _ _ _=>none) (z1z N) n
theorem zey(N:Nat)(n:Nat):z8a N (n+1)=z1z N (z8a N n):=rfl
def z20(N:Nat)(rec:(List W7)->Int->Int->Z4->Z5->(List Int)->Option ((ya1×(Z4×(Z5×(Unit×((List Int)×Unit)))))))(b0:(List W7))(b1 b2:Int)(b3:Z4)(b4:Z5)(b5:(List Int)):Option ((ya1×(Z4×(Z5×(Unit×((List Int)×Unit)))))):=
 bif (decide (b2<b1))then
 (gd (inB b2 (b0.length))
 (let x1:=([(((rdL b0 b2 X1).2).2).1]:List Int)
 gd (fits (b5.length+x1.length) 8)
 (let x2:=(b5++x1)
 rec b0 b1 (aa .i64 (b2+(1:Int))) b3 b4 x2)))
 else
 (some (((),((),((),()))),(b3,(b4,((),(b5,()))))))
def z8b(N:Nat)(n:Nat):=
 itF (fun _ _ _ _ _ _=>none) (z20 N) n
theorem zez(N:Nat)(n:Nat):z8b N (n+1)=z20 N (z8b N n):=rfl
def zbl(N:Nat)(a0:Z4)(a1:Z5):Option (X5):=
 (z8b N N a1.2.2.1 (a1.2.2.1.length:Int) (0:Int) a0 a1 ([a1.2.2.2.2.1]:List Int)).bind fun r3=>
 (zbi N r3.2.2.1.1 r3.2.2.2.2.1).bind fun r4=>
 (z8a N N (r4.length:Int) (0:Int) r3.2.1 (0:Int) ([]:List Int) ([]:List Int) r4).bind fun r7=>
 some (r7.2.2.2.1,(r7.2.2.2.2.1,r7.2.2.1.2.2))
def zbf(N:Nat)(a0:X5):Option (Bool):=
 some (eqi (a0.1.length:Int) (0:Int))
def z6f(N:Nat)(a0:List Int):Option (List Int):=
 gd (fits (a0.length) 8) (some a0)
def y4o(N:Nat)(a0:V7)(a1:Int):Option (Bool):=
 bif (decide ((0:Int)<=a1))then
 (some (decide (a1<(a0.2.1.length:Int))))
 else
 (some false)
def G7(N:Nat)(a0:(List X0)):Option ((List X0)):=
 some a0
def zmo(N:Nat)(a0:Int)(a1:Bool)(a2:Int)(a3:(List Int))(a4:Int)(a5:(List Int))(a6:Int):Option ((Unit×(Int×((List Int)×((List Int)×(Unit×Unit)))))⊕(Unit×(Int×(Unit×((List Int)×(Int×Unit)))))):=
 bif (!a1)then
 (bif (eqi a2 a4)then
 (some (.inl ((),(a4,(a3,(a5,((),())))))))
 else
 (some (.inr ((),(a4,((),(a5,(a6,()))))))))
 else
 (some (.inr ((),(a4,((),(a5,(a6,())))))))
def V9(N:Nat)(rec:(List X0)->Int->Int->(List Int)->Int->Option Ty6_)(b0:(List X0))(b1 b2:Int)(b3:(List Int))(b4:Int):Option Ty6_:=
 bif (decide ((0:Int)<=b1))then
 (gd (inB b1 (b0.length))
 ((zmo N b1 ((rdL b0 b1 z1t).1) (((rdL b0 b1 z1t).2).1) (((rdL b0 b1 z1t).2).2) b2 b3 b4).bind fun r2=>
 match r2 with
 | .inl r3=>(some (.inl ((),(((),((),())),(r3.2.1,(r3.2.2.1,((),(r3.2.2.2.1,()))))))))
 | .inr r4=>(rec b0 (aa .i64 (b1-(1:Int))) r4.2.1 r4.2.2.2.1 r4.2.2.2.2.1)))
 else
 (some (.inr ((),(((),((),())),(b2,((),(b3,(b4,()))))))))
def X7(N:Nat)(n:Nat):=
 itF (fun _ _ _ _ _=>none) (V9 N) n
theorem z37(N:Nat)(n:Nat):X7 N (n+1)=V9 N (X7 N n):=rfl
def Q2(N:Nat)(a0:(List X0))(a1:Int)(a2:(List Int))(a3:Int):Option Ty6_:=
 let x1:=(aa .i64 ((a0.length:Int)-(1:Int)))
 (X7 N N a0 x1 a1 a2 a3).bind fun r5=>
 match r5 with
 | .inl r6=>(some (.inl ((),(((),((),())),(r6.2.2.1,(r6.2.2.2.1,((),(r6.2.2.2.2.2.1,()))))))))
 | .inr r7=>(some (.inr ((),(((),((),())),(r7.2.2.1,((),(r7.2.2.2.2.1,(r7.2.2.2.2.2.1,()))))))))
def zoj(N:Nat)(b0:(List X0))(b1:V7)(b2:Int):Option (((Unit×Unit)×((List Int)×(Unit×Unit)))⊕(ya1×(V7×(Int×(Unit×((List Int)×(Int×Unit))))))):=
 (Q2 N b0 b2 ([]:List Int) (0:Int)).bind fun r3=>
 match r3 with
 | .inl r4=>(some (.inl (((),()),(r4.2.2.2.1,((),())))))
 | .inr r5=>(some (.inr (((),((),((),()))),(b1,(r5.2.2.1,((),(r5.2.2.2.2.1,(r5.2.2.2.2.2.1,()))))))))
def zvy(N:Nat)(a0:V7)(a1:Int):Option (((List Int)×Int)):=
 (y4o N a0 a1).bind fun r1=>
 bif (!r1)then
 (some (([]:List Int),(230:Int)))
 else
 ((G7 N a0.2.2).bind fun r2=>
 (zoj N r2 a0 a1).bind fun r6=>
 match r6 with
 | .inl r7=>(some (r7.2.1,(0:Int)))
 | .inr r8=>(gd (inB r8.2.2.1 (r8.2.1.2.1.length))
 (some ((rdL r8.2.1.2.1 r8.2.2.1 ([]:List Int)),(0:Int)))))
def z45(N:Nat)(rec:Int->(List Int)->Int->Int->Option ((Int×Unit)))(b0:Int)(b1:(List Int))(b2 b3:Int):Option ((Int×Unit)):=
 bif (decide (b3<b2))then
 (gd (inB b3 (b1.length))
 (let x1:=(aa .u64 (((BitVec.ofInt (bi .u64) b0^^^BitVec.ofInt (bi .u64) (aa .u64 ((rdL b1 b3 (0:Int))))).toNat:Int)))
 let x2:=(aa .u64 (x1*(1099511628211:Int)))
 rec x2 b1 b2 (aa .i64 (b3+(1:Int)))))
 else
 (some (b0,()))
def zas(N:Nat)(n:Nat):=
 itF (fun _ _ _ _=>none) (z45 N) n
theorem zhb(N:Nat)(n:Nat):zas N (n+1)=z45 N (zas N n):=rfl
def zmg(N:Nat)(a0:(List Int)):Option (Int):=
 (zas N N (14695981039346656037:Int) a0 (a0.length:Int) (0:Int)).bind fun r3=>
 some r3.1
def zax(N:Nat)(a0 a1:(List Int))(a2 a3:Int)(a4:(List (List Int)))(a5:(List X0))(a6:(List Bool))(a7:(List Int))(a8 a9 a10 a11:Int)(a12 a13 a14:(List Int))(a15 a16:Int):Option (Bool):=
 (zvy N (a3,(a4,a5)) a16).bind fun r1=>
 bif (eqi r1.2 (0:Int))then
 (bif (decide (a15<(a13.length:Int)))then
 ((zmg N r1.1).bind fun r2=>
 gd (inB a15 (a13.length))
 (some (eqi r2 (rdL a13 a15 (0:Int)))))
 else
 (some false))
 else
 (some false)
def zb3(N:Nat)(a0:(List Int))(a1 a2:Int)(a3:(List (List Int)))(a4:(List X0))(a5:(List Bool))(a6:(List Int))(a7 a8 a9 a10:Int)(a11 a12 a13 a14:(List Int)):Option ((Unit×yf2)):=
 some ((),((),((a0,((),(a1,(a2,(a3,(a4,(a5,(a6,(a7,(a8,(a9,(a10,(a11,(a12,a13)))))))))))))),(a14,()))))
def z82(N:Nat)(a0 a1 a2:Int)(a3:(List Int))(a4 a5:Int)(a6:(List (List Int)))(a7:(List X0))(a8:(List Bool))(a9:(List Int))(a10 a11 a12 a13:Int)(a14 a15 a16 a17:(List Int)):Option ((Unit×(Int×yf2))⊕(Unit×(Int×yf2))):=
 bif (eqi a2 (0:Int))then
 (some (.inl ((),(a2,((),((a3,((),(a4,(a5,(a6,(a7,(a8,(a9,(a10,(a11,(a12,(a13,(a14,(a15,a16)))))))))))))),(a17,())))))))
 else
 (bif (decide (a1<(0:Int)))then
 (some (.inr ((),((aa .i64 (a2-(1:Int))),((),((a3,((),(a4,(a5,(a6,(a7,(a8,(a9,(a10,(a11,(a12,(a13,(a14,(a15,a16)))))))))))))),(a17,())))))))
 else
 ((zax N a3 a17 a4 a5 a6 a7 a8 a9 a10 a11 a12 a13 a14 a15 a16 a0 a1).bind fun r1=>
 bif r1 then
 (some (.inr ((),((aa .i64 (a2-(1:Int))),((),((a3,((),((aa .i64 (a4+(1:Int))),(a5,(a6,(a7,(a8,(a9,(a10,(a11,(a12,(a13,(a14,(a15,a16)))))))))))))),(a17,())))))))
 else
 (gd (fits (a17.length+1) 8)
 (let x2:=(a17++([a0]:List Int))
 some (.inr ((),((aa .i64 (a2-(1:Int))),((),((a3,((),(a4,(a5,(a6,(a7,(a8,(a9,(a10,(a11,(a12,(a13,(a14,(a15,a16)))))))))))))),(x2,()))))))))))
def K4(N:Nat)(rec:(List Int)->Int->Int->(List (List Int))->(List X0)->(List Bool)->(List Int)->Int->Int->Int->Int->(List Int)->(List Int)->(List Int)->(List Int)->Int->Option (Ty5_⊕Ty5_))(b0:(List Int))(b1 b2:Int)(b3:(List (List Int)))(b4:(List X0))(b5:(List Bool))(b6:(List Int))(b7 b8 b9 b10:Int)(b11 b12 b13 b14:(List Int))(b15:Int):Option (Ty5_⊕Ty5_):=
 let x1:=(decide ((0:Int)<(b0.length:Int)))
 bif x1 then
 (gd (inB (0:Int) (b0.length))
 ((zd2 N ((b2,(b3,b4)),((b5,(b6,b7)),(b8,(b9,(b10,(b11,(b12,b13))))))) (rdL b0 (0:Int) (0:Int))).bind fun r2=>
 bif (!r2.2)then
 ((z82 N (rdL b0 (0:Int) (0:Int)) (-1:Int) b15 b0 b1 b2 b3 b4 b5 b6 b7 b8 b9 b10 b11 b12 b13 b14).bind fun r3=>
 match r3 with
 | .inl r4=>(some (.inl ((),(((),()),(r4.2.1,((),((r4.2.2.2.1.1,((),(r4.2.2.2.1.2.2.1,(r4.2.2.2.1.2.2.2.1,(r4.2.2.2.1.2.2.2.2.1,(r4.2.2.2.1.2.2.2.2.2.1,(r4.2.2.2.1.2.2.2.2.2.2.1,(r4.2.2.2.1.2.2.2.2.2.2.2.1,(r4.2.2.2.1.2.2.2.2.2.2.2.2.1,(r4.2.2.2.1.2.2.2.2.2.2.2.2.2.1,(r4.2.2.2.1.2.2.2.2.2.2.2.2.2.2.1,(r4.2.2.2.1.2.2.2.2.2.2.2.2.2.2.2.1,(r4.2.2.2.1.2.2.2.2.2.2.2.2.2.2.2.2.1,(r4.2.2.2.1.2.2.2.2.2.2.2.2.2.2.2.2.2.1,r4.2.2.2.1.2.2.2.2.2.2.2.2.2.2.2.2.2.2)))))))))))))),(r4.2.2.2.2.1,((),())))))))))
 | .inr r5=>(gd (decide (0<=(1:Int))&&(decide ((1:Int)<=(r5.2.2.2.1.1.length:Int))&&decide ((r5.2.2.2.1.1.length:Int)<=(r5.2.2.2.1.1.length:Int))))
 (let x6:=(cut2 r5.2.2.2.1.1 (1:Int) (r5.2.2.2.1.1.length:Int))
 rec x6 r5.2.2.2.1.2.2.1 r5.2.2.2.1.2.2.2.1 r5.2.2.2.1.2.2.2.2.1 r5.2.2.2.1.2.2.2.2.2.1 r5.2.2.2.1.2.2.2.2.2.2.1 r5.2.2.2.1.2.2.2.2.2.2.2.1 r5.2.2.2.1.2.2.2.2.2.2.2.2.1 r5.2.2.2.1.2.2.2.2.2.2.2.2.2.1 r5.2.2.2.1.2.2.2.2.2.2.2.2.2.2.1 r5.2.2.2.1.2.2.2.2.2.2.2.2.2.2.2.1 r5.2.2.2.1.2.2.2.2.2.2.2.2.2.2.2.2.1 r5.2.2.2.1.2.2.2.2.2.2.2.2.2.2.2.2.2.1 r5.2.2.2.1.2.2.2.2.2.2.2.2.2.2.2.2.2.2 r5.2.2.2.2.1 r5.2.1)))
 else
 ((z82 N (rdL b0 (0:Int) (0:Int)) r2.1 b15 b0 b1 b2 b3 b4 b5 b6 b7 b8 b9 b10 b11 b12 b13 b14).bind fun r7=>
 match r7 with
 | .inl r8=>(some (.inl ((),(((),()),(r8.2.1,((),((r8.2.2.2.1.1,((),(r8.2.2.2.1.2.2.1,(r8.2.2.2.1.2.2.2.1,(r8.2.2.2.1.2.2.2.2.1,(r8.2.2.2.1.2.2.2.2.2.1,(r8.2.2.2.1.2.2.2.2.2.2.1,(r8.2.2.2.1.2.2.2.2.2.2.2.1,(r8.2.2.2.1.2.2.2.2.2.2.2.2.1,(r8.2.2.2.1.2.2.2.2.2.2.2.2.2.1,(r8.2.2.2.1.2.2.2.2.2.2.2.2.2.2.1,(r8.2.2.2.1.2.2.2.2.2.2.2.2.2.2.2.1,(r8.2.2.2.1.2.2.2.2.2.2.2.2.2.2.2.2.1,(r8.2.2.2.1.2.2.2.2.2.2.2.2.2.2.2.2.2.1,r8.2.2.2.1.2.2.2.2.2.2.2.2.2.2.2.2.2.2)))))))))))))),(r8.2.2.2.2.1,((),())))))))))
 | .inr r9=>(gd (decide (0<=(1:Int))&&(decide ((1:Int)<=(r9.2.2.2.1.1.length:Int))&&decide ((r9.2.2.2.1.1.length:Int)<=(r9.2.2.2.1.1.length:Int))))
 (let x10:=(cut2 r9.2.2.2.1.1 (1:Int) (r9.2.2.2.1.1.length:Int))
 rec x10 r9.2.2.2.1.2.2.1 r9.2.2.2.1.2.2.2.1 r9.2.2.2.1.2.2.2.2.1 r9.2.2.2.1.2.2.2.2.2.1 r9.2.2.2.1.2.2.2.2.2.2.1 r9.2.2.2.1.2.2.2.2.2.2.2.1 r9.2.2.2.1.2.2.2.2.2.2.2.2.1 r9.2.2.2.1.2.2.2.2.2.2.2.2.2.1 r9.2.2.2.1.2.2.2.2.2.2.2.2.2.2.1 r9.2.2.2.1.2.2.2.2.2.2.2.2.2.2.2.1 r9.2.2.2.1.2.2.2.2.2.2.2.2.2.2.2.2.1 r9.2.2.2.1.2.2.2.2.2.2.2.2.2.2.2.2.2.1 r9.2.2.2.1.2.2.2.2.2.2.2.2.2.2.2.2.2.2 r9.2.2.2.2.1 r9.2.1)))))
 else
 (some (.inr ((),(((),()),(b15,((),((b0,((),(b1,(b2,(b3,(b4,(b5,(b6,(b7,(b8,(b9,(b10,(b11,(b12,b13)))))))))))))),(b14,((),())))))))))
def J0(N:Nat)(n:Nat):=
 itF (fun _ _ _ _ _ _ _ _ _ _ _ _ _ _ _ _=>none) (K4 N) n
theorem z5b(N:Nat)(n:Nat):J0 N (n+1)=K4 N (J0 N n):=rfl
def z5v(N:Nat)(a0:Int)(a1:(List Int))(a2 a3:Int)(a4:(List (List Int)))(a5:(List X0))(a6:(List Bool))(a7:(List Int))(a8 a9 a10 a11:Int)(a12 a13 a14 a15:(List Int)):Option (Ty5_⊕Ty5_):=
 (J0 N N a1 a2 a3 a4 a5 a6 a7 a8 a9 a10 a11 a12 a13 a14 a15 a0).bind fun r11=>
 match r11 with
 | .inl r12=>(some (.inl ((),(((),()),(r12.2.2.1,((),((r12.2.2.2.2.1.1,((),(r12.2.2.2.2.1.2.2.1,(r12.2.2.2.2.1.2.2.2.1,(r12.2.2.2.2.1.2.2.2.2.1,(r12.2.2.2.2.1.2.2.2.2.2.1,(r12.2.2.2.2.1.2.2.2.2.2.2.1,(r12.2.2.2.2.1.2.2.2.2.2.2.2.1,(r12.2.2.2.2.1.2.2.2.2.2.2.2.2.1,(r12.2.2.2.2.1.2.2.2.2.2.2.2.2.2.1,(r12.2.2.2.2.1.2.2.2.2.2.2.2.2.2.2.1,(r12.2.2.2.2.1.2.2.2.2.2.2.2.2.2.2.2.1,(r12.2.2.2.2.1.2.2.2.2.2.2.2.2.2.2.2.2.1,(r12.2.2.2.2.1.2.2.2.2.2.2.2.2.2.2.2.2.2.1,r12.2.2.2.2.1.2.2.2.2.2.2.2.2.2.2.2.2.2.2)))))))))))))),(r12.2.2.2.2.2.1,((),())))))))))
 | .inr r13=>(some (.inr ((),(((),()),(r13.2.2.1,((),((r13.2.2.2.2.1.1,((),(r13.2.2.2.2.1.2.2.1,(r13.2.2.2.2.1.2.2.2.1,(r13.2.2.2.2.1.2.2.2.2.1,(r13.2.2.2.2.1.2.2.2.2.2.1,(r13.2.2.2.2.1.2.2.2.2.2.2.1,(r13.2.2.2.2.1.2.2.2.2.2.2.2.1,(r13.2.2.2.2.1.2.2.2.2.2.2.2.2.1,(r13.2.2.2.2.1.2.2.2.2.2.2.2.2.2.1,(r13.2.2.2.2.1.2.2.2.2.2.2.2.2.2.2.1,(r13.2.2.2.2.1.2.2.2.2.2.2.2.2.2.2.2.1,(r13.2.2.2.2.1.2.2.2.2.2.2.2.2.2.2.2.2.1,(r13.2.2.2.2.1.2.2.2.2.2.2.2.2.2.2.2.2.2.1,r13.2.2.2.2.1.2.2.2.2.2.2.2.2.2.2.2.2.2.2)))))))))))))),(r13.2.2.2.2.2.1,((),())))))))))
def zjt(N:Nat)(b0:Int)(b1:(List Int))(b2 b3:Int)(b4:(List (List Int)))(b5:(List X0))(b6:(List Bool))(b7:(List Int))(b8 b9 b10 b11:Int)(b12 b13 b14 b15:(List Int)):Option (((Unit×Unit)×(Unit×yf2))⊕((Unit×Unit)×(Unit×yf2))):=
 (z5v N b0 b1 b2 b3 b4 b5 b6 b7 b8 b9 b10 b11 b12 b13 b14 b15).bind fun r3=>
 match r3 with
 | .inl r4=>(some (.inl (((),()),((),((),((r4.2.2.2.2.1.1,((),(r4.2.2.2.2.1.2.2.1,(r4.2.2.2.2.1.2.2.2.1,(r4.2.2.2.2.1.2.2.2.2.1,(r4.2.2.2.2.1.2.2.2.2.2.1,(r4.2.2.2.2.1.2.2.2.2.2.2.1,(r4.2.2.2.2.1.2.2.2.2.2.2.2.1,(r4.2.2.2.2.1.2.2.2.2.2.2.2.2.1,(r4.2.2.2.2.1.2.2.2.2.2.2.2.2.2.1,(r4.2.2.2.2.1.2.2.2.2.2.2.2.2.2.2.1,(r4.2.2.2.2.1.2.2.2.2.2.2.2.2.2.2.2.1,(r4.2.2.2.2.1.2.2.2.2.2.2.2.2.2.2.2.2.1,(r4.2.2.2.2.1.2.2.2.2.2.2.2.2.2.2.2.2.2.1,r4.2.2.2.2.1.2.2.2.2.2.2.2.2.2.2.2.2.2.2)))))))))))))),(r4.2.2.2.2.2.1,())))))))
 | .inr r5=>(some (.inr (((),()),((),((),((r5.2.2.2.2.1.1,((),(r5.2.2.2.2.1.2.2.1,(r5.2.2.2.2.1.2.2.2.1,(r5.2.2.2.2.1.2.2.2.2.1,(r5.2.2.2.2.1.2.2.2.2.2.1,(r5.2.2.2.2.1.2.2.2.2.2.2.1,(r5.2.2.2.2.1.2.2.2.2.2.2.2.1,(r5.2.2.2.2.1.2.2.2.2.2.2.2.2.1,(r5.2.2.2.2.1.2.2.2.2.2.2.2.2.2.1,(r5.2.2.2.2.1.2.2.2.2.2.2.2.2.2.2.1,(r5.2.2.2.2.1.2.2.2.2.2.2.2.2.2.2.2.1,(r5.2.2.2.2.1.2.2.2.2.2.2.2.2.2.2.2.2.1,(r5.2.2.2.2.1.2.2.2.2.2.2.2.2.2.2.2.2.2.1,r5.2.2.2.2.1.2.2.2.2.2.2.2.2.2.2.2.2.2.2)))))))))))))),(r5.2.2.2.2.2.1,())))))))
def zlq(N:Nat)(a0:X5)(a1:Z4)(a2:Int):Option ((X5×Int)):=
 bif (decide (a2<(0:Int)))then
 (some (a0,(280:Int)))
 else
 ((z6f N a0.2.1).bind fun r1=>
 (zb3 N a0.1 a0.2.2 a1.1.1 a1.1.2.1 a1.1.2.2 a1.2.1.1 a1.2.1.2.1 a1.2.1.2.2 a1.2.2.1 a1.2.2.2.1 a1.2.2.2.2.1 a1.2.2.2.2.2.1 a1.2.2.2.2.2.2.1 a1.2.2.2.2.2.2.2 r1).bind fun r2=>
 (zjt N a2 r2.2.2.1.1 r2.2.2.1.2.2.1 r2.2.2.1.2.2.2.1 r2.2.2.1.2.2.2.2.1 r2.2.2.1.2.2.2.2.2.1 r2.2.2.1.2.2.2.2.2.2.1 r2.2.2.1.2.2.2.2.2.2.2.1 r2.2.2.1.2.2.2.2.2.2.2.2.1 r2.2.2.1.2.2.2.2.2.2.2.2.2.1 r2.2.2.1.2.2.2.2.2.2.2.2.2.2.1 r2.2.2.1.2.2.2.2.2.2.2.2.2.2.2.1 r2.2.2.1.2.2.2.2.2.2.2.2.2.2.2.2.1 r2.2.2.1.2.2.2.2.2.2.2.2.2.2.2.2.2.1 r2.2.2.1.2.2.2.2.2.2.2.2.2.2.2.2.2.2 r2.2.2.2.1).bind fun r6=>
 match r6 with
 | .inl r7=>(some ((r7.2.2.2.1.1,(r7.2.2.2.2.1,r7.2.2.2.1.2.2.1)),(0:Int)))
 | .inr r8=>(some ((r8.2.2.2.1.1,(r8.2.2.2.2.1,r8.2.2.2.1.2.2.1)),(0:Int))))
def z34(N:Nat)(a0:X5)(a1:Z4)(a2:Int):Option (zcl):=
 (zlq N a0 a1 a2).bind fun r1=>
 some r1
def z3n(N:Nat)(rec:Int->V7->Int->(List (List Int))->(List X0)->Option (((Unit×Unit)×(Unit×yna))))(b0:Int)(b1:V7)(b2:Int)(b3:(List (List Int)))(b4:(List X0)):Option (((Unit×Unit)×(Unit×yna))):=
 bif (decide (b0<(b1.2.2.length:Int)))then
 (gd (inB b0 (b1.2.2.length))
 (bif (!((rdL b1.2.2 b0 z1t).1))then
 (gd (inB b0 (b1.2.2.length))
 (gd (inB b0 (b1.2.2.length))
 (gd (inB (((rdL b1.2.2 b0 z1t).2).1) (b3.length))
 (let x2:=(setL b3 (((rdL b1.2.2 b0 z1t).2).1) (((rdL b1.2.2 b0 z1t).2).2))
 rec (aa .i64 (b0+(1:Int))) b1 b2 x2 b4))))
 else
 (rec (aa .i64 (b0+(1:Int))) b1 b2 b3 b4)))
 else
 (some (((),()),((),((b2,((),())),(b3,(b4,()))))))
def zac(N:Nat)(n:Nat):=
 itF (fun _ _ _ _ _=>none) (z3n N) n
theorem zgt(N:Nat)(n:Nat):zac N (n+1)=z3n N (zac N n):=rfl
def zdc(N:Nat)(a0:V7):Option (V7):=
 (z1k N a0).bind fun r1=>
 (zac N N (0:Int) a0 r1.1 r1.2.1 r1.2.2).bind fun r3=>
 some (r3.2.2.1.1,(r3.2.2.2.1,([]:List X0)))
def z9d(N:Nat)(a0:Z4)(a1:Int):Option (Int):=
 bif (decide (a1<(0:Int)))then
 (some (-1:Int))
 else
 (let x1:=(decide ((a0.2.2.2.2.2.1.length:Int)<=a1))
 bif x1 then
 (some (-1:Int))
 else
 (gd (inB a1 (a0.2.2.2.2.2.1.length))
 (let x2:=(decide ((rdL a0.2.2.2.2.2.1 a1 (0:Int))<(0:Int)))
 bif x2 then
 (some (-1:Int))
 else
 (gd (inB a1 (a0.2.2.2.2.2.1.length))
 (some (rdL a0.2.2.2.2.2.1 a1 (0:Int)))))))
def zpf(N:Nat)(a0:V7)(a1:zvf):Option ((V7×Int)):=
 (zdb N a0 a1.1).bind fun r1=>
 bif (!r1)then
 (some (a0,(230:Int)))
 else
 (bif (decide (a1.2.1<(0:Int)))then
 (some (a0,(1:Int)))
 else
 (gd (inB a1.1 (a0.2.1.length))
 (let x2:=(ap (rdL a0.2.1 a1.1 ([]:List Int)):Int)
 bif (decide (x2<=a1.2.1))then
 (some (a0,(1:Int)))
 else
 ((z1k N a0).bind fun r3=>
 gd (inB a1.1 (a0.2.1.length))
 (gd (fits (0+ap (rdL a0.2.1 a1.1 ([]:List Int))) 1)
 (let x4:=(([]:List Int)++(rdL a0.2.1 a1.1 ([]:List Int)))
 gd (inB a1.1 (r3.2.1.length))
 (gd (inB a1.1 (r3.2.1.length))
 (gd (Nat.beq (cK a1.1) (cK a1.1))
 (gd (inB a1.2.1 (x4.length))
 (let x5:=(aa .u8 (((BitVec.ofInt (bi .u8) (rdL x4 a1.2.1 (0:Int))^^^BitVec.ofInt (bi .u8) a1.2.2).toNat:Int)))
 gd (inB a1.2.1 (x4.length))
 (some ((r3.1,((setL r3.2.1 a1.1 (setL x4 a1.2.1 x5)),r3.2.2)),(0:Int)))))))))))))
def z5c(N:Nat)(a0:Z4)(a1:(List Int))(a2:U9):Option ((Z4×Int)):=
 bif (eqi (a1.length:Int) (0:Int))then
 (some (a0,(-1:Int)))
 else
 (gd (!(eqi (a1.length:Int) 0))
 (let x1:=(aJ (aa .i64 (a2.1)) (a1.length:Int))
 gd (inB x1 (a1.length))
 ((z9d N a0 (rdL a1 x1 (0:Int))).bind fun r2=>
 (zhm N a0.1 r2).bind fun r3=>
 bif (eqi (r3.1.length:Int) (0:Int))then
 (some (a0,(-1:Int)))
 else
 ((z9d N a0 (rdL a1 x1 (0:Int))).bind fun r4=>
 gd (!(eqi (r3.1.length:Int) 0))
 (let x5:=(aJ (aa .i64 (a2.2.1)) (r3.1.length:Int))
 let x6:=(bif decide (a2.2.2<(1:Int))then(1:Int)else a2.2.2)
 (zpf N a0.1 (r4,(x5,x6))).bind fun r7=>
 bif (!(eqi r7.2 (0:Int)))then
 (some (a0,(-1:Int)))
 else
 (some ((r7.1,a0.2),(rdL a1 x1 (0:Int)))))))))
def z3w(N:Nat)(rec:(List Int)->(List Int)->Int->Option Ty3_)(b0 b1:(List Int))(b2:Int):Option Ty3_:=
 bif (decide (b2<(b0.length:Int)))then
 (gd (inB b2 (b0.length))
 (gd (inB b2 (b1.length))
 (let x2:=(!(eqi (rdL b0 b2 (0:Int)) (rdL b1 b2 (0:Int))))
 bif x2 then
 (some (.inl (false,())))
 else
 (rec b0 b1 (aa .i64 (b2+(1:Int)))))))
 else
 (some (.inr ((),())))
def zak(N:Nat)(n:Nat):=
 itF (fun _ _ _=>none) (z3w N) n
theorem zh2(N:Nat)(n:Nat):zak N (n+1)=z3w N (zak N n):=rfl
def zdm(N:Nat)(a0 a1:(List Int)):Option (Bool):=
 let x1:=(!(eqi (a0.length:Int) (a1.length:Int)))
 bif x1 then
 (some false)
 else
 (match zak N N a0 a1 (0:Int)with
 | some r3=>(match r3 with
 | .inl r4=>(some r4.1)
 | .inr r5=>(some true))
 | none=>none)
def z76(N:Nat)(a0 a1:X5):Option (Bool):=
 (zdm N a0.1 a1.1).bind fun r1=>
 bif r1 then
 ((zdm N a0.2.1 a1.2.1).bind fun r2=>
 bif r2 then
 (some (eqi a0.2.2 a1.2.2))
 else
 (some false))
 else
 (some false)
def v8(N:Nat)(b0:Bool):Option ((Bool×Unit)):=
 some (b0,())
def zmj(N:Nat)(b0:z09)(b1:X5):Option ((Bool×Unit)):=
 (z34 N b1 b0.1 (2:Int)).bind fun r5=>
 (z34 N r5.1 b0.1 (2:Int)).bind fun r6=>
 (zdc N b0.1.1).bind fun r7=>
 (z5c N (r7,b0.1.2) b1.1 ((1:Int),((0:Int),(7:Int)))).bind fun r8=>
 (z34 N b1 r8.1 (9:Int)).bind fun r9=>
 (z34 N b1 b0.1 (-1:Int)).bind fun r10=>
 bif (eqi r5.1.2.2 (2:Int))then
 (bif (eqi (r5.1.1.length:Int) (1:Int))then
 (bif (eqi r6.1.2.2 (3:Int))then
 ((zbf N r6.1).bind fun r11=>
 bif r11 then
 (bif (eqi r9.1.2.2 (2:Int))then
 ((zdm N r9.1.2.1 ([r8.2]:List Int)).bind fun r12=>
 bif r12 then
 (bif (eqi r10.2 (280:Int))then
 ((z76 N r10.1 b1).bind fun r13=>
 (v8 N r13).bind fun r14=>
 some (r14.1,()))
 else
 ((v8 N false).bind fun r15=>
 some (r15.1,())))
 else
 ((v8 N false).bind fun r16=>
 some (r16.1,())))
 else
 ((v8 N false).bind fun r17=>
 some (r17.1,())))
 else
 ((v8 N false).bind fun r18=>
 some (r18.1,())))
 else
 ((v8 N false).bind fun r19=>
 some (r19.1,())))
 else
 ((v8 N false).bind fun r20=>
 some (r20.1,())))
 else
 ((v8 N false).bind fun r21=>
 some (r21.1,()))
def zck(N:Nat):Option (Bool):=
 (zqf N).bind fun r1=>
 (zbl N r1.1 r1.2.1).bind fun r2=>
 bif (!(eqi (r2.1.length:Int) (3:Int)))then
 (some false)
 else
 (let x3:=(decide ((0:Int)<(r2.2.1.length:Int)))
 bif x3 then
 (some false)
 else
 (bif (!(eqi r2.2.2 (0:Int)))then
 (some false)
 else
 ((zbf N r2).bind fun r4=>
 bif r4 then
 (some false)
 else
 ((zmj N r1 r2).bind fun r22=>
 some r22.1))))
def zj3(N:Nat)(a0:Int):Option (U0):=
 let x1:=(aJ (aa .i64 (a0)) (4:Int))
 let x2:=(aa .i64 (c9 (aa .i64 (a0)) (4:Int)))
 let x3:=(aa .i64 ((2:Int)+(aJ x2 (3:Int))))
 let x4:=(aa .i64 (c9 (aa .i64 (a0)) (16:Int)))
 let x5:=(aa .i64 ((1:Int)+(aJ x4 (5:Int))))
 some ((aa .i64 ((2:Int)+x1)),(x3,x5))
def zbh(N:Nat)(a0:Int):Option ((List UInt8)):=
 let x1:=([([97,47]:List UInt8),([98,47]:List UInt8),([97,47,98,47]:List UInt8),([99,47]:List UInt8),([100,47]:List UInt8)]:List (List UInt8))
 gd (inB (aJ a0 (5:Int)) (x1.length))
 (let x2:=(rdL x1 (aJ a0 (5:Int)) ([]:List UInt8))
 some x2)
def zku(N:Nat)(a0:Int):Option ((List UInt8)):=
 match zbh N (aJ a0 (4:Int))with
 | some r1=>(let x2:=([([1]:List UInt8),([2,0,0]:List UInt8),([2,0,1]:List UInt8),([2,0,2]:List UInt8),([3,120]:List UInt8)]:List (List UInt8))
 let x3:=(aJ (aa .u8 (c9 a0 (4:Int))) (5:Int))
 gd (inB x3 (x2.length))
 (gd (decide (r1.length+ap (rdL x2 x3 ([]:List UInt8))<maxS))
 (let x4:=(r1++(rdL x2 x3 ([]:List UInt8)))
 some x4)))
 | none=>none
def zj9(N:Nat)(a0:Int):Option ((List UInt8)):=
 let x1:=([([]:List UInt8),([120]:List UInt8),([121,121]:List UInt8),([49,50,51,52,53,54,55,56,57,48]:List UInt8),([0,255]:List UInt8)]:List (List UInt8))
 gd (inB (aJ a0 (5:Int)) (x1.length))
 (let x2:=(rdL x1 (aJ a0 (5:Int)) ([]:List UInt8))
 some x2)
def z1a(N:Nat)(b0 b1 b2:(List UInt8))(b3:J2)(b4:Z0):Option ((Unit×(Z1×Unit))):=
 let x9:=(aa .i64 ((aJ b3.2.2.2.2.2 (8:Int))))
 bif (eqi (aJ b3.1 (6:Int)) (0:Int))then
 (match zj9 N b3.2.2.1 with
 | some r10=>(some ((),(((1:Int),(b0,(r10,((([]:List UInt8),([]:List UInt8)),(([]:List UInt8),(([]:List UInt8),x9)))))),())))
 | none=>none)
 else
 (bif (eqi (aJ b3.1 (6:Int)) (1:Int))then
 (some ((),(((2:Int),(b0,(([]:List UInt8),((([]:List UInt8),([]:List UInt8)),(([]:List UInt8),(([]:List UInt8),(0:Int))))))),())))
 else
 (bif (eqi (aJ b3.1 (6:Int)) (2:Int))then
 (some ((),(((3:Int),(([]:List UInt8),(([]:List UInt8),(b4,(([]:List UInt8),(([]:List UInt8),(0:Int))))))),())))
 else
 (bif (eqi (aJ b3.1 (6:Int)) (3:Int))then
 (some ((),(((4:Int),(([]:List UInt8),(([]:List UInt8),((([]:List UInt8),([]:List UInt8)),(b1,(b2,(0:Int))))))),())))
 else
 (bif (eqi (aJ b3.1 (6:Int)) (4:Int))then
 (some ((),(((5:Int),(([]:List UInt8),(([]:List UInt8),((([]:List UInt8),([]:List UInt8)),(b1,(b2,(0:Int))))))),())))
 else
 (some ((),(((6:Int),(([]:List UInt8),(([]:List UInt8),(b4,(([]:List UInt8),(([]:List UInt8),x9)))))),())))))))
def z1b(N:Nat)(b0:(List UInt8))(b1:J2)(b2:Z0):Option ((Unit×(Z1×Unit))):=
 match zbh N b1.2.1 with
 | some r6=>(match zbh N b1.2.2.2.1 with
 | some r7=>(match z0a N r6 r7 with
 | some r8=>(bif r8 then
 (bif (eqs r6 ([100,47]:List UInt8))then
 (match z1a N b0 r6 ([99,47]:List UInt8) b1 b2 with
 | some r11=>(some ((),(r11.2.1,())))
 | none=>none)
 else
 (match z1a N b0 r6 ([100,47]:List UInt8) b1 b2 with
 | some r12=>(some ((),(r12.2.1,())))
 | none=>none))
 else
 (match z0a N r7 r6 with
 | some r13=>(bif r13 then
 (bif (eqs r6 ([100,47]:List UInt8))then
 (match z1a N b0 r6 ([99,47]:List UInt8) b1 b2 with
 | some r14=>(some ((),(r14.2.1,())))
 | none=>none)
 else
 (match z1a N b0 r6 ([100,47]:List UInt8) b1 b2 with
 | some r15=>(some ((),(r15.2.1,())))
 | none=>none))
 else
 (match z1a N b0 r6 r7 b1 b2 with
 | some r16=>(some ((),(r16.2.1,())))
 | none=>none))
 | none=>none))
 | none=>none)
 | none=>none)
 | none=>none
def zdt(N:Nat)(a0:J2):Option (Z1):=
 match zku N a0.2.1 with
 | some r1=>(match zku N a0.2.2.2.1 with
 | some r2=>(let x3:=(eqi (aJ a0.2.2.2.2.1 (4:Int)) (0:Int))
 bif x3 then
 (match zbh N a0.2.1 with
 | some r4=>(match U8 N r4 with
 | some r5=>(match z1b N r1 a0 r5 with
 | some r17=>(some r17.2.1)
 | none=>none)
 | none=>none)
 | none=>none)
 else
 (let x18:=(eqi (aJ a0.2.2.2.2.1 (16:Int)) (1:Int))
 bif x18 then
 (match z1b N r1 a0 (r1,([]:List UInt8))with
 | some r19=>(some r19.2.1)
 | none=>none)
 else
 (let x20:=(eqi (aJ a0.2.2.2.2.1 (16:Int)) (5:Int))
 bif x20 then
 (match z1b N r1 a0 (([]:List UInt8),([]:List UInt8))with
 | some r21=>(some r21.2.1)
 | none=>none)
 else
 (bif (eqs r1 r2)then
 (match za2 N r1 with
 | some r22=>(match z1b N r1 a0 r22 with
 | some r23=>(some r23.2.1)
 | none=>none)
 | none=>none)
 else
 (match z1b N r1 a0 ((bif lts r1 r2 || eqs r1 r2 then r1 else r2),(bif !(lts r1 r2)then r1 else r2))with
 | some r24=>(some r24.2.1)
 | none=>none)))))
 | none=>none)
 | none=>none
def q9(N:Nat)(rec:(List J2)->Int->Int->(List Z1)->Option ((Unit×((List Z1)×Unit))))(b0:(List J2))(b1 b2:Int)(b3:(List Z1)):Option ((Unit×((List Z1)×Unit))):=
 bif (decide (b2<(b0.length:Int)))then
 (bif (decide (b2<b1))then
 (gd (inB b2 (b0.length))
 (match zdt N (rdL b0 b2 zzk)with
 | some r1=>(gd (fits (b3.length+1) 112)
 (let x2:=(b3++([r1]:List Z1))
 rec b0 b1 (aa .i64 (b2+(1:Int))) x2))
 | none=>none))
 else
 (some ((),(b3,()))))
 else
 (some ((),(b3,())))
def z7j(N:Nat)(n:Nat):=
 itF (fun _ _ _ _=>none) (q9 N) n
theorem y9o(N:Nat)(n:Nat):z7j N (n+1)=q9 N (z7j N n):=rfl
def zgc(N:Nat)(a0:(List J2))(a1:Int):Option ((List Z1)):=
 match z7j N N a0 a1 (0:Int) ([]:List Z1)with
 | some r3=>(some r3.2.1)
 | none=>none
def zi4(N:Nat)(a0:Int):Option ((List UInt8)):=
 let x1:=([([111,110,101]:List UInt8),([116,119,111]:List UInt8),([116,104,114,101,101]:List UInt8),([120]:List UInt8),([121]:List UInt8),([122]:List UInt8)]:List (List UInt8))
 gd (inB (aJ a0 (6:Int)) (x1.length))
 (let x2:=(rdL x1 (aJ a0 (6:Int)) ([]:List UInt8))
 some x2)
def z3o(N:Nat)(rec:(List UInt8)->Int->Z5->Option ypn)(b0:(List UInt8))(b1:Int)(b2:Z5):Option ypn:=
 bif (decide (b1<(b2.2.2.1.length:Int)))then
 (gd (inB b1 (b2.2.2.1.length))
 (let x2:=(eqs (((((rdL b2.2.2.1 b1 X1).2).2).2).1) b0)
 bif x2 then
 (some (.inl ((),((b2,((0:Int),(160:Int))),()))))
 else
 (rec b0 (aa .i64 (b1+(1:Int))) b2)))
 else
 (some (.inr ((b0,((),())),(b2,((),())))))
def z7s(N:Nat)(n:Nat):=
 itF (fun _ _ _=>none) (z3o N) n
theorem zgu(N:Nat)(n:Nat):z7s N (n+1)=z3o N (z7s N n):=rfl
def zi3(N:Nat)(a0:Z5)(a1:(List UInt8)):Option (zew):=
 (z9g N a1).bind fun r1=>
 bif (!r1)then
 (some (a0,((0:Int),(11:Int))))
 else
 ((z7s N N a1 (0:Int) a0).bind fun r3=>
 match r3 with
 | .inl r4=>(some r4.2.1)
 | .inr r5=>(let x6:=(decide ((16:Int)<=(r5.2.1.2.2.1.length:Int)))
 bif x6 then
 (some (r5.2.1,((0:Int),(161:Int))))
 else
 ((z9f N r5.2.1.1 r5.2.1.2.2.2.2.1).bind fun r7=>
 gd (fits (0+r5.2.1.2.2.1.length) 64)
 (let x8:=(([]:List W7)++r5.2.1.2.2.1)
 let x9:=([(r5.2.1.2.2.2.1,(r5.2.1.2.2.2.2.2.1,(r5.2.1.2.2.2.2.1,(r5.1.1,r5.2.1.2.2.2.2.2.2))))]:List W7)
 gd (fits (x8.length+x9.length) 64)
 (let x10:=(x8++x9)
 let x11:=(aa .i64 (r5.2.1.2.2.2.1+(1:Int)))
 some ((r7.1,(r5.2.1.2.1,(x10,(x11,(r5.2.1.2.2.2.2.1,(r5.2.1.2.2.2.1,([]:List Z1))))))),(r5.2.1.2.2.2.1,(0:Int))))))))
def zow(N:Nat)(a0:Z5)(a1:Int):Option (Int):=
 bif (eqi (a0.2.2.1.length:Int) (0:Int))then
 (some (9:Int))
 else
 (gd (!(eqi (a0.2.2.1.length:Int) 0))
 (let x1:=(aJ (aa .i64 (a1)) (a0.2.2.1.length:Int))
 gd (inB x1 (a0.2.2.1.length))
 (some ((rdL a0.2.2.1 x1 X1).1))))
def zg6(N:Nat)(a0:Z5)(a1:Int):Option ((Z5×Int)):=
 (zdd N a0 a1).bind fun r1=>
 bif (decide (r1<(0:Int)))then
 (some (a0,(160:Int)))
 else
 (gd (inB r1 (a0.2.2.1.length))
 ((z9f N a0.1 ((((rdL a0.2.2.1 r1 X1).2).2).1)).bind fun r2=>
 (z31 N r2.1 a0.2.2.2.2.1).bind fun r3=>
 gd (inB r1 (a0.2.2.1.length))
 (some ((r3.1,(a0.2.1,(a0.2.2.1,(a0.2.2.2.1,((((rdL a0.2.2.1 r1 X1).2).2).1,(a1,([]:List Z1))))))),(0:Int)))))
def z97(N:Nat)(a0:(List Z1))(a1:(List Z1)):Option ((List Z1)):=
 gd (fits (0+a0.length) 112)
 (let x1:=(([]:List Z1)++a0)
 gd (fits (x1.length+a1.length) 112)
 (let x2:=(x1++a1)
 (zch N x2).bind fun r3=>
 some r3))
def z10(N:Nat)(rec:Int->Int->Int->Z5->W7->(List Z7)->Int->Int->Int->Int->Int->Int->(List Z1)->(List W7)->Option yq0)(b0 b1 b2:Int)(b3:Z5)(b4:W7)(b5:(List Z7))(b6 b7 b8 b9 b10 b11:Int)(b12:(List Z1))(b13:(List W7)):Option yq0:=
 bif (decide (b2<(b3.2.2.1.length:Int)))then
 (gd (inB b2 (b3.2.2.1.length))
 (let x3:=(eqi (((rdL b3.2.2.1 b2 X1).2).1) b0)
 bif x3 then
 ((z97 N b4.2.2.2.2 (((((rdL b3.2.2.1 b2 X1).2).2).2).2)).bind fun r4=>
 bif (!(eqi b2 b1))then
 (let x5:=([((rdL b3.2.2.1 b2 X1).1,(b4.2.1,((((rdL b3.2.2.1 b2 X1).2).2).1,(((((rdL b3.2.2.1 b2 X1).2).2).2).1,r4))))]:List W7)
 gd (fits (b13.length+x5.length) 64)
 (let x6:=(b13++x5)
 rec b0 b1 (aa .i64 (b2+(1:Int))) b3 b4 b5 b6 b7 b8 b9 b10 b11 b12 x6))
 else
 (rec b0 b1 (aa .i64 (b2+(1:Int))) b3 b4 b5 b6 b7 b8 b9 b10 b11 b12 b13))
 else
 (bif (!(eqi b2 b1))then
 (let x7:=([(rdL b3.2.2.1 b2 X1)]:List W7)
 gd (fits (b13.length+x7.length) 64)
 (let x8:=(b13++x7)
 rec b0 b1 (aa .i64 (b2+(1:Int))) b3 b4 b5 b6 b7 b8 b9 b10 b11 b12 x8))
 else
 (rec b0 b1 (aa .i64 (b2+(1:Int))) b3 b4 b5 b6 b7 b8 b9 b10 b11 b12 b13))))
 else
 (some ((b0,((),((),((),())))),(b3,((),(b4,((b5,(b6,(b7,(b8,((),(b9,(b10,(b11,b12)))))))),(b13,())))))))
def z4p(N:Nat)(n:Nat):=
 itF (fun _ _ _ _ _ _ _ _ _ _ _ _ _ _=>none) (z10 N) n
theorem zde(N:Nat)(n:Nat):z4p N (n+1)=z10 N (z4p N n):=rfl
def zg5(N:Nat)(a0:Z5)(a1:Int):Option ((Z5×Int)):=
 (zdd N a0 a1).bind fun r1=>
 bif (decide (r1<(0:Int)))then
 (some (a0,(160:Int)))
 else
 (gd (inB r1 (a0.2.2.1.length))
 ((z31 N a0.1 ((((rdL a0.2.2.1 r1 X1).2).2).1)).bind fun r2=>
 (z4p N N a1 r1 (0:Int) a0 (rdL a0.2.2.1 r1 X1) r2.1 a0.2.1.1 a0.2.1.2.1 a0.2.1.2.2 a0.2.2.2.1 a0.2.2.2.2.1 a0.2.2.2.2.2.1 a0.2.2.2.2.2.2 ([]:List W7)).bind fun r9=>
 bif (eqi r9.2.1.2.2.2.2.2.1 r9.1.1)then
 ((z97 N r9.2.2.2.1.2.2.2.2 r9.2.1.2.2.2.2.2.2).bind fun r10=>
 some ((r9.2.2.2.2.1.1,((r9.2.2.2.2.1.2.1,(r9.2.2.2.2.1.2.2.1,r9.2.2.2.2.1.2.2.2.1)),(r9.2.2.2.2.2.1,(r9.2.2.2.2.1.2.2.2.2.2.1,(r9.2.2.2.2.1.2.2.2.2.2.2.1,(r9.2.2.2.1.2.1,r10)))))),(0:Int)))
 else
 (some ((r9.2.2.2.2.1.1,((r9.2.2.2.2.1.2.1,(r9.2.2.2.2.1.2.2.1,r9.2.2.2.2.1.2.2.2.1)),(r9.2.2.2.2.2.1,r9.2.2.2.2.1.2.2.2.2.2))),(0:Int)))))
def z0z(N:Nat)(b0:Int)(b1:Bool)(b2:Z5)(b3:y0):Option ((Unit×(Z5×Unit))⊕((Unit×(Unit×Unit))×(Z5×(y0×(Unit×Unit))))):=
 bif b1 then
 ((zgc N b3.2.2 (6:Int)).bind fun r1=>
 (zkr N b2 r1).bind fun r2=>
 some (.inl ((),(r2.1,()))))
 else
 (bif (eqi b0 (4:Int))then
 ((zi4 N b3.2.1).bind fun r3=>
 (zi3 N b2 r3).bind fun r4=>
 some (.inl ((),(r4.1,()))))
 else
 (bif (eqi b0 (5:Int))then
 ((zi4 N b3.2.1).bind fun r5=>
 (zi3 N b2 r5).bind fun r6=>
 some (.inl ((),(r6.1,()))))
 else
 (bif (eqi b0 (6:Int))then
 ((zow N b2 b3.2.1).bind fun r7=>
 (zg6 N b2 r7).bind fun r8=>
 some (.inl ((),(r8.1,()))))
 else
 (some (.inr (((),((),())),(b2,(b3,((),())))))))))
def z3b(N:Nat)(b0:Z5)(b1:y0):Option ((Unit×(Z5×Unit))):=
 (zow N b0 b1.2.1).bind fun r12=>
 (zg5 N b0 r12).bind fun r13=>
 some ((),(r13.1,()))
def zm1(N:Nat)(a0:Z5)(a1:y0):Option (Z5):=
 bif (eqi (aJ a1.1 (8:Int)) (0:Int))then
 ((z0z N (aJ a1.1 (8:Int)) true a0 a1).bind fun r9=>
 match r9 with
 | .inl r10=>(some r10.2.1)
 | .inr r11=>((z3b N r11.2.1 r11.2.2.1).bind fun r14=>
 some r14.2.1))
 else
 (bif (eqi (aJ a1.1 (8:Int)) (1:Int))then
 ((z0z N (aJ a1.1 (8:Int)) true a0 a1).bind fun r15=>
 match r15 with
 | .inl r16=>(some r16.2.1)
 | .inr r17=>((z3b N r17.2.1 r17.2.2.1).bind fun r18=>
 some r18.2.1))
 else
 (bif (eqi (aJ a1.1 (8:Int)) (2:Int))then
 ((z0z N (aJ a1.1 (8:Int)) true a0 a1).bind fun r19=>
 match r19 with
 | .inl r20=>(some r20.2.1)
 | .inr r21=>((z3b N r21.2.1 r21.2.2.1).bind fun r22=>
 some r22.2.1))
 else
 ((z0z N (aJ a1.1 (8:Int)) (eqi (aJ a1.1 (8:Int)) (3:Int)) a0 a1).bind fun r23=>
 match r23 with
 | .inl r24=>(some r24.2.1)
 | .inr r25=>((z3b N r25.2.1 r25.2.2.1).bind fun r26=>
 some r26.2.1))))
def z6j(N:Nat)(rec:(List y0)->Int->Z5->Option (((Unit×Unit)×(Unit×(Z5×Unit)))))(b0:(List y0))(b1:Int)(b2:Z5):Option (((Unit×Unit)×(Unit×(Z5×Unit)))):=
 bif (decide (b1<(b0.length:Int)))then
 (bif (decide (b1<(7:Int)))then
 (gd (inB b1 (b0.length))
 ((zm1 N b2 (rdL b0 b1 zjr)).bind fun r3=>
 rec b0 (aa .i64 (b1+(1:Int))) r3))
 else
 (some (((),()),((),(b2,())))))
 else
 (some (((),()),((),(b2,()))))
def zad(N:Nat)(n:Nat):=
 itF (fun _ _ _=>none) (z6j N) n
theorem zs4(N:Nat)(n:Nat):zad N (n+1)=z6j N (zad N n):=rfl
def zm2(N:Nat)(a0:Int)(a1:(List y0)):Option (Z5):=
 (zj3 N a0).bind fun r1=>
 (zkq N r1).bind fun r2=>
 (zad N N a1 (0:Int) r2.1).bind fun r4=>
 some r4.2.2.1
def zm0(N:Nat)(a0:zms):Option (V7):=
 bif (eqi (aJ a0.1 (8:Int)) (7:Int))then
 (let x1:=(aa .i64 ((30:Int)+(aa .i64 (a0.2.1))))
 bif (eqi (aJ a0.1 (8:Int)) (6:Int))then
 (let x2:=(aJ (aa .i64 (a0.2.1)) (24:Int))
 (zbx N x1 (aa .i64 ((4:Int)+x2))).bind fun r3=>
 some r3.1)
 else
 ((zbx N x1 (60:Int)).bind fun r4=>
 some r4.1))
 else
 (bif (eqi (aJ a0.1 (8:Int)) (6:Int))then
 (let x5:=(aJ (aa .i64 (a0.2.1)) (24:Int))
 (zbx N (1500:Int) (aa .i64 ((4:Int)+x5))).bind fun r6=>
 some r6.1)
 else
 ((zbx N (1500:Int) (60:Int)).bind fun r7=>
 some r7.1))
def zlz(N:Nat)(a0:zbt):Option (z09):=
 (zm2 N a0.1 a0.2.1).bind fun r1=>
 (zm0 N a0.2.2).bind fun r2=>
 let x3:=(aa .i64 ((aJ a0.2.2.2.2 (4:Int))))
 (zpd N r2 x3 r1).bind fun r4=>
 bif (!(eqi r4.2 (0:Int)))then
 (some ((((0:Int),(([]:List (List Int)),([]:List X0))),((([]:List Bool),(([]:List Int),(0:Int))),((0:Int),((0:Int),((0:Int),(([]:List Int),(([]:List Int),([]:List Int)))))))),(r1,r4.2)))
 else
 ((zdc N r4.1.1).bind fun r5=>
 some ((r5,r4.1.2),(r1,(0:Int))))
def z27(N:Nat)(rec:Int->Z5->(List Int)->Option ((Unit×((List Int)×Unit))))(b0:Int)(b1:Z5)(b2:(List Int)):Option ((Unit×((List Int)×Unit))):=
 bif (decide (b0<(b1.2.2.1.length:Int)))then
 (gd (inB b0 (b1.2.2.1.length))
 (let x1:=([(((rdL b1.2.2.1 b0 X1).2).2).1]:List Int)
 gd (fits (b2.length+x1.length) 8)
 (let x2:=(b2++x1)
 rec (aa .i64 (b0+(1:Int))) b1 x2)))
 else
 (some ((),(b2,())))
def z8f(N:Nat)(n:Nat):=
 itF (fun _ _ _=>none) (z27 N) n
theorem zf4(N:Nat)(n:Nat):z8f N (n+1)=z27 N (z8f N n):=rfl
def zob(N:Nat)(a0:Z5):Option ((List Int)):=
 (z8f N N (0:Int) a0 ([a0.2.2.2.2.1]:List Int)).bind fun r3=>
 some r3.2.1
def z2c(N:Nat)(rec:Int->(List Bool)->(List Int)->Option ((Unit×((List Int)×Unit))))(b0:Int)(b1:(List Bool))(b2:(List Int)):Option ((Unit×((List Int)×Unit))):=
 bif (decide (b0<(b1.length:Int)))then
 (gd (inB b0 (b1.length))
 (bif (rdL b1 b0 false)then
 (gd (fits (b2.length+1) 8)
 (let x10:=(b2++([b0]:List Int))
 rec (aa .i64 (b0+(1:Int))) b1 x10))
 else
 (rec (aa .i64 (b0+(1:Int))) b1 b2)))
 else
 (some ((),(b2,())))
def z67(N:Nat)(n:Nat):=
 itF (fun _ _ _=>none) (z2c N) n
theorem zf7(N:Nat)(n:Nat):z67 N (n+1)=z2c N (z67 N n):=rfl
def z2d(N:Nat)(rec:(List Int)->(List Z7)->(List Bool)->Option ((Unit×((List Bool)×Unit))))(b0:(List Int))(b1:(List Z7))(b2:(List Bool)):Option ((Unit×((List Bool)×Unit))):=
 let x3:=(decide ((0:Int)<(b0.length:Int)))
 bif x3 then
 (gd (inB (0:Int) (b0.length))
 (gd (decide (0<=(1:Int))&&(decide ((1:Int)<=(b0.length:Int))&&decide ((b0.length:Int)<=(b0.length:Int))))
 (match z7f N b1 (rdL b0 (0:Int) (0:Int))with
 | some r4=>(bif r4 then
 (gd (inB (rdL b0 (0:Int) (0:Int)) (b2.length))
 (let x5:=(!(rdL b2 (rdL b0 (0:Int) (0:Int)) false))
 bif x5 then
 (gd (inB (rdL b0 (0:Int) (0:Int)) (b2.length))
 (gd (fits (0+ap (cut2 b0 (1:Int) (b0.length:Int))) 8)
 (let x6:=(([]:List Int)++(cut2 b0 (1:Int) (b0.length:Int)))
 gd (inB (rdL b0 (0:Int) (0:Int)) (b1.length))
 (let x7:=(rdL b1 (rdL b0 (0:Int) (0:Int)) X4)
 gd (fits (x6.length+x7.2.2.2.2.2.1.length) 8)
 (let x8:=(x6++x7.2.2.2.2.2.1)
 rec x8 b1 (setL b2 (rdL b0 (0:Int) (0:Int)) true))))))
 else
 (rec (cut2 b0 (1:Int) (b0.length:Int)) b1 b2)))
 else
 (rec (cut2 b0 (1:Int) (b0.length:Int)) b1 b2))
 | none=>none)))
 else
 (some ((),(b2,())))
def z68(N:Nat)(n:Nat):=
 itF (fun _ _ _=>none) (z2d N) n
theorem zf8(N:Nat)(n:Nat):z68 N (n+1)=z2d N (z68 N n):=rfl
def zef(N:Nat)(a0:(List Z7))(a1:(List Int)):Option ((List Int)):=
 gd ((decide (0<=(a0.length:Int))&&decide ((a0.length:Int)<=(a0.length:Int)))&&(decide ((a0.length:Int)<maxB)&&decide ((a0.length:Int)*1<maxB)))
 (let x1:=(ar (cK (a0.length:Int)) false)
 gd (fits (0+a1.length) 8)
 (let x2:=(([]:List Int)++a1)
 match z68 N N x2 a0 x1 with
 | some r9=>(match z67 N N (0:Int) r9.2.1 ([]:List Int)with
 | some r11=>(some r11.2.1)
 | none=>none)
 | none=>none))
def z21(N:Nat)(rec:Int->Z4->Int->(List Int)->(List Int)->(List Int)->Option yje)(b0:Int)(b1:Z4)(b2:Int)(b3 b4 b5:(List Int)):Option yje:=
 bif (decide (b0<(b5.length:Int)))then
 (gd (inB b0 (b5.length))
 ((z9d N b1 (rdL b5 b0 (0:Int))).bind fun r3=>
 bif (decide ((0:Int)<=r3))then
 (gd (inB b0 (b5.length))
 (gd (fits (b3.length+1) 8)
 (let x4:=(b3++([(rdL b5 b0 (0:Int))]:List Int))
 rec (aa .i64 (b0+(1:Int))) b1 b2 x4 b4 b5)))
 else
 (rec (aa .i64 (b0+(1:Int))) b1 b2 b3 b4 b5)))
 else
 (some (((),()),((),(((),((),b2)),(b3,(b4,()))))))
def z8d(N:Nat)(n:Nat):=
 itF (fun _ _ _ _ _ _=>none) (z21 N) n
theorem zf0(N:Nat)(n:Nat):z8d N (n+1)=z21 N (z8d N n):=rfl
def zec(N:Nat)(a0:Z4)(a1:Z5):Option (X5):=
 (zob N a1).bind fun r1=>
 (zef N a1.1 r1).bind fun r2=>
 (z8d N N (0:Int) a0 (0:Int) ([]:List Int) ([]:List Int) r2).bind fun r5=>
 some (r5.2.2.2.1,(r5.2.2.2.2.1,r5.2.2.1.2.2))
def zlx(N:Nat)(a0:Z4)(a1:Int):Option (Bool):=
 (z9d N a0 a1).bind fun r1=>
 (zhm N a0.1 r1).bind fun r2=>
 bif (eqi r2.2 (0:Int))then
 (let x3:=(decide (a1<(a0.2.2.2.2.2.2.1.length:Int)))
 bif x3 then
 ((y9 N r2.1).bind fun r4=>
 gd (inB a1 (a0.2.2.2.2.2.2.1.length))
 (some (eqi r4 (rdL a0.2.2.2.2.2.2.1 a1 (0:Int)))))
 else
 (some false))
 else
 (some false)
def z3k(N:Nat)(rec:Int->Int->X5->Z4->(List Int)->Int->(List Int)->(List Int)->Option (((Unit×(Unit×Unit))×(Unit×((List Int)×Ty9_)))))(b0 b1:Int)(b2:X5)(b3:Z4)(b4:(List Int))(b5:Int)(b6 b7:(List Int)):Option (((Unit×(Unit×Unit))×(Unit×((List Int)×Ty9_)))):=
 bif (decide (b1<(b2.1.length:Int)))then
 (gd (inB b1 (b2.1.length))
 (bif (decide (b0<=b1))then
 (gd (fits (b6.length+1) 8)
 (let x2:=(b6++([(rdL b2.1 b1 (0:Int))]:List Int))
 rec b0 (aa .i64 (b1+(1:Int))) b2 b3 b4 b5 x2 b7))
 else
 ((z9d N b3 (rdL b2.1 b1 (0:Int))).bind fun r3=>
 bif (decide (r3<(0:Int)))then
 (rec b0 (aa .i64 (b1+(1:Int))) b2 b3 b4 b5 b6 b7)
 else
 ((zlx N b3 (rdL b2.1 b1 (0:Int))).bind fun r4=>
 bif r4 then
 (rec b0 (aa .i64 (b1+(1:Int))) b2 b3 b4 (aa .i64 (b5+(1:Int))) b6 b7)
 else
 (gd (fits (b4.length+1) 8)
 (let x5:=(b4++([(rdL b2.1 b1 (0:Int))]:List Int))
 rec b0 (aa .i64 (b1+(1:Int))) b2 b3 x5 b5 b6 b7))))))
 else
 (some (((),((),())),((),(b4,(((),((),b5)),(b6,(b7,())))))))
def za8(N:Nat)(n:Nat):=
 itF (fun _ _ _ _ _ _ _ _=>none) (z3k N) n
theorem zgq(N:Nat)(n:Nat):za8 N (n+1)=z3k N (za8 N n):=rfl
def z5p(N:Nat)(a0:X5)(a1:Z4)(a2:Int):Option ((X5×Int)):=
 bif (decide (a2<(0:Int)))then
 (some (a0,(280:Int)))
 else
 (gd (fits (0+a0.2.1.length) 8)
 (let x1:=(([]:List Int)++a0.2.1)
 (za8 N N a2 (0:Int) a0 a1 x1 a0.2.2 ([]:List Int) ([]:List Int)).bind fun r6=>
 some ((r6.2.2.2.2.1,(r6.2.2.1,r6.2.2.2.1.2.2)),(0:Int))))
def U6(N:Nat)(b0:(List U9))(b1:Bool)(b2:Int)(b3:Bool)(b4:Z4)(b5:v7):Option ((Bool×Unit)⊕ypl):=
 bif b3 then
 (some (.inl (false,())))
 else
 (some (.inr ((b0,(b1,((),((),b2)))),(b4,(b5,())))))
def z00(N:Nat)(b0:(List U9))(b1:Bool)(b3:Int)(b4:Z4)(b5:v7)(b6:zcl)(b7:X5):Option ync:=
 (z76 N b6.1 b7).bind fun r14=>
 bif (!r14)then
 (some ((b0,(b1,((),((),((0:Int),true))))),(b4,(b5,()))))
 else
 (bif (!(eqi b6.2 b3))then
 (some ((b0,(b1,((),((),((0:Int),true))))),(b4,(b5,()))))
 else
 ((zbf N b5.1).bind fun r15=>
 let x16:=(!(eqb r15 (eqi (b5.1.1.length:Int) (0:Int))))
 some ((b0,(b1,((),((),((0:Int),x16))))),(b4,(b5,())))))
def g9(N:Nat)(b0:(List U9))(b1:Bool)(b3:Int)(b4:Z4)(b5:v7)(b6:zcl)(b7:X5):Option ync:=
 (z76 N b6.1 b7).bind fun r17=>
 bif (!r17)then
 (some ((b0,(b1,((),((),((1:Int),true))))),(b4,(b5,()))))
 else
 (bif (!(eqi b6.2 b3))then
 (some ((b0,(b1,((),((),((1:Int),true))))),(b4,(b5,()))))
 else
 ((zbf N b5.2).bind fun r18=>
 let x19:=(!(eqb r18 (eqi (b5.2.1.length:Int) (0:Int))))
 some ((b0,(b1,((),((),((1:Int),x19))))),(b4,(b5,())))))
def W8(N:Nat)(b0:(List U9))(b1:Bool)(b2 b3:Int)(b4:Z4)(b5:v7)(b6:zcl)(b7:X5):Option ync:=
 bif eqi b2 (1:Int)then g9 N b0 b1 b3 b4 b5 b6 b7 else bif eqi b2 (0:Int)then z00 N b0 b1 b3 b4 b5 b6 b7 else none
def U7(N:Nat)(b0:(List U9))(b1:Bool)(b2:Int)(b3:Z4)(b4:v7):Option (ypl):=
 some ((b0,(b1,((),((),(aa .i64 (b2+(1:Int))))))),(b3,(b4,())))
def Q4(N:Nat)(rec:(List U9)->Bool->Int->Z4->v7->Option yjd)(b0:(List U9))(b1:Bool)(b2:Int)(b3:Z4)(b4:v7):Option yjd:=
 bif (decide (b2<(2:Int)))then
 (let x11:=(aa .i64 ((b0.length:Int)-(1:Int)))
 bif (eqi b2 (1:Int))then
 ((z34 N b4.2 b3 x11).bind fun r12=>
 bif (eqi b2 (1:Int))then
 ((z5p N b4.2 b3 x11).bind fun r13=>
 (W8 N b0 b1 b2 r13.2 b3 b4 r12 r13.1).bind fun r20=>
 (U6 N r20.1.1 r20.1.2.1 r20.1.2.2.2.2.1 r20.1.2.2.2.2.2 r20.2.1 r20.2.2.1).bind fun r21=>
 match r21 with
 | .inl r22=>(some (.inl (r22.1,())))
 | .inr r23=>((U7 N r23.1.1 r23.1.2.1 r23.1.2.2.2.2 r23.2.1 r23.2.2.1).bind fun r24=>
 rec r24.1.1 r24.1.2.1 r24.1.2.2.2.2 r24.2.1 r24.2.2.1))
 else
 (bif (eqi b2 (0:Int))then
 ((z5p N b4.1 b3 x11).bind fun r25=>
 (W8 N b0 b1 b2 r25.2 b3 b4 r12 r25.1).bind fun r26=>
 (U6 N r26.1.1 r26.1.2.1 r26.1.2.2.2.2.1 r26.1.2.2.2.2.2 r26.2.1 r26.2.2.1).bind fun r27=>
 match r27 with
 | .inl r28=>(some (.inl (r28.1,())))
 | .inr r29=>((U7 N r29.1.1 r29.1.2.1 r29.1.2.2.2.2 r29.2.1 r29.2.2.1).bind fun r30=>
 rec r30.1.1 r30.1.2.1 r30.1.2.2.2.2 r30.2.1 r30.2.2.1))
 else
 (none)))
 else
 (bif (eqi b2 (0:Int))then
 ((z34 N b4.1 b3 x11).bind fun r31=>
 bif (eqi b2 (1:Int))then
 ((z5p N b4.2 b3 x11).bind fun r32=>
 (W8 N b0 b1 b2 r32.2 b3 b4 r31 r32.1).bind fun r33=>
 (U6 N r33.1.1 r33.1.2.1 r33.1.2.2.2.2.1 r33.1.2.2.2.2.2 r33.2.1 r33.2.2.1).bind fun r34=>
 match r34 with
 | .inl r35=>(some (.inl (r35.1,())))
 | .inr r36=>((U7 N r36.1.1 r36.1.2.1 r36.1.2.2.2.2 r36.2.1 r36.2.2.1).bind fun r37=>
 rec r37.1.1 r37.1.2.1 r37.1.2.2.2.2 r37.2.1 r37.2.2.1))
 else
 (bif (eqi b2 (0:Int))then
 ((z5p N b4.1 b3 x11).bind fun r38=>
 (W8 N b0 b1 b2 r38.2 b3 b4 r31 r38.1).bind fun r39=>
 (U6 N r39.1.1 r39.1.2.1 r39.1.2.2.2.2.1 r39.1.2.2.2.2.2 r39.2.1 r39.2.2.1).bind fun r40=>
 match r40 with
 | .inl r41=>(some (.inl (r41.1,())))
 | .inr r42=>((U7 N r42.1.1 r42.1.2.1 r42.1.2.2.2.2 r42.2.1 r42.2.2.1).bind fun r43=>
 rec r43.1.1 r43.1.2.1 r43.1.2.2.2.2 r43.2.1 r43.2.2.1))
 else
 (none)))
 else
 (none)))
 else
 (some (.inr (b1,())))
def W0(N:Nat)(n:Nat):=
 itF (fun _ _ _ _ _=>none) (Q4 N) n
theorem y7(N:Nat)(n:Nat):W0 N (n+1)=Q4 N (W0 N n):=rfl
def Q5(N:Nat)(rec:(List U9)->Bool->Int->X5->z09->X5->Z4->Option ypv)(b0:(List U9))(b1:Bool)(b2:Int)(b3:X5)(b4:z09)(b5:X5)(b6:Z4):Option ypv:=
 bif (decide (b2<(b0.length:Int)))then
 (bif (decide (b2<(3:Int)))then
 (gd (inB b2 (b0.length))
 ((z5c N b6 b5.1 (rdL b0 b2 z0q)).bind fun r6=>
 rec b0 b1 (aa .i64 (b2+(1:Int))) b3 b4 b5 r6.1))
 else
 (some ((b0,((),(b1,((),((),()))))),(b3,(b4,(b5,(b6,())))))))
 else
 (some ((b0,((),(b1,((),((),()))))),(b3,(b4,(b5,(b6,()))))))
def K8(N:Nat)(n:Nat):=
 itF (fun _ _ _ _ _ _ _=>none) (Q5 N) n
theorem z35(N:Nat)(n:Nat):K8 N (n+1)=Q5 N (K8 N n):=rfl
def z0s(N:Nat)(b0:(List U9))(b1:Bool)(b2:X5)(b3:z09):Option ((Bool×Unit)):=
 (zec N b3.1 b3.2.1).bind fun r5=>
 (K8 N N b0 b1 (0:Int) b2 b3 r5 b3.1).bind fun r7=>
 (zbl N r7.2.2.2.2.1 r7.2.2.1.2.1).bind fun r8=>
 (zec N r7.2.2.2.2.1 r7.2.2.1.2.1).bind fun r9=>
 (z76 N r8 r9).bind fun r10=>
 bif (!r10)then
 (some (false,()))
 else
 ((W0 N N r7.1.1 r7.1.2.2.1 (0:Int) r7.2.2.2.2.1 (r7.2.2.2.1,r7.2.1)).bind fun r44=>
 match r44 with
 | .inl r45=>(some (r45.1,()))
 | .inr r46=>(some (r46.1,())))
def k8(N:Nat)(a0:zbt)(a1:(List U9))(a2:X5):Option (Bool):=
 (zck N).bind fun r1=>
 (zlz N a0).bind fun r2=>
 bif (!(eqi r2.2.2 (0:Int)))then
 (some r1)
 else
 (let x3:=(decide ((20:Int)<(a2.1.length:Int)))
 bif x3 then
 (some r1)
 else
 (let x4:=(decide ((20:Int)<(a2.2.1.length:Int)))
 bif x4 then
 (some r1)
 else
 ((z0s N a1 r1 a2 r2).bind fun r47=>
 some r47.1)))
end Ds
