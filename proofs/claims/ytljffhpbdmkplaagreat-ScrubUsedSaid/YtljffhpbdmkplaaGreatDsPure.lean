/- Printed by a program of the session's: what the program's functions compute, and that they do. -/
import Derived.Test.YtljffhpbdmkplaaGreatDvD
set_option linter.all false
open Int renaming fdiv->cT,tdiv->cP,tmod->aB,toNat->cc
open Go.IntKind renaming bits->aM,wrap->aa
open List renaming length->ak,replicate->az
namespace Ds
open Go Go.Dv
def z14:Ty:=(.pair (.int .u8) (.pair (.int .u8) (.pair (.int .u8) (.pair (.int .u8) (.pair (.int .u8) (.int .u8))))))
abbrev y9:Type:=(Int×(Int×(Int×(Int×(Int×Int)))))
abbrev y9d:y9:=((0:Int),((0:Int),((0:Int),((0:Int),((0:Int),(0:Int))))))
def w5:Ty:=(.pair (.int .u8) (.pair (.int .u8) (.list z14)))
abbrev K6:Type:=(Int×(Int×(List y9)))
abbrev z98:K6:=((0:Int),((0:Int),([]:List y9)))
def y14:Ty:=(.pair (.int .u8) (.pair (.int .u8) (.int .u8)))
abbrev ztj:Type:=(Int×(Int×Int))
abbrev yqw:ztj:=((0:Int),((0:Int),(0:Int)))
def zee:Ty:=(.pair (.int .u8) (.pair (.list w5) y14))
abbrev zed:Type:=(Int×((List K6)×ztj))
abbrev x2j:zed:=((0:Int),(([]:List K6),yqw))
def z15:Ty:=(.pair (.list (.int .i64)) (.pair (.list (.int .i64)) (.int .i64)))
abbrev v8:Type:=((List Int)×((List Int)×Int))
abbrev y9f:v8:=(([]:List Int),(([]:List Int),(0:Int)))
def Q6:Ty:=(.pair .bool (.pair (.int .i64) (.list (.int .u8))))
abbrev Y5:Type:=(Bool×(Int×(List Int)))
abbrev z2d:Y5:=(false,((0:Int),([]:List Int)))
def K0:Ty:=(.pair (.int .i64) (.pair (.list (.list (.int .u8))) (.list Q6)))
abbrev W0:Type:=(Int×((List (List Int))×(List Y5)))
abbrev yqv:W0:=((0:Int),(([]:List (List Int)),([]:List Y5)))
def V1:Ty:=(.pair (.list .bool) (.pair (.list (.int .i64)) (.int .i64)))
abbrev X3:Type:=((List Bool)×((List Int)×Int))
abbrev y9g:X3:=(([]:List Bool),(([]:List Int),(0:Int)))
def Y1:Ty:=(.pair K0 (.pair V1 (.pair (.int .i64) (.pair (.int .i64) (.pair (.int .i64) (.pair (.list (.int .i64)) (.pair (.list (.int .u64)) (.list (.int .i64)))))))))
abbrev Z4:Type:=(W0×(X3×(Int×(Int×(Int×((List Int)×((List Int)×(List Int))))))))
abbrev zvq:Z4:=(yqv,(y9g,((0:Int),((0:Int),((0:Int),(([]:List Int),(([]:List Int),([]:List Int))))))))
def Y3:Ty:=(.pair .str (.pair .str (.int .i64)))
abbrev Z7:Type:=((List UInt8)×((List UInt8)×Int))
abbrev X6:Z7:=(([]:List UInt8),(([]:List UInt8),(0:Int)))
def z5a:Ty:=(.pair (.int .i64) (.int .i64))
abbrev z00:Type:=(Int×Int)
abbrev zb4:z00:=((0:Int),(0:Int))
def y0:Ty:=(.pair z5a z5a)
abbrev X0:Type:=(z00×z00)
abbrev z0u:X0:=(zb4,zb4)
def Z2:Ty:=(.pair .str .str)
abbrev Z0:Type:=((List UInt8)×(List UInt8))
abbrev Y7:Z0:=(([]:List UInt8),([]:List UInt8))
def Z5:Ty:=(.pair (.int .i64) (.pair .str (.pair .str (.pair Z2 (.pair .str (.pair .str (.int .i64)))))))
abbrev Z1:Type:=(Int×((List UInt8)×((List UInt8)×(Z0×((List UInt8)×((List UInt8)×Int))))))
abbrev K3:Z1:=((0:Int),(([]:List UInt8),(([]:List UInt8),(Y7,(([]:List UInt8),(([]:List UInt8),(0:Int)))))))
def Y0:Ty:=(.pair (.list Y3) (.pair (.list .str) (.pair (.list (.int .i64)) (.pair (.list y0) (.list Z5)))))
abbrev Z6:Type:=((List Z7)×((List (List UInt8))×((List Int)×((List X0)×(List Z1)))))
abbrev zo5:Z6:=(([]:List Z7),(([]:List (List UInt8)),(([]:List Int),(([]:List X0),([]:List Z1)))))
def Y6:Ty:=(.pair .bool (.pair .bool (.pair (.int .i64) Y0)))
abbrev Z8:Type:=(Bool×(Bool×(Int×Z6)))
abbrev X1:Z8:=(false,(false,((0:Int),zo5)))
def z59:Ty:=(.pair (.int .i64) (.pair (.int .i64) (.int .i64)))
abbrev Q4:Type:=(Int×(Int×Int))
abbrev y9e:Q4:=((0:Int),((0:Int),(0:Int)))
def z7p:Ty:=(.pair (.int .i64) (.pair (.int .i64) (.pair (.int .i64) (.pair .str (.list Z5)))))
abbrev V6:Type:=(Int×(Int×(Int×((List UInt8)×(List Z1)))))
abbrev Y8:V6:=((0:Int),((0:Int),((0:Int),(([]:List UInt8),([]:List Z1)))))
def Z9:Ty:=(.pair (.list Y6) (.pair z59 (.pair (.list z7p) (.pair (.int .i64) (.pair (.int .i64) (.pair (.int .i64) (.list Z5)))))))
abbrev Z3:Type:=((List Z8)×(Q4×((List V6)×(Int×(Int×(Int×(List Z1)))))))
abbrev y45:Z3:=(([]:List Z8),(y9e,(([]:List V6),((0:Int),((0:Int),((0:Int),([]:List Z1)))))))
def z8j:Ty:=(.pair Y1 (.pair Z9 (.int .i64)))
abbrev z3j:Type:=(Z4×(Z3×Int))
abbrev yw3:z3j:=(zvq,(y45,(0:Int)))
def y9c:Ty:=(.pair (.int .u8) (.pair (.int .u16) (.int .u8)))
abbrev y9b:Type:=(Int×(Int×Int))
abbrev x2i:y9b:=((0:Int),((0:Int),(0:Int)))
def y44:Ty:=(.pair z15 (.int .i64))
abbrev y42:Type:=(v8×Int)
abbrev x0c:y42:=(y9f,(0:Int))
def zie:Ty:=(.pair Y1 (.int .i64))
abbrev zic:Type:=(Z4×Int)
abbrev yzd:zic:=(zvq,(0:Int))
def y43:Ty:=(.pair (.int .i64) (.pair (.int .i64) (.int .u8)))
abbrev y41:Type:=(Int×(Int×Int))
abbrev x09:y41:=((0:Int),((0:Int),(0:Int)))
def zjm:Ty:=(.pair Z9 (.pair (.int .i64) (.int .i64)))
abbrev zjl:Type:=(Z3×(Int×Int))
abbrev yvz:zjl:=(y45,((0:Int),(0:Int)))
def yjk:Ty:=(.pair z15 Y1)
abbrev yjj:Type:=(v8×Z4)
abbrev x08:yjj:=(y9f,zvq)
def W9:Ty:=(.pair (.list Y6) (.pair (.int .i64) z59))
abbrev Y4:Type:=((List Z8)×(Int×Q4))
abbrev ye7:Y4:=(([]:List Z8),((0:Int),y9e))
def zau:Ty:=(.pair W9 (.pair (.int .i64) (.int .i64)))
abbrev z6j:Type:=(Y4×(Int×Int))
abbrev yw4:z6j:=(ye7,((0:Int),(0:Int)))
def zqk:Ty:=(.pair (.list Y6) (.pair (.int .i64) (.int .i64)))
abbrev zid:Type:=((List Z8)×(Int×Int))
abbrev yzh:zid:=(([]:List Z8),((0:Int),(0:Int)))
def zv8:Ty:=(.pair (.list Z5) (.list Z2))
abbrev zv7:Type:=((List Z1)×(List Z0))
abbrev yw5:zv7:=(([]:List Z1),([]:List Z0))
def zqh:Ty:=(.pair V1 (.pair (.int .i64) (.int .i64)))
abbrev zqf:Type:=(X3×(Int×Int))
abbrev yze:zqf:=(y9g,((0:Int),(0:Int)))
def zle:Ty:=(.pair (.list (.int .i64)) .bool)
abbrev y8:Type:=((List Int)×Bool)
abbrev x0a:y8:=(([]:List Int),false)
def yp0:Ty:=(.pair (.int .i64) (.pair (.int .i64) (.pair (.int .i64) (.int .i64))))
abbrev zwn:Type:=(Int×(Int×(Int×Int)))
abbrev x5i:zwn:=((0:Int),((0:Int),((0:Int),(0:Int))))
def zsb:Ty:=(.pair Y0 (.pair Z2 (.int .i64)))
abbrev zld:Type:=(Z6×(Z0×Int))
abbrev x0b:zld:=(zo5,(Y7,(0:Int)))
def zqj:Ty:=(.pair (.list Y0) (.pair (.list .str) (.list Z5)))
abbrev zqg:Type:=((List Z6)×((List (List UInt8))×(List Z1)))
abbrev yzg:zqg:=(([]:List Z6),(([]:List (List UInt8)),([]:List Z1)))
def zj0:Ty:=(.pair (.list Y0) (.pair (.list .str) (.list Z5)))
abbrev ziz:Type:=((List Z6)×((List (List UInt8))×(List Z1)))
abbrev x2k:ziz:=(([]:List Z6),(([]:List (List UInt8)),([]:List Z1)))
def z9r:Ty:=(.pair W9 (.pair (.int .i64) (.int .i64)))
abbrev z9q:Type:=(Y4×(Int×Int))
abbrev yw0:z9q:=(ye7,((0:Int),(0:Int)))
def zn7:Ty:=(.pair (.int .i64) (.int .i64))
abbrev zcg:Type:=(Int×Int)
abbrev x5h:zcg:=((0:Int),(0:Int))
def zvp:Ty:=(.pair (.list Z5) (.pair (.list Z5) (.list Z2)))
abbrev zpn:Type:=((List Z1)×((List Z1)×(List Z0)))
abbrev x2l:zpn:=(([]:List Z1),(([]:List Z1),([]:List Z0)))
def zqi:Ty:=(.pair (.list Y6) (.pair (.list (.int .i64)) (.int .i64)))
abbrev zd2:Type:=((List Z8)×((List Int)×Int))
abbrev yzf:zd2:=(([]:List Z8),(([]:List Int),(0:Int)))
def z3q:Ty:=(.pair .str (.pair (.int .i64) (.pair (.int .i64) .str)))
abbrev z0e:Type:=((List UInt8)×(Int×(Int×(List UInt8))))
abbrev x2m:z0e:=(([]:List UInt8),((0:Int),((0:Int),([]:List UInt8))))
abbrev Ty0_:Type:=(Int×((List (List Int))×((List Y5)×((List Bool)×((List Int)×(Int×(Int×(Int×(Int×(Unit×(Unit×Unit)))))))))))
abbrev Ty1_:Type:=((List Int)×(Unit×(Int×(Int×((List (List Int))×((List Y5)×((List Bool)×((List Int)×(Int×(Int×(Int×(Int×((List Int)×((List Int)×(List Int)))))))))))))))
abbrev Ty2_:Type:=(Int×((List (List Int))×((List Y5)×((List Bool)×((List Int)×(Int×(Int×(Int×(Int×(Unit×(Unit×(List Int))))))))))))
abbrev Ty3_:Type:=(Unit×(Unit×((List Int)×Unit)))
abbrev Ty4_:Type:=((Bool×Unit)⊕(Unit×Unit))
abbrev Ty5_:Type:=((Unit×((List Z8)×(Unit×((List Int)×(Bool×((Unit×(Unit×(Unit×(Unit×Unit))))×Ty3_)))))))
abbrev Ty6_:Type:=(((Unit×Unit)×(Z6×((List Int)×Unit))))
abbrev Ty7_:Type:=(Z3×(Ty0_×((List Int)×((List Int)×((List Int)×(Z4×Unit))))))
abbrev Ty8_:Type:=((List Int)×((List Int)×Unit))
abbrev Ty9_:Type:=(Unit×((Unit×(Unit×(Unit×(Unit×(Unit×((List UInt8)×((List UInt8)×Int)))))))×((List Z7)×((List (List UInt8))×((List Int)×((List X0)×((List Z1)×Unit)))))))
abbrev yl3:Type:=(Unit×((Unit×Unit)×(Int×(Unit×(Ty1_×((List Int)×(Unit×Unit)))))))
abbrev x01:Type:=((Unit×((Unit×(Unit×Unit))×(Int×((List Int)×(Unit×((List Int)×Unit))))))⊕(Unit×((Unit×(Unit×Unit))×(Int×(Unit×((List Int)×(Int×Unit)))))))
abbrev yl2:Type:=((Bool×Unit)⊕((Unit×Unit)×(Z6×(Z0×Unit))))
abbrev y13:Type:=(Unit×((List Z7)×Unit))
abbrev x00:Type:=(((Unit×(Unit×(Unit×(Unit×(Unit×Int)))))×(Ty2_×((List Int)×((List Int)×(Z3×(Unit×(Z4×((List Int)×Unit)))))))))
abbrev yl1:Type:=(Unit×(Unit×(Unit×Unit)))
abbrev yvx:Type:=(((Unit×(Unit×Unit))×(X3×(Unit×((List Bool)×Unit)))))
abbrev x3x:Type:=(((Int×yl1)×(Z3×(Unit×(V6×(((List Z8)×(Int×(Int×(Int×(Unit×(Int×(Int×(Int×(List Z1)))))))))×((List V6)×Unit)))))))
abbrev yzz:Type:=((Unit×(Unit×Unit))×((List Z1)×((List Z1)×((List Z0)×Unit))))
abbrev x3w:Type:=((Unit×((Unit×(Unit×Int))×((List Z8)×((List Int)×Unit))))⊕((Unit×Unit)×(Unit×(((List Z8)×(Unit×Int))×((List Int)×Unit)))))
abbrev yl0:Type:=((Unit×((List Z0)×Unit)))
abbrev yqs:Type:=(Unit×(Unit×((List (List Int))×Unit)))
abbrev x3v:Type:=(((Unit×((List Int)×Bool))×(Z4×Unit))⊕((Unit×(Unit×Unit))×(Ty2_×((List Int)×((List Int)×(Unit×((List Int)×Unit)))))))
abbrev yzy:Type:=((Int×(Unit×Unit))×((List (List Int))×((List Y5)×Unit)))
abbrev x3u:Type:=((Unit×Ty7_)⊕((Unit×(Unit×(List Int)))×(Ty0_×((List Int)×((List Int)×((List Int)×(Z4×(Z3×Unit))))))))
abbrev x3t:Type:=(((Int×(Unit×Unit))×(Unit×((List Int)×(Unit×(Unit×((List Int)×((List Z8)×(Bool×((Unit×yl1)×Unit))))))))))
abbrev yvw:Type:=((List Z8)×(Z6×(Unit×Unit)))
abbrev x3s:Type:=(((Unit×Int)×(Z3×Unit))⊕(((List Z1)×(Unit×(Unit×Unit)))×(Z3×(Unit×(Y4×Unit)))))
abbrev yqr:Type:=(Unit×(Ty1_×((List Int)×Unit)))
abbrev x3r:Type:=((Unit×(zic×Unit))⊕((Unit×(Unit×(Unit×Ty8_)))×(Z4×(Unit×(Z4×((List Int)×Unit))))))
abbrev x3q:Type:=((Unit×((Unit×((List Int)×(Int×(Int×Int))))×((List Bool)×Unit)))⊕((Unit×Unit)×(X3×(Unit×Unit))))
abbrev yqq:Type:=((Unit×Int)×(Y4×Unit))
abbrev x3p:Type:=(((Unit×Unit)×(Unit×((Unit×(Unit×Unit))×((List Z6)×((List (List UInt8))×((List Z1)×Unit)))))))
abbrev yvv:Type:=(Z3×(Unit×((List Int)×Unit)))
abbrev x3o:Type:=(((Unit×Unit)×((Unit×(Unit×Unit))×((List Z1)×((List Z1)×((List Z0)×(Unit×Unit)))))))
abbrev yvu:Type:=(Unit×(Unit×((List Z8)×Unit)))
abbrev x3n:Type:=((((List Z7)×Int)×Unit)⊕(((List Z0)×(Unit×Unit))×(Z6×((List Z7)×Unit))))
abbrev yzx:Type:=((Unit×(Unit×Int))×((List Bool)×((List Int)×Unit)))
abbrev x3m:Type:=(((Unit×Unit)×(Unit×((Unit×(Unit×(List Z1)))×((List Z6)×((List (List UInt8))×Unit))))))
abbrev yvt:Type:=(Z0×((List Z0)×Unit))
abbrev x3l:Type:=((((List Z0)×yl1)×((List Z8)×(Z0×(Z6×((List Z0)×Unit))))))
abbrev x3k:Type:=((Unit×(zjl×Unit))⊕(((List UInt8)×(Unit×Unit))×(Z3×(Unit×Unit))))
abbrev x3j:Type:=(((Unit×Int)×(X3×Unit))⊕((Int×(Unit×Unit))×(X3×(Unit×Unit))))
abbrev yvs:Type:=((Unit×((List X0)×Unit)))
abbrev x3i:Type:=((((List Z7)×((List Z0)×(Unit×(Int×Bool))))×((List Z7)×Unit)))
abbrev x3h:Type:=(((Bool×(Unit×(Unit×Unit)))×(z3j×(v8×(Z3×Unit)))))
abbrev yvr:Type:=(Z6×((List Int)×Unit))
abbrev x3g:Type:=(((Unit×Int)×(Z6×Unit))⊕((Unit×(Unit×Unit))×(Z6×y13)))
abbrev x3f:Type:=(Ty9_⊕((Unit×(Unit×(Int×Unit)))×(Unit×(Z6×(Z0×Unit)))))
abbrev yzw:Type:=((List Z0)×((List Z0)×Unit))
abbrev x3e:Type:=(((Int×Int)×(Ty0_×((List Int)×Ty8_)))⊕(Unit×(Ty0_×((List Int)×Ty8_))))

def zis(N:Nat)(a0:Q4):Option (Bool):=
 bif (decide (2<=a0.1))then
 (bif (decide (a0.1<=64))then
 (bif (decide (2<=a0.2.1))then
 (bif (decide (a0.2.1<=16))then
 (bif (decide (1<=a0.2.2))then
 (some (decide (a0.2.2<=64)))
 else
 (some false))
 else
 (some false))
 else
 (some false))
 else
 (some false))
 else
 (some false)
def zbc(N:Nat)(a0:(List Z8))(a1:Int):Option (Bool):=
 bif (decide (0<=a1))then
 (bif (decide (a1<(a0.length:Int)))then
 (gd (inB a1 (a0.length))
 (some ((rdL a0 a1 X1).1)))
 else
 (some false))
 else
 (some false)
def zby(N:Nat)(a0:(List Z8)):Option ((List Z8)):=
 gd (fits (0+a0.length) 136)
 (let x1:=([]++a0)
 some x1)
def z7e(N:Nat)(rec:Int->Int->Z6->(List Z8)->Option (((Unit×(Int×Unit))×yvu)))(b0 b1:Int)(b2:Z6)(b3:(List Z8)):Option (((Unit×(Int×Unit))×yvu)):=
 bif (decide (b1<(b2.2.2.1.length:Int)))then
 (gd (inB b1 (b2.2.2.1.length))
 (gd (inB (rdL b2.2.2.1 b1 0) (b3.length))
 (let x10:=(((rdL b3 (rdL b2.2.2.1 b1 0) X1).2).2).1
 gd (inB (rdL b2.2.2.1 b1 0) (b3.length))
 (let x11:=(setL b3 (rdL b2.2.2.1 b1 0) ((rdL b3 (rdL b2.2.2.1 b1 0) X1).1,(((rdL b3 (rdL b2.2.2.1 b1 0) X1).2).1,((aa .i64 (x10+1)),((((rdL b3 (rdL b2.2.2.1 b1 0) X1).2).2).2)))))
 rec b0 (aa .i64 (b1+1)) b2 x11))))
 else
 (some (((),(b0,())),((),((),(b3,())))))
def z9d(N:Nat)(n:Nat):=
 itF (fun _ _ _ _=>none) (z7e N) n
theorem zol(N:Nat)(n:Nat):z9d N (n+1)=z7e N (z9d N n):=rfl
def z7f(N:Nat)(rec:Int->(List Z8)->Z6->Option (((Unit×(Unit×(Unit×Int)))×yvw)))(b0:Int)(b1:(List Z8))(b2:Z6):Option (((Unit×(Unit×(Unit×Int)))×yvw)):=
 bif (decide (b0<(b1.length:Int)))then
 (gd (inB b0 (b1.length))
 (bif (rdL b1 b0 X1).1 then
 (rec (aa .i64 (b0+1)) b1 b2)
 else
 (some (((),((),((),b0))),(b1,(b2,((),())))))))
 else
 (some (((),((),((),b0))),(b1,(b2,((),())))))
def zfn(N:Nat)(n:Nat):=
 itF (fun _ _ _=>none) (z7f N) n
theorem zom(N:Nat)(n:Nat):zfn N (n+1)=z7f N (zfn N n):=rfl
def z7g(N:Nat)(rec:Int->(List Z8)->Z6->Option ((Unit×(zid×Unit))⊕((Unit×(Unit×Unit))×yvw)))(b0:Int)(b1:(List Z8))(b2:Z6):Option ((Unit×(zid×Unit))⊕((Unit×(Unit×Unit))×yvw)):=
 bif (decide (b0<(b2.2.2.1.length:Int)))then
 (gd (inB b0 (b2.2.2.1.length))
 (match zbc N b1 (rdL b2.2.2.1 b0 0)with
 | some r1=>(bif (!r1)then
 (some (.inl ((),((b1,(0,110)),()))))
 else
 (rec (aa .i64 (b0+1)) b1 b2))
 | none=>none))
 else
 (some (.inr (((),((),())),(b1,(b2,((),()))))))
def zfo(N:Nat)(n:Nat):=
 itF (fun _ _ _=>none) (z7g N) n
theorem zon(N:Nat)(n:Nat):zfo N (n+1)=z7g N (zfo N n):=rfl
def z8p(N:Nat)(a0:(List Z8))(a1:Z6):Option (zid):=
 match zfo N N 0 a0 a1 with
 | some r2=>(match r2 with
 | .inl r3=>(some r3.2.1)
 | .inr r4=>(match zfn N N 0 r4.2.1 r4.2.2.1 with
 | some r5=>(bif (decide (4096<=r5.1.2.2.2))then
 (some (r5.2.1,(0,111)))
 else
 (match zby N r5.2.1 with
 | some r6=>(bif (eqi r5.1.2.2.2 (r6.length:Int))then
 (let x7:=([(false,(false,(0,([],([],([],([],[])))))))]:List Z8)
 gd (fits (r6.length+x7.length) 136)
 (let x8:=(r6++x7)
 gd (inB r5.1.2.2.2 (x8.length))
 (let x9:=(setL x8 r5.1.2.2.2 (true,(false,(1,r5.2.2.1))))
 match z9d N N r5.1.2.2.2 0 r5.2.2.1 x9 with
 | some r12=>(some (r12.2.2.2.1,(r12.1.2.1,0)))
 | none=>none)))
 else
 (gd (inB r5.1.2.2.2 (r6.length))
 (let x13:=(setL r6 r5.1.2.2.2 (true,(false,(1,r5.2.2.1))))
 match z9d N N r5.1.2.2.2 0 r5.2.2.1 x13 with
 | some r14=>(some (r14.2.2.2.1,(r14.1.2.1,0)))
 | none=>none)))
 | none=>none))
 | none=>none))
 | none=>none
def y7l(N:Nat)(a0:Q4):Option ((Y4×Int)):=
 (zis N a0).bind fun r1=>
 bif (!r1)then
 (some (([],(0,(0,(0,0)))),120))
 else
 ((z8p N [] ([],([],([],([],[]))))).bind fun r2=>
 some ((r2.1,(r2.2.1,a0)),0))
def zr2(N:Nat)(a0:Q4):Option ((Z3×Int)):=
 (y7l N a0).bind fun r1=>
 bif (!(eqi r1.2 0))then
 (some (([],((0,(0,0)),([],(0,(0,(0,[])))))),r1.2))
 else
 (some ((r1.1.1,(a0,([],(1,(r1.1.2.1,(0,[])))))),0))
def z5g(N:Nat)(rec:Int->Int->Z3->Option ((Int×Unit)⊕(Unit×Unit)))(b0 b1:Int)(b2:Z3):Option ((Int×Unit)⊕(Unit×Unit)):=
 bif (decide (b1<(b2.2.2.1.length:Int)))then
 (gd (inB b1 (b2.2.2.1.length))
 (bif (eqi ((rdL b2.2.2.1 b1 Y8).1) b0)then
 (some (.inl (b1,())))
 else
 (rec b0 (aa .i64 (b1+1)) b2)))
 else
 (some (.inr ((),())))
def zgv(N:Nat)(n:Nat):=
 itF (fun _ _ _=>none) (z5g N) n
theorem zlm(N:Nat)(n:Nat):zgv N (n+1)=z5g N (zgv N n):=rfl
def zgw(N:Nat)(a0:Z3)(a1:Int):Option (Int):=
 (zgv N N a1 0 a0).bind fun r1=>
 match r1 with
 | .inl r2=>(some r2.1)
 | .inr r3=>(some (-1))
def y0i(N:Nat)(a0:Z3)(a1:Int):Option ((Y4×Int)):=
 bif (eqi a1 0)then
 (some ((a0.1,(a0.2.2.2.2.1,a0.2.1)),0))
 else
 ((zgw N a0 a1).bind fun r1=>
 bif (decide (r1<0))then
 (some (([],(0,(0,(0,0)))),160))
 else
 (gd (inB r1 (a0.2.2.1.length))
 (some ((a0.1,((((rdL a0.2.2.1 r1 Y8).2).2).1,a0.2.1)),0))))
def zob(N:Nat)(a0 a1 a2:Int):Option (Bool):=
 bif (decide (a1<=a0))then
 (some (decide (a0<=a2)))
 else
 (some false)
def z2b(N:Nat)(a0:Z0):Option (Bool):=
 bif (!(eqs a0.2 []))then
 (some (lts a0.2 a0.1 || eqs a0.2 a0.1))
 else
 (some false)
def znn(N:Nat)(a0:Z0):Option (Bool):=
 match z2b N a0 with
 | some r1=>(bif (!r1)then
 (let x2:=(decide ((a0.1.length:Int)<=65535))
 bif x2 then
 (let x3:=(decide ((a0.2.length:Int)<=65535))
 some x3)
 else
 (some false))
 else
 (some false))
 | none=>none
def z1n(N:Nat)(a0 a1:(List UInt8)):Option (Bool):=
 let x1:=(decide ((a1.length:Int)<=(a0.length:Int)))
 bif x1 then
 (gd (decide (0<=(0:Int))&&(decide (0<=(a1.length:Int))&&decide ((a1.length:Int)<=(a0.length:Int))))
 (let x2:=(eqs (cut2 a0 0 (a1.length:Int)) a1)
 some x2))
 else
 (some false)
def zar(N:Nat)(b0:Bool)(b1:Int)(b2:Bool)(b3:Z1):Option Ty4_:=
 bif b2 then
 (match z1n N b3.2.2.2.2.1 b3.2.2.2.2.2.1 with
 | some r8=>(bif (!r8)then
 (match z1n N b3.2.2.2.2.2.1 b3.2.2.2.2.1 with
 | some r9=>(bif (!r9)then
 (match zob N (b3.2.2.2.2.1.length:Int) 1 200 with
 | some r10=>(bif r10 then
 (match zob N (b3.2.2.2.2.2.1.length:Int) 1 200 with
 | some r11=>(bif r11 then
 (let x12:=(eqi b3.1 b3.1&&(eqs b3.2.1 []&&(eqs b3.2.2.1 []&&(eqs b3.2.2.2.1.1 []&&(eqs b3.2.2.2.1.2 []&&(eqs b3.2.2.2.2.1 b3.2.2.2.2.1&&(eqs b3.2.2.2.2.2.1 b3.2.2.2.2.2.1&&(eqi b3.2.2.2.2.2.2 0&&true))))))))
 some (.inl (x12,())))
 else
 (some (.inl (false,()))))
 | none=>none)
 else
 (some (.inl (false,()))))
 | none=>none)
 else
 (some (.inl (false,()))))
 | none=>none)
 else
 (some (.inl (false,()))))
 | none=>none)
 else
 (bif (eqi b1 6)then
 (match znn N b3.2.2.2.1 with
 | some r13=>(bif r13 then
 (bif b0 then
 (let x14:=(eqi b3.1 b3.1&&(eqs b3.2.1 []&&(eqs b3.2.2.1 []&&(eqs b3.2.2.2.1.1 b3.2.2.2.1.1&&(eqs b3.2.2.2.1.2 b3.2.2.2.1.2&&(eqs b3.2.2.2.2.1 []&&(eqs b3.2.2.2.2.2.1 []&&(eqi b3.2.2.2.2.2.2 b3.2.2.2.2.2.2&&true))))))))
 some (.inl (x14,())))
 else
 (some (.inl (false,()))))
 else
 (some (.inl (false,()))))
 | none=>none)
 else
 (some (.inr ((),()))))
def ze8(N:Nat)(a0:Z1):Option (Bool):=
 match zob N (a0.2.1.length:Int) 1 65535 with
 | some r1=>(match zob N a0.2.2.2.2.2.2 0 1000000000 with
 | some r2=>(bif (eqi a0.1 1)then
 (bif r1 then
 (let x3:=(decide ((a0.2.2.1.length:Int)<=64))
 bif x3 then
 (bif r2 then
 (let x4:=(eqi a0.1 a0.1&&(eqs a0.2.1 a0.2.1&&(eqs a0.2.2.1 a0.2.2.1&&(eqs a0.2.2.2.1.1 []&&(eqs a0.2.2.2.1.2 []&&(eqs a0.2.2.2.2.1 []&&(eqs a0.2.2.2.2.2.1 []&&(eqi a0.2.2.2.2.2.2 a0.2.2.2.2.2.2&&true))))))))
 some x4)
 else
 (some false))
 else
 (some false))
 else
 (some false))
 else
 (bif (eqi a0.1 2)then
 (bif r1 then
 (let x5:=(eqi a0.1 a0.1&&(eqs a0.2.1 a0.2.1&&(eqs a0.2.2.1 []&&(eqs a0.2.2.2.1.1 []&&(eqs a0.2.2.2.1.2 []&&(eqs a0.2.2.2.2.1 []&&(eqs a0.2.2.2.2.2.1 []&&(eqi a0.2.2.2.2.2.2 0&&true))))))))
 some x5)
 else
 (some false))
 else
 (bif (eqi a0.1 3)then
 (match znn N a0.2.2.2.1 with
 | some r6=>(bif r6 then
 (let x7:=(eqi a0.1 a0.1&&(eqs a0.2.1 []&&(eqs a0.2.2.1 []&&(eqs a0.2.2.2.1.1 a0.2.2.2.1.1&&(eqs a0.2.2.2.1.2 a0.2.2.2.1.2&&(eqs a0.2.2.2.2.1 []&&(eqs a0.2.2.2.2.2.1 []&&(eqi a0.2.2.2.2.2.2 0&&true))))))))
 some x7)
 else
 (some false))
 | none=>none)
 else
 (bif (eqi a0.1 4)then
 (match zar N r2 a0.1 true a0 with
 | some r15=>(match r15 with
 | .inl r16=>(some r16.1)
 | .inr r17=>(some false))
 | none=>none)
 else
 (match zar N r2 a0.1 (eqi a0.1 5) a0 with
 | some r18=>(match r18 with
 | .inl r19=>(some r19.1)
 | .inr r20=>(some false))
 | none=>none)))))
 | none=>none)
 | none=>none
def zce(N:Nat)(a0:(List Z8))(a1:Int):Option ((Z6×Int)):=
 match zbc N a0 a1 with
 | some r1=>(bif (!r1)then
 (some (([],([],([],([],[])))),110))
 else
 (gd (inB a1 (a0.length))
 (bif ((rdL a0 a1 X1).2).1 then
 (some (([],([],([],([],[])))),112))
 else
 (gd (inB a1 (a0.length))
 (some (((((rdL a0 a1 X1).2).2).2),0))))))
 | none=>none
def z3r(N:Nat)(b0:(List Z7))(b1:Bool)(b2:Int)(b3:Z7)(b4:(List Z7)):Option ((((List Z7)×(Unit×(Unit×(Bool×Int))))×(Z7×((List Z7)×Unit)))):=
 gd (inB b2 (b0.length))
 (bif (!(eqs ((rdL b0 b2 X6).1) b3.1))then
 (gd (inB b2 (b0.length))
 (gd (fits (b4.length+1) 40)
 (let x3:=(b4++[(rdL b0 b2 X6)])
 some ((b0,((),((),(b1,b2)))),(b3,(x3,()))))))
 else
 (some ((b0,((),((),(b1,b2)))),(b3,(b4,())))))
def z36(N:Nat)(rec:(List Z7)->Bool->Int->Z7->(List Z7)->Option (((Unit×(Unit×Bool))×(Z7×((List Z7)×Unit)))))(b0:(List Z7))(b1:Bool)(b2:Int)(b3:Z7)(b4:(List Z7)):Option (((Unit×(Unit×Bool))×(Z7×((List Z7)×Unit)))):=
 bif (decide (b2<(b0.length:Int)))then
 (bif (!b1)then
 (gd (inB b2 (b0.length))
 (let x1:=(lts b3.1 ((rdL b0 b2 X6).1) || eqs b3.1 ((rdL b0 b2 X6).1))
 bif x1 then
 (gd (fits (b4.length+1) 40)
 (let x2:=(b4++[b3])
 match z3r N b0 true b2 b3 x2 with
 | some r4=>(let x5:=(aa .i64 (r4.1.2.2.2.2+1))
 rec r4.1.1 r4.1.2.2.2.1 x5 r4.2.1 r4.2.2.1)
 | none=>none))
 else
 (match z3r N b0 b1 b2 b3 b4 with
 | some r6=>(let x7:=(aa .i64 (r6.1.2.2.2.2+1))
 rec r6.1.1 r6.1.2.2.2.1 x7 r6.2.1 r6.2.2.1)
 | none=>none)))
 else
 (match z3r N b0 b1 b2 b3 b4 with
 | some r8=>(let x9:=(aa .i64 (r8.1.2.2.2.2+1))
 rec r8.1.1 r8.1.2.2.2.1 x9 r8.2.1 r8.2.2.1)
 | none=>none))
 else
 (some (((),((),b1)),(b3,(b4,()))))
def z70(N:Nat)(n:Nat):=
 itF (fun _ _ _ _ _=>none) (z36 N) n
theorem zhj(N:Nat)(n:Nat):z70 N (n+1)=z36 N (z70 N n):=rfl
def zbz(N:Nat)(a0:(List Z7))(a1:Z7):Option ((List Z7)):=
 match z70 N N a0 false 0 a1 []with
 | some r10=>(bif (!r10.1.2.2)then
 (gd (fits (r10.2.2.1.length+1) 40)
 (let x11:=(r10.2.2.1++[r10.2.1])
 some x11))
 else
 (some r10.2.2.1))
 | none=>none
def z8q(N:Nat)(a0:(List UInt8)):Option (Z0):=
 gd (decide (a0.length+ak [0]<maxS))
 (let x1:=(a0++[0])
 some (a0,x1))
def zel(N:Nat)(a0:Z0)(a1:(List UInt8)):Option (Bool):=
 bif (!(lts a1 a0.1))then
 (bif (eqs a0.2 [])then
 (some true)
 else
 (some (lts a1 a0.2)))
 else
 (some false)
def z89(N:Nat)(rec:(List Z0)->(List UInt8)->Int->Option Ty4_)(b0:(List Z0))(b1:(List UInt8))(b2:Int):Option Ty4_:=
 bif (decide (b2<(b0.length:Int)))then
 (gd (inB b2 (b0.length))
 (match zel N (rdL b0 b2 Y7) b1 with
 | some r1=>(bif r1 then
 (some (.inl (true,())))
 else
 (rec b0 b1 (aa .i64 (b2+1))))
 | none=>none))
 else
 (some (.inr ((),())))
def zp8(N:Nat)(n:Nat):=
 itF (fun _ _ _=>none) (z89 N) n
theorem zqr(N:Nat)(n:Nat):zp8 N (n+1)=z89 N (zp8 N n):=rfl
def zwd(N:Nat)(a0:(List Z0))(a1:(List UInt8)):Option (Bool):=
 match zp8 N N a0 a1 0 with
 | some r2=>(match r2 with
 | .inl r3=>(some r3.1)
 | .inr r4=>(some false))
 | none=>none
def z24(N:Nat)(rec:(List Z7)->(List Z0)->Int->(List Z7)->Option (y13))(b0:(List Z7))(b1:(List Z0))(b2:Int)(b3:(List Z7)):Option (y13):=
 bif (decide (b2<(b0.length:Int)))then
 (gd (inB b2 (b0.length))
 (match zwd N b1 ((rdL b0 b2 X6).1)with
 | some r1=>(bif (!r1)then
 (gd (inB b2 (b0.length))
 (gd (fits (b3.length+1) 40)
 (let x2:=(b3++[(rdL b0 b2 X6)])
 rec b0 b1 (aa .i64 (b2+1)) x2)))
 else
 (rec b0 b1 (aa .i64 (b2+1)) b3))
 | none=>none))
 else
 (some ((),(b3,())))
def zbf(N:Nat)(n:Nat):=
 itF (fun _ _ _ _=>none) (z24 N) n
theorem zfy(N:Nat)(n:Nat):zbf N (n+1)=z24 N (zbf N n):=rfl
def z7q(N:Nat)(a0:(List Z7))(a1:(List Z0)):Option ((List Z7)):=
 match zbf N N a0 a1 0 []with
 | some r3=>(some r3.2.1)
 | none=>none
def z38(N:Nat)(rec:(List UInt8)->Int->Option ((((List UInt8)×(Unit×Int))×(Unit×Unit))))(b0:(List UInt8))(b1:Int):Option ((((List UInt8)×(Unit×Int))×(Unit×Unit))):=
 bif (decide (0<b1))then
 (gd (inB (aa .i64 (b1-1)) (b0.length))
 (let x1:=(eqi (bt b0 (aa .i64 (b1-1))) 255)
 bif x1 then
 (rec b0 (aa .i64 (b1-1)))
 else
 (some ((b0,((),b1)),((),())))))
 else
 (some ((b0,((),b1)),((),())))
def z07(N:Nat)(n:Nat):=
 itF (fun _ _=>none) (z38 N) n
theorem z71(N:Nat)(n:Nat):z07 N (n+1)=z38 N (z07 N n):=rfl
def Q5(N:Nat)(a0:(List UInt8)):Option (Z0):=
 match z07 N N a0 (a0.length:Int)with
 | some r2=>(bif (eqi r2.1.2.2 0)then
 (some (r2.1.1,[]))
 else
 (gd (decide (0<=(0:Int))&&(decide (0<=(aa .i64 (r2.1.2.2-1)))&&decide ((aa .i64 (r2.1.2.2-1))<=(r2.1.1.length:Int))))
 (let x3:=(cut2 r2.1.1 0 (aa .i64 (r2.1.2.2-1)))
 gd (inB (aa .i64 (r2.1.2.2-1)) (r2.1.1.length))
 (let x4:=(bt r2.1.1 (aa .i64 (r2.1.2.2-1)))
 let x5:=([(aa .u8 (x4+1))]:List Int)
 gd (decide (x3.length+ak (z2j x5)<maxS))
 (let x6:=(x3++(z2j x5))
 some (r2.1.1,x6))))))
 | none=>none
def z33(N:Nat)(rec:(List Z7)->(List Z0)->Int->(List Z7)->Option (y13))(b0:(List Z7))(b1:(List Z0))(b2:Int)(b3:(List Z7)):Option (y13):=
 bif (decide (b2<(b0.length:Int)))then
 (gd (inB b2 (b0.length))
 (match zwd N b1 ((rdL b0 b2 X6).1)with
 | some r1=>(bif r1 then
 (gd (inB b2 (b0.length))
 (gd (fits (b3.length+1) 40)
 (let x2:=(b3++[(rdL b0 b2 X6)])
 rec b0 b1 (aa .i64 (b2+1)) x2)))
 else
 (rec b0 b1 (aa .i64 (b2+1)) b3))
 | none=>none))
 else
 (some ((),(b3,())))
def zde(N:Nat)(n:Nat):=
 itF (fun _ _ _ _=>none) (z33 N) n
theorem zhh(N:Nat)(n:Nat):zde N (n+1)=z33 N (zde N n):=rfl
def zl0(N:Nat)(a0:(List Z7))(a1:(List Z0)):Option ((List Z7)):=
 match zde N N a0 a1 0 []with
 | some r3=>(some r3.2.1)
 | none=>none
def zp7(N:Nat)(a0 a1 a2:(List UInt8)):Option (((List UInt8)×Bool)):=
 match z1n N a0 a1 with
 | some r1=>(bif (!r1)then
 (some ([],false))
 else
 (gd (decide (0<=(a1.length:Int))&&(decide ((a1.length:Int)<=(a0.length:Int))&&decide ((a0.length:Int)<=(a0.length:Int))))
 (let x2:=(cut2 a0 (a1.length:Int) (a0.length:Int))
 gd (decide (a2.length+x2.length<maxS))
 (let x3:=(a2++x2)
 some (x3,true)))))
 | none=>none
def z48(N:Nat)(rec:Int->Z1->(List Z7)->Option (y13))(b0:Int)(b1:Z1)(b2:(List Z7)):Option (y13):=
 bif (decide (b0<(b2.length:Int)))then
 (gd (inB b0 (b2.length))
 (match zel N b1.2.2.2.1 ((rdL b2 b0 X6).1)with
 | some r6=>(bif r6 then
 (gd (inB b0 (b2.length))
 (let x7:=(setL b2 b0 ((rdL b2 b0 X6).1,(((rdL b2 b0 X6).2).1,b1.2.2.2.2.2.2)))
 rec (aa .i64 (b0+1)) b1 x7))
 else
 (rec (aa .i64 (b0+1)) b1 b2))
 | none=>none))
 else
 (some ((),(b2,())))
def zf8(N:Nat)(n:Nat):=
 itF (fun _ _ _=>none) (z48 N) n
theorem zk2(N:Nat)(n:Nat):zf8 N (n+1)=z48 N (zf8 N n):=rfl
def z49(N:Nat)(rec:Int->Z1->(List Z7)->(List Z7)->Option (y13))(b0:Int)(b1:Z1)(b2:(List Z7))(b3:(List Z7)):Option (y13):=
 bif (decide (b0<(b3.length:Int)))then
 (gd (inB b0 (b3.length))
 (match zp7 N ((rdL b3 b0 X6).1) b1.2.2.2.2.1 b1.2.2.2.2.2.1 with
 | some r15=>(gd (inB b0 (b3.length))
 (gd (inB b0 (b3.length))
 (match zbz N b2 (r15.1,((rdL b3 b0 X6).2))with
 | some r16=>(rec (aa .i64 (b0+1)) b1 r16 b3)
 | none=>none)))
 | none=>none))
 else
 (some ((),(b2,())))
def z8i(N:Nat)(n:Nat):=
 itF (fun _ _ _ _=>none) (z49 N) n
theorem zk3(N:Nat)(n:Nat):z8i N (n+1)=z49 N (z8i N n):=rfl
def z58(N:Nat)(a0:(List Z7))(a1:Z1):Option ((List Z7)):=
 bif (eqi a1.1 1)then
 (match zbz N a0 (a1.2.1,(a1.2.2.1,a1.2.2.2.2.2.2))with
 | some r1=>(some r1)
 | none=>none)
 else
 (bif (eqi a1.1 2)then
 (match z8q N a1.2.1 with
 | some r2=>(match z7q N a0 [r2]with
 | some r3=>(some r3)
 | none=>none)
 | none=>none)
 else
 (bif (eqi a1.1 3)then
 (match z7q N a0 [a1.2.2.2.1]with
 | some r4=>(some r4)
 | none=>none)
 else
 (bif (eqi a1.1 6)then
 (gd (fits (0+a0.length) 40)
 (let x5:=([]++a0)
 match zf8 N N 0 a1 x5 with
 | some r8=>(some r8.2.1)
 | none=>none))
 else
 (match Q5 N a1.2.2.2.2.2.1 with
 | some r9=>(match z7q N a0 [r9]with
 | some r10=>(match Q5 N a1.2.2.2.2.1 with
 | some r11=>(match zl0 N a0 [r11]with
 | some r12=>(bif (eqi a1.1 4)then
 (match Q5 N a1.2.2.2.2.1 with
 | some r13=>(match z7q N r10 [r13]with
 | some r14=>(match z8i N N 0 a1 r14 r12 with
 | some r17=>(some r17.2.1)
 | none=>none)
 | none=>none)
 | none=>none)
 else
 (match z8i N N 0 a1 r10 r12 with
 | some r18=>(some r18.2.1)
 | none=>none))
 | none=>none)
 | none=>none)
 | none=>none)
 | none=>none))))
def z5n(N:Nat)(rec:(List Int)->(List Z8)->Option (((Unit×Unit)×yvu)))(b0:(List Int))(b1:(List Z8)):Option (((Unit×Unit)×yvu)):=
 let x3:=(decide (0<(b0.length:Int)))
 bif x3 then
 (gd (inB 0 (b0.length))
 (gd (decide (0<=(1:Int))&&(decide (1<=(b0.length:Int))&&decide ((b0.length:Int)<=(b0.length:Int))))
 (match zbc N b1 (rdL b0 0 0)with
 | some r4=>(bif (!r4)then
 (rec (cut2 b0 1 (b0.length:Int)) b1)
 else
 (gd (inB (rdL b0 0 0) (b1.length))
 (let x5:=(((rdL b1 (rdL b0 0 0) X1).2).2).1
 gd (inB (rdL b0 0 0) (b1.length))
 (let x6:=(setL b1 (rdL b0 0 0) ((rdL b1 (rdL b0 0 0) X1).1,(((rdL b1 (rdL b0 0 0) X1).2).1,((aa .i64 (x5-1)),((((rdL b1 (rdL b0 0 0) X1).2).2).2)))))
 gd (inB (rdL b0 0 0) (x6.length))
 (let x7:=(((rdL x6 (rdL b0 0 0) X1).2).2).1
 bif (eqi x7 0)then
 (gd (fits (0+ak (cut2 b0 1 (b0.length:Int))) 8)
 (let x8:=([]++(cut2 b0 1 (b0.length:Int)))
 gd (inB (rdL b0 0 0) (x6.length))
 (let x9:=((((((rdL x6 (rdL b0 0 0) X1).2).2).2).2).2).1
 gd (fits (x8.length+x9.length) 8)
 (let x10:=(x8++x9)
 gd (inB (rdL b0 0 0) (x6.length))
 (let x11:=(setL x6 (rdL b0 0 0) (false,(false,(0,([],([],([],([],[]))))))))
 rec x10 x11)))))
 else
 (rec (cut2 b0 1 (b0.length:Int)) x6))))))
 | none=>none)))
 else
 (some (((),()),((),((),(b1,())))))
def zh9(N:Nat)(n:Nat):=
 itF (fun _ _=>none) (z5n N) n
theorem zlt(N:Nat)(n:Nat):zh9 N (n+1)=z5n N (zh9 N n):=rfl
def z4k(N:Nat)(a0:(List Z8))(a1:Int):Option (((List Z8)×Int)):=
 match zbc N a0 a1 with
 | some r1=>(bif (!r1)then
 (some (a0,110))
 else
 (match zby N a0 with
 | some r2=>(match zh9 N N [a1] r2 with
 | some r12=>(some (r12.2.2.2.1,0))
 | none=>none)
 | none=>none))
 | none=>none
def zr4(N:Nat)(a0:Y4)(a1:Z1):Option ((Y4×Int)):=
 (ze8 N a1).bind fun r1=>
 bif (!r1)then
 (some (a0,50))
 else
 ((zce N a0.1 a0.2.1).bind fun r2=>
 bif (!(eqi r2.2 0))then
 (some (a0,r2.2))
 else
 (let x3:=(eqi (r2.1.2.2.1.length:Int) 0)
 bif x3 then
 ((z58 N r2.1.1 a1).bind fun r4=>
 (z8p N a0.1 (r4,r2.1.2)).bind fun r5=>
 bif (!(eqi r5.2.2 0))then
 (some (a0,r5.2.2))
 else
 ((z4k N r5.1 a0.2.1).bind fun r6=>
 some ((r6.1,(r5.2.1,a0.2.2)),0)))
 else
 (gd (fits (0+r2.1.2.2.2.2.length) 112)
 (let x7:=([]++r2.1.2.2.2.2)
 gd (fits (x7.length+1) 112)
 (let x8:=(x7++[a1])
 (z8p N a0.1 (r2.1.1,(r2.1.2.1,(r2.1.2.2.1,(r2.1.2.2.2.1,x8))))).bind fun r9=>
 bif (!(eqi r9.2.2 0))then
 (some (a0,r9.2.2))
 else
 ((z4k N r9.1 a0.2.1).bind fun r10=>
 some ((r10.1,(r9.2.1,a0.2.2)),0)))))))
def zhl(N:Nat)(a0 a1:(List UInt8)):Option (Bool):=
 bif (!(eqs a0 []))then
 (bif (eqs a1 [])then
 (some true)
 else
 (some (lts a0 a1)))
 else
 (some false)
def zsz(N:Nat):Option (Z0):=
 some ([97],[97])
def z4m(N:Nat)(a0 a1:Z0):Option (Z0):=
 match zhl N a1.2 a0.2 with
 | some r1=>(bif r1 then
 (match z2b N ((bif !(lts a0.1 a1.1)then a0.1 else a1.1),a1.2)with
 | some r2=>(bif r2 then
 (match zsz N with
 | some r3=>(some r3)
 | none=>none)
 else
 (some ((bif !(lts a0.1 a1.1)then a0.1 else a1.1),a1.2)))
 | none=>none)
 else
 (match z2b N ((bif !(lts a0.1 a1.1)then a0.1 else a1.1),a0.2)with
 | some r4=>(bif r4 then
 (match zsz N with
 | some r5=>(some r5)
 | none=>none)
 else
 (some ((bif !(lts a0.1 a1.1)then a0.1 else a1.1),a0.2)))
 | none=>none))
 | none=>none
def z4b(N:Nat)(rec:(List (List UInt8))->(List UInt8)->Int->Z0->(List Z0)->Option (((Unit×(Unit×(List UInt8)))×yvt)))(b0:(List (List UInt8)))(b1:(List UInt8))(b2:Int)(b3:Z0)(b4:(List Z0)):Option (((Unit×(Unit×(List UInt8)))×yvt)):=
 bif (decide (b2<(b0.length:Int)))then
 (gd (inB b2 (b0.length))
 (match z4m N b3 (b1,(rdL b0 b2 []))with
 | some r1=>(gd (fits (b4.length+1) 32)
 (let x2:=(b4++[r1])
 gd (inB b2 (b0.length))
 (rec b0 (rdL b0 b2 []) (aa .i64 (b2+1)) b3 x2)))
 | none=>none))
 else
 (some (((),((),b1)),(b3,(b4,()))))
def zfb(N:Nat)(n:Nat):=
 itF (fun _ _ _ _ _=>none) (z4b N) n
theorem zk5(N:Nat)(n:Nat):zfb N (n+1)=z4b N (zfb N n):=rfl
def ziv(N:Nat)(a0:Z0)(a1:(List (List UInt8))):Option ((List Z0)):=
 match zfb N N a1 [] 0 a0 []with
 | some r3=>(match z4m N r3.2.1 (r3.1.2.2,[])with
 | some r4=>(gd (fits (r3.2.2.1.length+1) 32)
 (let x5:=(r3.2.2.1++[r4])
 some x5))
 | none=>none)
 | none=>none
def zay(N:Nat)(a0:Z6)(a1:Z0):Option ((List Z0)):=
 bif (eqi (a0.2.2.1.length:Int) 0)then
 (some [])
 else
 (match ziv N a1 a0.2.1 with
 | some r1=>(some r1)
 | none=>none)
def zpv(N:Nat)(b0:(List Int))(b1:Int)(b2:Y4)(b3:Z6)(b4:Z0):Option (Ty9_⊕(((List Int)×(Unit×(Unit×(Unit×(Int×(Unit×Int))))))×(Y4×(Unit×(Z6×(Z0×Unit)))))):=
 gd (inB b1 (b0.length))
 (bif (decide ((rdL b0 b1 0)<0))then
 (some (.inl ((),(((),((),((),((),((),([],([],140))))))),([],([],([],([],([],())))))))))
 else
 (gd (inB b1 (b0.length))
 (let x2:=(decide ((b3.2.2.1.length:Int)<=(rdL b0 b1 0)))
 bif x2 then
 (some (.inl ((),(((),((),((),((),((),([],([],140))))))),([],([],([],([],([],())))))))))
 else
 ((zay N b3 b4).bind fun r3=>
 gd (inB b1 (b0.length))
 (gd (inB (rdL b0 b1 0) (r3.length))
 (gd (inB b1 (b0.length))
 (gd (inB (rdL b0 b1 0) (b3.2.2.1.length))
 (let x4:=(rdL b3.2.2.1 (rdL b0 b1 0) 0)
 (zce N b2.1 x4).bind fun r5=>
 some (.inr ((b0,((),((),((),(r5.2,((),(aa .i64 (b1+1)))))))),(b2,((),(r5.1,((rdL r3 (rdL b0 b1 0) Y7),()))))))))))))))
def z5j(N:Nat)(rec:(List Int)->Int->Int->Y4->Z6->Z0->Option x3f)(b0:(List Int))(b1 b2:Int)(b3:Y4)(b4:Z6)(b5:Z0):Option x3f:=
 bif (decide (b2<(b0.length:Int)))then
 (bif (eqi b1 0)then
 ((zpv N b0 b2 b3 b4 b5).bind fun r6=>
 match r6 with
 | .inl r7=>(some (.inl ((),(((),((),((),((),((),(r7.2.1.2.2.2.2.2.1,(r7.2.1.2.2.2.2.2.2.1,r7.2.1.2.2.2.2.2.2.2))))))),(r7.2.2.1,(r7.2.2.2.1,(r7.2.2.2.2.1,(r7.2.2.2.2.2.1,(r7.2.2.2.2.2.2.1,())))))))))
 | .inr r8=>(rec r8.1.1 r8.1.2.2.2.2.1 r8.1.2.2.2.2.2.2 r8.2.1 r8.2.2.2.1 r8.2.2.2.2.1))
 else
 (some (.inr (((),((),(b1,()))),((),(b4,(b5,())))))))
 else
 (some (.inr (((),((),(b1,()))),((),(b4,(b5,()))))))
def zh1(N:Nat)(n:Nat):=
 itF (fun _ _ _ _ _ _=>none) (z5j N) n
theorem zlp(N:Nat)(n:Nat):zh1 N (n+1)=z5j N (zh1 N n):=rfl
def zbb(N:Nat)(a0:Y4)(a1:(List Int)):Option (zld):=
 (zce N a0.1 a0.2.1).bind fun r1=>
 (zh1 N N a1 r1.2 0 a0 r1.1 ([],[])).bind fun r9=>
 match r9 with
 | .inl r10=>(some ((r10.2.2.1,(r10.2.2.2.1,(r10.2.2.2.2.1,(r10.2.2.2.2.2.1,r10.2.2.2.2.2.2.1)))),((r10.2.1.2.2.2.2.2.1,r10.2.1.2.2.2.2.2.2.1),r10.2.1.2.2.2.2.2.2.2)))
 | .inr r11=>(bif (!(eqi r11.1.2.2.1 0))then
 (some (([],([],([],([],[])))),(([],[]),r11.1.2.2.1)))
 else
 (some (r11.2.2.1,(r11.2.2.2.1,0))))
def zsv(N:Nat)(a0:Z6)(a1:Q4):Option (Bool):=
 bif (eqi (a0.2.2.1.length:Int) 0)then
 (some (decide (a1.1<(a0.1.length:Int))))
 else
 (let x1:=(decide (a1.2.1<(a0.2.2.1.length:Int)))
 bif x1 then
 (some true)
 else
 (let x2:=(decide (a1.2.2<(a0.2.2.2.2.length:Int)))
 some x2))
def zgz(N:Nat)(a0:(List Int))(a1:Int):Option ((List Int)):=
 gd (fits (0+a0.length) 8)
 (let x1:=([]++a0)
 gd (fits (x1.length+1) 8)
 (let x2:=(x1++[a1])
 some x2))
def z3z(N:Nat)(self:Y4->(List Int)->Bool->Option (y8))(rec:(List Int)->Bool->Int->Y4->zld->Option ((Unit×(y8×Unit))⊕(Unit×(Unit×Unit))))(b0:(List Int))(b1:Bool)(b2:Int)(b3:Y4)(b4:zld):Option ((Unit×(y8×Unit))⊕(Unit×(Unit×Unit))):=
 let x4:=(decide (b2<(b4.1.2.2.1.length:Int)))
 bif x4 then
 ((zgz N b0 b2).bind fun r5=>
 (self b3 r5 b1).bind fun r6=>
 bif r6.2 then
 (some (.inl ((),(r6,()))))
 else
 (rec b0 b1 (aa .i64 (b2+1)) b3 b4))
 else
 (some (.inr ((),((),()))))
def z0q(N:Nat)(self:Y4->(List Int)->Bool->Option (y8))(n:Nat):=
 itF (fun _ _ _ _ _=>none) (z3z N self) n
theorem zc4(N:Nat)(self:Y4->(List Int)->Bool->Option (y8))(n:Nat):z0q N self (n+1)=z3z N self (z0q N self n):=rfl
def z88(N:Nat)(self:Y4->(List Int)->Bool->Option (y8))(a0:Y4)(a1:(List Int))(a2:Bool):Option (y8):=
 (zbb N a0 a1).bind fun r1=>
 bif (!(eqi r1.2.2 0))then
 (some ([],false))
 else
 ((zsv N r1.1 a0.2.2).bind fun r2=>
 bif r2 then
 (some (a1,true))
 else
 (bif a2 then
 (let x3:=(decide (0<(r1.1.2.2.2.2.length:Int)))
 bif x3 then
 (some (a1,true))
 else
 ((z0q N self N a1 a2 0 a0 r1).bind fun r7=>
 match r7 with
 | .inl r8=>(some r8.2.1)
 | .inr r9=>(some ([],false))))
 else
 ((z0q N self N a1 a2 0 a0 r1).bind fun r10=>
 match r10 with
 | .inl r11=>(some r11.2.1)
 | .inr r12=>(some ([],false)))))
def z11(N n:Nat):Y4->(List Int)->Bool->Option (y8):=
 itF (fun _ _ _=>none) (z88 N) n
theorem zts(N n:Nat):z11 N (n+1)=z88 N (z11 N n):=rfl
def y8n(N:Nat):Y4->(List Int)->Bool->Option (y8):=
 z11 N N
def z40(N:Nat)(rec:Int->Int->Int->(List Int)->Option ((Unit×((List Int)×Unit))))(b0 b1 b2:Int)(b3:(List Int)):Option ((Unit×((List Int)×Unit))):=
 bif (decide (b2<b1))then
 (gd (!(eqi b1 0))
 (gd (!(eqi b1 0))
 (bif (decide (b2<(aB b0 b1)))then
 (let x2:=(aa .i64 ((aa .i64 (cP b0 b1))+1))
 gd (fits (b3.length+1) 8)
 (let x3:=(b3++[x2])
 rec b0 b1 (aa .i64 (b2+1)) x3))
 else
 (let x4:=([(aa .i64 (cP b0 b1))]:List Int)
 gd (fits (b3.length+x4.length) 8)
 (let x5:=(b3++x4)
 rec b0 b1 (aa .i64 (b2+1)) x5)))))
 else
 (some ((),(b3,())))
def zf0(N:Nat)(n:Nat):=
 itF (fun _ _ _ _=>none) (z40 N) n
theorem zjv(N:Nat)(n:Nat):zf0 N (n+1)=z40 N (zf0 N n):=rfl
def z7o(N:Nat)(a0 a1:Int):Option ((List Int)):=
 bif (decide (a1<1))then
 (some [])
 else
 (bif (decide (a0<1))then
 (some [])
 else
 (gd (!(eqi a1 0))
 (let x1:=(aa .i64 (cP (aa .i64 (a0-1)) a1))
 (zf0 N N a0 (aa .i64 (x1+1)) 0 []).bind fun r6=>
 some r6.2.1)))
def z2x(N:Nat)(rec:(List Z7)->Int->Int->(List (List Z7))->(List Int)->Option ((Unit×((List (List Z7))×Unit))))(b0:(List Z7))(b1 b2:Int)(b3:(List (List Z7)))(b4:(List Int)):Option ((Unit×((List (List Z7))×Unit))):=
 bif (decide (b2<(b4.length:Int)))then
 (gd (inB b2 (b4.length))
 (let x2:=(aa .i64 (b1+(rdL b4 b2 0)))
 gd (decide (0<=b1)&&(decide (b1<=x2)&&decide (x2<=(b0.length:Int))))
 (gd (fits (b3.length+1) 24)
 (let x3:=(b3++[(cut2 b0 b1 x2)])
 gd (inB b2 (b4.length))
 (let x4:=(aa .i64 (b1+(rdL b4 b2 0)))
 rec b0 x4 (aa .i64 (b2+1)) x3 b4)))))
 else
 (some ((),(b3,())))
def zda(N:Nat)(n:Nat):=
 itF (fun _ _ _ _ _=>none) (z2x N) n
theorem zh2(N:Nat)(n:Nat):zda N (n+1)=z2x N (zda N n):=rfl
def zkv(N:Nat)(a0:(List Z7))(a1:Int):Option ((List (List Z7))):=
 (z7o N (a0.length:Int) a1).bind fun r1=>
 (zda N N a0 0 0 [] r1).bind fun r5=>
 some r5.2.1
def z5k(N:Nat)(rec:Int->(List (List Z7))->(List Z6)->(List (List UInt8))->(List Z1)->Option x3p)(b0:Int)(b1:(List (List Z7)))(b2:(List Z6))(b3:(List (List UInt8)))(b4:(List Z1)):Option x3p:=
 bif (decide (b0<(b1.length:Int)))then
 (gd (inB b0 (b1.length))
 (let x3:=([((rdL b1 b0 []),([],([],([],[]))))]:List Z6)
 gd (fits (b2.length+x3.length) 120)
 (let x4:=(b2++x3)
 bif (decide (0<b0))then
 (gd (inB b0 (b1.length))
 (gd (inB 0 (ak (rdL b1 b0 [])))
 (let x5:=(rdL (rdL b1 b0 []) 0 X6)
 gd (fits (b3.length+1) 16)
 (let x6:=(b3++[x5.1])
 rec (aa .i64 (b0+1)) b1 x4 x6 b4))))
 else
 (rec (aa .i64 (b0+1)) b1 x4 b3 b4))))
 else
 (some (((),()),((),(((),((),())),(b2,(b3,(b4,())))))))
def zh3(N:Nat)(n:Nat):=
 itF (fun _ _ _ _ _=>none) (z5k N) n
theorem zlq(N:Nat)(n:Nat):zh3 N (n+1)=z5k N (zh3 N n):=rfl
def zh4(N:Nat)(a0:Z6)(a1:Q4):Option (zqg):=
 (zkv N a0.1 a1.1).bind fun r1=>
 bif (eqi (r1.length:Int) 0)then
 (let x2:=([([],([],([],([],[]))))]:List Z6)
 some (x2,([],[])))
 else
 ((zh3 N N 0 r1 [] [] []).bind fun r7=>
 some (r7.2.2.2.1,(r7.2.2.2.2.1,r7.2.2.2.2.2.1)))
def z7d(N:Nat)(rec:(List Z6)->Int->(List Z8)->Int->(List Int)->Option x3w)(b0:(List Z6))(b1:Int)(b2:(List Z8))(b3:Int)(b4:(List Int)):Option x3w:=
 bif (decide (b1<(b0.length:Int)))then
 (gd (inB b1 (b0.length))
 ((z8p N b2 (rdL b0 b1 zo5)).bind fun r1=>
 bif (!(eqi r1.2.2 0))then
 (some (.inl ((),(((),((),r1.2.2)),([],([],()))))))
 else
 (gd (fits (b4.length+1) 8)
 (let x2:=(b4++[r1.2.1])
 rec b0 (aa .i64 (b1+1)) r1.1 b3 x2))))
 else
 (some (.inr (((),()),((),((b2,((),b3)),(b4,()))))))
def z9c(N:Nat)(n:Nat):=
 itF (fun _ _ _ _ _=>none) (z7d N) n
theorem zok(N:Nat)(n:Nat):z9c N (n+1)=z7d N (z9c N n):=rfl
def zih(N:Nat)(a0:(List Z8))(a1:(List Z6)):Option (zd2):=
 (z9c N N a1 0 a0 0 []).bind fun r3=>
 match r3 with
 | .inl r4=>(some (r4.2.2.1,(r4.2.2.2.1,r4.2.1.2.2)))
 | .inr r5=>(some (r5.2.2.1.1,(r5.2.2.2.1,r5.2.2.1.2.2)))
def z6i(N:Nat)(b0:(List UInt8))(b1:Int)(b2:(List UInt8))(b3:z0e):Option ((Unit×(z0e×Unit))):=
 bif (eqi b3.2.1 3)then
 (bif (eqi b3.2.1 1)then
 (bif (decide (0<b1))then
 (gd (inB 0 (b0.length))
 (bif (eqi (bt b0 0) 6)then
 (gd (decide (0<=(1:Int))&&(decide (1<=b1)&&decide (b1<=(b0.length:Int))))
 (some ((),(((cut2 b0 1 b1),(4,(b3.2.2.1,b2))),()))))
 else
 (some ((),((b3.1,(b3.2.1,(b3.2.2.1,b2))),())))))
 else
 (some ((),((b3.1,(b3.2.1,(b3.2.2.1,b2))),()))))
 else
 (some ((),((b3.1,(b3.2.1,(b3.2.2.1,b2))),()))))
 else
 (bif (eqi b3.2.1 1)then
 (bif (decide (0<b1))then
 (gd (inB 0 (b0.length))
 (bif (eqi (bt b0 0) 6)then
 (gd (decide (0<=(1:Int))&&(decide (1<=b1)&&decide (b1<=(b0.length:Int))))
 (some ((),(((cut2 b0 1 b1),(4,b3.2.2)),()))))
 else
 (some ((),(b3,())))))
 else
 (some ((),(b3,()))))
 else
 (some ((),(b3,()))))
def zpa(N:Nat)(a0:(List UInt8))(a1:Int):Option (z0e):=
 gd (decide (0<=(0:Int))&&(decide (0<=a1)&&decide (a1<=(a0.length:Int))))
 (gd (inB a1 (a0.length))
 (gd (decide (0<=(aa .i64 (a1+1)))&&(decide ((aa .i64 (a1+1))<=(a0.length:Int))&&decide ((a0.length:Int)<=(a0.length:Int))))
 (let x1:=(cut2 a0 (aa .i64 (a1+1)) (a0.length:Int))
 let x2:=(eqi (aa .i64 ((bt a0 a1))) 2)
 bif x2 then
 (bif (eqi (x1.length:Int) 2)then
 (gd (inB 0 (x1.length))
 (let x3:=(aa .i64 (256*(aa .i64 ((bt x1 0)))))
 gd (inB 1 (x1.length))
 (let x4:=(aa .i64 (x3+(aa .i64 ((bt x1 1)))))
 match z6i N a0 a1 x1 ((cut2 a0 0 a1),((aa .i64 ((bt a0 a1))),(x4,[])))with
 | some r5=>(some r5.2.1)
 | none=>none)))
 else
 (match z6i N a0 a1 x1 ((cut2 a0 0 a1),((aa .i64 ((bt a0 a1))),(0,[])))with
 | some r6=>(some r6.2.1)
 | none=>none))
 else
 (match z6i N a0 a1 x1 ((cut2 a0 0 a1),((aa .i64 ((bt a0 a1))),(0,[])))with
 | some r7=>(some r7.2.1)
 | none=>none))))
def z4f(N:Nat)(rec:(List UInt8)->(List UInt8)->Int->(List (List UInt8))->Option (((Unit×(List UInt8))×((List (List UInt8))×Unit))))(b0 b1:(List UInt8))(b2:Int)(b3:(List (List UInt8))):Option (((Unit×(List UInt8))×((List (List UInt8))×Unit))):=
 bif (decide (b2<(b0.length:Int)))then
 (gd (inB b2 (b0.length))
 (bif (eqi (bt b0 b2) 47)then
 (gd (fits (b3.length+1) 16)
 (let x1:=(b3++[b1])
 rec b0 [] (aa .i64 (b2+1)) x1))
 else
 (gd (decide (0<=b2)&&(decide (b2<=(aa .i64 (b2+1)))&&decide ((aa .i64 (b2+1))<=(b0.length:Int))))
 (let x2:=(cut2 b0 b2 (aa .i64 (b2+1)))
 gd (decide (b1.length+x2.length<maxS))
 (let x3:=(b1++x2)
 rec b0 x3 (aa .i64 (b2+1)) b3)))))
 else
 (some (((),b1),(b3,())))
def zfe(N:Nat)(n:Nat):=
 itF (fun _ _ _ _=>none) (z4f N) n
theorem zk9(N:Nat)(n:Nat):zfe N (n+1)=z4f N (zfe N n):=rfl
def zpb(N:Nat)(a0:(List UInt8)):Option (((List (List UInt8))×Bool)):=
 match zfe N N a0 [] 0 []with
 | some r4=>(some (r4.2.1,(eqs r4.1.2 [])))
 | none=>none
def z5t(N:Nat)(rec:(List UInt8)->Int->Option Ty4_)(b0:(List UInt8))(b1:Int):Option Ty4_:=
 bif (decide (b1<(b0.length:Int)))then
 (gd (inB b1 (b0.length))
 (bif (decide ((bt b0 b1)<33))then
 (some (.inl (false,())))
 else
 (gd (inB b1 (b0.length))
 (bif (decide (126<(bt b0 b1)))then
 (some (.inl (false,())))
 else
 (gd (inB b1 (b0.length))
 (bif (eqi (bt b0 b1) 47)then
 (some (.inl (false,())))
 else
 (rec b0 (aa .i64 (b1+1)))))))))
 else
 (some (.inr ((),())))
def zhm(N:Nat)(n:Nat):=
 itF (fun _ _=>none) (z5t N) n
theorem zlz(N:Nat)(n:Nat):zhm N (n+1)=z5t N (zhm N n):=rfl
def zbg(N:Nat)(a0:(List UInt8)):Option (Bool):=
 let x1:=(decide ((a0.length:Int)<1))
 bif x1 then
 (some false)
 else
 (let x2:=(decide (12<(a0.length:Int)))
 bif x2 then
 (some false)
 else
 (bif (eqs a0 [46])then
 (some false)
 else
 (bif (eqs a0 [46,46])then
 (some false)
 else
 (match zhm N N a0 0 with
 | some r3=>(match r3 with
 | .inl r4=>(some r4.1)
 | .inr r5=>(some true))
 | none=>none))))
def z4d(N:Nat)(rec:Bool->Int->(List (List UInt8))->Option ((Bool×Unit)⊕(Bool×Unit)))(b0:Bool)(b1:Int)(b2:(List (List UInt8))):Option ((Bool×Unit)⊕(Bool×Unit)):=
 bif (decide (b1<(b2.length:Int)))then
 (gd (inB b1 (b2.length))
 (match zbg N (rdL b2 b1 [])with
 | some r2=>(bif (!r2)then
 (some (.inl (false,())))
 else
 (rec b0 (aa .i64 (b1+1)) b2))
 | none=>none))
 else
 (some (.inr (b0,())))
def zfc(N:Nat)(n:Nat):=
 itF (fun _ _ _=>none) (z4d N) n
theorem zk7(N:Nat)(n:Nat):zfc N (n+1)=z4d N (zfc N n):=rfl
def zb2(N:Nat)(a0:(List UInt8)):Option (Bool):=
 match zpb N a0 with
 | some r1=>(match zfc N N r1.2 0 r1.1 with
 | some r3=>(match r3 with
 | .inl r4=>(some r4.1)
 | .inr r5=>(some r5.1))
 | none=>none)
 | none=>none
def z5u(N:Nat)(rec:Int->(List UInt8)->Int->Option (((List UInt8)×Unit)))(b0:Int)(b1:(List UInt8))(b2:Int):Option (((List UInt8)×Unit)):=
 bif (decide (b2<8))then
 (let x1:=(aa .i64 ((aB b0 16)+1))
 gd (decide (0<=(aB b0 16))&&(decide ((aB b0 16)<=x1)&&decide (x1<=(ak [48,49,50,51,52,53,54,55,56,57,97,98,99,100,101,102]:Int))))
 (let x2:=(cut2 [48,49,50,51,52,53,54,55,56,57,97,98,99,100,101,102] (aB b0 16) x1)
 gd (decide (x2.length+b1.length<maxS))
 (let x3:=(x2++b1)
 rec (aa .i64 (cP b0 16)) x3 (aa .i64 (b2+1)))))
 else
 (some (b1,()))
def zho(N:Nat)(n:Nat):=
 itF (fun _ _ _=>none) (z5u N) n
theorem zm0(N:Nat)(n:Nat):zho N (n+1)=z5u N (zho N n):=rfl
def zt0(N:Nat)(a0:Int):Option ((List UInt8)):=
 bif (decide (a0<0))then
 (some [])
 else
 (bif (decide (2147483647<a0))then
 (some [])
 else
 (match zho N N a0 [] 0 with
 | some r4=>(gd (decide (ak [5]+r4.1.length<maxS))
 (let x5:=([5]++r4.1)
 gd (decide (x5.length+ak [47]<maxS))
 (let x6:=(x5++[47])
 some x6)))
 | none=>none))
def z39(N:Nat)(rec:(List UInt8)->Int->Int->Option ((((List UInt8)×Int)×Unit)))(b0:(List UInt8))(b1 b2:Int):Option ((((List UInt8)×Int)×Unit)):=
 bif (decide (b2<9))then
 (gd (inB b2 (b0.length))
 (let x1:=(decide (48<=(aa .i64 ((bt b0 b2)))))
 bif x1 then
 (let x2:=(decide ((aa .i64 ((bt b0 b2)))<=57))
 bif x2 then
 (let x3:=(aa .i64 ((aa .i64 (16*b1))+(aa .i64 ((bt b0 b2)))))
 rec b0 (aa .i64 (x3-48)) (aa .i64 (b2+1)))
 else
 (let x4:=(aa .i64 ((aa .i64 (16*b1))+(aa .i64 ((bt b0 b2)))))
 let x5:=(aa .i64 ((aa .i64 (x4-97))+10))
 rec b0 x5 (aa .i64 (b2+1))))
 else
 (let x6:=(aa .i64 ((aa .i64 (16*b1))+(aa .i64 ((bt b0 b2)))))
 let x7:=(aa .i64 ((aa .i64 (x6-97))+10))
 rec b0 x7 (aa .i64 (b2+1)))))
 else
 (some ((b0,b1),()))
def zdh(N:Nat)(n:Nat):=
 itF (fun _ _ _=>none) (z39 N) n
theorem zhn(N:Nat)(n:Nat):zdh N (n+1)=z39 N (zdh N n):=rfl
def zc0(N:Nat)(a0:(List UInt8)):Option (Bool):=
 bif (!(eqi (a0.length:Int) 10))then
 (some false)
 else
 (match zdh N N a0 0 1 with
 | some r8=>(match zt0 N r8.1.2 with
 | some r9=>(some (eqs r9 r8.1.1))
 | none=>none)
 | none=>none)
def w6(N:Nat)(b0:Bool)(b1:z0e):Option ((Bool×Unit)⊕(Unit×(z0e×Unit))):=
 bif b0 then
 (some (.inl (false,())))
 else
 (some (.inr ((),(b1,()))))
def G1(N:Nat)(b0:z0e):Option ((Bool×Unit)):=
 bif (eqi b0.2.1 1)then
 (some (true,()))
 else
 (bif (eqi b0.2.1 2)then
 (bif (decide (0<=b0.2.2.1))then
 (some ((decide (b0.2.2.1<=60000)),()))
 else
 (some (false,())))
 else
 (bif (eqi b0.2.1 3)then
 (match zbg N b0.2.2.2 with
 | some r6=>(some (r6,()))
 | none=>none)
 else
 (bif (eqi b0.2.1 4)then
 (match zb2 N b0.1 with
 | some r7=>(some (r7,()))
 | none=>none)
 else
 (some (false,())))))
def zp9(N:Nat)(a0:z0e):Option (Bool):=
 match zb2 N a0.1 with
 | some r1=>(bif (!r1)then
 (match zc0 N a0.1 with
 | some r2=>(bif (!r2)then
 (match w6 N true a0 with
 | some r3=>(match r3 with
 | .inl r4=>(some r4.1)
 | .inr r5=>(match G1 N r5.2.1 with
 | some r8=>(some r8.1)
 | none=>none))
 | none=>none)
 else
 (bif (!(eqi a0.2.1 2))then
 (bif (!(eqi a0.2.2.1 0))then
 (match w6 N true a0 with
 | some r9=>(match r9 with
 | .inl r10=>(some r10.1)
 | .inr r11=>(match G1 N r11.2.1 with
 | some r12=>(some r12.1)
 | none=>none))
 | none=>none)
 else
 (bif (!(eqi a0.2.1 3))then
 (match w6 N (!(eqs a0.2.2.2 [])) a0 with
 | some r13=>(match r13 with
 | .inl r14=>(some r14.1)
 | .inr r15=>(match G1 N r15.2.1 with
 | some r16=>(some r16.1)
 | none=>none))
 | none=>none)
 else
 (match w6 N false a0 with
 | some r17=>(match r17 with
 | .inl r18=>(some r18.1)
 | .inr r19=>(match G1 N r19.2.1 with
 | some r20=>(some r20.1)
 | none=>none))
 | none=>none)))
 else
 (bif (!(eqi a0.2.1 3))then
 (match w6 N (!(eqs a0.2.2.2 [])) a0 with
 | some r21=>(match r21 with
 | .inl r22=>(some r22.1)
 | .inr r23=>(match G1 N r23.2.1 with
 | some r24=>(some r24.1)
 | none=>none))
 | none=>none)
 else
 (match w6 N false a0 with
 | some r25=>(match r25 with
 | .inl r26=>(some r26.1)
 | .inr r27=>(match G1 N r27.2.1 with
 | some r28=>(some r28.1)
 | none=>none))
 | none=>none))))
 | none=>none)
 else
 (bif (!(eqi a0.2.1 2))then
 (bif (!(eqi a0.2.2.1 0))then
 (match w6 N true a0 with
 | some r29=>(match r29 with
 | .inl r30=>(some r30.1)
 | .inr r31=>(match G1 N r31.2.1 with
 | some r32=>(some r32.1)
 | none=>none))
 | none=>none)
 else
 (bif (!(eqi a0.2.1 3))then
 (match w6 N (!(eqs a0.2.2.2 [])) a0 with
 | some r33=>(match r33 with
 | .inl r34=>(some r34.1)
 | .inr r35=>(match G1 N r35.2.1 with
 | some r36=>(some r36.1)
 | none=>none))
 | none=>none)
 else
 (match w6 N false a0 with
 | some r37=>(match r37 with
 | .inl r38=>(some r38.1)
 | .inr r39=>(match G1 N r39.2.1 with
 | some r40=>(some r40.1)
 | none=>none))
 | none=>none)))
 else
 (bif (!(eqi a0.2.1 3))then
 (match w6 N (!(eqs a0.2.2.2 [])) a0 with
 | some r41=>(match r41 with
 | .inl r42=>(some r42.1)
 | .inr r43=>(match G1 N r43.2.1 with
 | some r44=>(some r44.1)
 | none=>none))
 | none=>none)
 else
 (match w6 N false a0 with
 | some r45=>(match r45 with
 | .inl r46=>(some r46.1)
 | .inr r47=>(match G1 N r47.2.1 with
 | some r48=>(some r48.1)
 | none=>none))
 | none=>none))))
 | none=>none
def zx1(N:Nat)(a0:z0e):Option (((List UInt8)×Int)):=
 match zp9 N a0 with
 | some r1=>(bif (!r1)then
 (some ([],12))
 else
 (bif (eqi a0.2.1 1)then
 (gd (decide (a0.1.length+ak [1]<maxS))
 (let x2:=(a0.1++[1])
 some (x2,0)))
 else
 (bif (eqi a0.2.1 2)then
 (gd (decide (a0.1.length+ak [2]<maxS))
 (let x3:=(a0.1++[2])
 let x4:=(aa .i64 (cP a0.2.2.1 256));let x5:=(aa .u8 ((aB a0.2.2.1 256)));let x6:=(z2j [(aa .u8 (x4)),x5])
 gd (decide (x3.length+x6.length<maxS))
 (let x7:=(x3++x6)
 some (x7,0))))
 else
 (bif (eqi a0.2.1 3)then
 (gd (decide (a0.1.length+ak [3]<maxS))
 (let x8:=(a0.1++[3])
 gd (decide (x8.length+a0.2.2.2.length<maxS))
 (let x9:=(x8++a0.2.2.2)
 some (x9,0))))
 else
 (gd (decide (ak [6]+a0.1.length<maxS))
 (let x10:=([6]++a0.1)
 gd (decide (x10.length+ak [1]<maxS))
 (let x11:=(x10++[1])
 some (x11,0))))))))
 | none=>none
def z4e(N:Nat)(rec:(List UInt8)->Int->Option (((Unit×Int)×(z0e×Unit))⊕(Unit×(Unit×Unit))))(b0:(List UInt8))(b1:Int):Option (((Unit×Int)×(z0e×Unit))⊕(Unit×(Unit×Unit))):=
 bif (decide (b1<(b0.length:Int)))then
 (gd (inB b1 (b0.length))
 (bif (decide ((bt b0 b1)<1))then
 (rec b0 (aa .i64 (b1+1)))
 else
 (gd (inB b1 (b0.length))
 (bif (decide (3<(bt b0 b1)))then
 (rec b0 (aa .i64 (b1+1)))
 else
 (match zpa N b0 b1 with
 | some r1=>(match zx1 N r1 with
 | some r2=>(bif (eqi r2.2 0)then
 (bif (eqs r2.1 b0)then
 (some (.inl (((),0),(r1,()))))
 else
 (rec b0 (aa .i64 (b1+1))))
 else
 (rec b0 (aa .i64 (b1+1))))
 | none=>none)
 | none=>none)))))
 else
 (some (.inr ((),((),()))))
def zfd(N:Nat)(n:Nat):=
 itF (fun _ _=>none) (z4e N) n
theorem zk8(N:Nat)(n:Nat):zfd N (n+1)=z4e N (zfd N n):=rfl
def ziw(N:Nat)(a0:(List UInt8)):Option ((z0e×Int)):=
 match zfd N N a0 0 with
 | some r3=>(match r3 with
 | .inl r4=>(some (r4.2.1,r4.1.2))
 | .inr r5=>(some (([],(0,(0,[]))),12)))
 | none=>none
def zl3(N:Nat)(a0:Z7):Option (zcg):=
 match ziw N a0.1 with
 | some r1=>(bif (!(eqi r1.2 0))then
 (some (0,0))
 else
 (bif (eqi r1.1.2.1 1)then
 (some (1,0))
 else
 (bif (eqi r1.1.2.1 2)then
 (some (0,(a0.2.1.length:Int)))
 else
 (bif (eqi r1.1.2.1 3)then
 (some (0,(a0.2.1.length:Int)))
 else
 (some (0,0))))))
 | none=>none
def z4a(N:Nat)(rec:(List Z7)->Int->zcg->Option (((Unit×Unit)×(Unit×(zcg×Unit)))))(b0:(List Z7))(b1:Int)(b2:zcg):Option (((Unit×Unit)×(Unit×(zcg×Unit)))):=
 bif (decide (b1<(b0.length:Int)))then
 (gd (inB b1 (b0.length))
 (match zl3 N (rdL b0 b1 X6)with
 | some r1=>(rec b0 (aa .i64 (b1+1)) ((aa .i64 (b2.1+r1.1)),(aa .i64 (b2.2+r1.2))))
 | none=>none))
 else
 (some (((),()),((),(b2,()))))
def zfa(N:Nat)(n:Nat):=
 itF (fun _ _ _=>none) (z4a N) n
theorem zk4(N:Nat)(n:Nat):zfa N (n+1)=z4a N (zfa N n):=rfl
def zp6(N:Nat)(a0:(List Z7)):Option (zcg):=
 match zfa N N a0 0 (0,0)with
 | some r2=>(some r2.2.2.1)
 | none=>none
def zvf(N:Nat)(a0:zcg):Option (X0):=
 some ((a0.1,a0.1),(a0.2,a0.2))
def y0j(N:Nat)(a0 a1:X0):Option (X0):=
 let x1:=(bif decide ((aa .i64 (a0.1.1+a1.1.1))<1000000000000000)then(aa .i64 (a0.1.1+a1.1.1))else 1000000000000000);let x2:=(bif decide ((aa .i64 (a0.1.2+a1.1.2))<1000000000000000)then(aa .i64 (a0.1.2+a1.1.2))else 1000000000000000);let x3:=(bif decide ((aa .i64 (a0.2.1+a1.2.1))<1000000000000000)then(aa .i64 (a0.2.1+a1.2.1))else 1000000000000000);let x4:=(bif decide ((aa .i64 (a0.2.2+a1.2.2))<1000000000000000)then(aa .i64 (a0.2.2+a1.2.2))else 1000000000000000)
 some ((x1,x2),(x3,x4))
def zcs(N:Nat)(a0:(List UInt8)):Option (Bool):=
 match ziw N a0 with
 | some r1=>(bif (eqi r1.2 0)then
 (some (eqi r1.1.2.1 1))
 else
 (some false))
 | none=>none
def z7m(N:Nat)(a0:z00)(a1:Int):Option (z00):=
 let x1:=(bif decide ((aa .i64 (a0.2+a1))<1000000000000000)then(aa .i64 (a0.2+a1))else 1000000000000000)
 some (a0.1,x1)
def ze6(N:Nat)(a0:z00)(a1:Int):Option (z00):=
 let x1:=(bif decide (0<(aa .i64 (a0.1-a1)))then(aa .i64 (a0.1-a1))else 0)
 some (x1,a0.2)
def z6g(N:Nat)(b0 b1:(List UInt8))(b2 b3:Bool):Option ((Bool×Unit)):=
 bif b2 then
 (some (true,()))
 else
 (bif b3 then
 (some (true,()))
 else
 (match zc0 N b0 with
 | some r5=>(bif r5 then
 (match zc0 N b1 with
 | some r6=>(some (r6,()))
 | none=>none)
 else
 (some (false,())))
 | none=>none))
def z6h(N:Nat)(b0 b1:(List UInt8))(b2:Bool):Option ((Bool×Unit)):=
 bif (!(eqs b0 []))then
 (bif (!(eqs b1 []))then
 (match zb2 N b0 with
 | some r3=>(bif r3 then
 (match zb2 N b1 with
 | some r4=>(match z6g N b0 b1 b2 r4 with
 | some r7=>(some (r7.1,()))
 | none=>none)
 | none=>none)
 else
 (match z6g N b0 b1 b2 false with
 | some r8=>(some (r8.1,()))
 | none=>none))
 | none=>none)
 else
 (match z6g N b0 b1 b2 false with
 | some r9=>(some (r9.1,()))
 | none=>none))
 else
 (match z6g N b0 b1 b2 false with
 | some r10=>(some (r10.1,()))
 | none=>none)
def ziu(N:Nat)(a0 a1:(List UInt8)):Option (Bool):=
 let x1:=(decide (0<(a0.length:Int)))
 bif x1 then
 (gd (inB 0 (a0.length))
 (bif (eqi (bt a0 0) 6)then
 (let x2:=(decide (0<(a1.length:Int)))
 bif x2 then
 (gd (inB 0 (a1.length))
 (match z6h N a0 a1 (eqi (bt a1 0) 6)with
 | some r11=>(some r11.1)
 | none=>none))
 else
 (match z6h N a0 a1 false with
 | some r12=>(some r12.1)
 | none=>none))
 else
 (match z6h N a0 a1 false with
 | some r13=>(some r13.1)
 | none=>none)))
 else
 (match z6h N a0 a1 false with
 | some r14=>(some r14.1)
 | none=>none)
def z9e(N:Nat)(a0:X0)(a1:Z1):Option (X0):=
 bif (eqi a1.1 1)then
 (match zcs N a1.2.1 with
 | some r1=>(bif r1 then
 (match z7m N a0.1 1 with
 | some r2=>(some (r2,a0.2))
 | none=>none)
 else
 (match ze6 N a0.2 64 with
 | some r3=>(match z7m N r3 (a1.2.2.1.length:Int)with
 | some r4=>(some (a0.1,r4))
 | none=>none)
 | none=>none))
 | none=>none)
 else
 (bif (eqi a1.1 2)then
 (match zcs N a1.2.1 with
 | some r5=>(bif r5 then
 (match ze6 N a0.1 1 with
 | some r6=>(some (r6,a0.2))
 | none=>none)
 else
 (match ze6 N a0.2 64 with
 | some r7=>(some (a0.1,r7))
 | none=>none))
 | none=>none)
 else
 (bif (eqi a1.1 6)then
 (some a0)
 else
 (bif (eqi a1.1 3)then
 (some ((0,a0.1.2),(0,a0.2.2)))
 else
 (match ziu N a1.2.2.2.2.1 a1.2.2.2.2.2.1 with
 | some r8=>(bif (!r8)then
 (some ((0,1000000000000000),(0,1000000000000000)))
 else
 (bif (eqi a1.1 5)then
 (match z7m N (0,a0.1.2) a0.1.2 with
 | some r9=>(match z7m N (0,a0.2.2) a0.2.2 with
 | some r10=>(some (r9,r10))
 | none=>none)
 | none=>none)
 else
 (some ((0,a0.1.2),(0,a0.2.2)))))
 | none=>none))))
def z7h(N:Nat)(rec:Int->Z6->X0->Option (((Unit×Unit)×(Unit×(X0×Unit)))))(b0:Int)(b1:Z6)(b2:X0):Option (((Unit×Unit)×(Unit×(X0×Unit)))):=
 let x6:=(decide (b0<(b1.2.2.2.2.length:Int)))
 bif x6 then
 (gd (inB b0 (b1.2.2.2.2.length))
 (match z9e N b2 (rdL b1.2.2.2.2 b0 K3)with
 | some r7=>(rec (aa .i64 (b0+1)) b1 r7)
 | none=>none))
 else
 (some (((),()),((),(b2,()))))
def zkx(N:Nat)(n:Nat):=
 itF (fun _ _ _=>none) (z7h N) n
theorem zoo(N:Nat)(n:Nat):zkx N (n+1)=z7h N (zkx N n):=rfl
def z7i(N:Nat)(rec:Int->Z6->X0->Option (((Unit×(Unit×Unit))×(Z6×(Unit×(X0×Unit))))))(b0:Int)(b1:Z6)(b2:X0):Option (((Unit×(Unit×Unit))×(Z6×(Unit×(X0×Unit))))):=
 let x3:=(decide (b0<(b1.2.2.2.1.length:Int)))
 bif x3 then
 (gd (inB b0 (b1.2.2.2.1.length))
 (match y0j N b2 (rdL b1.2.2.2.1 b0 z0u)with
 | some r4=>(rec (aa .i64 (b0+1)) b1 r4)
 | none=>none))
 else
 (some (((),((),())),(b1,((),(b2,())))))
def zky(N:Nat)(n:Nat):=
 itF (fun _ _ _=>none) (z7i N) n
theorem zop(N:Nat)(n:Nat):zky N (n+1)=z7i N (zky N n):=rfl
def zr5(N:Nat)(a0:Z6):Option (X0):=
 bif (eqi (a0.2.2.1.length:Int) 0)then
 (match zp6 N a0.1 with
 | some r1=>(match zvf N r1 with
 | some r2=>(some r2)
 | none=>none)
 | none=>none)
 else
 (match zky N N 0 a0 ((0,0),(0,0))with
 | some r5=>(match zkx N N 0 r5.2.1 r5.2.2.2.1 with
 | some r8=>(some r8.2.2.1)
 | none=>none)
 | none=>none)
def z5i(N:Nat)(rec:(List Z6)->Int->(List X0)->Option yvs)(b0:(List Z6))(b1:Int)(b2:(List X0)):Option yvs:=
 bif (decide (b1<(b0.length:Int)))then
 (gd (inB b1 (b0.length))
 ((zr5 N (rdL b0 b1 zo5)).bind fun r1=>
 gd (fits (b2.length+1) 32)
 (let x2:=(b2++[r1])
 rec b0 (aa .i64 (b1+1)) x2)))
 else
 (some ((),(b2,())))
def zh0(N:Nat)(n:Nat):=
 itF (fun _ _ _=>none) (z5i N) n
theorem zlo(N:Nat)(n:Nat):zh0 N (n+1)=z5i N (zh0 N n):=rfl
def zsr(N:Nat)(a0:(List Z6)):Option ((List X0)):=
 (zh0 N N a0 0 []).bind fun r3=>
 some r3.2.1
def zax(N:Nat)(a0:Z6)(a1:Int)(a2:ziz)(a3:(List Int)):Option (Z6):=
 gd (decide (0<=(0:Int))&&(decide (0<=a1)&&decide (a1<=(a0.2.2.1.length:Int))))
 (gd (fits (0+ak (cut2 a0.2.2.1 0 a1)) 8)
 (let x1:=([]++(cut2 a0.2.2.1 0 a1))
 gd (fits (x1.length+a3.length) 8)
 (let x2:=(x1++a3)
 gd (decide (0<=(aa .i64 (a1+1)))&&(decide ((aa .i64 (a1+1))<=(a0.2.2.1.length:Int))&&decide ((a0.2.2.1.length:Int)<=(a0.2.2.1.length:Int))))
 (let x3:=(cut2 a0.2.2.1 (aa .i64 (a1+1)) (a0.2.2.1.length:Int))
 gd (fits (x2.length+x3.length) 8)
 (let x4:=(x2++x3)
 gd (decide (0<=(0:Int))&&(decide (0<=a1)&&decide (a1<=(a0.2.2.2.1.length:Int))))
 (gd (fits (0+ak (cut2 a0.2.2.2.1 0 a1)) 32)
 (let x5:=([]++(cut2 a0.2.2.2.1 0 a1))
 (zsr N a2.1).bind fun r6=>
 gd (fits (x5.length+r6.length) 32)
 (let x7:=(x5++r6)
 gd (decide (0<=(aa .i64 (a1+1)))&&(decide ((aa .i64 (a1+1))<=(a0.2.2.2.1.length:Int))&&decide ((a0.2.2.2.1.length:Int)<=(a0.2.2.2.1.length:Int))))
 (let x8:=(cut2 a0.2.2.2.1 (aa .i64 (a1+1)) (a0.2.2.2.1.length:Int))
 gd (fits (x7.length+x8.length) 32)
 (let x9:=(x7++x8)
 gd (decide (0<=(0:Int))&&(decide (0<=a1)&&decide (a1<=(a0.2.1.length:Int))))
 (gd (fits (0+ak (cut2 a0.2.1 0 a1)) 16)
 (let x10:=([]++(cut2 a0.2.1 0 a1))
 gd (fits (x10.length+a2.2.1.length) 16)
 (let x11:=(x10++a2.2.1)
 gd (decide (0<=a1)&&(decide (a1<=(a0.2.1.length:Int))&&decide ((a0.2.1.length:Int)<=(a0.2.1.length:Int))))
 (gd (fits (x11.length+ak (cut2 a0.2.1 a1 (a0.2.1.length:Int))) 16)
 (let x12:=(x11++(cut2 a0.2.1 a1 (a0.2.1.length:Int)))
 gd (fits (0+a2.2.2.length) 112)
 (let x13:=([]++a2.2.2)
 gd (fits (x13.length+a0.2.2.2.2.length) 112)
 (let x14:=(x13++a0.2.2.2.2)
 some ([],(x12,(x4,(x9,x14)))))))))))))))))))))
def zac(N:Nat)(rec:(List Z6)->Int->(List X0)->Option yvs)(b0:(List Z6))(b1:Int)(b2:(List X0)):Option yvs:=
 bif (decide (b1<(b0.length:Int)))then
 (gd (inB b1 (b0.length))
 ((zr5 N (rdL b0 b1 zo5)).bind fun r1=>
 gd (fits (b2.length+1) 32)
 (let x2:=(b2++[r1])
 rec b0 (aa .i64 (b1+1)) x2)))
 else
 (some ((),(b2,())))
def zd9(N:Nat)(n:Nat):=
 itF (fun _ _ _=>none) (zac N) n
theorem yki(N:Nat)(n:Nat):zd9 N (n+1)=zac N (zd9 N n):=rfl
def zks(N:Nat)(a0:(List Z6)):Option ((List X0)):=
 (zd9 N N a0 0 []).bind fun r3=>
 some r3.2.1
def zbd(N:Nat)(a0:(List Z8))(a1:Int):Option (((List Z8)×Int)):=
 match zbc N a0 a1 with
 | some r1=>(bif (!r1)then
 (some (a0,110))
 else
 (match zby N a0 with
 | some r2=>(gd (inB a1 (r2.length))
 (let x3:=(aa .i64 ((((rdL r2 a1 X1).2).2).1+1))
 gd (inB a1 (r2.length))
 (let x4:=(setL r2 a1 ((rdL r2 a1 X1).1,(((rdL r2 a1 X1).2).1,(x3,((((rdL r2 a1 X1).2).2).2)))))
 some (x4,0))))
 | none=>none))
 | none=>none
def z7c(N:Nat)(rec:(List Int)->Int->(List Z8)->Option (((Unit×Unit)×((List Z8)×(Unit×Unit)))))(b0:(List Int))(b1:Int)(b2:(List Z8)):Option (((Unit×Unit)×((List Z8)×(Unit×Unit)))):=
 bif (decide (b1<(b0.length:Int)))then
 (gd (inB b1 (b0.length))
 ((z4k N b2 (rdL b0 b1 0)).bind fun r1=>
 rec b0 (aa .i64 (b1+1)) r1.1))
 else
 (some (((),()),(b2,((),()))))
def zku(N:Nat)(n:Nat):=
 itF (fun _ _ _=>none) (z7c N) n
theorem zoj(N:Nat)(n:Nat):zku N (n+1)=z7c N (zku N n):=rfl
def zmx(N:Nat)(a0:(List Z8))(a1:(List Int)):Option ((List Z8)):=
 (zku N N a1 0 a0).bind fun r2=>
 some r2.2.1
def zbw(N:Nat)(b0:Int)(b1:Bool)(b2:Y4)(b3:(List Z6))(b4:(List (List UInt8)))(b5:(List Z1))(b6:(List Z8))(b7:(List Int))(b8:zd2):Option (yqq⊕((Unit×(Unit×(Unit×(Unit×Int))))×(Y4×(Unit×((List Z8)×((List Int)×Unit)))))):=
 bif b1 then
 ((zks N b3).bind fun r8=>
 let x9:=([([],(b4,(b8.2.1,(r8,b5))))]:List Z6)
 (zih N b6 x9).bind fun r10=>
 bif (!(eqi r10.2.2 0))then
 (some (.inl (((),r10.2.2),(b2,()))))
 else
 (gd (inB 0 (r10.2.1.length))
 (let x11:=([(rdL r10.2.1 0 0)]:List Int)
 gd (fits (b7.length+x11.length) 8)
 (let x12:=(b7++x11)
 some (.inr (((),((),((),((),(rdL r10.2.1 0 0))))),(b2,((),(r10.1,(x12,()))))))))))
 else
 (some (.inr (((),((),((),((),b0)))),(b2,((),(b6,(b7,())))))))
def zbx(N:Nat)(b0:Int)(b1:Y4)(b2:(List Z8))(b3:(List Int)):Option (yqq):=
 (zbd N b2 b0).bind fun r16=>
 (zmx N r16.1 b3).bind fun r17=>
 (zmx N r17 [b1.2.1]).bind fun r18=>
 some (((),0),((r18,(b0,b1.2.2)),()))
def z7b(N:Nat)(rec:(List Int)->Int->Y4->(List Z6)->(List (List UInt8))->(List Z1)->(List Z8)->(List Int)->Option (yqq))(b0:(List Int))(b1:Int)(b2:Y4)(b3:(List Z6))(b4:(List (List UInt8)))(b5:(List Z1))(b6:(List Z8))(b7:(List Int)):Option (yqq):=
 (zih N b6 b3).bind fun r1=>
 bif (!(eqi r1.2.2 0))then
 (some (((),r1.2.2),(b2,())))
 else
 (gd (fits (b7.length+r1.2.1.length) 8)
 (let x2:=(b7++r1.2.1)
 gd (inB 0 (r1.2.1.length))
 (bif (decide (0<b1))then
 (gd (decide (0<=(0:Int))&&(decide (0<=(aa .i64 (b1-1)))&&decide ((aa .i64 (b1-1))<=(b0.length:Int))))
 (let x3:=(cut2 b0 0 (aa .i64 (b1-1)))
 (zbb N b2 x3).bind fun r4=>
 gd (inB (aa .i64 (b1-1)) (b0.length))
 (let x5:=(rdL b0 (aa .i64 (b1-1)) 0)
 (zax N r4.1 x5 (b3,(b4,b5)) r1.2.1).bind fun r6=>
 rec b0 (aa .i64 (b1-1)) b2 [r6] [] [] r1.1 x2)))
 else
 (let x7:=(decide (1<(b3.length:Int)))
 bif x7 then
 ((zbw N (rdL r1.2.1 0 0) true b2 b3 b4 b5 r1.1 x2 r1).bind fun r13=>
 match r13 with
 | .inl r14=>(some (((),r14.1.2),(r14.2.1,())))
 | .inr r15=>((zbx N r15.1.2.2.2.2 r15.2.1 r15.2.2.2.1 r15.2.2.2.2.1).bind fun r19=>
 some (((),r19.1.2),(r19.2.1,()))))
 else
 (let x20:=(decide (0<(b5.length:Int)))
 (zbw N (rdL r1.2.1 0 0) x20 b2 b3 b4 b5 r1.1 x2 r1).bind fun r21=>
 match r21 with
 | .inl r22=>(some (((),r22.1.2),(r22.2.1,())))
 | .inr r23=>((zbx N r23.1.2.2.2.2 r23.2.1 r23.2.2.2.1 r23.2.2.2.2.1).bind fun r24=>
 some (((),r24.1.2),(r24.2.1,()))))))))
def zkt(N:Nat)(n:Nat):=
 itF (fun _ _ _ _ _ _ _ _=>none) (z7b N) n
theorem zoi(N:Nat)(n:Nat):zkt N (n+1)=z7b N (zkt N n):=rfl
def zek(N:Nat)(a0:Y4)(a1:(List Int))(a2:ziz):Option ((Y4×Int)):=
 (zkt N N a1 (a1.length:Int) a0 a2.1 a2.2.1 a2.2.2 a0.1 []).bind fun r25=>
 some (r25.2.1,r25.1.2)
def zrs(N:Nat)(b0:(List Int))(b1:Y4)(b2:ziz):Option (yqq):=
 let x2:=(decide (0<(b0.length:Int)))
 bif x2 then
 (let x3:=(aa .i64 ((b0.length:Int)-1))
 gd (decide (0<=(0:Int))&&(decide (0<=x3)&&decide (x3<=(b0.length:Int))))
 ((zbb N b1 (cut2 b0 0 x3)).bind fun r4=>
 bif (!(eqi r4.2.2 0))then
 (some (((),r4.2.2),(b1,())))
 else
 (gd (inB x3 (b0.length))
 (bif (decide ((rdL b0 x3 0)<0))then
 (some (((),140),(b1,())))
 else
 (gd (inB x3 (b0.length))
 (let x5:=(decide ((r4.1.2.2.1.length:Int)<=(rdL b0 x3 0)))
 bif x5 then
 (some (((),140),(b1,())))
 else
 ((zek N b1 b0 b2).bind fun r6=>
 some (((),r6.2),(r6.1,())))))))))
 else
 ((zek N b1 b0 b2).bind fun r7=>
 some (((),r7.2),(r7.1,())))
def zmy(N:Nat)(a0:Y4)(a1:(List Int))(a2:ziz):Option ((Y4×Int)):=
 bif (eqi (a2.1.length:Int) 0)then
 (some (a0,1))
 else
 (let x1:=(aa .i64 ((a2.1.length:Int)-1))
 bif (!(eqi (a2.2.1.length:Int) x1))then
 (some (a0,1))
 else
 ((zrs N a1 a0 a2).bind fun r8=>
 some (r8.2.1,r8.1.2)))
def z41(N:Nat)(rec:Int->Int->Z6->(List Z1)->(List Z6)->(List (List UInt8))->(List Int)->Option x3m)(b0 b1:Int)(b2:Z6)(b3:(List Z1))(b4:(List Z6))(b5:(List (List UInt8)))(b6:(List Int)):Option x3m:=
 bif (decide (b1<(b6.length:Int)))then
 (gd (inB b1 (b6.length))
 (let x2:=(aa .i64 (b0+(rdL b6 b1 0)))
 gd (decide (0<=b0)&&(decide (b0<=x2)&&decide (x2<=(b2.2.2.1.length:Int))))
 (gd (decide (0<=b0)&&(decide (b0<=x2)&&decide (x2<=(b2.2.2.2.1.length:Int))))
 (gd (decide (0<=b0)&&(decide (b0<=(aa .i64 (x2-1)))&&decide ((aa .i64 (x2-1))<=(b2.2.1.length:Int))))
 (let x3:=(cut2 b2.2.1 b0 (aa .i64 (x2-1)))
 let x4:=([([],(x3,((cut2 b2.2.2.1 b0 x2),((cut2 b2.2.2.2.1 b0 x2),[]))))]:List Z6)
 gd (fits (b4.length+x4.length) 120)
 (let x5:=(b4++x4)
 bif (decide (0<b1))then
 (gd (inB (aa .i64 (b0-1)) (b2.2.1.length))
 (let x6:=(rdL b2.2.1 (aa .i64 (b0-1)) [])
 gd (fits (b5.length+1) 16)
 (let x7:=(b5++[x6])
 rec x2 (aa .i64 (b1+1)) b2 b3 x5 x7 b6)))
 else
 (rec x2 (aa .i64 (b1+1)) b2 b3 x5 b5 b6)))))))
 else
 (some (((),()),((),(((),((),b3)),(b4,(b5,()))))))
def zf1(N:Nat)(n:Nat):=
 itF (fun _ _ _ _ _ _ _=>none) (z41 N) n
theorem zjw(N:Nat)(n:Nat):zf1 N (n+1)=z41 N (zf1 N n):=rfl
def zoz(N:Nat)(a0:Z6)(a1:Q4):Option (zqg):=
 (z7o N (a0.2.2.1.length:Int) a1.2.1).bind fun r1=>
 (zf1 N N 0 0 a0 a0.2.2.2.2 [] [] r1).bind fun r8=>
 some (r8.2.2.2.1,(r8.2.2.2.2.1,r8.2.2.1.2.2))
def zvg(N:Nat)(a0:(List (List UInt8))):Option ((List Z0)):=
 (ziv N ([],[]) a0).bind fun r1=>
 some r1
def ze7(N:Nat)(a0:Z1):Option (Bool):=
 bif (eqi a0.1 4)then
 (some true)
 else
 (some (eqi a0.1 5))
def z57(N:Nat)(a0:Z1):Option ((List Z0)):=
 bif (eqi a0.1 4)then
 (match Q5 N a0.2.2.2.2.1 with
 | some r1=>(some [r1])
 | none=>none)
 else
 (bif (eqi a0.1 5)then
 (match Q5 N a0.2.2.2.2.1 with
 | some r2=>(some [r2])
 | none=>none)
 else
 (bif (eqi a0.1 6)then
 (some [a0.2.2.2.1])
 else
 (some [])))
def G3(N:Nat)(a0:Z1):Option ((List Z0)):=
 bif (eqi a0.1 1)then
 (match z8q N a0.2.1 with
 | some r1=>(some [r1])
 | none=>none)
 else
 (bif (eqi a0.1 2)then
 (match z8q N a0.2.1 with
 | some r2=>(some [r2])
 | none=>none)
 else
 (bif (eqi a0.1 4)then
 (match Q5 N a0.2.2.2.2.1 with
 | some r3=>(match Q5 N a0.2.2.2.2.2.1 with
 | some r4=>(some [r3,r4])
 | none=>none)
 | none=>none)
 else
 (bif (eqi a0.1 5)then
 (match Q5 N a0.2.2.2.2.2.1 with
 | some r5=>(some [r5])
 | none=>none)
 else
 (some [a0.2.2.2.1]))))
def zfq(N:Nat)(a0 a1:Z0):Option (Bool):=
 match z2b N a1 with
 | some r1=>(bif r1 then
 (some true)
 else
 (match z2b N a0 with
 | some r2=>(bif (!r2)then
 (bif (lts a0.1 a1.1 || eqs a0.1 a1.1)then
 (match zhl N a0.2 a1.2 with
 | some r3=>(some (!r3))
 | none=>none)
 else
 (some false))
 else
 (some false))
 | none=>none))
 | none=>none
def z5q(N:Nat)(rec:Int->Z0->(List Z0)->Option Ty4_)(b0:Int)(b1:Z0)(b2:(List Z0)):Option Ty4_:=
 bif (decide (b0<(b2.length:Int)))then
 (gd (inB b0 (b2.length))
 ((zfq N b1 (rdL b2 b0 Y7)).bind fun r5=>
 bif (!r5)then
 (some (.inl (false,())))
 else
 (rec (aa .i64 (b0+1)) b1 b2)))
 else
 (some (.inr ((),())))
def zhf(N:Nat)(n:Nat):=
 itF (fun _ _ _=>none) (z5q N) n
theorem zlw(N:Nat)(n:Nat):zhf N (n+1)=z5q N (zhf N n):=rfl
def zsy(N:Nat)(a0:Z1)(a1:Z0):Option (Bool):=
 (z57 N a0).bind fun r1=>
 gd (fits (0+r1.length) 32)
 (let x2:=([]++r1)
 (G3 N a0).bind fun r3=>
 gd (fits (x2.length+r3.length) 32)
 (let x4:=(x2++r3)
 (zhf N N 0 a1 x4).bind fun r6=>
 match r6 with
 | .inl r7=>(some r7.1)
 | .inr r8=>(some true)))
def z45(N:Nat)(rec:(List Z0)->(List Z0)->Int->Int->Option ((Bool×Unit)⊕(((List Z0)×((List Z0)×Int))×Unit)))(b0:(List Z0))(b1:(List Z0))(b2 b3:Int):Option ((Bool×Unit)⊕(((List Z0)×((List Z0)×Int))×Unit)):=
 bif (decide (b3<(b1.length:Int)))then
 (gd (inB b2 (b0.length))
 (gd (inB b3 (b1.length))
 (match z4m N (rdL b0 b2 Y7) (rdL b1 b3 Y7)with
 | some r1=>(match z2b N r1 with
 | some r2=>(bif (!r2)then
 (some (.inl (true,())))
 else
 (rec b0 b1 b2 (aa .i64 (b3+1))))
 | none=>none)
 | none=>none)))
 else
 (some (.inr ((b0,(b1,b2)),())))
def zf6(N:Nat)(n:Nat):=
 itF (fun _ _ _ _=>none) (z45 N) n
theorem zk0(N:Nat)(n:Nat):zf6 N (n+1)=z45 N (zf6 N n):=rfl
def z47(N:Nat)(rec:(List Z0)->(List Z0)->Int->Option Ty4_)(b0:(List Z0))(b1:(List Z0))(b2:Int):Option Ty4_:=
 bif (decide (b2<(b0.length:Int)))then
 (match zf6 N N b0 b1 b2 0 with
 | some r3=>(match r3 with
 | .inl r4=>(some (.inl (r4.1,())))
 | .inr r5=>(rec r5.1.1 r5.1.2.1 (aa .i64 (r5.1.2.2+1))))
 | none=>none)
 else
 (some (.inr ((),())))
def zf7(N:Nat)(n:Nat):=
 itF (fun _ _ _=>none) (z47 N) n
theorem zk1(N:Nat)(n:Nat):zf7 N (n+1)=z47 N (zf7 N n):=rfl
def zb0(N:Nat)(a0:(List Z0))(a1:(List Z0)):Option (Bool):=
 match zf7 N N a0 a1 0 with
 | some r6=>(match r6 with
 | .inl r7=>(some r7.1)
 | .inr r8=>(some false))
 | none=>none
def znm(N:Nat)(a0:Z1)(a1:Z0):Option ((List Z1)):=
 (G3 N a0).bind fun r1=>
 (zb0 N r1 [a1]).bind fun r2=>
 bif (!r2)then
 (some [])
 else
 (bif (eqi a0.1 3)then
 ((z4m N a0.2.2.2.1 a1).bind fun r3=>
 let x4:=([(a0.1,(a0.2.1,(a0.2.2.1,(r3,a0.2.2.2.2))))]:List Z1)
 some x4)
 else
 (bif (eqi a0.1 6)then
 ((z4m N a0.2.2.2.1 a1).bind fun r5=>
 let x6:=([(a0.1,(a0.2.1,(a0.2.2.1,(r5,a0.2.2.2.2))))]:List Z1)
 some x6)
 else
 (some [a0])))
def z37(N:Nat)(rec:(List Z0)->Bool->Int->Z0->(List Z0)->Option (((Unit×(Unit×Bool))×yvt)))(b0:(List Z0))(b1:Bool)(b2:Int)(b3:Z0)(b4:(List Z0)):Option (((Unit×(Unit×Bool))×yvt)):=
 bif (decide (b2<(b0.length:Int)))then
 (bif (!b1)then
 (gd (inB b2 (b0.length))
 (bif (lts b3.1 ((rdL b0 b2 Y7).1))then
 (gd (fits (b4.length+1) 32)
 (let x2:=(b4++[b3])
 gd (inB b2 (b0.length))
 (gd (fits (x2.length+1) 32)
 (let x3:=(x2++[(rdL b0 b2 Y7)])
 rec b0 true (aa .i64 (b2+1)) b3 x3))))
 else
 (gd (inB b2 (b0.length))
 (gd (fits (b4.length+1) 32)
 (let x4:=(b4++[(rdL b0 b2 Y7)])
 rec b0 b1 (aa .i64 (b2+1)) b3 x4)))))
 else
 (gd (inB b2 (b0.length))
 (gd (fits (b4.length+1) 32)
 (let x5:=(b4++[(rdL b0 b2 Y7)])
 rec b0 b1 (aa .i64 (b2+1)) b3 x5))))
 else
 (some (((),((),b1)),(b3,(b4,()))))
def zdg(N:Nat)(n:Nat):=
 itF (fun _ _ _ _ _=>none) (z37 N) n
theorem zhk(N:Nat)(n:Nat):zdg N (n+1)=z37 N (zdg N n):=rfl
def zl4(N:Nat)(a0:(List Z0))(a1:Z0):Option ((List Z0)):=
 match z2b N a1 with
 | some r1=>(match zdg N N a0 r1 0 a1 []with
 | some r6=>(bif (!r6.1.2.2)then
 (gd (fits (r6.2.2.1.length+1) 32)
 (let x7:=(r6.2.2.1++[r6.2.1])
 some x7))
 else
 (some r6.2.2.1))
 | none=>none)
 | none=>none
def z4x(N:Nat)(b0 b1:Int)(b2:Bool)(b3:(List Z0))(b4:(List Z0)):Option (((Unit×(Unit×Int))×yzw)):=
 bif b2 then
 (gd (inB b0 (b3.length))
 (gd (fits (b4.length+1) 32)
 (let x4:=(b4++[(rdL b3 b0 Y7)])
 some (((),((),b0)),(b3,(x4,()))))))
 else
 (gd (inB b1 (b4.length))
 (gd (inB b0 (b3.length))
 (match zhl N ((rdL b4 b1 Y7).2) ((rdL b3 b0 Y7).2)with
 | some r5=>(bif r5 then
 (gd (inB b0 (b3.length))
 (gd (inB b1 (b4.length))
 (let x6:=(setL b4 b1 ((rdL b4 b1 Y7).1,(rdL b3 b0 Y7).2))
 some (((),((),b0)),(b3,(x6,()))))))
 else
 (some (((),((),b0)),(b3,(b4,())))))
 | none=>none)))
def z5s(N:Nat)(rec:Int->(List Z0)->(List Z0)->Option yl0)(b0:Int)(b1:(List Z0))(b2:(List Z0)):Option yl0:=
 bif (decide (b0<(b1.length:Int)))then
 (let x3:=(aa .i64 ((b2.length:Int)-1))
 bif (decide (x3<0))then
 (match z4x N b0 x3 true b1 b2 with
 | some r7=>(rec (aa .i64 (r7.1.2.2+1)) r7.2.1 r7.2.2.1)
 | none=>none)
 else
 (gd (inB x3 (b2.length))
 (let x8:=(!(eqs ((rdL b2 x3 Y7).2) []))
 bif x8 then
 (gd (inB x3 (b2.length))
 (gd (inB b0 (b1.length))
 (let x9:=(lts ((rdL b2 x3 Y7).2) ((rdL b1 b0 Y7).1))
 match z4x N b0 x3 x9 b1 b2 with
 | some r10=>(rec (aa .i64 (r10.1.2.2+1)) r10.2.1 r10.2.2.1)
 | none=>none)))
 else
 (match z4x N b0 x3 false b1 b2 with
 | some r11=>(rec (aa .i64 (r11.1.2.2+1)) r11.2.1 r11.2.2.1)
 | none=>none))))
 else
 (some ((),(b2,())))
def zct(N:Nat)(n:Nat):=
 itF (fun _ _ _=>none) (z5s N) n
theorem zly(N:Nat)(n:Nat):zct N (n+1)=z5s N (zct N n):=rfl
def z0t(N:Nat)(rec:(List Z0)->Int->(List Z0)->(List Z0)->Option (((Unit×Unit)×yzw)))(b0:(List Z0))(b1:Int)(b2:(List Z0))(b3:(List Z0)):Option (((Unit×Unit)×yzw)):=
 bif (decide (b1<(b0.length:Int)))then
 (gd (inB b1 (b0.length))
 (match zl4 N b2 (rdL b0 b1 Y7)with
 | some r1=>(rec b0 (aa .i64 (b1+1)) r1 b3)
 | none=>none))
 else
 (some (((),()),(b2,(b3,()))))
def zcu(N:Nat)(n:Nat):=
 itF (fun _ _ _ _=>none) (z0t N) n
theorem z8t(N:Nat)(n:Nat):zcu N (n+1)=z0t N (zcu N n):=rfl
def z4l(N:Nat)(a0:(List Z0)):Option ((List Z0)):=
 match zcu N N a0 0 [] []with
 | some r2=>(match zct N N 0 r2.2.1 r2.2.2.1 with
 | some r12=>(some r12.2.1)
 | none=>none)
 | none=>none
def z4c(N:Nat)(rec:(List Z0)->Int->Int->(List Z0)->(List Z0)->Option ((((List Z0)×(Int×Unit))×((List Z0)×Unit))))(b0:(List Z0))(b1 b2:Int)(b3:(List Z0))(b4:(List Z0)):Option ((((List Z0)×(Int×Unit))×((List Z0)×Unit))):=
 bif (decide (b2<(b3.length:Int)))then
 (gd (inB b1 (b0.length))
 (let x3:=(!(eqs ((rdL b0 b1 Y7).1) []))
 bif x3 then
 (gd (inB b2 (b3.length))
 (gd (inB b1 (b0.length))
 (match z4m N (rdL b3 b2 Y7) ([],(rdL b0 b1 Y7).1)with
 | some r4=>(gd (fits (b4.length+1) 32)
 (let x5:=(b4++[r4])
 gd (inB b1 (b0.length))
 (let x6:=(!(eqs ((rdL b0 b1 Y7).2) []))
 bif x6 then
 (gd (inB b2 (b3.length))
 (gd (inB b1 (b0.length))
 (match z4m N (rdL b3 b2 Y7) ((rdL b0 b1 Y7).2,[])with
 | some r7=>(gd (fits (x5.length+1) 32)
 (let x8:=(x5++[r7])
 rec b0 b1 (aa .i64 (b2+1)) b3 x8))
 | none=>none)))
 else
 (rec b0 b1 (aa .i64 (b2+1)) b3 x5))))
 | none=>none)))
 else
 (gd (inB b1 (b0.length))
 (let x9:=(!(eqs ((rdL b0 b1 Y7).2) []))
 bif x9 then
 (gd (inB b2 (b3.length))
 (gd (inB b1 (b0.length))
 (match z4m N (rdL b3 b2 Y7) ((rdL b0 b1 Y7).2,[])with
 | some r10=>(gd (fits (b4.length+1) 32)
 (let x11:=(b4++[r10])
 rec b0 b1 (aa .i64 (b2+1)) b3 x11))
 | none=>none)))
 else
 (rec b0 b1 (aa .i64 (b2+1)) b3 b4)))))
 else
 (some ((b0,(b1,())),(b4,())))
def zas(N:Nat)(n:Nat):=
 itF (fun _ _ _ _ _=>none) (z4c N) n
theorem zk6(N:Nat)(n:Nat):zas N (n+1)=z4c N (zas N n):=rfl
def G9(N:Nat)(rec:(List Z0)->Int->(List Z0)->Option yl0)(b0:(List Z0))(b1:Int)(b2:(List Z0)):Option yl0:=
 bif (decide (b1<(b0.length:Int)))then
 (gd (inB b1 (b0.length))
 (match z2b N (rdL b0 b1 Y7)with
 | some r2=>(bif r2 then
 (rec b0 (aa .i64 (b1+1)) b2)
 else
 (match zas N N b0 b1 0 b2 []with
 | some r12=>(match z4l N r12.2.1 with
 | some r13=>(rec r12.1.1 (aa .i64 (r12.1.2.1+1)) r13)
 | none=>none)
 | none=>none))
 | none=>none))
 else
 (some ((),(b2,())))
def zat(N:Nat)(n:Nat):=
 itF (fun _ _ _=>none) (G9 N) n
theorem z1j(N:Nat)(n:Nat):zat N (n+1)=G9 N (zat N n):=rfl
def y7(N:Nat)(a0:(List Z0))(a1:(List Z0)):Option ((List Z0)):=
 match z4l N a0 with
 | some r1=>(match zat N N a1 0 r1 with
 | some r14=>(some r14.2.1)
 | none=>none)
 | none=>none
def z32(N:Nat)(rec:Int->(List Z1)->(List Z1)->(List Z0)->Z1->(List Z0)->Option x3o)(b0:Int)(b1:(List Z1))(b2:(List Z1))(b3:(List Z0))(b4:Z1)(b5:(List Z0)):Option x3o:=
 bif (decide (b0<(b5.length:Int)))then
 (gd (inB b0 (b5.length))
 (let x23:=([(b4.1,(b4.2.1,(b4.2.2.1,((rdL b5 b0 Y7),b4.2.2.2.2))))]:List Z1)
 gd (fits (b2.length+x23.length) 112)
 (let x24:=(b2++x23)
 rec (aa .i64 (b0+1)) b1 x24 b3 (b4.1,(b4.2.1,(b4.2.2.1,((rdL b5 b0 Y7),b4.2.2.2.2)))) b5)))
 else
 (some (((),()),(((),((),())),(b1,(b2,(b3,((),())))))))
def z9m(N:Nat)(n:Nat):=
 itF (fun _ _ _ _ _ _=>none) (z32 N) n
theorem zhe(N:Nat)(n:Nat):z9m N (n+1)=z32 N (z9m N n):=rfl
def z4s(N:Nat)(a0:Z1)(a1:Z0)(a2:(List Z1))(a3:(List Z1))(a4:(List Z0)):Option (yzz):=
 (ze7 N a0).bind fun r1=>
 bif r1 then
 ((z57 N a0).bind fun r2=>
 gd (fits (0+r2.length) 32)
 (let x3:=([]++r2)
 (G3 N a0).bind fun r4=>
 gd (fits (x3.length+r4.length) 32)
 (let x5:=(x3++r4)
 (zsy N a0 a1).bind fun r6=>
 bif r6 then
 ((zb0 N x5 a4).bind fun r7=>
 bif (!r7)then
 (gd (fits (a2.length+1) 112)
 (let x8:=(a2++[a0])
 some (((),((),())),(x8,(a3,(a4,()))))))
 else
 (gd (fits (a3.length+1) 112)
 (let x9:=(a3++[a0])
 gd (fits (a4.length+x5.length) 32)
 (let x10:=(a4++x5)
 some (((),((),())),(a2,(x9,(x10,()))))))))
 else
 (gd (fits (a3.length+1) 112)
 (let x11:=(a3++[a0])
 gd (fits (a4.length+x5.length) 32)
 (let x12:=(a4++x5)
 some (((),((),())),(a2,(x11,(x12,()))))))))))
 else
 ((znm N a0 a1).bind fun r13=>
 bif (eqi (r13.length:Int) 0)then
 (gd (fits (a3.length+1) 112)
 (let x14:=(a3++[a0])
 some (((),((),())),(a2,(x14,(a4,()))))))
 else
 (gd (inB 0 (r13.length))
 ((G3 N (rdL r13 0 K3)).bind fun r15=>
 (zb0 N r15 a4).bind fun r16=>
 bif r16 then
 (gd (fits (a3.length+1) 112)
 (let x17:=(a3++[a0])
 gd (inB 0 (r13.length))
 ((G3 N (rdL r13 0 K3)).bind fun r18=>
 gd (fits (a4.length+r18.length) 32)
 (let x19:=(a4++r18)
 some (((),((),())),(a2,(x17,(x19,()))))))))
 else
 (gd (inB 0 (r13.length))
 (let x20:=([(rdL r13 0 K3)]:List Z1)
 gd (fits (a2.length+x20.length) 112)
 (let x21:=(a2++x20)
 bif (eqi a0.1 3)then
 ((y7 N [a0.2.2.2.1] [a1]).bind fun r22=>
 (z9m N N 0 x21 a3 a4 a0 r22).bind fun r25=>
 some (((),((),())),(r25.2.2.1,(r25.2.2.2.1,(r25.2.2.2.2.1,())))))
 else
 (bif (eqi a0.1 6)then
 ((y7 N [a0.2.2.2.1] [a1]).bind fun r26=>
 (z9m N N 0 x21 a3 a4 a0 r26).bind fun r27=>
 some (((),((),())),(r27.2.2.1,(r27.2.2.2.1,(r27.2.2.2.2.1,())))))
 else
 (some (((),((),())),(x21,(a3,(a4,()))))))))))))
def z44(N:Nat)(rec:(List Z1)->Int->(List Z1)->(List Z1)->(List Z0)->Z0->Option (((Unit×Unit)×(Unit×yzz))))(b0:(List Z1))(b1:Int)(b2:(List Z1))(b3:(List Z1))(b4:(List Z0))(b5:Z0):Option (((Unit×Unit)×(Unit×yzz))):=
 bif (decide (b1<(b0.length:Int)))then
 (gd (inB b1 (b0.length))
 ((z4s N (rdL b0 b1 K3) b5 b2 b3 b4).bind fun r2=>
 rec b0 (aa .i64 (b1+1)) r2.2.1 r2.2.2.1 r2.2.2.2.1 b5))
 else
 (some (((),()),((),(((),((),())),(b2,(b3,(b4,())))))))
def zf4(N:Nat)(n:Nat):=
 itF (fun _ _ _ _ _ _=>none) (z44 N) n
theorem zjz(N:Nat)(n:Nat):zf4 N (n+1)=z44 N (zf4 N n):=rfl
def z93(N:Nat)(a0:(List Z1))(a1:(List (List UInt8)))(a2:Int):Option (zpn):=
 (zvg N a1).bind fun r1=>
 gd (inB a2 (r1.length))
 ((zf4 N N a0 0 [] [] [] (rdL r1 a2 Y7)).bind fun r3=>
 some (r3.2.2.2.1,(r3.2.2.2.2.1,r3.2.2.2.2.2.1)))
def z5h(N:Nat)(rec:Int->Int->Int->Z6->Option (((Int×Int)×Unit)))(b0 b1 b2:Int)(b3:Z6):Option (((Int×Int)×Unit)):=
 bif (decide (b2<(b3.2.2.1.length:Int)))then
 ((z93 N b3.2.2.2.2 b3.2.1 b2).bind fun r1=>
 bif (decide (b1<(r1.1.length:Int)))then
 (rec b2 (r1.1.length:Int) (aa .i64 (b2+1)) b3)
 else
 (rec b0 b1 (aa .i64 (b2+1)) b3))
 else
 (some ((b0,b1),()))
def zcp(N:Nat)(n:Nat):=
 itF (fun _ _ _ _=>none) (z5h N) n
theorem zln(N:Nat)(n:Nat):zcp N (n+1)=z5h N (zcp N n):=rfl
def zso(N:Nat)(a0:Z6):Option ((Int×Int)):=
 (zcp N N 0 0 0 a0).bind fun r2=>
 some (r2.1.1,r2.1.2)
def zcq(N:Nat)(a0:Z6)(a1:Int):Option (Z6):=
 let x1:=(bif decide ((aa .i64 (a1-1))<0)then 0 else(aa .i64 (a1-1)))
 gd (decide (0<=(0:Int))&&(decide (0<=a1)&&decide (a1<=(a0.2.2.1.length:Int))))
 (gd (fits (0+ak (cut2 a0.2.2.1 0 a1)) 8)
 (let x2:=([]++(cut2 a0.2.2.1 0 a1))
 gd (decide (0<=(aa .i64 (a1+1)))&&(decide ((aa .i64 (a1+1))<=(a0.2.2.1.length:Int))&&decide ((a0.2.2.1.length:Int)<=(a0.2.2.1.length:Int))))
 (let x3:=(cut2 a0.2.2.1 (aa .i64 (a1+1)) (a0.2.2.1.length:Int))
 gd (fits (x2.length+x3.length) 8)
 (let x4:=(x2++x3)
 gd (decide (0<=(0:Int))&&(decide (0<=a1)&&decide (a1<=(a0.2.2.2.1.length:Int))))
 (gd (fits (0+ak (cut2 a0.2.2.2.1 0 a1)) 32)
 (let x5:=([]++(cut2 a0.2.2.2.1 0 a1))
 gd (decide (0<=(aa .i64 (a1+1)))&&(decide ((aa .i64 (a1+1))<=(a0.2.2.2.1.length:Int))&&decide ((a0.2.2.2.1.length:Int)<=(a0.2.2.2.1.length:Int))))
 (let x6:=(cut2 a0.2.2.2.1 (aa .i64 (a1+1)) (a0.2.2.2.1.length:Int))
 gd (fits (x5.length+x6.length) 32)
 (let x7:=(x5++x6)
 gd (decide (0<=(0:Int))&&(decide (0<=x1)&&decide (x1<=(a0.2.1.length:Int))))
 (gd (fits (0+ak (cut2 a0.2.1 0 x1)) 16)
 (let x8:=([]++(cut2 a0.2.1 0 x1))
 gd (decide (0<=(aa .i64 (x1+1)))&&(decide ((aa .i64 (x1+1))<=(a0.2.1.length:Int))&&decide ((a0.2.1.length:Int)<=(a0.2.1.length:Int))))
 (let x9:=(cut2 a0.2.1 (aa .i64 (x1+1)) (a0.2.1.length:Int))
 gd (fits (x8.length+x9.length) 16)
 (let x10:=(x8++x9)
 some ([],(x10,(x4,(x7,a0.2.2.2.2))))))))))))))))
def zdx(N:Nat)(a0 a1:Y4)(a2 a3:Int):Option (z9q):=
 bif (!(eqi a2 0))then
 (some (a0,(0,a2)))
 else
 (some (a1,(a3,0)))
def z7j(N:Nat)(rec:(List Z7)->(List Z1)->Int->Option (((List Z7)×Unit)))(b0:(List Z7))(b1:(List Z1))(b2:Int):Option (((List Z7)×Unit)):=
 bif (decide (b2<(b1.length:Int)))then
 (gd (inB b2 (b1.length))
 (match z58 N b0 (rdL b1 b2 K3)with
 | some r1=>(rec r1 b1 (aa .i64 (b2+1)))
 | none=>none))
 else
 (some (b0,()))
def zl2(N:Nat)(n:Nat):=
 itF (fun _ _ _=>none) (z7j N) n
theorem zoq(N:Nat)(n:Nat):zl2 N (n+1)=z7j N (zl2 N n):=rfl
def zr7(N:Nat)(a0:(List Z7))(a1:(List Z1)):Option ((List Z7)):=
 match zl2 N N a0 a1 0 with
 | some r2=>(some r2.1)
 | none=>none
def z3i(N:Nat)(b0:(List Int))(b1:Int)(b2:Y4)(b3:Z6)(b4:zpn)(b5:(List Z6))(b6:(List (List UInt8)))(b7:(List Z1)):Option ((Unit×(z9q×Unit))):=
 (zih N b2.1 b5).bind fun r14=>
 bif (!(eqi r14.2.2 0))then
 (some ((),((b2,(0,r14.2.2)),())))
 else
 ((zax N b3 b1 (b5,(b6,b7)) r14.2.1).bind fun r15=>
 (zek N (r14.1,b2.2) b0 ([r15],([],[]))).bind fun r16=>
 (zmx N r16.1.1 r14.2.1).bind fun r17=>
 (zdx N b2 (r17,r16.1.2) r16.2 (b4.1.length:Int)).bind fun r18=>
 some ((),(r18,())))
def zmg(N:Nat)(b0:(List Int))(b1:Int)(b2:Y4)(b3:Z6):Option ((Unit×(z9q×Unit))):=
 gd (inB b1 (b3.2.2.1.length))
 ((zce N b2.1 (rdL b3.2.2.1 b1 0)).bind fun r3=>
 bif (!(eqi r3.2 0))then
 (some ((),((b2,(0,r3.2)),())))
 else
 ((z93 N b3.2.2.2.2 b3.2.1 b1).bind fun r4=>
 bif (eqi (r4.1.length:Int) 0)then
 (some ((),((b2,(0,0)),())))
 else
 (let x5:=(decide (0<(r3.1.2.2.1.length:Int)))
 bif x5 then
 (gd (fits (0+r3.1.2.2.2.2.length) 112)
 (let x6:=([]++r3.1.2.2.2.2)
 gd (fits (x6.length+r4.1.length) 112)
 (let x7:=(x6++r4.1)
 let x8:=([(r3.1.1,(r3.1.2.1,(r3.1.2.2.1,(r3.1.2.2.2.1,x7))))]:List Z6);let x9:=(aa .i64 ((r3.1.2.2.1.length:Int)+(r3.1.1.length:Int)))
 bif (eqi x9 0)then
 (let x10:=(decide (1<(b3.2.2.1.length:Int)))
 bif x10 then
 ((zcq N (b3.1,(b3.2.1,(b3.2.2.1,(b3.2.2.2.1,r4.2.1)))) b1).bind fun r11=>
 (zek N b2 b0 ([r11],([],[]))).bind fun r12=>
 (zdx N b2 r12.1 r12.2 (r4.1.length:Int)).bind fun r13=>
 some ((),(r13,())))
 else
 ((z3i N b0 b1 b2 (b3.1,(b3.2.1,(b3.2.2.1,(b3.2.2.2.1,r4.2.1)))) r4 x8 [] []).bind fun r19=>
 some ((),(r19.2.1,()))))
 else
 ((z3i N b0 b1 b2 (b3.1,(b3.2.1,(b3.2.2.1,(b3.2.2.2.1,r4.2.1)))) r4 x8 [] []).bind fun r20=>
 some ((),(r20.2.1,()))))))
 else
 ((zr7 N r3.1.1 r4.1).bind fun r21=>
 (zh4 N (r21,r3.1.2) b2.2.2).bind fun r22=>
 let x23:=(aa .i64 ((r3.1.2.2.1.length:Int)+(r21.length:Int)))
 bif (eqi x23 0)then
 (let x24:=(decide (1<(b3.2.2.1.length:Int)))
 bif x24 then
 ((zcq N (b3.1,(b3.2.1,(b3.2.2.1,(b3.2.2.2.1,r4.2.1)))) b1).bind fun r25=>
 (zek N b2 b0 ([r25],([],[]))).bind fun r26=>
 (zdx N b2 r26.1 r26.2 (r4.1.length:Int)).bind fun r27=>
 some ((),(r27,())))
 else
 ((z3i N b0 b1 b2 (b3.1,(b3.2.1,(b3.2.2.1,(b3.2.2.2.1,r4.2.1)))) r4 r22.1 r22.2.1 []).bind fun r28=>
 some ((),(r28.2.1,()))))
 else
 ((z3i N b0 b1 b2 (b3.1,(b3.2.1,(b3.2.2.1,(b3.2.2.2.1,r4.2.1)))) r4 r22.1 r22.2.1 []).bind fun r29=>
 some ((),(r29.2.1,())))))))
def zoy(N:Nat)(a0:Y4)(a1:(List Int))(a2:Int):Option (z9q):=
 (zbb N a0 a1).bind fun r1=>
 bif (!(eqi r1.2.2 0))then
 (some (a0,(0,r1.2.2)))
 else
 (bif (decide (a2<0))then
 (some (a0,(0,140)))
 else
 (let x2:=(decide ((r1.1.2.2.1.length:Int)<=a2))
 bif x2 then
 (some (a0,(0,140)))
 else
 ((zmg N a1 a2 a0 r1.1).bind fun r30=>
 some r30.2.1)))
def zx0(N:Nat)(a0:Z0)(a1:(List UInt8)):Option (Bool):=
 bif (!(lts a1 a0.1))then
 (bif (eqs a0.2 [])then
 (some true)
 else
 (some (lts a1 a0.2)))
 else
 (some false)
def z2y(N:Nat)(rec:(List Z7)->(List Z0)->Int->Bool->Int->(List Z7)->Option x3i)(b0:(List Z7))(b1:(List Z0))(b2:Int)(b3:Bool)(b4:Int)(b5:(List Z7)):Option x3i:=
 bif (decide (b4<(b1.length:Int)))then
 (bif b3 then
 (rec b0 b1 b2 true (aa .i64 (b4+1)) b5)
 else
 (gd (inB b4 (b1.length))
 (gd (inB b2 (b0.length))
 ((zx0 N (rdL b1 b4 Y7) ((rdL b0 b2 X6).1)).bind fun r1=>
 rec b0 b1 b2 r1 (aa .i64 (b4+1)) b5))))
 else
 (some ((b0,(b1,((),(b2,b3)))),(b5,())))
def zdb(N:Nat)(n:Nat):=
 itF (fun _ _ _ _ _ _=>none) (z2y N) n
theorem zh5(N:Nat)(n:Nat):zdb N (n+1)=z2y N (zdb N n):=rfl
def z2z(N:Nat)(rec:(List Z7)->(List Z0)->Int->(List Z7)->Option (y13))(b0:(List Z7))(b1:(List Z0))(b2:Int)(b3:(List Z7)):Option (y13):=
 bif (decide (b2<(b0.length:Int)))then
 ((zdb N N b0 b1 b2 false 0 b3).bind fun r2=>
 bif r2.1.2.2.2.2 then
 (gd (inB r2.1.2.2.2.1 (r2.1.1.length))
 (let x3:=([(rdL r2.1.1 r2.1.2.2.2.1 X6)]:List Z7)
 gd (fits (r2.2.1.length+x3.length) 40)
 (let x4:=(r2.2.1++x3)
 let x5:=(aa .i64 (r2.1.2.2.2.1+1))
 rec r2.1.1 r2.1.2.1 x5 x4)))
 else
 (let x6:=(aa .i64 (r2.1.2.2.2.1+1))
 rec r2.1.1 r2.1.2.1 x6 r2.2.1))
 else
 (some ((),(b3,())))
def zdc(N:Nat)(n:Nat):=
 itF (fun _ _ _ _=>none) (z2z N) n
theorem zh6(N:Nat)(n:Nat):zdc N (n+1)=z2z N (zdc N n):=rfl
def zfm(N:Nat)(a0:(List Z7))(a1:(List Z0)):Option ((List Z7)):=
 (zdc N N a0 a1 0 []).bind fun r7=>
 some r7.2.1
def zp2(N:Nat)(a0:Z0)(a1 a2:(List UInt8)):Option (Z0):=
 (Q5 N a2).bind fun r1=>
 gd (decide (0<=(a1.length:Int))&&(decide ((a1.length:Int)<=(a0.1.length:Int))&&decide ((a0.1.length:Int)<=(a0.1.length:Int))))
 (let x2:=(cut2 a0.1 (a1.length:Int) (a0.1.length:Int))
 gd (decide (a2.length+x2.length<maxS))
 (let x3:=(a2++x2)
 (z1n N a0.2 a1).bind fun r4=>
 bif r4 then
 (bif (!(eqs a0.2 []))then
 (gd (decide (0<=(a1.length:Int))&&(decide ((a1.length:Int)<=(a0.2.length:Int))&&decide ((a0.2.length:Int)<=(a0.2.length:Int))))
 (let x5:=(cut2 a0.2 (a1.length:Int) (a0.2.length:Int))
 gd (decide (a2.length+x5.length<maxS))
 (let x6:=(a2++x5)
 some (x3,x6))))
 else
 (some (x3,r1.2)))
 else
 (some (x3,r1.2))))
def z21(N:Nat)(rec:(List Z0)->Int->Z1->Z0->(List Z0)->Option yl0)(b0:(List Z0))(b1:Int)(b2:Z1)(b3:Z0)(b4:(List Z0)):Option yl0:=
 bif (decide (b1<(b0.length:Int)))then
 (gd (inB b1 (b0.length))
 ((z4m N (rdL b0 b1 Y7) b3).bind fun r10=>
 (z2b N r10).bind fun r11=>
 bif (!r11)then
 ((zp2 N r10 b2.2.2.2.2.2.1 b2.2.2.2.2.1).bind fun r12=>
 gd (fits (b4.length+1) 32)
 (let x13:=(b4++[r12])
 rec b0 (aa .i64 (b1+1)) b2 b3 x13))
 else
 (rec b0 (aa .i64 (b1+1)) b2 b3 b4)))
 else
 (some ((),(b4,())))
def z4v(N:Nat)(n:Nat):=
 itF (fun _ _ _ _ _=>none) (z21 N) n
theorem zfx(N:Nat)(n:Nat):z4v N (n+1)=z21 N (z4v N n):=rfl
def z4w(N:Nat)(a0:(List Z0))(a1:Z1):Option ((List Z0)):=
 bif (eqi a1.1 1)then
 ((z8q N a1.2.1).bind fun r1=>
 (y7 N a0 [r1]).bind fun r2=>
 some r2)
 else
 (bif (eqi a1.1 2)then
 ((z8q N a1.2.1).bind fun r3=>
 (y7 N a0 [r3]).bind fun r4=>
 some r4)
 else
 (bif (eqi a1.1 3)then
 ((y7 N a0 [a1.2.2.2.1]).bind fun r5=>
 some r5)
 else
 (bif (eqi a1.1 6)then
 (some a0)
 else
 ((Q5 N a1.2.2.2.2.2.1).bind fun r6=>
 bif (eqi a1.1 4)then
 ((Q5 N a1.2.2.2.2.1).bind fun r7=>
 gd (fits (1+1) 32)
 (let x8:=([r6]++[r7])
 (y7 N a0 x8).bind fun r9=>
 (z4v N N a0 0 a1 r6 r9).bind fun r14=>
 (z4l N r14.2.1).bind fun r15=>
 some r15))
 else
 ((y7 N a0 [r6]).bind fun r16=>
 (z4v N N a0 0 a1 r6 r16).bind fun r17=>
 (z4l N r17.2.1).bind fun r18=>
 some r18)))))
def z7y(N:Nat)(rec:(List Z1)->(List Z0)->Int->Option (((List Z0)×Unit)))(b0:(List Z1))(b1:(List Z0))(b2:Int):Option (((List Z0)×Unit)):=
 bif (decide (0<=b2))then
 (gd (inB b2 (b0.length))
 ((z4w N b1 (rdL b0 b2 K3)).bind fun r3=>
 rec b0 r3 (aa .i64 (b2-1))))
 else
 (some (b1,()))
def zf5(N:Nat)(n:Nat):=
 itF (fun _ _ _=>none) (z7y N) n
theorem zwb(N:Nat)(n:Nat):zf5 N (n+1)=z7y N (zf5 N n):=rfl
def zp1(N:Nat)(a0:Z0)(a1:(List Z1)):Option ((List Z0)):=
 (z4l N [a0]).bind fun r1=>
 let x2:=(aa .i64 ((a1.length:Int)-1))
 (zf5 N N a1 r1 x2).bind fun r4=>
 some r4.1
def z5l(N:Nat)(self:(List Z8)->Int->Z0->(List Z0)->Option (((List Z7)×Int)))(rec:(List Z0)->(List Z0)->(List Z0)->Int->(List Z8)->Z6->(List Z7)->Option x3n)(b0:(List Z0))(b1:(List Z0))(b2:(List Z0))(b3:Int)(b4:(List Z8))(b5:Z6)(b6:(List Z7)):Option x3n:=
 bif (decide (b3<(b5.2.2.1.length:Int)))then
 (gd (decide (0<=b3)&&(decide (b3<=(aa .i64 (b3+1)))&&decide ((aa .i64 (b3+1))<=(b2.length:Int))))
 (let x8:=(cut2 b2 b3 (aa .i64 (b3+1)))
 (zb0 N b1 x8).bind fun r9=>
 bif (!r9)then
 (rec b0 b1 b2 (aa .i64 (b3+1)) b4 b5 b6)
 else
 (gd (inB b3 (b5.2.2.1.length))
 (gd (inB b3 (b2.length))
 ((self b4 (rdL b5.2.2.1 b3 0) (rdL b2 b3 Y7) b1).bind fun r10=>
 bif (!(eqi r10.2 0))then
 (some (.inl (([],r10.2),())))
 else
 (gd (fits (b6.length+r10.1.length) 40)
 (let x11:=(b6++r10.1)
 rec b0 b1 b2 (aa .i64 (b3+1)) b4 b5 x11)))))))
 else
 (some (.inr ((b0,((),())),(b5,(b6,())))))
def zcr(N:Nat)(self:(List Z8)->Int->Z0->(List Z0)->Option (((List Z7)×Int)))(n:Nat):=
 itF (fun _ _ _ _ _ _ _=>none) (z5l N self) n
theorem zlr(N:Nat)(self:(List Z8)->Int->Z0->(List Z0)->Option (((List Z7)×Int)))(n:Nat):zcr N self (n+1)=z5l N self (zcr N self n):=rfl
def z5m(N:Nat)(self:(List Z8)->Int->Z0->(List Z0)->Option (((List Z7)×Int)))(rec:(List Z0)->Int->(List Z8)->Z0->Z6->(List Z0)->Option x3l)(b0:(List Z0))(b1:Int)(b2:(List Z8))(b3:Z0)(b4:Z6)(b5:(List Z0)):Option x3l:=
 bif (decide (b1<(b0.length:Int)))then
 (gd (inB b1 (b0.length))
 ((zp1 N (rdL b0 b1 Y7) b4.2.2.2.2).bind fun r4=>
 gd (fits (b5.length+r4.length) 32)
 (let x5:=(b5++r4)
 rec b0 (aa .i64 (b1+1)) b2 b3 b4 x5)))
 else
 (some ((b0,((),((),((),())))),(b2,(b3,(b4,(b5,()))))))
def zh7(N:Nat)(self:(List Z8)->Int->Z0->(List Z0)->Option (((List Z7)×Int)))(n:Nat):=
 itF (fun _ _ _ _ _ _=>none) (z5m N self) n
theorem zls(N:Nat)(self:(List Z8)->Int->Z0->(List Z0)->Option (((List Z7)×Int)))(n:Nat):zh7 N self (n+1)=z5m N self (zh7 N self n):=rfl
def z6y(N:Nat)(self:(List Z8)->Int->Z0->(List Z0)->Option (((List Z7)×Int)))(a0:(List Z8))(a1:Int)(a2:Z0)(a3:(List Z0)):Option (((List Z7)×Int)):=
 (zce N a0 a1).bind fun r1=>
 bif (!(eqi r1.2 0))then
 (some ([],r1.2))
 else
 (let x2:=(eqi (r1.1.2.2.1.length:Int) 0)
 bif x2 then
 ((zfm N r1.1.1 a3).bind fun r3=>
 some (r3,0))
 else
 ((zh7 N self N a3 0 a0 a2 r1.1 []).bind fun r6=>
 (zay N r6.2.2.2.1 r6.2.2.1).bind fun r7=>
 (zcr N self N r6.1.1 r6.2.2.2.2.1 r7 0 r6.2.1 r6.2.2.2.1 []).bind fun r12=>
 match r12 with
 | .inl r13=>(some (r13.1.1,r13.1.2))
 | .inr r14=>((zr7 N r14.2.2.1 r14.2.1.2.2.2.2).bind fun r15=>
 (zfm N r15 r14.1.1).bind fun r16=>
 some (r16,0))))
def z1t(N n:Nat):(List Z8)->Int->Z0->(List Z0)->Option (((List Z7)×Int)):=
 itF (fun _ _ _ _=>none) (z6y N) n
theorem zh8(N n:Nat):z1t N (n+1)=z6y N (z1t N n):=rfl
def yco(N:Nat):(List Z8)->Int->Z0->(List Z0)->Option (((List Z7)×Int)):=
 z1t N N
def zss(N:Nat)(a0:Y4)(a1:Z0):Option (((List Z7)×Int)):=
 (yco N a0.1 a0.2.1 ([],[]) [a1]).bind fun r1=>
 some (r1.1,r1.2)
def z92(N:Nat)(a0:Z1):Option (Bool):=
 bif (eqi a0.1 4)then
 (some true)
 else
 (some (eqi a0.1 5))
def z5p(N:Nat)(rec:(List Z7)->Int->Z1->(List Z1)->Option (((Unit×Unit)×(Z1×((List Z1)×Unit)))))(b0:(List Z7))(b1:Int)(b2:Z1)(b3:(List Z1)):Option (((Unit×Unit)×(Z1×((List Z1)×Unit)))):=
 bif (decide (b1<(b0.length:Int)))then
 (gd (inB b1 (b0.length))
 (gd (decide (0<=(b2.2.2.2.2.1.length:Int))&&(decide ((b2.2.2.2.2.1.length:Int)<=(ak ((rdL b0 b1 X6).1):Int))&&decide ((ak ((rdL b0 b1 X6).1):Int)<=(ak ((rdL b0 b1 X6).1):Int))))
 (let x4:=(cut2 ((rdL b0 b1 X6).1) (b2.2.2.2.2.1.length:Int) (ak ((rdL b0 b1 X6).1):Int))
 gd (decide (b2.2.2.2.2.2.1.length+x4.length<maxS))
 (let x5:=(b2.2.2.2.2.2.1++x4)
 let x6:=([(1,(x5,(((rdL b0 b1 X6).2).1,(([],[]),([],([],((rdL b0 b1 X6).2).2))))))]:List Z1)
 gd (fits (b3.length+x6.length) 112)
 (let x7:=(b3++x6)
 rec b0 (aa .i64 (b1+1)) b2 x7)))))
 else
 (some (((),()),(b2,(b3,()))))
def zhd(N:Nat)(n:Nat):=
 itF (fun _ _ _ _=>none) (z5p N) n
theorem zlv(N:Nat)(n:Nat):zhd N (n+1)=z5p N (zhd N n):=rfl
def zsx(N:Nat)(a0:Z1)(a1:(List Z7)):Option ((List Z1)):=
 (z92 N a0).bind fun r1=>
 bif (!r1)then
 (some [a0])
 else
 ((Q5 N a0.2.2.2.2.2.1).bind fun r2=>
 let x3:=([(3,([],([],(r2,([],([],0))))))]:List Z1)
 (zhd N N a1 0 a0 x3).bind fun r8=>
 bif (eqi r8.2.1.1 4)then
 ((Q5 N r8.2.1.2.2.2.2.1).bind fun r9=>
 let x10:=([(3,([],([],(r9,([],([],0))))))]:List Z1)
 gd (fits (r8.2.2.1.length+x10.length) 112)
 (let x11:=(r8.2.2.1++x10)
 some x11))
 else
 (some r8.2.2.1))
def zsw(N:Nat)(a0:(List Z1))(a1:(List Z7)):Option (((List Z1)×Int)):=
 bif (eqi (a0.length:Int) 0)then
 (some ([],50))
 else
 (gd (inB 0 (a0.length))
 ((z92 N (rdL a0 0 K3)).bind fun r1=>
 bif (!r1)then
 (some ([],50))
 else
 (gd (inB 0 (a0.length))
 ((zsx N (rdL a0 0 K3) a1).bind fun r2=>
 gd (decide (0<=(1:Int))&&(decide (1<=(a0.length:Int))&&decide ((a0.length:Int)<=(a0.length:Int))))
 (gd (fits (r2.length+ak (cut2 a0 1 (a0.length:Int))) 112)
 (let x3:=(r2++(cut2 a0 1 (a0.length:Int)))
 some (x3,0)))))))
def z2w(N:Nat)(rec:Int->Y4->Z6->(List Z7)->Option x3g)(b0:Int)(b1:Y4)(b2:Z6)(b3:(List Z7)):Option x3g:=
 bif (decide (b0<(b2.2.2.1.length:Int)))then
 (gd (inB b0 (b2.2.2.1.length))
 (gd (inB 0 (b2.2.2.2.2.length))
 (let x1:=(((((rdL b2.2.2.2.2 0 K3).2).2).2).2).1
 (Q5 N x1).bind fun r2=>
 (zss N (b1.1,((rdL b2.2.2.1 b0 0),b1.2.2)) r2).bind fun r3=>
 bif (!(eqi r3.2 0))then
 (some (.inl (((),r3.2),(b2,()))))
 else
 (gd (fits (b3.length+r3.1.length) 40)
 (let x4:=(b3++r3.1)
 rec (aa .i64 (b0+1)) b1 b2 x4)))))
 else
 (some (.inr (((),((),())),(b2,((),(b3,()))))))
def z6x(N:Nat)(n:Nat):=
 itF (fun _ _ _ _=>none) (z2w N) n
theorem zgy(N:Nat)(n:Nat):z6x N (n+1)=z2w N (z6x N n):=rfl
def z9b(N:Nat)(a0:Y4)(a1:Z6):Option ((Z6×Int)):=
 (z6x N N 0 a0 a1 []).bind fun r5=>
 match r5 with
 | .inl r6=>(some (r6.2.1,r6.1.2))
 | .inr r7=>((zsw N r7.2.1.2.2.2.2 r7.2.2.2.1).bind fun r8=>
 some ((r7.2.1.1,(r7.2.1.2.1,(r7.2.1.2.2.1,(r7.2.1.2.2.2.1,r8.1)))),r8.2))
def zsp(N:Nat)(a0:Y4)(a1:(List Int)):Option ((Y4×Int)):=
 (zbb N a0 a1).bind fun r1=>
 bif (!(eqi r1.2.2 0))then
 (some (a0,r1.2.2))
 else
 (let x2:=(decide (a0.2.2.1<(r1.1.1.length:Int)))
 bif x2 then
 ((zh4 N r1.1 a0.2.2).bind fun r3=>
 (zmy N a0 a1 (r3.1,(r3.2.1,[]))).bind fun r4=>
 some (r4.1,r4.2))
 else
 (let x5:=(decide (a0.2.2.2.1<(r1.1.2.2.1.length:Int)))
 bif x5 then
 ((zoz N r1.1 a0.2.2).bind fun r6=>
 (zmy N a0 a1 r6).bind fun r7=>
 some (r7.1,r7.2))
 else
 (let x8:=(eqi (r1.1.2.2.2.2.length:Int) 0)
 bif x8 then
 (some (a0,0))
 else
 ((zso N r1.1).bind fun r9=>
 bif (decide (0<r9.2))then
 ((zoy N a0 a1 r9.1).bind fun r10=>
 some (r10.1,r10.2.2))
 else
 ((z9b N a0 r1.1).bind fun r11=>
 bif (!(eqi r11.2 0))then
 (some (a0,r11.2))
 else
 ((zmy N a0 a1 ([r11.1],([],[]))).bind fun r12=>
 some (r12.1,r12.2)))))))
def z7w(N:Nat)(rec:Bool->Y4->z6j->Option ((Unit×(z6j×Unit))))(b0:Bool)(b1:Y4)(b2:z6j):Option ((Unit×(z6j×Unit))):=
 (y8n N b2.1 [] b0).bind fun r1=>
 bif (!r1.2)then
 (some ((),(b2,())))
 else
 ((zsp N b2.1 r1.1).bind fun r2=>
 bif (!(eqi r2.2 0))then
 (some ((),((b1,(0,r2.2)),())))
 else
 (rec b0 b1 (r2.1,((aa .i64 (b2.2.1+1)),b2.2.2))))
def zez(N:Nat)(n:Nat):=
 itF (fun _ _ _=>none) (z7w N) n
theorem zwa(N:Nat)(n:Nat):zez N (n+1)=z7w N (zez N n):=rfl
def zve(N:Nat)(a0:Y4)(a1:Bool):Option (z6j):=
 (zez N N a1 a0 (a0,(0,0))).bind fun r3=>
 some r3.2.1
def zsq(N:Nat)(a0:Y4):Option (z6j):=
 (zve N a0 false).bind fun r1=>
 some r1
def y0h(N:Nat)(a0:Z3)(a1:Y4):Option (Z3):=
 some (a1.1,(a1.2.2,(a0.2.2.1,(a0.2.2.2.1,(a1.2.1,a0.2.2.2.2.2)))))
def zp4(N:Nat)(a0:Z1):Option ((List Z0)):=
 bif (eqi a0.1 6)then
 (some [])
 else
 (match G3 N a0 with
 | some r1=>(some r1)
 | none=>none)
def z5r(N:Nat)(rec:(List Z1)->Int->(List Z1)->(List Z0)->Option (((Unit×(Unit×Unit))×(Unit×((List Z1)×((List Z0)×Unit))))))(b0:(List Z1))(b1:Int)(b2:(List Z1))(b3:(List Z0)):Option (((Unit×(Unit×Unit))×(Unit×((List Z1)×((List Z0)×Unit))))):=
 bif (decide (0<=b1))then
 (gd (inB b1 (b0.length))
 ((G3 N (rdL b0 b1 K3)).bind fun r3=>
 (y7 N r3 b3).bind fun r4=>
 bif (eqi (r4.length:Int) 0)then
 (rec b0 (aa .i64 (b1-1)) b2 b3)
 else
 (gd (fits (1+b2.length) 112)
 (let x5:=([(rdL b0 b1 K3)]++b2)
 gd (fits (0+b3.length) 32)
 (let x6:=([]++b3)
 (zp4 N (rdL b0 b1 K3)).bind fun r7=>
 gd (fits (x6.length+r7.length) 32)
 (let x8:=(x6++r7)
 (z57 N (rdL b0 b1 K3)).bind fun r9=>
 (y7 N x8 r9).bind fun r10=>
 rec b0 (aa .i64 (b1-1)) x5 r10))))))
 else
 (some (((),((),())),((),(b2,(b3,())))))
def zhg(N:Nat)(n:Nat):=
 itF (fun _ _ _ _=>none) (z5r N) n
theorem zlx(N:Nat)(n:Nat):zhg N (n+1)=z5r N (zhg N n):=rfl
def y0k(N:Nat)(a0:(List Z1))(a1:(List Z0)):Option (zv7):=
 (z4l N a1).bind fun r1=>
 let x2:=(aa .i64 ((a0.length:Int)-1))
 (zhg N N a0 x2 [] r1).bind fun r11=>
 some (r11.2.2.1,r11.2.2.2.1)
def zfp(N:Nat)(a0:(List Z1)):Option ((List Z1)):=
 (y0k N a0 []).bind fun r1=>
 some r1.1
def z7a(N:Nat)(rec:(List Z1)->Int->Z3->Y4->Option x3s)(b0:(List Z1))(b1:Int)(b2:Z3)(b3:Y4):Option x3s:=
 bif (decide (b1<(b0.length:Int)))then
 (gd (inB b1 (b0.length))
 ((zr4 N b3 (rdL b0 b1 K3)).bind fun r2=>
 bif (!(eqi r2.2 0))then
 (some (.inl (((),r2.2),(b2,()))))
 else
 (rec b0 (aa .i64 (b1+1)) b2 r2.1)))
 else
 (some (.inr ((b0,((),((),()))),(b2,((),(b3,()))))))
def z9a(N:Nat)(n:Nat):=
 itF (fun _ _ _ _=>none) (z7a N) n
theorem zoh(N:Nat)(n:Nat):z9a N (n+1)=z7a N (z9a N n):=rfl
def zr3(N:Nat)(a0:Z3)(a1:(List Z1)):Option ((Z3×Int)):=
 (y0i N a0 0).bind fun r1=>
 (z9a N N a1 0 a0 r1.1).bind fun r3=>
 match r3 with
 | .inl r4=>(some (r4.2.1,r4.1.2))
 | .inr r5=>((zsq N r5.2.2.2.1).bind fun r6=>
 bif (!(eqi r6.2.2 0))then
 (some (r5.2.1,r6.2.2))
 else
 (gd (fits (0+r5.2.1.2.2.2.2.2.2.length) 112)
 (let x7:=([]++r5.2.1.2.2.2.2.2.2)
 (y0h N r5.2.1 r6.1).bind fun r8=>
 gd (fits (x7.length+r5.1.1.length) 112)
 (let x9:=(x7++r5.1.1)
 (zfp N x9).bind fun r10=>
 some ((r8.1,(r8.2.1,(r8.2.2.1,(r8.2.2.2.1,(r8.2.2.2.2.1,(r8.2.2.2.2.2.1,r10)))))),0)))))
def zbu(N:Nat)(b0 b1:Int)(b2:Bool):Option (((Unit×Int)×(Unit×Unit))⊕((Int×(Int×Unit))×(Unit×Unit))):=
 bif b2 then
 (some (.inl (((),1),((),()))))
 else
 (some (.inr ((b0,(b1,())),((),()))))
def zbv(N:Nat)(b0 b1:Int):Option (((Unit×Int)×yzy)):=
 gd ((decide (0<=b1)&&decide (b1<=b1))&&(decide (b1<maxB)&&decide (b1*24<maxB)))
 (let x4:=(az (cc b1) [])
 some (((),0),((b0,((),())),(x4,([],())))))
def zej(N:Nat)(a0 a1:Int):Option ((W0×Int)):=
 bif (decide (a0<1))then
 ((zbu N a0 a1 true).bind fun r1=>
 match r1 with
 | .inl r2=>(some ((0,([],[])),r2.1.2))
 | .inr r3=>((zbv N r3.1.1 r3.1.2.1).bind fun r5=>
 some ((r5.2.1.1,(r5.2.2.1,r5.2.2.2.1)),r5.1.2)))
 else
 (bif (decide (65536<a0))then
 ((zbu N a0 a1 true).bind fun r6=>
 match r6 with
 | .inl r7=>(some ((0,([],[])),r7.1.2))
 | .inr r8=>((zbv N r8.1.1 r8.1.2.1).bind fun r9=>
 some ((r9.2.1.1,(r9.2.2.1,r9.2.2.2.1)),r9.1.2)))
 else
 (bif (decide (a1<1))then
 ((zbu N a0 a1 true).bind fun r10=>
 match r10 with
 | .inl r11=>(some ((0,([],[])),r11.1.2))
 | .inr r12=>((zbv N r12.1.1 r12.1.2.1).bind fun r13=>
 some ((r13.2.1.1,(r13.2.2.1,r13.2.2.2.1)),r13.1.2)))
 else
 ((zbu N a0 a1 (decide (4096<a1))).bind fun r14=>
 match r14 with
 | .inl r15=>(some ((0,([],[])),r15.1.2))
 | .inr r16=>((zbv N r16.1.1 r16.1.2.1).bind fun r17=>
 some ((r17.2.1.1,(r17.2.2.1,r17.2.2.2.1)),r17.1.2)))))
def z79(N:Nat)(rec:Int->Int->Int->Int->(List Bool)->(List Int)->Option (((Unit×Unit)×(Unit×yzx))))(b0 b1 b2 b3:Int)(b4:(List Bool))(b5:(List Int)):Option (((Unit×Unit)×(Unit×yzx))):=
 bif (decide (b2<b0))then
 (gd (fits (b4.length+1) 1)
 (let x4:=(b4++[(decide (b2<b1))])
 rec b0 b1 (aa .i64 (b2+1)) b3 x4 b5))
 else
 (some (((),()),((),(((),((),b3)),(b4,(b5,()))))))
def zkp(N:Nat)(n:Nat):=
 itF (fun _ _ _ _ _ _=>none) (z79 N) n
theorem zog(N:Nat)(n:Nat):zkp N (n+1)=z79 N (zkp N n):=rfl
def zbs(N:Nat)(b0 b1:Int)(b2:Bool):Option (((Unit×Int)×(Unit×Unit))⊕((Int×(Int×Unit))×(Unit×Unit))):=
 bif b2 then
 (some (.inl (((),1),((),()))))
 else
 (some (.inr ((b0,(b1,())),((),()))))
def zbt(N:Nat)(b0 b1:Int):Option (((Unit×Int)×yzx)):=
 (zkp N N b0 b1 0 0 [] []).bind fun r5=>
 some (((),0),(((),((),r5.2.2.1.2.2)),(r5.2.2.2.1,(r5.2.2.2.2.1,()))))
def zwz(N:Nat)(a0 a1:Int):Option ((X3×Int)):=
 bif (decide (a0<1))then
 ((zbs N a0 a1 true).bind fun r1=>
 match r1 with
 | .inl r2=>(some (([],([],0)),r2.1.2))
 | .inr r3=>((zbt N r3.1.1 r3.1.2.1).bind fun r6=>
 some ((r6.2.2.1,(r6.2.2.2.1,r6.2.1.2.2)),r6.1.2)))
 else
 (bif (decide (4096<a0))then
 ((zbs N a0 a1 true).bind fun r7=>
 match r7 with
 | .inl r8=>(some (([],([],0)),r8.1.2))
 | .inr r9=>((zbt N r9.1.1 r9.1.2.1).bind fun r10=>
 some ((r10.2.2.1,(r10.2.2.2.1,r10.2.1.2.2)),r10.1.2)))
 else
 (bif (decide (a1<0))then
 ((zbs N a0 a1 true).bind fun r11=>
 match r11 with
 | .inl r12=>(some (([],([],0)),r12.1.2))
 | .inr r13=>((zbt N r13.1.1 r13.1.2.1).bind fun r14=>
 some ((r14.2.2.1,(r14.2.2.2.1,r14.2.1.2.2)),r14.1.2)))
 else
 ((zbs N a0 a1 (decide (a0<a1))).bind fun r15=>
 match r15 with
 | .inl r16=>(some (([],([],0)),r16.1.2))
 | .inr r17=>((zbt N r17.1.1 r17.1.2.1).bind fun r18=>
 some ((r18.2.2.1,(r18.2.2.2.1,r18.2.1.2.2)),r18.1.2)))))
def z7z(N:Nat)(rec:(List Z7)->Int->Option Ty4_)(b0:(List Z7))(b1:Int):Option Ty4_:=
 bif (decide (b1<(b0.length:Int)))then
 (gd (inB (aa .i64 (b1-1)) (b0.length))
 (let x1:=(rdL b0 (aa .i64 (b1-1)) X6)
 gd (inB b1 (b0.length))
 (bif (!(lts x1.1 ((rdL b0 b1 X6).1)))then
 (some (.inl (false,())))
 else
 (rec b0 (aa .i64 (b1+1))))))
 else
 (some (.inr ((),())))
def zf9(N:Nat)(n:Nat):=
 itF (fun _ _=>none) (z7z N) n
theorem zwc(N:Nat)(n:Nat):zf9 N (n+1)=z7z N (zf9 N n):=rfl
def zp5(N:Nat)(a0:(List Z7)):Option (Bool):=
 match zf9 N N a0 1 with
 | some r2=>(match r2 with
 | .inl r3=>(some r3.1)
 | .inr r4=>(some true))
 | none=>none
def zrf(N:Nat)(a0 a1 a2:Int):Option (Bool):=
 bif (decide (a1<=a0))then
 (some (decide (a0<=a2)))
 else
 (some false)
def z5o(N:Nat)(rec:Int->Z6->Z0->Option Ty4_)(b0:Int)(b1:Z6)(b2:Z0):Option Ty4_:=
 bif (decide (b0<(b1.1.length:Int)))then
 (gd (inB b0 (b1.1.length))
 (match zel N b2 ((rdL b1.1 b0 X6).1)with
 | some r5=>(bif (!r5)then
 (some (.inl (false,())))
 else
 (let x6:=(ak ((rdL b1.1 b0 X6).1):Int)
 match zrf N x6 1 65535 with
 | some r7=>(bif (!r7)then
 (some (.inl (false,())))
 else
 (let x8:=(ak (((rdL b1.1 b0 X6).2).1):Int)
 bif (decide (64<x8))then
 (some (.inl (false,())))
 else
 (match zrf N (((rdL b1.1 b0 X6).2).2) 0 1000000000 with
 | some r9=>(bif (!r9)then
 (some (.inl (false,())))
 else
 (rec (aa .i64 (b0+1)) b1 b2))
 | none=>none)))
 | none=>none))
 | none=>none))
 else
 (some (.inr ((),())))
def zhb(N:Nat)(n:Nat):=
 itF (fun _ _ _=>none) (z5o N) n
theorem zlu(N:Nat)(n:Nat):zhb N (n+1)=z5o N (zhb N n):=rfl
def zsu(N:Nat)(a0:Z6)(a1:Z0):Option (Bool):=
 let x1:=(decide (0<(a0.2.1.length:Int)))
 bif x1 then
 (some false)
 else
 (let x2:=(decide (0<(a0.2.2.2.1.length:Int)))
 bif x2 then
 (some false)
 else
 (let x3:=(decide (0<(a0.2.2.2.2.length:Int)))
 bif x3 then
 (some false)
 else
 (match zp5 N a0.1 with
 | some r4=>(bif (!r4)then
 (some false)
 else
 (match zhb N N 0 a0 a1 with
 | some r10=>(match r10 with
 | .inl r11=>(some r11.1)
 | .inr r12=>(some true))
 | none=>none))
 | none=>none)))
def z1u(N:Nat)(b0:(List (List UInt8)))(b1:Int)(b2:Bool)(b3:Z0):Option ((Bool×Unit)⊕(((List (List UInt8))×(Unit×Int))×(Z0×Unit))):=
 bif b2 then
 (some (.inl (false,())))
 else
 (some (.inr ((b0,((),b1)),(b3,()))))
def z1v(N:Nat)(b0:(List (List UInt8)))(b1:Int)(b2:Z0):Option ((((List (List UInt8))×(Unit×Int))×(Z0×Unit))):=
 some ((b0,((),(aa .i64 (b1+1)))),(b2,()))
def z30(N:Nat)(rec:(List (List UInt8))->Int->Z0->Option Ty4_)(b0:(List (List UInt8)))(b1:Int)(b2:Z0):Option Ty4_:=
 bif (decide (b1<(b0.length:Int)))then
 (gd (inB b1 (b0.length))
 (let x1:=(lts (rdL b0 b1 []) b2.1 || eqs (rdL b0 b1 []) b2.1)
 bif x1 then
 (match z1u N b0 b1 true b2 with
 | some r2=>(match r2 with
 | .inl r3=>(some (.inl (r3.1,())))
 | .inr r4=>(match z1v N r4.1.1 r4.1.2.2 r4.2.1 with
 | some r5=>(rec r5.1.1 r5.1.2.2 r5.2.1)
 | none=>none))
 | none=>none)
 else
 (bif (!(eqs b2.2 []))then
 (gd (inB b1 (b0.length))
 (bif (!(lts (rdL b0 b1 []) b2.2))then
 (match z1u N b0 b1 true b2 with
 | some r6=>(match r6 with
 | .inl r7=>(some (.inl (r7.1,())))
 | .inr r8=>(match z1v N r8.1.1 r8.1.2.2 r8.2.1 with
 | some r9=>(rec r9.1.1 r9.1.2.2 r9.2.1)
 | none=>none))
 | none=>none)
 else
 (bif (decide (0<b1))then
 (gd (inB b1 (b0.length))
 (gd (inB (aa .i64 (b1-1)) (b0.length))
 (let x10:=(rdL b0 (aa .i64 (b1-1)) [])
 let x11:=(lts (rdL b0 b1 []) x10 || eqs (rdL b0 b1 []) x10)
 match z1u N b0 b1 x11 b2 with
 | some r12=>(match r12 with
 | .inl r13=>(some (.inl (r13.1,())))
 | .inr r14=>(match z1v N r14.1.1 r14.1.2.2 r14.2.1 with
 | some r15=>(rec r15.1.1 r15.1.2.2 r15.2.1)
 | none=>none))
 | none=>none)))
 else
 (match z1u N b0 b1 false b2 with
 | some r16=>(match r16 with
 | .inl r17=>(some (.inl (r17.1,())))
 | .inr r18=>(match z1v N r18.1.1 r18.1.2.2 r18.2.1 with
 | some r19=>(rec r19.1.1 r19.1.2.2 r19.2.1)
 | none=>none))
 | none=>none))))
 else
 (bif (decide (0<b1))then
 (gd (inB b1 (b0.length))
 (gd (inB (aa .i64 (b1-1)) (b0.length))
 (let x20:=(rdL b0 (aa .i64 (b1-1)) [])
 let x21:=(lts (rdL b0 b1 []) x20 || eqs (rdL b0 b1 []) x20)
 match z1u N b0 b1 x21 b2 with
 | some r22=>(match r22 with
 | .inl r23=>(some (.inl (r23.1,())))
 | .inr r24=>(match z1v N r24.1.1 r24.1.2.2 r24.2.1 with
 | some r25=>(rec r25.1.1 r25.1.2.2 r25.2.1)
 | none=>none))
 | none=>none)))
 else
 (match z1u N b0 b1 false b2 with
 | some r26=>(match r26 with
 | .inl r27=>(some (.inl (r27.1,())))
 | .inr r28=>(match z1v N r28.1.1 r28.1.2.2 r28.2.1 with
 | some r29=>(rec r29.1.1 r29.1.2.2 r29.2.1)
 | none=>none))
 | none=>none)))))
 else
 (some (.inr ((),())))
def z6z(N:Nat)(n:Nat):=
 itF (fun _ _ _=>none) (z30 N) n
theorem zha(N:Nat)(n:Nat):z6z N (n+1)=z30 N (z6z N n):=rfl
def zkw(N:Nat)(a0:(List (List UInt8)))(a1:Z0):Option (Bool):=
 match z6z N N a0 0 a1 with
 | some r30=>(match r30 with
 | .inl r31=>(some r31.1)
 | .inr r32=>(some true))
 | none=>none
def zit(N:Nat)(a0:z00):Option (Bool):=
 bif (decide (0<=a0.1))then
 (bif (decide (a0.1<=a0.2))then
 (some (decide (a0.2<=1000000000000000)))
 else
 (some false))
 else
 (some false)
def z31(N:Nat)(rec:Int->Z0->(List Z0)->Option Ty4_)(b0:Int)(b1:Z0)(b2:(List Z0)):Option Ty4_:=
 bif (decide (b0<(b2.length:Int)))then
 (gd (inB b0 (b2.length))
 (match zfq N b1 (rdL b2 b0 Y7)with
 | some r4=>(bif (!r4)then
 (some (.inl (false,())))
 else
 (rec (aa .i64 (b0+1)) b1 b2))
 | none=>none))
 else
 (some (.inr ((),())))
def zdd(N:Nat)(n:Nat):=
 itF (fun _ _ _=>none) (z31 N) n
theorem zhc(N:Nat)(n:Nat):zdd N (n+1)=z31 N (zdd N n):=rfl
def zkz(N:Nat)(a0:Z1)(a1:Z0):Option (Bool):=
 match z57 N a0 with
 | some r1=>(match G3 N a0 with
 | some r2=>(gd (fits (r1.length+r2.length) 32)
 (let x3:=(r1++r2)
 match zdd N N 0 a1 x3 with
 | some r5=>(match r5 with
 | .inl r6=>(some r6.1)
 | .inr r7=>(some true))
 | none=>none))
 | none=>none)
 | none=>none
def z42(N:Nat)(rec:Int->Z6->Z0->Option Ty4_)(b0:Int)(b1:Z6)(b2:Z0):Option Ty4_:=
 let x12:=(decide (b0<(b1.2.2.2.2.length:Int)))
 bif x12 then
 (gd (inB b0 (b1.2.2.2.2.length))
 (match ze8 N (rdL b1.2.2.2.2 b0 K3)with
 | some r13=>(bif (!r13)then
 (some (.inl (false,())))
 else
 (gd (inB b0 (b1.2.2.2.2.length))
 (match zkz N (rdL b1.2.2.2.2 b0 K3) b2 with
 | some r14=>(bif (!r14)then
 (some (.inl (false,())))
 else
 (rec (aa .i64 (b0+1)) b1 b2))
 | none=>none)))
 | none=>none))
 else
 (some (.inr ((),())))
def zf3(N:Nat)(n:Nat):=
 itF (fun _ _ _=>none) (z42 N) n
theorem zjx(N:Nat)(n:Nat):zf3 N (n+1)=z42 N (zf3 N n):=rfl
def z43(N:Nat)(rec:Int->Z6->Z0->Option yl2)(b0:Int)(b1:Z6)(b2:Z0):Option yl2:=
 bif (decide (b0<(b1.2.2.1.length:Int)))then
 (gd (inB b0 (b1.2.2.1.length))
 (match zrf N (rdL b1.2.2.1 b0 0) 0 4095 with
 | some r6=>(bif (!r6)then
 (some (.inl (false,())))
 else
 (gd (inB b0 (b1.2.2.2.1.length))
 (match zit N ((rdL b1.2.2.2.1 b0 z0u).1)with
 | some r7=>(bif (!r7)then
 (some (.inl (false,())))
 else
 (gd (inB b0 (b1.2.2.2.1.length))
 (match zit N ((rdL b1.2.2.2.1 b0 z0u).2)with
 | some r8=>(bif (!r8)then
 (some (.inl (false,())))
 else
 (rec (aa .i64 (b0+1)) b1 b2))
 | none=>none)))
 | none=>none)))
 | none=>none))
 else
 (some (.inr (((),()),(b1,(b2,())))))
def zaj(N:Nat)(n:Nat):=
 itF (fun _ _ _=>none) (z43 N) n
theorem zjy(N:Nat)(n:Nat):zaj N (n+1)=z43 N (zaj N n):=rfl
def zf2(N:Nat)(b0:Z6)(b1:Z0):Option ((Bool×Unit)):=
 match zaj N N 0 b0 b1 with
 | some r9=>(match r9 with
 | .inl r10=>(some (r10.1,()))
 | .inr r11=>(match zf3 N N 0 r11.2.1 r11.2.2.1 with
 | some r15=>(match r15 with
 | .inl r16=>(some (r16.1,()))
 | .inr r17=>(some (true,())))
 | none=>none))
 | none=>none
def zp0(N:Nat)(a0:Z6)(a1:Z0):Option (Bool):=
 bif (eqi (a0.2.2.1.length:Int) 0)then
 (match zsu N a0 a1 with
 | some r1=>(some r1)
 | none=>none)
 else
 (let x2:=(decide (0<(a0.1.length:Int)))
 bif x2 then
 (some false)
 else
 (let x3:=(!(eqi (a0.2.2.2.1.length:Int) (a0.2.2.1.length:Int)))
 bif x3 then
 (some false)
 else
 (let x4:=(aa .i64 ((a0.2.2.1.length:Int)-1))
 bif (!(eqi (a0.2.1.length:Int) x4))then
 (some false)
 else
 (match zkw N a0.2.1 a1 with
 | some r5=>(bif (!r5)then
 (some false)
 else
 (match zf2 N a0 a1 with
 | some r18=>(some r18.1)
 | none=>none))
 | none=>none))))
def z0y(N:Nat)(rec:Int->Int->(List Int)->Option ((Unit×((List Int)×Unit))))(b0 b1:Int)(b2:(List Int)):Option ((Unit×((List Int)×Unit))):=
 bif (decide (0<=b1))then
 (gd (decide (0<=(aa .i64 (8*b1))))
 (let x1:=(cT b0 (2^min (cc (aa .i64 (8*b1))) (aM .i64)))
 gd (fits (b2.length+1) 1)
 (let x2:=(b2++[(aa .u8 (x1))])
 rec b0 (aa .i64 (b1-1)) x2)))
 else
 (some ((),(b2,())))
def z9l(N:Nat)(n:Nat):=
 itF (fun _ _ _=>none) (z0y N) n
theorem zad(N:Nat)(n:Nat):z9l N (n+1)=z0y N (z9l N n):=rfl
def U9(N:Nat)(a0 a1:Int):Option ((List Int)):=
 match z9l N N a0 (aa .i64 (a1-1)) []with
 | some r3=>(some r3.2.1)
 | none=>none
def zbe(N:Nat)(a0:(List UInt8)):Option ((List Int)):=
 match U9 N (a0.length:Int) 2 with
 | some r1=>(gd (fits (r1.length+ak (U2 a0)) 1)
 (let x2:=(r1++(U2 a0))
 some x2))
 | none=>none
def zae(N:Nat)(rec:Int->Int->(List Int)->Option ((Unit×((List Int)×Unit))))(b0 b1:Int)(b2:(List Int)):Option ((Unit×((List Int)×Unit))):=
 bif (decide (0<=b1))then
 (gd (decide (0<=(aa .i64 (8*b1))))
 (let x1:=(cT b0 (2^min (cc (aa .i64 (8*b1))) (aM .i64)))
 gd (fits (b2.length+1) 1)
 (let x2:=(b2++[(aa .u8 (x1))])
 rec b0 (aa .i64 (b1-1)) x2)))
 else
 (some ((),(b2,())))
def zj6(N:Nat)(n:Nat):=
 itF (fun _ _ _=>none) (zae N) n
theorem ykj(N:Nat)(n:Nat):zj6 N (n+1)=zae N (zj6 N n):=rfl
def z7n(N:Nat)(a0 a1:Int):Option ((List Int)):=
 match zj6 N N a0 (aa .i64 (a1-1)) []with
 | some r3=>(some r3.2.1)
 | none=>none
def z1i(N:Nat)(rec:(List (List UInt8))->Int->(List Int)->Option ((Unit×((List Int)×Unit))))(b0:(List (List UInt8)))(b1:Int)(b2:(List Int)):Option ((Unit×((List Int)×Unit))):=
 bif (decide (b1<(b0.length:Int)))then
 (gd (inB b1 (b0.length))
 (let x1:=(ak (rdL b0 b1 []):Int)
 match z7n N x1 2 with
 | some r2=>(gd (fits (b2.length+r2.length) 1)
 (let x3:=(b2++r2)
 gd (inB b1 (b0.length))
 (gd (fits (x3.length+ak (U2 (rdL b0 b1 []))) 1)
 (let x4:=(x3++(U2 (rdL b0 b1 [])))
 rec b0 (aa .i64 (b1+1)) x4))))
 | none=>none))
 else
 (some ((),(b2,())))
def zaq(N:Nat)(n:Nat):=
 itF (fun _ _ _=>none) (z1i N) n
theorem zca(N:Nat)(n:Nat):zaq N (n+1)=z1i N (zaq N n):=rfl
def z0c(N:Nat)(a0:(List (List UInt8))):Option ((List Int)):=
 match zaq N N a0 0 []with
 | some r5=>(some r5.2.1)
 | none=>none
def z06(N:Nat)(b0:Z1)(b1:(List Int)):Option ((Unit×((List Int)×Unit))):=
 bif (eqi b0.1 1)then
 (match z7n N b0.2.2.2.2.2.2 4 with
 | some r4=>(gd (fits (b1.length+r4.length) 1)
 (let x5:=(b1++r4)
 some ((),(x5,()))))
 | none=>none)
 else
 (bif (eqi b0.1 6)then
 (match z7n N b0.2.2.2.2.2.2 4 with
 | some r6=>(gd (fits (b1.length+r6.length) 1)
 (let x7:=(b1++r6)
 some ((),(x7,()))))
 | none=>none)
 else
 (some ((),(b1,()))))
def zb1(N:Nat)(a0:Z1):Option ((List Int)):=
 match ze8 N a0 with
 | some r1=>(bif (!r1)then
 (some [])
 else
 (bif (eqi a0.1 1)then
 (match z0c N [a0.2.1,a0.2.2.1]with
 | some r2=>(gd (fits (1+r2.length) 1)
 (let x3:=([(aa .u8 (a0.1))]++r2)
 match z06 N a0 x3 with
 | some r8=>(some r8.2.1)
 | none=>none))
 | none=>none)
 else
 (bif (eqi a0.1 2)then
 (match z0c N [a0.2.1]with
 | some r9=>(gd (fits (1+r9.length) 1)
 (let x10:=([(aa .u8 (a0.1))]++r9)
 match z06 N a0 x10 with
 | some r11=>(some r11.2.1)
 | none=>none))
 | none=>none)
 else
 (bif (eqi a0.1 3)then
 (let x12:=([a0.2.2.2.1.1,a0.2.2.2.1.2]:List (List UInt8))
 match z0c N x12 with
 | some r13=>(gd (fits (1+r13.length) 1)
 (let x14:=([(aa .u8 (a0.1))]++r13)
 match z06 N a0 x14 with
 | some r15=>(some r15.2.1)
 | none=>none))
 | none=>none)
 else
 (bif (eqi a0.1 6)then
 (let x16:=([a0.2.2.2.1.1,a0.2.2.2.1.2]:List (List UInt8))
 match z0c N x16 with
 | some r17=>(gd (fits (1+r17.length) 1)
 (let x18:=([(aa .u8 (a0.1))]++r17)
 match z06 N a0 x18 with
 | some r19=>(some r19.2.1)
 | none=>none))
 | none=>none)
 else
 (let x20:=([a0.2.2.2.2.1,a0.2.2.2.2.2.1]:List (List UInt8))
 match z0c N x20 with
 | some r21=>(gd (fits (1+r21.length) 1)
 (let x22:=([(aa .u8 (a0.1))]++r21)
 match z06 N a0 x22 with
 | some r23=>(some r23.2.1)
 | none=>none))
 | none=>none))))))
 | none=>none
def j0(N:Nat)(rec:Int->Int->Z6->(List Int)->zwn->Option (((Unit×(Unit×Int))×yvr)))(b0 b1:Int)(b2:Z6)(b3:(List Int))(b4:zwn):Option (((Unit×(Unit×Int))×yvr)):=
 bif (decide (b1<4))then
 (bif (eqi b1 3)then
 (match U9 N b4.2.2.2 8 with
 | some r20=>(gd (fits (b3.length+r20.length) 1)
 (let x21:=(b3++r20)
 rec b0 (aa .i64 (b1+1)) b2 x21 b4))
 | none=>none)
 else
 (bif (eqi b1 2)then
 (match U9 N b4.2.2.1 8 with
 | some r22=>(gd (fits (b3.length+r22.length) 1)
 (let x23:=(b3++r22)
 rec b0 (aa .i64 (b1+1)) b2 x23 b4))
 | none=>none)
 else
 (bif (eqi b1 1)then
 (match U9 N b4.2.1 8 with
 | some r24=>(gd (fits (b3.length+r24.length) 1)
 (let x25:=(b3++r24)
 rec b0 (aa .i64 (b1+1)) b2 x25 b4))
 | none=>none)
 else
 (bif (eqi b1 0)then
 (match U9 N b4.1 8 with
 | some r26=>(gd (fits (b3.length+r26.length) 1)
 (let x27:=(b3++r26)
 rec b0 (aa .i64 (b1+1)) b2 x27 b4))
 | none=>none)
 else
 (none)))))
 else
 (some (((),((),b0)),(b2,(b3,()))))
def z8h(N:Nat)(n:Nat):=
 itF (fun _ _ _ _ _=>none) (j0 N) n
theorem z1c(N:Nat)(n:Nat):z8h N (n+1)=j0 N (z8h N n):=rfl
def z1d(N:Nat)(rec:Int->Z6->(List Int)->Option ((Unit×((List Int)×Unit))))(b0:Int)(b1:Z6)(b2:(List Int)):Option ((Unit×((List Int)×Unit))):=
 let x32:=(decide (b0<(b1.2.2.2.2.length:Int)))
 bif x32 then
 (gd (inB b0 (b1.2.2.2.2.length))
 (match zb1 N (rdL b1.2.2.2.2 b0 K3)with
 | some r33=>(gd (fits (b2.length+r33.length) 1)
 (let x34:=(b2++r33)
 rec (aa .i64 (b0+1)) b1 x34))
 | none=>none))
 else
 (some ((),(b2,())))
def zal(N:Nat)(n:Nat):=
 itF (fun _ _ _=>none) (z1d N) n
theorem zc5(N:Nat)(n:Nat):zal N (n+1)=z1d N (zal N n):=rfl
def z1e(N:Nat)(rec:Int->Z6->(List Int)->Option Ty6_)(b0:Int)(b1:Z6)(b2:(List Int)):Option Ty6_:=
 let x19:=(decide (b0<(b1.2.2.2.1.length:Int)))
 bif x19 then
 (gd (inB b0 (b1.2.2.2.1.length))
 (gd (inB b0 (b1.2.2.2.1.length))
 (gd (inB b0 (b1.2.2.2.1.length))
 (gd (inB b0 (b1.2.2.2.1.length))
 (match z8h N N b0 0 b1 b2 (((rdL b1.2.2.2.1 b0 z0u).1).1,(((rdL b1.2.2.2.1 b0 z0u).1).2,((rdL b1.2.2.2.1 b0 z0u).2)))with
 | some r28=>(rec (aa .i64 (r28.1.2.2+1)) r28.2.1 r28.2.2.1)
 | none=>none)))))
 else
 (some (((),()),(b1,(b2,()))))
def zam(N:Nat)(n:Nat):=
 itF (fun _ _ _=>none) (z1e N) n
theorem zc6(N:Nat)(n:Nat):zam N (n+1)=z1e N (zam N n):=rfl
def z1f(N:Nat)(rec:Int->Z6->(List Int)->Option ((Unit×((List Int)×Unit))))(b0:Int)(b1:Z6)(b2:(List Int)):Option ((Unit×((List Int)×Unit))):=
 bif (decide (b0<(b1.1.length:Int)))then
 (gd (inB b0 (b1.1.length))
 (match zbe N ((rdL b1.1 b0 X6).1)with
 | some r4=>(gd (fits (b2.length+r4.length) 1)
 (let x5:=(b2++r4)
 gd (inB b0 (b1.1.length))
 (match zbe N (((rdL b1.1 b0 X6).2).1)with
 | some r6=>(gd (fits (x5.length+r6.length) 1)
 (let x7:=(x5++r6)
 gd (inB b0 (b1.1.length))
 (match U9 N (((rdL b1.1 b0 X6).2).2) 4 with
 | some r8=>(gd (fits (x7.length+r8.length) 1)
 (let x9:=(x7++r8)
 rec (aa .i64 (b0+1)) b1 x9))
 | none=>none)))
 | none=>none)))
 | none=>none))
 else
 (some ((),(b2,())))
def zan(N:Nat)(n:Nat):=
 itF (fun _ _ _=>none) (z1f N) n
theorem zc7(N:Nat)(n:Nat):zan N (n+1)=z1f N (zan N n):=rfl
def z1g(N:Nat)(rec:Int->Z6->(List Int)->Option Ty6_)(b0:Int)(b1:Z6)(b2:(List Int)):Option Ty6_:=
 bif (decide (b0<(b1.2.1.length:Int)))then
 (gd (inB b0 (b1.2.1.length))
 (match zbe N (rdL b1.2.1 b0 [])with
 | some r16=>(gd (fits (b2.length+r16.length) 1)
 (let x17:=(b2++r16)
 rec (aa .i64 (b0+1)) b1 x17))
 | none=>none))
 else
 (some (((),()),(b1,(b2,()))))
def zao(N:Nat)(n:Nat):=
 itF (fun _ _ _=>none) (z1g N) n
theorem zc8(N:Nat)(n:Nat):zao N (n+1)=z1g N (zao N n):=rfl
def z1h(N:Nat)(rec:Int->Z6->(List Int)->Option Ty6_)(b0:Int)(b1:Z6)(b2:(List Int)):Option Ty6_:=
 bif (decide (b0<(b1.2.2.1.length:Int)))then
 (gd (inB b0 (b1.2.2.1.length))
 (match U9 N (rdL b1.2.2.1 b0 0) 4 with
 | some r13=>(gd (fits (b2.length+r13.length) 1)
 (let x14:=(b2++r13)
 rec (aa .i64 (b0+1)) b1 x14))
 | none=>none))
 else
 (some (((),()),(b1,(b2,()))))
def zap(N:Nat)(n:Nat):=
 itF (fun _ _ _=>none) (z1h N) n
theorem zc9(N:Nat)(n:Nat):zap N (n+1)=z1h N (zap N n):=rfl
def z3p(N:Nat)(a0:Z6):Option ((List Int)):=
 match zp0 N a0 ([],[])with
 | some r1=>(bif (!r1)then
 (some [])
 else
 (bif (eqi (a0.2.2.1.length:Int) 0)then
 (match U9 N (a0.1.length:Int) 4 with
 | some r2=>(gd (fits (1+r2.length) 1)
 (let x3:=([76]++r2)
 match zan N N 0 a0 x3 with
 | some r10=>(some r10.2.1)
 | none=>none))
 | none=>none)
 else
 (match U9 N (a0.2.2.1.length:Int) 4 with
 | some r11=>(gd (fits (1+r11.length) 1)
 (let x12:=([78]++r11)
 match zap N N 0 a0 x12 with
 | some r15=>(match zao N N 0 r15.2.1 r15.2.2.1 with
 | some r18=>(match zam N N 0 r18.2.1 r18.2.2.1 with
 | some r29=>(match U9 N (r29.2.1.2.2.2.2.length:Int) 4 with
 | some r30=>(gd (fits (r29.2.2.1.length+r30.length) 1)
 (let x31:=(r29.2.2.1++r30)
 match zal N N 0 r29.2.1 x31 with
 | some r35=>(some r35.2.1)
 | none=>none))
 | none=>none)
 | none=>none)
 | none=>none)
 | none=>none))
 | none=>none)))
 | none=>none
def z0j(N:Nat)(rec:(List Int)->Int->Int->Option ((Int×Unit)))(b0:(List Int))(b1 b2:Int):Option ((Int×Unit)):=
 bif (decide (b2<(b0.length:Int)))then
 (gd (inB b2 (b0.length))
 (let x1:=(aa .u64 (((BitVec.ofInt (aM .u64) b1^^^BitVec.ofInt (aM .u64) (aa .u64 ((rdL b0 b2 0)))).toNat:Int)))
 let x2:=(aa .u64 (x1*1099511628211))
 rec b0 x2 (aa .i64 (b2+1))))
 else
 (some (b1,()))
def zak(N:Nat)(n:Nat):=
 itF (fun _ _ _=>none) (z0j N) n
theorem z7x(N:Nat)(n:Nat):zak N (n+1)=z0j N (zak N n):=rfl
def z2a(N:Nat)(a0:(List Int)):Option (Int):=
 match zak N N a0 14695981039346656037 0 with
 | some r3=>(some r3.1)
 | none=>none
def zgr(N:Nat)(a0:W0)(a1:Int):Option (Bool):=
 bif (decide (0<=a1))then
 (some (decide (a1<(a0.2.1.length:Int))))
 else
 (some false)
def zeq(N:Nat)(rec:Int->(List Int)->Int->W0->Option (((List Int)×Unit)))(b0:Int)(b1:(List Int))(b2:Int)(b3:W0):Option (((List Int)×Unit)):=
 bif (decide (b2<(b3.2.2.length:Int)))then
 (gd (inB b2 (b3.2.2.length))
 (bif (!((rdL b3.2.2 b2 z2d).1))then
 (gd (inB b2 (b3.2.2.length))
 (bif (eqi (((rdL b3.2.2 b2 z2d).2).1) b0)then
 (gd (inB b2 (b3.2.2.length))
 (rec b0 (((rdL b3.2.2 b2 z2d).2).2) (aa .i64 (b2+1)) b3))
 else
 (rec b0 b1 (aa .i64 (b2+1)) b3)))
 else
 (rec b0 b1 (aa .i64 (b2+1)) b3)))
 else
 (some (b1,()))
def zrr(N:Nat)(n:Nat):=
 itF (fun _ _ _ _=>none) (zeq N) n
theorem yr1(N:Nat)(n:Nat):zrr N (n+1)=zeq N (zrr N n):=rfl
def y7k(N:Nat)(a0:W0)(a1:Int):Option (((List Int)×Int)):=
 (zgr N a0 a1).bind fun r1=>
 bif (!r1)then
 (some ([],230))
 else
 (gd (inB a1 (a0.2.1.length))
 ((zrr N N a1 (rdL a0.2.1 a1 []) 0 a0).bind fun r2=>
 some (r2.1,0)))
def zsk(N:Nat)(a0:Z4)(a1:Int)(a2:Z6):Option (Bool):=
 let x1:=(decide ((a0.2.2.2.2.2.1.length:Int)<=a1))
 bif x1 then
 (some false)
 else
 (gd (inB a1 (a0.2.2.2.2.2.1.length))
 (let x2:=(decide ((rdL a0.2.2.2.2.2.1 a1 0)<0))
 bif x2 then
 (some false)
 else
 (gd (inB a1 (a0.2.2.2.2.2.1.length))
 ((y7k N a0.1 (rdL a0.2.2.2.2.2.1 a1 0)).bind fun r3=>
 (z3p N a2).bind fun r4=>
 some (eqs (z2j r3.1) (z2j r4))))))
def z3y(N:Nat)(rec:Int->Int->X3->Option ((Int×Unit)))(b0 b1:Int)(b2:X3):Option ((Int×Unit)):=
 bif (decide (b1<(b2.1.length:Int)))then
 (gd (inB b1 (b2.1.length))
 (bif (!(rdL b2.1 b1 false))then
 (rec (aa .i64 (b0+1)) (aa .i64 (b1+1)) b2)
 else
 (rec b0 (aa .i64 (b1+1)) b2)))
 else
 (some (b0,()))
def zey(N:Nat)(n:Nat):=
 itF (fun _ _ _=>none) (z3y N) n
theorem zju(N:Nat)(n:Nat):zey N (n+1)=z3y N (zey N n):=rfl
def zvd(N:Nat)(a0:X3):Option (Int):=
 (zey N N 0 0 a0).bind fun r1=>
 some r1.1
def y0g(N:Nat)(a0:X3):Option (Int):=
 (zvd N a0).bind fun r1=>
 some (aa .i64 (r1-a0.2.2))
def z3x(N:Nat)(rec:Int->X3->(List Bool)->Option x3q)(b0:Int)(b1:X3)(b2:(List Bool)):Option x3q:=
 bif (decide (b0<(b2.length:Int)))then
 (gd (inB b0 (b2.length))
 (bif (!(rdL b2 b0 false))then
 (gd (inB b0 (b2.length))
 (some (.inl ((),(((),(b1.2.1,(b1.2.2,(b0,0)))),((setL b2 b0 true),()))))))
 else
 (rec (aa .i64 (b0+1)) b1 b2)))
 else
 (some (.inr (((),()),(b1,((),())))))
def zai(N:Nat)(n:Nat):=
 itF (fun _ _ _=>none) (z3x N) n
theorem zjt(N:Nat)(n:Nat):zai N (n+1)=z3x N (zai N n):=rfl
def zvc(N:Nat)(a0:X3):Option (zqf):=
 gd (fits (0+a0.1.length) 1)
 (let x1:=([]++a0.1)
 (zai N N 0 a0 x1).bind fun r2=>
 match r2 with
 | .inl r3=>(some ((r3.2.2.1,(r3.2.1.2.1,r3.2.1.2.2.1)),r3.2.1.2.2.2))
 | .inr r4=>(some (r4.2.1,(0,250))))
def zni(N:Nat)(a0:X3):Option (zqf):=
 (y0g N a0).bind fun r1=>
 bif (decide (r1<1))then
 (some (a0,(0,250)))
 else
 ((zvc N a0).bind fun r2=>
 some r2)
def z4r(N:Nat)(a0:W0):Option ((Int×((List (List Int))×(List Y5)))):=
 gd (fits (0+a0.2.1.length) 24)
 (let x1:=([]++a0.2.1)
 gd (fits (0+a0.2.2.length) 40)
 (let x2:=([]++a0.2.2)
 some (a0.1,(x1,x2))))
def zmw(N:Nat)(a0:W0)(a1:Int)(a2:(List Int)):Option ((W0×Int)):=
 (zgr N a0 a1).bind fun r1=>
 bif (!r1)then
 (some (a0,230))
 else
 (bif (decide (a0.1<(a2.length:Int)))then
 (some (a0,230))
 else
 ((z4r N a0).bind fun r2=>
 gd (fits (0+a2.length) 1)
 (let x3:=([]++a2)
 gd (fits (r2.2.2.length+1) 40)
 (let x4:=(r2.2.2++[(false,(a1,x3))])
 some ((r2.1,(r2.2.1,x4)),0)))))
def zav(N:Nat)(a0:Z4)(a1:(List Int)):Option ((Z4×Int)):=
 (zni N a0.2.1).bind fun r1=>
 bif (!(eqi r1.2.2 0))then
 (some (a0,(-1)))
 else
 ((zmw N a0.1 r1.2.1 a1).bind fun r2=>
 bif (!(eqi r2.2 0))then
 (some (a0,(-1)))
 else
 (some ((r2.1,(r1.1,a0.2.2)),r1.2.1)))
def zgl(N:Nat)(a0:Int)(a1:(List (List Int)))(a2:(List Y5))(a3:(List Bool))(a4:(List Int))(a5 a6 a7 a8:Int)(a9 a10 a11 a12:(List Int)):Option (((Ty2_×Int)×Ty8_)):=
 (zni N (a3,(a4,a5))).bind fun r1=>
 bif (!(eqi r1.2.2 0))then
 (some (((a0,(a1,(a2,(a3,(a4,(a5,(a6,(a7,(a8,((),((),a9))))))))))),(-1)),(a10,(a11,()))))
 else
 ((zmw N (a0,(a1,a2)) r1.2.1 a12).bind fun r2=>
 bif (!(eqi r2.2 0))then
 (some (((a0,(a1,(a2,(a3,(a4,(a5,(a6,(a7,(a8,((),((),a9))))))))))),(-1)),(a10,(a11,()))))
 else
 (some (((r2.1.1,(r2.1.2.1,(r2.1.2.2,(r1.1.1,(r1.1.2.1,(r1.1.2.2,(a6,(a7,(a8,((),((),a9))))))))))),r1.2.1),(a10,(a11,())))))
def z8g(N:Nat)(b0 b1 b2 b3:Int)(b4:(List (List Int)))(b5:(List Y5))(b6:(List Bool))(b7:(List Int))(b8 b9 b10 b11:Int)(b12 b13 b14:(List Int))(b15:Z3)(b16:Z4)(b17:(List Int)):Option x00:=
 bif (decide (b0<(b15.1.length:Int)))then
 (gd (fits (b13.length+1) 8)
 (let x16:=(b13++[b1])
 gd (fits (b14.length+1) 8)
 (let x17:=(b14++[b2])
 some (((),((),((),((),((),b0))))),((b3,(b4,(b5,(b6,(b7,(b8,(b9,(b10,(b11,((),((),b12))))))))))),(x16,(x17,(b15,((),(b16,(b17,())))))))))))
 else
 (some (((),((),((),((),((),b0))))),((b3,(b4,(b5,(b6,(b7,(b8,(b9,(b10,(b11,((),((),b12))))))))))),(b13,(b14,(b15,((),(b16,(b17,())))))))))
def z6c(N:Nat)(b0 b1 b2:Int)(b3:Bool)(b4:Int)(b5:(List (List Int)))(b6:(List Y5))(b7:(List Bool))(b8:(List Int))(b9 b10 b11 b12:Int)(b13 b14 b15:(List Int))(b16:Z3)(b17:Z4)(b18:(List Int))(b19:Z8):Option (((Unit×(Unit×(Unit×(Unit×(Unit×(Int×(Int×Int)))))))×(Ty2_×((List Int)×((List Int)×(Z3×(Unit×(Z4×((List Int)×Unit))))))))⊕((Unit×((List Int)×Bool))×(Z4×Unit))):=
 bif b3 then
 (gd (inB b0 (b17.2.2.2.2.2.1.length))
 (gd (inB b0 (b17.2.2.2.2.2.2.1.length))
 (some (.inl (((),((),((),((),((),(b0,((rdL b17.2.2.2.2.2.1 b0 0),(rdL b17.2.2.2.2.2.2.1 b0 0)))))))),((b4,(b5,(b6,(b7,(b8,(b9,(b10,(b11,(b12,((),((),b13))))))))))),(b14,(b15,(b16,((),(b17,(b18,()))))))))))))
 else
 (bif b19.1 then
 (bif (!b19.2.1)then
 ((z3p N b19.2.2.2).bind fun r3=>
 (z2a N r3).bind fun r4=>
 (zsk N b17 b0 b19.2.2.2).bind fun r5=>
 bif r5 then
 (gd (inB b0 (b17.2.2.2.2.2.1.length))
 (let x6:=(decide ((rdL b17.2.2.2.2.2.1 b0 0)<0))
 bif x6 then
 (some (.inr (((),([],false)),(b17,()))))
 else
 (some (.inl (((),((),((),((),((),(b0,((rdL b17.2.2.2.2.2.1 b0 0),r4))))))),((b4,(b5,(b6,(b7,(b8,(b9,(b10,(b11,(b12,((),((),b13))))))))))),(b14,(b15,(b16,((),(b17,(b18,()))))))))))))
 else
 ((zgl N b4 b5 b6 b7 b8 b9 b10 b11 b12 b13 b14 b15 r3).bind fun r7=>
 bif (decide (r7.1.2<0))then
 (some (.inr (((),([],false)),(b17,()))))
 else
 (some (.inl (((),((),((),((),((),(b0,(r7.1.2,r4))))))),((r7.1.1.1,(r7.1.1.2.1,(r7.1.1.2.2.1,(r7.1.1.2.2.2.1,(r7.1.1.2.2.2.2.1,(r7.1.1.2.2.2.2.2.1,(r7.1.1.2.2.2.2.2.2.1,(r7.1.1.2.2.2.2.2.2.2.1,(r7.1.1.2.2.2.2.2.2.2.2.1,((),((),r7.1.1.2.2.2.2.2.2.2.2.2.2.2))))))))))),(r7.2.1,(r7.2.2.1,(b16,((),(b17,(b18,()))))))))))))
 else
 (some (.inl (((),((),((),((),((),(b0,(b1,b2))))))),((b4,(b5,(b6,(b7,(b8,(b9,(b10,(b11,(b12,((),((),b13))))))))))),(b14,(b15,(b16,((),(b17,(b18,())))))))))))
 else
 (some (.inl (((),((),((),((),((),(b0,(b1,b2))))))),((b4,(b5,(b6,(b7,(b8,(b9,(b10,(b11,(b12,((),((),b13))))))))))),(b14,(b15,(b16,((),(b17,(b18,())))))))))))
def z6d(N:Nat)(b0 b1 b2 b3:Int)(b4:(List (List Int)))(b5:(List Y5))(b6:(List Bool))(b7:(List Int))(b8 b9 b10 b11:Int)(b12 b13 b14:(List Int))(b15:Z3)(b16:Z4)(b17:(List Int)):Option x00:=
 let x11:=(decide (b0<(b16.2.2.2.2.2.1.length:Int)))
 bif x11 then
 (gd (inB b0 (b16.2.2.2.2.2.1.length))
 (let x12:=(decide (0<=(rdL b16.2.2.2.2.2.1 b0 0)))
 bif x12 then
 (gd (inB b0 (b16.2.2.2.2.2.1.length))
 (let x13:=(!(eqi (rdL b16.2.2.2.2.2.1 b0 0) b1))
 bif x13 then
 (gd (inB b0 (b16.2.2.2.2.2.1.length))
 (let x14:=([(rdL b16.2.2.2.2.2.1 b0 0)]:List Int)
 gd (fits (b17.length+x14.length) 8)
 (let x15:=(b17++x14)
 (z8g N b0 b1 b2 b3 b4 b5 b6 b7 b8 b9 b10 b11 b12 b13 b14 b15 b16 x15).bind fun r18=>
 some (((),((),((),((),((),r18.1.2.2.2.2.2))))),((r18.2.1.1,(r18.2.1.2.1,(r18.2.1.2.2.1,(r18.2.1.2.2.2.1,(r18.2.1.2.2.2.2.1,(r18.2.1.2.2.2.2.2.1,(r18.2.1.2.2.2.2.2.2.1,(r18.2.1.2.2.2.2.2.2.2.1,(r18.2.1.2.2.2.2.2.2.2.2.1,((),((),r18.2.1.2.2.2.2.2.2.2.2.2.2.2))))))))))),(r18.2.2.1,(r18.2.2.2.1,(r18.2.2.2.2.1,((),(r18.2.2.2.2.2.2.1,(r18.2.2.2.2.2.2.2.1,())))))))))))
 else
 ((z8g N b0 b1 b2 b3 b4 b5 b6 b7 b8 b9 b10 b11 b12 b13 b14 b15 b16 b17).bind fun r19=>
 some (((),((),((),((),((),r19.1.2.2.2.2.2))))),((r19.2.1.1,(r19.2.1.2.1,(r19.2.1.2.2.1,(r19.2.1.2.2.2.1,(r19.2.1.2.2.2.2.1,(r19.2.1.2.2.2.2.2.1,(r19.2.1.2.2.2.2.2.2.1,(r19.2.1.2.2.2.2.2.2.2.1,(r19.2.1.2.2.2.2.2.2.2.2.1,((),((),r19.2.1.2.2.2.2.2.2.2.2.2.2.2))))))))))),(r19.2.2.1,(r19.2.2.2.1,(r19.2.2.2.2.1,((),(r19.2.2.2.2.2.2.1,(r19.2.2.2.2.2.2.2.1,())))))))))))
 else
 ((z8g N b0 b1 b2 b3 b4 b5 b6 b7 b8 b9 b10 b11 b12 b13 b14 b15 b16 b17).bind fun r20=>
 some (((),((),((),((),((),r20.1.2.2.2.2.2))))),((r20.2.1.1,(r20.2.1.2.1,(r20.2.1.2.2.1,(r20.2.1.2.2.2.1,(r20.2.1.2.2.2.2.1,(r20.2.1.2.2.2.2.2.1,(r20.2.1.2.2.2.2.2.2.1,(r20.2.1.2.2.2.2.2.2.2.1,(r20.2.1.2.2.2.2.2.2.2.2.1,((),((),r20.2.1.2.2.2.2.2.2.2.2.2.2.2))))))))))),(r20.2.2.1,(r20.2.2.2.1,(r20.2.2.2.2.1,((),(r20.2.2.2.2.2.2.1,(r20.2.2.2.2.2.2.2.1,())))))))))))
 else
 ((z8g N b0 b1 b2 b3 b4 b5 b6 b7 b8 b9 b10 b11 b12 b13 b14 b15 b16 b17).bind fun r21=>
 some (((),((),((),((),((),r21.1.2.2.2.2.2))))),((r21.2.1.1,(r21.2.1.2.1,(r21.2.1.2.2.1,(r21.2.1.2.2.2.1,(r21.2.1.2.2.2.2.1,(r21.2.1.2.2.2.2.2.1,(r21.2.1.2.2.2.2.2.2.1,(r21.2.1.2.2.2.2.2.2.2.1,(r21.2.1.2.2.2.2.2.2.2.2.1,((),((),r21.2.1.2.2.2.2.2.2.2.2.2.2.2))))))))))),(r21.2.2.1,(r21.2.2.2.1,(r21.2.2.2.2.1,((),(r21.2.2.2.2.2.2.1,(r21.2.2.2.2.2.2.2.1,())))))))))
def z6e(N:Nat)(b0 b1:Int)(b2:(List (List Int)))(b3:(List Y5))(b4:(List Bool))(b5:(List Int))(b6 b7 b8 b9:Int)(b10 b11 b12:(List Int))(b13:Z3)(b14:Z4)(b15:(List Int)):Option x00:=
 some (((),((),((),((),((),(aa .i64 (b0+1))))))),((b1,(b2,(b3,(b4,(b5,(b6,(b7,(b8,(b9,((),((),b10))))))))))),(b11,(b12,(b13,((),(b14,(b15,()))))))))
def z3w(N:Nat)(rec:Int->Int->(List (List Int))->(List Y5)->(List Bool)->(List Int)->Int->Int->Int->Int->(List Int)->(List Int)->(List Int)->Z3->Z4->(List Int)->Option x3v)(b0 b1:Int)(b2:(List (List Int)))(b3:(List Y5))(b4:(List Bool))(b5:(List Int))(b6 b7 b8 b9:Int)(b10 b11 b12:(List Int))(b13:Z3)(b14:Z4)(b15:(List Int)):Option x3v:=
 let x1:=(bif decide ((b13.1.length:Int)<(b14.2.2.2.2.2.1.length:Int))then(b14.2.2.2.2.2.1.length:Int)else(b13.1.length:Int))
 bif (decide (b0<x1))then
 (bif (decide (b0<(b13.1.length:Int)))then
 (gd (inB b0 (b13.1.length))
 (bif (rdL b13.1 b0 X1).1 then
 (bif ((rdL b13.1 b0 X1).2).1 then
 (let x2:=(decide (b0<(b14.2.2.2.2.2.1.length:Int)))
 (z6c N b0 (-1) 0 x2 b1 b2 b3 b4 b5 b6 b7 b8 b9 b10 b11 b12 b13 b14 b15 (rdL b13.1 b0 X1)).bind fun r8=>
 match r8 with
 | .inl r9=>((z6d N r9.1.2.2.2.2.2.1 r9.1.2.2.2.2.2.2.1 r9.1.2.2.2.2.2.2.2 r9.2.1.1 r9.2.1.2.1 r9.2.1.2.2.1 r9.2.1.2.2.2.1 r9.2.1.2.2.2.2.1 r9.2.1.2.2.2.2.2.1 r9.2.1.2.2.2.2.2.2.1 r9.2.1.2.2.2.2.2.2.2.1 r9.2.1.2.2.2.2.2.2.2.2.1 r9.2.1.2.2.2.2.2.2.2.2.2.2.2 r9.2.2.1 r9.2.2.2.1 r9.2.2.2.2.1 r9.2.2.2.2.2.2.1 r9.2.2.2.2.2.2.2.1).bind fun r22=>
 (z6e N r22.1.2.2.2.2.2 r22.2.1.1 r22.2.1.2.1 r22.2.1.2.2.1 r22.2.1.2.2.2.1 r22.2.1.2.2.2.2.1 r22.2.1.2.2.2.2.2.1 r22.2.1.2.2.2.2.2.2.1 r22.2.1.2.2.2.2.2.2.2.1 r22.2.1.2.2.2.2.2.2.2.2.1 r22.2.1.2.2.2.2.2.2.2.2.2.2.2 r22.2.2.1 r22.2.2.2.1 r22.2.2.2.2.1 r22.2.2.2.2.2.2.1 r22.2.2.2.2.2.2.2.1).bind fun r23=>
 rec r23.1.2.2.2.2.2 r23.2.1.1 r23.2.1.2.1 r23.2.1.2.2.1 r23.2.1.2.2.2.1 r23.2.1.2.2.2.2.1 r23.2.1.2.2.2.2.2.1 r23.2.1.2.2.2.2.2.2.1 r23.2.1.2.2.2.2.2.2.2.1 r23.2.1.2.2.2.2.2.2.2.2.1 r23.2.1.2.2.2.2.2.2.2.2.2.2.2 r23.2.2.1 r23.2.2.2.1 r23.2.2.2.2.1 r23.2.2.2.2.2.2.1 r23.2.2.2.2.2.2.2.1)
 | .inr r10=>(some (.inl (((),(r10.1.2.1,r10.1.2.2)),(r10.2.1,())))))
 else
 ((z6c N b0 (-1) 0 false b1 b2 b3 b4 b5 b6 b7 b8 b9 b10 b11 b12 b13 b14 b15 (rdL b13.1 b0 X1)).bind fun r24=>
 match r24 with
 | .inl r25=>((z6d N r25.1.2.2.2.2.2.1 r25.1.2.2.2.2.2.2.1 r25.1.2.2.2.2.2.2.2 r25.2.1.1 r25.2.1.2.1 r25.2.1.2.2.1 r25.2.1.2.2.2.1 r25.2.1.2.2.2.2.1 r25.2.1.2.2.2.2.2.1 r25.2.1.2.2.2.2.2.2.1 r25.2.1.2.2.2.2.2.2.2.1 r25.2.1.2.2.2.2.2.2.2.2.1 r25.2.1.2.2.2.2.2.2.2.2.2.2.2 r25.2.2.1 r25.2.2.2.1 r25.2.2.2.2.1 r25.2.2.2.2.2.2.1 r25.2.2.2.2.2.2.2.1).bind fun r27=>
 (z6e N r27.1.2.2.2.2.2 r27.2.1.1 r27.2.1.2.1 r27.2.1.2.2.1 r27.2.1.2.2.2.1 r27.2.1.2.2.2.2.1 r27.2.1.2.2.2.2.2.1 r27.2.1.2.2.2.2.2.2.1 r27.2.1.2.2.2.2.2.2.2.1 r27.2.1.2.2.2.2.2.2.2.2.1 r27.2.1.2.2.2.2.2.2.2.2.2.2.2 r27.2.2.1 r27.2.2.2.1 r27.2.2.2.2.1 r27.2.2.2.2.2.2.1 r27.2.2.2.2.2.2.2.1).bind fun r28=>
 rec r28.1.2.2.2.2.2 r28.2.1.1 r28.2.1.2.1 r28.2.1.2.2.1 r28.2.1.2.2.2.1 r28.2.1.2.2.2.2.1 r28.2.1.2.2.2.2.2.1 r28.2.1.2.2.2.2.2.2.1 r28.2.1.2.2.2.2.2.2.2.1 r28.2.1.2.2.2.2.2.2.2.2.1 r28.2.1.2.2.2.2.2.2.2.2.2.2.2 r28.2.2.1 r28.2.2.2.1 r28.2.2.2.2.1 r28.2.2.2.2.2.2.1 r28.2.2.2.2.2.2.2.1)
 | .inr r26=>(some (.inl (((),(r26.1.2.1,r26.1.2.2)),(r26.2.1,()))))))
 else
 ((z6c N b0 (-1) 0 false b1 b2 b3 b4 b5 b6 b7 b8 b9 b10 b11 b12 b13 b14 b15 (rdL b13.1 b0 X1)).bind fun r29=>
 match r29 with
 | .inl r30=>((z6d N r30.1.2.2.2.2.2.1 r30.1.2.2.2.2.2.2.1 r30.1.2.2.2.2.2.2.2 r30.2.1.1 r30.2.1.2.1 r30.2.1.2.2.1 r30.2.1.2.2.2.1 r30.2.1.2.2.2.2.1 r30.2.1.2.2.2.2.2.1 r30.2.1.2.2.2.2.2.2.1 r30.2.1.2.2.2.2.2.2.2.1 r30.2.1.2.2.2.2.2.2.2.2.1 r30.2.1.2.2.2.2.2.2.2.2.2.2.2 r30.2.2.1 r30.2.2.2.1 r30.2.2.2.2.1 r30.2.2.2.2.2.2.1 r30.2.2.2.2.2.2.2.1).bind fun r32=>
 (z6e N r32.1.2.2.2.2.2 r32.2.1.1 r32.2.1.2.1 r32.2.1.2.2.1 r32.2.1.2.2.2.1 r32.2.1.2.2.2.2.1 r32.2.1.2.2.2.2.2.1 r32.2.1.2.2.2.2.2.2.1 r32.2.1.2.2.2.2.2.2.2.1 r32.2.1.2.2.2.2.2.2.2.2.1 r32.2.1.2.2.2.2.2.2.2.2.2.2.2 r32.2.2.1 r32.2.2.2.1 r32.2.2.2.2.1 r32.2.2.2.2.2.2.1 r32.2.2.2.2.2.2.2.1).bind fun r33=>
 rec r33.1.2.2.2.2.2 r33.2.1.1 r33.2.1.2.1 r33.2.1.2.2.1 r33.2.1.2.2.2.1 r33.2.1.2.2.2.2.1 r33.2.1.2.2.2.2.2.1 r33.2.1.2.2.2.2.2.2.1 r33.2.1.2.2.2.2.2.2.2.1 r33.2.1.2.2.2.2.2.2.2.2.1 r33.2.1.2.2.2.2.2.2.2.2.2.2.2 r33.2.2.1 r33.2.2.2.1 r33.2.2.2.2.1 r33.2.2.2.2.2.2.1 r33.2.2.2.2.2.2.2.1)
 | .inr r31=>(some (.inl (((),(r31.1.2.1,r31.1.2.2)),(r31.2.1,())))))))
 else
 ((z6c N b0 (-1) 0 false b1 b2 b3 b4 b5 b6 b7 b8 b9 b10 b11 b12 b13 b14 b15 (false,(false,(0,([],([],([],([],[])))))))).bind fun r34=>
 match r34 with
 | .inl r35=>((z6d N r35.1.2.2.2.2.2.1 r35.1.2.2.2.2.2.2.1 r35.1.2.2.2.2.2.2.2 r35.2.1.1 r35.2.1.2.1 r35.2.1.2.2.1 r35.2.1.2.2.2.1 r35.2.1.2.2.2.2.1 r35.2.1.2.2.2.2.2.1 r35.2.1.2.2.2.2.2.2.1 r35.2.1.2.2.2.2.2.2.2.1 r35.2.1.2.2.2.2.2.2.2.2.1 r35.2.1.2.2.2.2.2.2.2.2.2.2.2 r35.2.2.1 r35.2.2.2.1 r35.2.2.2.2.1 r35.2.2.2.2.2.2.1 r35.2.2.2.2.2.2.2.1).bind fun r37=>
 (z6e N r37.1.2.2.2.2.2 r37.2.1.1 r37.2.1.2.1 r37.2.1.2.2.1 r37.2.1.2.2.2.1 r37.2.1.2.2.2.2.1 r37.2.1.2.2.2.2.2.1 r37.2.1.2.2.2.2.2.2.1 r37.2.1.2.2.2.2.2.2.2.1 r37.2.1.2.2.2.2.2.2.2.2.1 r37.2.1.2.2.2.2.2.2.2.2.2.2.2 r37.2.2.1 r37.2.2.2.1 r37.2.2.2.2.1 r37.2.2.2.2.2.2.1 r37.2.2.2.2.2.2.2.1).bind fun r38=>
 rec r38.1.2.2.2.2.2 r38.2.1.1 r38.2.1.2.1 r38.2.1.2.2.1 r38.2.1.2.2.2.1 r38.2.1.2.2.2.2.1 r38.2.1.2.2.2.2.2.1 r38.2.1.2.2.2.2.2.2.1 r38.2.1.2.2.2.2.2.2.2.1 r38.2.1.2.2.2.2.2.2.2.2.1 r38.2.1.2.2.2.2.2.2.2.2.2.2.2 r38.2.2.1 r38.2.2.2.1 r38.2.2.2.2.1 r38.2.2.2.2.2.2.1 r38.2.2.2.2.2.2.2.1)
 | .inr r36=>(some (.inl (((),(r36.1.2.1,r36.1.2.2)),(r36.2.1,()))))))
 else
 (some (.inr (((),((),())),((b1,(b2,(b3,(b4,(b5,(b6,(b7,(b8,(b9,((),((),b10))))))))))),(b11,(b12,((),(b15,()))))))))
def z6f(N:Nat)(n:Nat):=
 itF (fun _ _ _ _ _ _ _ _ _ _ _ _ _ _ _ _=>none) (z3w N) n
theorem zjs(N:Nat)(n:Nat):z6f N (n+1)=z3w N (z6f N n):=rfl
def zir(N:Nat)(a0:Z4)(a1:Z3):Option ((Z4×((List Int)×Bool))):=
 (z6f N N 0 a0.1.1 a0.1.2.1 a0.1.2.2 a0.2.1.1 a0.2.1.2.1 a0.2.1.2.2 a0.2.2.1 a0.2.2.2.1 a0.2.2.2.2.1 a0.2.2.2.2.2.2.2 [] [] a1 a0 []).bind fun r39=>
 match r39 with
 | .inl r40=>(some (r40.2.1,(r40.1.2.1,r40.1.2.2)))
 | .inr r41=>(some (((r41.2.1.1,(r41.2.1.2.1,r41.2.1.2.2.1)),((r41.2.1.2.2.2.1,(r41.2.1.2.2.2.2.1,r41.2.1.2.2.2.2.2.1)),(r41.2.1.2.2.2.2.2.2.1,(r41.2.1.2.2.2.2.2.2.2.1,(r41.2.1.2.2.2.2.2.2.2.2.1,(r41.2.2.1,(r41.2.2.2.1,r41.2.1.2.2.2.2.2.2.2.2.2.2.2))))))),(r41.2.2.2.2.2.1,true)))
def z2s(N:Nat)(rec:Int->Int->(List Int)->Option ((Unit×((List Int)×Unit))))(b0 b1:Int)(b2:(List Int)):Option ((Unit×((List Int)×Unit))):=
 bif (decide (0<=b1))then
 (gd (decide (0<=(aa .i64 (8*b1))))
 (let x1:=(cT b0 (2^min (cc (aa .i64 (8*b1))) (aM .u64)))
 gd (fits (b2.length+1) 1)
 (let x2:=(b2++[(aa .u8 (x1))])
 rec b0 (aa .i64 (b1-1)) x2)))
 else
 (some ((),(b2,())))
def zd6(N:Nat)(n:Nat):=
 itF (fun _ _ _=>none) (z2s N) n
theorem zgm(N:Nat)(n:Nat):zd6 N (n+1)=z2s N (zd6 N n):=rfl
def z4q(N:Nat)(a0 a1:Int):Option ((List Int)):=
 (zd6 N N a0 (aa .i64 (a1-1)) []).bind fun r3=>
 some r3.2.1
def z13(N:Nat)(a0 a1:Int):Option ((List Int)):=
 (z4q N (aa .u64 (a0)) a1).bind fun r1=>
 some r1
def z5c(N:Nat)(rec:(List (List Int))->Int->(List Int)->Option ((Unit×((List Int)×Unit))))(b0:(List (List Int)))(b1:Int)(b2:(List Int)):Option ((Unit×((List Int)×Unit))):=
 bif (decide (b1<(b0.length:Int)))then
 (gd (inB b1 (b0.length))
 (gd (fits (b2.length+ak (rdL b0 b1 [])) 1)
 (let x1:=(b2++(rdL b0 b1 []))
 rec b0 (aa .i64 (b1+1)) x1)))
 else
 (some ((),(b2,())))
def zgo(N:Nat)(n:Nat):=
 itF (fun _ _ _=>none) (z5c N) n
theorem zli(N:Nat)(n:Nat):zgo N (n+1)=z5c N (zgo N n):=rfl
def z9j(N:Nat)(a0:(List (List Int))):Option ((List Int)):=
 (zgo N N a0 0 []).bind fun r2=>
 some r2.2.1
def V4(N:Nat)(a0 a1:Int):Option ((List Int)):=
 (z4q N (aa .u64 (a0)) a1).bind fun r1=>
 some r1
def z2t(N:Nat)(rec:(List Z1)->Int->(List Int)->Option ((Unit×((List Int)×Unit))))(b0:(List Z1))(b1:Int)(b2:(List Int)):Option ((Unit×((List Int)×Unit))):=
 bif (decide (b1<(b0.length:Int)))then
 (gd (inB b1 (b0.length))
 ((zb1 N (rdL b0 b1 K3)).bind fun r2=>
 gd (fits (b2.length+r2.length) 1)
 (let x3:=(b2++r2)
 rec b0 (aa .i64 (b1+1)) x3)))
 else
 (some ((),(b2,())))
def zd7(N:Nat)(n:Nat):=
 itF (fun _ _ _=>none) (z2t N) n
theorem zgn(N:Nat)(n:Nat):zd7 N (n+1)=z2t N (zd7 N n):=rfl
def zfk(N:Nat)(a0:(List Z1)):Option ((List Int)):=
 (z13 N (a0.length:Int) 4).bind fun r1=>
 (zd7 N N a0 0 r1).bind fun r4=>
 some r4.2.1
def z1a(N:Nat)(rec:Int->Int->(List Int)->Option ((Unit×((List Int)×Unit))))(b0 b1:Int)(b2:(List Int)):Option ((Unit×((List Int)×Unit))):=
 bif (decide (0<=b1))then
 (gd (decide (0<=(aa .i64 (8*b1))))
 (let x1:=(cT b0 (2^min (cc (aa .i64 (8*b1))) (aM .u64)))
 gd (fits (b2.length+1) 1)
 (let x2:=(b2++[(aa .u8 (x1))])
 rec b0 (aa .i64 (b1-1)) x2)))
 else
 (some ((),(b2,())))
def za4(N:Nat)(n:Nat):=
 itF (fun _ _ _=>none) (z1a N) n
theorem zei(N:Nat)(n:Nat):za4 N (n+1)=z1a N (za4 N n):=rfl
def z8f(N:Nat)(a0 a1:Int):Option ((List Int)):=
 (za4 N N a0 (aa .i64 (a1-1)) []).bind fun r3=>
 some r3.2.1
def z1z(N:Nat)(rec:Int->Z3->Z4->(List Int)->Option ((Unit×((List Int)×Unit))))(b0:Int)(b1:Z3)(b2:Z4)(b3:(List Int)):Option ((Unit×((List Int)×Unit))):=
 bif (decide (b0<(b1.1.length:Int)))then
 (gd (inB b0 (b1.1.length))
 (bif (!((rdL b1.1 b0 X1).1))then
 (gd (fits (b3.length+1) 1)
 (let x21:=(b3++[0])
 rec (aa .i64 (b0+1)) b1 b2 x21))
 else
 (bif ((rdL b1.1 b0 X1).2).1 then
 ((V4 N ((((rdL b1.1 b0 X1).2).2).1) 4).bind fun r22=>
 gd (inB b0 (b2.2.2.2.2.2.1.length))
 (let x23:=(aa .i64 (((BitVec.ofInt (aM .i64) (rdL b2.2.2.2.2.2.1 b0 0)&&&BitVec.ofInt (aM .i64) 65535).toNat:Int)))
 (V4 N x23 2).bind fun r24=>
 gd (inB b0 (b2.2.2.2.2.2.2.1.length))
 ((z8f N (rdL b2.2.2.2.2.2.2.1 b0 0) 8).bind fun r25=>
 let x26:=([[2],r22,r24,r25]:List (List Int))
 (z9j N x26).bind fun r27=>
 gd (fits (b3.length+r27.length) 1)
 (let x28:=(b3++r27)
 rec (aa .i64 (b0+1)) b1 b2 x28))))
 else
 ((V4 N ((((rdL b1.1 b0 X1).2).2).1) 4).bind fun r29=>
 gd (inB b0 (b2.2.2.2.2.2.1.length))
 (let x30:=(aa .i64 (((BitVec.ofInt (aM .i64) (rdL b2.2.2.2.2.2.1 b0 0)&&&BitVec.ofInt (aM .i64) 65535).toNat:Int)))
 (V4 N x30 2).bind fun r31=>
 gd (inB b0 (b2.2.2.2.2.2.2.1.length))
 ((z8f N (rdL b2.2.2.2.2.2.2.1 b0 0) 8).bind fun r32=>
 let x33:=([[1],r29,r31,r32]:List (List Int))
 (z9j N x33).bind fun r34=>
 gd (fits (b3.length+r34.length) 1)
 (let x35:=(b3++r34)
 rec (aa .i64 (b0+1)) b1 b2 x35)))))))
 else
 (some ((),(b3,())))
def z87(N:Nat)(n:Nat):=
 itF (fun _ _ _ _=>none) (z1z N) n
theorem zfv(N:Nat)(n:Nat):z87 N (n+1)=z1z N (z87 N n):=rfl
def z20(N:Nat)(rec:Int->Z3->Z4->(List Int)->Option (((Unit×(Unit×Unit))×(Z3×(Z4×((List Int)×Unit))))))(b0:Int)(b1:Z3)(b2:Z4)(b3:(List Int)):Option (((Unit×(Unit×Unit))×(Z3×(Z4×((List Int)×Unit))))):=
 bif (decide (b0<(b1.2.2.1.length:Int)))then
 (gd (inB b0 (b1.2.2.1.length))
 ((V4 N ((rdL b1.2.2.1 b0 Y8).1) 4).bind fun r8=>
 (V4 N (((rdL b1.2.2.1 b0 Y8).2).1) 4).bind fun r9=>
 (V4 N ((((rdL b1.2.2.1 b0 Y8).2).2).1) 2).bind fun r10=>
 let x11:=(ak (((((rdL b1.2.2.1 b0 Y8).2).2).2).1):Int)
 (V4 N x11 1).bind fun r12=>
 gd (decide (ak (((((rdL b1.2.2.1 b0 Y8).2).2).2).1)<maxB))
 (let x13:=(U2 (((((rdL b1.2.2.1 b0 Y8).2).2).2).1))
 (zfk N (((((rdL b1.2.2.1 b0 Y8).2).2).2).2)).bind fun r14=>
 let x15:=([r8,r9,r10,r12,x13,r14]:List (List Int))
 (z9j N x15).bind fun r16=>
 gd (fits (b3.length+r16.length) 1)
 (let x17:=(b3++r16)
 rec (aa .i64 (b0+1)) b1 b2 x17))))
 else
 (some (((),((),())),(b1,(b2,(b3,())))))
def zba(N:Nat)(n:Nat):=
 itF (fun _ _ _ _=>none) (z20 N) n
theorem zfw(N:Nat)(n:Nat):zba N (n+1)=z20 N (zba N n):=rfl
def zgq(N:Nat)(a0:Z3)(a1:Z4):Option ((List Int)):=
 let x1:=([67,(aa .u8 (a0.2.1.1)),(aa .u8 (a0.2.1.2.1)),(aa .u8 (a0.2.1.2.2))]:List Int)
 (V4 N a0.2.2.2.1 4).bind fun r2=>
 (V4 N a0.2.2.2.2.2.1 4).bind fun r3=>
 (V4 N a0.2.2.2.2.1 2).bind fun r4=>
 (zfk N a0.2.2.2.2.2.2).bind fun r5=>
 (V4 N (a0.2.2.1.length:Int) 1).bind fun r6=>
 (z9j N [x1,r2,r3,r4,r5,r6]).bind fun r7=>
 (zba N N 0 a0 a1 r7).bind fun r18=>
 (V4 N (r18.2.1.1.length:Int) 2).bind fun r19=>
 gd (fits (r18.2.2.2.1.length+r19.length) 1)
 (let x20:=(r18.2.2.2.1++r19)
 (z87 N N 0 r18.2.1 r18.2.2.1 x20).bind fun r36=>
 some r36.2.1)
def z6u(N:Nat)(rec:(List Int)->Int->(List (List Int))->Option ((((List Int)×Unit)×((List (List Int))×Unit))))(b0:(List Int))(b1:Int)(b2:(List (List Int))):Option ((((List Int)×Unit)×((List (List Int))×Unit))):=
 bif (decide (b1<(b0.length:Int)))then
 (gd (decide (0<=(0:Int))&&(decide (0<=b1)&&decide (b1<=(b0.length:Int))))
 (gd (fits (b2.length+1) 24)
 (let x1:=(b2++[(cut2 b0 0 b1)])
 gd (decide (0<=b1)&&(decide (b1<=(b0.length:Int))&&decide ((b0.length:Int)<=(b0.length:Int))))
 (rec (cut2 b0 b1 (b0.length:Int)) b1 x1))))
 else
 (some ((b0,()),(b2,())))
def zd8(N:Nat)(n:Nat):=
 itF (fun _ _ _=>none) (z6u N) n
theorem zu4(N:Nat)(n:Nat):zd8 N (n+1)=z6u N (zd8 N n):=rfl
def zko(N:Nat)(a0:(List Int))(a1:Int):Option ((List (List Int))):=
 (zd8 N N a0 a1 []).bind fun r2=>
 gd (fits (r2.2.1.length+1) 24)
 (let x3:=(r2.2.1++[r2.1.1])
 some x3)
def zaw(N:Nat)(a0:W0):Option (W0):=
 (z4r N a0).bind fun r1=>
 let x2:=([(true,(0,[]))]:List Y5)
 gd (fits (r1.2.2.length+x2.length) 40)
 (let x3:=(r1.2.2++x2)
 some (r1.1,(r1.2.1,x3)))
def z1y(N:Nat)(rec:(List Int)->Int->(List Int)->Option ((Unit×((List Int)×Unit))))(b0:(List Int))(b1:Int)(b2:(List Int)):Option ((Unit×((List Int)×Unit))):=
 bif (decide (b1<(b0.length:Int)))then
 (gd (inB b1 (b0.length))
 ((z13 N (rdL b0 b1 0) 2).bind fun r8=>
 gd (fits (b2.length+r8.length) 1)
 (let x9:=(b2++r8)
 rec b0 (aa .i64 (b1+1)) x9)))
 else
 (some ((),(b2,())))
def zb9(N:Nat)(n:Nat):=
 itF (fun _ _ _=>none) (z1y N) n
theorem zfu(N:Nat)(n:Nat):zb9 N (n+1)=z1y N (zb9 N n):=rfl
def zgp(N:Nat)(a0:Int)(a1 a2:(List Int)):Option ((List Int)):=
 (z13 N a0 4).bind fun r1=>
 (z13 N (a1.length:Int) 4).bind fun r2=>
 (z2a N a1).bind fun r3=>
 (z4q N r3 8).bind fun r4=>
 (z13 N (a2.length:Int) 2).bind fun r5=>
 let x6:=([[83],r1,r2,r4,r5]:List (List Int))
 (z9j N x6).bind fun r7=>
 (zb9 N N a2 0 r7).bind fun r10=>
 (z2a N r10.2.1).bind fun r11=>
 (z4q N r11 8).bind fun r12=>
 gd (fits (r10.2.1.length+r12.length) 1)
 (let x13:=(r10.2.1++r12)
 some x13)
def zep(N:Nat)(rec:(List Int)->Int->Int->Option Ty4_)(b0:(List Int))(b1 b2:Int):Option Ty4_:=
 bif (decide (b2<(b0.length:Int)))then
 (gd (inB b2 (b0.length))
 (bif (eqi (rdL b0 b2 0) b1)then
 (some (.inl (true,())))
 else
 (rec b0 b1 (aa .i64 (b2+1)))))
 else
 (some (.inr ((),())))
def zrq(N:Nat)(n:Nat):=
 itF (fun _ _ _=>none) (zep N) n
theorem yr0(N:Nat)(n:Nat):zrq N (n+1)=zep N (zrq N n):=rfl
def yho(N:Nat)(a0:(List Int))(a1:Int):Option (Bool):=
 (zrq N N a0 a1 0).bind fun r1=>
 match r1 with
 | .inl r2=>(some r2.1)
 | .inr r3=>(some false)
def zcm(N:Nat)(b0:Int)(b1:Bool)(b2:X3):Option x3j:=
 bif b1 then
 (some (.inl (((),230),(b2,()))))
 else
 (some (.inr ((b0,((),())),(b2,((),())))))
def zcn(N:Nat)(b0:Int)(b1:X3):Option (((Unit×Int)×(((List Bool)×(Unit×Int))×((List Int)×Unit)))):=
 gd (fits (0+b1.2.1.length) 8)
 (let x4:=([]++b1.2.1)
 gd (fits (x4.length+1) 8)
 (let x5:=(x4++[b0])
 some (((),0),((b1.1,((),b1.2.2)),(x5,())))))
def ycn(N:Nat)(a0:X3)(a1:Int):Option ((X3×Int)):=
 bif (decide (a1<0))then
 ((zcm N a1 true a0).bind fun r1=>
 match r1 with
 | .inl r2=>(some (r2.2.1,r2.1.2))
 | .inr r3=>((zcn N r3.1.1 r3.2.1).bind fun r6=>
 some ((r6.2.1.1,(r6.2.2.1,r6.2.1.2.2)),r6.1.2)))
 else
 (bif (decide ((a0.1.length:Int)<=a1))then
 ((zcm N a1 true a0).bind fun r7=>
 match r7 with
 | .inl r8=>(some (r8.2.1,r8.1.2))
 | .inr r9=>((zcn N r9.1.1 r9.2.1).bind fun r10=>
 some ((r10.2.1.1,(r10.2.2.1,r10.2.1.2.2)),r10.1.2)))
 else
 (gd (inB a1 (a0.1.length))
 (bif (!(rdL a0.1 a1 false))then
 ((zcm N a1 true a0).bind fun r11=>
 match r11 with
 | .inl r12=>(some (r12.2.1,r12.1.2))
 | .inr r13=>((zcn N r13.1.1 r13.2.1).bind fun r14=>
 some ((r14.2.1.1,(r14.2.2.1,r14.2.1.2.2)),r14.1.2)))
 else
 ((yho N a0.2.1 a1).bind fun r15=>
 (zcm N a1 r15 a0).bind fun r16=>
 match r16 with
 | .inl r17=>(some (r17.2.1,r17.1.2))
 | .inr r18=>((zcn N r18.1.1 r18.2.1).bind fun r19=>
 some ((r19.2.1.1,(r19.2.2.1,r19.2.1.2.2)),r19.1.2))))))
def z6v(N:Nat)(rec:Int->X3->(List Bool)->Option yvx)(b0:Int)(b1:X3)(b2:(List Bool)):Option yvx:=
 bif (decide (b0<(b1.2.1.length:Int)))then
 (gd (inB b0 (b1.2.1.length))
 (gd (inB (rdL b1.2.1 b0 0) (b2.length))
 (rec (aa .i64 (b0+1)) b1 (setL b2 (rdL b1.2.1 b0 0) false))))
 else
 (some (((),((),())),(b1,((),(b2,())))))
def z6w(N:Nat)(n:Nat):=
 itF (fun _ _ _=>none) (z6v N) n
theorem zu5(N:Nat)(n:Nat):z6w N (n+1)=z6v N (z6w N n):=rfl
def zfl(N:Nat)(a0:X3):Option (X3):=
 gd (fits (0+a0.1.length) 1)
 (let x1:=([]++a0.1)
 (z6w N N 0 a0 x1).bind fun r2=>
 some (r2.2.2.2.1,([],r2.2.1.2.2)))
def zdk(N:Nat)(rec:(List Int)->Int->Z4->(List Int)->Option (((Unit×(Unit×(List Int)))×(Z4×(Unit×Unit)))))(b0:(List Int))(b1:Int)(b2:Z4)(b3:(List Int)):Option (((Unit×(Unit×(List Int)))×(Z4×(Unit×Unit)))):=
 bif (decide (b1<(b3.length:Int)))then
 (gd (inB b1 (b3.length))
 ((ycn N b2.2.1 (rdL b3 b1 0)).bind fun r16=>
 rec b0 (aa .i64 (b1+1)) (b2.1,(r16.1,b2.2.2)) b3))
 else
 (some (((),((),b0)),(b2,((),()))))
def z9s(N:Nat)(n:Nat):=
 itF (fun _ _ _ _=>none) (zdk N) n
theorem y02(N:Nat)(n:Nat):z9s N (n+1)=zdk N (z9s N n):=rfl
def z5d(N:Nat)(rec:(List Int)->(List Int)->Int->Z4->Z4->(List (List Int))->(List Int)->Option x3r)(b0 b1:(List Int))(b2:Int)(b3 b4:Z4)(b5:(List (List Int)))(b6:(List Int)):Option x3r:=
 bif (decide (b2<(b5.length:Int)))then
 (gd (inB b2 (b5.length))
 ((zav N b3 (rdL b5 b2 [])).bind fun r4=>
 bif (decide (r4.2<0))then
 (some (.inl ((),((b4,250),()))))
 else
 (gd (fits (b6.length+1) 8)
 (let x5:=(b6++[r4.2])
 rec b0 b1 (aa .i64 (b2+1)) r4.1 b4 b5 x5))))
 else
 (some (.inr (((),((),((),(b0,(b1,()))))),(b3,((),(b4,(b6,())))))))
def zcl(N:Nat)(n:Nat):=
 itF (fun _ _ _ _ _ _ _=>none) (z5d N) n
theorem zlj(N:Nat)(n:Nat):zcl N (n+1)=z5d N (zcl N n):=rfl
def znh(N:Nat)(a0:Z4)(a1:Z3):Option (zic):=
 (zir N a0 a1).bind fun r1=>
 bif (!r1.2.2)then
 (some (a0,250))
 else
 ((zgq N a1 r1.1).bind fun r2=>
 (zko N r2 r1.1.1.1).bind fun r3=>
 (zcl N N r1.2.1 r2 0 r1.1 a0 r3 []).bind fun r6=>
 match r6 with
 | .inl r7=>(some r7.2.1)
 | .inr r8=>(let x9:=(aa .i64 (r8.2.2.2.1.2.2.2.1+1))
 (zaw N r8.2.1.1).bind fun r10=>
 (zgp N x9 r8.1.2.2.2.2.1 r8.2.2.2.2.1).bind fun r11=>
 (zmw N r10 (aB x9 2) r11).bind fun r12=>
 bif (!(eqi r12.2 0))then
 (some (r8.2.2.2.1,250))
 else
 ((zaw N r12.1).bind fun r13=>
 gd (fits (0+r8.1.2.2.2.1.length) 8)
 (let x14:=([]++r8.1.2.2.2.1)
 gd (fits (x14.length+r8.2.2.2.1.2.2.2.2.2.2.2.length) 8)
 (let x15:=(x14++r8.2.2.2.1.2.2.2.2.2.2.2)
 (z9s N N r8.2.2.2.2.1 0 (r13,(r8.2.1.2.1,(r8.2.1.2.2.1,(x9,(0,r8.2.1.2.2.2.2.2))))) x15).bind fun r17=>
 (zfl N r17.2.1.2.1).bind fun r18=>
 some ((r17.2.1.1,(r18,(r17.2.1.2.2.1,(r17.2.1.2.2.2.1,(r17.2.1.2.2.2.2.1,(r17.2.1.2.2.2.2.2.1,(r17.2.1.2.2.2.2.2.2.1,r17.1.2.2))))))),0))))))
def zwy(N:Nat)(a0:W0)(a1:Int)(a2:Z3):Option (zic):=
 bif (decide (a1<0))then
 (some (((0,([],[])),(([],([],0)),(0,(0,(0,([],([],[]))))))),1))
 else
 (let x1:=(aa .i64 ((a0.2.1.length:Int)-2))
 bif (decide (x1<=a1))then
 (some (((0,([],[])),(([],([],0)),(0,(0,(0,([],([],[]))))))),1))
 else
 ((zwz N (a0.2.1.length:Int) (aa .i64 (2+a1))).bind fun r2=>
 (znh N (a0,(r2.1,(a1,(0,(0,([],([],[]))))))) a2).bind fun r3=>
 bif (!(eqi r3.2 0))then
 (some (((0,([],[])),(([],([],0)),(0,(0,(0,([],([],[]))))))),r3.2))
 else
 (some r3)))
def zy5(N:Nat):Option (z3j):=
 (zr2 N (2,(2,1))).bind fun r1=>
 let x2:=([(1,([97],([],(([],[]),([],([],0)))))),(1,([98],([],(([],[]),([],([],0)))))),(1,([99],([],(([],[]),([],([],0))))))]:List Z1)
 (zr3 N r1.1 x2).bind fun r3=>
 (zej N 1500 20).bind fun r4=>
 (zwy N r4.1 1 r3.1).bind fun r5=>
 some (r5.1,(r3.1,0))
def zx3(N:Nat)(a0:(List Z8))(a1:Int):Option (Bool):=
 bif (decide (0<=a1))then
 (bif (decide (a1<(a0.length:Int)))then
 (gd (inB a1 (a0.length))
 (some ((rdL a0 a1 X1).1)))
 else
 (some false))
 else
 (some false)
def zdi(N:Nat)(a0:Int)(a1:(List Int)):Option (Ty3_):=
 gd (fits (a1.length+1) 8)
 (let x1:=(a1++[a0])
 some ((),((),(x1,()))))
def z0v(N:Nat)(self:Int->(List Z8)->(List Int)->Bool->(List Int)->Option Ty5_)(rec:Int->(List Int)->Int->Int->(List Int)->(List Z8)->Bool->(List Int)->Option x3t)(b0:Int)(b1:(List Int))(b2 b3:Int)(b4:(List Int))(b5:(List Z8))(b6:Bool)(b7:(List Int)):Option x3t:=
 bif (decide (b3<b2))then
 (gd (inB b3 (b1.length))
 (match self (rdL b1 b3 0) b5 b4 b6 b7 with
 | some r3=>(rec b0 b1 b2 (aa .i64 (b3+1)) r3.2.2.2.1 r3.2.1 r3.2.2.2.2.1 r3.2.2.2.2.2.2.2.2.1)
 | none=>none))
 else
 (some ((b0,((),())),((),(b4,((),((),(b7,(b5,(b6,(((),((),((),((),())))),()))))))))))
def z5v(N:Nat)(self:Int->(List Z8)->(List Int)->Bool->(List Int)->Option Ty5_)(n:Nat):=
 itF (fun _ _ _ _ _ _ _ _=>none) (z0v N self) n
theorem zdn(N:Nat)(self:Int->(List Z8)->(List Int)->Bool->(List Int)->Option Ty5_)(n:Nat):z5v N self (n+1)=z0v N self (z5v N self n):=rfl
def z3a(N:Nat)(self:Int->(List Z8)->(List Int)->Bool->(List Int)->Option Ty5_)(a0:Int)(a1:(List Z8))(a2:(List Int))(a3:Bool)(a4:(List Int)):Option Ty5_:=
 match zx3 N a1 a0 with
 | some r1=>(bif (!r1)then
 (some ((),(a1,((),(a2,(a3,(((),((),((),((),())))),((),((),(a4,()))))))))))
 else
 (gd (inB a0 (a2.length))
 (bif (eqi (rdL a2 a0 0) 2)then
 (some ((),(a1,((),(a2,(a3,(((),((),((),((),())))),((),((),(a4,()))))))))))
 else
 (gd (inB a0 (a2.length))
 (bif (eqi (rdL a2 a0 0) 1)then
 (some ((),(a1,((),(a2,(false,(((),((),((),((),())))),((),((),(a4,()))))))))))
 else
 (gd (inB a0 (a2.length))
 (gd (inB a0 (a1.length))
 (let x2:=(ak (((((((rdL a1 a0 X1).2).2).2).2).2).1):Int)
 match z5v N self N a0 (((((((rdL a1 a0 X1).2).2).2).2).2).1) x2 0 (setL a2 a0 1) a1 a3 a4 with
 | some r4=>(gd (inB r4.1.1 (r4.2.2.1.length))
 (match zdi N r4.1.1 r4.2.2.2.2.2.1 with
 | some r5=>(some ((),(r4.2.2.2.2.2.2.1,((),((setL r4.2.2.1 r4.1.1 2),(r4.2.2.2.2.2.2.2.1,(((),((),((),((),())))),((),((),(r5.2.2.1,()))))))))))
 | none=>none))
 | none=>none))))))))
 | none=>none
def z04(N n:Nat):Int->(List Z8)->(List Int)->Bool->(List Int)->Option Ty5_:=
 itF (fun _ _ _ _ _=>none) (z3a N) n
theorem znp(N n:Nat):z04 N (n+1)=z3a N (z04 N n):=rfl
def zt1(N:Nat):Int->(List Z8)->(List Int)->Bool->(List Int)->Option Ty5_:=
 z04 N N
def K9(N:Nat)(rec:(List Int)->Int->Int->Bool->(List Z8)->(List Int)->(List Int)->Option ((Unit×(Bool×(Unit×((List Int)×Unit))))))(b0:(List Int))(b1 b2:Int)(b3:Bool)(b4:(List Z8))(b5 b6:(List Int)):Option ((Unit×(Bool×(Unit×((List Int)×Unit))))):=
 bif (decide (b2<b1))then
 (gd (inB b2 (b0.length))
 (match zt1 N (rdL b0 b2 0) b4 b5 b3 b6 with
 | some r2=>(rec b0 b1 (aa .i64 (b2+1)) r2.2.2.2.2.1 r2.2.1 r2.2.2.2.1 r2.2.2.2.2.2.2.2.2.1)
 | none=>none))
 else
 (some ((),(b3,((),(b6,())))))
def z08(N:Nat)(n:Nat):=
 itF (fun _ _ _ _ _ _ _=>none) (K9 N) n
theorem z4n(N:Nat)(n:Nat):z08 N (n+1)=K9 N (z08 N n):=rfl
def pool_visit_m__pool_Reach_c1(N:Nat)(a0:(List Z8))(a1 a2:(List Int)):Option ((Bool×(Unit×((List Int)×Unit)))):=
 gd ((decide (0<=(a0.length:Int))&&decide ((a0.length:Int)<=(a0.length:Int)))&&(decide ((a0.length:Int)<maxB)&&decide ((a0.length:Int)*8<maxB)))
 (let x1:=(az (cc (a0.length:Int)) 0)
 match z08 N N a1 (a1.length:Int) 0 true a0 x1 a2 with
 | some r3=>(some (r3.2.1,((),(r3.2.2.2.1,()))))
 | none=>none)
def z3m(N:Nat)(a0:List Int):Option (Unit×((List Int)×Unit)):=
 gd (Nat.blt (a0.length) 4611686018427387904) (some ((),(za1 a0,())))
def zdz(N:Nat)(a0:(List Z8))(a1:(List Int)):Option ((List Int)):=
 match pool_visit_m__pool_Reach_c1 N a0 a1 []with
 | some r1=>(match z3m N r1.2.2.1 with
 | some r2=>(some r2.2.1)
 | none=>none)
 | none=>none
def zgh(N:Nat)(a0:Z4)(a1:Int):Option ((Int×Bool)):=
 bif (decide (a1<0))then
 (some (0,false))
 else
 (let x1:=(decide ((a0.2.2.2.2.2.1.length:Int)<=a1))
 bif x1 then
 (some (0,false))
 else
 (gd (inB a1 (a0.2.2.2.2.2.1.length))
 (let x2:=(decide ((rdL a0.2.2.2.2.2.1 a1 0)<0))
 bif x2 then
 (some (0,false))
 else
 (gd (inB a1 (a0.2.2.2.2.2.1.length))
 (some ((rdL a0.2.2.2.2.2.1 a1 0),true))))))
def z3u(N:Nat)(rec:Int->Int->Z4->Int->(List Int)->(List Int)->(List Int)->Option (((Unit×Unit)×(Unit×((Unit×(Unit×Int))×Ty8_)))))(b0 b1:Int)(b2:Z4)(b3:Int)(b4 b5 b6:(List Int)):Option (((Unit×Unit)×(Unit×((Unit×(Unit×Int))×Ty8_)))):=
 bif (decide (b1<b0))then
 (gd (inB b1 (b6.length))
 ((zgh N b2 (rdL b6 b1 0)).bind fun r5=>
 bif r5.2 then
 (gd (fits (b4.length+1) 8)
 (let x6:=(b4++[(rdL b6 b1 0)])
 rec b0 (aa .i64 (b1+1)) b2 b3 x6 b5 b6))
 else
 (rec b0 (aa .i64 (b1+1)) b2 b3 b4 b5 b6)))
 else
 (some (((),()),((),(((),((),b3)),(b4,(b5,()))))))
def zeu(N:Nat)(n:Nat):=
 itF (fun _ _ _ _ _ _ _=>none) (z3u N) n
theorem zjq(N:Nat)(n:Nat):zeu N (n+1)=z3u N (zeu N n):=rfl
def z3v(N:Nat)(rec:(List V6)->Int->Int->Z4->Z3->(List Int)->Option ((yl1×(Z4×yvv))))(b0:(List V6))(b1 b2:Int)(b3:Z4)(b4:Z3)(b5:(List Int)):Option ((yl1×(Z4×yvv))):=
 bif (decide (b2<b1))then
 (gd (inB b2 (b0.length))
 (let x1:=([(((rdL b0 b2 Y8).2).2).1]:List Int)
 gd (fits (b5.length+x1.length) 8)
 (let x2:=(b5++x1)
 rec b0 b1 (aa .i64 (b2+1)) b3 b4 x2)))
 else
 (some (((),((),((),()))),(b3,(b4,((),(b5,()))))))
def zev(N:Nat)(n:Nat):=
 itF (fun _ _ _ _ _ _=>none) (z3v N) n
theorem zjr(N:Nat)(n:Nat):zev N (n+1)=z3v N (zev N n):=rfl
def ze5(N:Nat)(a0:Z4)(a1:Z3):Option (v8):=
 (zev N N a1.2.2.1 (a1.2.2.1.length:Int) 0 a0 a1 [a1.2.2.2.2.1]).bind fun r3=>
 (zdz N r3.2.2.1.1 r3.2.2.2.2.1).bind fun r4=>
 (zeu N N (r4.length:Int) 0 r3.2.1 0 [] [] r4).bind fun r7=>
 some (r7.2.2.2.1,(r7.2.2.2.2.1,r7.2.2.1.2.2))
def znf(N:Nat)(a0:v8):Option (Bool):=
 some (eqi (a0.1.length:Int) 0)
def z18(N:Nat)(a0:List Int):Option (List Int):=
 gd (fits (a0.length) 8) (some a0)
def zwk(N:Nat)(a0:W0)(a1:Int):Option (Bool):=
 bif (decide (0<=a1))then
 (some (decide (a1<(a0.2.1.length:Int))))
 else
 (some false)
def z05(N:Nat)(a0:(List Y5)):Option ((List Y5)):=
 some a0
def zjj(N:Nat)(a0:Int)(a1:Bool)(a2:Int)(a3:(List Int))(a4:Int)(a5:(List Int))(a6:Int):Option ((Unit×(Int×((List Int)×((List Int)×(Unit×Unit)))))⊕(Unit×(Int×(Unit×((List Int)×(Int×Unit)))))):=
 bif (!a1)then
 (bif (eqi a2 a4)then
 (some (.inl ((),(a4,(a3,(a5,((),())))))))
 else
 (some (.inr ((),(a4,((),(a5,(a6,()))))))))
 else
 (some (.inr ((),(a4,((),(a5,(a6,())))))))
def Q2(N:Nat)(rec:(List Y5)->Int->Int->(List Int)->Int->Option x01)(b0:(List Y5))(b1 b2:Int)(b3:(List Int))(b4:Int):Option x01:=
 bif (decide (0<=b1))then
 (gd (inB b1 (b0.length))
 ((zjj N b1 ((rdL b0 b1 z2d).1) (((rdL b0 b1 z2d).2).1) (((rdL b0 b1 z2d).2).2) b2 b3 b4).bind fun r2=>
 match r2 with
 | .inl r3=>(some (.inl ((),(((),((),())),(r3.2.1,(r3.2.2.1,((),(r3.2.2.2.1,()))))))))
 | .inr r4=>(rec b0 (aa .i64 (b1-1)) r4.2.1 r4.2.2.2.1 r4.2.2.2.2.1)))
 else
 (some (.inr ((),(((),((),())),(b2,((),(b3,(b4,()))))))))
def Q9(N:Nat)(n:Nat):=
 itF (fun _ _ _ _ _=>none) (Q2 N) n
theorem g9(N:Nat)(n:Nat):Q9 N (n+1)=Q2 N (Q9 N n):=rfl
def y5(N:Nat)(a0:(List Y5))(a1:Int)(a2:(List Int))(a3:Int):Option x01:=
 let x1:=(aa .i64 ((a0.length:Int)-1))
 (Q9 N N a0 x1 a1 a2 a3).bind fun r5=>
 match r5 with
 | .inl r6=>(some (.inl ((),(((),((),())),(r6.2.2.1,(r6.2.2.2.1,((),(r6.2.2.2.2.2.1,()))))))))
 | .inr r7=>(some (.inr ((),(((),((),())),(r7.2.2.1,((),(r7.2.2.2.2.1,(r7.2.2.2.2.2.1,()))))))))
def zvl(N:Nat)(b0:(List Y5))(b1:W0)(b2:Int):Option (((Unit×Unit)×((List Int)×(Unit×Unit)))⊕(yl1×(W0×(Int×(Unit×((List Int)×(Int×Unit))))))):=
 (y5 N b0 b2 [] 0).bind fun r3=>
 match r3 with
 | .inl r4=>(some (.inl (((),()),(r4.2.2.2.1,((),())))))
 | .inr r5=>(some (.inr (((),((),((),()))),(b1,(r5.2.2.1,((),(r5.2.2.2.2.1,(r5.2.2.2.2.2.1,()))))))))
def zwl(N:Nat)(a0:W0)(a1:Int):Option (((List Int)×Int)):=
 (zwk N a0 a1).bind fun r1=>
 bif (!r1)then
 (some ([],230))
 else
 ((z05 N a0.2.2).bind fun r2=>
 (zvl N r2 a0 a1).bind fun r6=>
 match r6 with
 | .inl r7=>(some (r7.2.1,0))
 | .inr r8=>(gd (inB r8.2.2.1 (r8.2.1.2.1.length))
 (some ((rdL r8.2.1.2.1 r8.2.2.1 []),0))))
def z62(N:Nat)(rec:Int->(List Int)->Int->Int->Option ((Int×Unit)))(b0:Int)(b1:(List Int))(b2 b3:Int):Option ((Int×Unit)):=
 bif (decide (b3<b2))then
 (gd (inB b3 (b1.length))
 (let x1:=(aa .u64 (((BitVec.ofInt (aM .u64) b0^^^BitVec.ofInt (aM .u64) (aa .u64 ((rdL b1 b3 0)))).toNat:Int)))
 let x2:=(aa .u64 (x1*1099511628211))
 rec x2 b1 b2 (aa .i64 (b3+1))))
 else
 (some (b0,()))
def zi0(N:Nat)(n:Nat):=
 itF (fun _ _ _ _=>none) (z62 N) n
theorem zm5(N:Nat)(n:Nat):zi0 N (n+1)=z62 N (zi0 N n):=rfl
def z82(N:Nat)(a0:(List Int)):Option (Int):=
 match zi0 N N 14695981039346656037 a0 (a0.length:Int) 0 with
 | some r3=>(some r3.1)
 | none=>none
def zd3(N:Nat)(a0 a1:(List Int))(a2 a3:Int)(a4:(List (List Int)))(a5:(List Y5))(a6:(List Bool))(a7:(List Int))(a8 a9 a10 a11:Int)(a12 a13 a14:(List Int))(a15 a16:Int):Option (Bool):=
 (zwl N (a3,(a4,a5)) a16).bind fun r1=>
 bif (eqi r1.2 0)then
 (bif (decide (a15<(a13.length:Int)))then
 ((z82 N r1.1).bind fun r2=>
 gd (inB a15 (a13.length))
 (some (eqi r2 (rdL a13 a15 0))))
 else
 (some false))
 else
 (some false)
def zdj(N:Nat)(a0:(List Int))(a1 a2:Int)(a3:(List (List Int)))(a4:(List Y5))(a5:(List Bool))(a6:(List Int))(a7 a8 a9 a10:Int)(a11 a12 a13 a14:(List Int)):Option ((Unit×yqr)):=
 some ((),((),((a0,((),(a1,(a2,(a3,(a4,(a5,(a6,(a7,(a8,(a9,(a10,(a11,(a12,a13)))))))))))))),(a14,()))))
def za2(N:Nat)(a0 a1 a2:Int)(a3:(List Int))(a4 a5:Int)(a6:(List (List Int)))(a7:(List Y5))(a8:(List Bool))(a9:(List Int))(a10 a11 a12 a13:Int)(a14 a15 a16 a17:(List Int)):Option ((Unit×(Int×yqr))⊕(Unit×(Int×yqr))):=
 bif (eqi a2 0)then
 (some (.inl ((),(a2,((),((a3,((),(a4,(a5,(a6,(a7,(a8,(a9,(a10,(a11,(a12,(a13,(a14,(a15,a16)))))))))))))),(a17,())))))))
 else
 (bif (decide (a1<0))then
 (some (.inr ((),((aa .i64 (a2-1)),((),((a3,((),(a4,(a5,(a6,(a7,(a8,(a9,(a10,(a11,(a12,(a13,(a14,(a15,a16)))))))))))))),(a17,())))))))
 else
 ((zd3 N a3 a17 a4 a5 a6 a7 a8 a9 a10 a11 a12 a13 a14 a15 a16 a0 a1).bind fun r1=>
 bif r1 then
 (some (.inr ((),((aa .i64 (a2-1)),((),((a3,((),((aa .i64 (a4+1)),(a5,(a6,(a7,(a8,(a9,(a10,(a11,(a12,(a13,(a14,(a15,a16)))))))))))))),(a17,())))))))
 else
 (gd (fits (a17.length+1) 8)
 (let x2:=(a17++[a0])
 some (.inr ((),((aa .i64 (a2-1)),((),((a3,((),(a4,(a5,(a6,(a7,(a8,(a9,(a10,(a11,(a12,(a13,(a14,(a15,a16)))))))))))))),(x2,()))))))))))
def G2(N:Nat)(rec:(List Int)->Int->Int->(List (List Int))->(List Y5)->(List Bool)->(List Int)->Int->Int->Int->Int->(List Int)->(List Int)->(List Int)->(List Int)->Int->Option (yl3⊕yl3))(b0:(List Int))(b1 b2:Int)(b3:(List (List Int)))(b4:(List Y5))(b5:(List Bool))(b6:(List Int))(b7 b8 b9 b10:Int)(b11 b12 b13 b14:(List Int))(b15:Int):Option (yl3⊕yl3):=
 let x1:=(decide (0<(b0.length:Int)))
 bif x1 then
 (gd (inB 0 (b0.length))
 ((zgh N ((b2,(b3,b4)),((b5,(b6,b7)),(b8,(b9,(b10,(b11,(b12,b13))))))) (rdL b0 0 0)).bind fun r2=>
 bif (!r2.2)then
 ((za2 N (rdL b0 0 0) (-1) b15 b0 b1 b2 b3 b4 b5 b6 b7 b8 b9 b10 b11 b12 b13 b14).bind fun r3=>
 match r3 with
 | .inl r4=>(some (.inl ((),(((),()),(r4.2.1,((),((r4.2.2.2.1.1,((),(r4.2.2.2.1.2.2.1,(r4.2.2.2.1.2.2.2.1,(r4.2.2.2.1.2.2.2.2.1,(r4.2.2.2.1.2.2.2.2.2.1,(r4.2.2.2.1.2.2.2.2.2.2.1,(r4.2.2.2.1.2.2.2.2.2.2.2.1,(r4.2.2.2.1.2.2.2.2.2.2.2.2.1,(r4.2.2.2.1.2.2.2.2.2.2.2.2.2.1,(r4.2.2.2.1.2.2.2.2.2.2.2.2.2.2.1,(r4.2.2.2.1.2.2.2.2.2.2.2.2.2.2.2.1,(r4.2.2.2.1.2.2.2.2.2.2.2.2.2.2.2.2.1,(r4.2.2.2.1.2.2.2.2.2.2.2.2.2.2.2.2.2.1,r4.2.2.2.1.2.2.2.2.2.2.2.2.2.2.2.2.2.2)))))))))))))),(r4.2.2.2.2.1,((),())))))))))
 | .inr r5=>(gd (decide (0<=(1:Int))&&(decide (1<=(r5.2.2.2.1.1.length:Int))&&decide ((r5.2.2.2.1.1.length:Int)<=(r5.2.2.2.1.1.length:Int))))
 (let x6:=(cut2 r5.2.2.2.1.1 1 (r5.2.2.2.1.1.length:Int))
 rec x6 r5.2.2.2.1.2.2.1 r5.2.2.2.1.2.2.2.1 r5.2.2.2.1.2.2.2.2.1 r5.2.2.2.1.2.2.2.2.2.1 r5.2.2.2.1.2.2.2.2.2.2.1 r5.2.2.2.1.2.2.2.2.2.2.2.1 r5.2.2.2.1.2.2.2.2.2.2.2.2.1 r5.2.2.2.1.2.2.2.2.2.2.2.2.2.1 r5.2.2.2.1.2.2.2.2.2.2.2.2.2.2.1 r5.2.2.2.1.2.2.2.2.2.2.2.2.2.2.2.1 r5.2.2.2.1.2.2.2.2.2.2.2.2.2.2.2.2.1 r5.2.2.2.1.2.2.2.2.2.2.2.2.2.2.2.2.2.1 r5.2.2.2.1.2.2.2.2.2.2.2.2.2.2.2.2.2.2 r5.2.2.2.2.1 r5.2.1)))
 else
 ((za2 N (rdL b0 0 0) r2.1 b15 b0 b1 b2 b3 b4 b5 b6 b7 b8 b9 b10 b11 b12 b13 b14).bind fun r7=>
 match r7 with
 | .inl r8=>(some (.inl ((),(((),()),(r8.2.1,((),((r8.2.2.2.1.1,((),(r8.2.2.2.1.2.2.1,(r8.2.2.2.1.2.2.2.1,(r8.2.2.2.1.2.2.2.2.1,(r8.2.2.2.1.2.2.2.2.2.1,(r8.2.2.2.1.2.2.2.2.2.2.1,(r8.2.2.2.1.2.2.2.2.2.2.2.1,(r8.2.2.2.1.2.2.2.2.2.2.2.2.1,(r8.2.2.2.1.2.2.2.2.2.2.2.2.2.1,(r8.2.2.2.1.2.2.2.2.2.2.2.2.2.2.1,(r8.2.2.2.1.2.2.2.2.2.2.2.2.2.2.2.1,(r8.2.2.2.1.2.2.2.2.2.2.2.2.2.2.2.2.1,(r8.2.2.2.1.2.2.2.2.2.2.2.2.2.2.2.2.2.1,r8.2.2.2.1.2.2.2.2.2.2.2.2.2.2.2.2.2.2)))))))))))))),(r8.2.2.2.2.1,((),())))))))))
 | .inr r9=>(gd (decide (0<=(1:Int))&&(decide (1<=(r9.2.2.2.1.1.length:Int))&&decide ((r9.2.2.2.1.1.length:Int)<=(r9.2.2.2.1.1.length:Int))))
 (let x10:=(cut2 r9.2.2.2.1.1 1 (r9.2.2.2.1.1.length:Int))
 rec x10 r9.2.2.2.1.2.2.1 r9.2.2.2.1.2.2.2.1 r9.2.2.2.1.2.2.2.2.1 r9.2.2.2.1.2.2.2.2.2.1 r9.2.2.2.1.2.2.2.2.2.2.1 r9.2.2.2.1.2.2.2.2.2.2.2.1 r9.2.2.2.1.2.2.2.2.2.2.2.2.1 r9.2.2.2.1.2.2.2.2.2.2.2.2.2.1 r9.2.2.2.1.2.2.2.2.2.2.2.2.2.2.1 r9.2.2.2.1.2.2.2.2.2.2.2.2.2.2.2.1 r9.2.2.2.1.2.2.2.2.2.2.2.2.2.2.2.2.1 r9.2.2.2.1.2.2.2.2.2.2.2.2.2.2.2.2.2.1 r9.2.2.2.1.2.2.2.2.2.2.2.2.2.2.2.2.2.2 r9.2.2.2.2.1 r9.2.1)))))
 else
 (some (.inr ((),(((),()),(b15,((),((b0,((),(b1,(b2,(b3,(b4,(b5,(b6,(b7,(b8,(b9,(b10,(b11,(b12,b13)))))))))))))),(b14,((),())))))))))
def z03(N:Nat)(n:Nat):=
 itF (fun _ _ _ _ _ _ _ _ _ _ _ _ _ _ _ _=>none) (G2 N) n
theorem z7l(N:Nat)(n:Nat):z03 N (n+1)=G2 N (z03 N n):=rfl
def z86(N:Nat)(a0:Int)(a1:(List Int))(a2 a3:Int)(a4:(List (List Int)))(a5:(List Y5))(a6:(List Bool))(a7:(List Int))(a8 a9 a10 a11:Int)(a12 a13 a14 a15:(List Int)):Option (yl3⊕yl3):=
 (z03 N N a1 a2 a3 a4 a5 a6 a7 a8 a9 a10 a11 a12 a13 a14 a15 a0).bind fun r11=>
 match r11 with
 | .inl r12=>(some (.inl ((),(((),()),(r12.2.2.1,((),((r12.2.2.2.2.1.1,((),(r12.2.2.2.2.1.2.2.1,(r12.2.2.2.2.1.2.2.2.1,(r12.2.2.2.2.1.2.2.2.2.1,(r12.2.2.2.2.1.2.2.2.2.2.1,(r12.2.2.2.2.1.2.2.2.2.2.2.1,(r12.2.2.2.2.1.2.2.2.2.2.2.2.1,(r12.2.2.2.2.1.2.2.2.2.2.2.2.2.1,(r12.2.2.2.2.1.2.2.2.2.2.2.2.2.2.1,(r12.2.2.2.2.1.2.2.2.2.2.2.2.2.2.2.1,(r12.2.2.2.2.1.2.2.2.2.2.2.2.2.2.2.2.1,(r12.2.2.2.2.1.2.2.2.2.2.2.2.2.2.2.2.2.1,(r12.2.2.2.2.1.2.2.2.2.2.2.2.2.2.2.2.2.2.1,r12.2.2.2.2.1.2.2.2.2.2.2.2.2.2.2.2.2.2.2)))))))))))))),(r12.2.2.2.2.2.1,((),())))))))))
 | .inr r13=>(some (.inr ((),(((),()),(r13.2.2.1,((),((r13.2.2.2.2.1.1,((),(r13.2.2.2.2.1.2.2.1,(r13.2.2.2.2.1.2.2.2.1,(r13.2.2.2.2.1.2.2.2.2.1,(r13.2.2.2.2.1.2.2.2.2.2.1,(r13.2.2.2.2.1.2.2.2.2.2.2.1,(r13.2.2.2.2.1.2.2.2.2.2.2.2.1,(r13.2.2.2.2.1.2.2.2.2.2.2.2.2.1,(r13.2.2.2.2.1.2.2.2.2.2.2.2.2.2.1,(r13.2.2.2.2.1.2.2.2.2.2.2.2.2.2.2.1,(r13.2.2.2.2.1.2.2.2.2.2.2.2.2.2.2.2.1,(r13.2.2.2.2.1.2.2.2.2.2.2.2.2.2.2.2.2.1,(r13.2.2.2.2.1.2.2.2.2.2.2.2.2.2.2.2.2.2.1,r13.2.2.2.2.1.2.2.2.2.2.2.2.2.2.2.2.2.2.2)))))))))))))),(r13.2.2.2.2.2.1,((),())))))))))
def zpo(N:Nat)(b0:Int)(b1:(List Int))(b2 b3:Int)(b4:(List (List Int)))(b5:(List Y5))(b6:(List Bool))(b7:(List Int))(b8 b9 b10 b11:Int)(b12 b13 b14 b15:(List Int)):Option (((Unit×Unit)×(Unit×yqr))⊕((Unit×Unit)×(Unit×yqr))):=
 (z86 N b0 b1 b2 b3 b4 b5 b6 b7 b8 b9 b10 b11 b12 b13 b14 b15).bind fun r3=>
 match r3 with
 | .inl r4=>(some (.inl (((),()),((),((),((r4.2.2.2.2.1.1,((),(r4.2.2.2.2.1.2.2.1,(r4.2.2.2.2.1.2.2.2.1,(r4.2.2.2.2.1.2.2.2.2.1,(r4.2.2.2.2.1.2.2.2.2.2.1,(r4.2.2.2.2.1.2.2.2.2.2.2.1,(r4.2.2.2.2.1.2.2.2.2.2.2.2.1,(r4.2.2.2.2.1.2.2.2.2.2.2.2.2.1,(r4.2.2.2.2.1.2.2.2.2.2.2.2.2.2.1,(r4.2.2.2.2.1.2.2.2.2.2.2.2.2.2.2.1,(r4.2.2.2.2.1.2.2.2.2.2.2.2.2.2.2.2.1,(r4.2.2.2.2.1.2.2.2.2.2.2.2.2.2.2.2.2.1,(r4.2.2.2.2.1.2.2.2.2.2.2.2.2.2.2.2.2.2.1,r4.2.2.2.2.1.2.2.2.2.2.2.2.2.2.2.2.2.2.2)))))))))))))),(r4.2.2.2.2.2.1,())))))))
 | .inr r5=>(some (.inr (((),()),((),((),((r5.2.2.2.2.1.1,((),(r5.2.2.2.2.1.2.2.1,(r5.2.2.2.2.1.2.2.2.1,(r5.2.2.2.2.1.2.2.2.2.1,(r5.2.2.2.2.1.2.2.2.2.2.1,(r5.2.2.2.2.1.2.2.2.2.2.2.1,(r5.2.2.2.2.1.2.2.2.2.2.2.2.1,(r5.2.2.2.2.1.2.2.2.2.2.2.2.2.1,(r5.2.2.2.2.1.2.2.2.2.2.2.2.2.2.1,(r5.2.2.2.2.1.2.2.2.2.2.2.2.2.2.2.1,(r5.2.2.2.2.1.2.2.2.2.2.2.2.2.2.2.2.1,(r5.2.2.2.2.1.2.2.2.2.2.2.2.2.2.2.2.2.1,(r5.2.2.2.2.1.2.2.2.2.2.2.2.2.2.2.2.2.2.1,r5.2.2.2.2.1.2.2.2.2.2.2.2.2.2.2.2.2.2.2)))))))))))))),(r5.2.2.2.2.2.1,())))))))
def y09(N:Nat)(a0:v8)(a1:Z4)(a2:Int):Option ((v8×Int)):=
 bif (decide (a2<0))then
 (some (a0,280))
 else
 ((z18 N a0.2.1).bind fun r1=>
 (zdj N a0.1 a0.2.2 a1.1.1 a1.1.2.1 a1.1.2.2 a1.2.1.1 a1.2.1.2.1 a1.2.1.2.2 a1.2.2.1 a1.2.2.2.1 a1.2.2.2.2.1 a1.2.2.2.2.2.1 a1.2.2.2.2.2.2.1 a1.2.2.2.2.2.2.2 r1).bind fun r2=>
 (zpo N a2 r2.2.2.1.1 r2.2.2.1.2.2.1 r2.2.2.1.2.2.2.1 r2.2.2.1.2.2.2.2.1 r2.2.2.1.2.2.2.2.2.1 r2.2.2.1.2.2.2.2.2.2.1 r2.2.2.1.2.2.2.2.2.2.2.1 r2.2.2.1.2.2.2.2.2.2.2.2.1 r2.2.2.1.2.2.2.2.2.2.2.2.2.1 r2.2.2.1.2.2.2.2.2.2.2.2.2.2.1 r2.2.2.1.2.2.2.2.2.2.2.2.2.2.2.1 r2.2.2.1.2.2.2.2.2.2.2.2.2.2.2.2.1 r2.2.2.1.2.2.2.2.2.2.2.2.2.2.2.2.2.1 r2.2.2.1.2.2.2.2.2.2.2.2.2.2.2.2.2.2 r2.2.2.2.1).bind fun r6=>
 match r6 with
 | .inl r7=>(some ((r7.2.2.2.1.1,(r7.2.2.2.2.1,r7.2.2.2.1.2.2.1)),0))
 | .inr r8=>(some ((r8.2.2.2.1.1,(r8.2.2.2.2.1,r8.2.2.2.1.2.2.1)),0)))
def z83(N:Nat)(a0:v8)(a1:Z4)(a2:Int):Option (y42):=
 (y09 N a0 a1 a2).bind fun r1=>
 some r1
def z5e(N:Nat)(rec:Int->W0->Int->(List (List Int))->(List Y5)->Option (((Unit×Unit)×(Unit×yzy))))(b0:Int)(b1:W0)(b2:Int)(b3:(List (List Int)))(b4:(List Y5)):Option (((Unit×Unit)×(Unit×yzy))):=
 bif (decide (b0<(b1.2.2.length:Int)))then
 (gd (inB b0 (b1.2.2.length))
 (bif (!((rdL b1.2.2 b0 z2d).1))then
 (gd (inB b0 (b1.2.2.length))
 (gd (inB b0 (b1.2.2.length))
 (gd (inB (((rdL b1.2.2 b0 z2d).2).1) (b3.length))
 (let x2:=(setL b3 (((rdL b1.2.2 b0 z2d).2).1) (((rdL b1.2.2 b0 z2d).2).2))
 rec (aa .i64 (b0+1)) b1 b2 x2 b4))))
 else
 (rec (aa .i64 (b0+1)) b1 b2 b3 b4)))
 else
 (some (((),()),((),((b2,((),())),(b3,(b4,()))))))
def zgs(N:Nat)(n:Nat):=
 itF (fun _ _ _ _ _=>none) (z5e N) n
theorem zlk(N:Nat)(n:Nat):zgs N (n+1)=z5e N (zgs N n):=rfl
def zgt(N:Nat)(a0:W0):Option (W0):=
 (z4r N a0).bind fun r1=>
 (zgs N N 0 a0 r1.1 r1.2.1 r1.2.2).bind fun r3=>
 some (r3.2.2.1.1,(r3.2.2.2.1,[]))
def y0f(N:Nat)(a0:Z4)(a1:Int):Option (Int):=
 bif (decide (a1<0))then
 (some (-1))
 else
 (let x1:=(decide ((a0.2.2.2.2.2.1.length:Int)<=a1))
 bif x1 then
 (some (-1))
 else
 (gd (inB a1 (a0.2.2.2.2.2.1.length))
 (let x2:=(decide ((rdL a0.2.2.2.2.2.1 a1 0)<0))
 bif x2 then
 (some (-1))
 else
 (gd (inB a1 (a0.2.2.2.2.2.1.length))
 (some (rdL a0.2.2.2.2.2.1 a1 0))))))
def yhp(N:Nat)(a0:W0)(a1:y41):Option ((W0×Int)):=
 (zgr N a0 a1.1).bind fun r1=>
 bif (!r1)then
 (some (a0,230))
 else
 (bif (decide (a1.2.1<0))then
 (some (a0,1))
 else
 (gd (inB a1.1 (a0.2.1.length))
 (let x2:=(ak (rdL a0.2.1 a1.1 []):Int)
 bif (decide (x2<=a1.2.1))then
 (some (a0,1))
 else
 ((z4r N a0).bind fun r3=>
 gd (inB a1.1 (a0.2.1.length))
 (gd (fits (0+ak (rdL a0.2.1 a1.1 [])) 1)
 (let x4:=([]++(rdL a0.2.1 a1.1 []))
 gd (inB a1.1 (r3.2.1.length))
 (gd (inB a1.1 (r3.2.1.length))
 (gd (Nat.beq (cc a1.1) (cc a1.1))
 (gd (inB a1.2.1 (x4.length))
 (let x5:=(aa .u8 (((BitVec.ofInt (aM .u8) (rdL x4 a1.2.1 0)^^^BitVec.ofInt (aM .u8) a1.2.2).toNat:Int)))
 gd (inB a1.2.1 (x4.length))
 (some ((r3.1,((setL r3.2.1 a1.1 (setL x4 a1.2.1 x5)),r3.2.2)),0))))))))))))
def y39(N:Nat)(a0:Z4)(a1:(List Int))(a2:y9b):Option ((Z4×Int)):=
 bif (eqi (a1.length:Int) 0)then
 (some (a0,(-1)))
 else
 (gd (!(eqi (a1.length:Int) 0))
 (let x1:=(aB (aa .i64 (a2.1)) (a1.length:Int))
 gd (inB x1 (a1.length))
 ((y0f N a0 (rdL a1 x1 0)).bind fun r2=>
 (y7k N a0.1 r2).bind fun r3=>
 bif (eqi (r3.1.length:Int) 0)then
 (some (a0,(-1)))
 else
 ((y0f N a0 (rdL a1 x1 0)).bind fun r4=>
 gd (!(eqi (r3.1.length:Int) 0))
 (let x5:=(aB (aa .i64 (a2.2.1)) (r3.1.length:Int))
 let x6:=(bif decide (a2.2.2<1)then 1 else a2.2.2)
 (yhp N a0.1 (r4,(x5,x6))).bind fun r7=>
 bif (!(eqi r7.2 0))then
 (some (a0,(-1)))
 else
 (some ((r7.1,a0.2),(rdL a1 x1 0))))))))
def zdl(N:Nat)(rec:(List Int)->(List Int)->Int->Option Ty4_)(b0 b1:(List Int))(b2:Int):Option Ty4_:=
 bif (decide (b2<(b0.length:Int)))then
 (gd (inB b2 (b0.length))
 (gd (inB b2 (b1.length))
 (let x2:=(!(eqi (rdL b0 b2 0) (rdL b1 b2 0)))
 bif x2 then
 (some (.inl (false,())))
 else
 (rec b0 b1 (aa .i64 (b2+1))))))
 else
 (some (.inr ((),())))
def zpw(N:Nat)(n:Nat):=
 itF (fun _ _ _=>none) (zdl N) n
theorem yp7(N:Nat)(n:Nat):zpw N (n+1)=zdl N (zpw N n):=rfl
def zst(N:Nat)(a0 a1:(List Int)):Option (Bool):=
 let x1:=(!(eqi (a0.length:Int) (a1.length:Int)))
 bif x1 then
 (some false)
 else
 (match zpw N N a0 a1 0 with
 | some r3=>(match r3 with
 | .inl r4=>(some r4.1)
 | .inr r5=>(some true))
 | none=>none)
def ycm(N:Nat)(a0 a1:v8):Option (Bool):=
 (zst N a0.1 a1.1).bind fun r1=>
 bif r1 then
 ((zst N a0.2.1 a1.2.1).bind fun r2=>
 bif r2 then
 (some (eqi a0.2.2 a1.2.2))
 else
 (some false))
 else
 (some false)
def z0s(N:Nat)(b0:Bool):Option ((Bool×Unit)):=
 some (b0,())
def zt6(N:Nat)(b0:z3j)(b1:v8):Option ((Bool×Unit)):=
 (z83 N b1 b0.1 2).bind fun r5=>
 (z83 N r5.1 b0.1 2).bind fun r6=>
 (zgt N b0.1.1).bind fun r7=>
 (y39 N (r7,b0.1.2) b1.1 (1,(0,7))).bind fun r8=>
 (z83 N b1 r8.1 9).bind fun r9=>
 (z83 N b1 b0.1 (-1)).bind fun r10=>
 bif (eqi r5.1.2.2 2)then
 (bif (eqi (r5.1.1.length:Int) 1)then
 (bif (eqi r6.1.2.2 3)then
 ((znf N r6.1).bind fun r11=>
 bif r11 then
 (bif (eqi r9.1.2.2 2)then
 ((zst N r9.1.2.1 [r8.2]).bind fun r12=>
 bif r12 then
 (bif (eqi r10.2 280)then
 ((ycm N r10.1 b1).bind fun r13=>
 (z0s N r13).bind fun r14=>
 some (r14.1,()))
 else
 ((z0s N false).bind fun r15=>
 some (r15.1,())))
 else
 ((z0s N false).bind fun r16=>
 some (r16.1,())))
 else
 ((z0s N false).bind fun r17=>
 some (r17.1,())))
 else
 ((z0s N false).bind fun r18=>
 some (r18.1,())))
 else
 ((z0s N false).bind fun r19=>
 some (r19.1,())))
 else
 ((z0s N false).bind fun r20=>
 some (r20.1,())))
 else
 ((z0s N false).bind fun r21=>
 some (r21.1,()))
def zfs(N:Nat):Option (Bool):=
 (zy5 N).bind fun r1=>
 (ze5 N r1.1 r1.2.1).bind fun r2=>
 bif (!(eqi (r2.1.length:Int) 3))then
 (some false)
 else
 (let x3:=(decide (0<(r2.2.1.length:Int)))
 bif x3 then
 (some false)
 else
 (bif (!(eqi r2.2.2 0))then
 (some false)
 else
 ((znf N r2).bind fun r4=>
 bif r4 then
 (some false)
 else
 ((zt6 N r1 r2).bind fun r22=>
 some r22.1))))
def zox(N:Nat)(a0:Int):Option (Q4):=
 let x1:=(aB (aa .i64 (a0)) 4);let x2:=(aa .i64 (cP (aa .i64 (a0)) 4));let x3:=(aa .i64 (2+(aB x2 3)));let x4:=(aa .i64 (cP (aa .i64 (a0)) 16));let x5:=(aa .i64 (1+(aB x4 5)))
 some ((aa .i64 (2+x1)),(x3,x5))
def zdy(N:Nat)(a0:Int):Option ((List UInt8)):=
 let x1:=([[97,47],[98,47],[97,47,98,47],[99,47],[100,47]]:List (List UInt8))
 gd (inB (aB a0 5) (x1.length))
 (let x2:=(rdL x1 (aB a0 5) [])
 some x2)
def zr6(N:Nat)(a0:Int):Option ((List UInt8)):=
 match zdy N (aB a0 4)with
 | some r1=>(let x2:=([[1],[2,0,0],[2,0,1],[2,0,2],[3,120]]:List (List UInt8))
 let x3:=(aB (aa .u8 (cP a0 4)) 5)
 gd (inB x3 (x2.length))
 (gd (decide (r1.length+ak (rdL x2 x3 [])<maxS))
 (let x4:=(r1++(rdL x2 x3 []))
 some x4)))
 | none=>none
def zp3(N:Nat)(a0:Int):Option ((List UInt8)):=
 let x1:=([[],[120],[121,121],[49,50,51,52,53,54,55,56,57,48],[0,255]]:List (List UInt8))
 gd (inB (aB a0 5) (x1.length))
 (let x2:=(rdL x1 (aB a0 5) [])
 some x2)
def z34(N:Nat)(b0 b1 b2:(List UInt8))(b3:y9)(b4:Z0):Option ((Unit×(Z1×Unit))):=
 let x9:=(aa .i64 ((aB b3.2.2.2.2.2 8)))
 bif (eqi (aB b3.1 6) 0)then
 (match zp3 N b3.2.2.1 with
 | some r10=>(some ((),((1,(b0,(r10,(([],[]),([],([],x9)))))),())))
 | none=>none)
 else
 (bif (eqi (aB b3.1 6) 1)then
 (some ((),((2,(b0,([],(([],[]),([],([],0)))))),())))
 else
 (bif (eqi (aB b3.1 6) 2)then
 (some ((),((3,([],([],(b4,([],([],0)))))),())))
 else
 (bif (eqi (aB b3.1 6) 3)then
 (some ((),((4,([],([],(([],[]),(b1,(b2,0)))))),())))
 else
 (bif (eqi (aB b3.1 6) 4)then
 (some ((),((5,([],([],(([],[]),(b1,(b2,0)))))),())))
 else
 (some ((),((6,([],([],(b4,([],([],x9)))))),())))))))
def z35(N:Nat)(b0:(List UInt8))(b1:y9)(b2:Z0):Option ((Unit×(Z1×Unit))):=
 match zdy N b1.2.1 with
 | some r6=>(match zdy N b1.2.2.2.1 with
 | some r7=>(match z1n N r6 r7 with
 | some r8=>(bif r8 then
 (bif (eqs r6 [100,47])then
 (match z34 N b0 r6 [99,47] b1 b2 with
 | some r11=>(some ((),(r11.2.1,())))
 | none=>none)
 else
 (match z34 N b0 r6 [100,47] b1 b2 with
 | some r12=>(some ((),(r12.2.1,())))
 | none=>none))
 else
 (match z1n N r7 r6 with
 | some r13=>(bif r13 then
 (bif (eqs r6 [100,47])then
 (match z34 N b0 r6 [99,47] b1 b2 with
 | some r14=>(some ((),(r14.2.1,())))
 | none=>none)
 else
 (match z34 N b0 r6 [100,47] b1 b2 with
 | some r15=>(some ((),(r15.2.1,())))
 | none=>none))
 else
 (match z34 N b0 r6 r7 b1 b2 with
 | some r16=>(some ((),(r16.2.1,())))
 | none=>none))
 | none=>none))
 | none=>none)
 | none=>none)
 | none=>none
def zhi(N:Nat)(a0:y9):Option (Z1):=
 match zr6 N a0.2.1 with
 | some r1=>(match zr6 N a0.2.2.2.1 with
 | some r2=>(let x3:=(eqi (aB a0.2.2.2.2.1 4) 0)
 bif x3 then
 (match zdy N a0.2.1 with
 | some r4=>(match Q5 N r4 with
 | some r5=>(match z35 N r1 a0 r5 with
 | some r17=>(some r17.2.1)
 | none=>none)
 | none=>none)
 | none=>none)
 else
 (let x18:=(eqi (aB a0.2.2.2.2.1 16) 1)
 bif x18 then
 (match z35 N r1 a0 (r1,[])with
 | some r19=>(some r19.2.1)
 | none=>none)
 else
 (let x20:=(eqi (aB a0.2.2.2.2.1 16) 5)
 bif x20 then
 (match z35 N r1 a0 ([],[])with
 | some r21=>(some r21.2.1)
 | none=>none)
 else
 (bif (eqs r1 r2)then
 (match z8q N r1 with
 | some r22=>(match z35 N r1 a0 r22 with
 | some r23=>(some r23.2.1)
 | none=>none)
 | none=>none)
 else
 (match z35 N r1 a0 ((bif lts r1 r2 || eqs r1 r2 then r1 else r2),(bif !(lts r1 r2)then r1 else r2))with
 | some r24=>(some r24.2.1)
 | none=>none)))))
 | none=>none)
 | none=>none
def z0z(N:Nat)(rec:(List y9)->Int->Int->(List Z1)->Option ((Unit×((List Z1)×Unit))))(b0:(List y9))(b1 b2:Int)(b3:(List Z1)):Option ((Unit×((List Z1)×Unit))):=
 bif (decide (b2<(b0.length:Int)))then
 (bif (decide (b2<b1))then
 (gd (inB b2 (b0.length))
 (match zhi N (rdL b0 b2 y9d)with
 | some r1=>(gd (fits (b3.length+1) 112)
 (let x2:=(b3++[r1])
 rec b0 b1 (aa .i64 (b2+1)) x2))
 | none=>none))
 else
 (some ((),(b3,()))))
 else
 (some ((),(b3,())))
def zdf(N:Nat)(n:Nat):=
 itF (fun _ _ _ _=>none) (z0z N) n
theorem ykk(N:Nat)(n:Nat):zdf N (n+1)=z0z N (zdf N n):=rfl
def zl1(N:Nat)(a0:(List y9))(a1:Int):Option ((List Z1)):=
 match zdf N N a0 a1 0 []with
 | some r3=>(some r3.2.1)
 | none=>none
def znl(N:Nat)(a0:Int):Option ((List UInt8)):=
 let x1:=([[111,110,101],[116,119,111],[116,104,114,101,101],[120],[121],[122]]:List (List UInt8))
 gd (inB (aB a0 6) (x1.length))
 (let x2:=(rdL x1 (aB a0 6) [])
 some x2)
def z5f(N:Nat)(rec:(List UInt8)->Int->Z3->Option x3k)(b0:(List UInt8))(b1:Int)(b2:Z3):Option x3k:=
 bif (decide (b1<(b2.2.2.1.length:Int)))then
 (gd (inB b1 (b2.2.2.1.length))
 (let x2:=(eqs (((((rdL b2.2.2.1 b1 Y8).2).2).2).1) b0)
 bif x2 then
 (some (.inl ((),((b2,(0,160)),()))))
 else
 (rec b0 (aa .i64 (b1+1)) b2)))
 else
 (some (.inr ((b0,((),())),(b2,((),())))))
def zco(N:Nat)(n:Nat):=
 itF (fun _ _ _=>none) (z5f N) n
theorem zll(N:Nat)(n:Nat):zco N (n+1)=z5f N (zco N n):=rfl
def znk(N:Nat)(a0:Z3)(a1:(List UInt8)):Option (zjl):=
 (zbg N a1).bind fun r1=>
 bif (!r1)then
 (some (a0,(0,11)))
 else
 ((zco N N a1 0 a0).bind fun r3=>
 match r3 with
 | .inl r4=>(some r4.2.1)
 | .inr r5=>(let x6:=(decide (16<=(r5.2.1.2.2.1.length:Int)))
 bif x6 then
 (some (r5.2.1,(0,161)))
 else
 ((zbd N r5.2.1.1 r5.2.1.2.2.2.2.1).bind fun r7=>
 gd (fits (0+r5.2.1.2.2.1.length) 64)
 (let x8:=([]++r5.2.1.2.2.1)
 let x9:=([(r5.2.1.2.2.2.1,(r5.2.1.2.2.2.2.2.1,(r5.2.1.2.2.2.2.1,(r5.1.1,r5.2.1.2.2.2.2.2.2))))]:List V6)
 gd (fits (x8.length+x9.length) 64)
 (let x10:=(x8++x9)
 let x11:=(aa .i64 (r5.2.1.2.2.2.1+1))
 some ((r7.1,(r5.2.1.2.1,(x10,(x11,(r5.2.1.2.2.2.2.1,(r5.2.1.2.2.2.1,[])))))),(r5.2.1.2.2.2.1,0)))))))
def zw9(N:Nat)(a0:Z3)(a1:Int):Option (Int):=
 bif (eqi (a0.2.2.1.length:Int) 0)then
 (some 9)
 else
 (gd (!(eqi (a0.2.2.1.length:Int) 0))
 (let x1:=(aB (aa .i64 (a1)) (a0.2.2.1.length:Int))
 gd (inB x1 (a0.2.2.1.length))
 (some ((rdL a0.2.2.1 x1 Y8).1))))
def zkr(N:Nat)(a0:Z3)(a1:Int):Option ((Z3×Int)):=
 (zgw N a0 a1).bind fun r1=>
 bif (decide (r1<0))then
 (some (a0,160))
 else
 (gd (inB r1 (a0.2.2.1.length))
 ((zbd N a0.1 ((((rdL a0.2.2.1 r1 Y8).2).2).1)).bind fun r2=>
 (z4k N r2.1 a0.2.2.2.2.1).bind fun r3=>
 gd (inB r1 (a0.2.2.1.length))
 (some ((r3.1,(a0.2.1,(a0.2.2.1,(a0.2.2.2.1,((((rdL a0.2.2.1 r1 Y8).2).2).1,(a1,[])))))),0))))
def zaz(N:Nat)(a0:(List Z1))(a1:(List Z1)):Option ((List Z1)):=
 gd (fits (0+a0.length) 112)
 (let x1:=([]++a0)
 gd (fits (x1.length+a1.length) 112)
 (let x2:=(x1++a1)
 (zfp N x2).bind fun r3=>
 some r3))
def z2v(N:Nat)(rec:Int->Int->Int->Z3->V6->(List Z8)->Int->Int->Int->Int->Int->Int->(List Z1)->(List V6)->Option x3x)(b0 b1 b2:Int)(b3:Z3)(b4:V6)(b5:(List Z8))(b6 b7 b8 b9 b10 b11:Int)(b12:(List Z1))(b13:(List V6)):Option x3x:=
 bif (decide (b2<(b3.2.2.1.length:Int)))then
 (gd (inB b2 (b3.2.2.1.length))
 (let x3:=(eqi (((rdL b3.2.2.1 b2 Y8).2).1) b0)
 bif x3 then
 ((zaz N b4.2.2.2.2 (((((rdL b3.2.2.1 b2 Y8).2).2).2).2)).bind fun r4=>
 bif (!(eqi b2 b1))then
 (let x5:=([((rdL b3.2.2.1 b2 Y8).1,(b4.2.1,((((rdL b3.2.2.1 b2 Y8).2).2).1,(((((rdL b3.2.2.1 b2 Y8).2).2).2).1,r4))))]:List V6)
 gd (fits (b13.length+x5.length) 64)
 (let x6:=(b13++x5)
 rec b0 b1 (aa .i64 (b2+1)) b3 b4 b5 b6 b7 b8 b9 b10 b11 b12 x6))
 else
 (rec b0 b1 (aa .i64 (b2+1)) b3 b4 b5 b6 b7 b8 b9 b10 b11 b12 b13))
 else
 (bif (!(eqi b2 b1))then
 (let x7:=([(rdL b3.2.2.1 b2 Y8)]:List V6)
 gd (fits (b13.length+x7.length) 64)
 (let x8:=(b13++x7)
 rec b0 b1 (aa .i64 (b2+1)) b3 b4 b5 b6 b7 b8 b9 b10 b11 b12 x8))
 else
 (rec b0 b1 (aa .i64 (b2+1)) b3 b4 b5 b6 b7 b8 b9 b10 b11 b12 b13))))
 else
 (some ((b0,((),((),((),())))),(b3,((),(b4,((b5,(b6,(b7,(b8,((),(b9,(b10,(b11,b12)))))))),(b13,())))))))
def z9k(N:Nat)(n:Nat):=
 itF (fun _ _ _ _ _ _ _ _ _ _ _ _ _ _=>none) (z2v N) n
theorem zgx(N:Nat)(n:Nat):z9k N (n+1)=z2v N (z9k N n):=rfl
def zkq(N:Nat)(a0:Z3)(a1:Int):Option ((Z3×Int)):=
 (zgw N a0 a1).bind fun r1=>
 bif (decide (r1<0))then
 (some (a0,160))
 else
 (gd (inB r1 (a0.2.2.1.length))
 ((z4k N a0.1 ((((rdL a0.2.2.1 r1 Y8).2).2).1)).bind fun r2=>
 (z9k N N a1 r1 0 a0 (rdL a0.2.2.1 r1 Y8) r2.1 a0.2.1.1 a0.2.1.2.1 a0.2.1.2.2 a0.2.2.2.1 a0.2.2.2.2.1 a0.2.2.2.2.2.1 a0.2.2.2.2.2.2 []).bind fun r9=>
 bif (eqi r9.2.1.2.2.2.2.2.1 r9.1.1)then
 ((zaz N r9.2.2.2.1.2.2.2.2 r9.2.1.2.2.2.2.2.2).bind fun r10=>
 some ((r9.2.2.2.2.1.1,((r9.2.2.2.2.1.2.1,(r9.2.2.2.2.1.2.2.1,r9.2.2.2.2.1.2.2.2.1)),(r9.2.2.2.2.2.1,(r9.2.2.2.2.1.2.2.2.2.2.1,(r9.2.2.2.2.1.2.2.2.2.2.2.1,(r9.2.2.2.1.2.1,r10)))))),0))
 else
 (some ((r9.2.2.2.2.1.1,((r9.2.2.2.2.1.2.1,(r9.2.2.2.2.1.2.2.1,r9.2.2.2.2.1.2.2.2.1)),(r9.2.2.2.2.2.1,r9.2.2.2.2.1.2.2.2.2.2))),0))))
def z2u(N:Nat)(b0:Int)(b1:Bool)(b2:Z3)(b3:K6):Option ((Unit×(Z3×Unit))⊕((Unit×(Unit×Unit))×(Z3×(K6×(Unit×Unit))))):=
 bif b1 then
 ((zl1 N b3.2.2 6).bind fun r1=>
 (zr3 N b2 r1).bind fun r2=>
 some (.inl ((),(r2.1,()))))
 else
 (bif (eqi b0 4)then
 ((znl N b3.2.1).bind fun r3=>
 (znk N b2 r3).bind fun r4=>
 some (.inl ((),(r4.1,()))))
 else
 (bif (eqi b0 5)then
 ((znl N b3.2.1).bind fun r5=>
 (znk N b2 r5).bind fun r6=>
 some (.inl ((),(r6.1,()))))
 else
 (bif (eqi b0 6)then
 ((zw9 N b2 b3.2.1).bind fun r7=>
 (zkr N b2 r7).bind fun r8=>
 some (.inl ((),(r8.1,()))))
 else
 (some (.inr (((),((),())),(b2,(b3,((),())))))))))
def z4u(N:Nat)(b0:Z3)(b1:K6):Option ((Unit×(Z3×Unit))):=
 (zw9 N b0 b1.2.1).bind fun r12=>
 (zkq N b0 r12).bind fun r13=>
 some ((),(r13.1,()))
def znj(N:Nat)(a0:Z3)(a1:K6):Option (Z3):=
 bif (eqi (aB a1.1 8) 0)then
 ((z2u N (aB a1.1 8) true a0 a1).bind fun r9=>
 match r9 with
 | .inl r10=>(some r10.2.1)
 | .inr r11=>((z4u N r11.2.1 r11.2.2.1).bind fun r14=>
 some r14.2.1))
 else
 (bif (eqi (aB a1.1 8) 1)then
 ((z2u N (aB a1.1 8) true a0 a1).bind fun r15=>
 match r15 with
 | .inl r16=>(some r16.2.1)
 | .inr r17=>((z4u N r17.2.1 r17.2.2.1).bind fun r18=>
 some r18.2.1))
 else
 (bif (eqi (aB a1.1 8) 2)then
 ((z2u N (aB a1.1 8) true a0 a1).bind fun r19=>
 match r19 with
 | .inl r20=>(some r20.2.1)
 | .inr r21=>((z4u N r21.2.1 r21.2.2.1).bind fun r22=>
 some r22.2.1))
 else
 ((z2u N (aB a1.1 8) (eqi (aB a1.1 8) 3) a0 a1).bind fun r23=>
 match r23 with
 | .inl r24=>(some r24.2.1)
 | .inr r25=>((z4u N r25.2.1 r25.2.2.1).bind fun r26=>
 some r26.2.1))))
def z8s(N:Nat)(rec:(List K6)->Int->Z3->Option (((Unit×Unit)×(Unit×(Z3×Unit)))))(b0:(List K6))(b1:Int)(b2:Z3):Option (((Unit×Unit)×(Unit×(Z3×Unit)))):=
 bif (decide (b1<(b0.length:Int)))then
 (bif (decide (b1<7))then
 (gd (inB b1 (b0.length))
 ((znj N b2 (rdL b0 b1 z98)).bind fun r3=>
 rec b0 (aa .i64 (b1+1)) r3))
 else
 (some (((),()),((),(b2,())))))
 else
 (some (((),()),((),(b2,()))))
def zgu(N:Nat)(n:Nat):=
 itF (fun _ _ _=>none) (z8s N) n
theorem y03(N:Nat)(n:Nat):zgu N (n+1)=z8s N (zgu N n):=rfl
def zsn(N:Nat)(a0:Int)(a1:(List K6)):Option (Z3):=
 (zox N a0).bind fun r1=>
 (zr2 N r1).bind fun r2=>
 (zgu N N a1 0 r2.1).bind fun r4=>
 some r4.2.2.1
def zsm(N:Nat)(a0:ztj):Option (W0):=
 bif (eqi (aB a0.1 8) 7)then
 (let x1:=(aa .i64 (30+(aa .i64 (a0.2.1))))
 bif (eqi (aB a0.1 8) 6)then
 (let x2:=(aB (aa .i64 (a0.2.1)) 24)
 (zej N x1 (aa .i64 (4+x2))).bind fun r3=>
 some r3.1)
 else
 ((zej N x1 60).bind fun r4=>
 some r4.1))
 else
 (bif (eqi (aB a0.1 8) 6)then
 (let x5:=(aB (aa .i64 (a0.2.1)) 24)
 (zej N 1500 (aa .i64 (4+x5))).bind fun r6=>
 some r6.1)
 else
 ((zej N 1500 60).bind fun r7=>
 some r7.1))
def zsl(N:Nat)(a0:zed):Option (z3j):=
 (zsn N a0.1 a0.2.1).bind fun r1=>
 (zsm N a0.2.2).bind fun r2=>
 let x3:=(aa .i64 ((aB a0.2.2.2.2 4)))
 (zwy N r2 x3 r1).bind fun r4=>
 bif (!(eqi r4.2 0))then
 (some (((0,([],[])),(([],([],0)),(0,(0,(0,([],([],[]))))))),(r1,r4.2)))
 else
 ((zgt N r4.1.1).bind fun r5=>
 some ((r5,r4.1.2),(r1,0)))
def znq(N:Nat)(a0:Z4)(a1:Int):Option (Int):=
 let x1:=(decide ((a0.2.2.2.2.2.1.length:Int)<=a1))
 bif x1 then
 (some (-1))
 else
 (gd (inB a1 (a0.2.2.2.2.2.1.length))
 (some (rdL a0.2.2.2.2.2.1 a1 0)))
def z3t(N:Nat)(rec:(List Z7)->Int->Option Ty4_)(b0:(List Z7))(b1:Int):Option Ty4_:=
 bif (decide (b1<(b0.length:Int)))then
 (gd (inB (aa .i64 (b1-1)) (b0.length))
 (let x1:=(rdL b0 (aa .i64 (b1-1)) X6)
 gd (inB b1 (b0.length))
 (bif (!(lts x1.1 ((rdL b0 b1 X6).1)))then
 (some (.inl (false,())))
 else
 (rec b0 (aa .i64 (b1+1))))))
 else
 (some (.inr ((),())))
def z8e(N:Nat)(n:Nat):=
 itF (fun _ _=>none) (z3t N) n
theorem zc3(N:Nat)(n:Nat):z8e N (n+1)=z3t N (z8e N n):=rfl
def zov(N:Nat)(a0:(List Z7)):Option (Bool):=
 match z8e N N a0 1 with
 | some r2=>(match r2 with
 | .inl r3=>(some r3.1)
 | .inr r4=>(some true))
 | none=>none
def zhw(N:Nat)(a0:Z7):Option (Bool):=
 let x1:=(decide (1<=(a0.1.length:Int)))
 bif x1 then
 (let x2:=(decide ((a0.1.length:Int)<=65535))
 bif x2 then
 (let x3:=(decide ((a0.2.1.length:Int)<=64))
 bif x3 then
 (bif (decide (0<=a0.2.2))then
 (some (decide (a0.2.2<=1000000000)))
 else
 (some false))
 else
 (some false))
 else
 (some false))
 else
 (some false)
def zvt(N:Nat)(a0:Z0)(a1:(List UInt8)):Option (Bool):=
 bif (!(lts a1 a0.1))then
 (bif (eqs a0.2 [])then
 (some true)
 else
 (some (lts a1 a0.2)))
 else
 (some false)
def zhz(N:Nat)(a0:Z7)(a1 a2:(List UInt8)):Option (Bool):=
 match zhw N a0 with
 | some r1=>(bif (!r1)then
 (some true)
 else
 (match zvt N (a1,a2) a0.1 with
 | some r2=>(some (!r2))
 | none=>none))
 | none=>none
def X9(N:Nat)(rec:(List Z7)->(List UInt8)->(List UInt8)->Int->Int->Option ((Int×Unit)⊕(Unit×Unit)))(b0:(List Z7))(b1 b2:(List UInt8))(b3 b4:Int):Option ((Int×Unit)⊕(Unit×Unit)):=
 bif (decide (b4<b3))then
 (gd (inB b4 (b0.length))
 (match zhz N (rdL b0 b4 X6) b1 b2 with
 | some r1=>(bif r1 then
 (some (.inl (b4,())))
 else
 (rec b0 b1 b2 b3 (aa .i64 (b4+1))))
 | none=>none))
 else
 (some (.inr ((),())))
def U5(N:Nat)(n:Nat):=
 itF (fun _ _ _ _ _=>none) (X9 N) n
theorem G5(N:Nat)(n:Nat):U5 N (n+1)=X9 N (U5 N n):=rfl
def J2(N:Nat)(a0:(List Z7))(a1 a2:(List UInt8)):Option (Int):=
 match U5 N N a0 a1 a2 (a0.length:Int) 0 with
 | some r2=>(match r2 with
 | .inl r3=>(some r3.1)
 | .inr r4=>(some (-1)))
 | none=>none
def U6(N:Nat)(a0:(List Z7))(a1 a2:(List UInt8)):Option (Bool):=
 match J2 N a0 a1 a2 with
 | some r1=>(some (decide (0<=r1)))
 | none=>none
def z27(N:Nat)(rec:Int->Int->(List z00)->Option Ty4_)(b0 b1:Int)(b2:(List z00)):Option Ty4_:=
 bif (decide (b1<b0))then
 (gd (inB b1 (b2.length))
 (let x2:=(decide (((rdL b2 b1 zb4).1)<0))
 bif x2 then
 (some (.inl (false,())))
 else
 (let x3:=(decide ((rdL b2 b1 zb4).2<(rdL b2 b1 zb4).1))
 bif x3 then
 (some (.inl (false,())))
 else
 (let x4:=(decide (1000000000000000<(rdL b2 b1 zb4).2))
 bif x4 then
 (some (.inl (false,())))
 else
 (rec b0 (aa .i64 (b1+1)) b2)))))
 else
 (some (.inr ((),())))
def zbl(N:Nat)(n:Nat):=
 itF (fun _ _ _=>none) (z27 N) n
theorem zg1(N:Nat)(n:Nat):zbl N (n+1)=z27 N (zbl N n):=rfl
def zhv(N:Nat)(a0:X0):Option (Bool):=
 let x1:=(ak [a0.1,a0.2]:Int)
 match zbl N N x1 0 [a0.1,a0.2]with
 | some r5=>(match r5 with
 | .inl r6=>(some r6.1)
 | .inr r7=>(some true))
 | none=>none
def zkj(N:Nat)(a0:Z1):Option (Z1⊕Z1⊕Z1⊕Z1⊕Z1⊕Z1⊕Unit):=
 bif (eqi a0.1 1)then
 (some (.inl a0))
 else
 (bif (eqi a0.1 2)then
 (some (.inr (.inl a0)))
 else
 (bif (eqi a0.1 3)then
 (some (.inr (.inr (.inl a0))))
 else
 (bif (eqi a0.1 4)then
 (some (.inr (.inr (.inr (.inl a0)))))
 else
 (bif (eqi a0.1 5)then
 (some (.inr (.inr (.inr (.inr (.inl a0))))))
 else
 (bif (eqi a0.1 6)then
 (some (.inr (.inr (.inr (.inr (.inr (.inl a0)))))))
 else
 (some (.inr (.inr (.inr (.inr (.inr (.inr ()))))))))))))
def zu7(N:Nat)(a0 a1 a2:Int):Option (Bool):=
 bif (decide (a1<=a0))then
 (some (decide (a0<=a2)))
 else
 (some false)
def zq1(N:Nat)(a0:Z1):Option (Bool):=
 match zu7 N (a0.2.1.length:Int) 1 65535 with
 | some r1=>(bif r1 then
 (let x2:=(decide ((a0.2.2.1.length:Int)<=64))
 bif x2 then
 (match zu7 N a0.2.2.2.2.2.2 0 1000000000 with
 | some r3=>(some r3)
 | none=>none)
 else
 (some false))
 else
 (some false))
 | none=>none
def zrv(N:Nat)(a0:Z1):Option (Z1):=
 some (a0.1,(a0.2.1,(a0.2.2.1,(([],[]),([],([],a0.2.2.2.2.2.2))))))
def zq5(N:Nat)(a0:Z1):Option (Bool):=
 match zu7 N (a0.2.1.length:Int) 1 65535 with
 | some r1=>(some r1)
 | none=>none
def zrw(N:Nat)(a0:Z1):Option (Z1):=
 some (a0.1,(a0.2.1,([],(([],[]),([],([],0))))))
def znb(N:Nat)(a0:Z0):Option (Bool):=
 bif (!(eqs a0.2 []))then
 (some (lts a0.2 a0.1 || eqs a0.2 a0.1))
 else
 (some false)
def zwe(N:Nat)(a0:Z0):Option (Bool):=
 match znb N a0 with
 | some r1=>(bif (!r1)then
 (let x2:=(bif decide ((a0.1.length:Int)<(a0.2.length:Int))then(a0.2.length:Int)else(a0.1.length:Int))
 some (decide (x2<=65535)))
 else
 (some false))
 | none=>none
def zmm(N:Nat)(a0:Z1):Option (Bool):=
 match zwe N a0.2.2.2.1 with
 | some r1=>(some r1)
 | none=>none
def zq4(N:Nat)(a0:Z1):Option (Z1):=
 some (a0.1,([],([],(a0.2.2.2.1,([],([],0))))))
def z6a(N:Nat)(a0 a1:(List UInt8)):Option (Bool):=
 let x1:=(decide ((a1.length:Int)<=(a0.length:Int)))
 bif x1 then
 (gd (decide (0<=(0:Int))&&(decide (0<=(a1.length:Int))&&decide ((a1.length:Int)<=(a0.length:Int))))
 (let x2:=(eqs (cut2 a0 0 (a1.length:Int)) a1)
 some x2))
 else
 (some false)
def za0(N:Nat)(a0 a1:(List UInt8)):Option (Bool):=
 match z6a N a0 a1 with
 | some r1=>(some r1)
 | none=>none
def zr9(N:Nat)(a0 a1:(List UInt8)):Option (Bool):=
 match zu7 N (a0.length:Int) 1 200 with
 | some r1=>(bif r1 then
 (match zu7 N (a1.length:Int) 1 200 with
 | some r2=>(bif r2 then
 (match za0 N a0 a1 with
 | some r3=>(bif (!r3)then
 (match za0 N a1 a0 with
 | some r4=>(some (!r4))
 | none=>none)
 else
 (some false))
 | none=>none)
 else
 (some false))
 | none=>none)
 else
 (some false))
 | none=>none
def zmk(N:Nat)(a0:Z1):Option (Bool):=
 match zr9 N a0.2.2.2.2.1 a0.2.2.2.2.2.1 with
 | some r1=>(some r1)
 | none=>none
def zq3(N:Nat)(a0:Z1):Option (Z1):=
 some (a0.1,([],([],(([],[]),(a0.2.2.2.2.1,(a0.2.2.2.2.2.1,0))))))
def zjf(N:Nat)(a0:Z1):Option (Bool):=
 match zr9 N a0.2.2.2.2.1 a0.2.2.2.2.2.1 with
 | some r1=>(some r1)
 | none=>none
def zmp(N:Nat)(a0:Z1):Option (Z1):=
 some (a0.1,([],([],(([],[]),(a0.2.2.2.2.1,(a0.2.2.2.2.2.1,0))))))
def zj9(N:Nat)(a0:Z1):Option (Bool):=
 match zwe N a0.2.2.2.1 with
 | some r1=>(bif r1 then
 (match zu7 N a0.2.2.2.2.2.2 0 1000000000 with
 | some r2=>(some r2)
 | none=>none)
 else
 (some false))
 | none=>none
def zmi(N:Nat)(a0:Z1):Option (Z1):=
 some (a0.1,([],([],(a0.2.2.2.1,([],([],a0.2.2.2.2.2.2))))))
def zra(N:Nat)(a0:Z1):Option (Bool):=
 match zkj N a0 with
 | some r1=>(match r1 with
 | .inl r2=>(match zq1 N r2 with
 | some r4=>(bif r4 then
 (match zrv N r2 with
 | some r5=>(let x6:=(eqi r5.1 a0.1&&(eqs r5.2.1 a0.2.1&&(eqs r5.2.2.1 a0.2.2.1&&(eqs r5.2.2.2.1.1 a0.2.2.2.1.1&&(eqs r5.2.2.2.1.2 a0.2.2.2.1.2&&(eqs r5.2.2.2.2.1 a0.2.2.2.2.1&&(eqs r5.2.2.2.2.2.1 a0.2.2.2.2.2.1&&(eqi r5.2.2.2.2.2.2 a0.2.2.2.2.2.2&&true))))))))
 some x6)
 | none=>none)
 else
 (some false))
 | none=>none)
 | .inr r3=>(match r3 with
 | .inl r7=>(match zq5 N r7 with
 | some r9=>(bif r9 then
 (match zrw N r7 with
 | some r10=>(let x11:=(eqi r10.1 a0.1&&(eqs r10.2.1 a0.2.1&&(eqs r10.2.2.1 a0.2.2.1&&(eqs r10.2.2.2.1.1 a0.2.2.2.1.1&&(eqs r10.2.2.2.1.2 a0.2.2.2.1.2&&(eqs r10.2.2.2.2.1 a0.2.2.2.2.1&&(eqs r10.2.2.2.2.2.1 a0.2.2.2.2.2.1&&(eqi r10.2.2.2.2.2.2 a0.2.2.2.2.2.2&&true))))))))
 some x11)
 | none=>none)
 else
 (some false))
 | none=>none)
 | .inr r8=>(match r8 with
 | .inl r12=>(match zmm N r12 with
 | some r14=>(bif r14 then
 (match zq4 N r12 with
 | some r15=>(let x16:=(eqi r15.1 a0.1&&(eqs r15.2.1 a0.2.1&&(eqs r15.2.2.1 a0.2.2.1&&(eqs r15.2.2.2.1.1 a0.2.2.2.1.1&&(eqs r15.2.2.2.1.2 a0.2.2.2.1.2&&(eqs r15.2.2.2.2.1 a0.2.2.2.2.1&&(eqs r15.2.2.2.2.2.1 a0.2.2.2.2.2.1&&(eqi r15.2.2.2.2.2.2 a0.2.2.2.2.2.2&&true))))))))
 some x16)
 | none=>none)
 else
 (some false))
 | none=>none)
 | .inr r13=>(match r13 with
 | .inl r17=>(match zmk N r17 with
 | some r19=>(bif r19 then
 (match zq3 N r17 with
 | some r20=>(let x21:=(eqi r20.1 a0.1&&(eqs r20.2.1 a0.2.1&&(eqs r20.2.2.1 a0.2.2.1&&(eqs r20.2.2.2.1.1 a0.2.2.2.1.1&&(eqs r20.2.2.2.1.2 a0.2.2.2.1.2&&(eqs r20.2.2.2.2.1 a0.2.2.2.2.1&&(eqs r20.2.2.2.2.2.1 a0.2.2.2.2.2.1&&(eqi r20.2.2.2.2.2.2 a0.2.2.2.2.2.2&&true))))))))
 some x21)
 | none=>none)
 else
 (some false))
 | none=>none)
 | .inr r18=>(match r18 with
 | .inl r22=>(match zjf N r22 with
 | some r24=>(bif r24 then
 (match zmp N r22 with
 | some r25=>(let x26:=(eqi r25.1 a0.1&&(eqs r25.2.1 a0.2.1&&(eqs r25.2.2.1 a0.2.2.1&&(eqs r25.2.2.2.1.1 a0.2.2.2.1.1&&(eqs r25.2.2.2.1.2 a0.2.2.2.1.2&&(eqs r25.2.2.2.2.1 a0.2.2.2.2.1&&(eqs r25.2.2.2.2.2.1 a0.2.2.2.2.2.1&&(eqi r25.2.2.2.2.2.2 a0.2.2.2.2.2.2&&true))))))))
 some x26)
 | none=>none)
 else
 (some false))
 | none=>none)
 | .inr r23=>(match r23 with
 | .inl r27=>(match zj9 N r27 with
 | some r29=>(bif r29 then
 (match zmi N r27 with
 | some r30=>(let x31:=(eqi r30.1 a0.1&&(eqs r30.2.1 a0.2.1&&(eqs r30.2.2.1 a0.2.2.1&&(eqs r30.2.2.2.1.1 a0.2.2.2.1.1&&(eqs r30.2.2.2.1.2 a0.2.2.2.1.2&&(eqs r30.2.2.2.2.1 a0.2.2.2.2.1&&(eqs r30.2.2.2.2.2.1 a0.2.2.2.2.2.1&&(eqi r30.2.2.2.2.2.2 a0.2.2.2.2.2.2&&true))))))))
 some x31)
 | none=>none)
 else
 (some false))
 | none=>none)
 | .inr r28=>(some false)))))))
 | none=>none
def zq2(N:Nat)(a0:Z1):Option ((List Z0)):=
 some []
def zq6(N:Nat)(a0:Z1):Option ((List Z0)):=
 some []
def zmn(N:Nat)(a0:Z1):Option ((List Z0)):=
 some []
def z7u(N:Nat)(rec:(List UInt8)->(List Int)->Option ((((List UInt8)×(Unit×Unit))×(Unit×((List Int)×Unit)))))(b0:(List UInt8))(b1:(List Int)):Option ((((List UInt8)×(Unit×Unit))×(Unit×((List Int)×Unit)))):=
 let x1:=(decide (0<(b1.length:Int)))
 bif x1 then
 (let x2:=(aa .i64 ((b1.length:Int)-1))
 gd (inB x2 (b1.length))
 (bif (eqi (rdL b1 x2 0) 255)then
 (let x3:=(aa .i64 ((b1.length:Int)-1))
 gd (decide (0<=x3)&&decide (x3<=(b1.length:Int)))
 (rec b0 (List.take (cc x3) b1)))
 else
 (some ((b0,((),())),((),(b1,()))))))
 else
 (some ((b0,((),())),((),(b1,()))))
def zet(N:Nat)(n:Nat):=
 itF (fun _ _=>none) (z7u N) n
theorem zjn(N:Nat)(n:Nat):zet N (n+1)=z7u N (zet N n):=rfl
def z91(N:Nat)(a0:(List UInt8)):Option (Z0):=
 gd (decide (a0.length<maxB))
 (match zet N N a0 (U2 a0)with
 | some r4=>(let x5:=(decide (0<(r4.2.2.1.length:Int)))
 bif x5 then
 (let x6:=(aa .i64 ((r4.2.2.1.length:Int)-1))
 gd (inB x6 (r4.2.2.1.length))
 (let x7:=(aa .u8 ((rdL r4.2.2.1 x6 0)+1))
 gd (inB x6 (r4.2.2.1.length))
 (some (r4.1.1,(z2j (setL r4.2.2.1 x6 x7))))))
 else
 (some (r4.1.1,(z2j r4.2.2.1))))
 | none=>none)
def zml(N:Nat)(a0:Z1):Option ((List Z0)):=
 match z91 N a0.2.2.2.2.1 with
 | some r1=>(some [r1])
 | none=>none
def zjg(N:Nat)(a0:Z1):Option ((List Z0)):=
 match z91 N a0.2.2.2.2.1 with
 | some r1=>(some [r1])
 | none=>none
def zja(N:Nat)(a0:Z1):Option ((List Z0)):=
 some [a0.2.2.2.1]
def zx7(N:Nat)(a0:Z1):Option ((List Z0)):=
 match zkj N a0 with
 | some r1=>(match r1 with
 | .inl r2=>(match zq2 N r2 with
 | some r4=>(some r4)
 | none=>none)
 | .inr r3=>(match r3 with
 | .inl r5=>(match zq6 N r5 with
 | some r7=>(some r7)
 | none=>none)
 | .inr r6=>(match r6 with
 | .inl r8=>(match zmn N r8 with
 | some r10=>(some r10)
 | none=>none)
 | .inr r9=>(match r9 with
 | .inl r11=>(match zml N r11 with
 | some r13=>(some r13)
 | none=>none)
 | .inr r12=>(match r12 with
 | .inl r14=>(match zjg N r14 with
 | some r16=>(some r16)
 | none=>none)
 | .inr r15=>(match r15 with
 | .inl r17=>(match zja N r17 with
 | some r19=>(some r19)
 | none=>none)
 | .inr r18=>(some [])))))))
 | none=>none
def z8v(N:Nat)(a0:(List UInt8)):Option (Bool):=
 some (!(eqs a0 a0))
def zaf(N:Nat)(a0 a1:(List UInt8)):Option (Int):=
 match z8v N a0 with
 | some r1=>(match z8v N a1 with
 | some r2=>(bif r1 then
 (bif r2 then
 (some 0)
 else
 (some (-1)))
 else
 (bif r2 then
 (some 1)
 else
 (bif (lts a0 a1)then
 (some (-1))
 else
 (bif (!(lts a0 a1 || eqs a0 a1))then
 (some 1)
 else
 (some 0)))))
 | none=>none)
 | none=>none
def zb6(N:Nat)(a0 a1:(List UInt8)):Option (Int):=
 bif (eqs a0 a1)then
 (some 0)
 else
 (bif (eqs a0 [])then
 (some 1)
 else
 (bif (eqs a1 [])then
 (some (-1))
 else
 (match zaf N a0 a1 with
 | some r1=>(some r1)
 | none=>none)))
def zow(N:Nat)(a0 a1:Z0):Option (Bool):=
 match znb N a1 with
 | some r1=>(bif r1 then
 (some true)
 else
 (match zvt N a0 a1.1 with
 | some r2=>(bif r2 then
 (match zb6 N a0.2 a1.2 with
 | some r3=>(some (decide (0<=r3)))
 | none=>none)
 else
 (some false))
 | none=>none))
 | none=>none
def zhy(N:Nat)(a0:Z0)(a1 a2:(List UInt8)):Option (Bool):=
 match zow N (a1,a2) a0 with
 | some r1=>(some (!r1))
 | none=>none
def X8(N:Nat)(rec:(List Z0)->(List UInt8)->(List UInt8)->Int->Int->Option ((Int×Unit)⊕(Unit×Unit)))(b0:(List Z0))(b1 b2:(List UInt8))(b3 b4:Int):Option ((Int×Unit)⊕(Unit×Unit)):=
 bif (decide (b4<b3))then
 (gd (inB b4 (b0.length))
 (match zhy N (rdL b0 b4 Y7) b1 b2 with
 | some r1=>(bif r1 then
 (some (.inl (b4,())))
 else
 (rec b0 b1 b2 b3 (aa .i64 (b4+1))))
 | none=>none))
 else
 (some (.inr ((),())))
def U4(N:Nat)(n:Nat):=
 itF (fun _ _ _ _ _=>none) (X8 N) n
theorem G4(N:Nat)(n:Nat):U4 N (n+1)=X8 N (U4 N n):=rfl
def J1(N:Nat)(a0:(List Z0))(a1 a2:(List UInt8)):Option (Int):=
 match U4 N N a0 a1 a2 (a0.length:Int) 0 with
 | some r2=>(match r2 with
 | .inl r3=>(some r3.1)
 | .inr r4=>(some (-1)))
 | none=>none
def V0(N:Nat)(a0:(List Z0))(a1 a2:(List UInt8)):Option (Bool):=
 match J1 N a0 a1 a2 with
 | some r1=>(some (decide (0<=r1)))
 | none=>none
def zvs(N:Nat)(a0:(List UInt8)):Option (Z0):=
 gd (decide (a0.length+ak [0]<maxS))
 (let x1:=(a0++[0])
 some (a0,x1))
def zmj(N:Nat)(a0:Z1):Option ((List Z0)):=
 match zvs N a0.2.1 with
 | some r1=>(some [r1])
 | none=>none
def zmo(N:Nat)(a0:Z1):Option ((List Z0)):=
 match zvs N a0.2.1 with
 | some r1=>(some [r1])
 | none=>none
def zjd(N:Nat)(a0:Z1):Option ((List Z0)):=
 some [a0.2.2.2.1]
def zjc(N:Nat)(a0:Z1):Option ((List Z0)):=
 match z91 N a0.2.2.2.2.1 with
 | some r1=>(match z91 N a0.2.2.2.2.2.1 with
 | some r2=>(some [r1,r2])
 | none=>none)
 | none=>none
def zga(N:Nat)(a0:Z1):Option ((List Z0)):=
 match z91 N a0.2.2.2.2.2.1 with
 | some r1=>(some [r1])
 | none=>none
def zg9(N:Nat)(a0:Z1):Option ((List Z0)):=
 some [a0.2.2.2.1]
def zt3(N:Nat)(a0:Z1):Option ((List Z0)):=
 match zkj N a0 with
 | some r1=>(match r1 with
 | .inl r2=>(match zmj N r2 with
 | some r4=>(some r4)
 | none=>none)
 | .inr r3=>(match r3 with
 | .inl r5=>(match zmo N r5 with
 | some r7=>(some r7)
 | none=>none)
 | .inr r6=>(match r6 with
 | .inl r8=>(match zjd N r8 with
 | some r10=>(some r10)
 | none=>none)
 | .inr r9=>(match r9 with
 | .inl r11=>(match zjc N r11 with
 | some r13=>(some r13)
 | none=>none)
 | .inr r12=>(match r12 with
 | .inl r14=>(match zga N r14 with
 | some r16=>(some r16)
 | none=>none)
 | .inr r15=>(match r15 with
 | .inl r17=>(match zg9 N r17 with
 | some r19=>(some r19)
 | none=>none)
 | .inr r18=>(some [])))))))
 | none=>none
def z0o(N:Nat)(a0:Z1)(a1 a2:(List UInt8)):Option (Bool):=
 match zra N a0 with
 | some r1=>(bif (!r1)then
 (some true)
 else
 (match zx7 N a0 with
 | some r2=>(match V0 N r2 a1 a2 with
 | some r3=>(bif r3 then
 (some true)
 else
 (match zt3 N a0 with
 | some r4=>(match V0 N r4 a1 a2 with
 | some r5=>(some r5)
 | none=>none)
 | none=>none))
 | none=>none)
 | none=>none))
 | none=>none
def X2(N:Nat)(rec:(List Z1)->(List UInt8)->(List UInt8)->Int->Int->Option ((Int×Unit)⊕(Unit×Unit)))(b0:(List Z1))(b1 b2:(List UInt8))(b3 b4:Int):Option ((Int×Unit)⊕(Unit×Unit)):=
 bif (decide (b4<b3))then
 (gd (inB b4 (b0.length))
 (match z0o N (rdL b0 b4 K3) b1 b2 with
 | some r1=>(bif r1 then
 (some (.inl (b4,())))
 else
 (rec b0 b1 b2 b3 (aa .i64 (b4+1))))
 | none=>none))
 else
 (some (.inr ((),())))
def W6(N:Nat)(n:Nat):=
 itF (fun _ _ _ _ _=>none) (X2 N) n
theorem K5(N:Nat)(n:Nat):W6 N (n+1)=X2 N (W6 N n):=rfl
def Q0(N:Nat)(a0:(List Z1))(a1 a2:(List UInt8)):Option (Int):=
 match W6 N N a0 a1 a2 (a0.length:Int) 0 with
 | some r2=>(match r2 with
 | .inl r3=>(some r3.1)
 | .inr r4=>(some (-1)))
 | none=>none
def W7(N:Nat)(a0:(List Z1))(a1 a2:(List UInt8)):Option (Bool):=
 match Q0 N a0 a1 a2 with
 | some r1=>(some (decide (0<=r1)))
 | none=>none
def z60(N:Nat)(rec:(List Int)->Int->Int->Z6->Z0->Option yl2)(b0:(List Int))(b1 b2:Int)(b3:Z6)(b4:Z0):Option yl2:=
 bif (decide (b2<b1))then
 (gd (inB b2 (b0.length))
 (bif (decide ((rdL b0 b2 0)<0))then
 (some (.inl (false,())))
 else
 (let x12:=(decide (4096<=(rdL b0 b2 0)))
 bif x12 then
 (some (.inl (false,())))
 else
 (gd (inB b2 (b3.2.2.2.1.length))
 (match zhv N (rdL b3.2.2.2.1 b2 z0u)with
 | some r13=>(bif (!r13)then
 (some (.inl (false,())))
 else
 (rec b0 b1 (aa .i64 (b2+1)) b3 b4))
 | none=>none)))))
 else
 (some (.inr (((),()),(b3,(b4,())))))
def zcv(N:Nat)(n:Nat):=
 itF (fun _ _ _ _ _=>none) (z60 N) n
theorem zm3(N:Nat)(n:Nat):zcv N (n+1)=z60 N (zcv N n):=rfl
def z61(N:Nat)(rec:(List UInt8)->(List (List UInt8))->Int->Int->Z6->Z0->Option yl2)(b0:(List UInt8))(b1:(List (List UInt8)))(b2 b3:Int)(b4:Z6)(b5:Z0):Option yl2:=
 bif (decide (b3<b2))then
 (gd (inB b3 (b1.length))
 (let x8:=(lts (rdL b1 b3 []) b0 || eqs (rdL b1 b3 []) b0)
 bif x8 then
 (some (.inl (false,())))
 else
 (bif (!(eqs b5.2 []))then
 (bif (!(lts (rdL b1 b3 []) b5.2))then
 (some (.inl (false,())))
 else
 (rec (rdL b1 b3 []) b1 b2 (aa .i64 (b3+1)) b4 b5))
 else
 (rec (rdL b1 b3 []) b1 b2 (aa .i64 (b3+1)) b4 b5))))
 else
 (some (.inr (((),()),(b4,(b5,())))))
def zhx(N:Nat)(n:Nat):=
 itF (fun _ _ _ _ _ _=>none) (z61 N) n
theorem zm4(N:Nat)(n:Nat):zhx N (n+1)=z61 N (zhx N n):=rfl
def zpz(N:Nat)(b0:Z6)(b1:Z0):Option ((Bool×Unit)):=
 match zhx N N b1.1 b0.2.1 (b0.2.1.length:Int) 0 b0 b1 with
 | some r9=>(match r9 with
 | .inl r10=>(some (r10.1,()))
 | .inr r11=>(match zcv N N r11.2.1.2.2.1 (r11.2.1.2.2.1.length:Int) 0 r11.2.1 r11.2.2.1 with
 | some r14=>(match r14 with
 | .inl r15=>(some (r15.1,()))
 | .inr r16=>(match W7 N r16.2.1.2.2.2.2 r16.2.2.1.1 r16.2.2.1.2 with
 | some r17=>(some ((!r17),()))
 | none=>none))
 | none=>none))
 | none=>none
def zt2(N:Nat)(a0:Z6)(a1:Z0):Option (Bool):=
 bif (eqi (a0.2.2.1.length:Int) 0)then
 (let x1:=(aa .i64 ((a0.2.1.length:Int)+(a0.2.2.2.1.length:Int)))
 let x2:=(aa .i64 (x1+(a0.2.2.2.2.length:Int)))
 bif (eqi x2 0)then
 (match zov N a0.1 with
 | some r3=>(bif r3 then
 (match U6 N a0.1 a1.1 a1.2 with
 | some r4=>(some (!r4))
 | none=>none)
 else
 (some false))
 | none=>none)
 else
 (some false))
 else
 (let x5:=(decide (0<(a0.1.length:Int)))
 bif x5 then
 (some false)
 else
 (let x6:=(!(eqi (a0.2.2.2.1.length:Int) (a0.2.2.1.length:Int)))
 bif x6 then
 (some false)
 else
 (let x7:=(aa .i64 ((a0.2.2.1.length:Int)-1))
 bif (!(eqi (a0.2.1.length:Int) x7))then
 (some false)
 else
 (match zpz N a0 a1 with
 | some r18=>(some r18.1)
 | none=>none))))
def z29(N:Nat)(rec:Int->Int->(List Int)->Option ((Unit×((List Int)×Unit))))(b0 b1:Int)(b2:(List Int)):Option ((Unit×((List Int)×Unit))):=
 bif (decide (0<=b1))then
 (gd (decide (0<=(aa .i64 (8*b1))))
 (let x1:=(cT b0 (2^min (cc (aa .i64 (8*b1))) (aM .i64)))
 gd (fits (b2.length+1) 1)
 (let x2:=(b2++[(aa .u8 (x1))])
 rec b0 (aa .i64 (b1-1)) x2)))
 else
 (some ((),(b2,())))
def zbm(N:Nat)(n:Nat):=
 itF (fun _ _ _=>none) (z29 N) n
theorem zg2(N:Nat)(n:Nat):zbm N (n+1)=z29 N (zbm N n):=rfl
def z0b(N:Nat)(a0 a1:Int)(a2:(List Int)):Option ((Unit×((List Int)×Unit))):=
 match zbm N N a0 (aa .i64 (a1-1)) a2 with
 | some r3=>(some ((),(r3.2.1,())))
 | none=>none
def zec(N:Nat)(a0:(List UInt8))(a1:(List Int)):Option ((Unit×((List Int)×Unit))):=
 match z0b N (a0.length:Int) 2 a1 with
 | some r1=>(gd (fits (r1.2.1.length+ak (U2 a0)) 1)
 (let x2:=(r1.2.1++(U2 a0))
 some ((),(x2,()))))
 | none=>none
def g8(N:Nat)(rec:Int->Int->(List Int)->Option (Ty3_))(b0 b1:Int)(b2:(List Int)):Option (Ty3_):=
 bif (decide (0<=b1))then
 (gd (decide (0<=(aa .i64 (8*b1))))
 (let x1:=(cT b0 (2^min (cc (aa .i64 (8*b1))) (aM .i64)))
 gd (fits (b2.length+1) 1)
 (let x2:=(b2++[(aa .u8 (x1))])
 rec b0 (aa .i64 (b1-1)) x2)))
 else
 (some ((),((),(b2,()))))
def z4p(N:Nat)(n:Nat):=
 itF (fun _ _ _=>none) (g8 N) n
theorem z9u(N:Nat)(n:Nat):z4p N (n+1)=g8 N (z4p N n):=rfl
def z1k(N:Nat)(a0 a1:Int)(a2:(List Int)):Option (Ty3_):=
 match z4p N N a0 (aa .i64 (a1-1)) a2 with
 | some r3=>(some ((),((),(r3.2.2.1,()))))
 | none=>none
def w9(N:Nat)(a0:(List UInt8))(a1:(List Int)):Option (Ty3_):=
 match z1k N (a0.length:Int) 2 a1 with
 | some r1=>(gd (fits (r1.2.2.1.length+ak (U2 a0)) 1)
 (let x2:=(r1.2.2.1++(U2 a0))
 some ((),((),(x2,())))))
 | none=>none
def zjb(N:Nat)(a0:Z1)(a1:(List Int)):Option (Ty3_):=
 match w9 N a0.2.1 a1 with
 | some r1=>(match w9 N a0.2.2.1 r1.2.2.1 with
 | some r2=>(match z1k N a0.2.2.2.2.2.2 4 r2.2.2.1 with
 | some r3=>(some ((),((),(r3.2.2.1,()))))
 | none=>none)
 | none=>none)
 | none=>none
def zje(N:Nat)(a0:Z1)(a1:(List Int)):Option (Ty3_):=
 match w9 N a0.2.1 a1 with
 | some r1=>(some ((),((),(r1.2.2.1,()))))
 | none=>none
def z8b(N:Nat)(a0:Z1)(a1:(List Int)):Option (Ty3_):=
 match w9 N a0.2.2.2.1.1 a1 with
 | some r1=>(match w9 N a0.2.2.2.1.2 r1.2.2.1 with
 | some r2=>(some ((),((),(r2.2.2.1,()))))
 | none=>none)
 | none=>none
def z8a(N:Nat)(a0:Z1)(a1:(List Int)):Option (Ty3_):=
 match w9 N a0.2.2.2.2.1 a1 with
 | some r1=>(match w9 N a0.2.2.2.2.2.1 r1.2.2.1 with
 | some r2=>(some ((),((),(r2.2.2.1,()))))
 | none=>none)
 | none=>none
def zes(N:Nat)(a0:Z1)(a1:(List Int)):Option (Ty3_):=
 match z8a N a0 a1 with
 | some r1=>(some ((),((),(r1.2.2.1,()))))
 | none=>none
def zer(N:Nat)(a0:Z1)(a1:(List Int)):Option (Ty3_):=
 match z8b N a0 a1 with
 | some r1=>(match z1k N a0.2.2.2.2.2.2 4 r1.2.2.1 with
 | some r2=>(some ((),((),(r2.2.2.1,()))))
 | none=>none)
 | none=>none
def zrb(N:Nat)(a0:Z1):Option ((List Int)):=
 match zra N a0 with
 | some r1=>(bif (!r1)then
 (some [])
 else
 (match zkj N a0 with
 | some r2=>(match r2 with
 | .inl r3=>(match zjb N r3 [(aa .u8 (a0.1))]with
 | some r5=>(some r5.2.2.1)
 | none=>none)
 | .inr r4=>(match r4 with
 | .inl r6=>(match zje N r6 [(aa .u8 (a0.1))]with
 | some r8=>(some r8.2.2.1)
 | none=>none)
 | .inr r7=>(match r7 with
 | .inl r9=>(match z8b N r9 [(aa .u8 (a0.1))]with
 | some r11=>(some r11.2.2.1)
 | none=>none)
 | .inr r10=>(match r10 with
 | .inl r12=>(match z8a N r12 [(aa .u8 (a0.1))]with
 | some r14=>(some r14.2.2.1)
 | none=>none)
 | .inr r13=>(match r13 with
 | .inl r15=>(match zes N r15 [(aa .u8 (a0.1))]with
 | some r17=>(some r17.2.2.1)
 | none=>none)
 | .inr r16=>(match r16 with
 | .inl r18=>(match zer N r18 [(aa .u8 (a0.1))]with
 | some r20=>(some r20.2.2.1)
 | none=>none)
 | .inr r19=>(none)))))))
 | none=>none))
 | none=>none
def z63(N:Nat)(rec:(List X0)->Int->Int->Int->Int->Z6->(List Int)->(List Int)->Option (((Unit×(Unit×((List X0)×(Int×Int))))×yvr)))(b0:(List X0))(b1 b2 b3 b4:Int)(b5:Z6)(b6 b7:(List Int)):Option (((Unit×(Unit×((List X0)×(Int×Int))))×yvr)):=
 bif (decide (b4<b3))then
 (gd (inB b4 (b7.length))
 (match z0b N (rdL b7 b4 0) 8 b6 with
 | some r13=>(rec b0 b1 b2 b3 (aa .i64 (b4+1)) b5 r13.2.1 b7)
 | none=>none))
 else
 (some (((),((),(b0,(b1,b2)))),(b5,(b6,()))))
def zi1(N:Nat)(n:Nat):=
 itF (fun _ _ _ _ _ _ _ _=>none) (z63 N) n
theorem zm6(N:Nat)(n:Nat):zi1 N (n+1)=z63 N (zi1 N n):=rfl
def z64(N:Nat)(rec:(List Z1)->Int->Int->(List Int)->Option ((Unit×((List Int)×Unit))))(b0:(List Z1))(b1 b2:Int)(b3:(List Int)):Option ((Unit×((List Int)×Unit))):=
 bif (decide (b2<b1))then
 (gd (inB b2 (b0.length))
 (match zrb N (rdL b0 b2 K3)with
 | some r18=>(gd (fits (b3.length+r18.length) 1)
 (let x19:=(b3++r18)
 rec b0 b1 (aa .i64 (b2+1)) x19))
 | none=>none))
 else
 (some ((),(b3,())))
def zcw(N:Nat)(n:Nat):=
 itF (fun _ _ _ _=>none) (z64 N) n
theorem zm7(N:Nat)(n:Nat):zcw N (n+1)=z64 N (zcw N n):=rfl
def z65(N:Nat)(rec:(List X0)->Int->Int->Z6->(List Int)->Option Ty6_)(b0:(List X0))(b1 b2:Int)(b3:Z6)(b4:(List Int)):Option Ty6_:=
 bif (decide (b2<b1))then
 (gd (inB b2 (b0.length))
 (let x12:=([((rdL b0 b2 z0u).1).1,((rdL b0 b2 z0u).1).2,((rdL b0 b2 z0u).2).1,((rdL b0 b2 z0u).2).2]:List Int)
 match zi1 N N b0 b1 b2 (x12.length:Int) 0 b3 b4 x12 with
 | some r14=>(let x15:=(aa .i64 (r14.1.2.2.2.2+1))
 rec r14.1.2.2.1 r14.1.2.2.2.1 x15 r14.2.1 r14.2.2.1)
 | none=>none))
 else
 (some (((),()),(b3,(b4,()))))
def zi2(N:Nat)(n:Nat):=
 itF (fun _ _ _ _ _=>none) (z65 N) n
theorem zm8(N:Nat)(n:Nat):zi2 N (n+1)=z65 N (zi2 N n):=rfl
def z66(N:Nat)(rec:(List Z7)->Int->Int->(List Int)->Option ((Unit×((List Int)×Unit))))(b0:(List Z7))(b1 b2:Int)(b3:(List Int)):Option ((Unit×((List Int)×Unit))):=
 bif (decide (b2<b1))then
 (gd (inB b2 (b0.length))
 (match zec N ((rdL b0 b2 X6).1) b3 with
 | some r3=>(match zec N (((rdL b0 b2 X6).2).1) r3.2.1 with
 | some r4=>(match z0b N (((rdL b0 b2 X6).2).2) 4 r4.2.1 with
 | some r5=>(rec b0 b1 (aa .i64 (b2+1)) r5.2.1)
 | none=>none)
 | none=>none)
 | none=>none))
 else
 (some ((),(b3,())))
def zi3(N:Nat)(n:Nat):=
 itF (fun _ _ _ _=>none) (z66 N) n
theorem zm9(N:Nat)(n:Nat):zi3 N (n+1)=z66 N (zi3 N n):=rfl
def z67(N:Nat)(rec:(List (List UInt8))->Int->Int->Z6->(List Int)->Option Ty6_)(b0:(List (List UInt8)))(b1 b2:Int)(b3:Z6)(b4:(List Int)):Option Ty6_:=
 bif (decide (b2<b1))then
 (gd (inB b2 (b0.length))
 (match zec N (rdL b0 b2 []) b4 with
 | some r10=>(rec b0 b1 (aa .i64 (b2+1)) b3 r10.2.1)
 | none=>none))
 else
 (some (((),()),(b3,(b4,()))))
def zi4(N:Nat)(n:Nat):=
 itF (fun _ _ _ _ _=>none) (z67 N) n
theorem zma(N:Nat)(n:Nat):zi4 N (n+1)=z67 N (zi4 N n):=rfl
def z68(N:Nat)(rec:(List Int)->Int->Int->Z6->(List Int)->Option Ty6_)(b0:(List Int))(b1 b2:Int)(b3:Z6)(b4:(List Int)):Option Ty6_:=
 bif (decide (b2<b1))then
 (gd (inB b2 (b0.length))
 (match z0b N (rdL b0 b2 0) 4 b4 with
 | some r8=>(rec b0 b1 (aa .i64 (b2+1)) b3 r8.2.1)
 | none=>none))
 else
 (some (((),()),(b3,(b4,()))))
def zi5(N:Nat)(n:Nat):=
 itF (fun _ _ _ _ _=>none) (z68 N) n
theorem zmb(N:Nat)(n:Nat):zi5 N (n+1)=z68 N (zi5 N n):=rfl
def znt(N:Nat)(a0:Z6):Option ((List Int)):=
 match zt2 N a0 ([],[])with
 | some r1=>(bif (!r1)then
 (some [])
 else
 (bif (eqi (a0.2.2.1.length:Int) 0)then
 (match z0b N (a0.1.length:Int) 4 [76]with
 | some r2=>(match zi3 N N a0.1 (a0.1.length:Int) 0 r2.2.1 with
 | some r6=>(some r6.2.1)
 | none=>none)
 | none=>none)
 else
 (match z0b N (a0.2.2.1.length:Int) 4 [78]with
 | some r7=>(match zi5 N N a0.2.2.1 (a0.2.2.1.length:Int) 0 a0 r7.2.1 with
 | some r9=>(match zi4 N N r9.2.1.2.1 (r9.2.1.2.1.length:Int) 0 r9.2.1 r9.2.2.1 with
 | some r11=>(match zi2 N N r11.2.1.2.2.2.1 (r11.2.1.2.2.2.1.length:Int) 0 r11.2.1 r11.2.2.1 with
 | some r16=>(match z0b N (r16.2.1.2.2.2.2.length:Int) 4 r16.2.2.1 with
 | some r17=>(match zcw N N r16.2.1.2.2.2.2 (r16.2.1.2.2.2.2.length:Int) 0 r17.2.1 with
 | some r20=>(some r20.2.1)
 | none=>none)
 | none=>none)
 | none=>none)
 | none=>none)
 | none=>none)
 | none=>none)))
 | none=>none
def zpj(N:Nat)(a0 a1:(List Int)):Option (Bool):=
 some (eqs (z2j a0) (z2j a1))
def zqe(N:Nat)(a0:Bool):Option (Bool):=
 some (!a0)
def J7(N:Nat)(rec:Int->(List Bool)->Int->Int->Option ((Int×Unit)))(b0:Int)(b1:(List Bool))(b2 b3:Int):Option ((Int×Unit)):=
 bif (decide (b3<b2))then
 (gd (inB b3 (b1.length))
 ((zqe N (rdL b1 b3 false)).bind fun r1=>
 bif r1 then
 (rec (aa .i64 (b0+1)) b1 b2 (aa .i64 (b3+1)))
 else
 (rec b0 b1 b2 (aa .i64 (b3+1)))))
 else
 (some (b0,()))
def z0i(N:Nat)(n:Nat):=
 itF (fun _ _ _ _=>none) (J7 N) n
theorem z50(N:Nat)(n:Nat):z0i N (n+1)=J7 N (z0i N n):=rfl
def z55(N:Nat)(a0:X3):Option (Int):=
 (z0i N N 0 a0.1 (a0.1.length:Int) 0).bind fun r2=>
 some r2.1
def y11(N:Nat)(a0:X3):Option (Int):=
 (z55 N a0).bind fun r1=>
 some r1
def y12(N:Nat)(a0:X3):Option (Int):=
 (y11 N a0).bind fun r1=>
 some (aa .i64 (r1-a0.2.2))
def J8(N:Nat)(rec:(List Bool)->Bool->Int->Int->Option ((Int×Unit)⊕(Unit×Unit)))(b0:(List Bool))(b1:Bool)(b2 b3:Int):Option ((Int×Unit)⊕(Unit×Unit)):=
 bif (decide (b3<b2))then
 (gd (inB b3 (b0.length))
 (bif (eqb b1 (rdL b0 b3 false))then
 (some (.inl (b3,())))
 else
 (rec b0 b1 b2 (aa .i64 (b3+1)))))
 else
 (some (.inr ((),())))
def j7(N:Nat)(n:Nat):=
 itF (fun _ _ _ _=>none) (J8 N) n
theorem z6o(N:Nat)(n:Nat):j7 N (n+1)=J8 N (j7 N n):=rfl
def z7k(N:Nat)(a0:(List Bool))(a1:Bool):Option (Int):=
 (j7 N N a0 a1 (a0.length:Int) 0).bind fun r1=>
 match r1 with
 | .inl r2=>(some r2.1)
 | .inr r3=>(some (-1))
def z69(N:Nat)(rec:Bool->(List Int)->Int->Int->X3->(List Bool)->Option yvx)(b0:Bool)(b1:(List Int))(b2 b3:Int)(b4:X3)(b5:(List Bool)):Option yvx:=
 bif (decide (b3<b2))then
 (gd (inB b3 (b1.length))
 (gd (inB (rdL b1 b3 0) (b5.length))
 (rec b0 b1 b2 (aa .i64 (b3+1)) b4 (setL b5 (rdL b1 b3 0) b0))))
 else
 (some (((),((),())),(b4,((),(b5,())))))
def zib(N:Nat)(n:Nat):=
 itF (fun _ _ _ _ _ _=>none) (z69 N) n
theorem zmc(N:Nat)(n:Nat):zib N (n+1)=z69 N (zib N n):=rfl
def zo2(N:Nat)(a0:X3)(a1:(List Int))(a2:Bool):Option (X3):=
 gd ((decide (0<=(a0.1.length:Int))&&decide ((a0.1.length:Int)<=(a0.1.length:Int)))&&(decide ((a0.1.length:Int)<maxB)&&decide ((a0.1.length:Int)*1<maxB)))
 (let x1:=(az (cc (a0.1.length:Int)) false)
 (zib N N a2 a1 (a1.length:Int) 0 a0 (zxe x1 a0.1)).bind fun r2=>
 some (r2.2.2.2.1,r2.2.1.2))
def zo3(N:Nat)(a0:X3):Option ((X3×(Int×Int))):=
 (y12 N a0).bind fun r1=>
 bif (decide (r1<1))then
 (some (a0,(0,250)))
 else
 ((z7k N a0.1 false).bind fun r2=>
 (zo2 N a0 [r2] true).bind fun r3=>
 some (r3,(r2,0)))
def zc1(N:Nat)(a0:Bool):Option ((Unit×Unit)⊕(Unit×Unit)):=
 bif (!a0)then
 (some (.inl ((),())))
 else
 (some (.inr ((),())))
def zvm(N:Nat)(a0:List Int):Option (List Int):=
 gd (fits (a0.length) 1) (some a0)
def z0r(N:Nat)(a0:List Y5):Option (List Y5):=
 gd (fits (a0.length) 40) (some a0)
def znx(N:Nat)(a0:W0)(a1:Y5):Option (W0):=
 (z0r N a0.2.2).bind fun r1=>
 gd (fits (r1.length+1) 40)
 (let x2:=(r1++[a1])
 some (a0.1,(a0.2.1,x2)))
def zrj(N:Nat)(a0:W0)(a1:Int)(a2:(List Int)):Option ((W0×Int)):=
 (zwk N a0 a1).bind fun r1=>
 bif (!r1)then
 (some (a0,230))
 else
 (bif (decide (a0.1<(a2.length:Int)))then
 (some (a0,230))
 else
 ((zvm N a2).bind fun r2=>
 (znx N a0 (false,(a1,r2))).bind fun r3=>
 some (r3,0)))
def z7r(N:Nat)(a0:(List Int))(a1:Int)(a2:(List (List Int)))(a3:(List Y5))(a4:(List Bool))(a5:(List Int))(a6 a7 a8 a9:Int)(a10 a11 a12:(List Int)):Option ((Unit×(Ty0_×((List Int)×Ty8_)))⊕(Int×(Ty0_×((List Int)×Ty8_)))):=
 (zo3 N (a4,(a5,a6))).bind fun r1=>
 (zc1 N (eqi r1.2.2 0)).bind fun r2=>
 match r2 with
 | .inl r3=>(some (.inl ((),((a1,(a2,(a3,(a4,(a5,(a6,(a7,(a8,(a9,((),((),()))))))))))),(a10,(a11,(a12,())))))))
 | .inr r4=>((zrj N (a1,(a2,a3)) r1.2.1 a0).bind fun r5=>
 (zc1 N (eqi r5.2 0)).bind fun r6=>
 match r6 with
 | .inl r7=>(some (.inl ((),((a1,(a2,(a3,(a4,(a5,(a6,(a7,(a8,(a9,((),((),()))))))))))),(a10,(a11,(a12,())))))))
 | .inr r8=>(some (.inr (r1.2.1,((r5.1.1,(r5.1.2.1,(r5.1.2.2,(r1.1.1,(r1.1.2.1,(r1.1.2.2,(a7,(a8,(a9,((),((),()))))))))))),(a10,(a11,(a12,()))))))))
def zbi(N:Nat)(b0 b1 b2:Int)(b3:(List (List Int)))(b4:(List Y5))(b5:(List Bool))(b6:(List Int))(b7 b8 b9 b10:Int)(b11 b12 b13:(List Int))(b14:Z4)(b15:Z8):Option x3e:=
 bif b15.2.1 then
 (gd (inB b0 (b14.2.2.2.2.2.2.1.length))
 (some (.inl ((b1,(rdL b14.2.2.2.2.2.2.1 b0 0)),((b2,(b3,(b4,(b5,(b6,(b7,(b8,(b9,(b10,((),((),()))))))))))),(b11,(b12,(b13,()))))))))
 else
 ((znt N b15.2.2.2).bind fun r2=>
 bif (decide (0<=b1))then
 ((zwl N b14.1 b1).bind fun r3=>
 (zpj N r3.1 r2).bind fun r4=>
 bif r4 then
 ((z82 N r2).bind fun r5=>
 some (.inl ((b1,r5),((b2,(b3,(b4,(b5,(b6,(b7,(b8,(b9,(b10,((),((),()))))))))))),(b11,(b12,(b13,())))))))
 else
 ((z7r N r2 b2 b3 b4 b5 b6 b7 b8 b9 b10 b11 b12 b13).bind fun r6=>
 match r6 with
 | .inl r7=>(some (.inr ((),((r7.2.1.1,(r7.2.1.2.1,(r7.2.1.2.2.1,(r7.2.1.2.2.2.1,(r7.2.1.2.2.2.2.1,(r7.2.1.2.2.2.2.2.1,(r7.2.1.2.2.2.2.2.2.1,(r7.2.1.2.2.2.2.2.2.2.1,(r7.2.1.2.2.2.2.2.2.2.2.1,((),((),()))))))))))),(r7.2.2.1,(r7.2.2.2.1,(r7.2.2.2.2.1,())))))))
 | .inr r8=>((z82 N r2).bind fun r9=>
 some (.inl ((r8.1,r9),((r8.2.1.1,(r8.2.1.2.1,(r8.2.1.2.2.1,(r8.2.1.2.2.2.1,(r8.2.1.2.2.2.2.1,(r8.2.1.2.2.2.2.2.1,(r8.2.1.2.2.2.2.2.2.1,(r8.2.1.2.2.2.2.2.2.2.1,(r8.2.1.2.2.2.2.2.2.2.2.1,((),((),()))))))))))),(r8.2.2.1,(r8.2.2.2.1,(r8.2.2.2.2.1,())))))))))
 else
 ((z7r N r2 b2 b3 b4 b5 b6 b7 b8 b9 b10 b11 b12 b13).bind fun r10=>
 match r10 with
 | .inl r11=>(some (.inr ((),((r11.2.1.1,(r11.2.1.2.1,(r11.2.1.2.2.1,(r11.2.1.2.2.2.1,(r11.2.1.2.2.2.2.1,(r11.2.1.2.2.2.2.2.1,(r11.2.1.2.2.2.2.2.2.1,(r11.2.1.2.2.2.2.2.2.2.1,(r11.2.1.2.2.2.2.2.2.2.2.1,((),((),()))))))))))),(r11.2.2.1,(r11.2.2.2.1,(r11.2.2.2.2.1,())))))))
 | .inr r12=>((z82 N r2).bind fun r13=>
 some (.inl ((r12.1,r13),((r12.2.1.1,(r12.2.1.2.1,(r12.2.1.2.2.1,(r12.2.1.2.2.2.1,(r12.2.1.2.2.2.2.1,(r12.2.1.2.2.2.2.2.1,(r12.2.1.2.2.2.2.2.2.1,(r12.2.1.2.2.2.2.2.2.2.1,(r12.2.1.2.2.2.2.2.2.2.2.1,((),((),()))))))))))),(r12.2.2.1,(r12.2.2.2.1,(r12.2.2.2.2.1,())))))))))
def z7s(N:Nat)(a0:Z4)(a1:Int)(a2:Z8)(a3:Int)(a4:(List (List Int)))(a5:(List Y5))(a6:(List Bool))(a7:(List Int))(a8 a9 a10 a11:Int)(a12 a13 a14:(List Int)):Option x3e:=
 (znq N a0 a1).bind fun r1=>
 bif (!a2.1)then
 (some (.inl (((-1),0),((a3,(a4,(a5,(a6,(a7,(a8,(a9,(a10,(a11,((),((),()))))))))))),(a12,(a13,(a14,())))))))
 else
 (bif a2.2.1 then
 (bif (decide (r1<0))then
 (some (.inl (((-1),0),((a3,(a4,(a5,(a6,(a7,(a8,(a9,(a10,(a11,((),((),()))))))))))),(a12,(a13,(a14,())))))))
 else
 ((zbi N a1 r1 a3 a4 a5 a6 a7 a8 a9 a10 a11 a12 a13 a14 a0 a2).bind fun r14=>
 match r14 with
 | .inl r15=>(some (.inl ((r15.1.1,r15.1.2),((r15.2.1.1,(r15.2.1.2.1,(r15.2.1.2.2.1,(r15.2.1.2.2.2.1,(r15.2.1.2.2.2.2.1,(r15.2.1.2.2.2.2.2.1,(r15.2.1.2.2.2.2.2.2.1,(r15.2.1.2.2.2.2.2.2.2.1,(r15.2.1.2.2.2.2.2.2.2.2.1,((),((),()))))))))))),(r15.2.2.1,(r15.2.2.2.1,(r15.2.2.2.2.1,())))))))
 | .inr r16=>(some (.inr ((),((r16.2.1.1,(r16.2.1.2.1,(r16.2.1.2.2.1,(r16.2.1.2.2.2.1,(r16.2.1.2.2.2.2.1,(r16.2.1.2.2.2.2.2.1,(r16.2.1.2.2.2.2.2.2.1,(r16.2.1.2.2.2.2.2.2.2.1,(r16.2.1.2.2.2.2.2.2.2.2.1,((),((),()))))))))))),(r16.2.2.1,(r16.2.2.2.1,(r16.2.2.2.2.1,())))))))))
 else
 ((zbi N a1 r1 a3 a4 a5 a6 a7 a8 a9 a10 a11 a12 a13 a14 a0 a2).bind fun r17=>
 match r17 with
 | .inl r18=>(some (.inl ((r18.1.1,r18.1.2),((r18.2.1.1,(r18.2.1.2.1,(r18.2.1.2.2.1,(r18.2.1.2.2.2.1,(r18.2.1.2.2.2.2.1,(r18.2.1.2.2.2.2.2.1,(r18.2.1.2.2.2.2.2.2.1,(r18.2.1.2.2.2.2.2.2.2.1,(r18.2.1.2.2.2.2.2.2.2.2.1,((),((),()))))))))))),(r18.2.2.1,(r18.2.2.2.1,(r18.2.2.2.2.1,())))))))
 | .inr r19=>(some (.inr ((),((r19.2.1.1,(r19.2.1.2.1,(r19.2.1.2.2.1,(r19.2.1.2.2.2.1,(r19.2.1.2.2.2.2.1,(r19.2.1.2.2.2.2.2.1,(r19.2.1.2.2.2.2.2.2.1,(r19.2.1.2.2.2.2.2.2.2.1,(r19.2.1.2.2.2.2.2.2.2.2.1,((),((),()))))))))))),(r19.2.2.1,(r19.2.2.2.1,(r19.2.2.2.2.1,())))))))))
def v7(N:Nat)(rec:Int->Int->(List Int)->Option (Ty3_))(b0 b1:Int)(b2:(List Int)):Option (Ty3_):=
 bif (decide (0<=b1))then
 (gd (decide (0<=(aa .i64 (8*b1))))
 (let x1:=(cT b0 (2^min (cc (aa .i64 (8*b1))) (aM .u64)))
 gd (fits (b2.length+1) 1)
 (let x2:=(b2++[(aa .u8 (x1))])
 rec b0 (aa .i64 (b1-1)) x2)))
 else
 (some ((),((),(b2,()))))
def z2n(N:Nat)(n:Nat):=
 itF (fun _ _ _=>none) (v7 N) n
theorem z8l(N:Nat)(n:Nat):z2n N (n+1)=v7 N (z2n N n):=rfl
def K7(N:Nat)(a0 a1:Int)(a2:(List Int)):Option (Ty3_):=
 (z2n N N a0 (aa .i64 (a1-1)) a2).bind fun r3=>
 some ((),((),(r3.2.2.1,())))
def z7(N:Nat)(rec:Int->Int->Int->(List Int)->(List Int)->Option ((Unit×(Unit×Ty8_))))(b0 b1 b2:Int)(b3 b4:(List Int)):Option ((Unit×(Unit×Ty8_))):=
 bif (decide (b2<b1))then
 (gd (inB b2 (b4.length))
 ((K7 N (aa .u64 ((rdL b4 b2 0))) b0 b3).bind fun r1=>
 rec b0 b1 (aa .i64 (b2+1)) r1.2.2.1 b4))
 else
 (some ((),((),(b3,(b4,())))))
def z1w(N:Nat)(n:Nat):=
 itF (fun _ _ _ _ _=>none) (z7 N) n
theorem z80(N:Nat)(n:Nat):z1w N (n+1)=z7 N (z1w N n):=rfl
def Y2(N:Nat)(a0:Int)(a1 a2:(List Int)):Option ((Unit×(Unit×Ty8_))):=
 (z1w N N a0 (a2.length:Int) 0 a1 a2).bind fun r2=>
 some ((),((),(r2.2.2.1,(r2.2.2.2.1,()))))
def j8(N:Nat)(rec:(List Z1)->Int->Int->(List Int)->Option (Ty3_))(b0:(List Z1))(b1 b2:Int)(b3:(List Int)):Option (Ty3_):=
 bif (decide (b2<b1))then
 (gd (inB b2 (b0.length))
 ((zrb N (rdL b0 b2 K3)).bind fun r2=>
 gd (fits (b3.length+r2.length) 1)
 (let x3:=(b3++r2)
 rec b0 b1 (aa .i64 (b2+1)) x3)))
 else
 (some ((),((),(b3,()))))
def z4o(N:Nat)(n:Nat):=
 itF (fun _ _ _ _=>none) (j8 N) n
theorem z9t(N:Nat)(n:Nat):z4o N (n+1)=j8 N (z4o N n):=rfl
def z4g(N:Nat)(a0:(List Z1))(a1:(List Int)):Option (Ty3_):=
 (Y2 N 4 a1 [(a0.length:Int)]).bind fun r1=>
 (z4o N N a0 (a0.length:Int) 0 r1.2.2.1).bind fun r4=>
 some ((),((),(r4.2.2.1,())))
def z25(N:Nat)(rec:(List Int)->(List Int)->(List Z8)->Int->Int->(List Int)->Option (Ty3_))(b0 b1:(List Int))(b2:(List Z8))(b3 b4:Int)(b5:(List Int)):Option (Ty3_):=
 bif (decide (b4<b3))then
 (gd (inB b4 (b2.length))
 (bif (!((rdL b2 b4 X1).1))then
 ((Y2 N 1 b5 [0]).bind fun r17=>
 rec b0 b1 b2 b3 (aa .i64 (b4+1)) r17.2.2.1)
 else
 (bif ((rdL b2 b4 X1).2).1 then
 ((Y2 N 1 b5 [2]).bind fun r18=>
 let x19:=([(((rdL b2 b4 X1).2).2).1]:List Int)
 (Y2 N 4 r18.2.2.1 x19).bind fun r20=>
 gd (inB b4 (b0.length))
 (let x21:=(aa .i64 (((BitVec.ofInt (aM .i64) (rdL b0 b4 0)&&&BitVec.ofInt (aM .i64) 65535).toNat:Int)))
 (Y2 N 2 r20.2.2.1 [x21]).bind fun r22=>
 gd (inB b4 (b1.length))
 ((K7 N (rdL b1 b4 0) 8 r22.2.2.1).bind fun r23=>
 rec b0 b1 b2 b3 (aa .i64 (b4+1)) r23.2.2.1)))
 else
 ((Y2 N 1 b5 [1]).bind fun r24=>
 let x25:=([(((rdL b2 b4 X1).2).2).1]:List Int)
 (Y2 N 4 r24.2.2.1 x25).bind fun r26=>
 gd (inB b4 (b0.length))
 (let x27:=(aa .i64 (((BitVec.ofInt (aM .i64) (rdL b0 b4 0)&&&BitVec.ofInt (aM .i64) 65535).toNat:Int)))
 (Y2 N 2 r26.2.2.1 [x27]).bind fun r28=>
 gd (inB b4 (b1.length))
 ((K7 N (rdL b1 b4 0) 8 r28.2.2.1).bind fun r29=>
 rec b0 b1 b2 b3 (aa .i64 (b4+1)) r29.2.2.1))))))
 else
 (some ((),((),(b5,()))))
def zbj(N:Nat)(n:Nat):=
 itF (fun _ _ _ _ _ _=>none) (z25 N) n
theorem zfz(N:Nat)(n:Nat):zbj N (n+1)=z25 N (zbj N n):=rfl
def z26(N:Nat)(rec:(List Int)->(List Int)->(List V6)->Int->Int->Z3->(List Int)->Option ((((List Int)×((List Int)×(Unit×Unit)))×yvv)))(b0 b1:(List Int))(b2:(List V6))(b3 b4:Int)(b5:Z3)(b6:(List Int)):Option ((((List Int)×((List Int)×(Unit×Unit)))×yvv)):=
 bif (decide (b4<b3))then
 (gd (inB b4 (b2.length))
 (let x7:=([(rdL b2 b4 Y8).1,((rdL b2 b4 Y8).2).1]:List Int)
 (Y2 N 4 b6 x7).bind fun r8=>
 let x9:=([(((rdL b2 b4 Y8).2).2).1]:List Int)
 (Y2 N 2 r8.2.2.1 x9).bind fun r10=>
 let x11:=(ak (((((rdL b2 b4 Y8).2).2).2).1):Int)
 (Y2 N 1 r10.2.2.1 [x11]).bind fun r12=>
 gd (fits (r12.2.2.1.length+ak (U2 (((((rdL b2 b4 Y8).2).2).2).1))) 1)
 (let x13:=(r12.2.2.1++(U2 (((((rdL b2 b4 Y8).2).2).2).1)))
 (z4g N (((((rdL b2 b4 Y8).2).2).2).2) x13).bind fun r14=>
 rec b0 b1 b2 b3 (aa .i64 (b4+1)) b5 r14.2.2.1)))
 else
 (some ((b0,(b1,((),()))),(b5,((),(b6,())))))
def zbk(N:Nat)(n:Nat):=
 itF (fun _ _ _ _ _ _ _=>none) (z26 N) n
theorem zg0(N:Nat)(n:Nat):zbk N (n+1)=z26 N (zbk N n):=rfl
def zhq(N:Nat)(a0:Z3)(a1 a2:(List Int)):Option ((List Int)):=
 let x1:=([67,a0.2.1.1,a0.2.1.2.1,a0.2.1.2.2]:List Int)
 (Y2 N 1 [] x1).bind fun r2=>
 (Y2 N 4 r2.2.2.1 [a0.2.2.2.1,a0.2.2.2.2.2.1]).bind fun r3=>
 (Y2 N 2 r3.2.2.1 [a0.2.2.2.2.1]).bind fun r4=>
 (z4g N a0.2.2.2.2.2.2 r4.2.2.1).bind fun r5=>
 (Y2 N 1 r5.2.2.1 [(a0.2.2.1.length:Int)]).bind fun r6=>
 (zbk N N a1 a2 a0.2.2.1 (a0.2.2.1.length:Int) 0 a0 r6.2.2.1).bind fun r15=>
 (Y2 N 2 r15.2.2.2.1 [(r15.2.1.1.length:Int)]).bind fun r16=>
 (zbj N N r15.1.1 r15.1.2.1 r15.2.1.1 (r15.2.1.1.length:Int) 0 r16.2.2.1).bind fun r30=>
 some r30.2.2.1
def z54(N:Nat)(a0:(List Int))(a1:Int):Option (((List Int)×Int)):=
 bif (decide (a1<1))then
 (none)
 else
 (some (a0,a1))
def V8(N:Nat)(a0:(List Int))(a1:(List (List Int))):Option (yqs):=
 gd (fits (a1.length+1) 24)
 (let x1:=(a1++[a0])
 some ((),((),(x1,()))))
def K4(N:Nat)(rec:(List Int)->Int->Int->(List (List Int))->Option ((Unit×yqs)))(b0:(List Int))(b1 b2:Int)(b3:(List (List Int))):Option ((Unit×yqs)):=
 bif (decide (b2<(b0.length:Int)))then
 (gd (decide (0<=b2)&&(decide (b2<=(b0.length:Int))&&decide ((b0.length:Int)<=(b0.length:Int))))
 (let x1:=(ak (cut2 b0 b2 (b0.length:Int)):Int)
 let x2:=(aa .i64 (b2+(bif decide (x1<b1)then x1 else b1)));let x3:=(aa .i64 (b2+(bif decide (x1<b1)then x1 else b1)))
 gd ((decide (0<=b2)&&(decide (b2<=x2)&&decide (x2<=(b0.length:Int))))&&(eqi x3 x2&&true))
 ((V8 N (cut2 b0 b2 x2) b3).bind fun r4=>
 rec b0 b1 (aa .i64 (b2+b1)) r4.2.2.1)))
 else
 (some ((),((),((),(b3,())))))
def u7(N:Nat)(n:Nat):=
 itF (fun _ _ _ _=>none) (K4 N) n
theorem z2o(N:Nat)(n:Nat):u7 N (n+1)=K4 N (u7 N n):=rfl
def z2e(N:Nat)(a0:(List Int))(a1:Int)(a2:(List (List Int))):Option ((Unit×yqs)):=
 (u7 N N a0 a1 0 a2).bind fun r5=>
 some ((),((),((),(r5.2.2.2.1,()))))
def U3(N:Nat)(b0:(List Int))(b1:Int):Option (yqs):=
 (z2e N b0 b1 []).bind fun r1=>
 some ((),((),(r1.2.2.2.1,())))
def Q1(N:Nat)(a0:(List Int))(a1:Int):Option ((List (List Int))):=
 (U3 N a0 a1).bind fun r2=>
 some r2.2.2.1
def K8(N:Nat)(a0:(List Int))(a1:Int):Option ((List (List Int))):=
 (Q1 N a0 a1).bind fun r1=>
 some r1
def zl5(N:Nat)(a0:(List Int))(a1:Int):Option ((List (List Int))):=
 (z54 N a0 a1).bind fun r1=>
 (K8 N r1.1 r1.2).bind fun r2=>
 some r2
def zny(N:Nat)(a0:W0):Option (W0):=
 (znx N a0 (true,(0,[]))).bind fun r1=>
 some r1
def J9(N:Nat)(rec:Int->(List Int)->Int->Int->(List Int)->Option (Ty3_))(b0:Int)(b1:(List Int))(b2 b3:Int)(b4:(List Int)):Option (Ty3_):=
 bif (decide (b3<b2))then
 (gd (inB b3 (b1.length))
 ((K7 N (aa .u64 ((rdL b1 b3 0))) b0 b4).bind fun r1=>
 rec b0 b1 b2 (aa .i64 (b3+1)) r1.2.2.1))
 else
 (some ((),((),(b4,()))))
def z10(N:Nat)(n:Nat):=
 itF (fun _ _ _ _ _=>none) (J9 N) n
theorem z6p(N:Nat)(n:Nat):z10 N (n+1)=J9 N (z10 N n):=rfl
def z2m(N:Nat)(a0:Int)(a1 a2:(List Int)):Option (Ty3_):=
 (z10 N N a0 a1 (a1.length:Int) 0 a2).bind fun r2=>
 some ((),((),(r2.2.2.1,())))
def zhp(N:Nat)(a0:Int)(a1 a2:(List Int)):Option ((List Int)):=
 (Y2 N 1 [] [83]).bind fun r1=>
 (Y2 N 4 r1.2.2.1 [a0,(a1.length:Int)]).bind fun r2=>
 (z82 N a1).bind fun r3=>
 (K7 N r3 8 r2.2.2.1).bind fun r4=>
 (Y2 N 2 r4.2.2.1 [(a2.length:Int)]).bind fun r5=>
 (z2m N 2 a2 r5.2.2.1).bind fun r6=>
 (z82 N r6.2.2.1).bind fun r7=>
 (K7 N r7 8 r6.2.2.1).bind fun r8=>
 some r8.2.2.1
def zdm(N:Nat)(b0 b1:(List Int))(b2 b3 b4:Int)(b5:(List (List Int)))(b6:(List Y5))(b7:(List Bool))(b8:(List Int))(b9 b10 b11 b12:Int)(b13 b14 b15:(List Int))(b16:Z4)(b17:(List (List Int)))(b18:Z3):Option ((Unit×Ty7_)⊕((Unit×(Unit×((List Int)×(Unit×(Int×Int)))))×(Ty0_×((List Int)×((List Int)×((List Int)×(Z4×((List (List Int))×(Z3×Unit))))))))):=
 (z7r N b1 b4 b5 b6 b7 b8 b9 b10 b11 b12 b13 b14 b15).bind fun r11=>
 match r11 with
 | .inl r12=>(some (.inl ((),(b18,((r12.2.1.1,(r12.2.1.2.1,(r12.2.1.2.2.1,(r12.2.1.2.2.2.1,(r12.2.1.2.2.2.2.1,(r12.2.1.2.2.2.2.2.1,(r12.2.1.2.2.2.2.2.2.1,(r12.2.1.2.2.2.2.2.2.2.1,(r12.2.1.2.2.2.2.2.2.2.2.1,((),((),()))))))))))),(r12.2.2.1,(r12.2.2.2.1,(r12.2.2.2.2.1,(b16,())))))))))
 | .inr r13=>(gd (fits (r13.2.2.2.2.1.length+1) 8)
 (let x14:=(r13.2.2.2.2.1++[r13.1])
 some (.inr (((),((),(b0,((),(b2,b3))))),((r13.2.1.1,(r13.2.1.2.1,(r13.2.1.2.2.1,(r13.2.1.2.2.2.1,(r13.2.1.2.2.2.2.1,(r13.2.1.2.2.2.2.2.1,(r13.2.1.2.2.2.2.2.2.1,(r13.2.1.2.2.2.2.2.2.2.1,(r13.2.1.2.2.2.2.2.2.2.2.1,((),((),()))))))))))),(r13.2.2.1,(r13.2.2.2.1,(x14,(b16,(b17,(b18,())))))))))))
def z0w(N:Nat)(rec:(List Int)->Int->Int->Int->(List (List Int))->(List Y5)->(List Bool)->(List Int)->Int->Int->Int->Int->(List Int)->(List Int)->(List Int)->Z4->(List (List Int))->Z3->Option x3u)(b0:(List Int))(b1 b2 b3:Int)(b4:(List (List Int)))(b5:(List Y5))(b6:(List Bool))(b7:(List Int))(b8 b9 b10 b11:Int)(b12 b13 b14:(List Int))(b15:Z4)(b16:(List (List Int)))(b17:Z3):Option x3u:=
 bif (decide (b2<b1))then
 (gd (inB b2 (b16.length))
 ((zdm N b0 (rdL b16 b2 []) b1 b2 b3 b4 b5 b6 b7 b8 b9 b10 b11 b12 b13 b14 b15 b16 b17).bind fun r15=>
 match r15 with
 | .inl r16=>(some (.inl ((),(r16.2.1,((r16.2.2.1.1,(r16.2.2.1.2.1,(r16.2.2.1.2.2.1,(r16.2.2.1.2.2.2.1,(r16.2.2.1.2.2.2.2.1,(r16.2.2.1.2.2.2.2.2.1,(r16.2.2.1.2.2.2.2.2.2.1,(r16.2.2.1.2.2.2.2.2.2.2.1,(r16.2.2.1.2.2.2.2.2.2.2.2.1,((),((),()))))))))))),(r16.2.2.2.1,(r16.2.2.2.2.1,(r16.2.2.2.2.2.1,(r16.2.2.2.2.2.2.1,())))))))))
 | .inr r17=>(let x18:=(aa .i64 (r17.1.2.2.2.2.2+1))
 rec r17.1.2.2.1 r17.1.2.2.2.2.1 x18 r17.2.1.1 r17.2.1.2.1 r17.2.1.2.2.1 r17.2.1.2.2.2.1 r17.2.1.2.2.2.2.1 r17.2.1.2.2.2.2.2.1 r17.2.1.2.2.2.2.2.2.1 r17.2.1.2.2.2.2.2.2.2.1 r17.2.1.2.2.2.2.2.2.2.2.1 r17.2.2.1 r17.2.2.2.1 r17.2.2.2.2.1 r17.2.2.2.2.2.1 r17.2.2.2.2.2.2.1 r17.2.2.2.2.2.2.2.1)))
 else
 (some (.inr (((),((),b0)),((b3,(b4,(b5,(b6,(b7,(b8,(b9,(b10,(b11,((),((),()))))))))))),(b12,(b13,(b14,(b15,(b17,())))))))))
def z5y(N:Nat)(n:Nat):=
 itF (fun _ _ _ _ _ _ _ _ _ _ _ _ _ _ _ _ _ _=>none) (z0w N) n
theorem zdo(N:Nat)(n:Nat):z5y N (n+1)=z0w N (z5y N n):=rfl
def z0x(N:Nat)(rec:(List Z8)->Int->Int->Z3->Int->(List (List Int))->(List Y5)->(List Bool)->(List Int)->Int->Int->Int->Int->(List Int)->(List Int)->(List Int)->Z4->Option ((Unit×Ty7_)⊕((Unit×(Unit×Unit))×Ty7_)))(b0:(List Z8))(b1 b2:Int)(b3:Z3)(b4:Int)(b5:(List (List Int)))(b6:(List Y5))(b7:(List Bool))(b8:(List Int))(b9 b10 b11 b12:Int)(b13 b14 b15:(List Int))(b16:Z4):Option ((Unit×Ty7_)⊕((Unit×(Unit×Unit))×Ty7_)):=
 bif (decide (b2<b1))then
 (gd (inB b2 (b0.length))
 ((z7s N b16 b2 (rdL b0 b2 X1) b4 b5 b6 b7 b8 b9 b10 b11 b12 b13 b14 b15).bind fun r1=>
 match r1 with
 | .inl r2=>(gd (fits (r2.2.2.1.length+1) 8)
 (let x4:=(r2.2.2.1++[r2.1.1])
 gd (fits (r2.2.2.2.1.length+1) 8)
 (let x5:=(r2.2.2.2.1++[r2.1.2])
 rec b0 b1 (aa .i64 (b2+1)) b3 r2.2.1.1 r2.2.1.2.1 r2.2.1.2.2.1 r2.2.1.2.2.2.1 r2.2.1.2.2.2.2.1 r2.2.1.2.2.2.2.2.1 r2.2.1.2.2.2.2.2.2.1 r2.2.1.2.2.2.2.2.2.2.1 r2.2.1.2.2.2.2.2.2.2.2.1 x4 x5 r2.2.2.2.2.1 b16)))
 | .inr r3=>(some (.inl ((),(b3,((r3.2.1.1,(r3.2.1.2.1,(r3.2.1.2.2.1,(r3.2.1.2.2.2.1,(r3.2.1.2.2.2.2.1,(r3.2.1.2.2.2.2.2.1,(r3.2.1.2.2.2.2.2.2.1,(r3.2.1.2.2.2.2.2.2.2.1,(r3.2.1.2.2.2.2.2.2.2.2.1,((),((),()))))))))))),(r3.2.2.1,(r3.2.2.2.1,(r3.2.2.2.2.1,(b16,())))))))))))
 else
 (some (.inr (((),((),())),(b3,((b4,(b5,(b6,(b7,(b8,(b9,(b10,(b11,(b12,((),((),()))))))))))),(b13,(b14,(b15,(b16,())))))))))
def z5z(N:Nat)(n:Nat):=
 itF (fun _ _ _ _ _ _ _ _ _ _ _ _ _ _ _ _ _=>none) (z0x N) n
theorem zdp(N:Nat)(n:Nat):z5z N (n+1)=z0x N (z5z N n):=rfl
def zj7(N:Nat)(a0:Z3)(a1:Int)(a2:(List (List Int)))(a3:(List Y5))(a4:(List Bool))(a5:(List Int))(a6 a7 a8 a9:Int)(a10 a11 a12:(List Int))(a13:Z4):Option ((Unit×(Z3×(Ty2_×((List Int)×((List Int)×(Z4×Unit))))))⊕(Unit×(Z3×(Ty2_×((List Int)×((List Int)×(Z4×Unit))))))):=
 (z5z N N a0.1 (a0.1.length:Int) 0 a0 a1 a2 a3 a4 a5 a6 a7 a8 a9 a10 a11 a12 a13).bind fun r6=>
 match r6 with
 | .inl r7=>(some (.inl ((),(r7.2.1,((r7.2.2.1.1,(r7.2.2.1.2.1,(r7.2.2.1.2.2.1,(r7.2.2.1.2.2.2.1,(r7.2.2.1.2.2.2.2.1,(r7.2.2.1.2.2.2.2.2.1,(r7.2.2.1.2.2.2.2.2.2.1,(r7.2.2.1.2.2.2.2.2.2.2.1,(r7.2.2.1.2.2.2.2.2.2.2.2.1,((),((),r7.2.2.2.2.2.1))))))))))),(r7.2.2.2.1,(r7.2.2.2.2.1,(r7.2.2.2.2.2.2.1,()))))))))
 | .inr r8=>((zhq N r8.2.1 r8.2.2.2.1 r8.2.2.2.2.1).bind fun r9=>
 (zl5 N r9 r8.2.2.2.2.2.2.1.1.1).bind fun r10=>
 (z5y N N r9 (r10.length:Int) 0 r8.2.2.1.1 r8.2.2.1.2.1 r8.2.2.1.2.2.1 r8.2.2.1.2.2.2.1 r8.2.2.1.2.2.2.2.1 r8.2.2.1.2.2.2.2.2.1 r8.2.2.1.2.2.2.2.2.2.1 r8.2.2.1.2.2.2.2.2.2.2.1 r8.2.2.1.2.2.2.2.2.2.2.2.1 r8.2.2.2.1 r8.2.2.2.2.1 r8.2.2.2.2.2.1 r8.2.2.2.2.2.2.1 r10 r8.2.1).bind fun r19=>
 match r19 with
 | .inl r20=>(some (.inl ((),(r20.2.1,((r20.2.2.1.1,(r20.2.2.1.2.1,(r20.2.2.1.2.2.1,(r20.2.2.1.2.2.2.1,(r20.2.2.1.2.2.2.2.1,(r20.2.2.1.2.2.2.2.2.1,(r20.2.2.1.2.2.2.2.2.2.1,(r20.2.2.1.2.2.2.2.2.2.2.1,(r20.2.2.1.2.2.2.2.2.2.2.2.1,((),((),r20.2.2.2.2.2.1))))))))))),(r20.2.2.2.1,(r20.2.2.2.2.1,(r20.2.2.2.2.2.2.1,()))))))))
 | .inr r21=>(let x22:=(aa .i64 (r21.2.2.2.2.2.1.2.2.2.1+1))
 (zny N (r21.2.1.1,(r21.2.1.2.1,r21.2.1.2.2.1))).bind fun r23=>
 (zhp N x22 r21.1.2.2 r21.2.2.2.2.1).bind fun r24=>
 (zrj N r23 (aB x22 2) r24).bind fun r25=>
 (zc1 N (eqi r25.2 0)).bind fun r26=>
 match r26 with
 | .inl r27=>(some (.inl ((),(r21.2.2.2.2.2.2.1,((r21.2.1.1,(r21.2.1.2.1,(r21.2.1.2.2.1,(r21.2.1.2.2.2.1,(r21.2.1.2.2.2.2.1,(r21.2.1.2.2.2.2.2.1,(r21.2.1.2.2.2.2.2.2.1,(x22,(0,((),((),r21.2.2.2.2.1))))))))))),(r21.2.2.1,(r21.2.2.2.1,(r21.2.2.2.2.2.1,()))))))))
 | .inr r28=>((zny N r25.1).bind fun r29=>
 some (.inr ((),(r21.2.2.2.2.2.2.1,((r29.1,(r29.2.1,(r29.2.2,(r21.2.1.2.2.2.1,(r21.2.1.2.2.2.2.1,(r21.2.1.2.2.2.2.2.1,(r21.2.1.2.2.2.2.2.2.1,(x22,(0,((),((),r21.2.2.2.2.1))))))))))),(r21.2.2.1,(r21.2.2.2.1,(r21.2.2.2.2.2.1,()))))))))))
def G8(N:Nat)(rec:(List Int)->Int->Int->Int->Option ((Int×Unit)⊕(Unit×Unit)))(b0:(List Int))(b1 b2 b3:Int):Option ((Int×Unit)⊕(Unit×Unit)):=
 bif (decide (b3<b2))then
 (gd (inB b3 (b0.length))
 (bif (eqi b1 (rdL b0 b3 0))then
 (some (.inl (b3,())))
 else
 (rec b0 b1 b2 (aa .i64 (b3+1)))))
 else
 (some (.inr ((),())))
def z1q(N:Nat)(n:Nat):=
 itF (fun _ _ _ _=>none) (G8 N) n
theorem z7v(N:Nat)(n:Nat):z1q N (n+1)=G8 N (z1q N n):=rfl
def z8o(N:Nat)(a0:(List Int))(a1:Int):Option (Int):=
 (z1q N N a0 a1 (a0.length:Int) 0).bind fun r1=>
 match r1 with
 | .inl r2=>(some r2.1)
 | .inr r3=>(some (-1))
def z1r(N:Nat)(a0:(List Int))(a1:Int):Option (Bool):=
 (z8o N a0 a1).bind fun r1=>
 some (decide (0<=r1))
def z9y(N:Nat)(b0:Int)(b1:Bool)(b2:X3):Option x3j:=
 bif b1 then
 (some (.inl (((),230),(b2,()))))
 else
 (some (.inr ((b0,((),())),(b2,((),())))))
def z9z(N:Nat)(b0:Int)(b1:X3):Option (((Unit×Int)×(((List Bool)×(Unit×Int))×((List Int)×Unit)))):=
 (z18 N b1.2.1).bind fun r4=>
 gd (fits (r4.length+1) 8)
 (let x5:=(r4++[b0])
 some (((),0),((b1.1,((),b1.2.2)),(x5,()))))
def zo4(N:Nat)(a0:X3)(a1:Int):Option ((X3×Int)):=
 bif (decide (a1<0))then
 ((z9y N a1 true a0).bind fun r1=>
 match r1 with
 | .inl r2=>(some (r2.2.1,r2.1.2))
 | .inr r3=>((z9z N r3.1.1 r3.2.1).bind fun r6=>
 some ((r6.2.1.1,(r6.2.2.1,r6.2.1.2.2)),r6.1.2)))
 else
 (bif (decide ((a0.1.length:Int)<=a1))then
 ((z9y N a1 true a0).bind fun r7=>
 match r7 with
 | .inl r8=>(some (r8.2.1,r8.1.2))
 | .inr r9=>((z9z N r9.1.1 r9.2.1).bind fun r10=>
 some ((r10.2.1.1,(r10.2.2.1,r10.2.1.2.2)),r10.1.2)))
 else
 (gd (inB a1 (a0.1.length))
 (bif (!(rdL a0.1 a1 false))then
 ((z9y N a1 true a0).bind fun r11=>
 match r11 with
 | .inl r12=>(some (r12.2.1,r12.1.2))
 | .inr r13=>((z9z N r13.1.1 r13.2.1).bind fun r14=>
 some ((r14.2.1.1,(r14.2.2.1,r14.2.1.2.2)),r14.1.2)))
 else
 ((z1r N a0.2.1 a1).bind fun r15=>
 (z9y N a1 r15 a0).bind fun r16=>
 match r16 with
 | .inl r17=>(some (r17.2.1,r17.1.2))
 | .inr r18=>((z9z N r18.1.1 r18.2.1).bind fun r19=>
 some ((r19.2.1.1,(r19.2.2.1,r19.2.1.2.2)),r19.1.2))))))
def zs8(N:Nat)(a0:X3):Option (X3):=
 (zo2 N a0 a0.2.1 false).bind fun r1=>
 some (r1.1,([],r1.2.2))
def z5w(N:Nat)(rec:(List Int)->Int->Int->Int->(List (List Int))->(List Y5)->(List Bool)->(List Int)->Int->Int->Int->Int->(List Int)->(List Int)->(List Int)->Option (((Unit×Unit)×(Unit×(Ty2_×Ty8_)))))(b0:(List Int))(b1 b2 b3:Int)(b4:(List (List Int)))(b5:(List Y5))(b6:(List Bool))(b7:(List Int))(b8 b9 b10 b11:Int)(b12 b13 b14:(List Int)):Option (((Unit×Unit)×(Unit×(Ty2_×Ty8_)))):=
 bif (decide (b2<b1))then
 (gd (inB b2 (b0.length))
 ((zo4 N (b6,(b7,b8)) (rdL b0 b2 0)).bind fun r8=>
 rec b0 b1 (aa .i64 (b2+1)) b3 b4 b5 r8.1.1 r8.1.2.1 r8.1.2.2 b9 b10 b11 b12 b13 b14))
 else
 (some (((),()),((),((b3,(b4,(b5,(b6,(b7,(b8,(b9,(b10,(b11,((),((),b12))))))))))),(b13,(b14,()))))))
def zhr(N:Nat)(n:Nat):=
 itF (fun _ _ _ _ _ _ _ _ _ _ _ _ _ _ _=>none) (z5w N) n
theorem zm1(N:Nat)(n:Nat):zhr N (n+1)=z5w N (zhr N n):=rfl
def z5x(N:Nat)(rec:(List Int)->Int->Int->Z4->Int->(List (List Int))->(List Y5)->(List Bool)->(List Int)->Int->Int->Int->Int->(List Int)->(List Int)->(List Int)->Option (((Unit×(Unit×Unit))×(Z4×(Unit×(Ty2_×Ty8_))))))(b0:(List Int))(b1 b2:Int)(b3:Z4)(b4:Int)(b5:(List (List Int)))(b6:(List Y5))(b7:(List Bool))(b8:(List Int))(b9 b10 b11 b12:Int)(b13 b14 b15:(List Int)):Option (((Unit×(Unit×Unit))×(Z4×(Unit×(Ty2_×Ty8_))))):=
 bif (decide (b2<b1))then
 (gd (inB b2 (b0.length))
 (bif (decide (0<=(rdL b0 b2 0)))then
 ((znq N ((b4,(b5,b6)),((b7,(b8,b9)),(b10,(b11,(b12,(b14,(b15,b13))))))) b2).bind fun r5=>
 bif (!(eqi r5 (rdL b0 b2 0)))then
 ((zo4 N (b7,(b8,b9)) (rdL b0 b2 0)).bind fun r6=>
 rec b0 b1 (aa .i64 (b2+1)) b3 b4 b5 b6 r6.1.1 r6.1.2.1 r6.1.2.2 b10 b11 b12 b13 b14 b15)
 else
 (rec b0 b1 (aa .i64 (b2+1)) b3 b4 b5 b6 b7 b8 b9 b10 b11 b12 b13 b14 b15))
 else
 (rec b0 b1 (aa .i64 (b2+1)) b3 b4 b5 b6 b7 b8 b9 b10 b11 b12 b13 b14 b15)))
 else
 (some (((),((),())),(b3,((),((b4,(b5,(b6,(b7,(b8,(b9,(b10,(b11,(b12,((),((),b13))))))))))),(b14,(b15,())))))))
def zhs(N:Nat)(n:Nat):=
 itF (fun _ _ _ _ _ _ _ _ _ _ _ _ _ _ _ _=>none) (z5x N) n
theorem zm2(N:Nat)(n:Nat):zhs N (n+1)=z5x N (zhs N n):=rfl
def znr(N:Nat)(a0:Z4)(a1:Z3):Option ((Z4×Int)):=
 (zj7 N a1 a0.1.1 a0.1.2.1 a0.1.2.2 a0.2.1.1 a0.2.1.2.1 a0.2.1.2.2 a0.2.2.1 a0.2.2.2.1 a0.2.2.2.2.1 [] [] [] a0).bind fun r1=>
 match r1 with
 | .inl r2=>(some (r2.2.2.2.2.2.1,250))
 | .inr r3=>(let x4:=(r3.2.2.2.2.2.1.2.2.2.2.2.1.length:Int)
 (zhs N N r3.2.2.2.2.2.1.2.2.2.2.2.1 x4 0 r3.2.2.2.2.2.1 r3.2.2.1.1 r3.2.2.1.2.1 r3.2.2.1.2.2.1 r3.2.2.1.2.2.2.1 r3.2.2.1.2.2.2.2.1 r3.2.2.1.2.2.2.2.2.1 r3.2.2.1.2.2.2.2.2.2.1 r3.2.2.1.2.2.2.2.2.2.2.1 r3.2.2.1.2.2.2.2.2.2.2.2.1 r3.2.2.1.2.2.2.2.2.2.2.2.2.2.2 r3.2.2.2.1 r3.2.2.2.2.1).bind fun r7=>
 (zhr N N r7.2.1.2.2.2.2.2.2.2 (r7.2.1.2.2.2.2.2.2.2.length:Int) 0 r7.2.2.2.1.1 r7.2.2.2.1.2.1 r7.2.2.2.1.2.2.1 r7.2.2.2.1.2.2.2.1 r7.2.2.2.1.2.2.2.2.1 r7.2.2.2.1.2.2.2.2.2.1 r7.2.2.2.1.2.2.2.2.2.2.1 r7.2.2.2.1.2.2.2.2.2.2.2.1 r7.2.2.2.1.2.2.2.2.2.2.2.2.1 r7.2.2.2.1.2.2.2.2.2.2.2.2.2.2.2 r7.2.2.2.2.1 r7.2.2.2.2.2.1).bind fun r9=>
 (zs8 N (r9.2.2.1.2.2.2.1,(r9.2.2.1.2.2.2.2.1,r9.2.2.1.2.2.2.2.2.1))).bind fun r10=>
 some (((r9.2.2.1.1,(r9.2.2.1.2.1,r9.2.2.1.2.2.1)),(r10,(r9.2.2.1.2.2.2.2.2.2.1,(r9.2.2.1.2.2.2.2.2.2.2.1,(r9.2.2.1.2.2.2.2.2.2.2.2.1,(r9.2.2.2.1,(r9.2.2.2.2.1,r9.2.2.1.2.2.2.2.2.2.2.2.2.2.2))))))),0))
def z3n(N:Nat)(rec:(List K6)->Bool->Int->z3j->v8->Z3->Option x3h)(b0:(List K6))(b1:Bool)(b2:Int)(b3:z3j)(b4:v8)(b5:Z3):Option x3h:=
 bif (decide (b2<(b0.length:Int)))then
 (bif (decide (b2<3))then
 (gd (inB b2 (b0.length))
 ((znj N b5 (rdL b0 b2 z98)).bind fun r6=>
 rec b0 b1 (aa .i64 (b2+1)) b3 b4 r6))
 else
 (some ((b1,((),((),()))),(b3,(b4,(b5,()))))))
 else
 (some ((b1,((),((),()))),(b3,(b4,(b5,())))))
def z8u(N:Nat)(n:Nat):=
 itF (fun _ _ _ _ _ _=>none) (z3n N) n
theorem zqm(N:Nat)(n:Nat):z8u N (n+1)=z3n N (z8u N n):=rfl
def z9p(N:Nat)(a0:zed)(a1:Int)(a2:(List K6)):Option (Bool):=
 (zfs N).bind fun r1=>
 (zsl N a0).bind fun r2=>
 bif (!(eqi r2.2.2 0))then
 (some r1)
 else
 ((ze5 N r2.1 r2.2.1).bind fun r3=>
 let x4:=(aB (aa .i64 (a1)) 8)
 (z83 N r3 r2.1 x4).bind fun r5=>
 (z8u N N a2 r1 0 r2 r5.1 r2.2.1).bind fun r7=>
 (znr N r7.2.1.1 r7.2.2.2.1).bind fun r8=>
 bif (!(eqi r8.2 0))then
 (bif (eqi r8.2 250)then
 (some r7.1.1)
 else
 (some false))
 else
 ((z83 N r7.2.2.1 r8.1 4096).bind fun r9=>
 bif (eqi (r9.1.2.1.length:Int) 0)then
 ((znf N r9.1).bind fun r10=>
 bif r10 then
 (let x11:=(aa .i64 (r7.2.2.1.2.2+(r7.2.2.1.1.length:Int)))
 bif (decide (r9.1.2.2<=x11))then
 (some r7.1.1)
 else
 (some false))
 else
 (some false))
 else
 (some false)))
end Ds
