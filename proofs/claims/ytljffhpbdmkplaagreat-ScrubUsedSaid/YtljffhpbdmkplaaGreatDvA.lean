/- The evaluator: abstract values and abstract states (definitions alone). -/
import GoSem.Step
import Derived.WalkKit
import Derived.RangeFuncOwn
import Derived.Laws.StructEq
import Derived.Laws.BytesArg
import Derived.Lib.ConvBytes
set_option linter.all false
open Array renaming ext'->bC,getElem?_eq_some_iff->aS
open Bool renaming and_eq_true->ab,or_eq_true->aA
open List renaming all_cons->bc,eq_nil_of_length_eq_zero->aF,length->ak,replicate->az,toArray->bX
open Nat renaming beq->ax,beq_eq->cr,ble->bG,blt->cj,eq_of_beq_eq_true->af,le_refl->ai,lt_of_lt_of_le->aT,zero_add->bk
open Option renaming some->aL
open Prod renaming mk->cR
namespace Go.Dv
inductive Ty where
 | int (k:IntKind)
 | bool
 | str
 | unit
 | pair (a b:Ty)
 | list (t:Ty)
def Ty.T:Ty->Type
 | .int _=>Int
 | .bool=>Bool
 | .str=>List UInt8
 | .unit=>Unit
 | .pair a b=>a.T×b.T
 | .list t=>List t.T
def Ty.size:Ty->Nat
 | .int _=>1
 | .bool=>1
 | .str=>1
 | .unit=>0
 | .pair a b=>a.size+b.size
 | .list _=>1
def Ty.dflt:(t:Ty)->t.T
 | .int _=>(0:Int)
 | .bool=>false
 | .str=>([]:List UInt8)
 | .unit=>()
 | .pair a b=>(a.dflt,b.dflt)
 | .list _=>[]
def ikEq(a b:IntKind):Option (PLift (a=b)):=if h:a=b then some ⟨h⟩else none
def Ty.eq? :(a b:Ty)->Option (PLift (a=b))
 | .int k, .int l=>match ikEq k l with | some ⟨h⟩=>some ⟨h▸rfl⟩ | none=>none
 | .bool, .bool=>some ⟨rfl⟩
 | .str, .str=>some ⟨rfl⟩
 | .unit, .unit=>some ⟨rfl⟩
 | .pair a b, .pair c d=>
  match Ty.eq? a c,Ty.eq? b d with
  | some ⟨h⟩,some ⟨g⟩=>some ⟨h▸g▸rfl⟩
  | _,_=>none
 | .list a, .list b=>match Ty.eq? a b with | some ⟨h⟩=>some ⟨h▸rfl⟩ | none=>none
 | _,_=>none
def yxo{a b:Ty}(h:a=b)(xs:List a.T):List b.T:=h▸xs
inductive AV where
 | undef
 | int (k:IntKind) (n:Int)
 | bool (b:Bool)
 | str (s:List UInt8)
 | nils
 | nilp
 | nilf
 | nili
 | list (t:Ty) (xs:List t.T)
 | clip (t:Ty) (xs:List t.T)
 | fresh (t:Ty) (xs:List t.T)
 | own (n:Nat)
 | ptr (n off:Nat)
 | oel (n i off:Nat)
 | bx (cs:List AV) (off:Nat)
 | ro (t:Ty) (x:t.T) (off:Nat)
 | clo (f:FuncId) (caps:List AV)
 | iface (t:TypeId) (v:AV)
 | yld (n:Nat)
 | agg (cs:List AV)
 | tup (vs:List AV)
inductive Stat where
 | live | still | dead
 | hole (i r:Nat)
inductive MO where
 | box (cs:List AV) (s:Stat)
 | sl (t:Ty) (xs:List t.T) (s:Stat)
 | rng (id:Nat) (caps:List AV) (e:Option Nat)
structure St where
 ρ:Nat->AV
 m:Nat->Option MO
def upd(ρ:Nat->AV)(d:Nat)(v:AV):Nat->AV:=fun i=>bif ax i d then v else ρ i
def mupd(m:Nat->Option MO)(d:Nat)(o:MO):Nat->Option MO:=fun i=>bif ax i d then some o else m i
def look(d:Nat):List (Nat×AV)->AV
 | []=> .undef
 | (i,v)::r=>bif ax d i then v else look d r
def St.set(σ:St)(d:Nat)(v:AV):St:=⟨upd σ.ρ d v,σ.m⟩
def enc:(t:Ty)->t.T->List AV
 | .int k,n=>[.int k n]
 | .bool,b=>[.bool b]
 | .str,s=>[.str s]
 | .unit,_=>[]
 | .pair a b,x=>enc a x.1++enc b x.2
 | .list t,xs=>[.list t xs]
def castL(t' t:Ty)(xs:List t'.T):Option (List t.T):=match Ty.eq? t' t with | some ⟨h⟩=>some (yxo h xs) | none=>none
def z4i(m:Nat->Option MO)(t:Ty):AV->Option (List t.T)
 | .list t' xs=>castL t' t xs
 | .clip t' xs=>castL t' t xs
 | .nils=>some []
 | .own n=>match m n with | some (.sl t' xs .still)=>castL t' t xs | _=>none
 | _=>none
def zb7(m:Nat->Option MO)(t:Ty):AV->Option (List t.T)
 | .list t' xs=>castL t' t xs
 | .clip t' xs=>castL t' t xs
 | .nils=>some []
 | .own n=>match m n with | some (.sl t' xs .still)=>castL t' t xs | some (.sl t' xs .live)=>castL t' t xs | _=>none
 | _=>none
def decP(m:Nat->Option MO):(t:Ty)->List AV->Option (t.T×List AV)
 | .int k, .int k' n::r=>match ikEq k' k with | some _=>some (n,r) | none=>none
 | .bool, .bool b::r=>some (b,r)
 | .str, .str s::r=>some (s,r)
 | .unit,r=>some ((),r)
 | .pair a b,r=>
  match decP m a r with
  | some (x,r')=>match decP m b r' with | some (y,r'')=>some ((x,y),r'') | none=>none
  | none=>none
 | .list t,v::r=>match z4i m t v with | some xs=>some (xs,r) | none=>none
 | _,_=>none
def dec(m:Nat->Option MO)(t:Ty)(cs:List AV):Option t.T:=
 match decP m t cs with
 | some (x,[])=>some x
 | _=>none
def AV.cells:AV->List AV
 | .agg cs=>cs
 | v=>[v]
def AV.one:AV->Bool
 | .undef=>false
 | .agg _=>false
 | .tup _=>false
 | .fresh _ _=>false
 | _=>true
inductive TD where
 | int (k:IntKind) | bool | str | ptr | slice (e:TypeId) | struct (fs:List (Nat×TypeId)) | arr (n:Nat) (e:TypeId) | func | iface | other
inductive Z where
 | int (k:IntKind) | bool | str | slice | ptr | func | iface
def Z.av:Z->AV
 | .int k=> .int k 0
 | .bool=> .bool false
 | .str=> .str []
 | .slice=> .nils
 | .ptr=> .nilp
 | .func=> .nilf
 | .iface=> .nili
structure TI where
 d:TD
 size:Nat
 bytes:Nat
 zero:List Z
 ty:Option Ty
def TD.agg:TD->Bool
 | .struct _=>true
 | .arr _ _=>true
 | _=>false
variable {R:Type}
def gd(b:Bool)(k:Option R):Option R:=bif b then k else none
inductive Sh where
 | int (k:IntKind)
 | bool
 | str
 | list (t:Ty)
 | val (t:Ty)
 | ro (t:Ty) (off:Nat)
 | own (n:Nat)
 | ptr (n off:Nat)
 | nils
 | nilp
 | nili
 | nilf
 | nil
 | cons (a b:Sh)
 | agg (l:Sh)
 | tup (l:Sh)
 | clo (f:FuncId) (l:Sh)
 | iface (t:TypeId) (a:Sh)
 | yld (n:Nat)
 | bx (l:Sh) (off:Nat)
def Sh.T:Sh->Type
 | .int _=>Int
 | .bool=>Bool
 | .str=>List UInt8
 | .list t=>List t.T
 | .val t=>t.T
 | .ro t _=>t.T
 | .cons a b=>a.T×b.T
 | .agg l=>l.T
 | .tup l=>l.T
 | .clo _ l=>l.T
 | .iface _ a=>a.T
 | .bx l _=>l.T
 | _=>Unit
def mkL:(s:Sh)->s.T->List AV
 | .int k,n=>[.int k n]
 | .bool,b=>[.bool b]
 | .str,s=>[.str s]
 | .list t,xs=>[.list t xs]
 | .val t,x=>[.agg (enc t x)]
 | .ro t off,x=>[.ro t x off]
 | .own n,_=>[.own n]
 | .ptr n off,_=>[.ptr n off]
 | .yld n,_=>[.yld n]
 | .nils,_=>[.nils]
 | .nilp,_=>[.nilp]
 | .nili,_=>[.nili]
 | .nilf,_=>[.nilf]
 | .nil,_=>[]
 | .cons a b,x=>mkL a x.1++mkL b x.2
 | .agg l,x=>[.agg (mkL l x)]
 | .tup l,x=>[.tup (mkL l x)]
 | .clo f l,x=>[.clo f (mkL l x)]
 | .iface t a,x=>match mkL a x with
  | [v]=>[.iface t v]
  | _=>[]
 | .bx l off,x=>[.bx (mkL l x) off]
def yvq(t' t:Ty)(x:t'.T):Option t.T:=match Ty.eq? t' t with | some ⟨h⟩=>some (h▸x) | none=>none
def z16(n:Nat):List (Nat×Option Nat)->Option (Option Nat)
 | []=>none
 | (k,e)::r=>bif ax n k then some e else z16 n r
def zd1{α:Type}:Option (α×List AV)->Option α
 | some (x,[])=>some x
 | _=>none
def getP(m:Nat->Option MO)(rl:List (Nat×Option Nat)):(s:Sh)->List AV->Option (s.T×List AV)
 | .int k, .int k' n::r=>match ikEq k' k with | some _=>some (n,r) | none=>none
 | .bool, .bool b::r=>some (b,r)
 | .str, .str s::r=>some (s,r)
 | .list t,v::r=>match z4i m t v with | some xs=>some (xs,r) | none=>none
 | .val t, .agg cs::r=>match dec m t cs with | some x=>some (x,r) | none=>none
 | .ro t off, .ro t' x off'::r=>bif ax off' off then(match yvq t' t x with | some x=>some (x,r) | none=>none)else none
 | .own n, .own d::r=>match z16 n rl with
  | some (some d')=>bif ax d d' then some ((),r)else none
  | _=>none
 | .own n, .nils::r=>match z16 n rl with
  | some none=>some ((),r)
  | _=>none
 | .ptr n off, .ptr d off'::r=>match z16 n rl with
  | some (some d')=>bif ax d d'&&ax off' off then some ((),r)else none
  | _=>none
 | .yld n, .yld d::r=>match z16 n rl with
  | some (some d')=>bif ax d d' then some ((),r)else none
  | _=>none
 | .nils, .nils::r=>some ((),r)
 | .nilp, .nilp::r=>some ((),r)
 | .nili, .nili::r=>some ((),r)
 | .nilf, .nilf::r=>some ((),r)
 | .nil,r=>some ((),r)
 | .cons a b,r=>match getP m rl a r with
  | some (x,r')=>match getP m rl b r' with
   | some (y,r'')=>some ((x,y),r'')
   | none=>none
  | none=>none
 | .agg l, .agg cs::r=>match zd1 (getP m rl l cs)with | some x=>some (x,r) | none=>none
 | .tup l, .tup cs::r=>match zd1 (getP m rl l cs)with | some x=>some (x,r) | none=>none
 | .clo f l, .clo f' cs::r=>bif ax f' f then(match zd1 (getP m rl l cs)with | some x=>some (x,r) | none=>none)else none
 | .iface t a, .iface t' v::r=>bif ax t' t then(match zd1 (getP m rl a [v])with | some x=>some (x,r) | none=>none)else none
 | .bx l off, .bx cs off'::r=>bif ax off' off then(match zd1 (getP m rl l cs)with | some x=>some (x,r) | none=>none)else none
 | _,_=>none
def AV.flat:AV->Bool
 | .int _ _=>true
 | .bool _=>true
 | .str _=>true
 | .nils=>true
 | .nilp=>true
 | .nili=>true
 | .nilf=>true
 | _=>false
def AV.same:AV->AV->Bool
 | .int k n, .int k' n'=>(match ikEq k k' with | some _=>true | none=>false)&&decide (n=n')
 | .bool a, .bool b=>a==b
 | .str [], .str []=>true
 | .nils, .nils=>true
 | .nilp, .nilp=>true
 | .nili, .nili=>true
 | .nilf, .nilf=>true
 | _,_=>false
def ykh:List AV->List AV->Bool
 | [],[]=>true
 | a::l,b::r=>AV.same a b&&ykh l r
 | _,_=>false
inductive OK where
 | sl (t:Ty)
 | box (l:Sh)
 | boxS (l:Sh)
 | boxV (t:Ty)
 | boxC (cs:List AV)
 | rng (id:Nat) (l:Sh) (e:Nat)
def OK.T:OK->Type
 | .sl t=>List t.T
 | .box l=>l.T
 | .boxS l=>l.T
 | .boxV t=>t.T
 | .boxC _=>Unit
 | .rng _ l _=>l.T
def OT:List (Nat×List Nat×OK)->Type
 | []=>Unit
 | (_,_,k)::r=>k.T×OT r
def mkO:(k:OK)->k.T->MO
 | .sl t,xs=> .sl t xs .live
 | .box l,x=> .box (mkL l x) .live
 | .boxS l,x=> .box (mkL l x) .still
 | .boxV t,x=> .box (enc t x) .live
 | .boxC cs,_=> .box cs .live
 | .rng id l e,x=> .rng id (mkL l x) (some e)
def mofO:(l:List (Nat×List Nat×OK))->OT l->Nat->Option MO
 | [],_,_=>none
 | (n,_,k)::r,v,i=>bif ax i n then some (mkO k v.1)else mofO r v.2 i
def y49(m:Nat->Option MO):List Nat->AV->AV
 | [],v=>v
 | i::r,v=>match v with
  | .clo _ cs=>y49 m r (cs.getD i .undef)
  | .agg cs=>y49 m r (cs.getD i .undef)
  | .tup cs=>y49 m r (cs.getD i .undef)
  | .iface _ x=>y49 m r x
  | .ptr n off=>match m n with
   | some (.box cs _)=>y49 m r (cs.getD (off+i) .undef)
   | _=> .undef
  | .yld n=>match m n with
   | some (.rng _ cs _)=>y49 m r (cs.getD i .undef)
   | _=> .undef
  | _=> .undef
def x51:AV->Option Nat
 | .own d=>some d
 | .ptr d _=>some d
 | .oel d _ _=>some d
 | .yld d=>some d
 | _=>none
def zse(ρ:Nat->AV)(m:Nat->Option MO):List Nat->Option Nat
 | []=>none
 | t::r=>x51 (y49 m r (bif bG 5000000 t then .ptr t 0 else ρ t))
def renL(ρ:Nat->AV)(m:Nat->Option MO):List (Nat×List Nat×OK)->List (Nat×Option Nat)
 | []=>[]
 | (n,src,_)::r=>(n,bif bG 5000000 n then some n else zse ρ m src)::renL ρ m r
theorem ymt{ρ:Nat->AV}{m:Nat->Option MO}{n:Nat}{e:Option Nat}(hn:5000000<=n):∀{l:List (Nat×List Nat×OK)},z16 n (renL ρ m l)=some e->e=some n
 | [],h=>by cases h
 | (k,src,_)::r,h=>by
  simp only[renL,z16]at h;cases hb:ax n k with
  | true=>rw[hb]at h;simp only[cond_true,aL.injEq]at h;have e1:=af hb;subst e1;rw[show bG 5000000 n=true by simpa using hn]at h;simpa using h.symm
  | false=>rw[hb]at h;exact ymt hn h
def yq1(m:Nat->Option MO)(rl:List (Nat×Option Nat)):(k:OK)->Option Nat->Option k.T
 | .sl _,none=>some []
 | .sl t,some d=>match m d with | some (.sl t' xs .live)=>castL t' t xs | _=>none
 | .box l,some d=>match m d with | some (.box cs .live)=>zd1 (getP m rl l cs) | _=>none
 | .boxS l,some d=>match m d with | some (.box cs .still)=>zd1 (getP m rl l cs) | _=>none
 | .boxV t,some d=>match m d with | some (.box cs .live)=>dec m t cs | _=>none
 | .boxC cs0,some d=>match m d with | some (.box cs .live)=>gd (ykh cs cs0) (some ()) | _=>none
 | .rng id l e,some d=>match m d with | some (.rng id' cs (some e'))=>bif ax id' id&&ax e' e then zd1 (getP m rl l cs)else none | _=>none
 | _,none=>none
def getO(m:Nat->Option MO)(rl:List (Nat×Option Nat)):(l:List (Nat×List Nat×OK))->Option (OT l)
 | []=>some ()
 | (n,_,k)::r=>match z16 n rl with
  | some e=>match yq1 m rl k e with
   | some x=>match getO m rl r with
    | some y=>some (x,y)
    | none=>none
   | none=>none
  | none=>none
def ztt(d:Nat):List (Nat×Option Nat)->Bool
 | []=>true
 | (_,some d')::r=> !(ax d d')&&ztt d r
 | (_,none)::r=>ztt d r
def dist:List (Nat×Option Nat)->Bool
 | []=>true
 | (_,some d)::r=>ztt d r&&dist r
 | (_,none)::r=>dist r
structure Cut where
 tms:List Nat
 sh:Sh
 objs:List (Nat×List Nat×OK)
 sts:List Nat:=[]
abbrev Cut.T(c:Cut):Type:=c.sh.T×OT c.objs
def y05:List Nat->List AV->Nat->AV
 | t::ts,v::vs,i=>bif ax i t then v else y05 ts vs i
 | _,_,_=> .undef
def mkC(c:Cut)(v:c.T):St:=⟨y05 c.tms (mkL c.sh v.1),mofO c.objs v.2⟩
def getW(rl:List (Nat×Option Nat))(c:Cut)(ρ:Nat->AV)(m:Nat->Option MO):Option c.T:=
 bif dist rl then
  match zd1 (getP m rl c.sh (c.tms.map ρ))with
  | some x=>match getO m rl c.objs with
   | some y=>some (x,y)
   | none=>none
  | none=>none
 else none
def getM(c:Cut)(ρ:Nat->AV)(m:Nat->Option MO):Option c.T:=getW (renL ρ m c.objs) c ρ m
def argsA:Nat->List AV->Nat->AV
 | _,[],_=> .undef
 | k,v::vs,i=>bif ax i k then v else argsA (k+1) vs i
def renC(ρ:Nat->AV)(m:Nat->Option MO):List (Nat×List Nat×OK)->List (Nat×Option Nat)
 | []=>[]
 | (n,src,_)::r=>(n,zse ρ m src)::renC ρ m r
structure CtrM where
 cin:Cut
 T:Type
 F:cin.T->Option T
 out:{R:Type}->T->(St->List Nat->Option R)->Option R
 nat:∀{R:Type} (t:T) (K:St->List Nat->Option R),out t K=(out t fun τ ns=>some (τ,ns)).bind fun p=>K p.1 p.2
inductive Ex where
 | normal
 | exit (id:Nat)
 | ret
 | flt
def Ex.key:Ex->Nat
 | .normal=>0
 | .ret=>1
 | .flt=>2
 | .exit i=>i+3
def ycf:Nat->Ex
 | 0=> .normal
 | 1=> .ret
 | 2=> .flt
 | i+3=> .exit i
theorem zwr(e:Ex):ycf e.key=e:=by cases e<;>rfl
structure CtrR where
 np:Nat
 cin:Cut
 T:Type
 F:cin.T->Option T
 out:{R:Type}->T->(Ex->St->List Nat->Option R)->Option R
 nat:∀{R:Type} (t:T) (K:Ex->St->List Nat->Option R),out t K=(out t fun e τ ns=>some (e,τ,ns)).bind fun p=>K p.1 p.2.1 p.2.2
def asc(n:Nat):List (Nat×Nat)->Nat
 | []=>n
 | (k,x)::r=>bif ax n k then x else asc n r
mutual
def renV(l:List (Nat×Nat)):AV->AV
 | .own n=> .own (asc n l)
 | .ptr n off=> .ptr (asc n l) off
 | .oel n i off=> .oel (asc n l) i off
 | .yld n=> .yld (asc n l)
 | .clo f cs=> .clo f (y0c l cs)
 | .iface t v=> .iface t (renV l v)
 | .bx cs off=> .bx (y0c l cs) off
 | .agg cs=> .agg (y0c l cs)
 | .tup cs=> .tup (y0c l cs)
 | v=>v
def y0c(l:List (Nat×Nat)):List AV->List AV
 | []=>[]
 | v::vs=>renV l v::y0c l vs
end
def renS(l:List (Nat×Nat)):Stat->Stat
 | .hole i r=> .hole i (asc r l)
 | s=>s
def renO(l:List (Nat×Nat)):MO->MO
 | .box cs s=> .box (y0c l cs) s
 | .sl t xs s=> .sl t xs (renS l s)
 | .rng id cs e=> .rng id (y0c l cs) e
def lents:List (Nat×Option Nat)->Option (List (Nat×Nat))
 | []=>some []
 | (n,some d)::r=>match lents r with | some l=>some ((n,d)::l) | none=>none
 | (_,none)::r=>lents r
def yay(n:Nat):List (Nat×Nat)->Bool
 | []=>false
 | (k,_)::r=>ax n k || yay n r
def z3g(le:List (Nat×Nat))(d:Nat):Nat->List Nat->List (Nat×Nat)
 | _,[]=>[]
 | k,n::r=>bif yay n le then z3g le d k r else(n,d+4096*k)::z3g le d (k+1) r
def yvm(n:Nat):List Nat->Bool
 | []=>true
 | k::r=> !(ax n k)&&yvm n r
def zx6:List Nat->Bool
 | []=>true
 | n::r=>yvm n r&&zx6 r
def apL(τ:Nat->Option MO)(rn:List (Nat×Nat)):List (Nat×Nat)->(Nat->Option MO)->Option (Nat->Option MO)
 | [],m=>some m
 | (n,d)::r,m=>match τ n with
  | some q=>apL τ rn r (mupd m d (renO rn q))
  | none=>match m d with
   | some (.sl t xs .live)=>apL τ rn r (mupd m d (.sl t xs .dead))
   | _=>none
def apN(τ:Nat->Option MO)(rn:List (Nat×Nat)):List (Nat×Nat)->(Nat->Option MO)->Option (Nat->Option MO)
 | [],m=>some m
 | (n,d)::r,m=>match τ n with
  | some q=>match m d with
   | none=>apN τ rn r (mupd m d (renO rn q))
   | some _=>none
  | none=>none
def putO(ρ:Nat->AV)(dst:Option Nat)(v:AV):Nat->AV:=match dst with | some d=>upd ρ d v | none=>ρ
def zfi(rl:List (Nat×Option Nat))(σ:St)(dst:Option Nat)(d:Nat)(τ:St)(ns:List Nat)(K:St->Option R):Option R:=
 match lents rl with
 | some le=>gd (((cj ns.length 200&&zx6 (rl.map (·.1)))&&zx6 (le.map (·.1)++(z3g le d 0 ns).map (·.1)))&&zx6 (le.map (·.2)++(z3g le d 0 ns).map (·.2)))
  (match apL τ.m (le++z3g le d 0 ns) le σ.m with
  | some m1=>match apN τ.m (le++z3g le d 0 ns) (z3g le d 0 ns) m1 with
   | some m2=>K ⟨putO σ.ρ dst (renV (le++z3g le d 0 ns) (τ.ρ 0)),m2⟩
   | none=>none
  | none=>none)
 | none=>none
def rangeIs:Nat->List Nat->List AV->Bool
 | _,[],[]=>true
 | k,t::ts,_::vs=>ax t k&&rangeIs (k+1) ts vs
 | _,_,_=>false
def zi6:List CtrM->St->Option Nat->Nat->List AV->(St->Option R)->Option R
 | [],_,_,_,_,_=>none
 | c::r,σ,dst,d,as,K=>
  match getW (renC (argsA 0 as) σ.m c.cin.objs) c.cin (argsA 0 as) σ.m with
  | some v=>gd (rangeIs 0 c.cin.tms as) (match c.F v with
   | some t=>c.out t fun τ ns=>zfi (renC (argsA 0 as) σ.m c.cin.objs) σ dst d τ ns K
   | none=>none)
  | none=>zi6 r σ dst d as K
structure Ctr where
 T:Type
 dom:List AV->Option (Option T)
 out:{R:Type}->T->(AV->Option R)->Option R
 nat:∀{R:Type} (t:T) (K:AV->Option R),out t K=(out t some).bind K
structure Env where
 ty:TypeId->Option TI
 call:FuncId->List AV->Option Ctr
 callM:FuncId->List CtrM
 callF:FuncId->List CtrM:=fun _=>[]
 rounds:Nat->Option CtrR:=fun _=>none
 meth:TypeId->String->Option FuncId
 eqt:TypeId->List Nat->Bool
 still:Nat->List Nat
 pre:Nat->Bool
def Env.callK{R:Type}(E:Env)(f:FuncId)(as:List AV)(K:AV->Option R):Option R:=
 match E.call f as with
 | some c=>match c.dom as with
  | some o=>match o with
   | some t=>c.out t K
   | none=>none
  | none=>none
 | none=>none
theorem Env.callK_nat{R:Type}(E:Env)(f:FuncId)(as:List AV)(K:AV->Option R):E.callK f as K=(E.callK f as some).bind K:=by
 unfold Env.callK;split
 ·rename_i c _;split
  ·split
   ·exact c.nat _ K
   ·rfl
  ·rfl
 ·rfl
variable {R:Type} (E:Env)
def ofV:Value->AV
 | .bool b=> .bool b
 | .int k n=> .int k n
 | .string s=> .str s.data.toList
 | .pointer none=> .nilp
 | .slice none 0 0=> .nils
 | .nilFunc=> .nilf
 | .nilIface=> .nili
 | _=> .undef
def St.ev(σ:St):Operand->AV
 | .tmp t=>σ.ρ t
 | .const v=>ofV v
 | .func f=> .clo f []
 | .global _=> .undef
def St.put(σ:St)(dst:Option Nat)(v:AV):St:=⟨putO σ.ρ dst v,σ.m⟩
def yko(agg:Bool)(cs:List AV):Option AV:=
 match agg with
 | true=>some (.agg cs)
 | false=>match cs with | [c]=>some c | _=>none
def z2c(ti:TI)(off:Nat)(cs:List AV):Option AV:=
 bif bG (off+ti.size) cs.length then yko ti.d.agg ((cs.drop off).take ti.size)else none
def z1p(off:Nat)(new:List AV)(cs:List AV):List AV:=cs.take off++new++cs.drop (off+new.length)
def inB(i:Int)(n:Nat):Bool:=decide (0<=i)&&decide (i<n)
def rd(t:Ty)(xs:List t.T)(i:Int):t.T:=xs.getD i.toNat t.dflt
def rdL{α:Type}(xs:List α)(i:Int)(d:α):α:=xs.getD i.toNat d
def setL{α:Type}(xs:List α)(i:Int)(y:α):List α:=xs.set i.toNat y
def bt(s:List UInt8)(i:Int):Int:=((s.getD i.toNat 0).toNat:Int)
def U2(s:List UInt8):List Int:=s.map fun b=>(b.toNat:Int)
def z2j(s:List Int):List UInt8:=s.map fun n=>UInt8.ofNat n.toNat
def eqi(a b:Int):Bool:=a==b
def eqb(a b:Bool):Bool:=a==b
def eqs(a b:List UInt8):Bool:=a==b
def lts(a b:List UInt8):Bool:=Op.bytesLess a b
def yyy:AV->Nat
 | .int _ _=>0
 | .bool _=>1
 | .str _=>2
 | _=>3
def z8c:List AV->List Nat
 | []=>[]
 | v::vs=>yyy v::z8c vs
def yb0:AV->AV->Option Bool
 | .int k a, .int l b=>match ikEq k l with | some _=>some (eqi a b) | none=>none
 | .bool a, .bool b=>some (eqb a b)
 | .str a, .str b=>some (eqs a b)
 | _,_=>none
def z95:List AV->List AV->Option Bool
 | [],[]=>some true
 | a::as,b::bs=>match yb0 a b with
  | some x=>match z95 as bs with | some y=>some (x&&y) | none=>none
  | none=>none
 | _,_=>none
def U7(cs:List AV):Bool:=cs.all AV.one
def maxB:Nat:=4398046511104
def maxS:Nat:=4611686018427387904
def binA(op:BinOp)(t:TypeId):AV->AV->Option AV
 | .int k a, .int l b=>
  match op with
  | .shl=>bif decide (0<=b)then some (.int k (k.wrap (a*2^min b.toNat k.bits)))else none
  | .shr=>bif decide (0<=b)then some (.int k (a.fdiv (2^min b.toNat k.bits)))else none
  | op=>
  match ikEq k l with
  | none=>none
  | some _=>
  match op with
  | .add=>some (.int k (k.wrap (a+b)))
  | .sub=>some (.int k (k.wrap (a-b)))
  | .mul=>some (.int k (k.wrap (a*b)))
  | .quo=>bif !(eqi b 0)then some (.int k (k.wrap (a.tdiv b)))else none
  | .rem=>bif !(eqi b 0)then some (.int k (a.tmod b))else none
  | .and=>some (.int k (k.wrap ((BitVec.ofInt k.bits a&&&BitVec.ofInt k.bits b).toNat:Int)))
  | .or=>some (.int k (k.wrap ((BitVec.ofInt k.bits a ||| BitVec.ofInt k.bits b).toNat:Int)))
  | .xor=>some (.int k (k.wrap ((BitVec.ofInt k.bits a^^^BitVec.ofInt k.bits b).toNat:Int)))
  | .andNot=>some (.int k (k.wrap ((BitVec.ofInt k.bits a&&& ~~~BitVec.ofInt k.bits b).toNat:Int)))
  | .eql=>some (.bool (eqi a b))
  | .neq=>some (.bool (!(eqi a b)))
  | .lss=>some (.bool (decide (a<b)))
  | .leq=>some (.bool (decide (a<=b)))
  | .gtr=>some (.bool (decide (b<a)))
  | .geq=>some (.bool (decide (b<=a)))
  | _=>none
 | .str a, .str b=>
  match op with
  | .eql=>some (.bool (eqs a b))
  | .neq=>some (.bool (!(eqs a b)))
  | .add=>bif decide (a.length+b.length<maxS)then some (.str (a++b))else none
  | .lss=>some (.bool (lts a b))
  | .leq=>some (.bool (lts a b || eqs a b))
  | .gtr=>some (.bool (!(lts a b || eqs a b)))
  | .geq=>some (.bool (!(lts a b)))
  | _=>none
 | .bool a, .bool b=>
  match E.ty t with
  | some ⟨.bool,_,_,_,_⟩=>
   match op with
   | .eql=>some (.bool (eqb a b))
   | .neq=>some (.bool (!(eqb a b)))
   | _=>none
  | _=>none
 | .agg xs, .agg ys=>
  bif E.eqt t (z8c xs)then
   match op with
   | .eql=>match z95 xs ys with | some b=>some (.bool b) | none=>none
   | .neq=>match z95 xs ys with | some b=>some (.bool (!b)) | none=>none
   | _=>none
  else none
 | .iface _ _, .nili=>
  match E.ty t with
  | some ⟨.iface,_,_,_,_⟩=>
   match op with
   | .eql=>some (.bool false)
   | .neq=>some (.bool true)
   | _=>none
  | _=>none
 | .nili, .nili=>
  match E.ty t with
  | some ⟨.iface,_,_,_,_⟩=>
   match op with
   | .eql=>some (.bool true)
   | .neq=>some (.bool false)
   | _=>none
  | _=>none
 | _,_=>none
def binN(op:BinOp)(t:TypeId):AV->AV->Option AV
 | .int k a, .int l b=>
  match op with
  | .shl=>some (.int k (k.wrap (a*2^min b.toNat k.bits)))
  | .shr=>some (.int k (a.fdiv (2^min b.toNat k.bits)))
  | op=>
  match ikEq k l with
  | none=>none
  | some _=>
  match op with
  | .add=>some (.int k (k.wrap (a+b)))
  | .sub=>some (.int k (k.wrap (a-b)))
  | .mul=>some (.int k (k.wrap (a*b)))
  | .quo=>some (.int k (k.wrap (a.tdiv b)))
  | .rem=>some (.int k (a.tmod b))
  | .and=>some (.int k (k.wrap ((BitVec.ofInt k.bits a&&&BitVec.ofInt k.bits b).toNat:Int)))
  | .or=>some (.int k (k.wrap ((BitVec.ofInt k.bits a ||| BitVec.ofInt k.bits b).toNat:Int)))
  | .xor=>some (.int k (k.wrap ((BitVec.ofInt k.bits a^^^BitVec.ofInt k.bits b).toNat:Int)))
  | .andNot=>some (.int k (k.wrap ((BitVec.ofInt k.bits a&&& ~~~BitVec.ofInt k.bits b).toNat:Int)))
  | .eql=>some (.bool (eqi a b))
  | .neq=>some (.bool (!(eqi a b)))
  | .lss=>some (.bool (decide (a<b)))
  | .leq=>some (.bool (decide (a<=b)))
  | .gtr=>some (.bool (decide (b<a)))
  | .geq=>some (.bool (decide (b<=a)))
  | _=>none
 | .str a, .str b=>
  match op with
  | .eql=>some (.bool (eqs a b))
  | .neq=>some (.bool (!(eqs a b)))
  | .add=>some (.str (a++b))
  | .lss=>some (.bool (lts a b))
  | .leq=>some (.bool (lts a b || eqs a b))
  | .gtr=>some (.bool (!(lts a b || eqs a b)))
  | .geq=>some (.bool (!(lts a b)))
  | _=>none
 | .bool a, .bool b=>
  match E.ty t with
  | some ⟨.bool,_,_,_,_⟩=>
   match op with
   | .eql=>some (.bool (eqb a b))
   | .neq=>some (.bool (!(eqb a b)))
   | _=>none
  | _=>none
 | .agg xs, .agg ys=>
  bif E.eqt t (z8c xs)then
   match op with
   | .eql=>match z95 xs ys with | some b=>some (.bool b) | none=>none
   | .neq=>match z95 xs ys with | some b=>some (.bool (!b)) | none=>none
   | _=>none
  else none
 | .iface _ _, .nili=>
  match E.ty t with
  | some ⟨.iface,_,_,_,_⟩=>
   match op with
   | .eql=>some (.bool false)
   | .neq=>some (.bool true)
   | _=>none
  | _=>none
 | .nili, .nili=>
  match E.ty t with
  | some ⟨.iface,_,_,_,_⟩=>
   match op with
   | .eql=>some (.bool true)
   | .neq=>some (.bool false)
   | _=>none
  | _=>none
 | _,_=>none
def binG(op:BinOp):AV->AV->Bool
 | .int _ _, .int _ b=>match op with
  | .shl=>decide (0<=b)
  | .shr=>decide (0<=b)
  | .quo=> !(eqi b 0)
  | .rem=> !(eqi b 0)
  | _=>true
 | .str a, .str b=>match op with
  | .add=>decide (a.length+b.length<maxS)
  | _=>true
 | _,_=>true
def isC:Operand->Bool
 | .const _=>true
 | _=>false
def nilG(x y:Operand):AV->AV->Bool
 | .nili, .nili=>isC x || isC y
 | _,_=>true
theorem x5e(op:BinOp)(t:TypeId)(a b:AV)(K:AV->Option R):gd (binG op a b) (match binN E op t a b with | some v=>K v | none=>none)=match binA E op t a b with | some v=>K v | none=>none:=by
 cases a<;>cases b<;>try rfl
 case int.int k a l b=>
  cases op<;>simp only[binG,binN,binA,gd,cond_true]<;>first
   | rfl
   | (cases decide (0<=b)<;>rfl)
   | (cases ikEq k l<;>cases hq:eqi b 0<;>rfl)
   | skip
 case str.str a b=>
  cases op<;>simp only[binG,binN,binA,gd,cond_true]<;>first
   | rfl
   | (cases decide (a.length+b.length<maxS)<;>rfl)
def lenA(m:Nat->Option MO):AV->Option Int
 | .list _ xs=>some xs.length
 | .clip _ xs=>some xs.length
 | .nils=>some 0
 | .str s=>some s.length
 | .own n=>match m n with | some (.sl _ xs .live)=>some xs.length | some (.sl _ xs .still)=>some xs.length | _=>none
 | _=>none
def zrm:Option AV->Int->Option Int
 | none,d=>some d
 | some (.int _ n),_=>some n
 | _,_=>none
def cut2{α:Type}(xs:List α)(l h:Int):List α:=(xs.drop l.toNat).take (h.toNat-l.toNat)
def armN(i:Int)(k:Nat->Option R):Nat->Option R
 | 0=>none
 | n+1=>bif eqi i n then k n else armN i k n
theorem zn5{i:Int}{k:Nat->Option R}{r:R}:∀{n:Nat},armN i k n=some r->∃j:Nat,i=(j:Int)/\j<n/\k j=some r
 | 0,h=>by cases h
 | n+1,h=>by
  simp only[armN]at h;cases e:eqi i n
  ·rw[e]at h;obtain⟨j,h1,h2,h3⟩:=zn5 h;exact⟨j,h1,by omega,h3⟩
  ·rw[e]at h;exact⟨n,eq_of_beq e,by omega,h⟩
def ykx:(Nat->Option (Nat×Nat))->List AV->List (Nat×AV)->Option (List AV)
 | _,cells,[]=>some cells
 | place,cells,(i,v)::rest=>
  match place i with
  | none=>none
  | some (off,size)=>
   bif (ax v.cells.length size&&bG (off+size) cells.length)&&U7 v.cells then
   ykx place (z1p off v.cells cells) rest
   else none
def y0x(m:Nat->Option MO)(t:Ty):List (Nat×AV)->List t.T->Option (List t.T)
 | [],acc=>some acc
 | (i,v)::r,acc=>match dec m t v.cells with | some x=>bif cj i acc.length then y0x m t r (acc.set i x)else none | none=>none
def ypj(fs:List (Nat×TypeId)):Option (List (Nat×Nat)):=
 match fs with
 | []=>some []
 | (o,t)::r=>match E.ty t with
  | some ti=>match ypj r with | some l=>some ((o,ti.size)::l) | none=>none
  | none=>none
def elemTy(t:TypeId):Option (TypeId×TI×Ty):=
 match E.ty t with
 | some ⟨.slice e,_,_,_,_⟩=>
  match E.ty e with
  | some ti=>match ti.ty with | some ty=>some (e,ti,ty) | none=>none
  | none=>none
 | _=>none
def x53(fs cs:List AV):List AV:=match fs with
 | []=>cs
 | f::fs=> .tup (f::fs)::cs
def cloArgs:List AV->List AV->Option (List AV)
 | .undef::_,_=>none
 | .tup fs::cs,as=>some (fs++(as++cs))
 | cs,as=>some (as++cs)
def W2(dst:Option Nat)(op:Op)(ev:Operand->AV)(m:Nat->Option MO)(K:AV->Option MO->Option R):Option R:=
 match op with
 | .move x=>K (ev x) none
 | .nilCheck x=>match ev x with
  | .ptr n off=>K (.ptr n off) none
  | .oel n i off=>K (.oel n i off) none
  | .bx cs off=>K (.bx cs off) none
  | .ro t y off=>K (.ro t y off) none
  | _=>none
 | .assign x=>K (ev x) none
 | .pick c a b=>match ev c with
  | .bool x=>bif x then K (ev a) none else K (ev b) none
  | _=>none
 | .alloc t=>match E.ty t,dst with
  | some ti,some d=>K (.ptr d 0) (some (.box (ti.zero.map Z.av) .live))
  | _,_=>none
 | .box _ x=>match dst with
  | some d=>gd (U7 (ev x).cells) (K (.ptr d 0) (some (.box (ev x).cells .live)))
  | none=>none
 | .load t a=>match E.ty t with
  | none=>none
  | some ti=>match ev a with
   | .ptr n off=>match m n with
    | some (.box cs .live)=>match z2c ti off cs with | some v=>K v none | none=>none
    | some (.box cs .still)=>match z2c ti off cs with | some v=>K v none | none=>none
    | _=>none
   | .bx cs off=>match z2c ti off cs with | some v=>K v none | none=>none
   | .ro t' x off=>match z2c ti off (enc t' x)with | some v=>K v none | none=>none
   | .oel n i off=>match m n with
    | some (.sl t' xs .live)=>match z2c ti off (enc t' (xs.getD i t'.dflt))with | some v=>K v none | none=>none
    | some (.sl t' xs .still)=>match z2c ti off (enc t' (xs.getD i t'.dflt))with | some v=>K v none | none=>none
    | some (.sl t' _ (.hole j r))=>gd (ax t'.size 1&&ax i j) (match z2c ti off [.own r]with | some v=>K v none | none=>none)
    | _=>none
   | _=>none
 | .binOp op t x y _=>gd (nilG x y (ev x) (ev y)) (gd (binG op (ev x) (ev y)) (match binN E op t (ev x) (ev y)with
  | some v=>K v none
  | none=>none))
 | .unOp .not _ x=>match ev x with
  | .bool b=>K (.bool (!b)) none
  | _=>none
 | .unOp .neg _ x=>match ev x with
  | .int k n=>K (.int k (k.wrap (0-n))) none
  | _=>none
 | .convert q t x=>match E.ty q,E.ty t with
  | some _,some ti=>match ti.d,ev x with
   | .int k, .int _ n=>K (.int k (k.wrap n)) none
   | .str, .int _ n=>K (.str (Utf8.encode n).data.toList) none
   | .str, .str s=>K (.str s) none
   | .str,v=>match elemTy E q with
    | some (_,_, .int .u8)=>match zb7 m (.int .u8) v with
     | some xs=>K (.str (z2j xs)) none
     | none=>none
    | _=>none
   | .slice _, .str s=>match elemTy E t,dst with
    | some (_,_, .int .u8),some d=>gd (decide (s.length<maxB)) (K (.own d) (some (.sl (.int .u8) (U2 s) .live)))
    | _,_=>none
   | _,_=>none
  | _,_=>none
 | .makeInterface t x=>match E.ty t with
  | some ti=>match ti.d with
   | .iface=>none
   | _=>K (.iface t (ev x)) none
  | none=>none
 | .makeFunc (.func f) first caps=>gd (U7 (first.toList.map ev)&&U7 (caps.toList.map ev)) (K (.clo f (x53 (first.toList.map ev) (caps.toList.map ev))) none)
 | .fieldAddr s x f=>match E.ty s with
  | some ti=>match ti.d with
   | .struct fs=>match fs[f]? with
    | some (fo,ft)=>match E.ty ft with
     | some fi=>gd (cj 0 fi.size) (match ev x with
      | .ptr n off=>K (.ptr n (off+fo)) none
      | .bx cs off=>K (.bx cs (off+fo)) none
      | .ro t y off=>K (.ro t y (off+fo)) none
      | .oel n i off=>K (.oel n i (off+fo)) none
      | _=>none)
     | none=>none
    | none=>none
   | _=>none
  | none=>none
 | .indexAddr T x i=>match ev i with
  | .int _ i=>match E.ty T with
   | some ti=>match ti.d with
    | .slice e=>match E.ty e with
     | some ei=>match ev x with
      | .list t xs=>gd (ax t.size ei.size&&inB i xs.length) (K (.ro t (rd t xs i) 0) none)
      | .clip t xs=>gd (ax t.size ei.size&&inB i xs.length) (K (.ro t (rd t xs i) 0) none)
      | .own n=>match m n with
       | some (.sl t xs .live)=>gd (ax t.size ei.size&&inB i xs.length) (K (.oel n i.toNat 0) none)
       | some (.sl t xs .still)=>gd (ax t.size ei.size&&inB i xs.length) (K (.ro t (rd t xs i) 0) none)
       | some (.sl t xs (.hole _ _))=>gd (ax t.size ei.size&&inB i xs.length) (K (.oel n i.toNat 0) none)
       | _=>none
      | _=>none
     | none=>none
    | .arr len e=>match E.ty e with
     | some ei=>armN i (fun i=>match ev x with
      | .ptr n off=>K (.ptr n (off+i*ei.size)) none
      | .bx cs off=>K (.bx cs (off+i*ei.size)) none
      | .ro t y off=>K (.ro t y (off+i*ei.size)) none
      | .oel n j off=>K (.oel n j (off+i*ei.size)) none
      | _=>none) len
     | none=>none
    | _=>none
   | none=>none
  | _=>none
 | .index T x i=>match ev i with
  | .int _ i=>match E.ty T with
   | some ti=>match ti.d,ev x with
    | .str, .str s=>gd (inB i s.length) (K (.int .u8 (bt s i)) none)
    | .arr len e, .agg cs=>match E.ty e with
     | some ei=>armN i (fun i=>match z2c ei (i*ei.size) cs with | some v=>K v none | none=>none) len
     | none=>none
    | _,_=>none
   | none=>none
  | _=>none
 | .field T x f=>match E.ty T with
  | some ti=>match ti.d,ev x with
   | .struct fs, .agg cs=>match fs[f]? with
    | some (fo,ft)=>match E.ty ft with
     | some fi=>match z2c fi fo cs with | some v=>K v none | none=>none
     | none=>none
    | none=>none
   | _,_=>none
  | none=>none
 | .slice T x lo hi mx=>match E.ty T with
  | some ti=>match ti.d,ev x with
   | .str, .str s=>match mx with
    | none=>match zrm (lo.map ev) 0,zrm (hi.map ev) s.length with
     | some l,some h=>gd (decide (0<=l)&&(decide (l<=h)&&decide (h<=s.length))) (K (.str (cut2 s l h)) none)
     | _,_=>none
    | some _=>none
   | .slice _,v=>match elemTy E T with
    | some (_,ei,ty)=>match z4i m ty v with
     | some xs=>match zrm (lo.map ev) 0,zrm (hi.map ev) xs.length with
      | some l,some h=>match mx with
       | none=>gd (ax ty.size ei.size&&(decide (0<=l)&&(decide (l<=h)&&decide (h<=xs.length)))) (K (.list ty (cut2 xs l h)) none)
       | some mx=>match ev mx with
        | .int _ q=>gd (ax ty.size ei.size&&((decide (0<=l)&&(decide (l<=h)&&decide (h<=xs.length)))&&(eqi q h&&hi.isSome))) (K (.clip ty (cut2 xs l h)) none)
        | _=>none
      | _,_=>none
     | none=>none
    | none=>none
   | _,_=>none
  | none=>none
 | .build t parts=>match E.ty t with
  | some ti=>match ti.d with
   | .struct fs=>match ypj E fs with
    | some l=>match ykx (fun i=>l[i]?) (ti.zero.map Z.av) (parts.toList.map fun p=>(p.1,ev p.2))with
     | some cs=>K (.agg cs) none
     | none=>none
    | none=>none
   | .arr _ e=>match E.ty e with
    | some ei=>match ykx (fun i=>some (i*ei.size,ei.size)) (ti.zero.map Z.av) (parts.toList.map fun p=>(p.1,ev p.2))with
     | some cs=>K (.agg cs) none
     | none=>none
    | none=>none
   | _=>none
  | none=>none
 | .buildSlice t n parts=>match elemTy E t,dst with
  | some (_,ei,ty),some d=>gd (bG (n*ei.size) 16777216) (match y0x m ty (parts.toList.map fun p=>(p.1,ev p.2)) (az n ty.dflt)with
   | some xs=>K (.own d) (some (.sl ty xs .live))
   | none=>none)
  | _,_=>none
 | .makeSlice t n c=>match elemTy E t,dst,ev n,ev c with
  | some (_,ei,ty),some d, .int _ n, .int _ c=>
   gd ((decide (0<=n)&&decide (n<=c))&&(decide (c<maxB)&&decide (c*ei.bytes<maxB))) (K (.own d) (some (.sl ty (az n.toNat ty.dflt) .live)))
  | _,_,_,_=>none
 | .extract t i=>match ev t with
  | .tup vs=>match vs[i]? with | some v=>K v none | none=>none
  | _=>none
 | .call ⟨.builtin .len,args,ts⟩=>match args.toList,ts.toList with
  | [x],[t]=>match E.ty t with
   | some ti=>match ti.d with
    | .str=>match ev x with | .str s=>K (.int .i64 s.length) none | _=>none
    | .slice _=>match ev x with
     | .str _=>none
     | v=>match lenA m v with | some n=>K (.int .i64 n) none | none=>none
    | .arr n _=>K (.int .i64 n) none
    | _=>none
   | none=>none
  | _,_=>none
 | .call ⟨.builtin .min,args,_⟩=>match args.toList.map ev with
  | [.str a, .str b]=>K (.str (bif lts a b || eqs a b then a else b)) none
  | [.int k a, .int l b]=>match ikEq k l with | some _=>K (.int k (bif decide (b<a)then b else a)) none | none=>none
  | _=>none
 | .call ⟨.builtin .max,args,_⟩=>match args.toList.map ev with
  | [.str a, .str b]=>K (.str (bif !(lts a b)then a else b)) none
  | [.int k a, .int l b]=>match ikEq k l with | some _=>K (.int k (bif decide (a<b)then b else a)) none | none=>none
  | _=>none
 | _=>none
end Go.Dv
namespace Go.Dv
open Go.RowKit
def CellsAt(w:World)(b o:Nat)(cs:List Value):Prop:=∀j u,cs[j]? =some u->w.cell? ⟨b,o+j,none⟩=some u
def getq{α:Type}(xs:List α)(i:Nat):Option α:=xs[i]?
def RepT(w:World)(S:Nat->Prop):(t:Ty)->t.T->List Value->Prop
 | .int k,n,cs=>cs=[.int k n]
 | .bool,b,cs=>cs=[.bool b]
 | .str,s,cs=>cs=[.string ⟨bX s⟩]
 | .unit,_,cs=>cs=[]
 | .pair a b,x,cs=>∃c d,cs=c++d/\RepT w S a x.1 c/\RepT w S b x.2 d
 | .list t,xs,cs=>∃ao cap,cs=[.slice ao (ak xs) cap]/\ak xs<=cap/\(ao=none->cap=0)/\(∀a,ao=some a->ak xs≠0->a.spot=none)/\
   (∀i (x:t.T),getq (α:=t.T) xs i=some x->∃a c,ao=some a/\S a.block/\RepT w S t x c/\CellsAt w a.block (a.off+i*t.size) c)
structure Loc where
 a:Option Addr
 cap:Nat
def mkFn(f:FuncId):List Value->Value
 | .tuple us::vs=> .func (.func f) us (bX vs)
 | vs=> .func (.func f) #[] (bX vs)
theorem yi1{f:FuncId}{u:Value}{us:List Value}(h:∀a,u≠ .tuple a):mkFn f (u::us)= .func (.func f) #[] (bX (u::us)):=by cases u<;>first | rfl | exact absurd rfl (h _)
mutual
def RepA(w:World)(S:Nat->Prop)(γ:Nat->Loc)(m:Nat->Option MO):AV->Value->Prop
 | .undef,_=>True
 | .int k n,v=>v= .int k n
 | .bool b,v=>v= .bool b
 | .str s,v=>v= .string ⟨s.toArray⟩
 | .nils,v=>v= .slice none 0 0
 | .nilp,v=>v= .pointer none
 | .nilf,v=>v= .nilFunc
 | .nili,v=>v= .nilIface
 | .list t xs,v=>RepT w S (.list t) xs [v]
 | .clip t xs,v=>(∃ao,v= .slice ao xs.length xs.length)/\RepT w S (.list t) xs [v]
 | .fresh _ _,_=>False
 | .own n,v=>∃t xs s,m n=some (.sl t xs s)/\v= .slice (γ n).a xs.length (γ n).cap
 | .ptr n off,v=>∃cs s b,m n=some (.box cs s)/\(γ n).a=some ⟨b,0,none⟩/\v= .pointer (some ⟨b,off,none⟩)
 | .oel n i off,v=>∃t xs s b,m n=some (.sl t xs s)/\(γ n).a=some ⟨b,0,none⟩/\i<xs.length/\v= .pointer (some ⟨b,i*t.size+off,none⟩)
 | .yld n,v=>∃id cs e l,m n=some (.rng id cs e)/\(γ n).a=some ⟨l,0,none⟩/\v= .func (.yield l) #[] #[]
 | .bx cs off,v=>∃b vs,v= .pointer (some ⟨b,off,none⟩)/\S b/\RepAs w S γ m cs vs/\U7 cs=true/\CellsAt w b 0 vs
 | .ro t x off,v=>∃b o cs,v= .pointer (some ⟨b,o+off,none⟩)/\S b/\RepT w S t x cs/\CellsAt w b o cs
 | .clo f caps,v=>∃vs,v=mkFn f vs/\RepAs w S γ m caps vs
 | .iface t x,v=>∃u,v= .iface t u/\RepA w S γ m x u
 | .agg cs,v=>∃vs,v= .agg (bX vs)/\RepAs w S γ m cs vs/\U7 cs=true
 | .tup cs,v=>∃vs,v= .tuple (bX vs)/\RepAs w S γ m cs vs
def RepAs(w:World)(S:Nat->Prop)(γ:Nat->Loc)(m:Nat->Option MO):List AV->List Value->Prop
 | [],vs=>vs=[]
 | c::cs,vs=>∃u us,vs=u::us/\RepA w S γ m c u/\RepAs w S γ m cs us
end
theorem x1a{f:FuncId}{vs:List Value}{a:Array Value}:mkFn f vs≠ .tuple a:=by unfold mkFn;split<;>intro h<;>cases h
theorem RepA.notTup{w:World}{S:Nat->Prop}{γ:Nat->Loc}{m:Nat->Option MO}{c:AV}{u:Value}(h:RepA w S γ m c u)(hu:c≠ .undef)(ht:∀cs,c≠ .tup cs)(a:Array Value):u≠ .tuple a:=by
 intro e;subst e;cases c with
 | undef=>exact hu rfl
 | tup cs=>exact ht cs rfl
 | int k n=>cases h
 | bool b=>cases h
 | str s=>cases h
 | nils=>cases h
 | nilp=>cases h
 | nilf=>cases h
 | nili=>cases h
 | list t xs=>obtain⟨_,_,h,_⟩:=h;cases h
 | clip t xs=>obtain⟨⟨_,h⟩,_⟩:=h;cases h
 | fresh t xs=>exact h
 | own n=>obtain⟨_,_,_,_,h⟩:=h;cases h
 | ptr n off=>obtain⟨_,_,_,_,_,h⟩:=h;cases h
 | oel n i off=>obtain⟨_,_,_,_,_,_,_,h⟩:=h;cases h
 | yld n=>obtain⟨_,_,_,_,_,_,h⟩:=h;cases h
 | bx cs off=>obtain⟨_,_,h,_⟩:=h;cases h
 | ro t x off=>obtain⟨_,_,_,h,_⟩:=h;cases h
 | clo f caps=>obtain⟨_,h,_⟩:=h;exact x1a h.symm
 | iface t x=>obtain⟨_,h,_⟩:=h;cases h
 | agg cs=>obtain⟨_,h,_⟩:=h;cases h
theorem RepAs.app0{w:World}{S:Nat->Prop}{γ:Nat->Loc}{m:Nat->Option MO}:∀{as:List AV} {xs:List Value} {bs:List AV} {ys:List Value},RepAs w S γ m as xs->RepAs w S γ m bs ys->RepAs w S γ m (as++bs) (xs++ys)
 | [],xs,bs,ys,h,h'=>by cases (show xs=[]from h);exact h'
 | a::as,xs,bs,ys,h,h'=>by obtain⟨u,us,rfl,h1,h2⟩:=h;exact⟨u,us++ys,rfl,h1,RepAs.app0 h2 h'⟩
theorem zrl{w:World}{S:Nat->Prop}{γ:Nat->Loc}{m:Nat->Option MO}{f:FuncId}{caps as l:List AV}{v:Value}{xs:List Value}(h:RepA w S γ m (.clo f caps) v)(hl:cloArgs caps as=some l)(ha:RepAs w S γ m as xs):
  ∃us vs:List Value,v= .func (.func f) us.toArray vs.toArray/\RepAs w S γ m l (us++(xs++vs)):=by
 obtain⟨vs,rfl,h2⟩:=h
 match caps,h2,hl with
 | [],h2,hl=>cases (show vs=[]from h2);cases (show some (as++[])=some l from hl);exact⟨[],[],rfl,(show RepAs w S γ m (as++[]) (xs++[])from RepAs.app0 ha rfl)⟩
 | c::cs,h2,hl=>
  obtain⟨u,us,rfl,h3,h4⟩:=h2;by_cases hu:c= .undef
  ·subst hu;cases hl
  by_cases ht:∃fs,c= .tup fs
  ·obtain⟨fs,rfl⟩:=ht;obtain⟨ws,rfl,h5⟩:=h3;cases (show some (fs++(as++cs))=some l from hl);exact⟨ws,us,rfl,RepAs.app0 h5 (RepAs.app0 ha h4)⟩
  ·have hn:=RepA.notTup h3 hu (fun fs e=>ht ⟨fs,e⟩);have hl':some (as++c::cs)=some l:=by
    rw[<-hl];cases c<;>first | rfl | exact absurd rfl hu | exact absurd ⟨_,rfl⟩ ht
   cases hl';exact⟨[],u::us,yi1 hn,(show RepAs w S γ m (as++c::cs) (xs++u::us)from RepAs.app0 ha ⟨u,us,rfl,h3,h4⟩)⟩
def MO.kind:MO->Nat×Nat
 | .box _ _=>(0,0)
 | .sl t xs _=>(1+t.size,xs.length)
 | .rng id _ _=>(0,1+id)
def Keeps(m:Nat->Option MO)(γ:Nat->Loc)(m':Nat->Option MO)(γ':Nat->Loc):Prop:=
 ∀n o,m n=some o->∃o',m' n=some o'/\o'.kind=o.kind/\γ' n=γ n
theorem Keeps.refl(m:Nat->Option MO)(γ:Nat->Loc):Keeps m γ m γ:=fun _ o h=>⟨o,h,rfl,rfl⟩
theorem Keeps.trans{m m' m'':Nat->Option MO}{γ γ' γ'':Nat->Loc}(h:Keeps m γ m' γ')(h':Keeps m' γ' m'' γ''):Keeps m γ m'' γ'':=by intro n o ho;obtain⟨o',h1,h2,h3⟩:=h n o ho;obtain⟨o'',k1,k2,k3⟩:=h' n o' h1;exact⟨o'',k1,k2.trans h2,k3.trans h3⟩
theorem yex{o:MO}{cs:List AV}{s:Stat}(h:o.kind=(MO.box cs s).kind):∃cs' s',o= .box cs' s':=by
 cases o with
 | box cs' s'=>exact⟨_,_,rfl⟩
 | sl t xs s'=>simp only[MO.kind,cR.injEq]at h;omega
 | rng id cs' e=>simp only[MO.kind,cR.injEq]at h;omega
theorem y76{o:MO}{t:Ty}{xs:List t.T}{s:Stat}(h:o.kind=(MO.sl t xs s).kind):∃t' xs' s',o= .sl t' xs' s'/\t'.size=t.size/\xs'.length=xs.length:=by
 cases o with
 | box cs' s'=>simp only[MO.kind,cR.injEq]at h;omega
 | sl t' xs' s'=>simp only[MO.kind,cR.injEq]at h;exact⟨_,_,_,rfl,by omega,by omega⟩
 | rng id cs e=>simp only[MO.kind,cR.injEq]at h;omega
theorem yew{o:MO}{id:Nat}{cs:List AV}{e:Option Nat}(h:o.kind=(MO.rng id cs e).kind):∃cs' e',o= .rng id cs' e':=by
 cases o with
 | box cs' s'=>simp only[MO.kind,cR.injEq]at h;omega
 | sl t xs s=>simp only[MO.kind,cR.injEq]at h;omega
 | rng id' cs' e'=>
  simp only[MO.kind,cR.injEq]at h;have:id'=id:=by omega
  subst this;exact⟨_,_,rfl⟩
theorem CellsAt.mono{w w':World}{b o:Nat}{cs:List Value}(h:CellsAt w b o cs)(hb:w'.heap[b]? =w.heap[b]?):CellsAt w' b o cs:=by intro j u hj;rw[World.cell?_of_block (w:=w) hb];exact h j u hj
theorem RepT.mono{w w':World}{S S':Nat->Prop}(hw:∀b,S b->w'.heap[b]? =w.heap[b]?)(hS:∀b,S b->S' b):
  ∀(t:Ty) (x:t.T) (cs:List Value),RepT w S t x cs->RepT w' S' t x cs
 | .int _,_,_,h=>h
 | .bool,_,_,h=>h
 | .str,_,_,h=>h
 | .unit,_,_,h=>h
 | .pair a b,x,cs,h=>by obtain⟨c,d,rfl,h1,h2⟩:=h;exact⟨c,d,rfl,RepT.mono hw hS a _ _ h1,RepT.mono hw hS b _ _ h2⟩
 | .list t,xs,cs,h=>by obtain⟨ao,cap,rfl,h1,h2,h3,h4⟩:=h;refine⟨ao,cap,rfl,h1,h2,h3, ?_⟩;intro i x hx;obtain⟨a,c,e,hs,hr,hc⟩:=h4 i x hx;exact⟨a,c,e,hS _ hs,RepT.mono hw hS t _ _ hr,hc.mono (hw _ hs)⟩
mutual
theorem RepA.mono{w w':World}{S S':Nat->Prop}{γ γ':Nat->Loc}{m m':Nat->Option MO}(hw:∀b,S b->w'.heap[b]? =w.heap[b]?)(hS:∀b,S b->S' b)(hk:Keeps m γ m' γ'):
  ∀(v:AV) (x:Value),RepA w S γ m v x->RepA w' S' γ' m' v x
 | .undef,_,_=>trivial
 | .int _ _,_,h=>h
 | .bool _,_,h=>h
 | .str _,_,h=>h
 | .nils,_,h=>h
 | .nilp,_,h=>h
 | .nilf,_,h=>h
 | .nili,_,h=>h
 | .list t xs,v,h=>RepT.mono hw hS (.list t) xs [v] h
 | .clip t xs,v,h=>⟨h.1,RepT.mono hw hS (.list t) xs [v] h.2⟩
 | .fresh _ _,_,h=>h
 | .own n,v,h=>by obtain⟨t,xs,s,h1,h2⟩:=h;obtain⟨o',k1,k2,k3⟩:=hk n _ h1;obtain⟨t',xs',s',rfl,_,e⟩:=y76 k2;exact⟨t',xs',s',k1,by rw[k3,e];exact h2⟩
 | .ptr n off,v,h=>by obtain⟨cs,s,b,h1,h2,h3⟩:=h;obtain⟨o',k1,k2,k3⟩:=hk n _ h1;obtain⟨cs',s',rfl⟩:=yex k2;exact⟨cs',s',b,k1,by rw[k3];exact h2,h3⟩
 | .oel n i off,v,h=>by obtain⟨t,xs,s,b,h1,h2,h3,h4⟩:=h;obtain⟨o',k1,k2,k3⟩:=hk n _ h1;obtain⟨t',xs',s',rfl,e1,e2⟩:=y76 k2;exact⟨t',xs',s',b,k1,by rw[k3];exact h2,by rw[e2];exact h3,by rw[e1];exact h4⟩
 | .yld n,v,h=>by obtain⟨id,cs,e,l,h1,h2,h3⟩:=h;obtain⟨o',k1,k2,k3⟩:=hk n _ h1;obtain⟨cs',e',rfl⟩:=yew k2;exact⟨id,cs',e',l,k1,by rw[k3];exact h2,h3⟩
 | .bx cs off,v,h=>by obtain⟨b,vs,h1,h2,h3,h4,h5⟩:=h;exact⟨b,vs,h1,hS _ h2,RepAs.mono hw hS hk cs vs h3,h4,h5.mono (hw _ h2)⟩
 | .ro t x off,v,h=>by obtain⟨b,o,cs,h1,h2,h3,h4⟩:=h;exact⟨b,o,cs,h1,hS _ h2,RepT.mono hw hS t x cs h3,h4.mono (hw _ h2)⟩
 | .clo f caps,v,h=>by obtain⟨vs,h1,h2⟩:=h;exact⟨vs,h1,RepAs.mono hw hS hk caps vs h2⟩
 | .iface t x,v,h=>by obtain⟨u,h1,h2⟩:=h;exact⟨u,h1,RepA.mono hw hS hk x u h2⟩
 | .agg cs,v,h=>by obtain⟨vs,h1,h2,h3⟩:=h;exact⟨vs,h1,RepAs.mono hw hS hk cs vs h2,h3⟩
 | .tup cs,v,h=>by obtain⟨vs,h1,h2⟩:=h;exact⟨vs,h1,RepAs.mono hw hS hk cs vs h2⟩
theorem RepAs.mono{w w':World}{S S':Nat->Prop}{γ γ':Nat->Loc}{m m':Nat->Option MO}(hw:∀b,S b->w'.heap[b]? =w.heap[b]?)(hS:∀b,S b->S' b)(hk:Keeps m γ m' γ'):
  ∀(cs:List AV) (vs:List Value),RepAs w S γ m cs vs->RepAs w' S' γ' m' cs vs
 | [],_,h=>h
 | c::cs,vs,h=>by obtain⟨u,us,h1,h2,h3⟩:=h;exact⟨u,us,h1,RepA.mono hw hS hk c u h2,RepAs.mono hw hS hk cs us h3⟩
end
section lists
variable {w:World} {S:Nat->Prop} {γ:Nat->Loc} {m:Nat->Option MO}
theorem RepAs.length:∀{cs:List AV} {vs:List Value},RepAs w S γ m cs vs->vs.length=cs.length
 | [],vs,h=>by simp only[RepAs]at h;subst h;rfl
 | c::cs,vs,h=>by obtain⟨u,us,rfl,_,h3⟩:=h;simp[RepAs.length h3]
theorem RepAs.append:∀{cs ds:List AV} {vs us:List Value},RepAs w S γ m cs vs->RepAs w S γ m ds us->RepAs w S γ m (cs++ds) (vs++us)
 | [],ds,vs,us,h,h'=>by simp only[RepAs]at h;subst h;exact h'
 | c::cs,ds,vs,us,h,h'=>by obtain⟨x,xs,rfl,h2,h3⟩:=h;exact⟨x,xs++us,rfl,h2,RepAs.append h3 h'⟩
theorem RepAs.get:∀{cs:List AV} {vs:List Value} {i:Nat} {c:AV},RepAs w S γ m cs vs->cs[i]? =some c->∃u,vs[i]? =some u/\RepA w S γ m c u
 | [],_,_,_,_,e=>by simp at e
 | d::cs,vs,0,c,h,e=>by obtain⟨u,us,rfl,h2,_⟩:=h;simp at e;subst e;exact⟨u,rfl,h2⟩
 | d::cs,vs,i+1,c,h,e=>by obtain⟨u,us,rfl,_,h3⟩:=h;obtain⟨u',h4,h5⟩:=RepAs.get h3 (by simpa using e);exact⟨u',by simpa using h4,h5⟩
theorem RepAs.drop:∀{cs:List AV} {vs:List Value} (n:Nat),RepAs w S γ m cs vs->RepAs w S γ m (cs.drop n) (vs.drop n)
 | _,_,0,h=>by simpa using h
 | [],vs,n+1,h=>by simp only[RepAs]at h;subst h;simp[RepAs]
 | c::cs,vs,n+1,h=>by obtain⟨u,us,rfl,_,h3⟩:=h;simpa using RepAs.drop n h3
theorem RepAs.take:∀{cs:List AV} {vs:List Value} (n:Nat),RepAs w S γ m cs vs->RepAs w S γ m (cs.take n) (vs.take n)
 | _,_,0,_=>by simp[RepAs]
 | [],vs,n+1,h=>by simp only[RepAs]at h;subst h;simp[RepAs]
 | c::cs,vs,n+1,h=>by obtain⟨u,us,rfl,h2,h3⟩:=h;exact⟨u,us.take n,by simp,h2,RepAs.take n h3⟩
theorem RepAs.map{ev:Operand->AV}{el:Operand->Value}(h:∀x,RepA w S γ m (ev x) (el x)):∀(l:List Operand),RepAs w S γ m (l.map ev) (l.map el)
 | []=>rfl
 | x::l=>⟨el x,l.map el,rfl,h x,RepAs.map h l⟩
theorem RepT.length:∀{t:Ty} {x:t.T} {cs:List Value},RepT w S t x cs->cs.length=t.size
 | .int _,_,_,h=>by simp only[RepT]at h;subst h;rfl
 | .bool,_,_,h=>by simp only[RepT]at h;subst h;rfl
 | .str,_,_,h=>by simp only[RepT]at h;subst h;rfl
 | .unit,_,_,h=>by simp only[RepT]at h;subst h;rfl
 | .pair a b,x,cs,h=>by obtain⟨c,d,rfl,h1,h2⟩:=h;simp[RepT.length h1,RepT.length h2,Ty.size]
 | .list t,xs,cs,h=>by obtain⟨ao,cap,rfl,_⟩:=h;rfl
theorem RepT.enc:∀{t:Ty} {x:t.T} {cs:List Value},RepT w S t x cs->RepAs w S γ m (enc t x) cs
 | .int _,_,_,h=>⟨_,[],h,rfl,rfl⟩
 | .bool,_,_,h=>⟨_,[],h,rfl,rfl⟩
 | .str,_,_,h=>⟨_,[],h,rfl,rfl⟩
 | .unit,_,_,h=>h
 | .pair a b,x,cs,h=>by obtain⟨c,d,rfl,h1,h2⟩:=h;exact RepAs.append (RepT.enc h1) (RepT.enc h2)
 | .list t,xs,cs,h=>by obtain⟨ao,cap,rfl,h1⟩:=h;exact⟨_,[],rfl,⟨ao,cap,rfl,h1⟩,rfl⟩
theorem z52(a b:List AV):U7 (a++b)=(U7 a&&U7 b):=by simp[U7]
theorem z85:∀(t:Ty) (x:t.T),U7 (enc t x)=true
 | .int _,_=>rfl
 | .bool,_=>rfl
 | .str,_=>rfl
 | .unit,_=>rfl
 | .pair a b,x=>by rw[enc,z52,z85 a,z85 b];rfl
 | .list _,_=>rfl
theorem yn9{c:AV}{u:Value}(hc:c.one=true)(h:RepA w S γ m c u):u.oneCell'=true:=by
 cases c<;>simp only[AV.one,Bool.false_eq_true]at hc<;>simp only[RepA]at h
 case int=>subst h;rfl
 case bool=>subst h;rfl
 case str=>subst h;rfl
 case nils=>subst h;rfl
 case nilp=>subst h;rfl
 case nilf=>subst h;rfl
 case nili=>subst h;rfl
 case list=>obtain⟨ao,cap,e,_⟩:=h;simp at e;subst e;rfl
 case clip=>obtain⟨⟨ao,rfl⟩,_⟩:=h;rfl
 case own=>obtain⟨_,_,_,_,rfl⟩:=h;rfl
 case ptr=>obtain⟨_,_,_,_,_,rfl⟩:=h;rfl
 case oel=>obtain⟨_,_,_,_,_,_,_,rfl⟩:=h;rfl
 case yld=>obtain⟨_,_,_,_,_,_,rfl⟩:=h;rfl
 case bx=>obtain⟨_,_,rfl,_⟩:=h;rfl
 case ro=>obtain⟨_,_,_,rfl,_⟩:=h;rfl
 case clo=>obtain⟨_,rfl,_⟩:=h;unfold mkFn;split<;>rfl
 case iface=>obtain⟨_,rfl,_⟩:=h;rfl
theorem zs9:∀{cs:List AV} {vs:List Value},U7 cs=true->RepAs w S γ m cs vs->∀u∈vs,u.oneCell'=true
 | [],vs,_,h=>by simp only[RepAs]at h;subst h;simp
 | c::cs,vs,ha,h=>by
  obtain⟨u,us,rfl,h2,h3⟩:=h;simp only[U7,bc,ab]at ha;intro x hx;rcases List.mem_cons.1 hx with rfl | hx
  ·exact yn9 ha.1 h2
  ·exact zs9 (by simpa[U7] using ha.2) h3 x hx
end lists
def Loc.blk(l:Loc):Option Nat:=l.a.map (·.block)
def MO.live:MO->Bool
 | .box _ .live=>true
 | .sl _ _ .live=>true
 | .sl _ _ (.hole _ _)=>true
 | .rng _ _ (some _)=>true
 | _=>false
structure LInfo where
 ps:Array Tmp
 tms:List Nat
 assign:Code
 body:Code
 nt:Nat
class LTab where
 tab:Nat->LInfo
 flt:TypeId:=0
def stOf:Nat->LoopState×Option Code
 | 0=>(.ready,none)
 | 1=>(.done,some .ret)
 | 2=>(.done,none)
 | i+3=>(.done,some (.exit i))
variable [LTab]
def fzW(n:Nat)(fz:Nat×Nat):Prop:=∀i,i<n->¬(fz.1<=i/\i<fz.2)
def x5t:Ty->Bool
 | .int k=>match k with | .u8=>false | _=>true
 | _=>true
def fzOK(t:Ty)(n:Nat)(fz:Nat×Nat):Prop:=∀i,(i<n\/(i=n/\x5t t=true))->¬(fz.1<=i/\i<fz.2)
theorem fzOK.weak{t:Ty}{n:Nat}{fz:Nat×Nat}(h:fzOK t n fz):fzW n fz:=fun i hi=>h i (.inl hi)
structure RowRel (w:World) (S:Nat->Prop) (l:Loc) (t:Ty) (xs:List t.T) (s:Stat):Prop where
 len:xs.length<=l.cap
 cap:l.cap<=maxLen
 nil:l.a=none->l.cap=0
 row:∀a,l.a=some a->∃b arr el fz,a=⟨b,0,none⟩/\w.heap[b]? =some (.cells arr el fz)/\arr.size=l.cap*t.size/\fzOK t arr.size fz/\
  (∀i (x:t.T),getq xs i=some x->∃c,RepT w S t x c/\∀j u,c[j]? =some u->arr[i*t.size+j]? =some u)/\
  (s= .live->¬S b)/\(s= .still->S b)
structure HoleRel (w:World) (S:Nat->Prop) (γ:Nat->Loc) (m:Nat->Option MO) (l:Loc) (t:Ty) (xs:List t.T) (i r:Nat):Prop where
 len:xs.length<=l.cap
 cap:l.cap<=maxLen
 one:t.size=1
 lt:i<xs.length
 row:∃b arr el fz,l.a=some ⟨b,0,none⟩/\w.heap[b]? =some (.cells arr el fz)/\arr.size=l.cap*t.size/\fzOK t arr.size fz/\
  (∀k (x:t.T),k≠i->getq xs k=some x->∃c,RepT w S t x c/\∀j u,c[j]? =some u->arr[k*t.size+j]? =some u)/\
  (∃u,arr[i]? =some u/\RepA w S γ m (.own r) u)/\¬S b
structure RngRel (w:World) (S:Nat->Prop) (γ:Nat->Loc) (m:Nat->Option MO) (n:Nat) (id:Nat) (caps:List AV) (e:Nat) (l:Nat) (rec:Loop):Prop where
 loc:(γ n).a=some ⟨l,0,none⟩
 heap:w.heap[l]? =some (.loop rec)
 state:rec.state=(stOf e).1
 pending:rec.pending=(stOf e).2
 ps:rec.params=(LTab.tab id).ps
 assign:rec.assign=(LTab.tab id).assign
 body:rec.body=(LTab.tab id).body
 size:rec.tmps.size=(LTab.tab id).nt
 caps:RepAs w S γ m caps ((LTab.tab id).tms.map fun t=>rec.tmps.getD t undef)
 notS:¬S l
def ObjRel(w:World)(S:Nat->Prop)(γ:Nat->Loc)(m:Nat->Option MO)(n:Nat):MO->Prop
 | .box cs s=>∃b vs el,(γ n).a=some ⟨b,0,none⟩/\w.heap[b]? =some (.cells (bX vs) el (0,0))/\RepAs w S γ m cs vs/\U7 cs=true/\
   (s= .live->¬S b)/\(s≠ .live->S b)
 | .sl _ _ .dead=>True
 | .sl t xs (.hole i r)=>HoleRel w S γ m (γ n) t xs i r
 | .sl t xs s=>RowRel w S (γ n) t xs s
 | .rng _ _ none=>True
 | .rng id caps (some e)=>∃l rec,RngRel w S γ m n id caps e l rec
structure Bel (B:Nat->Prop) (w w':World):Prop where
 os:w'.os=w.os
 tape:w'.tape=w.tape
 output:w'.output=w.output
 size:w.heap.size<=w'.heap.size
 block:∀k,B k->w'.heap[k]? =w.heap[k]?
 others:∀(k:Nat) (ds:Option (List Deferred)),w.heap[k]? =some (.deferred ds)->w'.heap[k]? =some (.deferred ds)
theorem Bel.refl(B:Nat->Prop)(w:World):Bel B w w:=⟨rfl,rfl,rfl,ai _,fun _ _=>rfl,fun _ _ h=>h⟩
theorem Bel.trans{B:Nat->Prop}{a b c:World}(h:Bel B a b)(k:Bel B b c):Bel B a c:=
 ⟨k.os.trans h.os,k.tape.trans h.tape,k.output.trans h.output,Nat.le_trans h.size k.size,fun i hi=>(k.block i hi).trans (h.block i hi),fun i o hi=>k.others i o (h.others i o hi)⟩
theorem Bel.weak{B B':Nat->Prop}{w w':World}(h:Bel B w w')(hB:∀k,B' k->B k):Bel B' w w':=
 ⟨h.os,h.tape,h.output,h.size,fun k hk=>h.block k (hB k hk),h.others⟩
theorem Below.bel{B:Nat->Prop}{w w':World}(h:Below w.heap.size w w')(hB:∀k,B k->k<w.heap.size):Bel B w w':=
 ⟨h.os,h.tape,h.output,h.size,fun k hk=>h.block k (hB k hk),fun k _ hk=>(h.block k (aS.1 hk).1).trans hk⟩
theorem Bel.below{w w':World}(h:Bel (fun k=>k<w.heap.size) w w'):Below w.heap.size w w':=⟨h.os,h.tape,h.output,h.size,h.block⟩
structure MemRel (w:World) (S:Nat->Prop) (γ:Nat->Loc) (m:Nat->Option MO) (base:Nat->Prop):Prop where
 obj:∀n o,m n=some o->ObjRel w S γ m n o
 low:∀b,S b->b<w.heap.size
 apart:∀n n' o o' b,m n=some o->m n'=some o'->o.live=true->o'.live=true->n≠n'->(γ n).blk=some b->(γ n').blk=some b->False
 high:∀n o b,m n=some o->o.live=true->(γ n).blk=some b->¬base b
theorem zcx{w:World}{b:Nat}{o:Obj}(h:w.heap[b]? =some o):b<w.heap.size:=(aS.1 h).1
theorem ObjRel.notS{w:World}{S:Nat->Prop}{γ:Nat->Loc}{m:Nat->Option MO}{n b:Nat}{q:MO}(h:ObjRel w S γ m n q)(hl:q.live=true)(hb:(γ n).blk=some b):¬S b/\∃o,w.heap[b]? =some o/\∀ds,o≠ .deferred ds:=by
 cases q with
 | box cs s=>
  cases s<;>first | cases hl | skip
  obtain⟨b',vs,el,g1,g2,g3,g4,g5,g6⟩:=h;rw[Loc.blk,g1]at hb;grind
 | sl t xs s=>
  cases s with
  | dead=>cases hl
  | still=>cases hl
  | hole i r=>
   have h:HoleRel w S γ m (γ n) t xs i r:=h;obtain⟨b',arr,el,fz,g1,g2,g3,g4,g5,g6,g7⟩:=h.row
   grind[Loc.blk]
  | live=>
  have h:RowRel w S (γ n) t xs .live:=h;cases ha:(γ n).a with
  | none=>grind[Loc.blk]
  | some a0=>obtain⟨b',arr,el,fz,g1,g2,g3,g4,g5,g6,g7⟩:=h.row a0 ha;rw[Loc.blk,ha,g1]at hb;grind
 | rng id cs e=>
  cases e with
  | none=>cases hl
  | some e=>obtain⟨l,rec,h⟩:=h;rw[Loc.blk,h.loc]at hb;cases hb;exact⟨h.notS,_,h.heap,fun _ h=>by cases h⟩
theorem ObjRel.lt{w:World}{S:Nat->Prop}{γ:Nat->Loc}{m:Nat->Option MO}{n:Nat}{o:MO}{b:Nat}(h:ObjRel w S γ m n o)(hl:o.live=true)(hb:(γ n).blk=some b):b<w.heap.size:=by grind[ObjRel.notS]
theorem ObjRel.later{w w':World}{S S':Nat->Prop}{γ γ':Nat->Loc}{m m':Nat->Option MO}{n:Nat}{o:MO}(h:ObjRel w S γ m n o)(hS:∀b,S b->w'.heap[b]? =w.heap[b]?)(hSS:∀b,S b->S' b)(hk:Keeps m γ m' γ')(hn:γ' n=γ n)
  (hl:o.live=true->∀b,(γ n).blk=some b->w'.heap[b]? =w.heap[b]?/\¬S' b):ObjRel w' S' γ' m' n o:=by
 cases o with
 | box cs s=>
  obtain⟨b,vs,el,h1,h2,h3,h4,h5,h6⟩:=h;have hb:(γ n).blk=some b:=by grind[Loc.blk]
  have hw:w'.heap[b]? =w.heap[b]? :=by
   cases s with
   | live=>exact(hl rfl b hb).1
   | still=>grind
   | dead=>grind
   | hole _ _=>grind
  exact⟨b,vs,el,by grind,hw.trans h2,RepAs.mono hS hSS hk cs vs h3,h4,fun e=>by subst e;exact(hl rfl b hb).2,fun e=>hSS b (h6 e)⟩
 | sl t xs s=>
  have go:∀{s:Stat},RowRel w S (γ n) t xs s->(∀b,(γ n).blk=some b->w'.heap[b]? =w.heap[b]?)->(s= .live->∀b,(γ n).blk=some b->¬S' b)->RowRel w' S' (γ' n) t xs s:=by
   intro s h hw hl;rw[hn];refine⟨h.len,h.cap,h.nil,fun a ha=> ?_⟩;obtain⟨b,arr,el,fz,h1,h2,h3,h4,h5,h6,h7⟩:=h.row a ha;have hb:(γ n).blk=some b:=by grind[Loc.blk]
   refine⟨b,arr,el,fz,h1,(hw b hb).trans h2,h3,h4,fun i x hx=> ?_,fun e=>hl e b hb,fun e=>hSS b (h7 e)⟩;obtain⟨c,k1,k2⟩:=h5 i x hx;exact⟨c,RepT.mono hS hSS t x c k1,k2⟩
  cases s with
  | dead=>trivial
  | hole i r=>have h:HoleRel w S γ m (γ n) t xs i r:=h;show HoleRel w' S' γ' m' (γ' n) t xs i r;rw[hn];obtain⟨b,arr,el,fz,h1,h2,h3,h4,h5,⟨u,h6,h7⟩,h8⟩:=h.row;obtain⟨k1,k2⟩:=hl rfl b (by grind[Loc.blk]);refine⟨h.len,h.cap,h.one,h.lt,b,arr,el,fz,h1,k1.trans h2,h3,h4,fun k x hk' hx=> ?_,⟨u,h6,RepA.mono hS hSS hk _ _ h7⟩,k2⟩;obtain⟨c,q1,q2⟩:=h5 k x hk' hx;exact⟨c,RepT.mono hS hSS t x c q1,q2⟩
  | live=>exact go h (fun b hb=>(hl rfl b hb).1) fun _ b hb=>(hl rfl b hb).2
  | still=>
   have h:RowRel w S (γ n) t xs .still:=h;refine go h (fun b hb=> ?_) (fun e=>by cases e);cases ha:(γ n).a with
   | none=>grind[Loc.blk]
   | some a0=>obtain⟨b',arr,el,fz,g1,g2,g3,g4,g5,g6,g7⟩:=h.row a0 ha;rw[Loc.blk,ha,g1]at hb;grind
 | rng id cs e=>
  cases e with
  | none=>trivial
  | some e=>
   obtain⟨l,rec,h⟩:=h;have hb:(γ n).blk=some l:=by rw[Loc.blk,h.loc];rfl
   obtain⟨k1,k2⟩:=hl rfl l hb;exact⟨l,rec,by rw[hn];exact h.loc,k1.trans h.heap,h.state,h.pending,h.ps,h.assign,h.body,h.size,RepAs.mono hS hSS hk _ _ h.caps,k2⟩
theorem ObjRel.grow{w w':World}{S:Nat->Prop}{γ γ':Nat->Loc}{m m':Nat->Option MO}{n:Nat}{o:MO}(h:ObjRel w S γ m n o)(hl:∀b,S b->b<w.heap.size)(hb:Below w.heap.size w w')
  (hk:Keeps m γ m' γ') (hn:γ' n=γ n):ObjRel w' S γ' m' n o:=
 ObjRel.later h (fun b hs=>hb.block b (hl b hs)) (fun _ h=>h) hk hn fun hlv b hbk=>⟨hb.block b (ObjRel.lt h hlv hbk),(ObjRel.notS h hlv hbk).1⟩
theorem MemRel.grow{w w':World}{S:Nat->Prop}{γ:Nat->Loc}{m:Nat->Option MO}{base:Nat->Prop}(h:MemRel w S γ m base)(hb:Below w.heap.size w w'):MemRel w' S γ m base:=
 ⟨fun n o ho=>ObjRel.grow (h.obj n o ho) h.low hb (Keeps.refl _ _) rfl,fun b hs=>aT (h.low b hs) hb.size,h.apart,h.high⟩
def gupd(γ:Nat->Loc)(d:Nat)(l:Loc):Nat->Loc:=fun i=>if i=d then l else γ i
theorem nbeq{n d:Nat}(h:n≠d):ax n d=false:=by grind[af]
theorem V9(m:Nat->Option MO)(d:Nat)(o:MO):mupd m d o d=some o:=by simp[mupd]
theorem X4(m:Nat->Option MO){d n:Nat}(o:MO)(h:n≠d):mupd m d o n=m n:=by grind[mupd,nbeq]
theorem J0(γ:Nat->Loc)(d:Nat)(l:Loc):gupd γ d l d=l:=by simp[gupd]
theorem z4z(γ:Nat->Loc){d n:Nat}(l:Loc)(h:n≠d):gupd γ d l n=γ n:=by grind[gupd]
theorem zo6(ρ:Nat->AV)(d:Nat)(v:AV):upd ρ d v d=v:=by simp[upd]
theorem zgf(ρ:Nat->AV){d n:Nat}(v:AV)(h:n≠d):upd ρ d v n=ρ n:=by grind[upd,nbeq]
theorem Keeps.new{m:Nat->Option MO}{γ:Nat->Loc}{d:Nat}{ob:MO}{l:Loc}(h:m d=none):Keeps m γ (mupd m d ob) (gupd γ d l):=by
 intro n o ho
 grind[X4,z4z]
theorem MemRel.add{w w':World}{S:Nat->Prop}{γ:Nat->Loc}{m:Nat->Option MO}{base:Nat->Prop}{d:Nat}{ob:MO}{l:Loc}(h:MemRel w S γ m base)(hb:Below w.heap.size w w')(hd:m d=none)
  (ho:ObjRel w' S (gupd γ d l) (mupd m d ob) d ob) (hbase:∀k,base k->k<w.heap.size) (hnew:∀b,l.blk=some b->w.heap.size<=b):MemRel w' S (gupd γ d l) (mupd m d ob) base:=by
 refine⟨fun n o hn=> ?_,fun b hs=>aT (h.low b hs) hb.size, ?_, ?_⟩
 ·by_cases e:n=d
  ·grind[V9]
  ·rw[X4 _ _ e]at hn;exact ObjRel.grow (h.obj n o hn) h.low hb (Keeps.new hd) (z4z _ _ e)
 ·intro n n' o o' b hn hn' hl hl' hne hbn hbn';by_cases e:n=d
  ·subst e;have e':n'≠n:=fun e=>hne e.symm;rw[J0]at hbn;rw[X4 _ _ e']at hn';rw[z4z _ _ e']at hbn';have:=hnew b hbn;have:=ObjRel.lt (h.obj n' o' hn') hl' hbn';omega
  ·by_cases e':n'=d
   ·subst e';rw[J0]at hbn';rw[X4 _ _ e]at hn;rw[z4z _ _ e]at hbn;have:=hnew b hbn';have:=ObjRel.lt (h.obj n o hn) hl hbn;omega
   ·rw[X4 _ _ e]at hn;rw[z4z _ _ e]at hbn;rw[X4 _ _ e']at hn';rw[z4z _ _ e']at hbn';exact h.apart n n' o o' b hn hn' hl hl' hne hbn hbn'
 ·intro n o b hn hl hbn;by_cases e:n=d
  ·grind[J0]
  ·rw[X4 _ _ e]at hn;rw[z4z _ _ e]at hbn;exact h.high n o b hn hl hbn
structure Cx where
 B:Nat->Prop
 w0:World
 S0:Nat->Prop
 pn:Nat->Option (Loc×Nat×Nat)
 N:Nat
 nle:N<=w0.heap.size
def MarksOk(B:Nat)(w:World)(S:Nat->Prop):List Deferred->Prop
 | []=>True
 | d::ds=>(∃D,d={target:= .collected D,args:= #[]}/\w.heap[D]? =some (.deferred (some []))/\¬S D/\B<=D)/\(∀d',d'∈ds->d'≠d)/\MarksOk B w S ds
theorem MarksOk.mono{B:Nat}{w w':World}{S S':Nat->Prop}(hw:∀(k:Nat) (ds:Option (List Deferred)),w.heap[k]? =some (.deferred ds)->w'.heap[k]? =some (.deferred ds))(hS:∀D,w.heap[D]? =some (.deferred (some []))->S' D->S D):∀{l:List Deferred},MarksOk B w S l->MarksOk B w' S' l
 | [],_=>trivial
 | _::_,⟨⟨D,h1,h2,h3,h4⟩,h5,h6⟩=>⟨⟨D,h1,hw D _ h2,fun h=>h3 (hS D h2 h),h4⟩,h5,MarksOk.mono hw hS h6⟩
structure Rel (X:Cx) (w:World) (S:Nat->Prop) (γ:Nat->Loc) (σ:St) (a:Act):Prop where
 mem:MemRel w S γ σ.m X.B
 tm:∀t,RepA w S γ σ.m (σ.ρ t) (a.tmps.getD t undef)
 below:Bel X.B X.w0 w
 base_le:∀k,X.B k->k<X.w0.heap.size
 s0:∀b,X.S0 b->S b
 snew:∀b,S b->X.S0 b\/¬X.B b
 defers:MarksOk X.N w S a.defers
 pin:∀n o l,σ.m n=some o->X.pn n=some l->γ n=l.1/\o.kind=l.2
 pnhi:∀n l,X.pn n=some l->5000000<=n
 small:a.tmps.size<=4096
theorem Rel.size_le{X:Cx}{w:World}{S:Nat->Prop}{γ:Nat->Loc}{σ:St}{a:Act}(h:Rel X w S γ σ a):∀k,X.B k->k<w.heap.size:=
 fun k hk=>aT (h.base_le k hk) h.below.size
theorem zdt{pn:Nat->Option (Loc×Nat×Nat)}{m m':Nat->Option MO}{γ γ':Nat->Loc}(hp:∀n o l,m n=some o->pn n=some l->γ n=l.1/\o.kind=l.2)(hk:Keeps m γ m' γ')(hd:∀n l,pn n=some l->m' n≠none->m n≠none):
  ∀n o l,m' n=some o->pn n=some l->γ' n=l.1/\o.kind=l.2:=by
 intro n o l ho hl;cases hq:m n with
 | none=>grind
 | some q=>
  obtain⟨o',h1,h2,h3⟩:=hk n q hq
  grind
theorem zpx(a:Act)(d:Nat)(x:Value)(h:d<a.tmps.size):(a.put (some d) x).tmps.getD d undef=x:=by simp[Act.put,h]
theorem zvh(a:Act){d t:Nat}(x:Value)(h:t≠d):(a.put (some d) x).tmps.getD t undef=a.tmps.getD t undef:=by simp[Act.put,Ne.symm h]
theorem z0k(a:Act)(d:Option Nat)(x:Value):(a.put d x).tmps.size=a.tmps.size:=by cases d<;>simp[Act.put]
theorem z9o(a:Act)(d:Option Nat)(x:Value):(a.put d x).defers=a.defers:=by cases d<;>rfl
def zi8(n:Nat):Option Nat->Prop
 | some d=>d<n
 | none=>True
theorem Rel.val{X:Cx}{w w':World}{S:Nat->Prop}{γ:Nat->Loc}{σ:St}{a:Act}(h:Rel X w S γ σ a)(hb:Below w.heap.size w w'){dst:Option Nat}{v:AV}{x:Value}
  (hv:RepA w' S γ σ.m v x) (hd:zi8 a.tmps.size dst):Rel X w' S γ (σ.put dst v) (a.put dst x):=by
 have hmono:∀v x,RepA w S γ σ.m v x->RepA w' S γ σ.m v x:=RepA.mono (fun b hs=>hb.block b (h.mem.low b hs)) (fun _ h=>h) (Keeps.refl _ _);have hbel:=Below.bel hb h.size_le;refine⟨h.mem.grow hb, ?_,h.below.trans hbel,h.base_le,h.s0,h.snew,by rw[z9o];exact h.defers.mono hbel.others (fun _ _ h=>h),h.pin,h.pnhi,by rw[z0k];exact h.small⟩;intro t;cases dst with
 | none=>exact hmono _ _ (h.tm t)
 | some d=>
  by_cases e:t=d
  ·subst e;rw[zpx a t x hd];show RepA w' S γ σ.m (upd σ.ρ t v t) x
   grind[zo6]
  ·rw[zvh a x e];show RepA w' S γ σ.m (upd σ.ρ d v t) _;rw[zgf _ _ e];exact hmono _ _ (h.tm t)
theorem Rel.new{X:Cx}{w w':World}{S:Nat->Prop}{γ:Nat->Loc}{σ:St}{a:Act}(h:Rel X w S γ σ a)(hb:Below w.heap.size w w'){d:Nat}{v:AV}{x:Value}{ob:MO}{l:Loc}
  (hm:σ.m d=none) (ho:ObjRel w' S (gupd γ d l) (mupd σ.m d ob) d ob) (hnew:∀b,l.blk=some b->w.heap.size<=b)
  (hv:RepA w' S (gupd γ d l) (mupd σ.m d ob) v x) (hd:d<a.tmps.size):Rel X w' S (gupd γ d l) ⟨upd σ.ρ d v,mupd σ.m d ob⟩ (a.put (some d) x):=by
 have hmono:∀v x,RepA w S γ σ.m v x->RepA w' S (gupd γ d l) (mupd σ.m d ob) v x:=RepA.mono (fun b hs=>hb.block b (h.mem.low b hs)) (fun _ h=>h) (Keeps.new hm);have hbel:=Below.bel hb h.size_le;refine⟨h.mem.add hb hm ho h.size_le hnew, ?_,h.below.trans hbel,h.base_le,h.s0,h.snew,by rw[z9o];exact h.defers.mono hbel.others (fun _ _ h=>h),zdt h.pin (Keeps.new hm) (fun n l hl hn=> ?_),h.pnhi,by rw[z0k];exact h.small⟩;rotate_left
 ·have:=h.pnhi n l hl;have:=h.small
  grind[X4]
 intro t;by_cases e:t=d
 ·grind[zpx,zo6]
 ·rw[zvh a x e];show RepA _ _ _ _ (upd σ.ρ d v t) _;rw[zgf _ _ e];exact hmono _ _ (h.tm t)
theorem x0u{w:World}{S:Nat->Prop}{γ:Nat->Loc}{m:Nat->Option MO}:∀v:Value,RepA w S γ m (ofV v) v:=by intro v;unfold ofV;split<;>simp[RepA]
theorem Rel.ev{X:Cx}{w:World}{S:Nat->Prop}{γ:Nat->Loc}{σ:St}{a:Act}(h:Rel X w S γ σ a)(x:Operand):RepA w S γ σ.m (σ.ev x) (a.eval x):=by
 cases x with
 | tmp t=>exact h.tm t
 | const v=>exact x0u v
 | global g=>trivial
 | func f=>exact⟨[],rfl,rfl⟩
def tdOf:TypeDesc->TD
 | .bool=> .bool
 | .int k=> .int k
 | .string=> .str
 | .pointer _=> .ptr
 | .slice e=> .slice e
 | .array n e=> .arr n e
 | .struct fs=> .struct (fs.toList.map fun f=>(f.offset,f.type))
 | .func _ _ _=> .func
 | .interface _=> .iface
 | _=> .other
def fsEq:List (Nat×TypeId)->List (Nat×TypeId)->Bool
 | [],[]=>true
 | a::as,b::bs=>ax a.1 b.1&&(ax a.2 b.2&&fsEq as bs)
 | _,_=>false
theorem yie:∀{a b:List (Nat×TypeId)},fsEq a b=true->a=b
 | [],[],_=>rfl
 | [],_::_,h=>by grind[fsEq]
 | _::_,[],h=>by grind[fsEq]
 | (a,c)::as,(b,d)::bs,h=>by simp only[fsEq,ab,cr]at h;obtain⟨h1,h2,h3⟩:=h;subst h1;subst h2;rw[yie h3]
def TD.eq:TD->TD->Bool
 | .int k, .int l=>(ikEq k l).isSome
 | .bool, .bool=>true
 | .str, .str=>true
 | .ptr, .ptr=>true
 | .slice e, .slice f=>ax e f
 | .struct a, .struct b=>fsEq a b
 | .arr n e, .arr k f=>ax n k&&ax e f
 | .func, .func=>true
 | .iface, .iface=>true
 | _,_=>false
theorem y7x{a b:IntKind}(h:(ikEq a b).isSome=true):a=b:=by grind[ikEq]
theorem TD.eq_spec{a b:TD}(h:TD.eq a b=true):a=b:=by
 unfold TD.eq at h;split at h
 case h_1=>rw[y7x h]
 case h_2=>rfl
 case h_3=>rfl
 case h_4=>rfl
 case h_5=>simp_all
 case h_6=>rw[yie h]
 all_goals simp_all
def zEq:Value->Z->Bool
 | .int k n, .int l=>(ikEq k l).isSome&&eqi n 0
 | .bool false, .bool=>true
 | .string s, .str=>s.data.toList.isEmpty
 | .slice none 0 0, .slice=>true
 | .pointer none, .ptr=>true
 | .nilFunc, .func=>true
 | .nilIface, .iface=>true
 | _,_=>false
def zsEq:List Value->List Z->Bool
 | [],[]=>true
 | v::vs,z::zs=>zEq v z&&zsEq vs zs
 | _,_=>false
theorem y4z{w:World}{S:Nat->Prop}{γ:Nat->Loc}{m:Nat->Option MO}{v:Value}{z:Z}(h:zEq v z=true):RepA w S γ m z.av v:=by
 unfold zEq at h;split at h
 case h_1 k n l=>
  simp only[ab]at h;have e:=y7x h.1;have e2:n=0:=by grind[eqi]
  subst e;subst e2;rfl
 case h_2=>rfl
 case h_3 s=>
  have e:s.data= #[]:=by grind
  cases s with
  | mk d=>simp only at e;subst e;rfl
 case h_4=>rfl
 case h_5=>rfl
 case h_6=>rfl
 case h_7=>rfl
 grind
theorem ye9{w:World}{S:Nat->Prop}{γ:Nat->Loc}{m:Nat->Option MO}:∀{vs:List Value} {zs:List Z},zsEq vs zs=true->RepAs w S γ m (zs.map Z.av) vs
 | [],[],_=>rfl
 | [],_::_,h=>by grind[zsEq]
 | _::_,[],h=>by grind[zsEq]
 | v::vs,z::zs,h=>by simp only[zsEq,ab]at h;exact⟨v,vs,rfl,y4z h.1,ye9 h.2⟩
theorem zvo(zs:List Z):U7 (zs.map Z.av)=true:=by
 induction zs with
 | nil=>rfl
 | cons z zs ih=>simp only[U7,List.map_cons,bc,ab];exact⟨by cases z<;>rfl,by grind[U7]⟩
def tyD(y:Ty)(d:TD):Bool:=match y with | .int k=>TD.eq d (.int k) | _=>true
def zTy:Ty->List Z
 | .int k=>[.int k]
 | .bool=>[.bool]
 | .str=>[.str]
 | .unit=>[]
 | .pair a b=>zTy a++zTy b
 | .list _=>[.slice]
def zzEq:Z->Z->Bool
 | .int k, .int l=>(ikEq k l).isSome
 | .bool, .bool=>true
 | .str, .str=>true
 | .slice, .slice=>true
 | .ptr, .ptr=>true
 | .func, .func=>true
 | .iface, .iface=>true
 | _,_=>false
def yke:List Z->List Z->Bool
 | [],[]=>true
 | a::as,b::bs=>zzEq a b&&yke as bs
 | _,_=>false
theorem yti{a b:Z}(h:zzEq a b=true):a=b:=by
 unfold zzEq at h
 grind[y7x]
theorem yca:∀{a b:List Z},yke a b=true->a=b
 | [],[],_=>rfl
 | [],_::_,h=>by grind[yke]
 | _::_,[],h=>by grind[yke]
 | a::as,b::bs,h=>by simp only[yke,ab]at h;rw[yti h.1,yca h.2]
theorem y8b:∀{a b:List Z} {vs:List Value},zsEq vs (a++b)=true->∃c d,vs=c++d/\zsEq c a=true/\zsEq d b=true
 | [],b,vs,h=>⟨[],vs,rfl,rfl,h⟩
 | z::a,b,[],h=>by simp[zsEq]at h
 | z::a,b,v::vs,h=>by simp only[List.cons_append,zsEq,ab]at h;obtain⟨c,d,rfl,h1,h2⟩:=y8b h.2;exact⟨v::c,d,rfl,by simp only[zsEq,ab];exact⟨h.1,h1⟩,h2⟩
theorem y4c{z:Z}{vs:List Value}(h:zsEq vs [z]=true):∃v,vs=[v]/\zEq v z=true:=by
 cases vs with
 | nil=>grind[zsEq]
 | cons v vs=>
  cases vs with
  | nil=>simp only[zsEq,ab,and_true]at h;grind
  | cons _ _=>grind[zsEq]
theorem y4b{w:World}{S:Nat->Prop}:∀{t:Ty} {vs:List Value},zsEq vs (zTy t)=true->RepT w S t t.dflt vs
 | .int k,vs,h=>by obtain⟨v,rfl,h'⟩:=y4c h;have:=y4z (w:=w) (S:=S) (γ:=fun _=>⟨none,0⟩) (m:=fun _=>none) h';simp only[Z.av,RepA]at this;subst this;rfl
 | .bool,vs,h=>by obtain⟨v,rfl,h'⟩:=y4c h;have:=y4z (w:=w) (S:=S) (γ:=fun _=>⟨none,0⟩) (m:=fun _=>none) h';simp only[Z.av,RepA]at this;subst this;rfl
 | .str,vs,h=>by obtain⟨v,rfl,h'⟩:=y4c h;have:=y4z (w:=w) (S:=S) (γ:=fun _=>⟨none,0⟩) (m:=fun _=>none) h';simp only[Z.av,RepA]at this;subst this;rfl
 | .unit,vs,h=>by
  cases vs with
  | nil=>rfl
  | cons _ _=>grind[zTy,zsEq]
 | .pair a b,vs,h=>by obtain⟨c,d,rfl,h1,h2⟩:=y8b h;exact⟨c,d,rfl,y4b h1,y4b h2⟩
 | .list t,vs,h=>by obtain⟨v,rfl,h'⟩:=y4c h;have:=y4z (w:=w) (S:=S) (γ:=fun _=>⟨none,0⟩) (m:=fun _=>none) h';simp only[Z.av,RepA]at this;subst this;exact⟨none,0,rfl,ai _,fun _=>rfl,fun a e=>(by cases e),fun i x e=>(by grind[getq,Ty.dflt])⟩
def tiOk(P:Program)(t:TypeId)(ti:TI):Bool:=
 match P.underlying t,P.info? t with
 | some d,some i=>
  TD.eq (tdOf d) ti.d&&(ax i.size ti.size&&(ax i.bytes ti.bytes&&((match i.zero with | some z=>zsEq z.cells.toList ti.zero&&(ax z.cells.size ti.size) | none=>false)&&
   ((match ti.ty with | some y=>ax y.size ti.size&&(cj 0 ti.size&&(tyD y ti.d&&yke ti.zero (zTy y))) | none=>true)&&(ti.d.agg || ax ti.size 1)))))
 | _,_=>false
structure TIok (P:Program) (t:TypeId) (ti:TI):Prop where
 und:∃d,P.underlying t=some d/\tdOf d=ti.d
 inf:∃i z,P.info? t=some i/\i.size=ti.size/\i.bytes=ti.bytes/\i.zero=some z/\zsEq z.cells.toList ti.zero=true/\z.cells.size=ti.size
 ty:∀y,ti.ty=some y->y.size=ti.size/\0<ti.size/\tyD y ti.d=true/\ti.zero=zTy y
 one:ti.d.agg=false->ti.size=1
theorem ytq{P:Program}{t:TypeId}{ti:TI}(h:tiOk P t ti=true):TIok P t ti:=by
 unfold tiOk at h;split at h
 ·rename_i d i hd hi;simp only[ab,cr,aA]at h;obtain⟨h1,h2,h3,h4,h5,h6⟩:=h;refine⟨⟨d,hd,TD.eq_spec h1⟩, ?_, ?_, ?_⟩
  ·cases hz:i.zero with
   | none=>grind
   | some z=>simp_all
  ·intro y hy;rw[hy]at h5;simp only[ab,cr,Nat.blt_eq]at h5
   grind[yca]
  grind
 grind
end Go.Dv
namespace Go.Dv
open Go.RowKit
variable [LTab]
variable {R:Type}
def CoreOk(w:World)(S:Nat->Prop)(γ:Nat->Loc)(m:Nat->Option MO)(dst:Option Nat)(run:Result Next)(K:AV->Option MO->Option R)(r:R):Prop:=
 ∃x w' v ob,run= .ok (.value x) w'/\Below w.heap.size w w'/\K v ob=some r/\
  (match ob with
  | none=>RepA w' S γ m v x
  | some ob=>∃d l,dst=some d/\ob.live=true/\(∀b,l.blk=some b->w.heap.size<=b)/\
    (m d=none->ObjRel w' S (gupd γ d l) (mupd m d ob) d ob/\RepA w' S (gupd γ d l) (mupd m d ob) v x))
theorem CoreOk.pure{w:World}{S:Nat->Prop}{γ:Nat->Loc}{m:Nat->Option MO}{dst:Option Nat}{run:Result Next}{K:AV->Option MO->Option R}{r:R}{v:AV}{x:Value}
  (hr:run= .ok (.value x) w) (hv:RepA w S γ m v x) (hk:K v none=some r):CoreOk w S γ m dst run K r:=
 ⟨x,w,v,none,hr,Below.refl _ _,hk,hv⟩
theorem X7{b:Bool}{k:Option R}{r:R}(h:gd b k=some r):b=true/\k=some r:=by
 cases b with
 | true=>exact⟨rfl,h⟩
 | false=>grind[gd]
theorem bif_some{b:Bool}{x y:Option R}{r:R}(h:(bif b then x else y)=some r):(b=true/\x=some r)\/(b=false/\y=some r):=by grind
def aggV(b:Bool)(vs:List Value):Value:=match b with | true=> .agg vs.toArray | false=>vs.getD 0 undef
section types
variable {P:Program} {E:Env} (hE:∀t ti,E.ty t=some ti->TIok P t ti) (w:World)
include hE
theorem z0a{t:TypeId}{ti:TI}(h:E.ty t=some ti):(sizeOf t).run P w= .ok ti.size w:=by obtain⟨i,z,h1,h2,_⟩:=(hE t ti h).inf;simp_all[sizeOf,typeInfo]
theorem z4j{t:TypeId}{ti:TI}(h:E.ty t=some ti):∃d,(underlying t).run P w= .ok d w/\tdOf d=ti.d:=by
 obtain⟨d,h1,h2⟩:=(hE t ti h).und
 grind[run_underlying]
theorem y38{t:TypeId}{ti:TI}(h:E.ty t=some ti):(isAgg t).run P w= .ok ti.d.agg w:=by obtain⟨d,h1,h2⟩:=z4j hE w h;unfold isAgg;rw[Sem.run_bind,h1,<-h2];cases d<;>simp[tdOf,TD.agg]
theorem zvb{t:TypeId}{ti:TI}(h:E.ty t=some ti):∃z,(zeroValue t).run P w= .ok z w/\zsEq z.cells.toList ti.zero=true/\z.cells.size=ti.size:=by obtain⟨i,z,h1,h2,h3,h4,h5,h6⟩:=(hE t ti h).inf;simp_all[zeroValue,typeInfo]
theorem yc6{t:TypeId}{ti:TI}(h:E.ty t=some ti){b o:Nat}{vs:List Value}(hc:CellsAt w b o vs)(hl:vs.length=ti.size):
  (loadVar t ⟨b,o,none⟩).run P w= .ok (aggV ti.d.agg vs) w:=by
 unfold loadVar;rw[Sem.run_bind,y38 hE w h];cases ha:ti.d.agg with
 | true=>
  have hl':(loadCells ⟨b,o,none⟩ vs.length).run P w= .ok vs.toArray w:=run_loadCells_list (P:=P) w ⟨b,o,none⟩ vs (fun j v hv=>by
   have hadd:(⟨b,o,none⟩:Addr).add j=⟨b,o+j,none⟩:=by simp[Addr.add]
   rw[hadd];exact hc j v hv)
  simp[z0a hE w h,<-hl,hl',aggV]
 | false=>
  have h1:=(hE t ti h).one ha;rw[h1]at hl;cases vs with
  | nil=>grind
  | cons v vs=>have:=hc 0 v rfl;simp_all[aggV]
end types
theorem yi2{w:World}{S:Nat->Prop}{γ:Nat->Loc}{m:Nat->Option MO}{b:Bool}{cs:List AV}{vs:List Value}{v:AV}(h:yko b cs=some v)(hr:RepAs w S γ m cs vs)(ha:U7 cs=true):
  RepA w S γ m v (aggV b vs):=by
 cases b with
 | true=>simp only[yko,aL.injEq]at h;subst h;exact⟨vs,rfl,hr,ha⟩
 | false=>
  cases cs with
  | nil=>grind[yko]
  | cons c cs=>
   cases cs with
   | nil=>simp only[yko,aL.injEq]at h;subst h;obtain⟨u,us,rfl,h2,_⟩:=hr;exact h2
   | cons c' cs=>grind[yko]
theorem zpl(n:Nat){cs:List AV}(h:U7 cs=true):U7 (cs.take n)=true:=by grind[U7]
theorem zpm(n:Nat){cs:List AV}(h:U7 cs=true):U7 (cs.drop n)=true:=by grind[U7]
theorem yjt{P:Program}{E:Env}(hE:∀t ti,E.ty t=some ti->TIok P t ti){w:World}{S:Nat->Prop}{γ:Nat->Loc}{m:Nat->Option MO}{t:TypeId}{ti:TI}(h:E.ty t=some ti){cs:List AV}{vs:List Value}
  (hr:RepAs w S γ m cs vs) (ha:U7 cs=true) {b o off:Nat} (hc:CellsAt w b o vs) {v:AV} (hv:z2c ti off cs=some v):
  ∃x,(loadVar t ⟨b,o+off,none⟩).run P w= .ok x w/\RepA w S γ m v x:=by
 unfold z2c at hv;rcases bif_some hv with⟨h1,h2⟩ | ⟨_,h2⟩
 ·have h1':off+ti.size<=cs.length:=by simp_all
  have hlen:=hr.length;have hr':RepAs w S γ m ((cs.drop off).take ti.size) ((vs.drop off).take ti.size):=RepAs.take _ (RepAs.drop _ hr);have hl:((vs.drop off).take ti.size).length=ti.size:=by grind
  have hc':CellsAt w b (o+off) ((vs.drop off).take ti.size):=by
   intro j u hj;have:vs[off+j]? =some u:=by grind
   have:=hc (off+j) u this
   grind
  exact⟨_,yc6 hE w h hc' hl,yi2 h2 hr' (zpl _ (zpm _ ha))⟩
 grind
section core
variable {P:Program} {E:Env} (hE:∀t ti,E.ty t=some ti->TIok P t ti) {w:World} {S:Nat->Prop} {γ:Nat->Loc} {m:Nat->Option MO} {base:Nat->Prop} (hm:MemRel w S γ m base)
 {ev:Operand->AV} {el:Operand->Value} (hev:∀x,RepA w S γ m (ev x) (el x)) {K:AV->Option MO->Option R} {r:R}
include hev in
theorem yuy{o:Oper}{x:Operand}(ho:o.op= .move x)(h:K (ev x) none=some r):CoreOk w S γ m o.dst ((execOp el o).run P w) K r:=
 .pure (by simp[execOp,ho]) (hev x) h
include hev in
theorem ylw{o:Oper}{x:Operand}(ho:o.op= .assign x)(h:K (ev x) none=some r):CoreOk w S γ m o.dst ((execOp el o).run P w) K r:=
 .pure (by simp[execOp,ho]) (hev x) h
include hev in
theorem ygz{o:Oper}{x:Operand}(ho:o.op= .nilCheck x)(h:(match ev x with
  | .ptr n off=>K (.ptr n off) none
  | .oel n i off=>K (.oel n i off) none
  | .bx cs off=>K (.bx cs off) none
  | .ro t y off=>K (.ro t y off) none
  | _=>none)=some r):CoreOk w S γ m o.dst ((execOp el o).run P w) K r:=by
 have hx:=hev x;split at h
 ·rename_i n off hv;rw[hv]at hx;have hx':=hx;obtain⟨cs,s,b,_,_,k3⟩:=hx';have hr:(execOp el o).run P w= .ok (.value (el x)) w:=by simp[execOp,ho,k3]
  exact .pure hr hx h
 ·rename_i n i off hv;rw[hv]at hx;have hx':=hx;obtain⟨t,xs,s,b,_,_,_,k3⟩:=hx';have hr:(execOp el o).run P w= .ok (.value (el x)) w:=by simp[execOp,ho,k3]
  exact .pure hr hx h
 ·rename_i cs off hv;rw[hv]at hx;have hx':=hx;obtain⟨b,vs,k3,_⟩:=hx';have hr:(execOp el o).run P w= .ok (.value (el x)) w:=by simp[execOp,ho,k3]
  exact .pure hr hx h
 ·rename_i t y off hv;rw[hv]at hx;have hx':=hx;obtain⟨b,o',cs,k3,_⟩:=hx';have hr:(execOp el o).run P w= .ok (.value (el x)) w:=by simp[execOp,ho,k3]
  exact .pure hr hx h
 ·cases h
include hev in
theorem yux{o:Oper}{c x y:Operand}(ho:o.op= .pick c x y)(h:(match ev c with | .bool b=>bif b then K (ev x) none else K (ev y) none | _=>none)=some r):
  CoreOk w S γ m o.dst ((execOp el o).run P w) K r:=by
 split at h
 ·rename_i b hb;have hc:=hev c;rw[hb]at hc;simp only[RepA]at hc;rcases bif_some h with⟨e,h⟩ | ⟨e,h⟩
  ·subst e;exact .pure (by simp[execOp,ho,hc,asBool]) (hev x) h
  ·subst e;exact .pure (by simp[execOp,ho,hc,asBool]) (hev y) h
 ·cases h
include hE hm hev in
theorem yuz{o:Oper}{t:TypeId}{x:Operand}(ho:o.op= .load t x)(h:W2 E o.dst o.op ev m K=some r):CoreOk w S γ m o.dst ((execOp el o).run P w) K r:=by
 rw[ho]at h;simp only[W2]at h;have hx:=hev x;split at h
 ·cases h
 ·rename_i ti hti
  have fin:∀{b oo off:Nat} {cs:List AV} {vs:List Value},RepAs w S γ m cs vs->U7 cs=true->CellsAt w b oo vs->el x= .pointer (some ⟨b,oo+off,none⟩)->
    (match z2c ti off cs with | some v=>K v none | none=>none)=some r->CoreOk w S γ m o.dst ((execOp el o).run P w) K r:=by
   intro b oo off cs vs h1 h2 h3 h4 h5;split at h5
   ·rename_i v hv;obtain⟨y,hy,hv'⟩:=yjt (P:=P) hE hti h1 h2 h3 hv;exact .pure (x:=y) (by simp[execOp,ho,h4,Instr.loadAt,Instr.sureAddr,hy]) hv' h5
   ·cases h5
  split at h
  ·rename_i n off he;rw[he]at hx;obtain⟨cs0,s0,b,hb1,hb2,hb3⟩:=hx;have box:∀{cs:List AV} {s:Stat},m n=some (.box cs s)->∃vs,RepAs w S γ m cs vs/\U7 cs=true/\CellsAt w b 0 vs:=by
    intro cs s hn;obtain⟨b',vs,el',k1,k2,k3,k4,_⟩:=hm.obj n _ hn;rw[hb2]at k1;cases k1;exact⟨vs,k3,k4,fun j u hj=>by rw[bk,cell_of_row w b j _ _ _ k2];simpa using hj⟩
   split at h
   ·rename_i cs hn;obtain⟨vs,k1,k2,k3⟩:=box hn;exact fin k1 k2 k3 (by rw[hb3,bk]) h
   ·rename_i cs hn;obtain⟨vs,k1,k2,k3⟩:=box hn;exact fin k1 k2 k3 (by rw[hb3,bk]) h
   ·cases h
  ·rename_i cs off he;rw[he]at hx;obtain⟨b,vs,k1,k2,k3,k4,k5⟩:=hx;exact fin k3 k4 k5 (by rw[k1,bk]) h
  ·rename_i t' y off he;rw[he]at hx;obtain⟨b,oo,cs,k1,k2,k3,k4⟩:=hx;exact fin k3.enc (z85 _ _) k4 k1 h
  ·rename_i n i off he;rw[he]at hx;obtain⟨t0,xs0,s0,b,k1,k2,k3,k4⟩:=hx;have row:∀{t':Ty} {xs:List t'.T} {s:Stat},m n=some (.sl t' xs s)->s= .live\/s= .still->∃vs,RepAs w S γ m (enc t' (xs.getD i t'.dflt)) vs/\CellsAt w b (i*t'.size) vs:=by
    intro t' xs s hn hs;have hob:ObjRel w S γ m n (.sl t' xs s):=hm.obj n _ hn;have hob:RowRel w S (γ n) t' xs s:=by rcases hs with rfl | rfl<;>exact hob
    rw[k1]at hn;cases hn;obtain⟨b',arr,el',fz,e1,e2,e3,e4,e5,_⟩:=hob.row _ k2;cases e1;obtain⟨c,f1,f2⟩:=e5 i xs0[i] (by simp[getq,k3]);refine⟨c, ?_,fun j u hj=> ?_⟩
    ·have:xs0.getD i t0.dflt=xs0[i]:=by simp[k3]
     rw[this];exact f1.enc
    ·rw[cell_of_row w b _ _ _ _ e2];exact f2 j u hj
   have e0:∀{t':Ty} {xs:List t'.T} {s:Stat},m n=some (.sl t' xs s)->t'.size=t0.size:=by intro t' xs s hn;rw[k1]at hn;cases hn;rfl
   split at h
   ·rename_i t' xs hn;obtain⟨vs,f1,f2⟩:=row hn (by simp);exact fin f1 (z85 _ _) f2 (by rw[k4,e0 hn]) h
   ·rename_i t' xs hn;obtain⟨vs,f1,f2⟩:=row hn (by simp);exact fin f1 (z85 _ _) f2 (by rw[k4,e0 hn]) h
   ·rename_i t' xs j r hn;obtain⟨hg,hq⟩:=X7 h;clear h;simp only[ab,cr]at hg;obtain⟨g1,g2⟩:=hg;subst g2;have hob:HoleRel w S γ m (γ n) t' xs i r:=hm.obj n _ hn;have e1:=e0 hn;obtain⟨b',arr,el',fz,q1,q2,q3,q4,q5,⟨u,q6,q7⟩,q8⟩:=hob.row;rw[k2]at q1;cases q1;refine fin (cs:=[.own r]) (vs:=[u]) (oo:=i*t'.size) ⟨u,[],rfl,q7,rfl⟩ rfl (fun j v hj=> ?_) (by rw[k4,e1]) hq;rw[cell_of_row w b _ _ _ _ q2]
    match j,hj with
    | 0,hj=>cases hj;rw[g1];simpa using q6
    | j+1,hj=>simp at hj
   ·cases h
  ·cases h
end core
variable {R:Type}
theorem zpk(w:World)(o:Obj):Below w.heap.size w (w.alloc o):=(Below.refl _ _).alloc (ai _) _
theorem CoreOk.newBox{w w':World}{S:Nat->Prop}{γ:Nat->Loc}{m:Nat->Option MO}{base:Nat->Prop}(hm:MemRel w S γ m base){dst:Option Nat}{d:Nat}{run:Result Next}{K:AV->Option MO->Option R}{r:R}
  {cs:List AV} {vs:List Value} {el:TypeId} (hd:dst=some d)
  (hr:run= .ok (.value (.pointer (some ⟨w.heap.size,0,none⟩))) w') (hb:Below w.heap.size w w') (hh:w'.heap[w.heap.size]? =some (.cells vs.toArray el (0,0)))
  (hc:RepAs w S γ m cs vs) (ha:U7 cs=true) (hk:K (.ptr d 0) (some (.box cs .live))=some r):CoreOk w S γ m dst run K r:=by
 refine⟨_,w',_,_,hr,hb,hk,d,⟨some ⟨w.heap.size,0,none⟩,0⟩,hd,rfl, ?_,fun hmd=>⟨?_, ?_⟩⟩
 ·simp[Loc.blk]
 ·refine⟨w.heap.size,vs,el,by rw[J0],hh, ?_,ha,fun _ hs=> ?_,fun e=>absurd rfl e⟩
  ·exact RepAs.mono (fun b hs=>hb.block b (hm.low b hs)) (fun _ h=>h) (Keeps.new hmd) cs vs hc
  ·have:=hm.low _ hs;omega
 ·exact⟨cs, .live,w.heap.size,V9 _ _ _,by rw[J0],rfl⟩
theorem CoreOk.newRow{w w':World}{S:Nat->Prop}{γ:Nat->Loc}{m:Nat->Option MO}{base:Nat->Prop}(hm:MemRel w S γ m base){dst:Option Nat}{d:Nat}{run:Result Next}{K:AV->Option MO->Option R}{r:R}
  {t:Ty} {xs:List t.T} {arr:Array Value} {el:TypeId} {fz:Nat×Nat} {cap:Nat} (hd:dst=some d)
  (hr:run= .ok (.value (.slice (some ⟨w.heap.size,0,none⟩) xs.length cap)) w') (hb:Below w.heap.size w w') (hh:w'.heap[w.heap.size]? =some (.cells arr el fz))
  (hsz:arr.size=cap*t.size) (hlen:xs.length<=cap) (hcap:cap<=maxLen) (hfz:fzOK t arr.size fz)
  (hc:∀i (x:t.T),getq xs i=some x->∃c,RepT w S t x c/\∀j u,c[j]? =some u->arr[i*t.size+j]? =some u)
  (hk:K (.own d) (some (.sl t xs .live))=some r):CoreOk w S γ m dst run K r:=by
 refine⟨_,w',_,_,hr,hb,hk,d,⟨some ⟨w.heap.size,0,none⟩,cap⟩,hd,rfl, ?_,fun hmd=>⟨?_, ?_⟩⟩
 ·simp[Loc.blk]
 ·show RowRel w' S (gupd γ d _ d) t xs .live;rw[J0];refine⟨hlen,hcap,fun e=>(by cases e),fun a e=> ?_⟩;simp only[aL.injEq]at e;refine⟨w.heap.size,arr,el,fz,e.symm,hh,hsz,hfz,fun i x hx=> ?_,fun _ hs=> ?_,fun e=>(by cases e)⟩
  ·obtain⟨c,h1,h2⟩:=hc i x hx;exact⟨c,RepT.mono (fun b hs=>hb.block b (hm.low b hs)) (fun _ h=>h) t x c h1,h2⟩
  ·have:=hm.low _ hs;omega
 ·exact⟨t,xs, .live,V9 _ _ _,by rw[J0]⟩
section core
variable {P:Program} {E:Env} (hE:∀t ti,E.ty t=some ti->TIok P t ti) {w:World} {S:Nat->Prop} {γ:Nat->Loc} {m:Nat->Option MO} {base:Nat->Prop} (hm:MemRel w S γ m base)
 {ev:Operand->AV} {el:Operand->Value} (hev:∀x,RepA w S γ m (ev x) (el x)) {K:AV->Option MO->Option R} {r:R}
include hE hm in
theorem yqc{o:Oper}{t:TypeId}(ho:o.op= .alloc t)(h:W2 E o.dst o.op ev m K=some r):CoreOk w S γ m o.dst ((execOp el o).run P w) K r:=by
 rw[ho]at h;simp only[W2]at h;split at h
 ·rename_i ti d hti hd;obtain⟨z,h1,h2,h3⟩:=zvb hE w hti;have hz:z.cells=z.cells.toList.toArray:=by simp
  refine CoreOk.newBox (w':=w.alloc (.cells z.cells t)) hm hd ?_ (zpk _ _) (by rw[<-hz];exact heap_alloc_new w _) (ye9 h2) (zvo _) h;simp[execOp,ho,Instr.alloc,h1,newVar,newRow]
 ·cases h
theorem zxf{v:AV}{x:Value}(h:RepA w S γ m v x)(ha:U7 v.cells=true):RepAs w S γ m v.cells x.cells.toList:=by
 cases v with
 | agg cs=>
  obtain⟨vs,rfl,h2,_⟩:=h
  grind[AV.cells,Value.cells]
 | undef=>grind[AV.cells,U7,AV.one]
 | tup vs=>grind[AV.cells,U7,AV.one]
 | fresh t xs=>grind[AV.cells,U7,AV.one]
 | _=>
  have h1:x.oneCell'=true:=yn9 (by constructor<;>grind) h;have hx:x.cells.toList=[x]:=by cases x<;>simp_all [Value.cells,Value.oneCell']
  rw[hx];exact⟨x,[],rfl,h,rfl⟩
include hm hev in
theorem yxl{o:Oper}{t:TypeId}{x:Operand}(ho:o.op= .box t x)(h:W2 E o.dst o.op ev m K=some r):CoreOk w S γ m o.dst ((execOp el o).run P w) K r:=by
 rw[ho]at h;simp only[W2]at h;split at h
 ·rename_i d hd;obtain⟨ha,h⟩:=X7 h;have hc:=zxf (hev x) ha;have hz:(el x).cells=(el x).cells.toList.toArray:=by simp
  refine CoreOk.newBox (w':=w.alloc (.cells (el x).cells t)) hm hd ?_ (zpk _ _) (by rw[<-hz];exact heap_alloc_new w _) hc ha h;simp[execOp,ho,Instr.box,newVar,newRow]
 ·cases h
def EqOk(P:Program)(t:TypeId)(n:List Nat):Prop:=
 ∀(w:World) (S:Nat->Prop) (γ:Nat->Loc) (m:Nat->Option MO) (cs ds:List AV) (vs us:List Value) (b:Bool),z8c cs=n->RepAs w S γ m cs vs->RepAs w S γ m ds us->z95 cs ds=some b->
  (Op.equalIn 10000 t (.agg vs.toArray) (.agg us.toArray)).run P w= .ok b w
theorem y78{a b:IntKind}{x:PLift (a=b)}(_h:ikEq a b=some x):a=b:=x.down
set_option maxHeartbeats 1000000 in
include hE in
theorem x5d(hq:∀t (n:List Nat),E.eqt t n=true->EqOk P t n/\P.eqGuardType P.depth t=false){op:BinOp}{t:TypeId}{x y:Operand}{a b:AV}{u v:Value}(ha:RepA w S γ m a u)(hb:RepA w S γ m b v){c:AV}(hn:nilG x y a b=true)(h:binA E op t a b=some c):
  ∃z,((do eqGuard op t x y u v;binOp op t u v:Sem Value)).run P w= .ok z w/\RepA w S γ m c z:=by
 unfold binA at h;split at h
 ·rename_i k a l b;simp only[RepA]at ha hb;subst ha;subst hb;split at h
  ·rcases bif_some h with⟨h1,h⟩ | ⟨_,h⟩
   ·have h1':¬b<0:=by have:=of_decide_eq_true h1;omega
    cases h;exact⟨_,by simp[eqGuard,binOp,Op.shift,h1'],rfl⟩
   ·cases h
  ·rcases bif_some h with⟨h1,h⟩ | ⟨_,h⟩
   ·have h1':¬b<0:=by have:=of_decide_eq_true h1;omega
    cases h;exact⟨_,by simp[eqGuard,binOp,Op.shift,h1'],rfl⟩
   ·cases h
  ·split at h
   ·cases h
   ·rename_i hk;have hk:=y78 hk;subst hk;split at h
    case h_4=>
     rcases bif_some h with⟨h1,h⟩ | ⟨_,h⟩
     ·have h1':b≠0:=by simpa[eqi] using h1
      cases h;exact⟨_,by simp[eqGuard,binOp,Op.intDiv,h1'],rfl⟩
     ·cases h
    case h_5=>
     rcases bif_some h with⟨h1,h⟩ | ⟨_,h⟩
     ·have h1':b≠0:=by simpa[eqi] using h1
      cases h;exact⟨_,by simp[eqGuard,binOp,Op.intDiv,h1'],rfl⟩
     ·cases h
    all_goals first | (cases h;done) | (cases h;exact⟨_,by simp[eqGuard,binOp,Op.intArith,Op.intBits,Op.intCmp,eqi,bne],rfl⟩)
 ·rename_i a b;simp only[RepA]at ha hb;subst ha;subst hb;split at h
  case h_3=>
   rcases bif_some h with⟨h1,h⟩ | ⟨_,h⟩
   ·have h1':a.length+b.length<maxS:=of_decide_eq_true h1;have h2:¬((9223372036854775807:Int)<(a.length:Int)+(b.length:Int)):=by unfold maxS at h1';omega
    cases h;refine⟨_,by simp[eqGuard,binOp,Op.stringOp,ByteArray.size,h2];rfl, ?_⟩;show Value.string _=_;congr 1
   ·cases h
  all_goals first | (cases h;done) | (cases h;exact⟨_,by simp[eqGuard,binOp,Op.stringOp,eqs,lts],rfl⟩)
 ·rename_i a b;simp only[RepA]at ha hb;subst ha;subst hb;split at h
  ·rename_i hti;obtain⟨d,hd1,hd2⟩:=(hE t _ hti).und;have hd:d= .bool:=by cases d<;>first | rfl | simp[tdOf]at hd2
   subst hd;have he:(Op.equal t (.bool a) (.bool b)).run P w= .ok (a==b) w:=run_equalIn_bool' w 9999 t a b hd1;split at h
   all_goals first | (cases h;done) | (cases h;exact⟨_,by simp[eqGuard,binOp,he,eqb],rfl⟩)
  ·cases h
 ·rename_i xs ys;rcases bif_some h with⟨h1,h⟩ | ⟨_,h⟩
  ·obtain⟨vs,rfl,k1,_⟩:=ha;obtain⟨us,rfl,k2,_⟩:=hb;obtain⟨q1,q2⟩:=hq t _ h1;split at h
   ·split at h
    ·rename_i b hb;cases h;have:=q1 w S γ m xs ys vs us b rfl k1 k2 hb;exact⟨_,by rw[Sem.run_bind,run_eqGuard_agg w _ t x y _ _ q2,Result.andThen_ok,run_eql_struct,this];rfl,rfl⟩
    ·cases h
   ·split at h
    ·rename_i b hb;cases h;have:=q1 w S γ m xs ys vs us b rfl k1 k2 hb;exact⟨_,by rw[Sem.run_bind,run_eqGuard_agg w _ t x y _ _ q2,Result.andThen_ok,run_neq_struct,this];rfl,rfl⟩
    ·cases h
   ·cases h
  ·cases h
 ·rename_i T x';obtain⟨u',rfl,_⟩:=ha;simp only[RepA]at hb;subst hb;split at h
  ·rename_i hti;obtain⟨d,hd1,hd2⟩:=z4j hE w hti;have hd:∃ms,d= .interface ms:=by cases d<;>first | exact⟨_,rfl⟩ | simp[tdOf]at hd2
   obtain⟨ms,rfl⟩:=hd;have he:(Op.equal t (.iface T u') .nilIface).run P w= .ok false w:=by show(Op.equalIn (9999+1) t _ _).run P w=_;rw[Op.equalIn];simp[hd1]
   split at h
   all_goals first | (cases h;done) | (cases h;exact⟨_,by simp[eqGuard,binOp,he],rfl⟩)
  ·cases h
 ·simp only[RepA]at ha hb;subst ha;subst hb;split at h
  ·rename_i hti;obtain⟨d,hd1,hd2⟩:=z4j hE w hti;have hd:∃ms,d= .interface ms:=by cases d<;>first | exact⟨_,rfl⟩ | simp[tdOf]at hd2
   obtain⟨ms,rfl⟩:=hd;have he:(Op.equal t .nilIface .nilIface).run P w= .ok true w:=by show(Op.equalIn (9999+1) t _ _).run P w=_;rw[Op.equalIn];simp[hd1]
   have hg:∀op,(eqGuard op t x y .nilIface .nilIface).run P w= .ok () w:=by
    intro op;simp only[nilG,aA]at hn;cases op<;>simp only[eqGuard]<;>first | rfl | skip
    all_goals
     rcases hn with hn | hn
     ·cases x<;>first | rfl | cases hn
     ·cases y<;>first | (cases x<;>rfl) | cases hn
   split at h
   all_goals first | (cases h;done) | (cases h;exact⟨_,by rw[Sem.run_bind,hg];simp[binOp,he],rfl⟩)
  ·cases h
 ·cases h
include hE hev in
theorem yqb(hq:∀t (n:List Nat),E.eqt t n=true->EqOk P t n/\P.eqGuardType P.depth t=false){o:Oper}{op:BinOp}{t y':TypeId}{x y:Operand}(ho:o.op= .binOp op t x y y')(h:W2 E o.dst o.op ev m K=some r):
  CoreOk w S γ m o.dst ((execOp el o).run P w) K r:=by
 rw[ho]at h;simp only[W2]at h;obtain⟨hn,h⟩:=X7 h;rw[x5e (K:=fun v=>K v none)]at h;split at h
 ·rename_i v hv;obtain⟨z,h1,h2⟩:=x5d hE hq (x:=x) (y:=y) (hev x) (hev y) hn hv;refine .pure (x:=z) ?_ h2 h;simp only[execOp,ho];rw[Sem.run_bind,h1];rfl
 ·cases h
include hev in
theorem yuw{o:Oper}{op:UnOp}{t:TypeId}{x:Operand}(ho:o.op= .unOp op t x)(h:W2 E o.dst o.op ev m K=some r):CoreOk w S γ m o.dst ((execOp el o).run P w) K r:=by
 rw[ho]at h;have hx:=hev x;cases op with
 | not=>
  simp only[W2]at h;split at h
  ·rename_i b hb;rw[hb]at hx;simp only[RepA]at hx;exact .pure (v:= .bool (!b)) (x:= .bool (!b)) (by simp[execOp,ho,hx,Op.unary]) rfl h
  ·cases h
 | neg=>
  simp only[W2]at h;split at h
  ·rename_i k n hb;rw[hb]at hx;simp only[RepA]at hx;exact .pure (v:= .int k (k.wrap (0-n))) (x:= .int k (k.wrap (0-n))) (by simp[execOp,ho,hx,Op.unary,Op.intArith]) rfl h
  ·cases h
 | _=>simp[W2]at h
include hE hev in
theorem y04{o:Oper}{t:TypeId}{x:Operand}(ho:o.op= .makeInterface t x)(h:W2 E o.dst o.op ev m K=some r):CoreOk w S γ m o.dst ((execOp el o).run P w) K r:=by
 rw[ho]at h;simp only[W2]at h;split at h
 ·rename_i ti hti;obtain⟨d,hd1,hd2⟩:=z4j hE w hti;split at h
  ·cases h
  ·rename_i hne;refine .pure (v:= .iface t (ev x)) (x:= .iface t (el x)) ?_ ⟨_,rfl,hev x⟩ h;cases d<;>first | (exact absurd hd2.symm hne) | simp[execOp,ho,Instr.makeInterface,hd1]
 ·cases h
include hev in
theorem yh0{o:Oper}{fn:Fn}{first caps:Array Operand}(ho:o.op= .makeFunc fn first caps)(h:W2 E o.dst o.op ev m K=some r):CoreOk w S γ m o.dst ((execOp el o).run P w) K r:=by
 rw[ho]at h;cases fn with
 | func f=>
  simp only[W2]at h;obtain⟨h1,h2⟩:=X7 h;clear h;simp only[ab]at h1;have hF:=RepAs.map hev first.toList
  have hC:=RepAs.map hev caps.toList;have hone:∀{l:List AV} {xs:List Value},U7 l=true->RepAs w S γ m l xs->mkFn f xs= .func (.func f) #[] xs.toArray:=by
   intro l xs ha hr;cases l with
   | nil=>cases (show xs=[]from hr);rfl
   | cons c l=>
    obtain⟨u,us,rfl,h3,_⟩:=hr;simp only[U7,bc,ab]at ha;refine yi1 (RepA.notTup h3 (fun e=> ?_) fun fs e=> ?_)
    ·rw[e]at ha;exact absurd ha.1 (by decide)
    ·rw[e]at ha;exact absurd ha.1 (by simp[AV.one])
  have hrun:(execOp el o).run P w= .ok (.value (.func (.func f) (first.map el) (caps.map el))) w:=by simp[execOp,ho,Instr.makeFunc]
  have ec:(caps.map el)=(caps.toList.map el).toArray:=bC (by simp);have ef:(first.map el)=(first.toList.map el).toArray:=bC (by simp);cases hfl:first.toList with
  | nil=>rw[hfl]at h2;refine .pure (v:= .clo f (caps.toList.map ev)) (x:= .func (.func f) (first.map el) (caps.map el)) hrun ⟨caps.toList.map el, ?_,hC⟩ h2;rw[hone h1.2 hC,ec,ef,hfl];rfl
  | cons x l=>rw[hfl]at h2 hF;refine .pure (v:= .clo f (.tup ((x::l).map ev)::caps.toList.map ev)) (x:= .func (.func f) (first.map el) (caps.map el)) hrun ⟨.tuple ((x::l).map el).toArray::caps.toList.map el, ?_,⟨_,_,rfl,⟨_,rfl,hF⟩,hC⟩⟩ h2;rw[ec,ef,hfl];rfl
 | _=>simp[W2]at h
include hev in
theorem yjg{o:Oper}{x:Operand}{i:Nat}(ho:o.op= .extract x i)(h:W2 E o.dst o.op ev m K=some r):CoreOk w S γ m o.dst ((execOp el o).run P w) K r:=by
 rw[ho]at h;simp only[W2]at h;have hx:=hev x;split at h
 ·rename_i vs he;rw[he]at hx;obtain⟨us,h1,h2⟩:=hx;split at h
  ·rename_i v hv;obtain⟨u,h3,h4⟩:=h2.get hv;exact .pure (x:=u) (by simp[execOp,ho,h1,Instr.extract,h3]) h4 h
  ·cases h
 ·cases h
end core
variable {R:Type}
theorem zof(b o n:Nat):(⟨b,o,none⟩:Addr).add n=⟨b,o+n,none⟩:=by simp[Addr.add]
theorem y4y{a:Addr}(h:a.spot=none):a=⟨a.block,a.off,none⟩:=by cases a;grind
theorem z3e{t' t:Ty}{xs:List t'.T}{ys:List t.T}(h:castL t' t xs=some ys):∃e:t'=t,ys=e▸xs:=by
 unfold castL at h;split at h
 ·rename_i e _;cases h;exact⟨e,rfl⟩
 grind
section lists
variable {w:World} {S:Nat->Prop} {γ:Nat->Loc} {m:Nat->Option MO} {base:Nat->Prop} (hm:MemRel w S γ m base)
theorem yei{t:Ty}:RepT w S (.list t) ([]:List t.T) [.slice none 0 0]:=
 ⟨none,0,rfl,ai _,fun _=>rfl,fun a e=>(by cases e),fun i x e=>(by grind[getq])⟩
theorem y74{l:Loc}{t:Ty}{xs:List t.T}{s:Stat}{S':Nat->Prop}(h:RowRel w S l t xs s)(hS:∀b,S b->S' b)(hb:∀a,l.a=some a->S' a.block):RepT w S' (.list t) xs [.slice l.a xs.length l.cap]:=by
 refine⟨l.a,l.cap,rfl,h.len,h.nil,fun a e=> ?_,fun i x e=> ?_⟩
 ·obtain⟨b,arr,el,fz,e1,_⟩:=h.row a e
  grind
 ·cases ha:l.a with
  | none=>
   have h1:=h.nil ha;have h2:=h.len
   grind[getq]
  | some a=>
   obtain⟨b,arr,el,fz,e1,e2,e3,e4,e5,e6⟩:=h.row a ha;obtain⟨c,k1,k2⟩:=e5 i x e;refine⟨a,c,rfl,hb a ha,RepT.mono (fun _ _=>rfl) hS t x c k1, ?_⟩;subst e1;intro j u hj
   grind[cell_of_row]
include hm in
theorem zth{t:Ty}{v:AV}{x:Value}{xs:List t.T}(h:z4i m t v=some xs)(hv:RepA w S γ m v x):RepT w S (.list t) xs [x]:=by
 unfold z4i at h;split at h
 ·obtain⟨e,rfl⟩:=z3e h;subst e;exact hv
 ·obtain⟨e,rfl⟩:=z3e h;subst e;exact hv.2
 ·cases h;simp only[RepA]at hv;subst hv;exact yei
 ·rename_i n;obtain⟨t0,xs0,s0,k1,k2⟩:=hv;split at h
  ·rename_i t' xs' hn;obtain⟨e,rfl⟩:=z3e h;subst e;rw[k1]at hn;cases hn;have hob:RowRel w S (γ n) _ _ .still:=hm.obj n _ k1;rw[k2];refine y74 hob (fun _ h=>h) fun a ha=> ?_;obtain⟨b,_,_,_,e1,_,_,_,_,_,e7⟩:=hob.row a ha;subst e1;exact e7 rfl
  ·cases h
 ·cases h
include hm in
theorem yli{t:Ty}{v:AV}{x:Value}{xs:List t.T}(h:zb7 m t v=some xs)(hv:RepA w S γ m v x):RepT w (fun b=>b<w.heap.size) (.list t) xs [x]:=by
 unfold zb7 at h;split at h
 ·obtain⟨e,rfl⟩:=z3e h;subst e;exact RepT.mono (fun _ _=>rfl) hm.low _ _ _ hv
 ·obtain⟨e,rfl⟩:=z3e h;subst e;exact RepT.mono (fun _ _=>rfl) hm.low _ _ _ hv.2
 ·cases h;simp only[RepA]at hv;subst hv;exact yei
 ·rename_i n;obtain⟨t0,xs0,s0,k1,k2⟩:=hv;have fin:∀{s:Stat},s= .live\/s= .still->m n=some (.sl t0 xs0 s)->RepT w (fun b=>b<w.heap.size) (.list t0) xs0 [x]:=by
   intro s hs hn;have hob:ObjRel w S γ m n (.sl t0 xs0 s):=hm.obj n _ hn;have hob:RowRel w S (γ n) t0 xs0 s:=by rcases hs with rfl | rfl<;>exact hob
   rw[k2];refine y74 hob hm.low fun a ha=> ?_;obtain⟨b,_,_,_,e1,e2,_⟩:=hob.row a ha;subst e1;exact zcx e2
  split at h
  ·rename_i t' xs' hn;obtain⟨e,rfl⟩:=z3e h;rw[k1]at hn;cases hn;subst e;exact fin (by simp) k1
  ·rename_i t' xs' hn;obtain⟨e,rfl⟩:=z3e h;rw[k1]at hn;cases hn;subst e;exact fin (by simp) k1
  ·cases h
 ·cases h
include hm in
theorem yf5:∀{t:Ty} {cs:List AV} {vs:List Value} {x:t.T} {rest:List AV},decP m t cs=some (x,rest)->RepAs w S γ m cs vs->∃c us,vs=c++us/\RepT w S t x c/\RepAs w S γ m rest us
 | .int k,[],_,_,_,h,_=>by simp[decP]at h
 | .int k,v::r,vs,x,rest,h,hr=>by
  cases v<;>simp only[decP]at h<;>try (cases h;done)
  rename_i k' n;split at h
  ·rename_i hk;have:=y78 hk;subst this;cases h;obtain⟨u,us,rfl,h2,h3⟩:=hr;exact⟨[u],us,rfl,by simp only[RepA]at h2;subst h2;rfl,h3⟩
  ·cases h
 | .bool,[],_,_,_,h,_=>by simp[decP]at h
 | .bool,v::r,vs,x,rest,h,hr=>by
  cases v<;>simp only[decP]at h<;>try (cases h;done)
  cases h;obtain⟨u,us,rfl,h2,h3⟩:=hr;exact⟨[u],us,rfl,by simp only[RepA]at h2;subst h2;rfl,h3⟩
 | .str,[],_,_,_,h,_=>by simp[decP]at h
 | .str,v::r,vs,x,rest,h,hr=>by
  cases v<;>simp only[decP]at h<;>try (cases h;done)
  cases h;obtain⟨u,us,rfl,h2,h3⟩:=hr;exact⟨[u],us,rfl,by simp only[RepA]at h2;subst h2;rfl,h3⟩
 | .unit,cs,vs,x,rest,h,hr=>by simp only[decP]at h;cases h;exact⟨[],vs,rfl,rfl,hr⟩
 | .pair a b,cs,vs,x,rest,h,hr=>by
  simp only[decP]at h;split at h
  ·rename_i y r' h1;split at h
   ·rename_i z r'' h2;cases h;obtain⟨c,us,rfl,k1,k2⟩:=yf5 h1 hr;obtain⟨d,ts,rfl,k3,k4⟩:=yf5 h2 k2;exact⟨c++d,ts,by simp,⟨c,d,rfl,k1,k3⟩,k4⟩
   ·cases h
  ·cases h
 | .list t,[],_,_,_,h,_=>by simp[decP]at h
 | .list t,v::r,vs,x,rest,h,hr=>by
  simp only[decP]at h;split at h
  ·rename_i xs hx;cases h;obtain⟨u,us,rfl,h2,h3⟩:=hr;exact⟨[u],us,rfl,zth hm hx h2,h3⟩
  ·cases h
include hm in
theorem zyu{t:Ty}{cs:List AV}{vs:List Value}{x:t.T}(h:dec m t cs=some x)(hr:RepAs w S γ m cs vs):RepT w S t x vs:=by
 unfold dec at h;split at h
 ·rename_i y hy;cases h;obtain⟨c,us,rfl,h1,h2⟩:=yf5 hm hy hr;simp only[RepAs]at h2;subst h2;simpa using h1
 ·cases h
theorem yqm{t:Ty}{v:AV}{xs:List t.T}(h:z4i m t v=some xs):v.one=true:=by cases v<;>first | rfl | grind[z4i]
theorem yf6:∀{t:Ty} {cs:List AV} {x:t.T} {rest:List AV},decP m t cs=some (x,rest)->∃c,cs=c++rest/\U7 c=true
 | .int k,[],_,_,h=>by grind[decP]
 | .int k,v::r,x,rest,h=>by
  cases v<;>simp only[decP]at h<;>try (cases h;done)
  split at h
  ·cases h;exact⟨[_],rfl,rfl⟩
  grind
 | .bool,[],_,_,h=>by grind[decP]
 | .bool,v::r,x,rest,h=>by
  cases v<;>simp only[decP]at h<;>try (cases h;done)
  cases h;exact⟨[_],rfl,rfl⟩
 | .str,[],_,_,h=>by grind[decP]
 | .str,v::r,x,rest,h=>by
  cases v<;>simp only[decP]at h<;>try (cases h;done)
  cases h;exact⟨[_],rfl,rfl⟩
 | .unit,cs,x,rest,h=>by simp only[decP]at h;cases h;exact⟨[],rfl,rfl⟩
 | .pair a b,cs,x,rest,h=>by
  simp only[decP]at h;split at h
  ·rename_i y r' h1;split at h
   ·rename_i z r'' h2;cases h;obtain⟨c,rfl,k1⟩:=yf6 h1;obtain⟨d,rfl,k2⟩:=yf6 h2;exact⟨c++d,by simp,by rw[z52,k1,k2];rfl⟩
   ·cases h
  ·cases h
 | .list t,[],_,_,h=>by grind[decP]
 | .list t,v::r,x,rest,h=>by
  simp only[decP]at h;split at h
  ·rename_i xs hx;cases h;exact⟨[v],rfl,by grind[U7,yqm]⟩
  grind
theorem x1o{t:Ty}{cs:List AV}{x:t.T}(h:dec m t cs=some x):U7 cs=true:=by
 unfold dec at h
 grind[yf6]
end lists
theorem zkd{α:Type}{xs:List α}{i:Nat}{x:α}(h:getq xs i=some x):i<xs.length:=(List.getElem?_eq_some_iff.1 h).1
theorem x0p{t:Ty}{xs:List t.T}{i:Int}(h:inB i xs.length=true):getq xs i.toNat=some (rd t xs i):=by simp_all[inB,getq,rd]
section core
variable {P:Program} {E:Env} (hE:∀t ti,E.ty t=some ti->TIok P t ti) {w:World} {S:Nat->Prop} {γ:Nat->Loc} {m:Nat->Option MO} {base:Nat->Prop} (hm:MemRel w S γ m base)
 {ev:Operand->AV} {el:Operand->Value} (hev:∀x,RepA w S γ m (ev x) (el x)) {K:AV->Option MO->Option R} {r:R}
include hE in
theorem z96{t e:TypeId}{ei:TI}{ty:Ty}(h:elemTy E t=some (e,ei,ty)):P.underlying t=some (.slice e)/\E.ty e=some ei/\ei.ty=some ty:=by
 unfold elemTy at h;split at h
 ·rename_i hti;obtain⟨d,hd1,hd2⟩:=(hE t _ hti).und;split at h
  ·rename_i he;split at h
   ·rename_i hy;cases h;refine⟨?_,he,hy⟩;cases d<;>simp[tdOf]at hd2;subst hd2;exact hd1
   ·cases h
  ·cases h
 ·cases h
theorem yee{d:TypeDesc}{k:IntKind}(h:tdOf d= .int k):d= .int k:=by
 cases d<;>simp[tdOf]at h
 grind
theorem zo8{d:TypeDesc}(h:tdOf d= .str):d= .string:=by cases d<;>first | rfl | grind[tdOf]
theorem zsc{d:TypeDesc}{e:TypeId}(h:tdOf d= .slice e):d= .slice e:=by
 cases d<;>simp[tdOf]at h
 grind
theorem y4d{d:TypeDesc}{n:Nat}{e:TypeId}(h:tdOf d= .arr n e):d= .array n e:=by
 cases d<;>simp[tdOf]at h
 grind
theorem zva{d:TypeDesc}{fs:List (Nat×TypeId)}(h:tdOf d= .struct fs):∃a:Array Field,d= .struct a/\fs=a.toList.map fun f=>(f.offset,f.type):=by
 cases d<;>simp[tdOf]at h
 grind
theorem yik{a:Array Field}{f fo:Nat}{ft:TypeId}(h:(a.toList.map fun f=>(f.offset,f.type))[f]? =some (fo,ft)):∃fd,a[f]? =some fd/\fd.offset=fo/\fd.type=ft:=by grind
theorem yqd{P:Program}(w:World){q t e:TypeId}(e1:P.underlying q=some (.slice e))(hby:P.underlying e=some (.int .u8))(hd1:P.underlying t=some .string){S:Nat->Prop}{xs:List Int}{x:Value}
  (hrep:RepT w S (.list (.int .u8)) xs [x]):(convert q t x).run P w= .ok (.string (strOfNums xs)) w:=by
 obtain⟨ao,cap,k1,k2,k3,k4,k5⟩:=hrep;simp only[List.cons.injEq,and_true]at k1;subst k1;cases ao with
 | none=>have hcap:=k3 rfl;have k2':xs.length<=cap:=k2;have:xs=[]:=aF (by omega);subst this;exact run_convert_bytes_nil w q e e1 hby _ _ t hd1
 | some a=>
  by_cases hx0:xs.length=0
  ·have:xs=[]:=aF hx0;subst this;have hl:(loadCells a 0).run P w= .ok (([]:List Int).map (Value.int .u8)).toArray w:=run_loadCells_list w a [] (fun j v hj=>by grind);rw[run_convert_bytes_string w q t e (some a) _ cap e1 hby hd1];constructor<;>grind
  have ha:=y4y (k4 a rfl hx0);rw[ha];refine run_convert_bytes_arg w q e e1 hby a.block a.off _ cap xs rfl ?_ t hd1;intro i hi;obtain⟨a',c,f1,f2,f3,f4⟩:=k5 i xs[i] (List.getElem?_eq_getElem hi);cases f1;simp only[RepT]at f3;subst f3;have:=f4 0 _ rfl;simp only[Ty.size,Nat.mul_one,Nat.add_zero]at this
  grind
theorem yly{P:Program}(w:World){q t e:TypeId}(s:List UInt8)(hlen:s.length<maxB){u:TypeDesc}(hu1:P.underlying q=some u)(e1:P.underlying t=some (.slice e))(hby:P.underlying e=some (.int .u8)):
  ∃w' cap arr fz,(convert q t (.string ⟨s.toArray⟩)).run P w= .ok (.slice (some ⟨w.heap.size,0,none⟩) (U2 s).length cap) w'/\Below w.heap.size w w'/\
   w'.heap[w.heap.size]? =some (.cells arr e fz)/\arr.size=cap*(Ty.int .u8).size/\(U2 s).length<=cap/\cap<=maxLen/\fzOK (.int .u8) arr.size fz/\
   (∀i (x:(Ty.int .u8).T),getq (α:=Int) (U2 s) i=some x->∃c,∀{S:Nat->Prop},RepT w S (.int .u8) x c/\∀j u,c[j]? =some u->arr[i*(Ty.int .u8).size+j]? =some u):=by
 have hrun:=Lib.run_convert_string_bytes (P:=P) w q t e ⟨s.toArray⟩ hu1 e1 hby
 have hsz:(ByteArray.mk s.toArray).size=s.length:=by simp[ByteArray.size]
 have hge:=grownCap_ge w s.length 0 e;refine⟨Lib.bytesWorld w e ⟨s.toArray⟩,grownCap w s.length 0 e,Lib.bytesCells w e ⟨s.toArray⟩,_, ?_, ?_,Lib.bytesWorld_at_new _ _ _, ?_, ?_, ?_, ?_, ?_⟩
 ·grind[U2]
 ·exact⟨rfl,rfl,rfl,by simp[Lib.bytesWorld_size],fun k hk=>Lib.bytesWorld_at_old _ _ _ k hk⟩
 ·grind[Lib.bytesCells,Ty.size]
 ·grind[U2]
 ·grind[maxLen,maxB,grownCap_le_maxLen]
 ·intro i hi;rcases hi with hi | ⟨_,hi⟩
  ·omega
  ·cases hi
 ·intro i x hx;have hi:=zkd hx;refine⟨[.int .u8 x],rfl,fun j u hj=> ?_⟩
  grind[U2,getq,Lib.bytesCells,Ty.size]
include hE hm hev in
theorem yjh{o:Oper}{q t:TypeId}{x:Operand}(ho:o.op= .convert q t x)(h:W2 E o.dst o.op ev m K=some r):CoreOk w S γ m o.dst ((execOp el o).run P w) K r:=by
 rw[ho]at h;simp only[W2]at h;have hx:=hev x;split at h
 ·rename_i qi ti hq ht;obtain⟨du,hu1,_⟩:=(hE q _ hq).und;obtain⟨d,hd1,hd2⟩:=(hE t _ ht).und;split at h
  ·rename_i k _ n hk hx';rw[hx']at hx;simp only[RepA]at hx;rw[hk]at hd2;have:=yee hd2;subst this;refine .pure (v:= .int k (k.wrap n)) (x:= .int k (k.wrap n)) ?_ rfl h;simp only[execOp,ho,hx];cases du<;>simp[convert,run_underlying hu1,run_underlying hd1,Conv.intToInt]
  ·rename_i _ n hk hx';rw[hx']at hx;simp only[RepA]at hx;rw[hk]at hd2;have:=zo8 hd2;subst this;refine .pure (v:= .str (Utf8.encode n).data.toList) (x:= .string (Utf8.encode n)) ?_ (by simp[RepA]) h;simp only[execOp,ho,hx];cases du<;>simp[convert,run_underlying hu1,run_underlying hd1,Conv.intToString]
  ·rename_i s hk hx';rw[hx']at hx;have hx2:=hx;simp only[RepA]at hx;rw[hk]at hd2;have:=zo8 hd2;subst this;refine .pure (v:= .str s) (x:= .string ⟨s.toArray⟩) ?_ rfl h;simp only[execOp,ho,hx];cases du<;>simp[convert,run_underlying hu1,run_underlying hd1]
  ·rename_i v hk hx1 hx2;rw[hk]at hd2;have:=zo8 hd2;subst this;split at h
   ·rename_i e ei he;obtain⟨e1,e2,e3⟩:=z96 hE he;split at h
    ·rename_i xs hxs;have hrep:=yli hm hxs hx;obtain⟨dd,dd1,dd2⟩:=(hE e _ e2).und;have hby:P.underlying e=some (.int .u8):=by
      have:=((hE e _ e2).ty _ e3).2.2.1;simp only[tyD]at this;have:=TD.eq_spec this;rw[this]at dd2;rw[yee dd2]at dd1;exact dd1
     refine .pure (v:= .str (z2j xs)) (x:= .string (strOfNums xs)) ?_ rfl h;simp only[execOp,ho];rw[Sem.run_bind,yqd w e1 hby hd1 hrep];rfl
    ·cases h
   ·cases h
  ·rename_i s hk hx';rw[hx']at hx;simp only[RepA]at hx;split at h
   ·rename_i e ei d he hd;obtain⟨e1,e2,e3⟩:=z96 hE he;obtain⟨hlen,h⟩:=X7 h;have hlen:=of_decide_eq_true hlen;obtain⟨dd,dd1,dd2⟩:=(hE e _ e2).und;have hby:P.underlying e=some (.int .u8):=by
     have:=((hE e _ e2).ty _ e3).2.2.1;simp only[tyD]at this;have:=TD.eq_spec this;rw[this]at dd2;rw[yee dd2]at dd1;exact dd1
    obtain⟨w',cap,arr,fz,c1,c2,c3,c4,c5,c6,c7,c8⟩:=yly (q:=q) w s hlen hu1 e1 hby
    refine CoreOk.newRow (t:= .int .u8) (xs:=U2 s) (arr:=arr) (cap:=cap) hm hd (w':=w') ?_ c2 c3 c4 c5 c6 c7 (fun i x hx=>let⟨c,hc⟩:=c8 i x hx;⟨c,hc⟩) h;simp only[execOp,ho,hx];rw[Sem.run_bind,c1];rfl
   ·cases h
  ·cases h
 ·cases h
end core
end Go.Dv
