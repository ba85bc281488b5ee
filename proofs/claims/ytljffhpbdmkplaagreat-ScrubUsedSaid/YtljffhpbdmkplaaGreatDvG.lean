/- Results of functions. -/
import Derived.Test.YtljffhpbdmkplaaGreatDvC
import Derived.Test.YtljffhpbdmkplaaGreatDvA
import Derived.RangeFuncLeaves
set_option linter.all false
open Array renaming ext'->bC,getD_eq_getD_getElem?->bi,replicate->br
open Bool renaming and_eq_true->ab,not_eq_true'->au
open List renaming all_append->bR,all_cons->bc,all_eq_true->aE,append_nil->aj,drop_of_length_le->dN,drop_zero->dw,getD_eq_getElem?_getD->bg,map_cons->aC,mem_cons->ar,mem_cons_of_mem->ay,mem_map->aH,pairwise_cons->aD,replicate->az,take_of_length_le->bu
open Nat renaming beq->ax,ble->bG,ble_eq->d8,eq_of_beq_eq_true->af,le_refl->ai,zero_add->bk
open Option renaming map_some->aK,some->aL
namespace Go.Dv
open Go.RowKit
variable [LTab]
variable {R:Type}
inductive RS where
 | int (k:IntKind)
 | bool
 | str
 | list (t:Ty)
 | val (t:Ty)
 | fresh (t:Ty)
 | ro (t:Ty) (off:Nat)
 | nilp
 | nili
 | nilf
 | nil
 | cons (a b:RS)
 | agg (l:RS)
 | tup (l:RS)
 | clo (f:FuncId) (l:RS)
 | iface (t:TypeId) (a:RS)
 | bx (l:RS) (off:Nat)
def RS.T:RS->Type
 | .int _=>Int
 | .bool=>Bool
 | .str=>List UInt8
 | .list t=>List t.T
 | .val t=>t.T
 | .fresh t=>List t.T
 | .ro t _=>t.T
 | .cons a b=>a.T×b.T
 | .agg l=>l.T
 | .tup l=>l.T
 | .clo _ l=>l.T
 | .iface _ a=>a.T
 | .bx l _=>l.T
 | _=>Unit
def mkX:(s:RS)->s.T->List AV
 | .int k,n=>[.int k n]
 | .bool,b=>[.bool b]
 | .str,s=>[.str s]
 | .list t,xs=>[.list t xs]
 | .val t,x=>[.agg (enc t x)]
 | .fresh t,xs=>[.fresh t xs]
 | .ro t off,x=>[.ro t x off]
 | .nilp,_=>[.nilp]
 | .nili,_=>[.nili]
 | .nilf,_=>[.nilf]
 | .nil,_=>[]
 | .cons a b,x=>mkX a x.1++mkX b x.2
 | .agg l,x=>[.agg (mkX l x)]
 | .tup l,x=>[.tup (mkX l x)]
 | .clo f l,x=>[.clo f (mkX l x)]
 | .iface t a,x=>match mkX a x with
  | [v]=>[.iface t v]
  | _=>[]
 | .bx l off,x=>[.bx (mkX l x) off]
def zyv{α:Type}:Option (α×List AV×List (Option Nat))->Option α
 | some (x,[],[])=>some x
 | _=>none
def yfd{α:Type}:Option (α×List AV×List (Option Nat))->Option (α×List (Option Nat))
 | some (x,[],ns)=>some (x,ns)
 | _=>none
def getX(m:Nat->Option MO):(s:RS)->List AV->Option (s.T×List AV×List (Option Nat))
 | .int k, .int k' n::r=>match ikEq k' k with | some _=>some (n,r,[]) | none=>none
 | .bool, .bool b::r=>some (b,r,[])
 | .str, .str s::r=>some (s,r,[])
 | .list t,v::r=>match z4i m t v with | some xs=>some (xs,r,[]) | none=>none
 | .val t, .agg cs::r=>match dec m t cs with | some x=>some (x,r,[]) | none=>none
 | .fresh t, .own n::r=>match m n with
  | some (.sl t' xs .live)=>match castL t' t xs with | some xs=>some (xs,r,[some n]) | none=>none
  | _=>none
 | .fresh _, .nils::r=>some ([],r,[none])
 | .ro t off, .ro t' x off'::r=>bif ax off' off then(match yvq t' t x with | some x=>some (x,r,[]) | none=>none)else none
 | .nilp, .nilp::r=>some ((),r,[])
 | .nili, .nili::r=>some ((),r,[])
 | .nilf, .nilf::r=>some ((),r,[])
 | .nil,r=>some ((),r,[])
 | .cons a b,r=>match getX m a r with
  | some (x,r',ns)=>match getX m b r' with
   | some (y,r'',ns')=>some ((x,y),r'',ns++ns')
   | none=>none
  | none=>none
 | .agg l, .agg cs::r=>match yfd (getX m l cs)with | some (x,ns)=>some (x,r,ns) | none=>none
 | .tup l, .tup cs::r=>match yfd (getX m l cs)with | some (x,ns)=>some (x,r,ns) | none=>none
 | .clo f l, .clo f' cs::r=>bif ax f' f then(match zyv (getX m l cs)with | some x=>some (x,r,[]) | none=>none)else none
 | .iface t a, .iface t' v::r=>bif ax t' t then(match zyv (getX m a [v])with | some x=>some (x,r,[]) | none=>none)else none
 | .bx l off, .bx cs off'::r=>bif ax off' off then(match zyv (getX m l cs)with | some x=>some (x,r,[]) | none=>none)else none
 | .bx l off, .ptr n off'::r=>bif ax off' off then(match m n with
  | some (.box cs .still)=>match zyv (getX m l cs)with | some x=>some (x,r,[]) | none=>none
  | _=>none)else none
 | _,_=>none
def hasN(n:Nat):List (Option Nat)->Bool
 | []=>false
 | some k::r=>ax n k || hasN n r
 | none::r=>hasN n r
def ypu:List (Option Nat)->Bool
 | []=>true
 | some n::r=> !(hasN n r)&&ypu r
 | none::r=>ypu r
def resT(o:RS):List RS->Type
 | []=>o.T
 | o'::r=>o.T⊕resT o' r
def get1(m:Nat->Option MO)(s:RS)(v:AV):Option s.T:=match yfd (getX m s [v])with
 | some (x,ns)=>bif ypu ns then some x else none
 | none=>none
def yaz(m:Nat->Option MO)(o:RS):(l:List RS)->AV->Option (resT o l)
 | [],v=>get1 m o v
 | o'::r,v=>match get1 m o v with
  | some x=>some (.inl x)
  | none=>match yaz m o' r v with | some x=>some (.inr x) | none=>none
def one1(l:List AV)(K:AV->Option R):Option R:=match l with | [v]=>K v | _=>none
def yau(o:RS):(l:List RS)->resT o l->(AV->Option R)->Option R
 | [],x,K=>one1 (mkX o x) K
 | o'::r,x,K=>match x with
  | .inl x=>one1 (mkX o x) K
  | .inr x=>yau o' r x K
theorem yna(l:List AV)(K:AV->Option R):one1 l K=(one1 l some).bind K:=by unfold one1;split<;>rfl
theorem ycw(K:AV->Option R):∀(l:List RS) (o:RS) (x:resT o l),yau o l x K=(yau o l x some).bind K
 | [],o,x=>yna ..
 | o'::r,o,x=>by
  cases x with
  | inl x=>exact yna ..
  | inr x=>exact ycw K r o' x
section res
variable {w:World} {S:Nat->Prop} {γ:Nat->Loc} {m:Nat->Option MO} {base:Nat->Prop}
def locN(γ:Nat->Loc):Option Nat->Loc
 | some n=>γ n
 | none=>⟨none,0⟩
def FoundX(w:World)(S:Nat->Prop)(γ:Nat->Loc)(m:Nat->Option MO)(vs':List AV)(vs r:List AV)(ns:List (Option Nat))(xs:List Value):Prop:=
 ∃xs1 xs2 vs1,xs=xs1++xs2/\vs=vs1++r/\RepXs w S vs' xs1 (ns.map (locN γ))/\RepAs w S γ m r xs2/\(∀n,some n∈ns->∃q,m n=some q/\q.live=true)/\(U7 vs1=true->vs'.all AV.oneX=true)
theorem RepXs.nil':RepXs w S [] [] []:=⟨rfl,rfl⟩
theorem RepXs.cons'{c:AV}{cs:List AV}{u:Value}{us:List Value}{l1 l2:List Loc}(h:RepX w S c u l1)(h':RepXs w S cs us l2):RepXs w S (c::cs) (u::us) (l1++l2):=⟨u,us,l1,l2,rfl,rfl,h,h'⟩
theorem RepXs.append':∀{cs ds:List AV} {us vs:List Value} {l1 l2:List Loc},RepXs w S cs us l1->RepXs w S ds vs l2->RepXs w S (cs++ds) (us++vs) (l1++l2)
 | [],_,us,vs,l1,l2,h,h'=>by obtain⟨rfl,rfl⟩:=h;exact h'
 | c::cs,ds,us,vs,l1,l2,h,h'=>by obtain⟨u,us',k1,k2,rfl,rfl,h1,h2⟩:=h;have:=(h2.append' h');rw[List.append_assoc];exact⟨u,us'++vs,k1,k2++l2,rfl,rfl,h1,this⟩
def flat(v:AV):Bool:=match v with
 | .fresh _ _=>false
 | .agg _=>false
 | .tup _=>false
 | _=>true
theorem RepX.of{v:AV}{x:Value}(h:RepA w S g0 m0 v x)(hf:flat v=true):RepX w S v x []:=by cases v<;>first | exact⟨rfl,h⟩ | cases hf
mutual
theorem RepX.dead:∀(v:AV) (x:Value),RepX w S v x []->RepA w S g0 m0 v x/\(v.oneX=true->v.one=true)
 | .fresh t xs,x,h=>by obtain⟨l,e,_⟩:=h;cases e
 | .agg cs,x,h=>by obtain⟨vs,h1,h2,h3⟩:=h;obtain⟨k1,k2⟩:=RepXs.dead cs vs h2;exact⟨⟨vs,h1,k1,k2 h3⟩,fun h=>h⟩
 | .tup cs,x,h=>by obtain⟨vs,h1,h2⟩:=h;obtain⟨k1,k2⟩:=RepXs.dead cs vs h2;exact⟨⟨vs,h1,k1⟩,fun h=>h⟩
 | .undef,x,h=>⟨h.2,fun h=>h⟩
 | .int _ _,x,h=>⟨h.2,fun h=>h⟩
 | .bool _,x,h=>⟨h.2,fun h=>h⟩
 | .str _,x,h=>⟨h.2,fun h=>h⟩
 | .nils,x,h=>⟨h.2,fun h=>h⟩
 | .nilp,x,h=>⟨h.2,fun h=>h⟩
 | .nilf,x,h=>⟨h.2,fun h=>h⟩
 | .nili,x,h=>⟨h.2,fun h=>h⟩
 | .list _ _,x,h=>⟨h.2,fun h=>h⟩
 | .clip _ _,x,h=>⟨h.2,fun h=>h⟩
 | .own _,x,h=>⟨h.2,fun h=>h⟩
 | .ptr _ _,x,h=>⟨h.2,fun h=>h⟩
 | .oel _ _ _,x,h=>⟨h.2,fun h=>h⟩
 | .bx _ _,x,h=>⟨h.2,fun h=>h⟩
 | .ro _ _ _,x,h=>⟨h.2,fun h=>h⟩
 | .clo _ _,x,h=>⟨h.2,fun h=>h⟩
 | .iface _ _,x,h=>⟨h.2,fun h=>h⟩
theorem RepXs.dead:∀(vs:List AV) (xs:List Value),RepXs w S vs xs []->RepAs w S g0 m0 vs xs/\(vs.all AV.oneX=true->U7 vs=true)
 | [],xs,h=>⟨h.1,fun _=>rfl⟩
 | v::vs,xs,h=>by obtain⟨u,us,l1,l2,rfl,e,h1,h2⟩:=h;obtain⟨rfl,rfl⟩:=List.append_eq_nil_iff.1 e.symm;obtain⟨a1,a2⟩:=RepX.dead v u h1;obtain⟨b1,b2⟩:=RepXs.dead vs us h2;refine⟨⟨u,us,rfl,a1,b1⟩,fun h=> ?_⟩;simp only[bc,ab]at h;simp only[U7,bc,ab];exact⟨a2 h.1,by simpa[U7] using b2 h.2⟩
end
theorem FoundX.one{v v':AV}{r:List AV}{ns:List (Option Nat)}{xs:List Value}(h:RepAs w S γ m (v::r) xs)(hv:∀u,RepA w S γ m v u->RepX w S v' u (ns.map (locN γ)))(hn:∀n,some n∈ns->∃q,m n=some q/\q.live=true)(ho:v.one=true->v'.oneX=true):FoundX w S γ m [v'] (v::r) r ns xs:=by
 obtain⟨u,us,rfl,h1,h2⟩:=h;refine⟨[u],us,[v],rfl,rfl, ?_,h2,hn,fun h=> ?_⟩
 ·have:=RepXs.cons' (hv u h1) RepXs.nil'
  rwa [aj]at this
 ·simp only[U7,bc,List.all_nil,Bool.and_true]at h|-;exact ho h
theorem FoundX.flat{v v':AV}{r:List AV}{xs:List Value}(h:RepAs w S γ m (v::r) xs)(hv:∀u,RepA w S γ m v u->RepA w S g0 m0 v' u)(hf:flat v'=true)(ho:v.one=true->v'.oneX=true):FoundX w S γ m [v'] (v::r) r [] xs:=
 .one h (fun u hu=>RepX.of (hv u hu) hf) (fun n hn=>by cases hn) ho
theorem zlb{α:Type}{o:Option (α×List AV×List (Option Nat))}{x:α}(h:zyv o=some x):o=some (x,[],[]):=by
 unfold zyv at h;split at h
 ·cases h;rfl
 ·cases h
theorem zv9{α:Type}{o:Option (α×List AV×List (Option Nat))}{p:α×List (Option Nat)}(h:yfd o=some p):o=some (p.1,[],p.2):=by
 unfold yfd at h;split at h
 ·cases h;rfl
 ·cases h
theorem FoundX.within{vs' vs:List AV}{xs:List Value}(h:FoundX w S γ m vs' vs [] [] xs):RepAs w S g0 m0 vs' xs/\(U7 vs=true->U7 vs'=true):=by obtain⟨xs1,xs2,vs1,rfl,e,k1,k2,k3,k4⟩:=h;simp only[aj]at e;subst e;rw[show xs2=[]from k2,aj];obtain⟨a,b⟩:=RepXs.dead vs' xs1 k1;exact⟨a,fun h=>b (k4 h)⟩
theorem encX:∀{t:Ty} {x:t.T} {cs:List Value},RepT w S t x cs->RepXs w S (enc t x) cs []
 | .int _,_,_,h=>by rw[show _=_ from h];exact RepXs.cons' (l1:=[]) ⟨rfl,rfl⟩ RepXs.nil'
 | .bool,_,_,h=>by rw[show _=_ from h];exact RepXs.cons' (l1:=[]) ⟨rfl,rfl⟩ RepXs.nil'
 | .str,_,_,h=>by rw[show _=_ from h];exact RepXs.cons' (l1:=[]) ⟨rfl,rfl⟩ RepXs.nil'
 | .unit,_,_,h=>by rw[show _=_ from h];exact RepXs.nil'
 | .pair a b,x,_,h=>by obtain⟨c,d,rfl,h1,h2⟩:=h;exact(encX h1).append' (encX h2)
 | .list t,xs,cs,h=>by have h':=h;obtain⟨ao,cap,rfl,_⟩:=h;exact RepXs.cons' (l1:=[]) ⟨rfl,h'⟩ RepXs.nil'
theorem yen:∀(t:Ty) (x:t.T),(enc t x).all AV.oneX=true
 | .int _,_=>rfl
 | .bool,_=>rfl
 | .str,_=>rfl
 | .unit,_=>rfl
 | .pair a b,x=>by simp only[enc,bR,yen a x.1,yen b x.2,Bool.and_self]
 | .list _,_=>rfl
theorem yx9(hm:MemRel w S γ m base)(s:RS):∀(vs r:List AV) (x:s.T) (ns:List (Option Nat)) (xs:List Value),getX m s vs=some (x,r,ns)->RepAs w S γ m vs xs->FoundX w S γ m (mkX s x) vs r ns xs:=by
 induction s with
 | nil=>intro vs r x ns xs h hv;simp only[getX,aL.injEq,Prod.mk.injEq]at h;obtain⟨_,rfl,rfl⟩:=h;exact⟨[],xs,[],rfl,rfl,RepXs.nil',hv,fun n hn=>(by cases hn),fun _=>rfl⟩
 | cons a b iha ihb=>
  intro vs r x ns xs h hv;simp only[getX]at h;split at h
  ·rename_i x1 r1 n1 h1;split at h
   ·rename_i y1 r2 n2 h2;cases h;obtain⟨xs1,xs2,vs1,rfl,rfl,k1,k2,k3,k4⟩:=iha vs r1 x1 n1 xs h1 hv;obtain⟨ys1,ys2,us1,rfl,rfl,l1,l2,l3,l4⟩:=ihb r1 r y1 n2 xs2 h2 k2;refine⟨xs1++ys1,ys2,vs1++us1,by simp,by simp, ?_,l2,fun n hn=> ?_,fun h=> ?_⟩
    ·rw[List.map_append];exact k1.append' l1
    ·rcases List.mem_append.1 hn with hn | hn
     ·exact k3 n hn
     ·exact l3 n hn
    ·rw[z52,ab]at h;show(mkX a x1++mkX b y1).all AV.oneX=true;rw[bR,ab];exact⟨k4 h.1,l4 h.2⟩
   ·cases h
  ·cases h
 | int k=>
  intro vs r x ns xs h hv;cases vs with
  | nil=>simp[getX]at h
  | cons v vs=>
   cases v<;>simp only[getX]at h<;>try (cases h;done)
   split at h
   ·rename_i e _;obtain⟨e⟩:=e;subst e;cases h;exact .flat hv (fun _ h=>h) rfl fun h=>h
   ·cases h
 | bool=>
  intro vs r x ns xs h hv;cases vs with
  | nil=>simp[getX]at h
  | cons v vs=>
   cases v<;>simp only[getX]at h<;>try (cases h;done)
   cases h;exact .flat hv (fun _ h=>h) rfl fun h=>h
 | str=>
  intro vs r x ns xs h hv;cases vs with
  | nil=>simp[getX]at h
  | cons v vs=>
   cases v<;>simp only[getX]at h<;>try (cases h;done)
   cases h;exact .flat hv (fun _ h=>h) rfl fun h=>h
 | list t=>
  intro vs r x ns xs h hv;cases vs with
  | nil=>simp[getX]at h
  | cons v vs=>
   simp only[getX]at h;split at h
   ·rename_i ys hys;cases h;exact .flat hv (fun u hu=>zth hm hys hu) rfl fun _=>rfl
   ·cases h
 | val t=>
  intro vs r x ns xs h hv;cases vs with
  | nil=>simp[getX]at h
  | cons v vs=>
   cases v<;>simp only[getX]at h<;>try (cases h;done)
   rename_i cs;split at h
   ·rename_i y hy;cases h;obtain⟨u,us,rfl,⟨zs,h1,h2,h3⟩,h4⟩:=hv;refine⟨[u],us,[.agg cs],rfl,rfl, ?_,h4,fun n hn=>(by cases hn),fun h=>h⟩;exact RepXs.cons' (c:= .agg (enc t x)) (l1:=[]) ⟨zs,h1,encX (zyu hm hy h2),yen t x⟩ RepXs.nil'
   ·cases h
 | fresh t=>
  intro vs r x ns xs h hv;cases vs with
  | nil=>simp[getX]at h
  | cons v vs=>
   cases v<;>simp only[getX]at h<;>try (cases h;done)
   ·cases h;refine .one hv (fun u hu=> ?_) (fun n hn=>by simp at hn) fun _=>rfl;simp only[RepA]at hu;exact⟨⟨none,0⟩,rfl,hu,⟨ai _,Nat.zero_le _,fun _=>rfl,fun a ha=>by cases ha⟩⟩
   ·rename_i n;split at h
    ·rename_i t' ys hn;split at h
     ·rename_i zs hz;cases h;have e:=zcz (s:= .live) hz;rw[e]at hn;refine .one hv (fun u hu=> ?_) (fun k hk=> ?_) fun _=>rfl
      ·obtain⟨t0,xs0,s0,h1,h2⟩:=hu;rw[hn]at h1;cases h1;exact⟨γ n,rfl,h2,hm.obj n _ hn⟩
      ·simp only[List.mem_singleton,aL.injEq]at hk;subst hk;exact⟨_,hn,rfl⟩
     ·cases h
    ·cases h
 | ro t off=>
  intro vs r x ns xs h hv;cases vs with
  | nil=>simp[getX]at h
  | cons v vs=>
   cases v<;>simp only[getX]at h<;>try (cases h;done)
   rcases bif_some h with⟨e,h⟩ | ⟨_,h⟩
   ·split at h
    ·rename_i y hy;cases h;obtain⟨e',rfl⟩:=ydq hy;subst e';have:=af e;subst this;exact .flat hv (fun _ h=>h) rfl fun h=>h
    ·cases h
   ·cases h
 | nilp=>
  intro vs r x ns xs h hv;cases vs with
  | nil=>simp[getX]at h
  | cons v vs=>
   cases v<;>simp only[getX]at h<;>try (cases h;done)
   cases h;exact .flat hv (fun _ h=>h) rfl fun h=>h
 | nili=>
  intro vs r x ns xs h hv;cases vs with
  | nil=>simp[getX]at h
  | cons v vs=>
   cases v<;>simp only[getX]at h<;>try (cases h;done)
   cases h;exact .flat hv (fun _ h=>h) rfl fun h=>h
 | nilf=>
  intro vs r x ns xs h hv;cases vs with
  | nil=>simp[getX]at h
  | cons v vs=>
   cases v<;>simp only[getX]at h<;>try (cases h;done)
   cases h;exact .flat hv (fun _ h=>h) rfl fun h=>h
 | agg l ih=>
  intro vs r x ns xs h hv;cases vs with
  | nil=>simp[getX]at h
  | cons v vs=>
   cases v<;>simp only[getX]at h<;>try (cases h;done)
   rename_i cs;split at h
   ·rename_i y n1 hy;cases h;have hk:=fun us h2=>ih cs [] _ _ us (zv9 hy) h2;obtain⟨u0,us0,rfl,⟨us,h1,h2,h3⟩,h4⟩:=hv;obtain⟨xs1,xs2,vs1,rfl,e,k1,k2,k3,k4⟩:=hk us h2;simp only[aj]at e;subst e;rw[show xs2=[]from k2,aj]at h1;refine⟨[u0],us0,[.agg _],rfl,rfl, ?_,h4,k3,fun h=>h⟩;have:=RepXs.cons' (c:= .agg (mkX l x)) (u:=u0) (w:=w) (S:=S) ⟨xs1,h1,k1,k4 h3⟩ RepXs.nil'
    rwa [aj]at this
   ·cases h
 | tup l ih=>
  intro vs r x ns xs h hv;cases vs with
  | nil=>simp[getX]at h
  | cons v vs=>
   cases v<;>simp only[getX]at h<;>try (cases h;done)
   rename_i cs;split at h
   ·rename_i y n1 hy;cases h;have hk:=fun us h2=>ih cs [] _ _ us (zv9 hy) h2;obtain⟨u0,us0,rfl,⟨us,h1,h2⟩,h4⟩:=hv;obtain⟨xs1,xs2,vs1,rfl,e,k1,k2,k3,k4⟩:=hk us h2;rw[show xs2=[]from k2,aj]at h1;refine⟨[u0],us0,[.tup _],rfl,rfl, ?_,h4,k3,fun h=>h⟩;have:=RepXs.cons' (c:= .tup (mkX l x)) (u:=u0) (w:=w) (S:=S) ⟨xs1,h1,k1⟩ RepXs.nil'
    rwa [aj]at this
   ·cases h
 | clo f l ih=>
  intro vs r x ns xs h hv;cases vs with
  | nil=>simp[getX]at h
  | cons v vs=>
   cases v<;>simp only[getX]at h<;>try (cases h;done)
   rename_i f' cs;rcases bif_some h with⟨e,h⟩ | ⟨_,h⟩
   ·have:=af e;subst this;split at h
    ·rename_i y hy;cases h;refine .flat hv (fun u hu=> ?_) rfl fun h=>h;obtain⟨us,h1,h2⟩:=hu;exact⟨us,h1,(ih cs [] _ _ us (zlb hy) h2).within.1⟩
    ·cases h
   ·cases h
 | iface t a ih=>
  intro vs r x ns xs h hv;cases vs with
  | nil=>simp[getX]at h
  | cons v vs=>
   cases v<;>simp only[getX]at h<;>try (cases h;done)
   rename_i t' y;rcases bif_some h with⟨e,h⟩ | ⟨_,h⟩
   ·have:=af e;subst this;split at h
    ·rename_i z hz;cases h;obtain⟨u,us,rfl,⟨u',h1,h2⟩,h3⟩:=hv;have hk:=(ih [y] [] _ _ [u'] (zlb hz) (.one h2)).within.1;have hlen:=hk.length;have he:∃v',mkX a x=[v']:=by
      cases hq:mkX a x with
      | nil=>rw[hq]at hlen;simp at hlen
      | cons v' q=>rw[hq]at hlen;cases q with
       | nil=>exact⟨v',rfl⟩
       | cons _ _=>simp at hlen
     obtain⟨v',he⟩:=he;have hmk:mkX (.iface t' a) x=[.iface t' v']:=by simp only[mkX];rw[he]
     rw[hmk];rw[he]at hk;obtain⟨q,e,k1⟩:=hk.one';cases e;refine⟨[u],us,[.iface t' y],rfl,rfl, ?_,h3,fun n hn=>(by cases hn),fun _=>rfl⟩;exact RepXs.cons' (l1:=[]) (RepX.of (v:= .iface t' v') ⟨u',h1,k1⟩ rfl) RepXs.nil'
    ·cases h
   ·cases h
 | bx l off ih=>
  intro vs r x ns xs h hv;cases vs with
  | nil=>simp[getX]at h
  | cons v vs=>
   cases v<;>simp only[getX]at h<;>try (cases h;done)
   ·rename_i n off';rcases bif_some h with⟨e,h⟩ | ⟨_,h⟩
    ·have:=af e;subst this;split at h
     ·rename_i cs hn;split at h
      ·rename_i y hy;cases h;refine .flat hv (fun u hu=> ?_) rfl fun h=>rfl;obtain⟨cs0,s0,b,j1,j2,j3⟩:=hu;obtain⟨b',us,el',g1,g2,g3,g4,g5,g6⟩:=hm.obj n _ hn;rw[j2]at g1;cases g1;obtain⟨i1,i2⟩:=(ih cs [] _ _ us (zlb hy) g3).within;exact⟨b,us,j3,g6 (by simp),i1,i2 g4,fun j u hj=>by rw[bk,cell_of_row w b j _ _ _ g2];simpa using hj⟩
      ·cases h
     ·cases h
    ·cases h
   ·rename_i cs off';rcases bif_some h with⟨e,h⟩ | ⟨_,h⟩
    ·have:=af e;subst this;split at h
     ·rename_i y hy;cases h;refine .flat hv (fun u hu=> ?_) rfl fun h=>h;obtain⟨b,us,h1,h2,h3,h4,h5⟩:=hu;obtain⟨i1,i2⟩:=(ih cs [] _ _ us (zlb hy) h3).within;exact⟨b,us,h1,h2,i1,i2 h4,h5⟩
     ·cases h
    ·cases h
theorem y7z{n:Nat}:∀{l:List (Option Nat)},hasN n l=false->some n∉l
 | [],_,h=>by cases h
 | some k::l,hn,h=>by
  simp only[hasN,Bool.or_eq_false_iff]at hn;rcases ar.1 h with e | h
  ·cases e;rw[Nat.beq_refl]at hn;cases hn.1
  ·exact y7z hn.2 h
 | none::l,hn,h=>by
  simp only[hasN]at hn;rcases ar.1 h with e | h
  ·cases e
  ·exact y7z hn h
theorem yk1(hm:MemRel w S γ m base):∀{ns:List (Option Nat)},ypu ns=true->(∀n,some n∈ns->∃q,m n=some q/\q.live=true)->Locs base (ns.map (locN γ))
 | [],_,_=>⟨fun _ h=>(by cases h),List.Pairwise.nil⟩
 | none::ns,h,hl=>by
  have ih:=yk1 hm (ns:=ns) h fun n hn=>hl n (ay _ hn);refine⟨fun l hl b hb=> ?_, ?_⟩
  ·simp only[aC,ar]at hl;rcases hl with rfl | hl
   ·cases hb
   ·exact ih.new l hl b hb
  ·simp only[aC,aD];exact⟨fun l' _ b hb=>(by cases hb),ih.once⟩
 | some n::ns,h,hl=>by
  simp only[ypu,ab,au]at h;have ih:=yk1 hm (ns:=ns) h.2 fun n hn=>hl n (ay _ hn);obtain⟨q,hq,hlq⟩:=hl n (by simp);refine⟨fun l hl b hb=> ?_, ?_⟩
  ·simp only[aC,ar]at hl;rcases hl with rfl | hl
   ·exact hm.high n q b hq hlq hb
   ·exact ih.new l hl b hb
  ·simp only[aC,aD];refine⟨fun l' hl' b hb hb'=> ?_,ih.once⟩;simp only[aH]at hl';obtain⟨o,ho,rfl⟩:=hl';cases o with
   | none=>cases hb'
   | some k=>obtain⟨q',hq',hlq'⟩:=hl k (ay _ ho);have hne:n≠k:=fun e=>y7z h.1 (e▸ho);exact hm.apart n k q q' b hq hq' hlq hlq' hne hb hb'
theorem ysu(hm:MemRel w S γ m base){s:RS}{v:AV}{x:s.T}{u:Value}(h:get1 m s v=some x)(hv:RepA w S γ m v u):∃v' ls,mkX s x=[v']/\RepX w S v' u ls/\Locs base ls:=by
 unfold get1 at h;split at h
 ·rename_i y ns hy;rcases bif_some h with⟨ho,h⟩ | ⟨_,h⟩
  ·cases h;obtain⟨xs1,xs2,vs1,e,e',k1,k2,k3,k4⟩:=yx9 hm s [v] [] _ _ [u] (zv9 hy) (.one hv);rw[show xs2=[]from k2,aj]at e;subst e;cases hq:mkX s x with
   | nil=>simp only[hq]at k1;obtain⟨e,_⟩:=k1;cases e
   | cons v' q=>
    simp only[hq]at k1;obtain⟨a,b,l1,l2,e,e2,i1,i2⟩:=k1;cases e;cases q with
    | cons _ _=>obtain⟨_,_,_,_,e,_⟩:=i2;cases e
    | nil=>obtain⟨_,rfl⟩:=i2;rw[aj]at e2;subst e2;exact⟨v',_,rfl,i1,yk1 hm ho k3⟩
  ·cases h
 ·cases h
theorem yid(hm:MemRel w S γ m base){v:AV}{u:Value}(hv:RepA w S γ m v u){K:AV->Option R}{r:R}:∀{l:List RS} {o:RS} {x:resT o l},yaz m o l v=some x->yau o l x K=some r->∃v' ls,K v'=some r/\RepX w S v' u ls/\Locs base ls
 | [],o,x,h,ho=>by obtain⟨v',ls,e,h1,h2⟩:=ysu hm h hv;have ho:one1 (mkX o x) K=some r:=ho;rw[e]at ho;exact⟨v',ls,ho,h1,h2⟩
 | o'::l,o,x,h,ho=>by
  simp only[yaz]at h;split at h
  ·rename_i y hy;cases h;obtain⟨v',ls,e,h1,h2⟩:=ysu hm hy hv;have ho:one1 (mkX o y) K=some r:=ho;rw[e]at ho;exact⟨v',ls,ho,h1,h2⟩
  ·split at h
   ·rename_i y hy;cases h;exact yid hm hv hy ho
   ·cases h
end res
def nlEq:List Nat->List Nat->Bool
 | [],[]=>true
 | a::as,b::bs=>ax a b&&nlEq as bs
 | _,_=>false
theorem yk0:∀{a b:List Nat},nlEq a b=true->a=b
 | [],[],_=>rfl
 | a::as,b::bs,h=>by simp only[nlEq,ab]at h;rw[af h.1,yk0 h.2]
 | [],_::_,h=>by cases h
 | _::_,[],h=>by cases h
def eqSh(P:Program):Nat->TypeId->Option (List Nat)
 | 0,_=>none
 | d+1,t=>match P.underlying t,P.info? t with
  | some .bool,some _=>some [1]
  | some (.int _),some _=>some [0]
  | some .string,some _=>some [2]
  | some (.struct fs),some i=>bif P.stoodInHeld t then none else
   (match fs.toList.foldl (fun o f=>match o with
    | some ks=>bif ax f.offset ks.length&&(f.name != "_")then(match eqSh P d f.type with | some n=>some (ks++n) | none=>none)else none
    | none=>none) (some [])with
   | some n=>bif ax i.size n.length then some n else none
   | none=>none)
  | _,_=>none
def eqFs(P:Program)(d:Nat)(o:Option (List Nat))(fs:List Field):Option (List Nat):=
 fs.foldl (fun o f=>match o with
    | some ks=>bif ax f.offset ks.length&&(f.name != "_")then(match eqSh P d f.type with | some n=>some (ks++n) | none=>none)else none
    | none=>none) o
theorem y86(P:Program)(d:Nat):∀fs,eqFs P d none fs=none
 | []=>rfl
 | f::fs=>by simpa[eqFs] using y86 P d fs
theorem yil{P:Program}{d:Nat}{off n:List Nat}{f:Field}{fs:List Field}(h:eqFs P d (some off) (f::fs)=some n):f.offset=off.length/\f.name≠ "_" /\∃k,eqSh P d f.type=some k/\eqFs P d (some (off++k)) fs=some n:=by
 unfold eqFs at h;simp only[List.foldl_cons]at h;cases hc:(ax f.offset off.length&&(f.name != "_"))with
 | false=>rw[hc]at h;have:=y86 P d fs;simp_all[eqFs]
 | true=>
  rw[hc]at h;simp only[cond_true]at h;simp only[ab,bne_iff_ne]at hc;cases hk:eqSh P d f.type with
  | none=>rw[hk]at h;have:=y86 P d fs;grind[eqFs]
  | some k=>rw[hk]at h;exact⟨af hc.1,hc.2,k,rfl,h⟩
def eqB(P:Program)(t:Nat)(n:List Nat):Bool:=
 (match P.underlying t with | some (.struct _)=>true | _=>false)&&((match eqSh P 20 t with | some k=>nlEq k n | none=>false)&& !(P.eqGuardType P.depth t))
theorem zff:∀cs:List AV,(z8c cs).length=cs.length
 | []=>rfl
 | _::cs=>by simp[z8c,zff cs]
theorem y3c:∀(cs:List AV) (k:Nat),z8c (cs.take k)=(z8c cs).take k
 | [],k=>by simp[z8c]
 | _::_,0=>rfl
 | c::cs,k+1=>by simp[z8c,y3c cs k]
theorem y3d:∀(cs:List AV) (k:Nat),z8c (cs.drop k)=(z8c cs).drop k
 | [],k=>by simp[z8c]
 | _::_,0=>rfl
 | c::cs,k+1=>by simp[z8c,y3d cs k]
theorem zl8{a b:AV}{as bs:List AV}{r:Bool}(h:z95 (a::as) (b::bs)=some r):∃x y,yb0 a b=some x/\z95 as bs=some y/\r=(x&&y):=by
 simp only[z95]at h
 grind
theorem zy8:∀(k:Nat) {cs ds:List AV} {r:Bool},z95 cs ds=some r->∃x y,z95 (cs.take k) (ds.take k)=some x/\z95 (cs.drop k) (ds.drop k)=some y/\r=(x&&y)
 | 0,cs,ds,r,h=>⟨true,r,rfl,h,by simp⟩
 | k+1,[],[],r,h=>by grind
 | k+1,[],_::_,r,h=>by cases h
 | k+1,_::_,[],r,h=>by cases h
 | k+1,a::as,b::bs,r,h=>by
  obtain⟨x,y,h1,h2,rfl⟩:=zl8 h;obtain⟨z,u,k1,k2,rfl⟩:=zy8 k h2
  grind[z95]
theorem zpe:∀{cs ds:List AV} {r:Bool},z95 cs ds=some r->ds.length=cs.length
 | [],[],_,_=>rfl
 | [],_::_,_,h=>by cases h
 | _::_,[],_,h=>by cases h
 | a::as,b::bs,r,h=>by obtain⟨x,y,h1,h2,rfl⟩:=zl8 h;simp[zpe h2]
section eq
variable {P:Program} {w:World} {S:Nat->Prop} {γ:Nat->Loc} {m:Nat->Option MO}
theorem ze9{t:TypeId}{d:TypeDesc}(hu:P.underlying t=some d)(hd:(match d with | .struct _=>false | .array _ _=>false | _=>true)=true){xs:Array Value}{off:Nat}{v:Value}(hx:(xs.toList.drop off).take 1=[v]):(part t xs off).run P w= .ok v w:=by
 have h1:xs[off]? =some v:=by
  have:(xs.toList.drop off)[0]? =some v:=by
   cases hq:xs.toList.drop off with
   | nil=>grind
   | cons a l=>grind
  grind
 cases d<;>first | cases hd;done | simp_all[part,isAgg,run_underlying]
theorem y8m{t:TypeId}{i:TypeInfo}(h:P.info? t=some i):(sizeOf t).run P w= .ok i.size w:=by simp_all[sizeOf,run_typeInfo]
theorem ysz:∀(d:Nat) {D:Nat} (_:d<=D) {t:TypeId} {ks:List Nat} (_:eqSh P d t=some ks) {xs ys:Array Value} {off:Nat} {vs us:List Value} (_:(xs.toList.drop off).take ks.length=vs) (_:(ys.toList.drop off).take ks.length=us) {cs ds:List AV} {b:Bool}
  (_:z8c cs=ks) (_:RepAs w S γ m cs vs) (_:RepAs w S γ m ds us) (_:z95 cs ds=some b),∃a c,(part t xs off).run P w= .ok a w/\(part t ys off).run P w= .ok c w/\(Op.equalIn D t a c).run P w= .ok b w
 | 0,D,_,t,ks,h,_,_,_,_,_,_,_,_,_,_,_,_,_,_=>by cases h
 | d+1,0,hD,_,_,_,_,_,_,_,_,_,_,_,_,_,_,_,_,_=>by omega
 | d+1,D+1,hD,t,ks,h,xs,ys,off,vs,us,hx,hy,cs,ds,b,hk,hr,hr',he=>by
  unfold eqSh at h;have one:∀{n:Nat},ks=[n]->∃c e x u v,cs=[c]/\ds=[e]/\vs=[u]/\us=[v]/\yyy c=n/\yb0 c e=some x/\b=x/\RepA w S γ m c u/\RepA w S γ m e v:=by
   intro n hn;have hl:=zff cs;rw[hk,hn]at hl
   match cs,ds,hl,hk,hr,hr',he with
   | [c],[],_,_,_,_,he=>cases he
   | [c],[e],_,hk,hr,hr',he=>obtain⟨u,us',rfl,k1,k2⟩:=hr;obtain⟨v,vs',rfl,k3,k4⟩:=hr';obtain⟨x,y,j1,j2,rfl⟩:=zl8 he;cases j2;rw[hn]at hk;simp only[z8c,List.cons.injEq,and_true]at hk;exact⟨c,e,x,u,v,rfl,rfl,by rw[show us'=[]from k2],by rw[show vs'=[]from k4],hk,j1,by simp,k1,k3⟩
   | [c],_::_::_,_,_,_,_,he=>obtain⟨x,y,j1,j2,rfl⟩:=zl8 he;cases j2
  split at h
  ·rename_i i hu hi;cases h;obtain⟨c,e,x,u,v,rfl,rfl,rfl,rfl,k1,k2,rfl,k3,k4⟩:=one rfl;refine⟨u,v,ze9 hu rfl hx,ze9 hu rfl hy, ?_⟩;cases c<;>cases k1;cases e<;>simp only[yb0]at k2<;>try (cases k2;done)
   cases k2;simp only[RepA]at k3 k4;subst k3;subst k4;exact run_equalIn_bool' w D t _ _ hu
  ·rename_i k i hu hi;cases h;obtain⟨c,e,x,u,v,rfl,rfl,rfl,rfl,k1,k2,rfl,k3,k4⟩:=one rfl;refine⟨u,v,ze9 hu rfl hx,ze9 hu rfl hy, ?_⟩;cases c<;>cases k1;cases e<;>simp only[yb0]at k2<;>try (cases k2;done)
   split at k2
   ·rename_i q _;have:=y78 (by omega);subst this;cases k2;simp only[RepA]at k3 k4;subst k3;subst k4;exact run_equalIn_int w D t _ _ _ _ hu
   grind
  ·rename_i i hu hi;cases h;obtain⟨c,e,x,u,v,rfl,rfl,rfl,rfl,k1,k2,rfl,k3,k4⟩:=one rfl;refine⟨u,v,ze9 hu rfl hx,ze9 hu rfl hy, ?_⟩;cases c<;>cases k1;cases e<;>simp only[yb0]at k2<;>try (cases k2;done)
   grind[RepA,eqs,run_equalIn_string,ByteArray.toList_eq]
  ·rename_i fs i hu hi;rcases bif_some h with⟨_,h⟩ | ⟨hst,h⟩
   ·cases h
   ·split at h
    ·rename_i n hn;rcases bif_some h with⟨hsz,h⟩ | ⟨_,h⟩
     ·simp only[aL.injEq]at h;subst h;have hsz:=af hsz;have pt:∀{zs:Array Value} {us:List Value},(zs.toList.drop off).take n.length=us->(part t zs off).run P w= .ok (.agg us.toArray) w:=by
       intro zs us hz;have e:zs.extract off (off+i.size)=us.toArray:=by grind
       simp_all[part,isAgg,run_underlying,y8m]
      refine⟨_,_,pt hx,pt hy, ?_⟩;have hfo:P.underlying t=some (.struct (P.fieldsOf t)):=by grind[Program.fieldsOf]
      rw[run_equalIn_struct w D t _ _ hfo hst];have hfs:(P.fieldsOf t).toList=fs.toList:=by grind
      rw[hfs];have go:∀(l:List Field) (o:List Nat),eqFs P d (some o) l=some n->∀{b:Bool},z95 (cs.drop o.length) (ds.drop o.length)=some b->(Op.eqFields D vs.toArray us.toArray l).run P w= .ok b w:=by
       intro l;induction l with
       | nil=>intro o ho b hb;simp only[eqFs,List.foldl_nil,aL.injEq]at ho;subst ho;have hl:=zff cs;rw[hk]at hl;rw[dN (by omega),dN (by grind[zpe])]at hb;cases hb;simp[Op.eqFields]
       | cons f l ih=>
        intro o ho b hb;obtain⟨h1,h2,k,h3,h4⟩:=yil ho;obtain⟨x,y,j1,j2,rfl⟩:=zy8 k.length hb;have hkk:z8c ((cs.drop o.length).take k.length)=k:=by
         rw[y3c,y3d,hk];have pre:∀(l:List Field) (o n:List Nat),eqFs P d (some o) l=some n->∃z,n=o++z:=by
          intro l;induction l with
          | nil=>simp[eqFs]
          | cons f l ih=>
           intro o n h;obtain⟨_,_,k,_,h4⟩:=yil h
           grind
         grind
        obtain⟨a,c,i1,i2,i3⟩:=ysz d (D:=D) (by omega) h3 (xs:=vs.toArray) (ys:=us.toArray) (off:=o.length) rfl rfl hkk (by simpa using(hr.drop o.length).take k.length) (by simpa using(hr'.drop o.length).take k.length) j1;simp only[Op.eqFields,if_pos h2,Sem.run_bind,h1,i1,i2,i3,Result.andThen_ok];cases x with
        | false=>simp
        | true=>
         simp only[Bool.not_true,Bool.false_eq_true,if_false,Bool.true_and]
         grind[List.drop_drop]
      exact go fs.toList [] hn (by grind)
     grind
    grind
  grind
theorem x5b{t:TypeId}{n:List Nat}(h:eqB P t n=true):EqOk P t n/\P.eqGuardType P.depth t=false:=by
 simp only[eqB,ab,au]at h;obtain⟨h1,h2,h3⟩:=h;refine⟨fun w S γ m cs ds vs us b hk hr hr' he=> ?_,h3⟩;split at h2
 ·rename_i k hk';have:=yk0 h2;subst this;have hl:=zff cs;rw[hk]at hl;obtain⟨a,c,i1,i2,i3⟩:=ysz 20 (D:=10000) (by omega) hk' (xs:=vs.toArray) (ys:=us.toArray) (off:=0) (vs:=vs) (us:=us) (by simp only[dw];exact bu (by rw[hr.length,hl];simp)) (by simp only[dw];exact bu (by rw[hr'.length,zpe he,hl];simp)) hk hr hr' he;have pt:∀{zs:List Value},zs.length=k.length->(part t zs.toArray 0).run P w= .ok (.agg zs.toArray) w:=by
   intro zs hz;unfold eqSh at hk';split at h1
   ·rename_i fs hu;rw[hu]at hk';cases hi:P.info? t with
    | none=>grind
    | some i=>
     rw[hi]at hk';simp only at hk';rcases bif_some hk' with⟨_,h⟩ | ⟨hst,h⟩
     ·cases h
     ·split at h
      ·rename_i n hn;rcases bif_some h with⟨hsz,h⟩ | ⟨_,h⟩
       ·cases h;have hsz:=af hsz;simp only[part,isAgg,Sem.run_bind,run_underlying hu,Result.andThen_ok,Sem.run_pure,if_true,y8m hi]
        grind
       grind
      grind
   grind
  rw[pt (by rw[hr.length,hl])]at i1;rw[pt (by rw[hr'.length,zpe he,hl])]at i2
  grind
 grind
end eq
variable {R:Type}
def ldA(E:Env)(m:Nat->Option MO)(t:TypeId)(a:AV):Option AV:=
 match E.ty t with
 | none=>none
 | some ti=>match a with
  | .ptr n off=>match m n with
   | some (.box cs _)=>z2c ti off cs
   | _=>none
  | .bx cs off=>z2c ti off cs
  | _=>none
def rv1(E:Env)(σ:St):ResultVar->Option AV
 | .tmp t=>some (σ.ρ t)
 | .cell a t=>ldA E σ.m t (σ.ρ a)
def mapR(E:Env)(σ:St):List ResultVar->Option (List AV)
 | []=>some []
 | x::xs=>match rv1 E σ x with
  | some v=>match mapR E σ xs with
   | some vs=>some (v::vs)
   | none=>none
  | none=>none
def retV:List AV->AV
 | [v]=>v
 | vs=> .tup vs
def J3:Nat:=1000000
def finA(E:Env)(rs:List ResultVar)(σ:St)(K:(Nat->Option MO)->AV->Option R):Option R:=
 match mapR E ⟨σ.ρ,stillR σ.m (E.still J3)⟩ rs with
 | some vs=>K (stillR σ.m (E.still J3)) (retV vs)
 | none=>none
def yzs(E:Env)(Λ:Lps)(c:Code)(rs:List ResultVar)(nt:Nat)(as:List AV)(o:RS)(l:List RS):Option (resT o l):=
 gd ((bG as.length nt&&bG nt 4096)&&bG rs.length 4) (zjk E Λ c 1 ⟨argsA 0 as,m0⟩ fun e σ=>match e with
  | .normal=>finA E rs σ fun m v=>yaz m o l v
  | .ret=>finA E rs σ fun m v=>yaz m o l v
  | .exit _=>none
  | .flt=>none)
def znz(ash:Sh)(o:RS)(l:List RS)(F:ash.T->Option (resT o l)):Ctr where
 T:=resT o l
 dom:=fun as=>match zd1 (getP m0 [] ash as)with | some v=>some (F v) | none=>none
 out:=fun x K=>yau o l x K
 nat:=fun x K=>ycw K l o x
def Ctr.run(c:Ctr)(as:List AV)(K:AV->Option R):Option R:=
 match c.dom as with
 | some o=>match o with
  | some t=>c.out t K
  | none=>none
 | none=>none
theorem yxp(E:Env)(f:FuncId)(as:List AV)(K:AV->Option R):E.callK f as K=match E.call f as with | some c=>c.run as K | none=>none:=rfl
def ykw:List (Nat×Ctr)->FuncId->List AV->Option Ctr
 | [],_,_=>none
 | (g,c)::r,f,as=>bif ax f g then(match c.dom as with | some _=>some c | none=>ykw r f as)else ykw r f as
theorem y81{f:FuncId}{as:List AV}{c:Ctr}:∀{l:List (Nat×Ctr)},ykw l f as=some c->(f,c)∈l
 | [],h=>by cases h
 | (g,c')::r,h=>by
  simp only[ykw]at h;cases hb:ax f g with
  | true=>
   rw[hb]at h;simp only[cond_true]at h;have e:=af hb;split at h
   ·cases h;rw[e];simp
   ·exact ay _ (y81 h)
  | false=>rw[hb]at h;exact ay _ (y81 h)
def TabOk(P:Program):List (Nat×Ctr)->Prop
 | []=>True
 | (g,c)::r=>(z77 P g fun as=>c.run as some)/\TabOk P r
theorem TabOk.mem{P:Program}{f:FuncId}{c:Ctr}:∀{l:List (Nat×Ctr)},TabOk P l->(f,c)∈l->z77 P f fun as=>c.run as some
 | (g,c')::r,h,hm=>by
  rcases ar.1 hm with e | hm
  ·cases e;exact h.1
  ·exact TabOk.mem h.2 hm
theorem ywc{P:Program}{E:Env}{l:List (Nat×Ctr)}(he:E.call=ykw l)(h:TabOk P l)(f:FuncId):z77 P f fun as=>E.callK f as some:=by
 intro w S as vals r hlow hrep hc;simp only[yxp,he]at hc;split at hc
 ·rename_i c hf;exact h.mem (y81 hf) w S as vals r hlow hrep hc
 grind
def yh8:List (Nat×TI)->TypeId->Option TI
 | [],_=>none
 | (k,ti)::r,t=>bif ax t k then some ti else yh8 r t
theorem zwj{P:Program}:∀{l:List (Nat×TI)},(l.all fun r=>tiOk P r.1 r.2)=true->∀t ti,yh8 l t=some ti->TIok P t ti
 | [],_,_,_,h=>by cases h
 | (k,q)::r,ha,t,ti,h=>by
  simp only[bc,ab]at ha;rcases bif_some (by simpa only[yh8] using h)with⟨hb,h2⟩ | ⟨_,h2⟩
  ·have e:=af hb;cases h2;rw[e];exact ytq ha.1
  ·exact zwj ha.2 t ti h2
def yq5:List (Nat×String×Nat)->TypeId->String->Option FuncId
 | [],_,_=>none
 | (k,s,f)::r,t,n=>bif ax t k then(match decEq n s with | isTrue _=>some f | isFalse _=>yq5 r t n)else yq5 r t n
def yl8(P:Program):List (Nat×String×Nat)->Prop
 | []=>True
 | (k,s,f)::r=>(∀(v:Value) (w:World),(method (P.types.size+Made.depth) k v s).run P w= .ok (f,v) w)/\yl8 P r
theorem yf3{P:Program}:∀{l:List (Nat×String×Nat)},yl8 P l->∀t n f,yq5 l t n=some f->∀(v:Value) (w:World),(method (P.types.size+Made.depth) t v n).run P w= .ok (f,v) w
 | [],_,_,_,_,h=>by cases h
 | (k,s,g)::r,hm,t,n,f,h=>by
  simp only[yq5]at h;rcases bif_some h with⟨hb,h2⟩ | ⟨_,h2⟩
  ·have e:=af hb;split at h2
   ·rename_i e2 _;cases h2;rw[e,e2];exact hm.1
   ·exact yf3 hm.2 t n f h2
  ·exact yf3 hm.2 t n f h2
def hasT(t:Nat)(n:List Nat):List (Nat×List Nat)->Bool
 | []=>false
 | k::r=>(ax t k.1&&nlEq n k.2) || hasT t n r
theorem ysr{P:Program}:∀{l:List (Nat×List Nat)},(l.all fun r=>eqB P r.1 r.2)=true->∀t n,hasT t n l=true->EqOk P t n/\P.eqGuardType P.depth t=false
 | [],_,_,_,h=>by cases h
 | k::r,hq,t,n,h=>by
  simp only[bc,ab]at hq;simp only[hasT,Bool.or_eq_true,ab]at h;rcases h with h | h
  ·rw[af h.1,yk0 h.2];exact x5b hq.1
  ·exact ysr hq.2 t n h
def zy7:List (Nat×CtrM)->FuncId->List CtrM
 | [],_=>[]
 | (g,c)::r,f=>bif ax f g then c::zy7 r f else zy7 r f
def yl5(P:Program):List (Nat×CtrM)->Prop
 | []=>True
 | (g,c)::r=>zef P g c/\yl5 P r
theorem y82{P:Program}:∀{l:List (Nat×CtrM)},yl5 P l->∀f c,c∈zy7 l f->zef P f c
 | [],_,_,_,h=>by cases h
 | (g,c')::r,ht,f,c,h=>by
  simp only[zy7]at h;cases hb:ax f g with
  | true=>
   rw[hb]at h;rcases ar.1 h with e | h
   ·rw[e,af hb];exact ht.1
   ·exact y82 ht.2 f c h
  | false=>rw[hb]at h;exact y82 ht.2 f c h
def yl6(P:Program):List (Nat×CtrM)->Prop
 | []=>True
 | (g,c)::r=>ztv P g c/\yl6 P r
theorem y83{P:Program}:∀{l:List (Nat×CtrM)},yl6 P l->∀f c,c∈zy7 l f->ztv P f c
 | [],_,_,_,h=>by cases h
 | (g,c')::r,ht,f,c,h=>by
  simp only[zy7]at h;cases hb:ax f g with
  | true=>
   rw[hb]at h;rcases ar.1 h with e | h
   ·rw[e,af hb];exact ht.1
   ·exact y83 ht.2 f c h
  | false=>rw[hb]at h;exact y83 ht.2 f c h
def yvo:List (Nat×CtrR)->Nat->Option CtrR
 | [],_=>none
 | (g,c)::r,f=>bif ax f g then some c else yvo r f
def yl4(P:Program):List (Nat×CtrR)->Prop
 | []=>True
 | (g,c)::r=>SoundR P g c/\yl4 P r
theorem yo5{P:Program}:∀{l:List (Nat×CtrR)},yl4 P l->∀f c,yvo l f=some c->SoundR P f c
 | [],_,_,_,h=>by cases h
 | (g,c')::r,ht,f,c,h=>by
  simp only[yvo]at h;cases hb:ax f g with
  | true=>rw[hb]at h;cases h;rw[af hb];exact ht.1
  | false=>rw[hb]at h;exact yo5 ht.2 f c h
def x37(ty:List (Nat×TI))(eqs:List (Nat×List Nat))(ms:List (Nat×String×Nat))(still:List (Nat×List Nat))(pre:List Nat)(tab:List (Nat×Ctr))(tabM:List (Nat×CtrM):=[])(tabR:List (Nat×CtrR):=[])(tabF:List (Nat×CtrM):=[]):Env where
 ty:=yh8 ty
 call:=ykw tab
 callM:=zy7 tabM
 callF:=zy7 tabF
 rounds:=yvo tabR
 meth:=yq5 ms
 eqt:=fun t n=>hasT t n eqs
 still:=fun r=>(still.find? fun p=>ax p.1 r).elim [] fun p=>p.2
 pre:=fun d=>pre.any fun k=>ax d k
theorem yww{P:Program}{ty:List (Nat×TI)}{eqs:List (Nat×List Nat)}{ms:List (Nat×String×Nat)}{still:List (Nat×List Nat)}{pre:List Nat}{tab:List (Nat×Ctr)}{tabM:List (Nat×CtrM)}{tabR:List (Nat×CtrR)}{tabF:List (Nat×CtrM)}(h1:(ty.all fun r=>tiOk P r.1 r.2)=true)(h2:(eqs.all fun r=>eqB P r.1 r.2)=true)(h3:yl8 P ms)(h4:TabOk P tab)(h5:yl5 P tabM:=by trivial)(h6:yl4 P tabR:=by trivial)(h7:yl6 P tabF:=by trivial):EnvOk P (x37 ty eqs ms still pre tab tabM tabR tabF):=
 ⟨zwj h1,fun t n h=>ysr h2 t n h,ywc rfl h4,y82 h5,y83 h7,yo5 h6,yf3 h3⟩
def zrk:Code->List Bool->Code
 | c,[]=>c
 | .seq a b,x::l=>bif x then zrk b l else zrk a l
 | .cond _ a b,x::l=>bif x then zrk b l else zrk a l
 | .block _ c,_::l=>zrk c l
 | .scope c,_::l=>zrk c l
 | .loop c,_::l=>zrk c l
 | .rangeFunc _ _ a b,x::l=>bif x then zrk b l else zrk a l
 | c,_=>c
theorem ObjRel.lives{w:World}{S:Nat->Prop}{γ:Nat->Loc}{m:Nat->Option MO}{n:Nat}{o:MO}(h:ObjRel w S γ m n o){w':World}(hw:o.live=true->∀b,(γ n).blk=some b->w'.heap[b]? =w.heap[b]?)(hS:∀b,S b->w'.heap[b]? =w.heap[b]?):ObjRel w' S γ m n o:=
 ObjRel.later h hS (fun _ h=>h) (Keeps.refl _ _) rfl fun hl b hb=>⟨hw hl b hb,(ObjRel.notS h hl hb).1⟩
theorem Rel.unmark{X:Cx}{w:World}{S:Nat->Prop}{γ:Nat->Loc}{σ:St}{a:Act}{d:Deferred}{ds:List Deferred}(h:Rel X w S γ σ a)(hd:a.defers=d::ds)(hN:X.w0.heap.size<=X.N):
  ∃D,d={target:= .collected D,args:= #[]}/\w.heap[D]? =some (.deferred (some []))/\Rel X (w.putObj D (.deferred none)) S γ σ {a with defers:=ds}:=by
 have hm:=h.defers;rw[hd]at hm;obtain⟨⟨D,h1,h2,h3,h4⟩,h5,h6⟩:=hm;have hw:∀n o,σ.m n=some o->o.live=true->∀b,(γ n).blk=some b->(w.putObj D (.deferred none)).heap[b]? =w.heap[b]? :=fun n o ho hl b hb=>World.putObj_heap_other fun e=>by
  obtain⟨_,o',g1,g2⟩:=ObjRel.notS (h.mem.obj n o ho) hl hb
  grind
 have hS:∀b,S b->(w.putObj D (.deferred none)).heap[b]? =w.heap[b]? :=fun b hb=>World.putObj_heap_other (fun e=>h3 (e▸hb));have hbel:Bel X.B X.w0 (w.putObj D (.deferred none)):=by
  have hb:=h.below;refine⟨hb.os,hb.tape,hb.output, ?_,fun k hk=>(World.putObj_heap_other (fun e=>by have:=h.base_le k hk;omega)).trans (hb.block k hk),fun k ds hk=> ?_⟩
  ·grind[World.putObj_size]
  ·have hlt:=(Array.getElem?_eq_some_iff.1 hk).1;rw[World.putObj_heap_other (by omega)];exact hb.others k ds hk
 refine⟨D,h1,h2,⟨⟨fun n o ho=>ObjRel.lives (h.mem.obj n o ho) (hw n o ho) hS,fun b hb=>by rw[World.putObj_size];exact h.mem.low b hb,h.mem.apart,h.mem.high⟩,fun t=>RepA.mono hS (fun _ h=>h) (Keeps.refl _ _) _ _ (h.tm t),hbel,h.base_le,h.s0,h.snew, ?_,h.pin,h.pnhi,h.small⟩⟩;have go:∀{l:List Deferred},(∀d',d'∈l->d'≠d)->MarksOk X.N w S l->MarksOk X.N (w.putObj D (.deferred none)) S l:=by
  intro l;induction l with
  | nil=>intro _ _;trivial
  | cons e l ih=>
   rintro hn ⟨⟨D',e1,e2,e3,e4⟩,e5,e6⟩;refine⟨⟨D',e1, ?_,e3,e4⟩,e5,ih (fun d' hd'=>hn d' (ay _ hd')) e6⟩
   grind[World.putObj_heap_other]
 grind
section fn
variable {P:Program} {E:Env} (hE:EnvOk P E) (hmix:P.follows .mixedOrders=true) {Λ:Lps}
include hE in
theorem x55{w:World}{S:Nat->Prop}{γ:Nat->Loc}{m:Nat->Option MO}{base:Nat->Prop}(hm:MemRel w S γ m base){t:TypeId}{a v:AV}{x:Value}(h:ldA E m t a=some v)(hx:RepA w S γ m a x):
  ∃y,(do loadVar t (<-asAddr x):Sem Value).run P w= .ok y w/\RepA w S γ m v y:=by
 unfold ldA at h;split at h
 ·cases h
 ·rename_i ti hti;split at h
  ·rename_i n off;obtain⟨cs0,s0,b,k1,k2,k3⟩:=hx;split at h
   ·rename_i cs s hn;obtain⟨b',vs,el',g1,g2,g3,g4,g5,g6⟩:=hm.obj n _ hn;rw[k2]at g1;cases g1;obtain⟨y,h1,h2⟩:=yjt (P:=P) hE.ty hti g3 g4 (b:=b) (o:=0) (fun j u hj=>by rw[bk,cell_of_row w b j _ _ _ g2];simpa using hj) h;refine⟨y, ?_,h2⟩;rw[bk]at h1;subst k3;simp[asAddr,h1]
   ·cases h
  ·rename_i cs off;obtain⟨b,vs,k1,k2,k3,k4,k5⟩:=hx;obtain⟨y,h1,h2⟩:=yjt (P:=P) hE.ty hti k3 k4 (b:=b) (o:=0) k5 h;refine⟨y, ?_,h2⟩;rw[bk]at h1;subst k1;simp[asAddr,h1]
  ·cases h
def rvM(tmps:Array Value):ResultVar->Sem Value
 | .tmp t=>pure (tmps.getD t undef)
 | .cell a t=>do loadVar t (<-asAddr (tmps.getD a undef))
theorem yln(fn:Func)(tmps:Array Value):results fn tmps=(do
  let vs<-fn.results.mapM (rvM tmps)
  pure (if h:vs.size=1 then vs[0]else .tuple vs)):=by
 unfold results;congr 1
include hE in
theorem x4q{X:Cx}{w:World}{S:Nat->Prop}{γ:Nat->Loc}{σ:St}{a:Act}(h:Rel X w S γ σ a){x:ResultVar}{v:AV}(hv:rv1 E σ x=some v):
  ∃y,(rvM a.tmps x).run P w= .ok y w/\RepA w S γ σ.m v y:=by
 cases x with
 | tmp t=>cases hv;exact⟨_,rfl,h.tm t⟩
 | cell p t=>exact x55 hE h.mem hv (h.tm p)
inductive Runs (P:Program) (w:World) (tmps:Array Value):List ResultVar->List Value->Prop
 | nil:Runs P w tmps [] []
 | cons {x:ResultVar} {y:Value} {xs:List ResultVar} {ys:List Value} (h:(rvM tmps x).run P w= .ok y w) (t:Runs P w tmps xs ys):Runs P w tmps (x::xs) (y::ys)
include hE in
theorem yd8{X:Cx}{w:World}{S:Nat->Prop}{γ:Nat->Loc}{σ:St}{a:Act}(h:Rel X w S γ σ a):∀{xs:List ResultVar} {vs:List AV},mapR E σ xs=some vs->
  ∃ys,RepAs w S γ σ.m vs ys/\Runs P w a.tmps xs ys
 | [],vs,hv=>by cases hv;exact⟨[],rfl, .nil⟩
 | x::xs,vs,hv=>by
  simp only[mapR]at hv;split at hv
  ·rename_i v h1;split at hv
   ·rename_i vs' h2;cases hv;obtain⟨y,k1,k2⟩:=x4q (P:=P) hE h h1;obtain⟨ys,l1,l2⟩:=yd8 h h2;exact⟨y::ys,⟨y,ys,rfl,k2,l1⟩, .cons k1 l2⟩
   ·cases hv
  ·cases hv
def zu3:List Value->Value
 | [v]=>v
 | vs=> .tuple (List.toArray vs)
theorem yeh{w:World}{S:Nat->Prop}{γ:Nat->Loc}{m:Nat->Option MO}{vs:List AV}{ys:List Value}(h:RepAs w S γ m vs ys):RepA w S γ m (retV vs) (zu3 ys):=by
 match vs,h with
 | [],h=>rw[show ys=[]from h];exact⟨[],rfl,rfl⟩
 | [v],h=>obtain⟨u,us,rfl,h1,h2⟩:=h;rw[show us=[]from h2];exact h1
 | v::v'::vs,h=>have h0:=h;obtain⟨u,us,rfl,h1,u',us',rfl,h2,h3⟩:=h;exact⟨_,rfl,h0⟩
theorem y0b{fn:Func}{tmps:Array Value}{w:World}{ys:List Value}(h:Runs P w tmps fn.results.toList ys)(hl:fn.results.toList.length<=4):(results fn tmps).run P w= .ok (zu3 ys) w:=by
 rw[yln];have e:fn.results=fn.results.toList.toArray:=by simp
 generalize fn.results.toList=xs at h hl e;rw[e]
 match xs,ys,h,hl with
 | [],[],_,_=>simp[zu3]
 | [x],[y], .cons h1 .nil,_=>simp[zu3,h1]
 | [x,x2],[y,y2], .cons h1 (.cons h2 .nil),_=>simp_all[zu3]
 | [x,x2,x3],[y,y2,y3], .cons h1 (.cons h2 (.cons h3 .nil)),_=>simp_all[zu3]
 | [x,x2,x3,x4],[y,y2,y3,y4], .cons h1 (.cons h2 (.cons h3 (.cons h4 .nil))),_=>simp_all[zu3]
 | _::_::_::_::_::_,_,_,hl=>grind
include hE hmix in
theorem yxe{f:FuncId}{fn:Func}{c:Code}(hf:P.funcs[f]? =some fn)(hb:fn.body=some c)(hname:(fn.name== "runtime.NumGoroutine")=false)(hobs:∀x,x∈obs Λ c 1->LpOk P fn.ntmps none x.1 x.2)(hd:z4h fn.ntmps c=true)
  {ash:Sh} {o:RS} {l:List RS} {F:ash.T->Option (resT o l)} (hF:∀v,F v=yzs E Λ c fn.results.toList fn.ntmps (mkL ash v) o l):z77 P f fun as=>(znz ash o l F).run as some:=by
 intro w S as vals r hlow hrep h;refine⟨fun w' args=>by simp[callFunc,Sem.run_bind,run_program,Result.andThen_ok,hf,hb,(by simpa using hname:¬fn.name= "runtime.NumGoroutine")], ?_⟩;simp only[Ctr.run,znz]at h;split at h
 ·rename_i o' ho';split at ho'
  ·rename_i v hv;cases ho';split at h
   ·rename_i t ht;rw[hF]at ht;have hm0:MemRel w S g0 m0 (fun k=>k<w.heap.size):=⟨fun n q hq=>(by cases hq),hlow,fun n n' q q' b hq=>(by cases hq),fun n q b hq=>(by cases hq)⟩;have hren:Ren g0 m0 [] m0 g0:=⟨fun n d h=>(by cases h),fun n h=>(by cases h)⟩;obtain⟨xs1,xs2,vs1,e1,e2,k1,k2,k3⟩:=zwh hm0 hren ash as [] v vals (z1o hv) hrep;rw[show xs2=[]from k2,aj]at e1;subst e1;unfold yzs at ht;obtain⟨hlen,ht⟩:=X7 ht;simp only[ab,d8]at hlen;have hvl:=k1.length;have hrel:Rel ⟨fun k=>k<w.heap.size,w,S,fun _=>none,w.heap.size,ai _⟩ w S g0 ⟨argsA 0 (mkL ash v),m0⟩ {tmps:=vals.toArray++br (fn.ntmps-vals.toArray.size) undef,defers:=[]}:=by
     refine⟨hm0,fun t=> ?_,Bel.refl _ _,fun _ h=>h,fun _ h=>h,fun _ h=> .inl h,trivial,fun n o l hq=>(by cases hq),fun n l hl=>(by cases hl),by simp;omega⟩;have:=zn6 (rest:=az (fn.ntmps-vals.length) undef) 0 t k1;have e:vals.toArray++br (fn.ntmps-vals.toArray.size) undef=(vals++az (fn.ntmps-vals.length) undef).toArray:=by apply bC;simp
     show RepA w S g0 m0 _ ((vals.toArray++br (fn.ntmps-vals.toArray.size) undef).getD t undef);rw[e];simpa[bi,bg] using this
    refine callsIn_wide.1 (callsIn_of_wp_marks (n:=0) hf hb trivial (wpIn_mono (z3d (ro:=none) hE hmix c 1 hobs hd hrel (by simp;omega) ht) ?_))
    have fin:∀(ds:List Deferred) {a':Act} {w':World} {S':Nat->Prop} {γ':Nat->Loc} {σ':St},Rel ⟨fun k=>k<w.heap.size,w,S,fun _=>none,w.heap.size,ai _⟩ w' S' γ' σ' a'->a'.defers=ds->(finA E fn.results.toList σ' fun m v=>yaz m o l v)=some t->
      LeavesInM (RF none) 0 P fn a'.tmps (fun e w'=>∃x S'' ls,e= .returned x/\Below w.heap.size w w'/\(∀b,S b->S'' b)/\(∀b,S'' b->S b\/(w.heap.size<=b/\b<w'.heap.size))/\RepX w' S'' r x ls/\Locs (fun k=>k<w.heap.size) ls) ds .returning w':=by
     intro ds;induction ds with
     | nil=>
      intro a' w' S' γ' σ' h1 hdn h2;obtain⟨S2,h1⟩:=Rel.stillR (E.still J3) h1;unfold finA at h2;split at h2
      ·rename_i vs hvs;obtain⟨ys,j1,j2⟩:=yd8 (P:=P) hE h1 hvs;obtain⟨v',ls,i1,i2,i3⟩:=yid h1.mem (yeh j1) h2 h;cases i1;refine⟨_,y0b j2 hlen.2,_,S2,ls,rfl,h1.below.below,h1.s0,fun b hb=>(h1.snew b hb).imp id fun h=>⟨?_,h1.mem.low b hb⟩,i2,i3⟩;have h:¬b<w.heap.size:=h;omega
      ·cases h2
     | cons d ds ih=>intro a' w' S' γ' σ' h1 hdn h2;obtain⟨D,e1,e2,h1⟩:=h1.unmark hdn (ai _);refine⟨by simp, .inl ⟨D,_,by rw[e1],run_takeDeferred e2, ?_⟩⟩;exact ih (a':={a' with defers:=ds}) h1 rfl h2
    rintro e a' w' ⟨e',σ',S',γ',rfl,h1,h2,h3⟩;cases e' with
    | normal=>exact fin _ h1 rfl h3
    | ret=>exact fin _ h1 rfl h3
    | exit i=>cases h3
    | flt=>cases h3
   ·cases h
  ·cases ho'
 ·cases h
end fn
def OutM(o:Cut):List Cut->Type
 | []=>o.T
 | o'::r=>o.T⊕OutM o' r
def resS(m:Nat->Option MO)(v:AV):St:=⟨fun i=>bif ax i 0 then v else .undef,m⟩
def ykv(m:Nat->Option MO)(v:AV)(o:Cut):(l:List Cut)->Option (OutM o l)
 | []=>getM o (resS m v).ρ m
 | o'::r=>match getM o (resS m v).ρ m with
  | some x=>some (.inl x)
  | none=>match ykv m v o' r with | some x=>some (.inr x) | none=>none
def ycx(o:Cut):(l:List Cut)->OutM o l->(St->List Nat->Option R)->Option R
 | [],x,K=>K (mkC o x) (o.objs.map (·.1))
 | o'::r,x,K=>match x with
  | .inl x=>K (mkC o x) (o.objs.map (·.1))
  | .inr x=>ycx o' r x K
theorem yhw(K:St->List Nat->Option R):∀(l:List Cut) (o:Cut) (x:OutM o l),ycx o l x K=(ycx o l x fun τ ns=>some (τ,ns)).bind fun p=>K p.1 p.2
 | [],o,x=>rfl
 | o'::r,o,x=>by
  cases x with
  | inl x=>rfl
  | inr x=>exact yhw K r o' x
def ctrM(cin o:Cut)(l:List Cut)(F:cin.T->Option (OutM o l)):CtrM where
 cin:=cin
 T:=OutM o l
 F:=F
 out:=fun x K=>ycx o l x K
 nat:=fun x K=>yhw K l o x
def yzr(E:Env)(Λ:Lps)(c:Code)(rs:List ResultVar)(nt:Nat)(cin:Cut)(v:cin.T)(o:Cut)(l:List Cut):Option (OutM o l):=
 gd (((bG (mkL cin.sh v.1).length nt&&bG nt 4096)&&bG rs.length 4)&&cin.objs.all fun p=>bG 5000000 p.1) (zjk E Λ c 1 ⟨argsA 0 (mkL cin.sh v.1),mofO cin.objs v.2⟩ fun e σ=>match e with
  | .normal=>finA E rs σ fun m r=>ykv m r o l
  | .ret=>finA E rs σ fun m r=>ykv m r o l
  | .exit _=>none
  | .flt=>none)
def yar(b:Bool)(m:Nat->Option MO)(v:AV)(o:Cut):(l:List Cut)->Option (OutM o l)
 | []=>match getM o (resS m v).ρ m with
  | some x=>gd (eqb (isFlt ((mkC o x).ρ 0)) b) (some x)
  | none=>none
 | o'::r=>match getM o (resS m v).ρ m with
  | some x=>gd (eqb (isFlt ((mkC o x).ρ 0)) b) (some (.inl x))
  | none=>match yar b m v o' r with | some x=>some (.inr x) | none=>none
def yra(E:Env)(Λ:Lps)(c:Code)(rs:List ResultVar)(nt:Nat)(cin:Cut)(v:cin.T)(o:Cut)(l:List Cut):Option (OutM o l):=
 gd (((bG (mkL cin.sh v.1).length nt&&bG nt 4096)&&bG rs.length 4)&&cin.objs.all fun p=>bG 5000000 p.1) (zjk E Λ c 1 ⟨argsA 0 (mkL cin.sh v.1),mofO cin.objs v.2⟩ fun e σ=>match e with
  | .normal=>finA E rs σ fun m r=>yar false m r o l
  | .ret=>finA E rs σ fun m r=>yar false m r o l
  | .exit _=>none
  | .flt=>yar true (stillR σ.m (E.still J3)) fltV o l)
theorem zdw{n:Nat}:∀{l:List (Nat×List Nat×OK)} {v:OT l},mofO l v n≠none->n∈l.map (·.1)
 | [],_,h=>absurd rfl h
 | (k,src,ok)::l,v,h=>by
  simp only[mofO]at h;cases hb:ax n k with
  | true=>rw[af hb];simp
  | false=>rw[hb]at h;simp only[aC,ar];exact .inr (zdw h)
theorem yny{X:Cx}{w:World}{S:Nat->Prop}{γ:Nat->Loc}{m:Nat->Option MO}{v:AV}{u:Value}(h:Rel X w S γ (resS m v) {tmps:= #[u],defers:=[]}){K:St->List Nat->Option R}{r:R}:∀{l:List Cut} {o:Cut} {x:OutM o l},ykv m v o l=some x->ycx o l x K=some r->
  ∃γ' τ ns,Rel X w S γ' τ {tmps:= #[u],defers:=[]}/\K τ ns=some r/\∀n,τ.m n≠none->n∈ns
 | [],o,x,hg,ho=>by obtain⟨γ',h'⟩:=y7b h hg;exact⟨γ',_,_,h',ho,fun n hn=>zdw hn⟩
 | o'::l,o,x,hg,ho=>by
  simp only[ykv]at hg;split at hg
  ·rename_i y hy;cases hg;obtain⟨γ',h'⟩:=y7b h hy;exact⟨γ',_,_,h',ho,fun n hn=>zdw hn⟩
  ·split at hg
   ·rename_i y hy;cases hg;exact yny h hy ho
   ·cases hg
theorem yf0{X:Cx}{w:World}{S:Nat->Prop}{γ:Nat->Loc}{m:Nat->Option MO}{v:AV}{u:Value}{b:Bool}(h:Rel X w S γ (resS m v) {tmps:= #[u],defers:=[]}){K:St->List Nat->Option R}{r:R}:∀{l:List Cut} {o:Cut} {x:OutM o l},yar b m v o l=some x->ycx o l x K=some r->
  ∃γ' τ ns,Rel X w S γ' τ {tmps:= #[u],defers:=[]}/\K τ ns=some r/\(∀n,τ.m n≠none->n∈ns)/\isFlt (τ.ρ 0)=b
 | [],o,x,hg,ho=>by
  simp only[yar]at hg;split at hg
  ·rename_i y hy;obtain⟨hb,hg⟩:=X7 hg;cases hg;obtain⟨γ',h'⟩:=y7b h hy;exact⟨γ',_,_,h',ho,fun n hn=>zdw hn,eq_of_beq hb⟩
  grind
 | o'::l,o,x,hg,ho=>by
  simp only[yar]at hg;split at hg
  ·rename_i y hy;obtain⟨hb,hg⟩:=X7 hg;cases hg;obtain⟨γ',h'⟩:=y7b h hy;exact⟨γ',_,_,h',ho,fun n hn=>zdw hn,eq_of_beq hb⟩
  ·split at hg
   ·rename_i y hy;cases hg;exact yf0 h hy ho
   grind
section fnM
variable {P:Program} {E:Env} (hE:EnvOk P E) (hmix:P.follows .mixedOrders=true) {Λ:Lps}
include hE hmix in
theorem yup{f:FuncId}{fn:Func}{c:Code}(hf:P.funcs[f]? =some fn)(hb:fn.body=some c)(hname:(fn.name== "runtime.NumGoroutine")=false)(hobs:∀x,x∈obs Λ c 1->LpOk P fn.ntmps none x.1 x.2)(hd:z4h fn.ntmps c=true)
  {cin o:Cut} {l:List Cut} {F:cin.T->Option (OutM o l)} (hF:∀v,F v=yzr E Λ c fn.results.toList fn.ntmps cin v o l):zef P f (ctrM cin o l F):=by
 intro w S γ B (v:cin.T) vals R (t:OutM o l) K r hm hBs hrep ht hout;refine⟨fun w' args=>by simp[callFunc,Sem.run_bind,run_program,Result.andThen_ok,hf,hb,(by simpa using hname:¬fn.name= "runtime.NumGoroutine")], ?_⟩;have ht:F v=some t:=ht;have hout:ycx o l t K=some r:=hout;have hm:MemRel w S γ (mofO cin.objs v.2) B:=hm;have hrep:RepAs w S γ (mofO cin.objs v.2) (mkL cin.sh v.1) vals:=hrep;rw[hF]at ht;unfold yzr at ht;obtain⟨hlen,ht⟩:=X7 ht;simp only[ab,d8,aE]at hlen;obtain⟨⟨⟨hl1,hl2⟩,hl3⟩,hl4⟩:=hlen;have hvl:=hrep.length;have hhi:∀n,mofO cin.objs v.2 n≠none->5000000<=n:=fun n hn=>by obtain⟨p,h1,h2⟩:=aH.1 (zdw hn);rw[<-h2];exact hl4 p h1
 have hrel:Rel ⟨B,w,S,fun n=>(mofO cin.objs v.2 n).map fun q=>(γ n,q.kind),w.heap.size,ai _⟩ w S γ ⟨argsA 0 (mkL cin.sh v.1),mofO cin.objs v.2⟩ {tmps:=vals.toArray++br (fn.ntmps-vals.toArray.size) undef,defers:=[]}:=by
  refine⟨hm,fun t=> ?_,Bel.refl _ _,hBs,fun _ h=>h,fun _ h=> .inl h,trivial,fun n o l hq hl=> ?_,fun n l hl=> ?_,by simp;omega⟩
  ·have:=zn6 (rest:=az (fn.ntmps-vals.length) undef) 0 t hrep;have e:vals.toArray++br (fn.ntmps-vals.toArray.size) undef=(vals++az (fn.ntmps-vals.length) undef).toArray:=by
    apply bC;simp
   show RepA w S γ _ _ ((vals.toArray++br (fn.ntmps-vals.toArray.size) undef).getD t undef);rw[e];simpa[bi,bg] using this
  ·have hq:mofO cin.objs v.2 n=some o:=hq;simp only[hq,aK,aL.injEq]at hl;subst hl;exact⟨rfl,rfl⟩
  ·refine hhi n fun h=> ?_;simp only[h]at hl;cases hl
 refine callsIn_wide.1 (callsIn_of_wp_marks (n:=0) hf hb trivial (wpIn_mono (z3d (ro:=none) hE hmix c 1 hobs hd hrel (by simp;omega) ht) ?_))
 have fin:∀(ds:List Deferred) {a':Act} {w':World} {S':Nat->Prop} {γ':Nat->Loc} {σ':St},Rel ⟨B,w,S,fun n=>(mofO cin.objs v.2 n).map fun q=>(γ n,q.kind),w.heap.size,ai _⟩ w' S' γ' σ' a'->a'.defers=ds->(finA E fn.results.toList σ' fun m r=>ykv m r o l)=some t->
   LeavesInM (RF none) 0 P fn a'.tmps (fun e w'=>∃x S' γ' τ ns,e= .returned x/\K τ ns=some r/\BackOk (fun _=>False) B w S γ (mofO cin.objs v.2) w' S' γ' τ ns x) ds .returning w':=by
  intro ds;induction ds with
  | nil=>
   intro a' w' S' γ' σ' h1 hdn h2;obtain⟨S2,h1⟩:=Rel.stillR (E.still J3) h1;unfold finA at h2;split at h2
   ·rename_i vs hvs;obtain⟨ys,j1,j2⟩:=yd8 (P:=P) hE h1 hvs;have hres:=yeh j1;have h3:Rel ⟨B,w,S,fun n=>(mofO cin.objs v.2 n).map fun q=>(γ n,q.kind),w.heap.size,ai _⟩ w' S2 γ' (resS (stillR σ'.m (E.still J3)) (retV vs)) {tmps:= #[zu3 ys],defers:=[]}:=by
     refine⟨h1.mem,fun t=> ?_,h1.below,h1.base_le,h1.s0,h1.snew,trivial,h1.pin,h1.pnhi,by simp⟩;show RepA _ _ _ _ (bif ax t 0 then retV vs else .undef) _;cases t with
     | zero=>exact hres
     | succ t=>trivial
    obtain⟨γ3,τ,ns,i1,i2,i3⟩:=yny h3 h2 hout;refine⟨_,y0b j2 hl3,_,S2,γ3,τ,ns,rfl,i2,⟨i1.below.weak (fun k h=>h.1),i1.s0,i1.snew,i1.mem,i1.tm 0,fun n q q' hq hq'=> ?_,i3⟩⟩;exact i1.pin n q' (γ n,q.kind) hq' (by simp only[hq,aK])
   ·cases h2
  | cons d ds ih=>intro a' w' S' γ' σ' h1 hdn h2;obtain⟨D,e1,e2,h1⟩:=h1.unmark hdn (ai _);refine⟨by simp, .inl ⟨D,_,by rw[e1],run_takeDeferred e2, ?_⟩⟩;exact ih (a':={a' with defers:=ds}) h1 rfl h2
 rintro e a' w' ⟨e',σ',S',γ',rfl,h1,h2,h3⟩;cases e' with
 | normal=>exact fin _ h1 rfl h3
 | ret=>exact fin _ h1 rfl h3
 | exit i=>cases h3
 | flt=>cases h3
include hE hmix in
theorem yuq{f:FuncId}{fn:Func}{c:Code}(hf:P.funcs[f]? =some fn)(hb:fn.body=some c)(hname:(fn.name== "runtime.NumGoroutine")=false)(hobs:∀x,x∈obs Λ c 1->LpOk P fn.ntmps none x.1 x.2)(hd:z4h fn.ntmps c=true)
  {cin o:Cut} {l:List Cut} {F:cin.T->Option (OutM o l)} (hF:∀v,F v=yra E Λ c fn.results.toList fn.ntmps cin v o l):ztv P f (ctrM cin o l F):=by
 intro w S γ B (v:cin.T) vals R (t:OutM o l) K r hm hBs hrep ht hout;refine⟨fun w' args=>by simp[callFunc,Sem.run_bind,run_program,Result.andThen_ok,hf,hb,(by simpa using hname:¬fn.name= "runtime.NumGoroutine")], ?_⟩;have ht:F v=some t:=ht;have hout:ycx o l t K=some r:=hout;have hm:MemRel w S γ (mofO cin.objs v.2) B:=hm;have hrep:RepAs w S γ (mofO cin.objs v.2) (mkL cin.sh v.1) vals:=hrep;rw[hF]at ht;unfold yra at ht;obtain⟨hlen,ht⟩:=X7 ht;simp only[ab,d8,aE]at hlen;obtain⟨⟨⟨hl1,hl2⟩,hl3⟩,hl4⟩:=hlen;have hvl:=hrep.length;have hhi:∀n,mofO cin.objs v.2 n≠none->5000000<=n:=fun n hn=>by obtain⟨p,h1,h2⟩:=aH.1 (zdw hn);rw[<-h2];exact hl4 p h1
 have hrel:Rel ⟨B,w,S,fun n=>(mofO cin.objs v.2 n).map fun q=>(γ n,q.kind),w.heap.size,ai _⟩ w S γ ⟨argsA 0 (mkL cin.sh v.1),mofO cin.objs v.2⟩ {tmps:=vals.toArray++br (fn.ntmps-vals.toArray.size) undef,defers:=[]}:=by
  refine⟨hm,fun t=> ?_,Bel.refl _ _,hBs,fun _ h=>h,fun _ h=> .inl h,trivial,fun n o l hq hl=> ?_,fun n l hl=> ?_,by simp;omega⟩
  ·have:=zn6 (rest:=az (fn.ntmps-vals.length) undef) 0 t hrep;have e:vals.toArray++br (fn.ntmps-vals.toArray.size) undef=(vals++az (fn.ntmps-vals.length) undef).toArray:=by
    apply bC;simp
   show RepA w S γ _ _ ((vals.toArray++br (fn.ntmps-vals.toArray.size) undef).getD t undef);rw[e];simpa[bi,bg] using this
  ·have hq:mofO cin.objs v.2 n=some o:=hq;simp only[hq,aK,aL.injEq]at hl;subst hl;exact⟨rfl,rfl⟩
  ·refine hhi n fun h=> ?_;simp only[h]at hl;cases hl
 refine callsIn_wide.1 (callsIn_of_wp_marks (n:=0) hf hb trivial (wpIn_mono (z3d (ro:=none) hE hmix c 1 hobs hd hrel (by simp;omega) ht) ?_))
 have fin:∀(ds:List Deferred) {a':Act} {w':World} {S':Nat->Prop} {γ':Nat->Loc} {σ':St},Rel ⟨B,w,S,fun n=>(mofO cin.objs v.2 n).map fun q=>(γ n,q.kind),w.heap.size,ai _⟩ w' S' γ' σ' a'->a'.defers=ds->(finA E fn.results.toList σ' fun m r=>yar false m r o l)=some t->
   LeavesInM (RF none) 0 P fn a'.tmps (fun e w'=>∃x S' γ' τ ns,Ends (τ.ρ 0) e x/\K τ ns=some r/\BackOk (fun _=>False) B w S γ (mofO cin.objs v.2) w' S' γ' τ ns x) ds .returning w':=by
  intro ds;induction ds with
  | nil=>
   intro a' w' S' γ' σ' h1 hdn h2;obtain⟨S2,h1⟩:=Rel.stillR (E.still J3) h1;unfold finA at h2;split at h2
   ·rename_i vs hvs;obtain⟨ys,j1,j2⟩:=yd8 (P:=P) hE h1 hvs;have hres:=yeh j1;have h3:Rel ⟨B,w,S,fun n=>(mofO cin.objs v.2 n).map fun q=>(γ n,q.kind),w.heap.size,ai _⟩ w' S2 γ' (resS (stillR σ'.m (E.still J3)) (retV vs)) {tmps:= #[zu3 ys],defers:=[]}:=by
     refine⟨h1.mem,fun t=> ?_,h1.below,h1.base_le,h1.s0,h1.snew,trivial,h1.pin,h1.pnhi,by simp⟩;show RepA _ _ _ _ (bif ax t 0 then retV vs else .undef) _;cases t with
     | zero=>exact hres
     | succ t=>trivial
    obtain⟨γ3,τ,ns,i1,i2,i3,i4⟩:=yf0 h3 h2 hout;refine⟨_,y0b j2 hl3,_,S2,γ3,τ,ns,(by unfold Ends;rw[if_neg (by rw[i4];decide)];rfl),i2,⟨i1.below.weak (fun k h=>h.1),i1.s0,i1.snew,i1.mem,i1.tm 0,fun n q q' hq hq'=> ?_,i3⟩⟩;exact i1.pin n q' (γ n,q.kind) hq' (by simp only[hq,aK])
   ·cases h2
  | cons d ds ih=>intro a' w' S' γ' σ' h1 hdn h2;obtain⟨D,e1,e2,h1⟩:=h1.unmark hdn (ai _);refine⟨by simp, .inl ⟨D,_,by rw[e1],run_takeDeferred e2, ?_⟩⟩;exact ih (a':={a' with defers:=ds}) h1 rfl h2
 have finF:∀(ds:List Deferred) {a':Act} {w':World} {S':Nat->Prop} {γ':Nat->Loc} {σ':St},Rel ⟨B,w,S,fun n=>(mofO cin.objs v.2 n).map fun q=>(γ n,q.kind),w.heap.size,ai _⟩ w' S' γ' σ' a'->a'.defers=ds->yar true (stillR σ'.m (E.still J3)) fltV o l=some t->
   LeavesInM (RF none) 0 P fn a'.tmps (fun e w'=>∃x S' γ' τ ns,Ends (τ.ρ 0) e x/\K τ ns=some r/\BackOk (fun _=>False) B w S γ (mofO cin.objs v.2) w' S' γ' τ ns x) ds (.panicking [fltE]) w':=by
  intro ds;induction ds with
  | nil=>
   intro a' w' S' γ' σ' h1 hdn h2;obtain⟨S2,h1⟩:=Rel.stillR (E.still J3) h1;have h3:Rel ⟨B,w,S,fun n=>(mofO cin.objs v.2 n).map fun q=>(γ n,q.kind),w.heap.size,ai _⟩ w' S2 γ' (resS (stillR σ'.m (E.still J3)) fltV) {tmps:= #[.iface LTab.flt Value.nilFunc],defers:=[]}:=by
    refine⟨h1.mem,fun t=> ?_,h1.below,h1.base_le,h1.s0,h1.snew,trivial,h1.pin,h1.pnhi,by simp⟩;show RepA _ _ _ _ (bif ax t 0 then fltV else .undef) _;cases t with
    | zero=>exact⟨Value.nilFunc,rfl,rfl⟩
    | succ t=>trivial
   obtain⟨γ3,τ,ns,i1,i2,i3,i4⟩:=yf0 h3 h2 hout;exact⟨_,S2,γ3,τ,ns,(by unfold Ends;rw[if_pos i4];rfl),i2,⟨i1.below.weak (fun k h=>h.1),i1.s0,i1.snew,i1.mem,i1.tm 0,fun n q q' hq hq'=>i1.pin n q' (γ n,q.kind) hq' (by simp only[hq,aK]),i3⟩⟩
  | cons d ds ih=>intro a' w' S' γ' σ' h1 hdn h2;obtain⟨D,e1,e2,h1⟩:=h1.unmark hdn (ai _);refine⟨by simp, .inl ⟨D,_,by rw[e1],run_takeDeferred e2, ?_⟩⟩;exact ih (a':={a' with defers:=ds}) h1 rfl h2
 rintro e a' w' ⟨e',σ',S',γ',rfl,h1,h2,h3⟩;cases e' with
 | normal=>exact fin _ h1 rfl h3
 | ret=>exact fin _ h1 rfl h3
 | exit i=>cases h3
 | flt=>exact finF _ h1 rfl h3
end fnM
theorem ydo{P:Program}{f:FuncId}{ash:Sh}{o:RS}{l:List RS}{F:ash.T->Option (resT o l)}(hF:∀v,F v=none):z77 P f fun as=>(znz ash o l F).run as some:=by
 intro w S as vals r hlow hrep h
 grind[Ctr.run,znz]
theorem yuv{P:Program}{f:FuncId}{cin o:Cut}{l:List Cut}{F:cin.T->Option (OutM o l)}(hF:∀v,F v=none):zef P f (ctrM cin o l F):=by intro w S γ B v vals R t K r hm hBs hrep ht hout;exact absurd ((hF v).symm.trans ht) (by simp)
variable {R:Type}
def x02(P:Program)(f:FuncId):Prop:=∃tb tf:TypeId,∀(g:FuncId) (us vs:Array Value) (w:World) (post:Ending->World->Prop),
 (∀(w':World) (args:Array Value),(callFunc g args).run P w'= .ok (.enter g args) w')->Calls P g (us++vs) (w.alloc (.cells #[.bool false] tb)) post->
 (∀e w',post e w'->((∃v,e= .returned v)\/e= .panicked [fltE])/\w'.cell? ⟨w.heap.size,0,none⟩=some (.bool false)/\w'.frozen? ⟨w.heap.size,0,none⟩=false/\w.heap.size<w'.heap.size)->
 Calls P f #[.func (.func g) us vs] w fun e w'=>∃e0 w0,post e0 w0/\
  ((∃v,e0= .returned v)/\e= .returned (.bool true)/\w'=w0.setCell ⟨w.heap.size,0,none⟩ (.bool true)\/
   e0= .panicked [fltE]/\e= .returned (.bool false)/\w'=(w0.setCell ⟨w.heap.size,0,none⟩ (.bool false)).alloc (.cells #[] tf))
abbrev deep(l:List (Nat×List Nat×OK)):List (Nat×List Nat×OK):=l.map fun p=>(p.1,0::p.2.1,p.2.2)
def OTm:(l:List (Nat×List Nat×OK))->OT (deep l)->OT l
 | [],_=>()
 | (_,_,_)::r,v=>(v.1,OTm r v.2)
theorem yer:∀(l:List (Nat×List Nat×OK)) (v:OT (deep l)),mofO (deep l) v=mofO l (OTm l v)
 | [],_=>rfl
 | (n,s,k)::r,v=>by funext i;show(bif ax i n then some (mkO k v.1)else mofO (deep r) v.2 i)=_;rw[yer r v.2];rfl
def tryS(τ:St):St:=⟨fun i=>bif ax i 0 then .bool (!(isFlt (τ.ρ 0)))else .undef,τ.m⟩
def tryM(g:FuncId)(c:CtrM):CtrM where
 cin:=⟨[0], .clo g c.cin.sh,deep c.cin.objs,c.cin.sts⟩
 T:=c.T
 F:=fun v=>c.F (v.1,OTm _ v.2)
 out:=fun t K=>c.out t fun τ ns=>K (tryS τ) ns
 nat:=fun t K=>by rw[c.nat,c.nat (K:=fun τ ns=>some (tryS τ,ns)),Option.bind_assoc];rfl
theorem y2u(w:World)(n:Nat)(v:Value)(k:Nat)(h:k≠n):(w.setCell ⟨n,0,none⟩ v).heap[k]? =w.heap[k]? :=by simp only[World.setCell,Array.getElem?_modify];rw[if_neg (Ne.symm h)]
theorem y2t(w:World)(n:Nat)(v:Value):(w.setCell ⟨n,0,none⟩ v).heap.size=w.heap.size:=by simp[World.setCell]
theorem yto{P:Program}{f g:FuncId}{c:CtrM}(hT:x02 P f)(hf:∀(w':World) (args:Array Value),(callFunc f args).run P w'= .ok (.enter f args) w')(hc:ztv P g c)(hcap:∀v,cloArgs (mkL c.cin.sh v) []=some (mkL c.cin.sh v)):zef P f (tryM g c):=by
 obtain⟨tb,tf,hT⟩:=hT;intro w S γ B v vals R (t:c.T) K r hm hBs hrep ht hout;refine⟨hf, ?_⟩;have ht:c.F (v.1,OTm c.cin.objs v.2)=some t:=ht;have hm:MemRel w S γ (mofO (deep c.cin.objs) v.2) B:=hm;have hrep:RepAs w S γ (mofO (deep c.cin.objs) v.2) [.clo g (mkL c.cin.sh v.1)] vals:=hrep;have em:mofO (tryM g c).cin.objs v.2=mofO c.cin.objs (OTm c.cin.objs v.2):=yer c.cin.objs v.2;have em':mofO (deep c.cin.objs) v.2=mofO c.cin.objs (OTm c.cin.objs v.2):=yer c.cin.objs v.2;rw[em];rw[em']at hm hrep;obtain⟨v1,hv1⟩:∃v1:c.cin.sh.T,v1=v.1:=⟨_,rfl⟩;obtain⟨v2,hv2⟩:∃v2:OT c.cin.objs,v2=OTm c.cin.objs v.2:=⟨_,rfl⟩;rw[<-hv1,<-hv2]at ht;rw[<-hv2]at hm hrep|-;rw[<-hv1]at hrep;obtain⟨u,us',rfl,hu,hus⟩:=hrep;cases (show us'=[]from hus);obtain⟨us,vs,rfl,hargs⟩:=zrl (as:=[]) (xs:=[]) hu (hcap v1) rfl;obtain⟨s,hs⟩:∃s,s=w.heap.size:=⟨_,rfl⟩;obtain⟨w1,hw1⟩:∃w1,w1=w.alloc (.cells #[.bool false] tb):=⟨_,rfl⟩;have hb1:Below w.heap.size w w1:=by rw[hw1];exact(Below.refl _ _).alloc (ai _) _
 have hnew:w1.heap[s]? =some (.cells #[.bool false] tb):=by rw[hw1,hs];exact World.alloc_heap_new w _
 have hsz:w1.heap.size=s+1:=by rw[hw1,hs];exact World.size_alloc _ _
 have hm1:=hm.grow hb1;obtain⟨B1,hB1⟩:∃B1:Nat->Prop,B1=fun k=>B k\/k=s:=⟨_,rfl⟩;have hm2:MemRel w1 S γ (mofO c.cin.objs v2) B1:=⟨hm1.obj,hm1.low,hm1.apart,fun n o b ho hl hbk h=>by
  rw[hB1]at h;rcases h with h | h
  ·exact hm1.high n o b ho hl hbk h
  ·obtain⟨_,o',ho',_⟩:=ObjRel.notS (hm.obj n o ho) hl hbk;have:=zcx ho';omega⟩
 have hargs1:RepAs w1 S γ (mofO c.cin.objs v2) (mkL c.cin.sh v1) (us++([]++vs)):=RepAs.mono (fun b hb=>hb1.block b (hm.low b hb)) (fun _ h=>h) (Keeps.refl _ _) _ _ hargs;obtain⟨k1,k2⟩:=hc w1 S γ B1 (v1,v2) _ t (fun τ ns=>K (tryS τ) ns) r hm2 (fun k hk=>by
  rw[hB1]at hk;rcases hk with hk | hk
  ·have:=hBs k hk;omega
  ·omega) hargs1 ht hout
 have hvals:(us++([]++vs)).toArray=us.toArray++vs.toArray:=by simp
 rw[hvals,hw1]at k2;refine(hT g us.toArray vs.toArray w _ k1 k2 ?_).mono ?_
 ·rintro e w' ⟨x,S',γ',τ,ns,hends,_,hok⟩;have hh:w'.heap[s]? =some (.cells #[.bool false] tb):=by
   rw[hok.bel.block s ⟨by rw[hB1];exact .inr rfl,fun h=>h⟩,<-hw1];exact hnew
  rw[<-hs];refine⟨?_, ?_, ?_,zcx hh⟩
  ·unfold Ends at hends;split at hends
   ·exact .inr hends
   ·exact .inl ⟨x,hends⟩
  ·simp[World.cell?,hh]
  ·simp[World.frozen?,hh]
 ·rintro e w'' ⟨e0,w0,⟨x,S',γ',τ,ns,hends,hK,hok⟩,hcase⟩;have hS's:¬S' s:=fun h=>by
   rcases hok.snew s h with h | h
   ·have:=hm.low s h;omega
   ·exact h (by rw[hB1];exact .inr rfl)
  have hobj:∀n o b,τ.m n=some o->o.live=true->(γ' n).blk=some b->b≠s:=fun n o b ho hl hbk e=>hok.mem.high n o b ho hl hbk (by rw[hB1,e];exact .inr rfl)
  have fin:∀{b:Bool} {W:World},(∀k,k≠s->k<w0.heap.size->W.heap[k]? =w0.heap[k]?)->w0.heap.size<=W.heap.size->W.os=w0.os->W.tape=w0.tape->W.output=w0.output->(!(isFlt (τ.ρ 0)))=b->
    BackOk (fun _=>False) B w S γ (mofO c.cin.objs v2) W S' γ' (tryS τ) ns (.bool b):=by
   intro b W h1 h2 h3 h4 h5 h6;have hs0:s<w0.heap.size:=by have:=hok.bel.size;rw[<-hw1]at this;omega
   refine⟨?_,hok.s0,fun b hb=>(hok.snew b hb).imp id fun h h'=>h (by rw[hB1];exact .inl h'),⟨fun n o ho=> ?_,fun b hb=>Nat.lt_of_lt_of_le (hok.mem.low b hb) h2,hok.mem.apart,fun n o b ho hl hbk h=>hok.mem.high n o b ho hl hbk (by rw[hB1];exact .inl h)⟩, ?_,fun n q q' hq hq'=> ?_,hok.dom⟩
   ·have b1:=Below.bel (B:=fun k=>B k/\¬False) hb1 (fun k hk=>hBs k hk.1);have b2:Bel (fun k=>B k/\¬False) w1 w0:=by rw[hw1];exact hok.bel.weak fun k hk=>⟨by rw[hB1];exact .inl hk.1,hk.2⟩
    refine(b1.trans b2).trans ⟨h3,h4,h5,h2,fun k hk=> ?_,fun k ds hk=> ?_⟩
    ·have:=hBs k hk.1;exact h1 k (by omega) (by omega)
    ·have hne:k≠s:=fun e=>by
      rw[e,hok.bel.block s ⟨by rw[hB1];exact .inr rfl,fun h=>h⟩,<-hw1,hnew]at hk;cases hk
     rw[h1 k hne (zcx hk)];exact hk
   ·refine ObjRel.lives (hok.mem.obj n o ho) (fun hl b hb=> ?_) fun b hb=> ?_
    ·obtain⟨_,o',ho',_⟩:=ObjRel.notS (hok.mem.obj n o ho) hl hb;exact h1 b (hobj n o b ho hl hb) (zcx ho')
    ·exact h1 b (fun e=>hS's (e▸hb)) (hok.mem.low b hb)
   ·show RepA _ _ _ _ (AV.bool _) _;rw[h6];rfl
   ·exact hok.pin n q q' hq hq'
  rw[<-hs]at hcase;rcases hcase with⟨⟨x',rfl⟩,rfl,rfl⟩ | ⟨rfl,rfl,rfl⟩
  ·have hn:isFlt (τ.ρ 0)=false:=by
    unfold Ends at hends;split at hends
    ·cases hends
    ·rename_i h;simpa using h
   exact⟨.bool true,S',γ',tryS τ,ns,rfl,hK,fin (fun k hk _=>y2u _ _ _ _ hk) (by rw[y2t];exact ai _) rfl rfl rfl (by rw[hn];rfl)⟩
  ·have hn:isFlt (τ.ρ 0)=true:=by
    unfold Ends at hends;split at hends
    ·assumption
    ·cases hends
   have hsz0:(w0.setCell ⟨s,0,none⟩ (.bool false)).heap.size=w0.heap.size:=y2t _ _ _;refine⟨.bool false,S',γ',tryS τ,ns,rfl,hK,fin (fun k hk hlt=> ?_) ?_ rfl rfl rfl (by rw[hn];rfl)⟩
   ·rw[Below.heap_alloc _ _ _ (by rw[hsz0];exact hlt)];exact y2u _ _ _ _ hk
   ·rw[World.size_alloc,hsz0];omega
end Go.Dv
