/- How many rounds loops may take: any number from some bound on. -/
import Derived.Test.YtljffhpbdmkplaaGreatDvF
import Derived.KernelRfl
import Derived.Test.YtljffhpbdmkplaaGreatDsPure
import Derived.Test.YtljffhpbdmkplaaGreatDvE
import Derived.Laws.BitsLemmas
set_option linter.all false
open Bool renaming and_eq_false_iff->dn,and_eq_true->ac,and_false->dQ,and_true->bU,eq_iff_iff->ej,false_and->eG,false_or->cD,not_eq_false'->dK,not_eq_true'->aw,not_false->aO,not_true->aN,or_assoc->eK,or_eq_false_iff->cU,or_eq_true->ay,or_false->da,or_self->eO,or_true->eh,true_and->bp,true_or->dm
open Int renaming le_refl->eX,lt_irrefl->aA,tmod->aJ,toNat_natCast->dj
open Go.IntKind renaming wrap->aa
open List renaming Nodup->fh,Pairwise->bg,all_cons->bo,all_eq_true->az,any_eq_true->cZ,append_assoc->au,append_eq_nil_iff->dh,append_inj->eW,append_nil->ai,cons_append->aY,contains_iff_mem->dp,count_append->cG,count_cons->dC,count_cons_self->dA,count_eq_zero->db,count_le_length->bF,count_nil->ff,count_pos_iff->bh,dropLast_concat->cV,drop_left->cY,filter_congr->dW,filter_cons_of_neg->bM,filter_cons_of_pos->bT,filter_eq_self->cI,flatMap_cons->cm,flatMap_def->eR,foldl_cons->aX,getElem?_eq_getElem->aI,getElem_cons_succ->di,getElem_cons_zero->d7,getLast?_eq_none_iff->dR,getLast?_eq_some_iff->cX,isPrefixOf_cons₂->eu,isPrefixOf_iff_prefix->aP,length->ap,length_append->ae,length_cons->af,length_drop->aZ,length_eq_zero_iff->bN,length_filter_le->cb,length_map->bX,length_nil->aq,length_pos_of_mem->d6,map_cons->ax,map_nil->bK,mem_append->ak,mem_append_left->bk,mem_append_right->bq,mem_cons->am,mem_filter->aB,mem_flatMap->dr,mem_map->aH,mem_singleton->aL,nil_append->aj,nodup_cons->bS,pairwise_append->bD,pairwise_cons->aK,pairwise_map->cS,prefix_of_prefix_length_le->dk,set_cons_succ->dL,set_cons_zero->eL,sum_cons->bE
open Nat renaming add_assoc->bV,add_zero->bC,ble->ce,le_add_right->bY,le_of_ble_eq_true->bZ,le_refl->al,le_succ->eY,le_trans->aW,lt_of_le_of_lt->bJ,mul_le_mul_left->ba,mul_le_mul_right->bv,not_lt_zero->ag,pow_pos->eV,zero_le->bn
open Option renaming bind_some->ab
namespace Ds
class Fuel where
 n:Nat
 le:100000000000<=n
 big:1000000000000000000000000000000000000000000000000000000000000<=n
abbrev NN [F:Fuel]:Nat:=F.n
theorem V0 [Fuel]:100000000000<=NN:=Fuel.le
theorem ya8 [Fuel]:1000000000000000000000000000000000000000000000000000000000000<=NN:=Fuel.big
end Ds
namespace Ds
open Go Go.Dv
set_option maxRecDepth 100000000
abbrev B:=List UInt8
variable [Fuel]
def paths:List B:=[[97,47],[98,47],[97,47,98,47],[99,47],[100,47]]
def tails:List B:=[[1],[2,0,0],[2,0,1],[2,0,2],[3,120]]
def keys:List B:=(paths.take 4).flatMap fun p=>tails.map fun t=>p++t
def values:List B:=[[],[120],[121,121],[49,50,51,52,53,54,55,56,57,48],[0,255]]
def ends:List (B×B):=paths.flatMap fun a=>paths.filterMap fun b=>bif (a.isPrefixOf b || b.isPrefixOf a)then none else some (a,b)
def ym1(s:B×B):Bool:=(eqs s.2 [] || lts s.1 s.2)&&decide (s.1.length<=8)&&decide (s.2.length<=8)
inductive Good:Z1->Prop where
 | put (k v:B) (n:Int):k∈keys->v∈values->0<=n->n<8->Good ((1:Int),k,v,(([]:B),([]:B)),([]:B),([]:B),n)
 | del (k:B):k∈keys->Good ((2:Int),k,([]:B),(([]:B),([]:B)),([]:B),([]:B),(0:Int))
 | drop (s:B×B):ym1 s=true->Good ((3:Int),([]:B),([]:B),(s.1,s.2),([]:B),([]:B),(0:Int))
 | move (e:B×B):e∈ends->Good ((4:Int),([]:B),([]:B),(([]:B),([]:B)),e.1,e.2,(0:Int))
 | clone (e:B×B):e∈ends->Good ((5:Int),([]:B),([]:B),(([]:B),([]:B)),e.1,e.2,(0:Int))
 | stamp (s:B×B) (n:Int):ym1 s=true->0<=n->n<8->Good ((6:Int),([]:B),([]:B),(s.1,s.2),([]:B),([]:B),n)
theorem y8u{n:Int}(h0:0<=n)(h1:n<256):∃p,zbh NN n=some p/\p∈paths:=by
 obtain⟨p,h,hp⟩:=yfb (f:=zbh NN) (p:=fun x=>paths.contains x) (by kernel_rfl) h0 h1
 exact⟨p,h,by simpa using hp⟩
theorem ymh{n:Int}(h0:0<=n)(h1:n<256):∃p,zku NN n=some p/\p∈keys:=by
 obtain⟨p,h,hp⟩:=yfb (f:=zku NN) (p:=fun x=>keys.contains x) (by kernel_rfl) h0 h1
 exact⟨p,h,by simpa using hp⟩
theorem yjz{n:Int}(h0:0<=n)(h1:n<256):∃p,zj9 NN n=some p/\p∈values:=by
 obtain⟨p,h,hp⟩:=yfb (f:=zj9 NN) (p:=fun x=>values.contains x) (by kernel_rfl) h0 h1
 exact⟨p,h,by simpa using hp⟩
abbrev Pr:=Z3
def hasB(s:Z0)(k:B):Bool:=bif !(lts k s.1)then(bif eqs s.2 []then true else lts k s.2)else false
theorem yn1(a b:B):(lts a b || eqs a b)= !(lts b a):=by
 rcases lts_tri a b with h | rfl | h
 ·rw[h,z0p h];rfl
 ·rw[z6o,w6];rfl
 ·rw[h,z0p h,zht (zfy h).symm];rfl
def y2o(p:Pr):Bool->List Pr->List Pr
 | d,[]=>bif d then[]else[p]
 | d,q::t=>(bif !d&& !(lts q.1 p.1)then[p]else[])++((bif !(eqs q.1 p.1)then[q]else[])++y2o p (d || !(lts q.1 p.1)) t)
def z9h(p:Pr):Bool->List Pr->Bool
 | d,[]=>d
 | d,q::t=>z9h p (d || !(lts q.1 p.1)) t
def zhp(p:Pr):Bool->List Pr->List Pr
 | d,[]=>[]
 | d,q::t=>(bif !d&& !(lts q.1 p.1)then[p]else[])++((bif !(eqs q.1 p.1)then[q]else[])++zhp p (d || !(lts q.1 p.1)) t)
theorem yc0(p:Pr):∀(t:List Pr) (d:Bool),y2o p d t=zhp p d t++(bif z9h p d t then[]else[p])
 | [],d=>by cases d<;>rfl
 | q::t,d=>by simp only[y2o,zhp,z9h,yc0 p t];simp[au]
theorem ym8(N:Nat)(p:Pr):∀(post pre:List Pr) (n:Nat) (d:Bool) (out:List Pr),post.length<n->(pre++post).length<1000000000->out.length+2*post.length<1000000000->
  z1y N n (pre++post) d (pre.length:Int) p out=some (((),((),z9h p d post)),(p,(out++zhp p d post,())))
 | [],pre,n+1,d,out,_,_,_=>by
  rw[zdu]
  simp only[z1c,ai,aA,decide_false,cond_false,z9h,zhp]
  try rfl
 | [],pre,0,d,out,h,_,_=>absurd h (ag _)
 | q::post,pre,0,d,out,h,_,_=>absurd h (ag _)
 | q::post,pre,n+1,d,out,hn,hl,ho=>by
  have ih:=fun d out=>ym8 N p post (pre++[q]) n d out (by simp at hn;omega) (by simpa using hl)
  have hl':pre.length<9223372036854775807:=by simp at hl;omega
  have p1:∀(d:Bool) (out:List Pr),out.length<1000000000->z1x N (pre++q::post) d (pre.length:Int) p out=
    some (((pre++q::post),((),((),(d,(pre.length:Int))))),(p,(out++(bif !(eqs q.1 p.1)then[q]else[]),()))):=by
   intro d out ho
   simp only[z1x,V6,U4]
   rw[gd_t rfl]
   cases e:eqs q.1 p.1
   ·have e':eqs q.1 p.1=false:=e
    simp only[e',aO,cond_true]
    rw[gd_t rfl,gd_t (Y4 (by first | omega | (simp;omega)) (by omega))]
    try rfl
   ·have e':eqs q.1 p.1=true:=e
    simp only[e',aN,cond_false,ai]
    try rfl
  have go:∀(d:Bool) (out:List Pr),out.length+1+2*post.length<1000000000->(match z1x N (pre++q::post) d (pre.length:Int) p out with
    | some r4=>(let x5:=(aa .i64 (r4.1.2.2.2.2+(1:Int)))
     z1y N n r4.1.1 r4.1.2.2.2.1 x5 r4.2.1 r4.2.2.1)
    | none=>none)=some (((),((),z9h p d post)),(p,((out++(bif !(eqs q.1 p.1)then[q]else[]))++zhp p d post,()))):=by
   intro d out ho
   rw[p1 d out (by omega)]
   simp only
   rw[V1 (q:=q) hl',U1]
   exact ih d _ (by cases eqs q.1 p.1<;>simp<;>omega)
  rw[zdu]
  simp only[z1c,Q1,V6,cond_true,U4,yn1]
  rw[gd_t rfl]
  simp only[af]at ho
  cases d
  all_goals simp only[aN,aO,cond_true,cond_false]
  ·cases e:lts q.1 p.1
   ·have e':lts q.1 p.1=false:=e
    rw[gd_t (Y4 (by omega) (by omega))]
    refine(go true (out++[p]) (by simp;omega)).trans ?_
    simp only[z9h,zhp,e',aO,Bool.and_self,cond_true,eh]
    simp[au]
   ·have e':lts q.1 p.1=true:=e
    refine(go false out (by omega)).trans ?_
    simp only[z9h,zhp,e',aN,aO,dQ,cond_false,da]
    simp[au]
  ·refine(go true out (by omega)).trans ?_
   simp only[z9h,zhp,aN,eG,cond_false,dm]
   simp[au]
theorem zuo(p:Pr):∀(t:List Pr),z9h p true t=true
 | []=>rfl
 | q::t=>by simp only[z9h,dm];exact zuo p t
theorem zsh(p:Pr):∀(t:List Pr) (d:Bool),(zhp p d t).length<=t.length+(bif d then 0 else bif z9h p d t then 1 else 0)
 | [],d=>by simp[zhp]
 | q::t,d=>by
  have i1:=zsh p t true
  have i2:=zsh p t false
  have i3:=zuo p t
  simp only[cond_true,cond_false]at i1 i2
  simp only[zhp,z9h,ae,af]
  cases d<;>cases lts q.1 p.1<;>cases eqs q.1 p.1<;>simp[i3]<;>omega
theorem yqj(N:Nat)(p:Pr)(t:List Pr)(hN:t.length<N)(ht:t.length<100000000):z9u N t p=some (y2o p false t):=by
 have h:=ym8 N p t [] N false [] hN (by simpa using(by omega)) (by simp;omega)
 have hl:=zsh p t false
 have e:=yc0 p t false
 rw[e]
 have h':z1y N N t false (0:Int) p []=_:=h
 simp only[z9u,h']
 cases ed:z9h p false t
 ·simp only[aO,cond_true,aj,cond_false]
  rw[gd_t (Y4 (by simp[ed]at hl;omega) (by omega))]
  try rfl
 ·simp only[aN,cond_true,aj,cond_false,ai]
def emptyB(s:B×B):Bool:= !(eqs s.2 [])&&(lts s.2 s.1 || eqs s.2 s.1)
theorem z3g(N:Nat)(s:Z0):z0n N s=some (emptyB s):=by
 simp only[z0n,emptyB];cases eqs s.2 []<;>rfl
theorem zin{s:B×B}(h:emptyB s=true)(k:B):hasB s k=false:=by
 simp only[emptyB,ac,aw,ay]at h
 simp only[hasB,h.1]
 cases e:lts k s.1
 ·simp only[aO,cond_true,cond_false]
  rcases h.2 with h | h
  ·cases e2:lts k s.2
   ·rfl
   ·have:=J8 e2 h;rw[e]at this;cases this
  ·rw[J6.1 h];exact e
 ·rfl
theorem y2m(p:Pr):∀t:List Pr,y2o p true t=t.filter (fun q=> !(eqs q.1 p.1))
 | []=>rfl
 | q::t=>by
  simp only[y2o,aN,eG,cond_false,aj,dm,y2m p t]
  cases e:eqs q.1 p.1
  ·rw[bT (by simp[e])];rfl
  ·rw[bM (by simp[e])];rfl
theorem y2n(p:Pr):∀{t:List Pr},Srt t->y2o p false t=insT p t
 | [],_=>rfl
 | q::t,hs=>by
  obtain⟨h1,h2⟩:=aK.1 hs
  have ih:=y2n p h2
  have all:lts q.1 p.1=false->t.filter (fun x=>lts x.1 p.1)=[]/\t.filter (fun x=> !(eqs x.1 p.1))=t/\t.filter (fun x=>lts p.1 x.1)=t:=by
   intro e
   have hx:∀x∈t,lts p.1 x.1=true:=fun x hx=>y9u e (h1 x hx)
   exact⟨List.filter_eq_nil_iff.2 fun x h=>by simp[z0p (hx x h)],cI.2 fun x h=>by rw[zht (zfy (hx x h)).symm];rfl,cI.2 fun x h=>hx x h⟩
  simp only[y2o,aO,bp,cD,insT]
  cases e:lts q.1 p.1
  ·obtain⟨a1,a2,a3⟩:=all e
   simp only[aO,cond_true,y2m]
   rw[bM (by simp[e]),a1,a2]
   rcases lts_tri p.1 q.1 with g | g | g
   ·rw[zht (zfy g).symm,bT (by simp[g]),a3];rfl
   ·rw[<-g,z6o,bM (by rw[<-g,w6];simp),a3];rfl
   ·rw[e]at g;cases g
  ·have hne:eqs q.1 p.1=false:=zht (zfy e)
   simp only[aN,cond_false,hne,aO,cond_true,aj]
   rw[bT (by simp[e]),bM (by rw[z0p e];simp),ih]
   rfl
def uniT{V:Type}(a b:List (B×V)):List (B×V):=b.foldl (fun t p=>insT p t) a
theorem yb7{V:Type}{a:List (B×V)}(b:List (B×V))(h:Srt a):Srt (uniT a b):=by
 unfold uniT
 induction b generalizing a with
 | nil=>exact h
 | cons p b ih=>exact ih (h.insT p)
theorem yb8{V:Type}{a b:List (B×V)}(hb:Srt b)(k:B):fnd (uniT a b) k=match fnd b k with | some v=>some v | none=>fnd a k:=by
 unfold uniT
 induction b generalizing a with
 | nil=>rfl
 | cons p b ih=>
  obtain⟨h1,h2⟩:=aK.1 hb
  rw[aX,ih h2,yl1]
  simp only[fnd]
  cases e:eqs p.1 k
  ·rfl
  ·have:=J6.1 e;subst this
   rw[zp2 fun x hx=>(zfy (h1 x hx)).symm];rfl
theorem yl5{α:Type}(x:α)(xs:List α):cut2 (x::xs) (1:Int) ((x::xs).length:Int)=xs:=by
 simp[cut2]
abbrev Mg:=Z1
abbrev Sp:=Z0
theorem y99(k:B)(n:Nat):cut2 k (0:Int) (n:Int)=k.take n:=by simp[cut2]
theorem zp4(k:B)(n:Nat):cut2 k (n:Int) (k.length:Int)=k.drop n:=by
 simp only[cut2,dj]
 exact List.take_of_length_le (by simp)
theorem ykd(p k:B):(decide (p.length<=k.length)&&eqs (k.take p.length) p)=p.isPrefixOf k:=by
 rw[ej]
 simp only[ac,decide_eq_true_eq,J6,aP]
 constructor
 ·rintro⟨_,h⟩;exact h▸List.take_prefix _ _
 ·intro h;exact⟨h.length_le,(List.prefix_iff_eq_take.1 h).symm⟩
theorem zz0(c:UInt8)(hc:c.toNat<255):∀(i k:B),(bif !(lts k (i++[c]))then lts k (i++[c+1])else false)=(i++[c]).isPrefixOf k
 | [],[]=>rfl
 | [],b::r=>by
  have h1:(c+1).toNat=c.toNat+1:=by rw[UInt8.toNat_add];simp;omega
  simp only[aj,zcv,zmz,dQ,da,eu,List.isPrefixOf_nil_left,bU]
  have e1:decide (b<c)=decide (b.toNat<c.toNat):=rfl
  have e2:decide (b<c+1)=decide (b.toNat<c.toNat+1):=by rw[<-h1];rfl
  have e3:(c==b)=decide (c.toNat=b.toNat):=by
   rw[ej];simp[UInt8.toNat_inj]
  rw[e1,e2,e3]
  by_cases g1:b.toNat<c.toNat
  ·simp[g1];omega
  ·by_cases g2:b.toNat<c.toNat+1
   ·simp[g1,g2];omega
   ·simp[g1,g2];omega
 | a::i,[]=>rfl
 | a::i,b::r=>by
  have ih:=zz0 c hc i r
  simp only[aY,zcv,eu,<-ih]
  rcases u8_tri a b with h | rfl | h
  ·have h2:¬b<a:=fun g=>UInt8.lt_irrefl _ (UInt8.lt_trans h g)
   have h3:(b==a)=false:=by simp;rintro rfl;exact h2 h
   have h4:(a==b)=false:=by simp;rintro rfl;exact h2 h
   simp[h2,h3,h4]
  ·simp[UInt8.lt_irrefl]
  ·have h4:(a==b)=false:=by simp;rintro rfl;exact UInt8.lt_irrefl _ h
   simp[h,h4]
def preB(p:B):B×B:=(p,p.dropLast++[48])
theorem z9y{p:B}(hp:p∈paths):p=p.dropLast++[47]/\p.length<=4:=by
 have h:(paths.all fun p=>eqs p (p.dropLast++[47])&&ce p.length 4)=true:=by decide
 have:=az.1 h p hp
 simp only[ac]at this
 exact⟨J6.1 this.1,bZ this.2⟩
theorem z6n{p:B}(hp:p∈paths)(k:B):hasB (preB p) k=p.isPrefixOf k:=by
 have e:=(z9y hp).1
 have h:=zz0 47 (by decide) p.dropLast k
 rw[<-e]at h
 rw[<-h]
 have:eqs (p.dropLast++[48]) []=false:=zht (by simp)
 simp only[hasB,preB,this,cond_false]
 rfl
theorem Q9{e:B×B}(he:e∈ends):e.1∈paths/\e.2∈paths:=by
 have h:(ends.all fun e=>paths.contains e.1&&paths.contains e.2)=true:=by decide+kernel
 have:=az.1 h e he
 simpa using this
structure Ok (n L:Nat) (t:List Pr):Prop where
 srt:Srt t
 len:t.length<=n
 key:∀p∈t,p.1.length<=L
theorem insT_mem{V:Type}{p x:B×V}{t:List (B×V)}(h:x∈insT p t):x=p\/x∈t:=by
 unfold insT at h
 rcases ak.1 h with h | h
 ·exact .inr (aB.1 h).1
 ·rcases am.1 h with h | h
  ·exact .inl h
  ·exact .inr (aB.1 h).1
def stp(s:B×B)(n:Int)(p:Pr):Pr:=bif hasB s p.1 then(p.1,p.2.1,n)else p
def app(m:Mg)(t:List Pr):List Pr:=
 bif eqi m.1 1 then insT (m.2.1,m.2.2.1,m.2.2.2.2.2.2) t else
 bif eqi m.1 2 then t.filter (fun p=> !(hasB (m.2.1,m.2.1++[0]) p.1))else
 bif eqi m.1 3 then t.filter (fun p=> !(hasB m.2.2.2.1 p.1))else
 bif eqi m.1 4 then(uniT (t.filter fun p=> !(hasB (preB m.2.2.2.2.2.1) p.1)) (mvd m.2.2.2.2.1 m.2.2.2.2.2.1 t)).filter (fun p=> !(hasB (preB m.2.2.2.2.1) p.1))else
 bif eqi m.1 5 then uniT (t.filter fun p=> !(hasB (preB m.2.2.2.2.2.1) p.1)) (mvd m.2.2.2.2.1 m.2.2.2.2.2.1 t)else
 bif eqi m.1 6 then t.map (stp m.2.2.2.1 m.2.2.2.2.2.2)else t
abbrev y9q(k v:B)(n:Int):Mg:=(1,k,v,([],[]),[],[],n)
abbrev ymk(k:B):Mg:=(2,k,[],([],[]),[],[],0)
abbrev zcx(s:B×B):Mg:=(3,[],[],s,[],[],0)
abbrev mv(k:Int)(e:B×B):Mg:=(k,[],[],([],[]),e.1,e.2,0)
abbrev zl1(s:B×B)(n:Int):Mg:=(6,[],[],s,[],[],n)
section one
variable {n L:Nat} {t:List Pr} (h:Ok n L t) (hn:n+4<NN) (hL:L<1000000000)
include h hn
include hL
end one
def apps(ms:List Mg)(t:List Pr):List Pr:=ms.foldl (fun t m=>app m t) t
theorem yp7{α:Type}(xs:List α)(i:Int)(d:α)(h0:0<=i)(h1:i<(xs.length:Int)):∃(h:i.toNat<xs.length),rdL xs i d=xs[i.toNat]'h:=by
 have h:i.toNat<xs.length:=by omega
 refine⟨h, ?_⟩
 simp[rdL,List.getD,h]
theorem walk{α S R:Type}{xs:List α}{L:Nat->Int->S->Option R}(g:S->α->S)(fin:S->R)(I:S->List α->Prop)
  (hend:∀n s,I s []->L (n+1) (xs.length:Int) s=some (fin s))
  (hstep:∀n pre x post s,xs=pre++x::post->I s (x::post)->L (n+1) (pre.length:Int) s=L n ((pre++[x]).length:Int) (g s x)/\I (g s x) post):
  ∀post pre n s,xs=pre++post->post.length<n->I s post->L n (pre.length:Int) s=some (fin (post.foldl g s))/\I (post.foldl g s) []
 | _,_,0,_,_,h,_=>absurd h (ag _)
 | [],pre,n+1,s,hx,_,hi=>by
  have:xs=pre:=by simpa using hx
  subst this
  exact⟨hend n s hi,hi⟩
 | x::post,pre,n+1,s,hx,hn,hi=>by
  obtain⟨h1,h2⟩:=hstep n pre x post s hx hi
  have ih:=walk g fin I hend hstep post (pre++[x]) n (g s x) (by rw[hx];simp) (by simpa using hn) h2
  exact⟨h1.trans ih.1,ih.2⟩
theorem y9j{α S R:Type}{xs:List α}{L:Nat->Int->S->Option R}(g:S->α->S)(fin:S->R)(I:S->List α->Prop)
  (hend:∀n s,I s []->L (n+1) (xs.length:Int) s=some (fin s))
  (hstep:∀n pre x post s,xs=pre++x::post->I s (x::post)->L (n+1) (pre.length:Int) s=L n ((pre++[x]).length:Int) (g s x)/\I (g s x) post)
  {n:Nat} {s:S} (hn:xs.length<n) (hi:I s xs):L n 0 s=some (fin (xs.foldl g s)):=
 (walk g fin I hend hstep xs [] n s rfl hn hi).1
abbrev Big(n:Nat):Prop:=n<1000000000
def inS(l:List Sp)(k:B):Bool:=l.any fun s=>hasB s k
theorem yg7(N:Nat)(s:Sp)(k:B):zbz N s k=some (hasB s k):=by
 simp only[zbz,hasB]
 cases lts k s.1<;>cases eqs s.2 []<;>rfl
theorem ypj(N:Nat)(k:B):∀(post pre:List Sp) (n:Nat),post.length<n->Big (pre++post).length->
  zek N n (pre++post) k (pre.length:Int)=some (bif inS post k then .inl (true,())else .inr ((),()))
 | _,_,0,h,_=>absurd h (ag _)
 | [],pre,n+1,_,_=>by
  rw[zki]
  simp only[z60,ai,aA,decide_false,cond_false]
  rfl
 | q::post,pre,n+1,hn,hl=>by
  simp only[af]at hn
  have hl':pre.length<9223372036854775807:=by simp[Big]at hl;omega
  rw[zki]
  simp only[z60,Q1,V6,cond_true,U4,yg7]
  rw[gd_t rfl]
  cases e:hasB q k
  ·rw[cond_false,V1 (q:=q) hl',U1 (pre:=pre) (q:=q) (post:=post),ypj N k post (pre++[q]) n (by omega) (by simpa using hl)]
   simp[inS,e]
  ·simp[inS,e]
theorem yq6(N:Nat)(l:List Sp)(k:B)(hN:l.length<N)(hl:Big l.length):zoz N l k=some (inS l k):=by
 have h:=ypj N k l [] N hN (by simpa using hl)
 have hz:(([]:List Sp).length:Int)=0:=rfl
 simp only[aj,hz]at h
 simp only[zoz,h]
 cases inS l k<;>rfl
theorem y4k{α:Type}(f:α->Bool)(xs out:List α):xs.foldl (fun o x=>bif f x then o++[x]else o) out=out++xs.filter f:=by
 induction xs generalizing out with
 | nil=>simp
 | cons x xs ih=>
  rw[aX,ih]
  cases e:f x<;>simp[e]
theorem yey(N:Nat)(t:List Pr)(l:List Sp)(hN:t.length<N)(hl:l.length<N)(ht:Big t.length)(hl':Big l.length):z5m N t l=some (t.filter fun p=> !(inS l p.1)):=by
 have h:=y9j (xs:=t) (L:=fun n i s=>z5z N n t l i s) (fun o x=>bif !(inS l x.1)then o++[x]else o) (fun s=>((),(s,()))) (fun s post=>s.length+post.length<1000000000)
  (fun n s _=>by
   rw[zcs]
   simp only[z0m,aA,decide_false,cond_false])
  (fun n pre x post s hx hi=>by
   have hb:pre.length<9223372036854775807:=by rw[hx]at ht;simp[Big]at ht;omega
   simp only[af]at hi
   rw[zcs]
   rw[hx]
   simp only[z0m,Q1,V6,cond_true,U4,yq6 N l _ hl hl']
   rw[gd_t rfl]
   cases inS l x.1
   ·simp only[aO,cond_true]
    rw[gd_t rfl,gd_t (Y4 (by omega) (by omega)),V1 (q:=x) hb]
    exact⟨rfl,by simp;omega⟩
   ·simp only[aN,cond_false]
    rw[V1 (q:=x) hb]
    exact⟨rfl,by omega⟩)
  hN (by simpa using ht) (s:=[])
 simp only[z5m,h,y4k,aj]
theorem yiv(N:Nat)(t:List Pr)(l:List Sp)(hN:t.length<N)(hl:l.length<N)(ht:Big t.length)(hl':Big l.length):zgb N t l=some (t.filter fun p=>inS l p.1):=by
 have h:=y9j (xs:=t) (L:=fun n i s=>z7i N n t l i s) (fun o x=>bif inS l x.1 then o++[x]else o) (fun s=>((),(s,()))) (fun s post=>s.length+post.length<1000000000)
  (fun n s _=>by
   rw[zds]
   simp only[z19,aA,decide_false,cond_false])
  (fun n pre x post s hx hi=>by
   have hb:pre.length<9223372036854775807:=by rw[hx]at ht;simp[Big]at ht;omega
   simp only[af]at hi
   rw[zds]
   rw[hx]
   simp only[z19,Q1,V6,cond_true,U4,yq6 N l _ hl hl']
   rw[gd_t rfl]
   cases inS l x.1
   ·simp only[cond_false]
    rw[V1 (q:=x) hb]
    exact⟨rfl,by omega⟩
   ·simp only[cond_true]
    rw[gd_t rfl,gd_t (Y4 (by omega) (by omega)),V1 (q:=x) hb]
    exact⟨rfl,by simp;omega⟩)
  hN (by simpa using ht) (s:=[])
 simp only[zgb,h,y4k,aj]
theorem y84(N:Nat){t:List Pr}(p:Pr)(hs:Srt t)(hN:t.length<N)(ht:t.length<100000000):z9u N t p=some (insT p t):=by
 rw[yqj N p t hN ht,y2n p hs]
theorem yej{e:B×B}(he:e∈ends)(k:B)(h1:e.1.isPrefixOf k=true):e.2.isPrefixOf k=false:=by
 have h:(ends.all fun e=> !(e.1.isPrefixOf e.2)&& !(e.2.isPrefixOf e.1))=true:=by decide+kernel
 have hh:=az.1 h e he
 simp only[ac,aw]at hh
 cases h2:e.2.isPrefixOf k
 ·rfl
 ·have p1:=aP.1 h1
  have p2:=aP.1 h2
  rcases Nat.le_total e.1.length e.2.length with hl | hl
  ·have:=aP.2 (dk p1 p2 hl)
   rw[this]at hh;cases hh.1
  ·have:=aP.2 (dk p2 p1 hl)
   rw[this]at hh;cases hh.2
theorem zsg(N:Nat)(k p:B):z0a N k p=some (p.isPrefixOf k):=by
 simp only[z0a,<-ykd]
 by_cases h:p.length<=k.length
 ·rw[X2 (by simp;omega),gd_t (by simp;omega),y99]
  simp[h]
 ·rw[Y3 (by simp;omega)]
  simp[h]
theorem yht(N:Nat)(k p q:B)(hk:k.length<1000000000)(hq:q.length<1000000000):zjd N k p q=some (bif p.isPrefixOf k then(q++k.drop p.length,true)else([],false)):=by
 simp only[zjd,zsg]
 cases e:p.isPrefixOf k
 ·rfl
 ·have h:p.length<=k.length:=(aP.1 e).length_le
  simp only[aN,cond_false,cond_true]
  rw[gd_t (by simp;omega),zp4,gd_p (by simp only[maxS,aZ];omega)]
theorem in1(s:Sp)(k:B):inS [s] k=hasB s k:=by simp[inS]
theorem y6s(N:Nat)(m:Mg):∀(post pre:List Pr) (n:Nat),post.length<n->(pre++post).length<1000000000->
  z8v N n (pre.length:Int) m (pre++post)=some ((),(pre++post.map (stp m.2.2.2.1 m.2.2.2.2.2.2),()))
 | _,_,0,h,_=>absurd h (ag _)
 | [],pre,n+1,_,_=>by
  rw[zfl]
  simp only[z2r,ai,aA,decide_false,cond_false,bK]
 | x::post,pre,n+1,hn,hl=>by
  simp only[af]at hn
  have hl':pre.length<9223372036854775807:=by simp at hl;omega
  rw[zfl]
  simp only[z2r,Q1,V6,cond_true,U4,yfy,yg7]
  rw[gd_t rfl]
  have ih:=fun y:Pr=>y6s N m post (pre++[y]) n (by omega) (by simp at hl|-;omega)
  cases e1:hasB m.2.2.2.1 x.1
  ·rw[cond_false,V1 (q:=x) hl',U1 (pre:=pre) (q:=x) (post:=post),ih x]
   simp[stp,e1]
  ·rw[cond_true,gd_t rfl,V1 (q:=(x.1,x.2.1,m.2.2.2.2.2.2)) hl',U1 (pre:=pre) (q:=(x.1,x.2.1,m.2.2.2.2.2.2)) (post:=post),ih]
   simp[stp,e1]
def lessB(a b:B):Bool:= !(eqs a [])&&(eqs b [] || lts a b)
theorem y92(N:Nat)(a b:B):zdx N a b=some (lessB a b):=by
 simp only[zdx,lessB]
 cases eqs a []<;>cases eqs b []<;>rfl
def yea(a b:B):B:=bif !(lts a b)then a else b
def y2z(a b:Sp):Sp:=(yea a.1 b.1,bif lessB b.2 a.2 then b.2 else a.2)
def w5(a b:Sp):Sp:=bif emptyB (y2z a b)then([97],[97])else y2z a b
theorem zl3(N:Nat)(a b:Sp):z32 N a b=some (w5 a b):=by
 simp only[z32,y92,z3g,zmd,w5,y2z,yea]
 cases lessB b.2 a.2
 ·simp only[cond_false]
  cases emptyB (bif !lts a.1 b.1 then a.1 else b.1,a.2)<;>rfl
 ·simp only[cond_true]
  cases emptyB (bif !lts a.1 b.1 then a.1 else b.1,b.2)<;>rfl
def belowB(k h:B):Bool:=eqs h [] || lts k h
theorem U5(s:Sp)(k:B):hasB s k=(!(lts k s.1)&&belowB k s.2):=by
 simp only[hasB,belowB]
 cases lts k s.1<;>cases eqs s.2 []<;>rfl
theorem yo5(a b k:B):lts k (yea a b)=(lts k a || lts k b):=by
 unfold yea
 cases e:lts a b
 ·simp only[aO,cond_true]
  cases e2:lts k b
  ·simp
  ·rw[zl4 e2 e];rfl
 ·simp only[aN,cond_false]
  cases e2:lts k a
  ·rfl
  ·rw[J8 e2 e];rfl
theorem zzj{a b k:B}(h:lessB a b=true)(hk:belowB k a=true):belowB k b=true:=by
 simp only[lessB,belowB,ac,ay,aw]at h hk|-
 obtain⟨h1,h2⟩:=h
 rcases hk with hk | hk
 ·rw[h1]at hk;cases hk
 ·rcases h2 with h2 | h2
  ·exact .inl h2
  ·exact .inr (J8 hk h2)
theorem zlk{a b k:B}(h:lessB a b=false)(hk:belowB k b=true):belowB k a=true:=by
 simp only[lessB,belowB,ay,dn,cU,dK]at h hk|-
 rcases h with h | ⟨h1,h2⟩
 ·exact .inl h
 ·rcases hk with hk | hk
  ·rw[h1]at hk;cases hk
  ·exact .inr (zl4 hk h2)
theorem yi8(a b k:B):belowB k (bif lessB b a then b else a)=(belowB k a&&belowB k b):=by
 cases e:lessB b a
 ·simp only[cond_false]
  cases e2:belowB k a
  ·rfl
  ·rw[zlk e e2];rfl
 ·simp only[cond_true]
  cases e2:belowB k b
  ·simp
  ·rw[zzj e e2];rfl
theorem zcu(a b:Sp)(k:B):hasB (w5 a b) k=(hasB a k&&hasB b k):=by
 have h:hasB (y2z a b) k=(hasB a k&&hasB b k):=by
  rw[U5,U5,U5]
  simp only[y2z,yo5,yi8]
  cases lts k a.1<;>cases lts k b.1<;>cases belowB k a.2<;>cases belowB k b.2<;>rfl
 unfold w5
 cases e:emptyB (y2z a b)
 ·exact h
 ·rw[<-h,zin e,cond_true,zin (by decide)]
def sMid(s:Sp):Bool->List Sp->List Sp
 | _,[]=>[]
 | d,q::l=>bif !d&&lts s.1 q.1 then s::q::sMid s true l else q::sMid s d l
def sDone(s:Sp):Bool->List Sp->Bool
 | d,[]=>d
 | d,q::l=>bif !d&&lts s.1 q.1 then sDone s true l else sDone s d l
def sIns(s:Sp)(l:List Sp):List Sp:=sMid s (emptyB s) l++bif sDone s (emptyB s) l then[]else[s]
theorem zhl(s:Sp):∀l,sMid s true l=l/\sDone s true l=true
 | []=>⟨rfl,rfl⟩
 | q::l=>by
  obtain⟨h1,h2⟩:=zhl s l
  simp[sMid,sDone,h1,h2]
theorem ybo(s:Sp):∀(l:List Sp),(sMid s false l).length<=l.length+1/\(sMid s false l).length+(bif sDone s false l then 0 else 1)<=l.length+1
 | []=>by simp[sMid,sDone]
 | q::l=>by
  have i1:=zhl s l
  obtain⟨i2,i3⟩:=ybo s l
  simp only[sMid,sDone,aO,bp]
  cases lts s.1 q.1
  ·simp only[cond_false,af]
   omega
  ·simp only[cond_true,i1.1,i1.2,af]
   omega
theorem ybp(s:Sp)(l:List Sp):(sMid s (emptyB s) l).length<=l.length+1/\(sIns s l).length<=l.length+1:=by
 unfold sIns
 cases emptyB s
 ·obtain⟨i2,i3⟩:=ybo s l
  refine⟨i2, ?_⟩
  rw[ae]
  cases e:sDone s false l<;>rw[e]at i3<;>simp only[cond_true,cond_false,aq,af]at i3⊢<;>omega
 ·obtain⟨i1,i2⟩:=zhl s l
  rw[i1,i2]
  simp
theorem y7g(N:Nat)(s:Sp):∀(post pre:List Sp) (n:Nat) (d:Bool) (out:List Sp),post.length<n->Big (pre++post).length->out.length+2*post.length<1000000000->
  z7k N n (pre++post) d (pre.length:Int) s out=some (((),((),sDone s d post)),(s,(out++sMid s d post,())))
 | _,_,0,_,_,h,_,_=>absurd h (ag _)
 | [],pre,n+1,d,out,_,_,_=>by
  rw[zdv]
  simp only[z1d,ai,aA,decide_false,cond_false,sDone,sMid]
 | q::post,pre,n+1,d,out,hn,hl,ho=>by
  simp only[af]at hn ho
  have hl':pre.length<9223372036854775807:=by simp[Big]at hl;omega
  have ih:=fun d out=>y7g N s post (pre++[q]) n d out (by omega) (by simpa using hl)
  rw[zdv]
  simp only[z1d,Q1,V6,cond_true,U4]
  cases d
  ·simp only[aO,cond_true]
   rw[gd_t rfl]
   cases e:lts s.1 q.1
   ·simp only[cond_false]
    rw[gd_t rfl,gd_t (Y4 (by omega) (by omega)),V1 (q:=q) hl',U1 (pre:=pre) (q:=q) (post:=post),ih false (out++[q]) (by simp;omega)]
    simp[sMid,sDone,e]
   ·simp only[cond_true]
    rw[gd_t (Y4 (by omega) (by omega)),gd_t rfl,gd_t (Y4 (by simp;omega) (by omega)),V1 (q:=q) hl',U1 (pre:=pre) (q:=q) (post:=post),ih true (out++[s]++[q]) (by simp;omega)]
    simp[sMid,sDone,e]
  ·simp only[aN,cond_false]
   rw[gd_t rfl,gd_t (Y4 (by omega) (by omega)),V1 (q:=q) hl',U1 (pre:=pre) (q:=q) (post:=post),ih true (out++[q]) (by simp;omega)]
   simp[sMid,sDone]
theorem y7f(N:Nat)(l:List Sp)(s:Sp)(hN:l.length<N)(hl:l.length<100000000):zge N l s=some (sIns s l):=by
 have h:=y7g N s l [] N (emptyB s) [] hN (by simp only[aj,Big];omega) (by simp;omega)
 have hz:(([]:List Sp).length:Int)=0:=rfl
 simp only[aj,hz]at h
 have hm:=(ybp s l).1
 simp only[zge,z3g,h,sIns]
 cases sDone s (emptyB s) l
 ·simp only[aO,cond_true,cond_false]
  rw[gd_t (Y4 (by omega) (by omega))]
 ·simp
structure Nrm (l:List Sp):Prop where
 ord:l.Pairwise fun a b=>lts b.1 a.1=false
 full:∀s∈l,emptyB s=false
theorem zs7(s:Sp):∀l:List Sp,Nrm l->emptyB s=false->Nrm (sMid s false l++bif sDone s false l then[]else[s])/\(∀x,x∈(sMid s false l++bif sDone s false l then[]else[s])↔x=s\/x∈l)
 | [],h,hs=>⟨⟨by simp[sMid,sDone],fun x hx=>by simp[sMid,sDone]at hx;rw[hx];exact hs⟩,fun x=>by simp[sMid,sDone]⟩
 | q::l,h,hs=>by
  obtain⟨o1,o2⟩:=aK.1 h.ord
  cases e:lts s.1 q.1
  ·obtain⟨i1,i2⟩:=zs7 s l ⟨o2,fun x hx=>h.full x (by simp[hx])⟩ hs
   have e1:(sMid s false (q::l)++bif sDone s false (q::l)then[]else[s])=q::(sMid s false l++bif sDone s false l then[]else[s]):=by simp[sMid,sDone,e]
   rw[e1]
   refine⟨⟨aK.2 ⟨fun x hx=> ?_,i1.ord⟩,fun x hx=> ?_⟩,fun x=> ?_⟩
   ·rcases(i2 x).1 hx with rfl | hx
    ·exact e
    ·exact o1 x hx
   ·rcases am.1 hx with rfl | hx
    ·exact h.full _ (by simp)
    ·exact i1.full x hx
   ·rw[am,i2,am]
    constructor
    ·rintro(h | h | h)
     ·exact .inr (.inl h)
     ·exact .inl h
     ·exact .inr (.inr h)
    ·rintro(h | h | h)
     ·exact .inr (.inl h)
     ·exact .inl h
     ·exact .inr (.inr h)
  ·obtain⟨m1,m2⟩:=zhl s l
   have e1:(sMid s false (q::l)++bif sDone s false (q::l)then[]else[s])=s::q::l:=by simp[sMid,sDone,e,m1,m2]
   rw[e1]
   refine⟨⟨aK.2 ⟨fun x hx=> ?_,h.ord⟩,fun x hx=> ?_⟩,fun x=>am⟩
   ·rcases am.1 hx with rfl | hx
    ·exact z0p e
    ·cases e2:lts x.1 s.1
     ·rfl
     ·have:=J8 e2 e;rw[o1 x hx]at this;cases this
   ·rcases am.1 hx with rfl | hx
    ·exact hs
    ·exact h.full x hx
theorem y2f(s:Sp){l:List Sp}(h:Nrm l):Nrm (sIns s l)/\(∀k,inS (sIns s l) k=(inS l k || hasB s k))/\(sIns s l).length<=l.length+1:=by
 have hlen:=(ybp s l).2
 cases e:emptyB s
 ·obtain⟨i1,i2⟩:=zs7 s l h e
  have e1:sIns s l=(sMid s false l++bif sDone s false l then[]else[s]):=by unfold sIns;rw[e]
  rw[e1]at hlen|-
  refine⟨i1,fun k=> ?_,hlen⟩
  rw[ej]
  simp only[inS,cZ,ay]
  constructor
  ·rintro⟨x,hx,hk⟩
   rcases(i2 x).1 hx with rfl | hx
   ·exact .inr hk
   ·exact .inl ⟨x,hx,hk⟩
  ·rintro(⟨x,hx,hk⟩ | hk)
   ·exact⟨x,(i2 x).2 (.inr hx),hk⟩
   ·exact⟨s,(i2 s).2 (.inl rfl),hk⟩
 ·obtain⟨m1,m2⟩:=zhl s l
  have e1:sIns s l=l:=by unfold sIns;rw[e,m1,m2];simp
  rw[e1]
  exact⟨h,fun k=>by rw[zin e,da],by omega⟩
def zc6(out:List Sp)(s:Sp):List Sp:=match out.getLast? with
 | none=>[s]
 | some o=>bif !(eqs o.2 [])&&lts o.2 s.1 then out++[s]else bif lessB o.2 s.2 then out.dropLast++[(o.1,s.2)]else out
theorem z9j(a b:List Sp)(k:B):inS (a++b) k=(inS a k || inS b k):=by simp[inS,List.any_append]
theorem inS1(s:Sp)(k:B):inS [s] k=hasB s k:=by simp[inS]
theorem yi9{o s:Sp}(h1:lts s.1 o.1=false)(h2:(!(eqs o.2 [])&&lts o.2 s.1)=false)(k:B):(hasB o k || hasB s k)=(bif lessB o.2 s.2 then hasB (o.1,s.2) k else hasB o k):=by
 have A:lts k o.1=true->lts k s.1=true:=fun h=>zl4 h h1
 have Bn:lts k s.1=true->belowB k o.2=true:=fun h=>by
  simp only[dn,dK]at h2
  simp only[belowB,ay]
  rcases h2 with h2 | h2
  ·exact .inl h2
  ·exact .inr (zl4 h h2)
 rw[U5,U5,U5]
 cases e:lessB o.2 s.2
 ·have C:belowB k s.2=true->belowB k o.2=true:=fun h=>zlk e h
  simp only[cond_false]
  revert A Bn C
  cases lts k o.1<;>cases lts k s.1<;>cases belowB k o.2<;>cases belowB k s.2<;>simp
 ·have C:belowB k o.2=true->belowB k s.2=true:=fun h=>zzj e h
  simp only[cond_true]
  revert A Bn C
  cases lts k o.1<;>cases lts k s.1<;>cases belowB k o.2<;>cases belowB k s.2<;>simp
theorem yci:∀(post out:List Sp),post.Pairwise (fun a b=>lts b.1 a.1=false)->(∀o,out.getLast? =some o->∀s∈post,lts s.1 o.1=false)->(∀k,inS (post.foldl zc6 out) k=(inS out k || inS post k))/\(post.foldl zc6 out).length<=out.length+post.length
 | [],out,_,_=>⟨fun k=>by simp[inS],by simp⟩
 | s::post,out,hp,ho=>by
  obtain⟨p1,p2⟩:=aK.1 hp
  have key:(∀k,inS (zc6 out s) k=(inS out k || hasB s k))/\(∀o,(zc6 out s).getLast? =some o->∀x∈post,lts x.1 o.1=false)/\(zc6 out s).length<=out.length+1:=by
   unfold zc6
   cases e:out.getLast? with
   | none=>
    have:out=[]:=dR.1 e
    subst this
    exact⟨fun k=>by simp[inS],fun o h x hx=>by simp at h;subst h;exact p1 x hx,by simp⟩
   | some o=>
    obtain⟨ini,rfl⟩:∃ini,out=ini++[o]:=cX.1 e
    have hos:=ho o e s (by simp)
    simp only
    cases e1:(!(eqs o.2 [])&&lts o.2 s.1)
    ·have hm:=yi9 hos e1
     simp only[cond_false]
     cases e2:lessB o.2 s.2
     ·simp only[e2,cond_false]at hm|-
      refine⟨fun k=> ?_,fun o' h x hx=> ?_,by simp⟩
      ·rw[z9j,inS1,<-hm k]
       cases inS ini k<;>cases hasB o k<;>cases hasB s k<;>rfl
      ·rw[e]at h;cases h
       exact ho o e x (by simp[hx])
     ·simp only[e2,cond_true]at hm|-
      rw[cV]
      refine⟨fun k=> ?_,fun o' h x hx=> ?_,by simp⟩
      ·rw[z9j,z9j,inS1,inS1,<-hm k,eK]
      ·simp at h;subst h
       exact ho o e x (by simp[hx])
    ·simp only[cond_true]
     refine⟨fun k=>by rw[z9j,inS1],fun o' h x hx=> ?_,by simp⟩
     simp at h;subst h
     exact p1 x hx
  obtain⟨k1,k2,k3⟩:=key
  obtain⟨i1,i2⟩:=yci post (zc6 out s) p2 k2
  refine⟨fun k=> ?_, ?_⟩
  ·rw[aX,i1,k1]
   simp[inS,eK]
  ·rw[aX];simp only[af];omega
theorem yo0(N:Nat){i:Int}{b:Bool}{sorted:List Sp}{s o:Sp}{ini:List Sp}(hi:inB i sorted.length=true)(hr:rdL sorted i Y8=s)(hl:ini.length<1000000000):
  z3d N i (ini.length:Int) b sorted (ini++[o])=some (((),((),i)),(sorted,((bif b then ini++[o]++[s]else bif lessB o.2 s.2 then ini++[(o.1,s.2)]else ini++[o]),()))):=by
 simp only[z3d,hr,V6,U4,yfy,y92]
 cases b
 ·simp only[cond_false]
  rw[gd_t rfl,gd_t hi]
  cases lessB o.2 s.2
  ·rfl
  ·simp only[cond_true]
   rw[gd_t hi,gd_t rfl]
 ·simp only[cond_true]
  rw[gd_t hi,gd_t (Y4 (by simp;omega) (by omega))]
theorem yge(N:Nat){sorted:List Sp}(hN:sorted.length<N)(hl:sorted.length<100000000):z7w N N (0:Int) sorted []=some ((),(sorted.foldl zc6 [],())):=by
 refine y9j (xs:=sorted) (L:=fun n i s=>z7w N n i sorted s) zc6 (fun s=>((),(s,()))) (fun s post=>s.length+post.length<=100000000)
  (fun n s _=>by
   rw[zh8]
   simp only[z42,aA,decide_false,cond_false])
  (fun n pre x post s hx hi=> ?_) hN (by simp;omega)
 simp only[af]at hi
 have hb:pre.length<9223372036854775807:=by rw[hx]at hl;simp at hl;omega
 have hlen:(zc6 s x).length<=s.length+1:=by
  unfold zc6
  split
  ·simp
  ·rename_i o _
   cases (!(eqs o.2 [])&&lts o.2 x.1)
   ·cases lessB o.2 x.2
    ·simp
    ·simp only[cond_true,cond_false,ae,List.length_dropLast,af,aq];omega
   ·simp
 rw[zh8]
 rw[hx]
 simp only[z42,Q1,V6,cond_true,U4]
 cases e:s.getLast? with
 | none=>
  have:s=[]:=dR.1 e
  subst this
  have w:aa .i64 ((([]:List Sp).length:Int)-(1:Int))= -1:=by decide
  have p2:z3d N (pre.length:Int) (-1) true (pre++x::post) []=some (((),((),(pre.length:Int))),(pre++x::post,([x],()))):=by
   simp only[z3d,cond_true,V6,U4]
   rw[gd_t rfl,gd_t (Y4 (by simp) (by omega))]
   rfl
  rw[w,X2 (by decide),p2]
  simp only
  rw[V1 (q:=x) hb]
  exact⟨rfl,by simp[zc6];simp at hi;omega⟩
 | some o=>
  obtain⟨ini,rfl⟩:∃ini,s=ini++[o]:=cX.1 e
  have hil:ini.length<100000000:=by simp at hi;omega
  have w:aa .i64 (((ini++[o]).length:Int)-(1:Int))=(ini.length:Int):=by
   rw[w64 (by simp only[ae,af,aq];omega) (by simp only[ae,af,aq];omega)];simp
  have p2:=fun b=>yo0 N (i:=(pre.length:Int)) (b:=b) (sorted:=pre++x::post) (s:=x) (o:=o) (ini:=ini) V6 U4 (by omega)
  have hms:zc6 (ini++[o]) x=(bif !(eqs o.2 [])&&lts o.2 x.1 then ini++[o]++[x]else bif lessB o.2 x.2 then ini++[(o.1,x.2)]else ini++[o]):=by
   unfold zc6
   rw[e]
   simp only[cV]
  rw[w,Y3 (by simp),V6,U4,gd_t rfl,hms]
  rw[hms]at hlen
  cases e1:eqs o.2 []
  ·simp only[e1,aO,cond_true,bp]at hlen|-
   rw[gd_t rfl,gd_t rfl,p2]
   simp only
   rw[V1 (q:=x) hb]
   exact⟨rfl,by omega⟩
  ·simp only[e1,aN,cond_false,eG]at hlen|-
   rw[p2]
   simp only
   rw[V1 (q:=x) hb]
   exact⟨rfl,by omega⟩
theorem yox(N:Nat){l:List Sp}(hN:l.length<N)(hl:l.length<40000000):∃r,z1e N l=some r/\(∀k,inS r k=inS l k)/\r.length<=l.length:=by
 have h0:=walk (xs:=l) (L:=fun n i (s:List Sp)=>z7x N n l i s []) (fun o x=>sIns x o) (fun s=>(((),()),(s,([],())))) (fun s post=>Nrm s/\s.length+post.length<=l.length)
  (fun n s _=>by
   rw[z6k]
   simp only[u7,aA,decide_false,cond_false])
  (fun n pre x post s hx hi=>by
   obtain⟨h1,h2⟩:=hi
   simp only[af]at h2
   have hb:pre.length<9223372036854775807:=by rw[hx]at hl;simp at hl;omega
   have hbl:=congrArg ap hx
   obtain⟨i1,_,i3⟩:=y2f x h1
   rw[z6k]
   rw[hx]
   simp only[u7,Q1,V6,cond_true,U4,y7f N s x (by omega) (by omega)]
   rw[gd_t rfl,V1 (q:=x) hb]
   exact⟨rfl,i1,by omega⟩)
  l [] N [] rfl hN ⟨⟨bg.nil,fun s h=>by cases h⟩,by simp⟩
 have hz:(([]:List Sp).length:Int)=0:=rfl
 simp only[hz]at h0
 obtain⟨e0,n1,n2⟩:=h0
 have sem:∀(post s:List Sp),Nrm s->∀k,inS (post.foldl (fun o x=>sIns x o) s) k=(inS s k || inS post k):=by
  intro post
  induction post with
  | nil=>intro s _ k;simp[inS]
  | cons x post ih=>
   intro s hs k
   obtain⟨i1,i2,_⟩:=y2f x hs
   rw[aX,ih _ i1,i2]
   simp[inS,eK]
 have sm:=sem l [] ⟨bg.nil,fun s h=>by cases h⟩
 generalize l.foldl (fun o x=>sIns x o) []=sorted at e0 n1 n2 sm
 simp only[aq,bC]at n2
 obtain⟨m1,m2⟩:=yci sorted [] n1.ord (fun o h=>by simp at h)
 have e1:=yge N (sorted:=sorted) (by omega) (by omega)
 refine⟨sorted.foldl zc6 [],by simp only[z1e,e0,e1],fun k=> ?_,by simp at m2;omega⟩
 rw[m1,sm]
 simp[inS]
def z3e(q:Sp)(out:List Sp)(x:Sp):List Sp:=out++((bif eqs q.1 []then[]else[w5 x ([],q.1)])++bif eqs q.2 []then[]else[w5 x (q.2,[])])
theorem y2w{q:Sp}(hq:emptyB q=false)(x:Sp)(k:B):inS ((bif eqs q.1 []then[]else[w5 x ([],q.1)])++bif eqs q.2 []then[]else[w5 x (q.2,[])]) k=(hasB x k&& !(hasB q k)):=by
 have e1:inS (bif eqs q.1 []then[]else[w5 x ([],q.1)]) k=(hasB x k&&lts k q.1):=by
  cases e:eqs q.1 []
  ·simp only[cond_false]
   rw[inS1,zcu,U5 ([],q.1)]
   simp only[zmz,belowB,e,aO,bp,cD]
  ·rw[J6.1 e,zmz];simp[inS]
 have e2:inS (bif eqs q.2 []then[]else[w5 x (q.2,[])]) k=(hasB x k&& !(belowB k q.2)):=by
  cases e:eqs q.2 []
  ·simp only[cond_false]
   rw[inS1,zcu,U5 (q.2,[])]
   simp only[belowB,e,z6o,dm,bU,cD]
  ·simp[inS,belowB,e]
 have C:lts k q.1=true->belowB k q.2=true:=fun h=>by
  simp only[emptyB,dn,cU,dK]at hq
  simp only[belowB,ay]
  rcases hq with hq | ⟨hq,_⟩
  ·exact .inl hq
  ·exact .inr (zl4 h hq)
 rw[z9j,e1,e2,U5 q]
 revert C
 cases hasB x k<;>cases lts k q.1<;>cases belowB k q.2<;>simp
theorem ycg(N:Nat){pm post':List Sp}{q:Sp}(left:List Sp)(hN:left.length<N)(hl:left.length<20000000):
  z6b N N (pm++q::post') (pm.length:Int) (0:Int) left []=some ((pm++q::post',((pm.length:Int),())),(left.foldl (z3e q) [],())):=by
 refine y9j (xs:=left) (L:=fun n i s=>z6b N n (pm++q::post') (pm.length:Int) i left s) (z3e q) (fun s=>((pm++q::post',((pm.length:Int),())),(s,()))) (fun s post=>s.length+2*post.length<=40000000)
  (fun n s _=>by
   rw[zfp]
   simp only[z2v,aA,decide_false,cond_false])
  (fun n pre x post s hx hi=> ?_) hN (by simp;omega)
 simp only[af]at hi
 have hb:pre.length<9223372036854775807:=by rw[hx]at hl;simp at hl;omega
 have hlen:(z3e q s x).length<=s.length+2:=by
  unfold z3e
  cases eqs q.1 []<;>cases eqs q.2 []<;>simp
 refine⟨?_,by omega⟩
 rw[zfp]
 rw[hx]
 simp only[z2v,Q1,V6,cond_true,U4,zl3]
 rw[gd_t rfl]
 cases e1:eqs q.1 []
 ·simp only[aO,cond_true]
  rw[gd_t rfl,gd_t rfl,gd_t (Y4 (by omega) (by omega)),gd_t rfl]
  cases e2:eqs q.2 []
  ·simp only[aO,cond_true]
   rw[gd_t rfl,gd_t rfl,gd_t (Y4 (by simp;omega) (by omega)),V1 (q:=x) hb]
   simp[z3e,e1,e2]
  ·simp only[aN,cond_false]
   rw[V1 (q:=x) hb]
   simp[z3e,e1,e2]
 ·simp only[aN,cond_false]
  rw[gd_t rfl]
  cases e2:eqs q.2 []
  ·simp only[aO,cond_true]
   rw[gd_t rfl,gd_t rfl,gd_t (Y4 (by omega) (by omega)),V1 (q:=x) hb]
   simp[z3e,e1,e2]
  ·simp only[aN,cond_false]
   rw[V1 (q:=x) hb]
   simp[z3e,e1,e2]
theorem zxs(a b:Bool):(bif a then some b else some false)=some (a&&b):=by cases a<;>rfl
def inR(n lo hi:Int):Bool:=decide (lo<=n)&&decide (n<=hi)
theorem ym3(N:Nat)(n lo hi:Int):zik N n lo hi=some (inR n lo hi):=by simp only[zik,zxs];rfl
def nol(s:B):Bool:=eqs s []
theorem yl4(a b:B):eqs a b=eqs b a:=by
 cases h:eqs b a
 ·cases h2:eqs a b
  ·rfl
  ·rw[J6.1 h2,z6o]at h;cases h
 ·rw[J6.1 h,z6o]
theorem y2v(s:B):eqs s []=nol s:=rfl
def spanV(s:Sp):Bool:= !(emptyB s)&&(decide ((s.1.length:Int)<=65535)&&decide ((s.2.length:Int)<=65535))
theorem ybs(N:Nat)(s:Sp):zi6 N s=some (spanV s):=by
 simp only[zi6,z3g,zxs,spanV]
def yfl(a b:B):Bool:=inR a.length 1 200&&(inR b.length 1 200&&(!(b.isPrefixOf a)&& !(a.isPrefixOf b)))
def vldB(m:Mg):Bool:=
 bif eqi m.1 1 then(inR m.2.1.length 1 65535&&(decide ((m.2.2.1.length:Int)<=64)&&inR m.2.2.2.2.2.2 0 1000000000))&&(nol m.2.2.2.1.1&&(nol m.2.2.2.1.2&&(nol m.2.2.2.2.1&&nol m.2.2.2.2.2.1)))else
 bif eqi m.1 2 then inR m.2.1.length 1 65535&&(nol m.2.2.1&&(nol m.2.2.2.1.1&&(nol m.2.2.2.1.2&&(nol m.2.2.2.2.1&&(nol m.2.2.2.2.2.1&&eqi m.2.2.2.2.2.2 0)))))else
 bif eqi m.1 3 then spanV m.2.2.2.1&&(nol m.2.1&&(nol m.2.2.1&&(nol m.2.2.2.2.1&&(nol m.2.2.2.2.2.1&&eqi m.2.2.2.2.2.2 0))))else
 bif eqi m.1 4 || eqi m.1 5 then yfl m.2.2.2.2.1 m.2.2.2.2.2.1&&(nol m.2.1&&(nol m.2.2.1&&(nol m.2.2.2.1.1&&(nol m.2.2.2.1.2&&eqi m.2.2.2.2.2.2 0))))else
 bif eqi m.1 6 then(spanV m.2.2.2.1&&inR m.2.2.2.2.2.2 0 1000000000)&&(nol m.2.1&&(nol m.2.2.1&&(nol m.2.2.2.2.1&&nol m.2.2.2.2.2.1)))else false
theorem yhs(m:Mg)(st mvs:Bool):z8s NN st m.1 mvs m=
  some (bif mvs then .inl (yfl m.2.2.2.2.1 m.2.2.2.2.2.1&&(nol m.2.1&&(nol m.2.2.1&&(nol m.2.2.2.1.1&&(nol m.2.2.2.1.2&&eqi m.2.2.2.2.2.2 0)))),())else bif eqi m.1 6 then .inl ((spanV m.2.2.2.1&&st)&&(nol m.2.1&&(nol m.2.2.1&&(nol m.2.2.2.2.1&&nol m.2.2.2.2.2.1))),())else .inr ((),())):=by
 simp only[z8s,zsg,ym3,ybs,y2v,K9,z6o,bp,bU,yfl]
 cases mvs
 ·simp only[cond_false]
  cases eqi m.1 6
  ·rfl
  ·simp only[cond_true]
   cases spanV m.2.2.2.1<;>cases st<;>rfl
 ·simp only[cond_true]
  cases m.2.2.2.2.2.1.isPrefixOf m.2.2.2.2.1<;>cases m.2.2.2.2.1.isPrefixOf m.2.2.2.2.2.1<;>cases inR m.2.2.2.2.1.length 1 200<;>cases inR m.2.2.2.2.2.1.length 1 200<;>rfl
theorem zy4(m:Mg):zbp NN m=some (vldB m):=by
 simp only[zbp,vldB,ym3,ybs,yhs]
 cases h1:eqi m.1 1
 case true=>
  simp only[cond_true,zxs,K9,z6o,y2v,bp,bU,Bool.and_assoc]
 case false=>
 cases h2:eqi m.1 2
 case true=>
  simp only[cond_true,cond_false,zxs,K9,z6o,y2v,bp,bU]
 case false=>
 cases h3:eqi m.1 3
 case true=>
  simp only[cond_true,cond_false,zxs,K9,z6o,y2v,bp,bU]
 case false=>
 cases h4:eqi m.1 4
 case true=>simp only[cond_true,cond_false,dm]
 case false=>
 cases h5:eqi m.1 5
 case true=>simp only[cond_true,cond_false,eh]
 case false=>
 cases h6:eqi m.1 6
 ·simp only[cond_false,eO]
 ·simp only[cond_true,cond_false,eO]
def byt(n:Int)(i:Nat):Int:=aa .u8 (Int.fdiv n (2^(8*i)))
def bytes(n:Int):Nat->List Int
 | 0=>[]
 | w+1=>byt n w::bytes n w
end Ds
namespace Ds
open Go Go.Dv
set_option maxRecDepth 100000
variable [Fuel]
theorem full_iff{s:Sp}:emptyB s=false↔s.2=[]\/lts s.1 s.2=true:=by
 unfold emptyB
 constructor
 ·intro h
  cases e:eqs s.2 []
  ·rw[e,yn1]at h
   exact .inr (by simpa using h)
  ·exact .inl (J6.1 e)
 ·rintro(h | h)
  ·rw[h];rfl
  ·rw[yn1,h];simp
structure Sep (l:List Sp):Prop where
 ord:l.Pairwise fun a b=>a.2≠[]/\lts a.2 b.1=true
 full:∀s∈l,emptyB s=false
def Ends(r l:List Sp):Prop:=∀s∈r,(∃x∈l,s.1=x.1)/\∃x∈l,s.2=x.2
theorem sIns_mem(s:Sp){l:List Sp}(h:Nrm l):∀x∈sIns s l,(x=s/\emptyB s=false)\/x∈l:=by
 cases e:emptyB s
 ·obtain⟨_,i2⟩:=zs7 s l h e
  have e1:sIns s l=(sMid s false l++bif sDone s false l then[]else[s]):=by unfold sIns;rw[e]
  rw[e1]
  exact fun x hx=>((i2 x).1 hx).imp (fun h=>⟨h,rfl⟩) id
 ·unfold sIns
  obtain⟨i1,i2⟩:=zhl s l
  rw[e,i1,i2]
  intro x hx
  exact .inr (by simpa using hx)
theorem ycw(l0:List Sp):∀(l s:List Sp),Nrm s->(∀x∈l,emptyB x=false->x∈l0)->(∀x∈s,x∈l0)->Nrm (l.foldl (fun o x=>sIns x o) s)/\∀x∈l.foldl (fun o x=>sIns x o) s,x∈l0
 | [],s,h,_,hs=>⟨h,hs⟩
 | x::l,s,h,hl,hs=>by
  rw[aX]
  refine ycw l0 l _ (y2f x h).1 (fun y hy=>hl y (by simp[hy])) fun y hy=> ?_
  rcases sIns_mem x h y hy with⟨rfl,he⟩ | hy
  ·exact hl _ (by simp) he
  ·exact hs _ hy
theorem yi6{l0 out:List Sp}{s:Sp}(h:Sep out)(he:Ends out l0)(hs:emptyB s=false)(hm:s∈l0)(ho:∀o,out.getLast? =some o->lts s.1 o.1=false):
  Sep (zc6 out s)/\Ends (zc6 out s) l0/\∀o,(zc6 out s).getLast? =some o->lts s.1 o.1=false:=by
 unfold zc6
 cases e:out.getLast? with
 | none=>
  simp only
  refine⟨⟨by simp,fun x hx=> ?_⟩,fun x hx=> ?_,fun o ho=> ?_⟩
  ·simp at hx;rw[hx];exact hs
  ·simp at hx;rw[hx];exact⟨⟨s,hm,rfl⟩,s,hm,rfl⟩
  ·simp at ho;rw[<-ho];exact w6 _
 | some o=>
  obtain⟨ini,rfl⟩:∃ini,out=ini++[o]:=cX.1 e
  have hos:=ho o e
  obtain⟨p1,p2,p3⟩:=bD.1 h.ord
  have ein:∀x∈ini,(∃y∈l0,x.1=y.1)/\∃y∈l0,x.2=y.2:=fun x hx=>he x (by simp[hx])
  have eo:=he o (by simp)
  simp only
  cases e1:(!(eqs o.2 [])&&lts o.2 s.1)
  ·simp only[cond_false]
   cases e2:lessB o.2 s.2
   ·simp only[cond_false]
    exact⟨h,he,fun o' h'=>by rw[e]at h';cases h';exact hos⟩
   ·simp only[cond_true]
    rw[cV]
    have hfull:emptyB (o.1,s.2)=false:=by
     rcases full_iff.1 hs with h | h
     ·exact full_iff.2 (.inl h)
     ·exact full_iff.2 (.inr (y9u hos h))
    refine⟨⟨bD.2 ⟨p1,by simp,fun a ha b hb=> ?_⟩,fun x hx=> ?_⟩,fun x hx=> ?_,fun o' h'=> ?_⟩
    ·simp at hb;rw[hb];exact p3 a ha o (by simp)
    ·rcases ak.1 hx with hx | hx
     ·exact h.full x (by simp[hx])
     ·simp at hx;rw[hx];exact hfull
    ·rcases ak.1 hx with hx | hx
     ·exact ein x hx
     ·simp at hx;rw[hx];exact⟨eo.1,s,hm,rfl⟩
    ·simp at h';rw[<-h'];exact hos
  ·simp only[cond_true]
   simp only[ac,aw]at e1
   have hne:o.2≠[]:=fun h=>by rw[h]at e1;simp[eqs]at e1
   refine⟨⟨bD.2 ⟨h.ord,by simp,fun a ha b hb=> ?_⟩,fun x hx=> ?_⟩,fun x hx=> ?_,fun o' h'=> ?_⟩
   ·simp at hb;rw[hb]
    rcases ak.1 ha with ha | ha
    ·obtain⟨q1,q2⟩:=p3 a ha o (by simp)
     exact⟨q1,zl4 q2 hos⟩
    ·simp at ha;rw[ha];exact⟨hne,e1.2⟩
   ·rcases ak.1 hx with hx | hx
    ·exact h.full x hx
    ·simp at hx;rw[hx];exact hs
   ·rcases ak.1 hx with hx | hx
    ·exact he x hx
    ·simp at hx;rw[hx];exact⟨⟨s,hm,rfl⟩,s,hm,rfl⟩
   ·simp at h';rw[<-h'];exact w6 _
theorem ycv{l0:List Sp}:∀(l out:List Sp),Nrm l->(∀x∈l,x∈l0)->Sep out->Ends out l0->(∀o,out.getLast? =some o->∀s∈l,lts s.1 o.1=false)->Sep (l.foldl zc6 out)/\Ends (l.foldl zc6 out) l0
 | [],out,_,_,h,he,_=>⟨h,he⟩
 | s::l,out,hn,hl,h,he,ho=>by
  obtain⟨o1,o2⟩:=aK.1 hn.ord
  obtain⟨k1,k2,k3⟩:=yi6 h he (hn.full s (by simp)) (hl s (by simp)) fun o h'=>ho o h' s (by simp)
  rw[aX]
  exact ycv l _ ⟨o2,fun x hx=>hn.full x (by simp[hx])⟩ (fun x hx=>hl x (by simp[hx])) k1 k2 fun o h' x hx=>zvv (k3 o h') (o1 x hx)
theorem zea(N:Nat){l:List Sp}(hN:l.length<N)(hl:l.length<40000000):∃r,z1e N l=some r/\(∀k,inS r k=inS l k)/\r.length<=l.length/\Sep r/\Ends r (l.filter fun s=> !(emptyB s)):=by
 have h0:=walk (xs:=l) (L:=fun n i (s:List Sp)=>z7x N n l i s []) (fun o x=>sIns x o) (fun s=>(((),()),(s,([],())))) (fun s post=>Nrm s/\s.length+post.length<=l.length)
  (fun n s _=>by
   rw[z6k]
   simp only[u7,aA,decide_false,cond_false])
  (fun n pre x post s hx hi=>by
   obtain⟨h1,h2⟩:=hi
   simp only[af]at h2
   have hb:pre.length<9223372036854775807:=by rw[hx]at hl;simp at hl;omega
   have hbl:=congrArg ap hx
   obtain⟨i1,_,i3⟩:=y2f x h1
   rw[z6k]
   rw[hx]
   simp only[u7,Q1,V6,cond_true,U4,y7f N s x (by omega) (by omega)]
   rw[gd_t rfl,V1 (q:=x) hb]
   exact⟨rfl,i1,by omega⟩)
  l [] N [] rfl hN ⟨⟨bg.nil,fun s h=>by cases h⟩,by simp⟩
 have hz:(([]:List Sp).length:Int)=0:=rfl
 simp only[hz]at h0
 obtain⟨e0,n1,n2⟩:=h0
 obtain⟨r,r1,r2,r3⟩:=yox N hN hl
 have f1:=ycw (l.filter fun s=> !(emptyB s)) l [] ⟨bg.nil,fun s h=>by cases h⟩ (fun x h he=>aB.2 ⟨h,by simp[he]⟩) (fun _ h=>by cases h)
 generalize l.foldl (fun o x=>sIns x o) []=sorted at e0 n1 n2 f1
 simp only[aq,bC]at n2
 have e1:=yge N (sorted:=sorted) (by omega) (by omega)
 have f2:=ycv (l0:=l.filter fun s=> !(emptyB s)) sorted [] f1.1 f1.2 ⟨bg.nil,fun s h=>by cases h⟩ (fun s h=>by cases h) (fun o h=>by simp at h)
 have e2:z1e N l=some (sorted.foldl zc6 []):=by simp only[z1e,e0,e1]
 rw[r1]at e2
 cases e2
 exact⟨_,r1,r2,r3,f2.1,f2.2⟩
theorem y4d(a b:Sp)(h:emptyB (w5 a b)=false):((w5 a b).1=a.1\/(w5 a b).1=b.1)/\((w5 a b).2=a.2\/(w5 a b).2=b.2):=by
 unfold w5 at h|-
 cases e:emptyB (y2z a b)
 ·simp only[cond_false]
  unfold y2z yea
  refine⟨?_, ?_⟩
  ·cases lts a.1 b.1<;>simp
  ·cases lessB b.2 a.2<;>simp
 ·rw[e]at h;cases h
theorem zsm(m0:List Sp)(E:List B)(hE:∀q∈m0,q.1∈E/\q.2∈E)(h0:([]:B)∈E):∀(post pre:List Sp) (n:Nat) (left:List Sp),(∀q∈post,q∈m0)->post.length<n->(pre++post).length<1000->left.length*2^post.length<=10000000->
  Sep left->(∀s∈left,s.1∈E/\s.2∈E)->∃r,z6c NN n (pre++post) (pre.length:Int) left=some ((),(r,()))/\(∀k,inS r k=(inS left k&& !(inS post k)))/\r.length<=left.length*2^post.length/\Sep r/\∀s∈r,s.1∈E/\s.2∈E
 | _,_,0,_,_,h,_,_,_,_=>absurd h (ag _)
 | [],pre,n+1,left,_,_,_,_,hs,he=>by
  refine⟨left, ?_,fun k=>by simp[inS],by simp,hs,he⟩
  rw[z03]
  simp only[K7,ai,aA,decide_false,cond_false]
 | q::post,pre,n+1,left,hm0,hn,hl,hp,hs,he=>by
  simp only[af]at hn hp
  have hb:pre.length<9223372036854775807:=by simp at hl;omega
  have e2:(2:Nat)^(post.length+1)=2*2^post.length:=by rw[Nat.pow_succ];omega
  have hpos:0<(2:Nat)^post.length:=eV (by omega)
  have h2:left.length*2*2^post.length=left.length*2^(post.length+1):=by rw[e2,Nat.mul_assoc]
  have h1:left.length*1<=left.length*2^(post.length+1):=ba _ (by rw[e2];omega)
  have hq:=hE q (hm0 q (by simp))
  have hm0':∀x∈post,x∈m0:=fun x hx=>hm0 x (by simp[hx])
  cases e:emptyB q
  ·have hm:=ycg NN (pm:=pre) (post':=post) (q:=q) left (by have:=V0;omega) (by omega)
   have sem:∀(l out:List Sp),(∀k,inS (l.foldl (z3e q) out) k=(inS out k || (inS l k&& !(hasB q k))))/\(l.foldl (z3e q) out).length<=out.length+2*l.length:=by
    intro l
    induction l with
    | nil=>intro out;exact⟨fun k=>by simp[inS],by simp⟩
    | cons x l ih=>
     intro out
     obtain⟨i1,i2⟩:=ih (z3e q out x)
     have hlen:(z3e q out x).length<=out.length+2:=by
      unfold z3e
      cases eqs q.1 []<;>cases eqs q.2 []<;>simp
     refine⟨fun k=> ?_, ?_⟩
     ·rw[aX,i1]
      unfold z3e
      rw[z9j,y2w e]
      have:inS (x::l) k=(hasB x k || inS l k):=by simp[inS]
      rw[this]
      cases inS out k<;>cases hasB x k<;>cases inS l k<;>cases hasB q k<;>rfl
     ·rw[aX];simp only[af];omega
   have ends:∀(l out:List Sp),(∀s∈l,s.1∈E/\s.2∈E)->(∀s∈out,emptyB s=false->s.1∈E/\s.2∈E)->∀s∈l.foldl (z3e q) out,emptyB s=false->s.1∈E/\s.2∈E:=by
    intro l
    induction l with
    | nil=>intro out _ h;exact h
    | cons x l ih=>
     intro out hl ho
     rw[aX]
     refine ih _ (fun s hs=>hl s (by simp[hs])) fun s hs hfull=> ?_
     have hx:=hl x (by simp)
     unfold z3e at hs
     have two:∀y:Sp,y.1∈E->y.2∈E->s=w5 x y->s.1∈E/\s.2∈E:=by
      rintro y y1 y2 rfl
      obtain⟨f1,f2⟩:=y4d x y hfull
      exact⟨by rcases f1 with f | f<;>rw[f]<;>first | exact hx.1 | exact y1,by rcases f2 with f | f<;>rw[f]<;>first | exact hx.2 | exact y2⟩
     rcases ak.1 hs with hs | hs
     ·exact ho s hs hfull
     ·rcases ak.1 hs with hs | hs
      ·cases e1:eqs q.1 []<;>rw[e1]at hs<;>simp at hs
       exact two ([],q.1) h0 hq.1 hs
      ·cases e1:eqs q.2 []<;>rw[e1]at hs<;>simp at hs
       exact two (q.2,[]) hq.2 h0 hs
   obtain⟨s1,s2⟩:=sem left []
   simp only[aq,Nat.zero_add]at s2
   obtain⟨r,r1,r2,r3,r4,r5⟩:=zea NN (l:=left.foldl (z3e q) []) (by have:=V0;omega) (by omega)
   have hr:r.length*2^post.length<=left.length*2*2^post.length:=bv _ (by omega)
   have r6:∀s∈r,s.1∈E/\s.2∈E:=by
    intro s hs
    have e0:=ends left [] he (fun s h=>by cases h)
    obtain⟨⟨x,hx,ex⟩,y,hy,ey⟩:=r5 s hs
    obtain⟨x1,x2⟩:=aB.1 hx
    obtain⟨y1,y2⟩:=aB.1 hy
    exact⟨by rw[ex];exact(e0 x x1 (by simpa using x2)).1,by rw[ey];exact(e0 y y1 (by simpa using y2)).2⟩
   obtain⟨r',i1,i2,i3,i4,i5⟩:=zsm m0 E hE h0 post (pre++[q]) n r hm0' (by omega) (by simpa using hl) (by omega) r4 r6
   refine⟨r', ?_,fun k=> ?_,by simp only[af];omega,i4,i5⟩
   ·rw[z03]
    simp only[K7,Q1,V6,cond_true,U4,z3g,e,cond_false,hm,r1]
    rw[gd_t rfl,V1 (q:=q) hb,U1 (pre:=pre) (q:=q) (post:=post),i1]
   ·rw[i2,r2,s1]
    have:inS (q::post) k=(hasB q k || inS post k):=by simp[inS]
    rw[this]
    have z:inS [] k=false:=rfl
    rw[z]
    cases inS left k<;>cases hasB q k<;>cases inS post k<;>rfl
  ·have hr:left.length*2^post.length<=left.length*2*2^post.length:=bv _ (by omega)
   obtain⟨r',i1,i2,i3,i4,i5⟩:=zsm m0 E hE h0 post (pre++[q]) n left hm0' (by omega) (by simpa using hl) (by omega) hs he
   refine⟨r', ?_,fun k=> ?_,by simp only[af];omega,i4,i5⟩
   ·rw[z03]
    simp only[K7,Q1,V6,cond_true,U4,z3g,e]
    rw[gd_t rfl,V1 (q:=q) hb,U1 (pre:=pre) (q:=q) (post:=post),i1]
   ·rw[i2]
    have:inS (q::post) k=(hasB q k || inS post k):=by simp[inS]
    rw[this,zin e,cD]
theorem y3o{l m:List Sp}{E:List B}(hE:∀q∈m,q.1∈E/\q.2∈E)(h0:([]:B)∈E)(hL:∀s∈l,emptyB s=false->s.1∈E/\s.2∈E)(hm:m.length<1000)(hl:l.length*2^m.length<=10000000):
  ∃r,K6 NN l m=some r/\(∀k,inS r k=(inS l k&& !(inS m k)))/\r.length<=l.length*2^m.length/\Sep r/\∀s∈r,s.1∈E/\s.2∈E:=by
 have hpos:0<(2:Nat)^m.length:=eV (by omega)
 have h1:l.length*1<=l.length*2^m.length:=ba _ hpos
 obtain⟨r,r1,r2,r3,r4,r5⟩:=zea NN (l:=l) (by have:=V0;omega) (by omega)
 have h2:r.length*2^m.length<=l.length*2^m.length:=bv _ r3
 have r6:∀s∈r,s.1∈E/\s.2∈E:=fun s hs=>by
  obtain⟨⟨x,hx,ex⟩,y,hy,ey⟩:=r5 s hs
  obtain⟨x1,x2⟩:=aB.1 hx
  obtain⟨y1,y2⟩:=aB.1 hy
  exact⟨by rw[ex];exact(hL x x1 (by simpa using x2)).1,by rw[ey];exact(hL y y1 (by simpa using y2)).2⟩
 obtain⟨r',i1,i2,i3,i4,i5⟩:=zsm m E hE h0 m [] NN r (fun _ h=>h) (by have:=V0;omega) (by simpa using hm) (by omega) r4 r6
 have hz:(([]:List Sp).length:Int)=0:=rfl
 simp only[aj,hz]at i1
 exact⟨r',by simp only[K6,r1,i1],fun k=>by rw[i2,r2],by omega,i4,i5⟩
theorem Sep.nodup{l:List Sp}(h:Sep l):(l.map (·.1)).Nodup:=by
 rw[fh,cS]
 refine bg.imp_of_mem ?_ h.ord
 rintro a b ha hb ⟨h1,h2⟩ e
 rcases full_iff.1 (h.full a ha)with h3 | h3
 ·exact h1 h3
 ·have:=J8 h3 h2;rw[e,w6]at this;cases this
theorem zft{α:Type} [DecidableEq α]:∀{l L:List α},l.Nodup->(∀x∈l,x∈L)->l.length<=L.length
 | [],_,_,_=>bn _
 | x::l,L,h,hs=>by
  obtain⟨h1,h2⟩:=bS.1 h
  have hx:=hs x (by simp)
  have:=zft (L:=L.erase x) h2 fun y hy=>(List.mem_erase_of_ne (fun(e:y=x)=>h1 (by rw[<-e];exact hy))).2 (hs y (by simp[hy]))
  rw[List.length_erase_of_mem hx]at this
  have:=d6 hx
  simp only[af];omega
theorem Sep.len{l:List Sp}{E:List B}(h:Sep l)(he:∀s∈l,s.1∈E):l.length<=E.length:=by
 have:=zft h.nodup (L:=E) (by simpa using fun a b hs=>he (a,b) hs)
 simpa using this
def xs4:List B:=[[97,47],[98,47],[99,47],[100,47]]
def bs:Nat->B
 | 0=>[]
 | j+1=>98::47::bs j
theorem ymp:∀j,(bs j).length=2*j
 | 0=>rfl
 | j+1=>by simp[bs,ymp j];omega
def tB:List B:=tails++(tails.map (·++[0])++[[],[98,48]])
def tops:List B:=[[],[97,48],[98,48],[99,48],[100,48]]
def gen(ts:List B)(g:Nat):List B:=xs4.flatMap fun x=>(List.range (g+1)).flatMap fun j=>ts.map fun t=>x++(bs j++t)
def KU(g:Nat):List B:=gen tails g
def UU(g:Nat):List B:=tops++gen tB g
theorem zib{ts:List B}{g:Nat}{u:B}:u∈gen ts g↔∃x∈xs4,∃j,j<=g/\∃t∈ts,u=x++(bs j++t):=by
 unfold gen
 simp only[dr,List.mem_range,aH]
 constructor
 ·rintro⟨x,hx,j,hj,t,ht,rfl⟩;exact⟨x,hx,j,by omega,t,ht,rfl⟩
 ·rintro⟨x,hx,j,hj,t,ht,rfl⟩;exact⟨x,hx,j,by omega,t,ht,rfl⟩
theorem y4j{ts ts':List B}{g g':Nat}(h:g<=g')(ht:∀t∈ts,t∈ts'){u:B}(hu:u∈gen ts g):u∈gen ts' g':=by
 obtain⟨x,hx,j,hj,t,ht',rfl⟩:=zib.1 hu
 exact zib.2 ⟨x,hx,j,by omega,t,ht t ht',rfl⟩
theorem KU.mono{g g':Nat}(h:g<=g'){u:B}(hu:u∈KU g):u∈KU g':=y4j h (fun _ h=>h) hu
theorem UU.mono{g g':Nat}(h:g<=g'){u:B}(hu:u∈UU g):u∈UU g':=by
 rcases ak.1 hu with hu | hu
 ·exact bk _ hu
 ·exact bq _ (y4j h (fun _ h=>h) hu)
theorem UU.of{g:Nat}{u:B}(hu:u∈KU g):u∈UU g:=bq _ (y4j (al g) (fun t h=>bk _ h) hu)
theorem UU.succ{g:Nat}{u:B}(hu:u∈KU g):u++[0]∈UU g:=by
 obtain⟨x,hx,j,hj,t,ht,rfl⟩:=zib.1 hu
 exact bq _ (zib.2 ⟨x,hx,j,hj,t++[0],bq _ (bk _ (aH.2 ⟨t,ht,rfl⟩)),by simp⟩)
theorem UU.nil(g:Nat):([]:B)∈UU g:=bk _ (by simp[tops])
theorem KU.ne{g:Nat}{u:B}(hu:u∈KU g):u≠[]:=by
 obtain⟨x,hx,j,hj,t,ht,rfl⟩:=zib.1 hu
 have:x≠[]:=by rintro rfl;simp[xs4]at hx
 simp[this]
theorem yk1{t:B}(ht:t∈tB):t.length<=4:=by
 have h:(tB.all fun t=>ce t.length 4)=true:=by decide
 exact bZ (az.1 h t ht)
theorem yf9{x:B}(hx:x∈xs4):x.length=2:=by
 have h:(xs4.all fun t=>Nat.beq t.length 2)=true:=by decide
 exact Nat.eq_of_beq_eq_true (az.1 h x hx)
theorem UU.len{g:Nat}{u:B}(hu:u∈UU g):u.length<=2*g+6:=by
 rcases ak.1 hu with hu | hu
 ·have h:(tops.all fun t=>ce t.length 2)=true:=by decide
  have:=bZ (az.1 h u hu)
  omega
 ·obtain⟨x,hx,j,hj,t,ht,rfl⟩:=zib.1 hu
  have:=yk1 ht
  simp only[ae,yf9 hx,ymp];omega
theorem y4l{α β:Type}{f:α->List β}{n:Nat}:∀{l:List α},(∀x∈l,(f x).length=n)->(l.flatMap f).length=l.length*n
 | [],_=>by simp
 | x::l,h=>by
  rw[cm,ae,h x (by simp),y4l fun y hy=>h y (by simp[hy])]
  simp only[af,Nat.add_mul];omega
theorem ygr(ts:List B)(g:Nat):(gen ts g).length=4*((g+1)*ts.length):=by
 unfold gen
 rw[y4l (n:=(g+1)*ts.length)]
 ·rfl
 ·intro x _
  rw[y4l (n:=ts.length)]
  ·simp
  ·intro j _;simp
theorem KU.length(g:Nat):(KU g).length=20*(g+1):=by
 unfold KU;rw[ygr];simp[tails];omega
theorem UU.length(g:Nat):(UU g).length=5+48*(g+1):=by
 unfold UU;rw[ae,ygr];simp[tB,tails,tops];omega
theorem zmx(p u:B):p.isPrefixOf (p++u)=true:=aP.2 ⟨u,rfl⟩
theorem path_cases{p:B}(hp:p∈paths):p∈xs4\/p=[97,47,98,47]:=by
 have h:(paths.all fun p=>xs4.contains p || eqs p [97,47,98,47])=true:=by decide
 have:=az.1 h p hp
 simp only[ay,dp]at this
 exact this.imp id J6.1
theorem yc3{ts:List B}{q:B}(hq:q∈paths){j g:Nat}(hj:j<=g){t:B}(ht:t∈ts):q++(bs j++t)∈gen ts (g+1):=by
 rcases path_cases hq with h | rfl
 ·exact zib.2 ⟨q,h,j,by omega,t,ht,rfl⟩
 ·exact zib.2 ⟨[97,47],by simp[xs4],j+1,by omega,t,ht,by simp[bs]⟩
theorem yd1{ts:List B}(hts:∀t∈ts,[98,47].isPrefixOf t=false){p q:B}(hp:p∈paths)(hq:q∈paths){g:Nat}{u:B}(hu:u∈gen ts g)(h:p.isPrefixOf u=true):q++u.drop p.length∈gen ts (g+1):=by
 obtain⟨x,hx,j,hj,t,ht,rfl⟩:=zib.1 hu
 have hxl:=yf9 hx
 rcases path_cases hp with h4 | rfl
 ·have hpl:=yf9 h4
  have:p=x:=by
   obtain⟨r,hr⟩:=aP.1 h
   exact(eW hr (by omega)).1
  subst this
  rw[cY]
  exact yc3 hq hj ht
 ·obtain⟨r,hr⟩:=aP.1 h
  have e1:([97,47,98,47]:B)++r=[97,47]++([98,47]++r):=rfl
  rw[e1]at hr
  obtain⟨rfl,h2⟩:=eW hr (by rw[hxl];rfl)
  cases j with
  | zero=>
   have h3:[98,47]++r=t:=h2
   have:=hts t ht
   rw[<-h3]at this
   rw[zmx]at this;cases this
  | succ j=>
   have h3:(98::47::r:B)=98::47::(bs j++t):=h2
   have h4:r=bs j++t:=by injection h3 with _ h3;injection h3
   have h5:(([97,47]:B)++(bs (j+1)++t)).drop 4=bs j++t:=rfl
   show q++(([97,47]:B)++(bs (j+1)++t)).drop 4∈_
   rw[h5]
   exact yc3 hq (by omega) ht
theorem KU.move{p q:B}(hp:p∈paths)(hq:q∈paths){g:Nat}{u:B}(hu:u∈KU g)(h:p.isPrefixOf u=true):q++u.drop p.length∈KU (g+1):=
 yd1 (fun t ht=>by
   have h:(tails.all fun t=> !([98,47].isPrefixOf t))=true:=by decide
   simpa using az.1 h t ht) hp hq hu h
theorem UU.move{p q:B}(hp:p∈paths)(hq:q∈paths){g:Nat}{u:B}(hu:u∈UU g)(h:p.isPrefixOf u=true):q++u.drop p.length∈UU (g+1):=by
 rcases ak.1 hu with hu | hu
 ·have hh:(tops.all fun t=>paths.all fun p=> !(p.isPrefixOf t))=true:=by decide
  have:=az.1 (az.1 hh u hu) p hp
  rw[h]at this;cases this
 ·exact bq _ (yd1 (fun t ht=>by
   have h:(tB.all fun t=> !([98,47].isPrefixOf t))=true:=by decide
   simpa using az.1 h t ht) hp hq hu h)
theorem UU.path{p:B}(hp:p∈paths):p∈UU 1/\(preB p).2∈UU 1:=by
 have h:(paths.all fun p=>(UU 1).contains p&&(UU 1).contains (preB p).2)=true:=by decide+kernel
 have:=az.1 h p hp
 simpa using this
def dd:List B->List B
 | []=>[]
 | x::l=>if x∈dd l then dd l else x::dd l
theorem y0w{x:B}:∀{l:List B},x∈dd l↔x∈l
 | []=>Iff.rfl
 | y::l=>by
  unfold dd
  by_cases h:y∈dd l
  ·rw[if_pos h,y0w,am]
   constructor
   ·exact .inr
   ·rintro(rfl | h')
    ·exact y0w.1 h
    ·exact h'
  ·rw[if_neg h,am,am,y0w]
theorem y4a:∀l:List B,(dd l).Nodup
 | []=>bg.nil
 | y::l=>by
  unfold dd
  by_cases h:y∈dd l
  ·rw[if_pos h];exact y4a l
  ·rw[if_neg h];exact bS.2 ⟨h,y4a l⟩
theorem yml:∀l:List B,(dd l).length<=l.length
 | []=>al _
 | y::l=>by
  unfold dd
  have:=yml l
  by_cases h:y∈dd l
  ·rw[if_pos h];simp only[af];omega
  ·rw[if_neg h];simp only[af];omega
def wt(g:Nat)(P:B->Bool):Nat:=((dd (UU g)).filter P).length
theorem ymx(g:Nat)(P:B->Bool):wt g P<=5+48*(g+1):=by
 have h1:=yml (UU g)
 rw[UU.length]at h1
 exact aW (cb _ _) h1
theorem ylw{g g':Nat}{P Q:B->Bool}(f:B->B)(h:∀a,a∈UU g->P a=true->f a∈UU g'/\Q (f a)=true)(hi:∀a b,P a=true->P b=true->f a=f b->a=b):wt g P<=wt g' Q:=by
 unfold wt
 have hn:(((dd (UU g)).filter P).map f).Nodup:=by
  rw[fh,cS]
  refine bg.imp_of_mem ?_ ((y4a (UU g)).filter P)
  intro a b ha hb hne e
  exact hne (hi a b (aB.1 ha).2 (aB.1 hb).2 e)
 have:=zft (L:=(dd (UU g')).filter Q) hn fun x hx=>by
  obtain⟨a,ha,rfl⟩:=aH.1 hx
  obtain⟨h1,h2⟩:=aB.1 ha
  obtain⟨k1,k2⟩:=h a (y0w.1 h1) h2
  exact aB.2 ⟨y0w.2 k1,k2⟩
 simpa using this
theorem zkh{g:Nat}{P Q:B->Bool}(h:∀a,P a=true->Q a=true):wt g P<=wt g Q:=ylw id (fun a ha hp=>⟨ha,h a hp⟩) fun _ _ _ _ e=>e
theorem y9i{g:Nat}{P:B->Bool}{a:B}(ha:a∈UU g)(hp:P a=true):1<=wt g P:=
 d6 (aB.2 ⟨y0w.2 ha,hp⟩)
theorem y3u{g:Nat}(P Q:B->Bool):wt g P=wt g (fun a=>P a&&Q a)+wt g (fun a=>P a&& !(Q a)):=by
 unfold wt
 generalize dd (UU g)=l
 induction l with
 | nil=>rfl
 | cons x l ih=>
  simp only[List.filter_cons]
  cases P x<;>cases Q x<;>simp<;>omega
def wts(g:Nat)(l:List Sp):Nat:=(l.map fun s=>wt g (hasB s)).sum
theorem ydp(g:Nat)(a b:List Sp):wts g (a++b)=wts g a+wts g b:=by simp[wts]
theorem zqg{s:Sp}(h:emptyB s=false):hasB s s.1=true:=by
 rw[U5,w6]
 rcases full_iff.1 h with e | e<;>simp[belowB,e]
theorem zw8{g:Nat}:∀{l:List Sp},(∀s∈l,emptyB s=false/\s.1∈UU g)->l.length<=wts g l
 | [],_=>bn _
 | s::l,h=>by
  have:=zw8 (g:=g) (l:=l) fun x hx=>h x (by simp[hx])
  obtain⟨h1,h2⟩:=h s (by simp)
  have:=y9i h2 (zqg h1)
  simp only[wts,ax,bE,af]at*;omega
theorem yqf{s:Sp}{l:List Sp}(h:Sep (s::l)){k:B}(hk:hasB s k=true):inS l k=false:=by
 cases e:inS l k
 ·rfl
 ·obtain⟨x,hx,hxk⟩:=cZ.1 e
  obtain⟨h1,h2⟩:=(aK.1 h.ord).1 x hx
  rw[U5]at hk hxk
  simp only[belowB,ac,aw,ay]at hk hxk
  rcases hk.2 with e1 | e1
  ·exact absurd (J6.1 e1) h1
  ·have:=J8 e1 h2
   rw[hxk.1]at this;cases this
theorem Sep.tail{s:Sp}{l:List Sp}(h:Sep (s::l)):Sep l:=⟨(aK.1 h.ord).2,fun x hx=>h.full x (by simp[hx])⟩
theorem y8n{g:Nat}:∀{l:List Sp},Sep l->wts g l<=wt g (inS l)
 | [],_=>by simp[wts]
 | s::l,h=>by
  have ih:=y8n (g:=g) h.tail
  have e:wt g (inS (s::l))=wt g (fun a=>inS (s::l) a&&hasB s a)+wt g (fun a=>inS (s::l) a&& !(hasB s a)):=y3u _ _
  have h1:wt g (hasB s)<=wt g (fun a=>inS (s::l) a&&hasB s a):=zkh fun a ha=>by simp[inS,ha]
  have h2:wt g (inS l)<=wt g (fun a=>inS (s::l) a&& !(hasB s a)):=zkh fun a ha=>by
   have:hasB s a=false:=by
    cases e:hasB s a
    ·rfl
    ·have:=yqf h e;rw[ha]at this;cases this
   have e2:inS (s::l) a=(hasB s a || inS l a):=by simp[inS]
   rw[e2,ha,this];rfl
  have e3:wts g (s::l)=wt g (hasB s)+wts g l:=by simp[wts]
  omega
def SpG(g:Nat)(s:Sp):Prop:=emptyB s=false/\s.1∈UU g/\s.2∈UU g
theorem SpG.mono{g g':Nat}(h:g<=g'){s:Sp}(hs:SpG g s):SpG g' s:=⟨hs.1,UU.mono h hs.2.1,UU.mono h hs.2.2⟩
def y6f(s:Sp):Bool:= !(emptyB s)&&((UU 1).contains s.1&&(UU 1).contains s.2)
theorem zpb{s:Sp}:y6f s=true↔SpG 1 s:=by
 unfold y6f SpG
 simp only[ac,aw,dp]
inductive GM (g:Nat):Mg->Prop where
 | put (k v:B) (n:Int):k∈KU g->v∈values->GM g (y9q k v n)
 | del (k:B):k∈KU g->GM g (ymk k)
 | drop (s:Sp):SpG g s->GM g (zcx s)
 | move (e:B×B):e∈ends->GM g (mv 4 e)
 | clone (e:B×B):e∈ends->GM g (mv 5 e)
 | stamp (s:Sp) (n:Int):SpG g s->GM g (zl1 s n)
theorem GM.mono{g g':Nat}(h:g<=g'){m:Mg}(hm:GM g m):GM g' m:=by
 cases hm with
 | put k v n hk hv=>exact .put k v n (KU.mono h hk) hv
 | del k hk=>exact .del k (KU.mono h hk)
 | drop s hs=>exact .drop s (hs.mono h)
 | move e he=>exact .move e he
 | clone e he=>exact .clone e he
 | stamp s n hs=>exact .stamp s n (hs.mono h)
theorem yqv{pre post:B}{b:UInt8}:bt (pre++b::post) (pre.length:Int)=(b.toNat:Int):=by simp[bt]
theorem z61{p:B}(hp:p∈paths):U8 NN p=some (preB p):=by
 obtain⟨h1,h2⟩:=z9y hp
 generalize hq:p.dropLast=q at h1
 subst h1
 have hl:q.length<=4:=by simp at h2;omega
 obtain⟨k,hk⟩:∃k,NN=k+1:=⟨NN-1,by have:=V0;omega⟩
 have e1:(((q++[47]).length:Nat):Int)=(q.length:Int)+1:=by simp
 have e2:aa .i64 ((((q++[47]).length:Nat):Int)-1)=(q.length:Int):=by rw[e1,w64 (by omega) (by omega)];omega
 have e3:bt (q++[47]) (q.length:Int)=47:=by rw[yqv];rfl
 have h0:G9 NN NN (q++[47]) ((q++[47]).length:Int)=some ((q++[47],((),((q++[47]).length:Int))),((),())):=by
  rw[show G9 NN NN=G9 NN (k+1)from congrArg _ hk,zdw]
  simp only[z4s,e2,e3]
  rw[X2 (by simp<;>omega),gd_t (V8 (by omega) (by simp<;>omega)),Y3 (by decide)]
 simp only[U8,h0,e2,e3]
 rw[Y3 (G6 (by rw[e1];omega)),gd_t (by simp;omega),y99,gd_t (V8 (by omega) (by simp;omega))]
 have e4:zn8 [aa .u8 ((47:Int)+1)]=[48]:=by decide
 rw[e4,gd_p (by simp[maxS];omega)]
 simp[preB]
theorem zq9{g:Nat}(hg:g<1000000){k:B}(hk:k∈KU g):za2 NN k=some (k,k++[0]):=by
 have:=UU.len (UU.of hk)
 simp only[za2]
 rw[gd_p (by simp only[maxS,af,aq];omega)]
theorem yke{p:B}(hp:p∈paths):emptyB (preB p)=false:=by
 have h:(paths.all fun p=> !(emptyB (preB p)))=true:=by decide
 simpa using az.1 h p hp
theorem SpG.pre{p:B}(hp:p∈paths):SpG 1 (preB p):=by
 refine⟨yke hp, ?_⟩
 have:=UU.path hp
 exact this
theorem y47(k:B):emptyB (k,k++[0])=false:=full_iff.2 (.inr (by
 have:=zkl k [] [0]
 rw[ai]at this
 rw[this];rfl))
theorem SpG.one{g:Nat}{k:B}(hk:k∈KU g):SpG g (k,k++[0]):=⟨y47 _,UU.of hk,UU.succ hk⟩
theorem y31{k:B}(hk:k∈keys):k∈KU 1:=by
 have h:(keys.all fun k=>(KU 1).contains k)=true:=by decide+kernel
 simpa using az.1 h k hk
theorem yr3{k a b:B}{x:J2}{s:Z0}(hk:k∈keys)(he:(a,b)∈ends)(hs:y6f s=true)
  (h2:0<=x.2.2.1/\x.2.2.1<256) (h5:0<=x.2.2.2.2.2/\x.2.2.2.2.2<256) (h0:0<=x.1/\x.1<256):
  ∃r,z1a NN k a b x s=some r/\GM 1 r.2.1/\(aJ x.1 6=3->r.2.1.1=(4:Int)):=by
 obtain⟨v,hv,hvm⟩:=yjz h2.1 h2.2
 have hn:=yqc h5.1 (show(0:Int)<8 by decide)
 have hw:aa .i64 (aJ x.2.2.2.2.2 (8:Int))=aJ x.2.2.2.2.2 8:=w64 (by omega) (by omega)
 simp only[z1a,hv,hw]
 have no:∀{a:Int},a≠3->eqi (aJ x.1 6) a=true->aJ x.1 6=3->False:=fun h1 h2 h3=>h1 ((zxq.1 h2).symm.trans h3)
 cases q0:eqi (aJ x.1 6) 0
 case true=>exact⟨_,rfl, .put k v _ (y31 hk) hvm,fun h=>(no (by decide) q0 h).elim⟩
 cases q1:eqi (aJ x.1 6) 1
 case true=>exact⟨_,rfl, .del k (y31 hk),fun h=>(no (by decide) q1 h).elim⟩
 cases q2:eqi (aJ x.1 6) 2
 case true=>exact⟨_,rfl, .drop s (zpb.1 hs),fun h=>(no (by decide) q2 h).elim⟩
 cases q3:eqi (aJ x.1 6) 3
 case true=>exact⟨_,rfl, .move (a,b) he,fun _=>rfl⟩
 cases q4:eqi (aJ x.1 6) 4
 case true=>exact⟨_,rfl, .clone (a,b) he,fun h=>(no (by decide) q4 h).elim⟩
 exact⟨_,rfl, .stamp s _ (zpb.1 hs),fun h=>by rw[h]at q3;cases q3⟩
theorem yr4{k:B}{x:J2}{s:Z0}(hk:k∈keys)(hs:y6f s=true)
  (h0:0<=x.1/\x.1<256) (h1:0<=x.2.1/\x.2.1<256) (h2:0<=x.2.2.1/\x.2.2.1<256) (h3:0<=x.2.2.2.1/\x.2.2.2.1<256) (h5:0<=x.2.2.2.2.2/\x.2.2.2.2.2<256):
  ∃r,z1b NN k x s=some r/\GM 1 r.2.1/\(aJ x.1 6=3->r.2.1.1=(4:Int)):=by
 obtain⟨p,hp,hpm⟩:=y8u h1.1 h1.2
 obtain⟨q,hq,hqm⟩:=y8u h3.1 h3.2
 have hb:(paths.all fun p=>paths.all fun q=>okO (z0a NN p q) fun b=>okO (z0a NN q p) fun c=>
   bif b || c then ends.contains (p,bif eqs p [100,47]then[99,47]else[100,47])else ends.contains (p,q))=true:=by kernel_rfl
 obtain⟨b,hb1,hb⟩:=y49 (az.1 (az.1 hb p hpm) q hqm)
 obtain⟨c,hc1,hb⟩:=y49 hb
 have go:∀e:B,(p,e)∈ends->∃r,(match z1a NN k p e x s with
   | some r11=>(some ((),(r11.2.1,())))
   | none=>none)=some r/\GM 1 r.2.1/\(aJ x.1 6=3->r.2.1.1=(4:Int)):=by
  intro e he
  obtain⟨r,h1,h2⟩:=yr3 (s:=s) hk he hs h2 h5 h0
  exact⟨_,by rw[h1],h2⟩
 simp only[z1b,hp,hq,hb1,hc1]
 cases b<;>cases c<;>cases e:eqs p [100,47]<;>simp only[e,eh,da,dm,cond_true,cond_false,dp]at hb⊢<;>exact go _ hb
theorem yko{x0 x1 x2 x3 x4 x5:Int}(h0:0<=x0/\x0<256)(h1:0<=x1/\x1<256)(h2:0<=x2/\x2<256)(h3:0<=x3/\x3<256)(h4:0<=x4/\x4<256)(h5:0<=x5/\x5<256):
  ∃m,zdt NN ((x0,x1,x2,x3,x4,x5):Int×Int×Int×Int×Int×Int)=some m/\GM 1 m/\(aJ x0 6=3->m.1=(4:Int)):=by
 obtain⟨k,hk,hkm⟩:=ymh h1.1 h1.2
 obtain⟨l,hl,hlm⟩:=ymh h3.1 h3.2
 obtain⟨p,hp,hpm⟩:=y8u h1.1 h1.2
 have hkey:(keys.all fun k=>y6f (k,[]))=true:=by decide+kernel
 have hmm:(keys.all fun k=>keys.all fun l=>bif eqs k l then true else y6f (bif lts k l || eqs k l then k else l,bif !(lts k l)then k else l))=true:=by decide+kernel
 have hs:=z61 hpm
 have hso:=zpb.2 (SpG.pre hpm)
 have ho:=zq9 (g:=1) (by omega) (y31 hkm)
 have hoo:=zpb.2 (SpG.one (y31 hkm))
 have hke:=az.1 hkey k hkm
 have hml:=az.1 (az.1 hmm k hkm) l hlm
 have go:∀s:B×B,y6f s=true->∃m,(match z1b NN k (x0,x1,x2,x3,x4,x5) s with
   | some r17=>(some r17.2.1)
   | none=>none)=some m/\GM 1 m/\(aJ x0 6=3->m.1=(4:Int)):=by
  intro s h
  obtain⟨r,e1,e2⟩:=yr4 (x:=(x0,x1,x2,x3,x4,x5)) (s:=s) hkm h h0 h1 h2 h3 h5
  exact⟨r.2.1,by rw[e1],e2⟩
 simp only[zdt,hk,hl,hp,hs,ho]
 cases eqi (aJ x4 4) 0
 case true=>exact go _ hso
 cases eqi (aJ x4 16) 1
 case true=>exact go _ hke
 cases eqi (aJ x4 16) 5
 case true=>exact go _ (by decide)
 cases e:eqs k l
 case true=>exact go _ hoo
 rw[e]at hml
 exact go _ (by simpa[e] using hml)
theorem ykn{x:J2}(hx:okT g8 x):∃m,zdt NN x=some m/\GM 1 m/\(aJ x.1 6=3->m.1=(4:Int)):=
 yko (z6l hx.1) (z6l hx.2.1) (z6l hx.2.2.1) (z6l hx.2.2.2.1) (z6l hx.2.2.2.2.1) (z6l hx.2.2.2.2.2)
theorem yo6{x:J2}(hx:okT g8 x):∃m,zdt NN x=some m/\GM 1 m:=by
 obtain⟨m,h1,h2,_⟩:=ykn hx
 exact⟨m,h1,h2⟩
theorem yo8{xs:List (J2)}(hx:okT (.list g8) xs){k:Int}(hk:0<=k/\k<=24):
  ∃buf,zgc NN xs k=some buf/\(buf.length:Int)<=k/\∀m∈buf,GM 1 m:=by
 have hmem:∀i:Int,0<=i->i<(xs.length:Int)->okT g8 (rdL (α:=J2) xs i zzk):=by
  intro i h0 h1
  obtain⟨h,e⟩:=yp7 xs i _ h0 h1
  rw[e]
  exact hx.2 i.toNat _ (aI h)
 have hl:(xs.length:Int)<=140737488351232:=by
  have:xs.length*6<=0x7ffffffff000:=hx.1
  omega
 have loop:=ycp (A:=((((List (J2))×(Int×(Unit×Int)))×((List (Z1))×Unit)))) (R:=(Unit×((List (Z1))×Unit)))
  (f:=fun rec v=>q9 NN (fun b0 b1 b2 b3=>rec ((b0,(b1,((),b2))),(b3,()))) v.1.1 v.1.2.1 v.1.2.2.2 v.2.1)
  (fun v=>v.1.1=xs/\v.1.2.1=k/\0<=v.1.2.2.2/\v.1.2.2.2<=k/\(v.2.1.length:Int)=v.1.2.2.2/\∀m∈v.2.1,GM 1 m)
  (fun r=>(r.2.1.length:Int)<=k/\∀m∈r.2.1,GM 1 m) (fun v=>(k-v.1.2.2.2).toNat)
  (by
   rintro rec ⟨⟨b0,b1,u,i⟩,out,_⟩ ⟨rfl,rfl,h3,h4,h5,h6⟩ ih
   simp only at h3 h4 h5 h6 hl hk hmem
   simp only[q9]
   cases e1:decide (i<(b0.length:Int))
   ·exact⟨_,rfl,by simp only;omega,h6⟩
   cases e2:decide (i<b1)
   ·exact⟨_,rfl,by simp only;omega,h6⟩
   have e1:=of_decide_eq_true e1
   have e2:=of_decide_eq_true e2
   obtain⟨m,hm,gm⟩:=yo6 (hmem i h3 e1)
   simp only[cond_true]
   rw[gd_t (V8 h3 e1),hm]
   simp only
   rw[gd_t (yff (by simp only[maxB];omega) (by simp only[maxB];omega)),w64 (by omega) (by omega)]
   exact ih ((b0,b1,(),i+1),out++[m],()) ⟨rfl,rfl,by simp only;omega,by simp only;omega,by simp;omega,fun m' hm'=>by
    rcases ak.1 hm' with h | h
    ·exact h6 _ h
    ·simp at h;subst h;exact gm⟩ (by simp only;omega))
  NN ((xs,k,(),0),[],()) ⟨rfl,rfl,eX _,hk.1,rfl,fun m h=>by simp at h⟩ (by have:=V0;simp only;omega)
 obtain⟨r,h1,h2⟩:=loop
 have h1:z7j NN NN xs k 0 []=some r:=(congrFun (y4h (A:=((List J2)×(Int×(Unit×Int)))×((List Z1)×Unit)) (T:=Unit×((List Z1)×Unit)) (Φ:=List J2->Int->Int->List Z1->Option (Unit×((List Z1)×Unit))) (G:=q9 NN) (app:=fun f v=>f v.1.1 v.1.2.1 v.1.2.2.2 v.2.1)
  (cur:=fun r b0 b1 b2 b3=>r ((b0,(b1,((),b2))),(b3,()))) (fun _=>rfl) (fun _ _=>rfl) NN) ((xs,k,(),0),[],())).symm.trans h1
 exact⟨r.2.1,by simp only[zgc,h1],h2⟩
def wr(m:Mg):List Sp:=bif eqi m.1 1 || eqi m.1 2 then[(m.2.1,m.2.1++[0])]else bif eqi m.1 4 then[preB m.2.2.2.2.1,preB m.2.2.2.2.2.1]else bif eqi m.1 5 then[preB m.2.2.2.2.2.1]else[m.2.2.2.1]
def rds(m:Mg):List Sp:=bif eqi m.1 4 || eqi m.1 5 then[preB m.2.2.2.2.1]else bif eqi m.1 6 then[m.2.2.2.1]else[]
def kls(m:Mg):List Sp:=bif eqi m.1 6 then[]else wr m
def touchB(l m:List Sp):Bool:=l.any fun a=>m.any fun b=> !(emptyB (w5 a b))
theorem z7m{g:Nat}(hg:g<1000000){m:Mg}(hm:GM g m):J7 NN m=some (wr m):=by
 cases hm with
 | put k v n hk hv=>simp only[J7,K9,cond_true,zq9 hg hk];rfl
 | del k hk=>simp only[J7,show eqi (2:Int) 1=false by decide,K9,cond_true,cond_false,zq9 hg hk];rfl
 | drop s hs=>rfl
 | move e he=>simp only[J7,show eqi (4:Int) 1=false by decide,show eqi (4:Int) 2=false by decide,K9,cond_true,cond_false,z61 (Q9 he).1,z61 (Q9 he).2];rfl
 | clone e he=>simp only[J7,show eqi (5:Int) 1=false by decide,show eqi (5:Int) 2=false by decide,show eqi (5:Int) 4=false by decide,K9,cond_true,cond_false,z61 (Q9 he).2];rfl
 | stamp s n hs=>rfl
theorem zpi{g:Nat}{m:Mg}(hm:GM g m):z6t NN m=some (rds m):=by
 cases hm with
 | put k v n hk hv=>rfl
 | del k hk=>rfl
 | drop s hs=>rfl
 | move e he=>simp only[z6t,K9,cond_true,z61 (Q9 he).1];rfl
 | clone e he=>simp only[z6t,show eqi (5:Int) 4=false by decide,K9,cond_true,cond_false,z61 (Q9 he).1];rfl
 | stamp s n hs=>rfl
theorem yhu{g:Nat}(hg:g<1000000){m:Mg}(hm:GM g m):zja NN m=some (kls m):=by
 simp only[zja,z7m hg hm,kls]
 cases eqi m.1 6<;>rfl
theorem y26(m:Mg):(wr m).length<=2/\(rds m).length<=1/\(kls m).length<=2:=by
 unfold kls wr rds
 cases eqi m.1 1<;>cases eqi m.1 2<;>cases eqi m.1 4<;>cases eqi m.1 5<;>cases eqi m.1 6<;>simp
theorem wr_G{g:Nat}{m:Mg}(hm:GM g m)(h1:1<=g):(∀s∈wr m,SpG g s)/\∀s∈rds m,SpG g s:=by
 have one:∀{k:B},k∈KU g->SpG g (k,k++[0]):=fun hk=>⟨y47 _,UU.of hk,UU.succ hk⟩
 have pr:∀{p:B},p∈paths->SpG g (preB p):=fun hp=>(SpG.pre hp).mono h1
 cases hm with
 | put k v n hk hv=>exact⟨fun s hs=>by simp[wr,eqi]at hs;rw[hs];exact one hk,fun s hs=>by simp[rds,eqi]at hs⟩
 | del k hk=>exact⟨fun s hs=>by simp[wr,eqi]at hs;rw[hs];exact one hk,fun s hs=>by simp[rds,eqi]at hs⟩
 | drop s hs=>exact⟨fun x hx=>by simp[wr,eqi]at hx;rw[hx];exact hs,fun s hs=>by simp[rds,eqi]at hs⟩
 | move e he=>exact⟨fun s hs=>by simp[wr,eqi]at hs;rcases hs with rfl | rfl;exact pr (Q9 he).1;exact pr (Q9 he).2,fun s hs=>by simp[rds,eqi]at hs;rw[hs];exact pr (Q9 he).1⟩
 | clone e he=>exact⟨fun s hs=>by simp[wr,eqi]at hs;rw[hs];exact pr (Q9 he).2,fun s hs=>by simp[rds,eqi]at hs;rw[hs];exact pr (Q9 he).1⟩
 | stamp s n hs=>exact⟨fun x hx=>by simp[wr,eqi]at hx;rw[hx];exact hs,fun x hx=>by simp[rds,eqi]at hx;rw[hx];exact hs⟩
theorem yb9{l m:List Sp}{i:Int}{q:Sp}(hi:inB i l.length=true)(hq:rdL l i Y8=q)(hl:l.length<100000000):∀(post pre:List Sp) (n:Nat),m=pre++post->post.length<n->m.length<100000000->
  z8t NN n l m i (pre.length:Int)=some (bif post.any fun b=> !(emptyB (w5 q b))then .inl (true,())else .inr ((l,(m,i)),()))
 | _,_,0,_,h,_=>absurd h (ag _)
 | [],pre,n+1,hm,_,_=>by
  have e:decide ((pre.length:Int)<(m.length:Int))=false:=by rw[hm];simp
  rw[zfj]
  simp only[z2p,e,cond_false,List.any_nil]
 | r::post,pre,n+1,hm,hn,hl'=>by
  simp only[af]at hn
  have hb:pre.length<9223372036854775807:=by rw[hm]at hl';simp at hl';omega
  have ih:=yb9 (m:=m) hi hq hl post (pre++[r]) n (by rw[hm];simp) (by omega) hl'
  rw[zfj]
  simp only[z2p]
  have e1:decide ((pre.length:Int)<(m.length:Int))=true:=by rw[hm];exact Q1
  have e2:inB (pre.length:Int) m.length=true:=by rw[hm];exact V6
  have e3:rdL m (pre.length:Int) Y8=r:=by rw[hm];exact U4
  simp only[e1,e2,e3,hq,cond_true,zl3,z3g]
  rw[gd_t hi,gd_t rfl,V1 (q:=r) hb,ih]
  cases e:emptyB (w5 q r)<;>simp[e]
theorem yba{m:List Sp}(hm:m.length<100000000):∀(post pre:List Sp) (n:Nat),post.length<n->(pre++post).length<100000000->
  z8u NN n (pre++post) m (pre.length:Int)=some (bif touchB post m then .inl (true,())else .inr ((),()))
 | _,_,0,h,_=>absurd h (ag _)
 | [],pre,n+1,_,_=>by
  rw[zfk]
  simp only[z2q,ai,aA,decide_false,cond_false]
  rfl
 | q::post,pre,n+1,hn,hl=>by
  simp only[af]at hn
  have hb:pre.length<9223372036854775807:=by simp at hl;omega
  have et:touchB (q::post) m=((m.any fun b=> !(emptyB (w5 q b))) || touchB post m):=by simp[touchB]
  have h1:=yb9 (l:=pre++q::post) (m:=m) (i:=(pre.length:Int)) (q:=q) V6 U4 (by omega) m [] NN rfl (by have:=V0;omega) (by omega)
  have hz:(([]:List Sp).length:Int)=0:=rfl
  rw[hz]at h1
  rw[zfk]
  simp only[z2q,Q1,cond_true,h1,et]
  cases e:(m.any fun b=> !(emptyB (w5 q b)))
  ·simp only[cond_false,cD]
   rw[V1 (q:=q) hb,U1 (pre:=pre) (q:=q) (post:=post)]
   exact yba hm post (pre++[q]) n (by omega) (by simpa using hl)
  ·rfl
theorem zp5{l m:List Sp}(hl:l.length<100000000)(hm:m.length<100000000):z98 NN l m=some (touchB l m):=by
 have h:=yba hm l [] NN (by have:=V0;omega) (by simp;omega)
 have hz:(([]:List Sp).length:Int)=0:=rfl
 simp only[aj,hz]at h
 simp only[z98,h]
 cases touchB l m<;>rfl
theorem y6v{m:Mg}{e:B×B}(hm1:m.2.2.2.2.1=e.1)(hm2:m.2.2.2.2.2.1=e.2)(he:e∈ends){out src:List Pr}(ho:Srt out)(hn:out.length+src.length<90000000)(hs:∀x∈src,x.1.length<1000000000/\e.1.isPrefixOf x.1=true):
  z4d NN NN (0:Int) m out src=some ((),(uniT out (src.map fun x=>(e.2++x.1.drop e.1.length,x.2)),())):=by
 have e2:=(z9y (Q9 he).2).2
 have h:=y9j (xs:=src) (L:=fun n i s=>z4d NN n i m s src) (fun t x=>insT (e.2++x.1.drop e.1.length,x.2) t) (fun s=>((),(s,()))) (fun s post=>Srt s/\s.length+post.length<=out.length+src.length/\∀x∈post,x.1.length<1000000000/\e.1.isPrefixOf x.1=true)
  (fun n s _=>by
   rw[zfm]
   simp only[z2s,aA,decide_false,cond_false])
  (fun n pre x post s hx hi=>by
   have hb:pre.length<9223372036854775807:=by rw[hx]at hn;simp at hn;omega
   obtain⟨h1,h2,h3⟩:=hi
   simp only[af]at h2
   obtain⟨x1,x2⟩:=h3 x (by simp)
   have hin:=ycq (e.2++x.1.drop e.1.length,x.2) s
   have hbl:=congrArg ap hx
   have hm:=yht NN x.1 e.1 e.2 (by omega) (by omega)
   rw[x2,cond_true]at hm
   rw[zfm]
   rw[hx]
   simp only[z2s,Q1,V6,cond_true,U4,hm1,hm2,hm,y84 NN (e.2++x.1.drop e.1.length,x.2) h1 (show s.length<NN by have:=V0;omega) (by omega)]
   rw[gd_t rfl,gd_t rfl,gd_t rfl,V1 (q:=x) hb]
   exact⟨rfl,h1.insT _,by omega,fun y hy=>h3 y (by simp[hy])⟩)
  (by have:=V0;omega) (show Srt out/\out.length+src.length<=out.length+src.length/\_ from⟨ho,al _,hs⟩) (n:=NN)
 rw[h]
 unfold uniT
 rw[List.foldl_map]
structure Tb (g:Nat) (t:List Pr):Prop where
 srt:Srt t
 key:∀p∈t,p.1∈KU g/\p.2.1∈values
theorem Srt.nodup{t:List Pr}(h:Srt t):(t.map (·.1)).Nodup:=by
 rw[fh,cS]
 exact h.imp fun h=>zfy h
theorem Tb.len{g:Nat}{t:List Pr}(h:Tb g t):t.length<=20*(g+1):=by
 have:=zft h.srt.nodup (L:=KU g) (fun x hx=>by obtain⟨p,hp,rfl⟩:=aH.1 hx;exact(h.key p hp).1)
 rw[KU.length]at this
 simpa using this
theorem Tb.mono{g g':Nat}(h:g<=g'){t:List Pr}(ht:Tb g t):Tb g' t:=⟨ht.srt,fun p hp=>⟨KU.mono h (ht.key p hp).1,(ht.key p hp).2⟩⟩
theorem Tb.filter{g:Nat}{t:List Pr}(h:Tb g t)(f:Pr->Bool):Tb g (t.filter f):=⟨h.srt.filter f,fun p hp=>h.key p (aB.1 hp).1⟩
theorem Tb.uni{g:Nat}{a b:List Pr}(h:Tb g a)(hb:∀p∈b,p.1∈KU g/\p.2.1∈values):Tb g (uniT a b):=by
 unfold uniT
 induction b generalizing a with
 | nil=>exact h
 | cons p b ih=>
  rw[aX]
  refine ih ⟨h.srt.insT p,fun x hx=> ?_⟩ fun x hx=>hb x (by simp[hx])
  rcases insT_mem hx with rfl | hx
  ·exact hb _ (by simp)
  ·exact h.key x hx
def mvs(m:Mg):Nat:=if m.1=4\/m.1=5 then 1 else 0
theorem ypg{g:Nat}{t:List Pr}(h:Tb g t){e:B×B}(he:e∈ends):∀p∈mvd e.1 e.2 t,p.1∈KU (g+1)/\p.2.1∈values:=by
 intro p hp
 unfold mvd at hp
 obtain⟨x,hx,rfl⟩:=aH.1 hp
 obtain⟨h1,h2⟩:=aB.1 hx
 exact⟨KU.move (Q9 he).1 (Q9 he).2 (h.key x h1).1 h2,(h.key x h1).2⟩
theorem yfk{g:Nat}{t:List Pr}(h:Tb g t){m:Mg}(hm:GM g m):Tb (g+mvs m) (app m t):=by
 cases hm with
 | put k v n hk hv=>
  refine Tb.mono (bY _ _) (⟨h.srt.insT (k,v,n),fun x hx=> ?_⟩:Tb g (insT (k,v,n) t))
  rcases insT_mem hx with rfl | hx
  ·exact⟨hk,hv⟩
  ·exact h.key x hx
 | del k hk=>exact(h.filter _).mono (bY _ _)
 | drop s hs=>exact(h.filter _).mono (bY _ _)
 | move e he=>exact(((h.filter fun p=> !(hasB (preB e.2) p.1)).mono (eY g)).uni (ypg h he)).filter _
 | clone e he=>exact((h.filter fun p=> !(hasB (preB e.2) p.1)).mono (eY g)).uni (ypg h he)
 | stamp s n hs=>
  refine Tb.mono (bY _ _) (⟨h.srt.map (fun p=>by unfold stp;cases hasB s p.1<;>rfl),fun x hx=> ?_⟩:Tb g (t.map (stp s n)))
  obtain⟨y,hy,rfl⟩:=aH.1 hx
  have:=h.key y hy
  unfold stp
  cases hasB s y.1
  ·exact this
  ·exact this
theorem y6y{g:Nat}(hg:g<1000000){t:List Pr}(h:Tb g t){m:Mg}(hm:GM g m):z3h NN t m=some (app m t):=by
 have hl:=h.len
 have hN:=V0
 have wo:=fun(t:List Pr) (ht:t.length<100000000) (s:Sp)=>yey NN t [s] (by omega) (by simp;omega) (by simp only[Big];omega) (by simp[Big])
 have wi:=fun s:Sp=>yiv NN t [s] (by omega) (by simp;omega) (by simp only[Big];omega) (by simp[Big])
 simp only[in1]at wo wi
 cases hm with
 | put k v x hk hv=>
  simp only[z3h,K9,cond_true,y84 NN (k,v,x) h.srt (by omega) (by omega)]
  rfl
 | del k hk=>
  simp only[z3h,show eqi (2:Int) 1=false by decide,K9,cond_true,cond_false,zq9 hg hk,wo t (by omega)]
  rfl
 | drop s hs=>
  simp only[z3h,show eqi (3:Int) 1=false by decide,show eqi (3:Int) 2=false by decide,K9,cond_true,cond_false,wo t (by omega)]
  rfl
 | stamp s x hs=>
  have hp:=y6s NN (zl1 s x) t [] NN (by omega) (by simp only[aj];omega)
  have hz:(([]:List Pr).length:Int)=0:=rfl
  simp only[aj,hz]at hp
  simp only[z3h,show eqi (6:Int) 1=false by decide,show eqi (6:Int) 2=false by decide,show eqi (6:Int) 3=false by decide,K9,cond_true,cond_false]
  rw[gd_t (Y4 (by omega) (by omega))]
  simp only[aj,hp]
  rfl
 | move e he=>
  obtain⟨h1,h2⟩:=Q9 he
  have a1:=h.filter fun p=> !(hasB (preB e.2) p.1)
  have a2:=a1.filter fun p=> !(hasB (preB e.1) p.1)
  have l1:=a1.len
  have l2:=a2.len
  have es:t.filter (fun p=>hasB (preB e.1) p.1)=t.filter (fun x=>e.1.isPrefixOf x.1):=dW fun x _=>z6n h1 x.1
  have hsl:(t.filter (fun x=>e.1.isPrefixOf x.1)).length<=t.length:=cb _ _
  have hm:=y6v (m:=mv 4 e) rfl rfl he a2.srt (src:=t.filter (fun x=>e.1.isPrefixOf x.1)) (by omega) (fun x hx=>⟨by have:=UU.len (UU.of (h.key x (aB.1 hx).1).1);omega,(aB.1 hx).2⟩)
  simp only[z3h,show eqi (4:Int) 1=false by decide,show eqi (4:Int) 2=false by decide,show eqi (4:Int) 3=false by decide,show eqi (4:Int) 6=false by decide,K9,cond_true,cond_false,z61 h2,z61 h1,wo t (by omega),wi,wo (t.filter fun p=> !(hasB (preB e.2) p.1)) (by omega),es,hm]
  refine congrArg some (Srt.ext (yb7 _ a2.srt) ((yb7 _ a1.srt).filter _) fun k=> ?_)
  have hms:=h.srt.mvd e.1 e.2
  show fnd (uniT ((t.filter fun p=> !(hasB (preB e.2) p.1)).filter fun p=> !(hasB (preB e.1) p.1)) (mvd e.1 e.2 t)) k=fnd ((uniT (t.filter fun p=> !(hasB (preB e.2) p.1)) (mvd e.1 e.2 t)).filter (fun p=> !(hasB (preB e.1) p.1))) k
  rw[yb8 hms,zmk (fun x=> !(hasB (preB e.1) x)),zmk (fun x=> !(hasB (preB e.1) x)),yb8 hms,yoe,z6n h1]
  cases q1:e.1.isPrefixOf k
  ·simp only[aO,cond_true]
  ·rw[yej he k q1];rfl
 | clone e he=>
  obtain⟨h1,h2⟩:=Q9 he
  have a1:=h.filter fun p=> !(hasB (preB e.2) p.1)
  have l1:=a1.len
  have es:t.filter (fun p=>hasB (preB e.1) p.1)=t.filter (fun x=>e.1.isPrefixOf x.1):=dW fun x _=>z6n h1 x.1
  have hsl:(t.filter (fun x=>e.1.isPrefixOf x.1)).length<=t.length:=cb _ _
  have hm:=y6v (m:=mv 5 e) rfl rfl he a1.srt (src:=t.filter (fun x=>e.1.isPrefixOf x.1)) (by omega) (fun x hx=>⟨by have:=UU.len (UU.of (h.key x (aB.1 hx).1).1);omega,(aB.1 hx).2⟩)
  simp only[z3h,show eqi (5:Int) 1=false by decide,show eqi (5:Int) 2=false by decide,show eqi (5:Int) 3=false by decide,show eqi (5:Int) 6=false by decide,show eqi (5:Int) 4=false by decide,cond_false,z61 h2,z61 h1,wo t (by omega),wi,es,hm]
  rfl
def mvN(l:List Mg):Nat:=(l.map mvs).sum
theorem z7o(a b:List Mg):mvN (a++b)=mvN a+mvN b:=by simp[mvN]
theorem y9e:∀{ms:List Mg} {g:Nat} {t:List Pr},Tb g t->(∀m∈ms,GM g m)->Tb (g+mvN ms) (apps ms t)
 | [],_,_,h,_=>h
 | m::ms,g,t,h,hm=>by
  have:=y9e (ms:=ms) (yfk h (hm m (by simp))) (fun x hx=>(hm x (by simp[hx])).mono (bY _ _))
  have e:g+mvs m+mvN ms=g+mvN (m::ms):=by simp[mvN];omega
  rw[e]at this
  exact this
theorem yg9:∀(post pre:List Mg) (n g:Nat) (t:List Pr),post.length<n->Big (pre++post).length->(∀m∈post,GM g m)->Tb g t->g+mvN post<1000000->
  zci NN n t (pre++post) (pre.length:Int)=some (apps post t,())
 | _,_,0,_,_,h,_,_,_,_=>absurd h (ag _)
 | [],pre,n+1,g,t,_,_,_,_,_=>by
  rw[zj0]
  simp only[z5a,ai,aA,decide_false,cond_false]
  rfl
 | m::post,pre,n+1,g,t,hn,hl,hg,ho,hb=>by
  simp only[af]at hn
  have hl':pre.length<9223372036854775807:=by simp[Big]at hl;omega
  have e:mvN (m::post)=mvs m+mvN post:=by simp[mvN]
  have a1:=y6y (by omega) ho (hg m (by simp))
  rw[zj0]
  simp only[z5a,Q1,V6,cond_true,U4,a1]
  rw[gd_t rfl,V1 (q:=m) hl',U1,yg9 post (pre++[m]) n (g+mvs m) _ (by omega) (by simpa using hl) (fun x hx=>(hg x (by simp[hx])).mono (bY _ _)) (yfk ho (hg m (by simp))) (by omega)]
  rfl
theorem yg8{ms:List Mg}{g:Nat}{t:List Pr}(hn:Big ms.length)(hm:∀m∈ms,GM g m)(ho:Tb g t)(hb:g+mvN ms<1000000):zkv NN t ms=some (apps ms t):=by
 have h:=yg9 ms [] NN g t (by have:=V0;simp only[Big]at hn;omega) (by simpa using hn) hm ho hb
 have hz:(([]:List Mg).length:Int)=0:=rfl
 simp only[aj,hz]at h
 simp only[zkv,h]
theorem ymf(p r:B):lts (p++r) p=false:=by
 have:=zkl p r []
 rw[ai]at this
 rw[this,zmz]
def zqd(s:Sp)(p q:B):Sp:=(q++s.1.drop p.length,bif p.isPrefixOf s.2 then q++s.2.drop p.length else(preB q).2)
theorem y8v{p:B}(hp:p∈paths):p≠[]:=by rintro rfl;simp[paths]at hp
theorem yj3{s:Sp}{p q:B}(hp:p∈paths)(hq:q∈paths)(h1:p.isPrefixOf s.1=true)(l1:s.1.length<1000000)(l2:s.2.length<1000000):zj8 NN s p q=some (zqd s p q):=by
 have hl:=(aP.1 h1).length_le
 have hq4:=(z9y hq).2
 have hz:∀b:Bool,(bif b then(bif !(eqs s.2 [])then some 1 else none)else none:Option Nat)=none\/True:=fun _=> .inr trivial
 simp only[zj8,z61 hq,ab,zsg]
 rw[gd_t (by simp;omega),zp4,gd_p (by simp only[maxS,aZ];omega)]
 unfold zqd
 cases e:p.isPrefixOf s.2
 ·rfl
 ·have hl2:=(aP.1 e).length_le
  have hne:eqs s.2 []=false:=zht fun h=>by
   rw[h]at hl2
   exact y8v hp (bN.1 (by simpa using hl2))
  rw[cond_true,hne,X2 (by rfl),gd_t (by simp;omega),zp4,gd_p (by simp only[maxS,aZ];omega)]
  rfl
theorem yi7{s:Sp}{p q:B}(hp:p∈paths)(hq:q∈paths)(hs:emptyB s=false)(h1:p.isPrefixOf s.1=true){k:B}(hk:hasB (zqd s p q) k=true):q.isPrefixOf k=true/\hasB s (p++k.drop q.length)=true:=by
 obtain⟨r,hr⟩:=aP.1 h1
 have hd:s.1.drop p.length=r:=by rw[<-hr,cY]
 unfold zqd at hk
 rw[hd,U5]at hk
 simp only[belowB,ac,aw,ay]at hk
 obtain⟨k1,k2⟩:=hk
 have hqk:lts k q=false:=zvv (ymf q r) k1
 have hpre:q.isPrefixOf k=true:=by
  rw[<-z6n hq,U5,show(preB q).1=q from rfl,hqk]
  simp only[aO,bp,belowB,ay]
  refine .inr ?_
  cases e:p.isPrefixOf s.2
  ·rw[e,cond_false]at k2
   rcases k2 with k2 | k2
   ·have h:(paths.all fun q=> !(eqs (preB q).2 []))=true:=by decide
    have:=az.1 h q hq
    rw[k2]at this;cases this
   ·exact k2
  ·rw[e,cond_true]at k2
   have hb:hasB (preB q) (q++s.2.drop p.length)=true:=by rw[z6n hq];exact zmx _ _
   rw[U5]at hb
   simp only[belowB,ac,ay]at hb
   rcases k2 with k2 | k2
   ·have:=J6.1 k2
    simp only[dh]at this
    exact absurd this.1 (y8v hq)
   ·rcases hb.2 with h | h
    ·have h':(paths.all fun q=> !(eqs (preB q).2 []))=true:=by decide
     have:=az.1 h' q hq
     rw[h]at this;cases this
    ·exact J8 k2 h
 refine⟨hpre, ?_⟩
 obtain⟨t,rfl⟩:=aP.1 hpre
 rw[cY]
 rw[zkl]at k1
 rw[U5,<-hr,zkl,k1]
 simp only[aO,bp,belowB,ay]
 cases e:p.isPrefixOf s.2
 ·rcases full_iff.1 hs with h | h
  ·exact .inl (by rw[h];rfl)
  ·refine .inr ?_
   have h2:lts s.2 p=false:=by
    refine z0p ?_
    rw[<-hr]at h
    exact y9u (ymf p r) h
   have h3:hasB (preB p) s.2=false:=by rw[z6n hp];exact e
   rw[U5,show(preB p).1=p from rfl,h2]at h3
   simp only[aO,bp,belowB,cU]at h3
   have hb:hasB (preB p) (p++t)=true:=by rw[z6n hp];exact zmx _ _
   rw[U5]at hb
   simp only[belowB,ac,ay]at hb
   rcases hb.2 with h4 | h4
   ·rw[h3.1]at h4;cases h4
   ·exact zl4 h4 h3.2
 ·obtain⟨r2,hr2⟩:=aP.1 e
  rw[e,cond_true,<-hr2,cY,zkl]at k2
  rw[<-hr2,zkl]
  rcases k2 with k2 | k2
  ·have:=J6.1 k2
   simp only[dh]at this
   exact absurd this.1 (y8v hq)
  ·exact .inr k2
theorem yo2{s:Sp}{p q:B}{e:Nat}(hp:p∈paths)(hq:q∈paths)(hs:SpG e s)(h1:p.isPrefixOf s.1=true):(zqd s p q).1∈UU (e+1)/\(zqd s p q).2∈UU (e+1):=by
 refine⟨UU.move hp hq hs.2.1 h1, ?_⟩
 unfold zqd
 cases h:p.isPrefixOf s.2
 ·exact UU.mono (by omega) (UU.path hq).2
 ·exact UU.move hp hq hs.2.2 h
def zk2(l:List Sp)(p q:B):List Sp:=(l.filter fun s=> !(emptyB (w5 s (preB p)))).map fun s=>zqd (w5 s (preB p)) p q
theorem y4c{s:Sp}{p:B}(hp:p∈paths)(h:emptyB (w5 s (preB p))=false):p.isPrefixOf (w5 s (preB p)).1=true:=by
 have:=zqg h
 rw[zcu]at this
 simp only[ac]at this
 rw[<-z6n hp];exact this.2
theorem y68{s x:Sp}{e:Nat}(hs:SpG e s)(hx:SpG e x)(h:emptyB (w5 s x)=false):SpG e (w5 s x):=by
 obtain⟨h1,h2⟩:=y4d s x h
 exact⟨h,by rcases h1 with h1 | h1<;>rw[h1]<;>first | exact hs.2.1 | exact hx.2.1,by rcases h2 with h2 | h2<;>rw[h2]<;>first | exact hs.2.2 | exact hx.2.2⟩
theorem yly{m:Mg}{p q:B}(hp:p∈paths)(hq:q∈paths)(hm1:m.2.2.2.2.2.1=p)(hm2:m.2.2.2.2.1=q){e:Nat}(he:e<50000)(h1:1<=e):∀(post pre out:List Sp) (n:Nat),post.length<n->(pre++post).length<100000000->out.length+post.length<100000000->(∀s∈post,SpG e s)->
  z0u NN n (pre++post) (pre.length:Int) m (preB p) out=some ((),(out++zk2 post p q,()))
 | _,_,_,0,h,_,_,_=>absurd h (ag _)
 | [],pre,out,n+1,_,_,_,_=>by
  rw[zcr]
  simp only[z0l,ai,aA,decide_false,cond_false]
  simp[zk2]
 | s::post,pre,out,n+1,hn,hl,ho,hs=>by
  simp only[af]at hn ho
  have hb:pre.length<9223372036854775807:=by simp at hl;omega
  have ih:=fun out (h:out.length+post.length<100000000)=>yly hp hq hm1 hm2 he h1 post (pre++[s]) out n (by omega) (by simpa using hl) h fun x hx=>hs x (by simp[hx])
  rw[zcr]
  simp only[z0l,Q1,V6,cond_true,U4,zl3,z3g,ab]
  rw[gd_t rfl]
  cases e1:emptyB (w5 s (preB p))
  ·have hG:=y68 (hs s (by simp)) ((SpG.pre hp).mono h1) e1
   have l1:=UU.len hG.2.1
   have l2:=UU.len hG.2.2
   rw[X2 (by rfl),hm1,hm2,yj3 hp hq (y4c hp e1) (by omega) (by omega)]
   simp only[ab]
   rw[gd_t (Y4 (by omega) (by omega)),V1 (q:=s) hb,U1 (pre:=pre) (q:=s) (post:=post),ih _ (by simp;omega)]
   simp[zk2,e1]
  ·rw[Y3 (by rfl),V1 (q:=s) hb,U1 (pre:=pre) (q:=s) (post:=post),ih _ (by omega)]
   simp[zk2,e1]
structure Thr (e h:Nat) (l r:List Sp) (c:Nat):Prop where
 sep:Sep r
 g:∀s∈r,SpG (e+c) s
 wt:wt (h-c) (inS r)<=wt h (inS l)
theorem SpG.len{l:List Sp}{e:Nat}(hs:Sep l)(hg:∀s∈l,SpG e s):l.length<=5+48*(e+1):=by
 have:=hs.len (E:=UU e) fun s h=>(hg s h).2.1
 rwa [UU.length]at this
theorem y78{e h:Nat}{l x:List Sp}(he:e<40000)(hx:x.length<=2)(hs:Sep l)(hg:∀s∈l,SpG e s)(hxg:∀s∈x,SpG e s):∃r,K6 NN l x=some r/\(∀k,inS r k=(inS l k&& !(inS x k)))/\r.length<=l.length*2^x.length/\Sep r/\∀s∈r,SpG e s:=by
 have hl:=SpG.len hs hg
 have hp:2^x.length<=4:=by
  have:x.length=0\/x.length=1\/x.length=2:=by omega
  rcases this with h | h | h<;>rw[h]<;>decide
 have hm:l.length*2^x.length<=l.length*4:=ba _ hp
 obtain⟨r,r1,r2,r3,r4,r5⟩:=y3o (l:=l) (m:=x) (E:=UU e) (fun s h=>(hxg s h).2) (UU.nil e) (fun s h _=>(hg s h).2) (by omega) (by omega)
 exact⟨r,r1,r2,r3,r4,fun s h=>⟨r4.full s h,r5 s h⟩⟩
theorem ydt{e h g:Nat}(he:e<40000)(h1:1<=g)(hge:g<=e){l:List Sp}{m:Mg}(hm:GM g m)(hs:Sep l)(hg:∀s∈l,SpG e s)(hh:1<=h):∃r,z3c NN l m=some r/\Thr e h l r (mvs m):=by
 have one:∀x:List Sp,x.length<=2->(∀s∈x,SpG e s)->∃r,K6 NN l x=some r/\Thr e h l r 0:=fun x hx hxg=>by
  obtain⟨r,r1,r2,r3,r4,r5⟩:=y78 he hx hs hg hxg (h:=h)
  exact⟨r,r1,r4,r5,zkh fun a ha=>by rw[r2]at ha;simp at ha;exact ha.1⟩
 have big:∀(x:List Sp) (ed:B×B),ed∈ends->mvs m=1->m.2.2.2.2.1=ed.1->m.2.2.2.2.2.1=ed.2->x.length<=2->(∀s∈x,SpG e s)->(∀k,ed.2.isPrefixOf k=true->inS x k=true)->
   ∃r1 r2 r3,K6 NN l x=some r1/\z0u NN NN l (0:Int) m (preB ed.2) r1=some ((),(r2,()))/\z1e NN r2=some r3/\Thr e h l r3 (mvs m):=fun x ed hed hmv em1 em2 hx hxg hto=>by
  obtain⟨p1,p2⟩:=Q9 hed
  obtain⟨r,r1,r2,r3,r4,r5⟩:=y78 he hx hs hg hxg (h:=h)
  have hl:=SpG.len hs hg
  have hrl:=SpG.len r4 r5
  have h0:=yly p2 p1 em2 em1 (e:=e) (by omega) (by omega) l [] r NN (by have:=V0;omega) (by simp;omega) (by omega) hg
  have hz:(([]:List Sp).length:Int)=0:=rfl
  simp only[aj,hz]at h0
  have hml:(zk2 l ed.2 ed.1).length<=l.length:=by unfold zk2;rw[bX];exact cb _ _
  obtain⟨t,t1,t2,t3,t4,t5⟩:=zea NN (l:=r++zk2 l ed.2 ed.1) (by have:=V0;simp;omega) (by simp;omega)
  have mg:∀s∈zk2 l ed.2 ed.1,s.1∈UU (e+1)/\s.2∈UU (e+1):=fun s hs'=>by
   unfold zk2 at hs'
   obtain⟨y,hy,rfl⟩:=aH.1 hs'
   obtain⟨y1,y2⟩:=aB.1 hy
   have y2:emptyB (w5 y (preB ed.2))=false:=by simpa using y2
   exact yo2 p2 p1 (y68 (hg y y1) ((SpG.pre p2).mono (by omega)) y2) (y4c p2 y2)
  have all:∀s∈r++zk2 l ed.2 ed.1,s.1∈UU (e+1)/\s.2∈UU (e+1):=fun s hs'=>by
   rcases ak.1 hs' with hs' | hs'
   ·exact⟨UU.mono (by omega) (r5 s hs').2.1,UU.mono (by omega) (r5 s hs').2.2⟩
   ·exact mg s hs'
  refine⟨r,_,t,r1,h0,t1,t4,fun s hs'=> ?_, ?_⟩
  ·rw[hmv]
   obtain⟨⟨a,ha,ea⟩,b,hb,eb⟩:=t5 s hs'
   exact⟨t4.full s hs',by rw[ea];exact(all a (aB.1 ha).1).1,by rw[eb];exact(all b (aB.1 hb).1).2⟩
  ·rw[hmv]
   have src:∀a,inS t a=true->inS x a=false/\inS l a=true\/ed.1.isPrefixOf a=true/\inS l (ed.2++a.drop ed.1.length)=true:=fun a ha=>by
    rw[t2,z9j,ay]at ha
    rcases ha with ha | ha
    ·rw[r2]at ha
     simp only[ac,aw]at ha
     exact .inl ⟨ha.2,ha.1⟩
    ·obtain⟨s,hs',ha⟩:=cZ.1 ha
     unfold zk2 at hs'
     obtain⟨y,hy,rfl⟩:=aH.1 hs'
     obtain⟨y1,y2⟩:=aB.1 hy
     have y2:emptyB (w5 y (preB ed.2))=false:=by simpa using y2
     obtain⟨k1,k2⟩:=yi7 p2 p1 y2 (y4c p2 y2) ha
     rw[zcu,ac]at k2
     exact .inr ⟨k1,cZ.2 ⟨y,y1,k2.1⟩⟩
   have hto':∀a,inS x a=false->ed.2.isPrefixOf a=false:=fun a ha=>by
    cases e2:ed.2.isPrefixOf a
    ·rfl
    ·rw[hto a e2]at ha;cases ha
   refine ylw (fun a=>if inS x a=false/\inS l a=true then a else ed.2++a.drop ed.1.length) (fun a ha hp=> ?_) fun a b ha hb hab=> ?_
   ·by_cases c:inS x a=false/\inS l a=true
    ·rw[if_pos c];exact⟨UU.mono (by omega) ha,c.2⟩
    ·rw[if_neg c]
     rcases src a hp with h | ⟨k1,k2⟩
     ·exact absurd h c
     ·have:=UU.move p1 p2 ha k1
      rw[show h-1+1=h by omega]at this
      exact⟨this,k2⟩
   ·by_cases c:inS x a=false/\inS l a=true
    ·rw[if_pos c]at hab
     by_cases d:inS x b=false/\inS l b=true
     ·rw[if_pos d]at hab;exact hab
     ·rw[if_neg d]at hab
      have:=hto' a c.1
      rw[hab,zmx]at this;cases this
    ·rw[if_neg c]at hab
     rcases src a ha with h | ⟨k1,_⟩
     ·exact absurd h c
     by_cases d:inS x b=false/\inS l b=true
     ·rw[if_pos d]at hab
      have:=hto' b d.1
      rw[<-hab,zmx]at this;cases this
     ·rw[if_neg d]at hab
      rcases src b hb with h | ⟨k2,_⟩
      ·exact absurd h d
      ·have hd:=List.append_cancel_left hab
       have ea:=z9w k1
       have eb:=z9w k2
       rw[<-ea,<-eb,hd]
 cases hm with
 | put k v n hk hv=>
  obtain⟨r,r1,r2⟩:=one [(k,k++[0])] (by simp) (fun s hs'=>by simp at hs';rw[hs'];exact(SpG.one hk).mono hge)
  exact⟨r,by simp only[z3c,K9,cond_true,zq9 (by omega) hk,ab,r1],r2⟩
 | del k hk=>
  obtain⟨r,r1,r2⟩:=one [(k,k++[0])] (by simp) (fun s hs'=>by simp at hs';rw[hs'];exact(SpG.one hk).mono hge)
  exact⟨r,by simp only[z3c,show eqi (2:Int) 1=false by decide,K9,cond_true,cond_false,zq9 (by omega) hk,ab,r1],r2⟩
 | drop s hs'=>
  obtain⟨r,r1,r2⟩:=one [s] (by simp) (fun x hx=>by simp at hx;rw[hx];exact hs'.mono hge)
  exact⟨r,by simp only[z3c,show eqi (3:Int) 1=false by decide,show eqi (3:Int) 2=false by decide,K9,cond_true,cond_false,r1,ab],r2⟩
 | stamp s n hs'=>exact⟨l,rfl,hs,hg,al _⟩
 | move ed hed=>
  obtain⟨p1,p2⟩:=Q9 hed
  obtain⟨r1,r2,r3,e1,e2,e3,e4⟩:=big [preB ed.2,preB ed.1] ed hed rfl rfl rfl (by simp) (fun s hs'=>by
   simp at hs'
   rcases hs' with rfl | rfl
   ·exact(SpG.pre p2).mono (by omega)
   ·exact(SpG.pre p1).mono (by omega)) (fun k hk=>by simp[inS,z6n p2,hk])
  refine⟨r3, ?_,e4⟩
  simp only[z3c,show eqi (4:Int) 1=false by decide,show eqi (4:Int) 2=false by decide,show eqi (4:Int) 3=false by decide,show eqi (4:Int) 6=false by decide,K9,cond_true,cond_false,z61 p2,z61 p1,ab]
  rw[gd_t (Y4 (by omega) (by omega))]
  show(K6 NN l [preB ed.2,preB ed.1]).bind _=_
  simp only[e1,ab,e2,e3]
 | clone ed hed=>
  obtain⟨p1,p2⟩:=Q9 hed
  obtain⟨r1,r2,r3,e1,e2,e3,e4⟩:=big [preB ed.2] ed hed rfl rfl rfl (by simp) (fun s hs'=>by
   simp at hs'
   rw[hs'];exact(SpG.pre p2).mono (by omega)) (fun k hk=>by simp[inS,z6n p2,hk])
  refine⟨r3, ?_,e4⟩
  simp only[z3c,show eqi (5:Int) 1=false by decide,show eqi (5:Int) 2=false by decide,show eqi (5:Int) 3=false by decide,show eqi (5:Int) 6=false by decide,show eqi (5:Int) 4=false by decide,cond_false,z61 p2,ab,e1,e2,e3]
end Ds
namespace Ds
open Go Go.Dv
set_option maxRecDepth 100000
abbrev Sl:Type:=Z7
abbrev Nd:Type:=Z6
abbrev D0:Sl:=X4
def y8(s:Sl):List Int:=s.2.2.2.2.2.1
def z4m(s:Sl):Int:=s.2.2.1
def zb2(s:Sl):Nd:=s.2.2.2
def slA(p:List Sl)(i:Int):Sl:=rdL p i D0
def W5(p:List Sl)(i:Int):Bool:=decide (0<=i)&&(decide (i<(p.length:Int))&&(slA p i).1)
def kidsU(s:Sl):List Int:=if s.1=true then y8 s else[]
def X9(p:List Sl):List Int:=p.flatMap kidsU
theorem V5{p:List Sl}{i:Int}:W5 p i=true↔0<=i/\i<(p.length:Int)/\(slA p i).1=true:=by
 simp[W5]
theorem zem{α:Type}{p:List α}{i:Int}{y d:α}(h0:0<=i)(h1:i<(p.length:Int)):rdL (setL p i y) i d=y:=by
 have:i.toNat<p.length:=by omega
 simp[rdL,setL,this]
theorem z5h{α:Type}{p:List α}{i j:Int}{y d:α}(h0:0<=i)(h1:0<=j)(h:j≠i):rdL (setL p i y) j d=rdL p j d:=by
 have:i.toNat≠j.toNat:=by omega
 simp[rdL,setL,List.getElem?_set,this]
@[simp] theorem z0r{α:Type}(p:List α)(i:Int)(y:α):(setL p i y).length=p.length:=by simp[setL]
theorem z6m{α:Type}{p:List α}{i:Int}{d:α}(h0:0<=i)(h1:i<(p.length:Int)):rdL p i d∈p:=by
 have:i.toNat<p.length:=by omega
 simp[rdL,this]
theorem y67{α:Type}{p:List α}{x:α}(d:α)(h:x∈p):∃i:Int,0<=i/\i<(p.length:Int)/\rdL p i d=x:=by
 obtain⟨n,hn,rfl⟩:=List.mem_iff_getElem.1 h
 exact⟨(n:Int),by omega,by omega,by simp[rdL,hn]⟩
theorem ygy(j:Int):∀(p:List Sl) (n:Nat) (y:Sl) (h:n<p.length),(X9 (p.set n y)).count j+(kidsU p[n]).count j=(X9 p).count j+(kidsU y).count j
 | [],_,_,h=>absurd h (ag _)
 | s::p,0,y,_=>by simp only[X9,eL,cm,cG,d7];omega
 | s::p,n+1,y,h=>by
  have ih:=ygy j p n y (by simpa using h)
  simp only[X9,dL,cm,cG,di]at ih|-
  omega
theorem zi0{p:List Sl}{i:Int}(h1:i.toNat<p.length):slA p i=p[i.toNat]:=by simp[slA,rdL,h1]
theorem y4t(p:List Sl)(i:Int)(y:Sl)(j:Int)(h0:0<=i)(h1:i<(p.length:Int)):(X9 (setL p i y)).count j+(kidsU (slA p i)).count j=(X9 p).count j+(kidsU y).count j:=by
 have h:i.toNat<p.length:=by omega
 rw[zi0 h]
 exact ygy j p i.toNat y h
theorem y30{p:List Sl}{i k:Int}(hu:W5 p i=true)(hk:k∈y8 (slA p i)):k∈X9 p:=by
 obtain⟨h0,h1,h2⟩:=V5.1 hu
 refine dr.2 ⟨slA p i,z6m h0 h1, ?_⟩
 rw[kidsU,if_pos h2];exact hk
theorem yqs{p:List Sl}{k:Int}(h:k∈X9 p):∃i,W5 p i=true/\k∈y8 (slA p i):=by
 obtain⟨s,hs,hk⟩:=dr.1 h
 obtain⟨i,h0,h1,h2⟩:=y67 D0 hs
 unfold kidsU at hk
 split at hk
 ·rename_i hu
  exact⟨i,V5.2 ⟨h0,h1,by rw[show slA p i=s from h2];exact hu⟩,by rw[show slA p i=s from h2];exact hk⟩
 ·cases hk
structure Bal (p:List Sl) (L:List Int):Prop where
 z:∀s∈p,s.1=false->s=D0
 lost:∀s∈p,s.2.1=false
 refs:∀i,W5 p i=true->z4m (slA p i)=((L.count i+(X9 p).count i:Nat):Int)
 mem:∀k∈L,W5 p k=true
 kid:∀k∈X9 p,W5 p k=true
 pos:∀i,W5 p i=true->0<L.count i+(X9 p).count i
 rank:∃r:Int->Nat,∀i,W5 p i=true->∀k∈y8 (slA p i),r k<r i
theorem Bal.congr{p:List Sl}{L L':List Int}(h:Bal p L)(hc:∀i,L'.count i=L.count i):Bal p L':=by
 refine⟨h.z,h.lost,fun i hi=>by rw[hc];exact h.refs i hi,fun k hk=> ?_,h.kid,fun i hi=>by rw[hc];exact h.pos i hi,h.rank⟩
 apply h.mem
 rw[<-bh,<-hc,bh];exact hk
structure Shr (p q:List Sl):Prop where
 len:q.length=p.length
 node:∀i,W5 q i=true->W5 p i=true/\zb2 (slA q i)=zb2 (slA p i)
theorem Shr.refl(p:List Sl):Shr p p:=⟨rfl,fun i h=>⟨h,rfl⟩⟩
theorem Shr.trans{p q r:List Sl}(h:Shr p q)(k:Shr q r):Shr p r:=
 ⟨k.len.trans h.len,fun i hi=>⟨(h.node i (k.node i hi).1).1,(k.node i hi).2.trans (h.node i (k.node i hi).1).2⟩⟩
theorem zhs(s:Sl):y8 s=(zb2 s).2.2.1:=rfl
theorem y2l(p:List Sl)(r:Int->Nat):∃B,∀i,W5 p i=true->r i<B:=by
 have:∀n:Nat,∃B,∀i:Int,0<=i->i<(n:Int)->r i<B:=by
  intro n
  induction n with
  | zero=>exact⟨0,fun i h0 h1=>by omega⟩
  | succ n ih=>
   obtain⟨B,hB⟩:=ih
   refine⟨B+r n+1,fun i h0 h1=> ?_⟩
   by_cases e:i=(n:Int)
   ·subst e;omega
   ·have:=hB i h0 (by omega);omega
 obtain⟨B,hB⟩:=this p.length
 exact⟨B,fun i hi=>by obtain⟨h0,h1,_⟩:=V5.1 hi;exact hB i h0 h1⟩
theorem yq8{p:List Sl}{L:List Int}(h:Bal p L)(Q:Int->Prop)(hr:∀k∈L,Q k)(hk:∀i k,W5 p i=true->Q i->k∈y8 (slA p i)->Q k):∀i,W5 p i=true->Q i:=by
 obtain⟨r,hrk⟩:=h.rank
 obtain⟨B,hB⟩:=y2l p r
 have:∀n i,W5 p i=true->B-r i<=n->Q i:=by
  intro n
  induction n with
  | zero=>intro i hi hn;have:=hB i hi;omega
  | succ n ih=>
   intro i hi hn
   have hp:=h.pos i hi
   by_cases hc:0<L.count i
   ·exact hr i (bh.1 hc)
   ·have:0<(X9 p).count i:=by omega
    obtain⟨j,hj,hkj⟩:=yqs (bh.1 this)
    have:=hrk j hj i hkj
    exact hk j i hj (ih j hj (by omega)) hkj
 exact fun i hi=>this _ i hi (al _)
theorem ze0{p:List Sl}{L:List Int}(h:Bal p L){i:Int}(h0:0<=i)(h1:i<(p.length:Int))(hu:¬W5 p i=true):slA p i=D0:=by
 refine h.z _ (z6m h0 h1) ?_
 cases e:(slA p i).1 with
 | false=>rfl
 | true=>exact absurd (V5.2 ⟨h0,h1,e⟩) hu
theorem z6y{p:List Sl}{i:Int}{y:Sl}(h0:0<=i)(h1:i<(p.length:Int)):slA (setL p i y) i=y:=zem h0 h1
theorem z0w{p:List Sl}{i j:Int}{y:Sl}(h0:0<=i)(h1:0<=j)(h:j≠i):slA (setL p i y) j=slA p j:=z5h h0 h1 h
theorem y3w{p:List Sl}{i j:Int}{y:Sl}(h0:0<=i)(h1:i<(p.length:Int)):W5 (setL p i y) j=if j=i then y.1 else W5 p j:=by
 by_cases e:j=i
 ·subst e
  rw[if_pos rfl,W5,z6y h0 h1,z0r]
  simp[h0,h1]
 ·rw[if_neg e]
  by_cases hj:0<=j
  ·rw[W5,W5,z0w h0 hj e,z0r]
  ·simp[W5,hj]
theorem mem_setL{p:List Sl}{i:Int}{y s:Sl}(h:s∈setL p i y):s∈p\/s=y:=List.mem_or_eq_of_mem_set h
def J4(s:Sl)(n:Int):Sl:=(s.1,(s.2.1,(n,s.2.2.2)))
theorem ydc{p:List Sl}{L L':List Int}{k:Int}{n:Int}(h:Bal p L)(hk:W5 p k=true)
  (hc:∀i,i≠k->L'.count i=L.count i) (hn:n=((L'.count k+(X9 p).count k:Nat):Int)) (hp:0<L'.count k+(X9 p).count k):
  Bal (setL p k (J4 (slA p k) n)) L'/\Shr p (setL p k (J4 (slA p k) n)):=by
 obtain⟨h0,h1,h2⟩:=V5.1 hk
 have hu:∀j,W5 (setL p k (J4 (slA p k) n)) j=W5 p j:=by
  intro j
  rw[y3w h0 h1]
  by_cases e:j=k
  ·subst e;rw[if_pos rfl,hk];exact h2
  ·rw[if_neg e]
 have hcn:∀j,(X9 (setL p k (J4 (slA p k) n))).count j=(X9 p).count j:=by
  intro j
  have:=y4t p k (J4 (slA p k) n) j h0 h1
  have e:kidsU (J4 (slA p k) n)=kidsU (slA p k):=rfl
  rw[e]at this;omega
 have hmk:∀j,j∈X9 (setL p k (J4 (slA p k) n))↔j∈X9 p:=fun j=>by rw[<-bh,hcn,bh]
 have hkd:∀j,0<=j->y8 (slA (setL p k (J4 (slA p k) n)) j)=y8 (slA p j)/\zb2 (slA (setL p k (J4 (slA p k) n)) j)=zb2 (slA p j):=by
  intro j hj
  by_cases e:j=k
  ·subst e;rw[z6y h0 h1];exact⟨rfl,rfl⟩
  ·rw[z0w h0 hj e];exact⟨rfl,rfl⟩
 refine⟨⟨fun s hs he=> ?_,fun s hs=> ?_,fun i hi=> ?_,fun j hj=> ?_,fun j hj=> ?_,fun i hi=> ?_, ?_⟩,⟨z0r _ _ _,fun i hi=> ?_⟩⟩
 ·rcases mem_setL hs with hs | rfl
  ·exact h.z s hs he
  ·rw[show(J4 (slA p k) n).1=(slA p k).1 from rfl,h2]at he;cases he
 ·rcases mem_setL hs with hs | rfl
  ·exact h.lost s hs
  ·exact h.lost (slA p k) (z6m h0 h1)
 ·rw[hu]at hi
  rw[hcn]
  by_cases e:i=k
  ·subst e;rw[z6y h0 h1];exact hn
  ·rw[z0w h0 (V5.1 hi).1 e,hc i e];exact h.refs i hi
 ·rw[hu]
  by_cases e:j=k
  ·subst e;exact hk
  ·apply h.mem;rw[<-bh,<-hc j e,bh];exact hj
 ·rw[hu];exact h.kid j ((hmk j).1 hj)
 ·rw[hu]at hi;rw[hcn]
  by_cases e:i=k
  ·subst e;exact hp
  ·rw[hc i e];exact h.pos i hi
 ·obtain⟨r,hr⟩:=h.rank
  refine⟨r,fun i hi j hj=> ?_⟩
  rw[hu]at hi
  rw[(hkd i (V5.1 hi).1).1]at hj
  exact hr i hi j hj
 ·rw[hu]at hi
  exact⟨hi,(hkd i (V5.1 hi).1).2⟩
theorem ylh{p:List Sl}{L L':List Int}{k:Int}(h:Bal p L)(hk:W5 p k=true)
  (hc:∀i,i≠k->L'.count i=L.count i) (h0c:L'.count k=0) (hak:(X9 p).count k=0):
  Bal (setL p k D0) (L'++y8 (slA p k))/\Shr p (setL p k D0):=by
 obtain⟨h0,h1,h2⟩:=V5.1 hk
 have hu:∀j,W5 (setL p k D0) j=if j=k then false else W5 p j:=fun j=>y3w h0 h1
 have hcn:∀j,(X9 (setL p k D0)).count j+(y8 (slA p k)).count j=(X9 p).count j:=by
  intro j
  have:=y4t p k D0 j h0 h1
  have e:kidsU D0=[]:=rfl
  rw[e,kidsU,if_pos h2]at this
  simpa using this
 have hne:∀j,j∈X9 p->j≠k:=fun j hj e=>by subst e;have:=bh.2 hj;omega
 have hkne:∀j,j∈y8 (slA p k)->j≠k:=fun j hj=>hne j (y30 hk hj)
 have hsub:∀j,j∈X9 (setL p k D0)->j∈X9 p:=fun j hj=>by
  have:=bh.2 hj
  have:=hcn j
  exact bh.1 (by omega)
 have hun:∀i,W5 (setL p k D0) i=true->i≠k/\W5 p i=true:=by
  intro i hi
  rw[hu]at hi
  by_cases e:i=k
  ·rw[if_pos e]at hi;cases hi
  ·rw[if_neg e]at hi;exact⟨e,hi⟩
 refine⟨⟨fun s hs he=> ?_,fun s hs=> ?_,fun i hi=> ?_,fun j hj=> ?_,fun j hj=> ?_,fun i hi=> ?_, ?_⟩,⟨z0r _ _ _,fun i hi=> ?_⟩⟩
 ·rcases mem_setL hs with hs | rfl
  ·exact h.z s hs he
  ·rfl
 ·rcases mem_setL hs with hs | rfl
  ·exact h.lost s hs
  ·rfl
 ·obtain⟨e,hi⟩:=hun i hi
  rw[z0w h0 (V5.1 hi).1 e,h.refs i hi,cG,hc i e]
  have:=hcn i
  congr 1;omega
 ·rw[hu]
  rcases ak.1 hj with hj1 | hj
  ·have e:j≠k:=fun e=>by rw[e]at hj1;have:=bh.2 hj1;omega
   rw[if_neg e]
   apply h.mem;rw[<-bh,<-hc j e,bh];exact hj1
  ·rw[if_neg (hkne j hj)];exact h.kid j (y30 hk hj)
 ·rw[hu,if_neg (hne j (hsub j hj))];exact h.kid j (hsub j hj)
 ·obtain⟨e,hi⟩:=hun i hi
  have:=h.pos i hi
  rw[cG,hc i e]
  have:=hcn i
  omega
 ·obtain⟨r,hr⟩:=h.rank
  refine⟨r,fun i hi j hj=> ?_⟩
  obtain⟨e,hi⟩:=hun i hi
  rw[z0w h0 (V5.1 hi).1 e]at hj
  exact hr i hi j hj
 ·obtain⟨e,hi⟩:=hun i hi
  exact⟨hi,by rw[z0w h0 (V5.1 hi).1 e]⟩
theorem zbm(N:Nat)(p:List Sl)(i:Int):z7f N p i=some (W5 p i):=by
 unfold z7f W5 slA
 by_cases h0:0<=i
 ·by_cases h1:i<(p.length:Int)
  ·simp only[h0,h1,decide_true,cond_true,bp]
   rw[gd_t (V8 h0 h1)]
  ·simp[h0,h1]
 ·simp[h0]
theorem zyn(N:Nat)(p:List Sl)(h:p.length<=100000):z9r N p=some p:=by
 unfold z9r
 rw[gd_t (Y4 (by omega) (by omega))]
 simp
theorem y7b:∀(p:List Sl) (n:Nat) (y:Sl) (h:n<p.length),(X9 (p.set n y)).length+(kidsU p[n]).length=(X9 p).length+(kidsU y).length
 | [],_,_,h=>absurd h (ag _)
 | s::p,0,y,_=>by simp only[X9,eL,cm,ae,d7];omega
 | s::p,n+1,y,h=>by
  have ih:=y7b p n y (by simpa using h)
  simp only[X9,dL,cm,ae,di]at ih|-
  omega
theorem zmh(p:List Sl)(i:Int)(y:Sl)(h0:0<=i)(h1:i<(p.length:Int)):(X9 (setL p i y)).length+(kidsU (slA p i)).length=(X9 p).length+(kidsU y).length:=by
 have h:i.toNat<p.length:=by omega
 rw[zi0 h]
 exact y7b p i.toNat y h
theorem yhl(p:List Sl)(i:Int)(x y:Sl):setL (setL p i x) i y=setL p i y:=by simp[setL]
theorem yih{p:List Sl}{rest R:List Int}{k:Int}(h:Bal p (k::(rest++R)))(hb:rest.length+1+R.length+(X9 p).length<1000000000):
  ∃c:Int,aa .i64 (z4m (slA p k)-1)=c/\0<=c/\
   (0<c->Bal (setL p k (J4 (slA p k) c)) (rest++R)/\Shr p (setL p k (J4 (slA p k) c))/\(X9 (setL p k (J4 (slA p k) c))).length=(X9 p).length)/\
   (c=0->Bal (setL p k D0) ((rest++y8 (slA p k))++R)/\Shr p (setL p k D0)/\(X9 (setL p k D0)).length+(y8 (slA p k)).length=(X9 p).length):=by
 have hk:=h.mem k (by simp)
 obtain⟨h0,h1,h2⟩:=V5.1 hk
 have hr:=h.refs k hk
 rw[dA]at hr
 have l1:=bF (a:=k) (l:=rest++R)
 have l2:=bF (a:=k) (l:=X9 p)
 rw[ae]at l1
 have hw:aa .i64 (z4m (slA p k)-1)=(((rest++R).count k+(X9 p).count k:Nat):Int):=by
  rw[hr,w64 (by omega) (by omega)];omega
 have hc:∀i,i≠k->(rest++R).count i=(k::(rest++R)).count i:=fun i e=>by
  rw[dC];simp[Ne.symm e]
 refine⟨_,hw,by omega,fun hpos=> ?_,fun hz=> ?_⟩
 ·obtain⟨a,b⟩:=ydc h hk hc rfl (by omega)
  refine⟨a,b, ?_⟩
  have:=zmh p k (J4 (slA p k) (((rest++R).count k+(X9 p).count k:Nat):Int)) h0 h1
  have e:kidsU (J4 (slA p k) (((rest++R).count k+(X9 p).count k:Nat):Int))=kidsU (slA p k):=rfl
  rw[e]at this;omega
 ·obtain⟨a,b⟩:=ylh h hk hc (by omega) (by omega)
  refine⟨a.congr fun i=>by simp only[cG];omega,b, ?_⟩
  have:=zmh p k D0 h0 h1
  have e:kidsU D0=[]:=rfl
  rw[e,kidsU,if_pos h2]at this
  simpa using this
theorem y7r(k:Int)(rest:List Int):cut2 (k::rest) 1 ((k::rest).length:Int)=rest:=by
 simp only[cut2,dj,af]
 show List.take (rest.length+1-1) (List.drop 1 (k::rest))=rest
 simp
theorem zsa(N:Nat)(R:List Int):∀(n:Nat) (todo:List Int) (p:List Sl),Bal p (todo++R)->todo.length+R.length+(X9 p).length<1000000000->todo.length+(X9 p).length<n->
  ∃q,z7v N n todo p=some (((),()),((),((),(q,()))))/\Bal q R/\Shr p q
 | 0,_,_,_,_,hn=>absurd hn (ag _)
 | n+1,[],p,h,hb,hn=>by
  refine⟨p, ?_,by simpa using h,Shr.refl p⟩
  rw[zh3]
  simp[z3x]
 | n+1,k::rest,p,h,hb,hn=>by
  simp only[af]at hb hn
  have hk:=h.mem k (by simp)
  obtain⟨h0,h1,h2⟩:=V5.1 hk
  obtain⟨c,hc,hc0,hc1,hc2⟩:=yih (rest:=rest) (R:=R) h (by omega)
  have hrd:rdL (k::rest) (0:Int) (0:Int)=k:=rfl
  rw[zh3]
  simp only[z3x,hrd,y7r,zbm,hk]
  rw[X2 (by simp<;>omega),gd_t (V8 (by omega) (by simp<;>omega)),gd_t (by simp<;>omega)]
  simp only[aN,cond_false]
  rw[gd_t (V8 h0 h1),gd_t (V8 h0 h1)]
  have hx7:setL p k ((rdL p k X4).1,(((rdL p k X4).2).1,((aa .i64 ((((rdL p k X4).2).2).1-(1:Int))),((((rdL p k X4).2).2).2))))=setL p k (J4 (slA p k) c):=by
   rw[<-hc];rfl
  rw[hx7]
  have hr7:rdL (setL p k (J4 (slA p k) c)) k X4=J4 (slA p k) c:=z6y h0 h1
  rw[hr7]
  have hc8:(((J4 (slA p k) c).2).2).1=c:=rfl
  have hk8:((((((J4 (slA p k) c).2).2).2).2).2).1=y8 (slA p k):=rfl
  rw[hc8,hk8,yhl,gd_t (V8 h0 (by simpa using h1))]
  by_cases hcz:c=0
  ·obtain⟨a,b,d⟩:=hc2 hcz
   obtain⟨q,q1,q2,q3⟩:=zsa N R n (rest++y8 (slA p k)) _ a (by rw[ae];omega) (by rw[ae];omega)
   refine⟨q, ?_,q2,b.trans q3⟩
   rw[X2 (zxq.2 hcz),gd_t (Y4 (by omega) (by omega)),gd_t (V8 h0 (by simpa using h1)),gd_t (Y4 (by simp;omega) (by omega)),gd_t (V8 h0 (by simpa using h1))]
   exact q1
  ·obtain⟨a,b,d⟩:=hc1 (by omega)
   obtain⟨q,q1,q2,q3⟩:=zsa N R n rest _ a (by rw[d];omega) (by rw[d];omega)
   refine⟨q, ?_,q2,b.trans q3⟩
   rw[Y3 (G6 hcz)]
   exact q1
theorem yaq{N:Nat}(hN:2000000000<=N){p:List Sl}{id:Int}{R:List Int}(h:Bal p (id::R))(hl:p.length<=100000)(hb:R.length+(X9 p).length<500000000):
  ∃q,z31 N p id=some (q,0)/\Bal q R/\Shr p q:=by
 have hk:=h.mem id (by simp)
 obtain⟨q,q1,q2,q3⟩:=zsa N R N [id] p h (by simp;omega) (by simp;omega)
 refine⟨q, ?_,q2,q3⟩
 unfold z31
 rw[zbm,zyn N p hl,hk]
 simp only[aN,cond_false]
 have q1':z7v N N ([id]:List Int) p=_:=q1
 rw[q1']
def zsp(p:List Sl)(id:Int):List Sl:=setL p id (J4 (slA p id) (aa .i64 (z4m (slA p id)+1)))
theorem yap{N:Nat}{p:List Sl}{id:Int}(hl:p.length<=100000):z9f N p id=some (if W5 p id=true then(zsp p id,0)else(p,110)):=by
 unfold z9f
 rw[zbm,zyn N p hl]
 cases hu:W5 p id with
 | false=>rfl
 | true=>
  obtain⟨h0,h1,h2⟩:=V5.1 hu
  simp only[aN,cond_false]
  rw[gd_t (V8 h0 h1),gd_t (V8 h0 h1)]
  rfl
theorem ykx{p:List Sl}{id:Int}{L:List Int}(h:Bal p L)(hu:W5 p id=true)(hb:L.length+(X9 p).length<1000000000):Bal (zsp p id) (id::L)/\Shr p (zsp p id)/\Shr (zsp p id) p/\(X9 (zsp p id)).length=(X9 p).length:=by
 obtain⟨h0,h1,h2⟩:=V5.1 hu
 have hr:=h.refs id hu
 have l1:=bF (a:=id) (l:=L)
 have l2:=bF (a:=id) (l:=X9 p)
 have hw:aa .i64 (z4m (slA p id)+1)=(((id::L).count id+(X9 p).count id:Nat):Int):=by
  rw[hr,w64 (by omega) (by omega),dA];omega
 have hb':=ydc (L':=id::L) h hu (fun i e=>by rw[dC];simp[Ne.symm e]) hw (by rw[dA];omega)
 refine⟨hb'.1,hb'.2,⟨(z0r _ _ _).symm,fun i hi=> ?_⟩, ?_⟩
 ·have hu':W5 (zsp p id) i=W5 p i:=by
   unfold zsp
   rw[y3w h0 h1]
   by_cases e:i=id
   ·subst e;rw[if_pos rfl,hu];exact h2
   ·rw[if_neg e]
  exact⟨by rw[hu'];exact hi,((hb'.2.node i (by show W5 (zsp p id) i=true;rw[hu'];exact hi)).2).symm⟩
 ·have:=zmh p id (J4 (slA p id) (aa .i64 (z4m (slA p id)+1))) h0 h1
  have e:kidsU (J4 (slA p id) (aa .i64 (z4m (slA p id)+1)))=kidsU (slA p id):=rfl
  rw[e]at this
  unfold zsp;omega
theorem ymi{α R:Type}(p:List α)(b:Int)(h:p.length<=100000)(hb:0<=b)(hb2:b<=1000)(k:Option R):gd ((decide (0<=(ap p:Int))&&decide ((ap p:Int)<=(ap p:Int)))&&(decide ((ap p:Int)<maxB)&&decide ((ap p:Int)*b<maxB))) k=k:=by
 have hmx:(maxB:Int)=4398046511104:=rfl
 refine gd_t ?_ k
 simp only[ac,decide_eq_true_eq,hmx]
 refine⟨⟨by omega,by omega⟩,by omega, ?_⟩
 have:(p.length:Int)*b<=100000*1000:=Int.mul_le_mul (by omega) hb2 hb (by omega)
 omega
def rem:List Sl->List Bool->Nat
 | s::p,b::ks=>(if b=true then 0 else(kidsU s).length)+rem p ks
 | _,_=>0
theorem zy1:∀p:List Sl,rem p (List.replicate p.length false)=(X9 p).length
 | []=>rfl
 | s::p=>by
  simp only[af,List.replicate_succ,rem,X9,cm,ae]
  have:=zy1 p
  unfold X9 at this
  simp[this]
theorem zxl:∀(p:List Sl) (ks:List Bool) (n:Nat) (h:n<p.length) (h':n<ks.length),ks[n]=false->rem p (ks.set n true)+(kidsU p[n]).length=rem p ks
 | [],_,_,h,_,_=>absurd h (ag _)
 | s::p,[],_,_,h,_=>absurd h (ag _)
 | s::p,b::ks,0,_,_,e=>by
  have e:b=false:=e
  subst e
  simp[rem];omega
 | s::p,b::ks,n+1,h,h',e=>by
  have:=zxl p ks n (by simpa using h) (by simpa using h') e
  simp only[dL,rem,di];omega
def zkn:Int->List Bool->List Int
 | _,[]=>[]
 | i,b::bs=>if b=true then i::zkn (i+1) bs else zkn (i+1) bs
theorem zy9:∀(bs:List Bool) (i j:Int),j∈zkn i bs↔i<=j/\j<i+bs.length/\rdL bs (j-i) false=true
 | [],i,j=>by simp[zkn];omega
 | b::bs,i,j=>by
  have ih:=zy9 bs (i+1) j
  have hlow:j∈zkn (i+1) bs->i+1<=j:=fun h=>(ih.1 h).1
  have hsucc:i+1<=j->rdL (b::bs) (j-i) false=rdL bs (j-(i+1)) false:=by
   intro h
   have:(j-i).toNat=(j-(i+1)).toNat+1:=by omega
   simp[rdL,this]
  have hz:rdL (b::bs) (i-i) false=b:=by simp[rdL]
  have hmain:j∈zkn i (b::bs)↔(j=i/\b=true)\/j∈zkn (i+1) bs:=by
   simp only[zkn]
   split
   ·rename_i h;simp[h]
   ·rename_i h;simp[h]
  rw[hmain]
  constructor
  ·rintro(⟨rfl,hb⟩ | h)
   ·exact⟨eX _,by simp<;>omega,by rw[hz];exact hb⟩
   ·obtain⟨a,c,d⟩:=ih.1 h
    exact⟨by omega,by simp;omega,by rw[hsucc a];exact d⟩
  ·rintro⟨a,c,d⟩
   by_cases e:j=i
   ·subst e;rw[hz]at d;exact .inl ⟨rfl,d⟩
   ·refine .inr (ih.2 ⟨by omega,by simp at c;omega, ?_⟩)
    rw[<-hsucc (by omega)];exact d
theorem zyp:∀(bs:List Bool) (i:Int),(zkn i bs).Pairwise (·<·)
 | [],_=>bg.nil
 | b::bs,i=>by
  simp only[zkn]
  split
  ·exact aK.2 ⟨fun j hj=>by have:=((zy9 bs (i+1) j).1 hj).1;omega,zyp bs (i+1)⟩
  ·exact zyp bs (i+1)
def K1(p:List Sl):Nat:=(p.takeWhile (fun s=>s.1)).length
def ext(p:List Sl):List Sl:=if K1 p=p.length then p++[D0]else p
def zif(q:List Sl)(k:Int):List Sl:=setL q k (J4 (slA q k) (aa .i64 (z4m (slA q k)+1)))
def bump(q:List Sl)(ks:List Int):List Sl:=ks.foldl zif q
def zgg(n:Nd):Sl:=(true,(false,((1:Int),n)))
def addP(p:List Sl)(n:Nd):List Sl:=bump (setL (ext p) (K1 p:Int) (zgg n)) n.2.2.1
def addF(p:List Sl)(n:Nd):List Sl×(Int×Int):=
 if n.2.2.1.all (W5 p)=true then(if 4096<=(K1 p:Int)then(p,((0:Int),(111:Int)))else(addP p n,((K1 p:Int),(0:Int))))else(p,((0:Int),(110:Int)))
theorem y4b(p:List Sl):K1 p<=p.length:=(List.takeWhile_prefix _).length_le
theorem yfp:∀(p:List Sl) (h:(p.takeWhile (fun s=>s.1)).length<p.length),(p[(p.takeWhile (fun s=>s.1)).length]).1=false
 | [],h=>absurd h (ag _)
 | s::p,h=>by
  cases hs:s.1 with
  | false=>simp[hs]
  | true=>
   have h':(p.takeWhile (fun s=>s.1)).length<p.length:=by simpa[hs] using h
   have:=yfp p h'
   simpa[hs] using this
theorem zsl(p:List Sl):W5 p (K1 p:Int)=false:=by
 cases hu:W5 p (K1 p:Int)with
 | false=>rfl
 | true=>
  obtain⟨h0,h1,h2⟩:=V5.1 hu
  have hlt:K1 p<p.length:=by omega
  have:=yfp p hlt
  rw[zi0 (by simpa using hlt)]at h2
  simp only[dj]at h2
  have h3:(p[K1 p]).1=false:=this
  rw[h3]at h2;cases h2
theorem k9{p:List Sl}{k:Int}(h:W5 p k=true):0<=k:=(V5.1 h).1
theorem z9b{p:List Sl}{k:Int}(h:W5 p k=true):k<(p.length:Int):=(V5.1 h).2.1
theorem z74{p:List Sl}{l:List Int}:l.all (W5 p)=true↔∀k∈l,W5 p k=true:=by simp
theorem yab{p q:List Sl}{k:Int}(h:W5 p k=true)(hq:p.length<=q.length):inB k q.length=true:=V8 (k9 h) (by have:=z9b h;omega)
theorem zok(q:List Sl)(k:Int):(zif q k).length=q.length:=z0r _ _ _
theorem y8t(N:Nat)(p:List Sl)(id:Int){nd:Nd}:∀(post pre:List Int) (m:Nat) (q:List Sl),nd.2.2.1=pre++post->post.length<m->(pre++post).length<1000000000->post.all (W5 p)=true->p.length<=q.length->
  z5f N m id (pre.length:Int) nd q=some (((),(id,())),((),((),(bump q post,()))))
 | [],_,0,_,_,h,_,_,_=>absurd h (ag _)
 | _::_,_,0,_,_,h,_,_,_=>absurd h (ag _)
 | [],pre,m+1,q,hk,_,_,_,_=>by
  rw[ziv]
  simp only[z55,hk,ai,aA,decide_false,cond_false]
  rfl
 | k::post,pre,m+1,q,hk,hm,hb,hu,hq=>by
  simp only[ae,af]at hb hm
  simp only[bo,ac]at hu
  have hi:=yab hu.1 hq
  rw[ziv]
  simp only[z55,hk,Q1,V6,U4,cond_true]
  rw[gd_t rfl,gd_t hi,gd_t hi,V1 (q:=k) (by omega)]
  exact y8t N p id post (pre++[k]) m (zif q k) (by rw[hk];simp) (by omega) (by simp only[ae,af,aq];omega) hu.2 (by rw[zok];exact hq)
theorem yg6(N:Nat)(p:List Sl){nd:Nd}:∀(post pre:List Int) (m:Nat),nd.2.2.1=pre++post->post.length<m->(pre++post).length<1000000000->
  z9t N m (pre.length:Int) p nd=some (bif post.all (W5 p)then .inr (((),((),())),(p,(nd,((),()))))else .inl ((),((p,((0:Int),(110:Int))),())))
 | [],_,0,_,h,_=>absurd h (ag _)
 | _::_,_,0,_,h,_=>absurd h (ag _)
 | [],pre,m+1,hk,_,_=>by
  rw[zix]
  simp only[z57,hk,ai,aA,decide_false,cond_false]
  rfl
 | k::post,pre,m+1,hk,hm,hb=>by
  simp only[ae,af]at hb hm
  have ih:=yg6 N p (nd:=nd) post (pre++[k]) m (by rw[hk];simp) (by omega) (by simp only[ae,af,aq];omega)
  rw[zix]
  simp only[z57,hk,Q1,V6,U4,cond_true,zbm,bo]
  rw[gd_t rfl,V1 (q:=k) (by omega)]
  cases hu:W5 p k with
  | false=>rfl
  | true=>
   simp only[aN,cond_false,bp]
   exact ih
theorem yg5(N:Nat){nd:Nd}:∀(post pre:List Sl) (m:Nat),post.length<m->(pre++post).length<1000000000->
  z9s N m (pre.length:Int) (pre++post) nd=some (((),((),((),((pre.length+K1 post:Nat):Int)))),(pre++post,(nd,((),()))))
 | [],_,0,h,_=>absurd h (ag _)
 | _::_,_,0,h,_=>absurd h (ag _)
 | [],pre,m+1,_,_=>by
  rw[ziw]
  simp only[z56,ai,aA,decide_false,cond_false]
  rfl
 | s::post,pre,m+1,hm,hb=>by
  simp only[ae,af]at hb hm
  have h:=yg5 N (nd:=nd) post (pre++[s]) m (by omega) (by simp only[ae,af,aq];omega)
  rw[ziw]
  simp only[z56,Q1,V6,U4,cond_true]
  rw[gd_t rfl,V1 (q:=s) (by omega)]
  cases hs:s.1 with
  | false=>
   have:K1 (s::post)=0:=by simp[K1,hs]
   rw[this]
   rfl
  | true=>
   have:K1 (s::post)=K1 post+1:=by simp[K1,hs]
   rw[this]
   have e:(pre++[s]).length+K1 post=pre.length+(K1 post+1):=by simp;omega
   rw[e]at h
   rw[<-U1 (pre:=pre) (q:=s) (post:=post)]at h
   exact h
theorem y2h{N:Nat}(hN:2000000000<=N){p:List Sl}{n:Nd}(hl:p.length<=50000)(hk:n.2.2.1.length<1000000000):z6g N p n=some (addF p n):=by
 unfold z6g addF
 have h0:=yg6 N p (nd:=n) n.2.2.1 [] N rfl (by omega) (by simpa using hk)
 have h0':z9t N N (0:Int) p n=_:=h0
 simp only[h0']
 cases hu:n.2.2.1.all (W5 p)with
 | false=>rfl
 | true=>
  simp only[cond_true,if_true,aj]
  have hle:=y4b p
  have h1:=yg5 N (nd:=n) p [] N (by omega) (by simpa using(by omega:p.length<1000000000))
  have h1':z9s N N (0:Int) p n=some (((),((),((),(K1 p:Int)))),(p,(n,((),())))):=by
   rw[show((K1 p:Nat):Int)=(([]:List Sl).length+K1 p:Nat) by simp]
   exact h1
  rw[h1']
  try simp only
  by_cases hbig:(4096:Int)<=(K1 p:Int)
  ·rw[X2 (by simpa using hbig),if_pos hbig]
  ·rw[Y3 (by simpa using hbig),if_neg hbig,zyn N p (by omega)]
   try simp only
   by_cases e:K1 p=p.length
   ·rw[X2 (zxq.2 (by omega)),gd_t (Y4 (by simp;omega) (by omega)),gd_t (V8 (by omega) (by simp;omega))]
    have hx:setL (p++[D0]) (K1 p:Int) (zgg n)=setL (ext p) (K1 p:Int) (zgg n):=by rw[ext,if_pos e]
    have h2:=y8t N p (K1 p:Int) (nd:=n) n.2.2.1 [] N (setL (p++[D0]) (K1 p:Int) (zgg n)) rfl (by omega) (by simpa using hk) hu (by simp)
    have h3:z5f N N (K1 p:Int) (0:Int) n (setL (p++[(false,(false,((0:Int),(([]:List Z3),(([]:List (List UInt8)),(([]:List Int),(([]:List Y7),([]:List Z1))))))))]) (K1 p:Int) (true,(false,((1:Int),n))))=_:=h2
    rw[h3,hx]
    rfl
   ·have hlt:K1 p<p.length:=by omega
    rw[Y3 (G6 (by omega)),gd_t (V8 (by omega) (by omega))]
    have hx:setL p (K1 p:Int) (zgg n)=setL (ext p) (K1 p:Int) (zgg n):=by rw[ext,if_neg e]
    have h2:=y8t N p (K1 p:Int) (nd:=n) n.2.2.1 [] N (setL p (K1 p:Int) (zgg n)) rfl (by omega) (by simpa using hk) hu (by rw[z0r];omega)
    have h3:z5f N N (K1 p:Int) (0:Int) n (setL p (K1 p:Int) (true,(false,((1:Int),n))))=_:=h2
    rw[h3,hx]
    rfl
theorem zhz{p:List Sl}{i:Int}(h0:0<=i)(h:(p.length:Int)<=i):slA p i=D0:=by
 have:p.length<=i.toNat:=by omega
 simp only[slA,rdL,List.getD_eq_getElem?_getD]
 rw[List.getElem?_eq_none this];rfl
theorem y8q{p:List Sl}{i:Int}(h0:0<=i):slA (ext p) i=slA p i:=by
 unfold ext
 split
 ·have hl:(p++[D0]).length=p.length+1:=by simp
  by_cases h:i<(p.length:Int)
  ·have h1:i.toNat<p.length:=by omega
   have h2:i.toNat<(p++[D0]).length:=by omega
   rw[zi0 h2,zi0 h1,List.getElem_append_left h1]
  ·rw[zhz (p:=p) h0 (by omega)]
   by_cases e:i=(p.length:Int)
   ·have h2:i.toNat<(p++[D0]).length:=by omega
    have h3:i.toNat=p.length:=by omega
    rw[zi0 h2]
    simp[h3]
   ·rw[zhz (p:=p++[D0]) h0 (by omega)]
 ·rfl
theorem y98(p:List Sl):(K1 p:Int)<((ext p).length:Int)/\p.length<=(ext p).length/\(ext p).length<=p.length+1:=by
 have hle:=y4b p
 unfold ext
 split<;>simp<;>omega
theorem zve(p:List Sl):X9 (ext p)=X9 p:=by
 unfold ext
 split
 ·simp only[X9,List.flatMap_append,cm,List.flatMap_nil]
  have:kidsU D0=[]:=rfl
  rw[this];simp
 ·rfl
theorem y6e{p q:List Sl}(hl:p.length=q.length)(h:∀i:Int,0<=i->i<(p.length:Int)->kidsU (slA p i)=kidsU (slA q i)):X9 p=X9 q:=by
 have:p.map kidsU=q.map kidsU:=by
  apply List.ext_getElem (by simpa using hl)
  intro n h1 h2
  simp only[bX]at h1 h2
  have:=h (n:Int) (by omega) (by omega)
  rw[zi0 (by simpa using h1),zi0 (by simpa using h2)]at this
  simpa using this
 unfold X9
 rw[eR,eR,this]
theorem ydb:∀(ks:List Int) (q:List Sl),(bump q ks).length=q.length
 | [],_=>rfl
 | k::ks,q=>by
  have:=ydb ks (zif q k)
  rw[zok]at this
  exact this
theorem yh1:∀(ks:List Int) (q:List Sl),(∀k∈ks,0<=k/\k<(q.length:Int))->(∀i:Int,0<=i->0<=z4m (slA q i)/\z4m (slA q i)+(ks.length:Int)<1000000000000)->∀i:Int,0<=i->slA (bump q ks) i=J4 (slA q i) (z4m (slA q i)+(ks.count i:Int))
 | [],q,_,_,i,_=>by
  show slA q i=_
  rw[ff]
  have:z4m (slA q i)+((0:Nat):Int)=z4m (slA q i):=by omega
  rw[this];rfl
 | k::ks,q,hk,hr,i,hi=>by
  obtain⟨k0,k1⟩:=hk k (by simp)
  have hrk:=hr k k0
  simp only[af]at hrk
  have hw:aa .i64 (z4m (slA q k)+1)=z4m (slA q k)+1:=w64 (by omega) (by omega)
  have h1:∀j:Int,0<=j->slA (zif q k) j=if j=k then J4 (slA q k) (z4m (slA q k)+1)else slA q j:=by
   intro j hj
   unfold zif
   rw[hw]
   by_cases e:j=k
   ·subst e;rw[z6y k0 k1,if_pos rfl]
   ·rw[z0w k0 hj e,if_neg e]
  have hrr:∀j:Int,0<=j->z4m (slA (zif q k) j)=z4m (slA q j)+(if j=k then 1 else 0):=by
   intro j hj
   rw[h1 j hj]
   by_cases e:j=k
   ·subst e;rw[if_pos rfl,if_pos rfl];rfl
   ·rw[if_neg e,if_neg e];omega
  have ih:=yh1 ks (zif q k) (fun j hj=>by rw[zok];exact hk j (by simp[hj])) (fun j hj=>by
   have:=hr j hj
   simp only[af]at this
   rw[hrr j hj]
   split<;>omega) i hi
  show slA (bump (zif q k) ks) i=_
  rw[ih,hrr i hi,h1 i hi,dC]
  by_cases e:i=k
  ·subst e
   rw[if_pos rfl,if_pos rfl]
   simp only[beq_self_eq_true,if_true]
   have:z4m (slA q i)+1+(ks.count i:Int)=z4m (slA q i)+((ks.count i+1:Nat):Int):=by omega
   rw[this];rfl
  ·have e':¬k=i:=fun h=>e h.symm
   rw[if_neg e,if_neg e]
   simp[e']
theorem yh7{p:List Sl}{n:Nd}(hu:n.2.2.1.all (W5 p)=true)(hr:∀i:Int,0<=i->0<=z4m (slA p i)/\z4m (slA p i)+(n.2.2.1.length:Int)<500000000000):
  (addP p n).length=(ext p).length/\∀i:Int,0<=i->slA (addP p n) i=if i=(K1 p:Int)then zgg n else J4 (slA p i) (z4m (slA p i)+(n.2.2.1.count i:Int)):=by
 have hlen:=y98 p
 have hs:∀i:Int,0<=i->slA (setL (ext p) (K1 p:Int) (zgg n)) i=if i=(K1 p:Int)then zgg n else slA p i:=by
  intro i hi
  by_cases e:i=(K1 p:Int)
  ·subst e;rw[z6y (by omega) hlen.1,if_pos rfl]
  ·rw[z0w (by omega) hi e,if_neg e,y8q hi]
 have hrn:z4m (zgg n)=1:=rfl
 have hl0:=hr 0 (by omega)
 have hb:=yh1 n.2.2.1 (setL (ext p) (K1 p:Int) (zgg n)) (fun k hk=>by
  have:=z74.1 hu k hk
  have:=z9b this
  have:=k9 (z74.1 hu k hk)
  rw[z0r];omega) (fun i hi=>by
  rw[hs i hi]
  have:=hr i hi
  split
  ·rw[hrn];omega
  ·omega)
 refine⟨by unfold addP;rw[ydb,z0r],fun i hi=> ?_⟩
 have h:=hb i hi
 unfold addP
 rw[h,hs i hi]
 by_cases e:i=(K1 p:Int)
 ·rw[if_pos e,if_pos e]
  have hc:n.2.2.1.count i=0:=db.2 fun hm=>by
   have:=z74.1 hu i hm
   rw[e,zsl]at this;cases this
  rw[hc];rfl
 ·rw[if_neg e,if_neg e]
theorem yop{p:List Sl}{n:Nd}{R:List Int}(h:Bal p R)(hu:n.2.2.1.all (W5 p)=true)(hb:R.length+(X9 p).length+n.2.2.1.length<1000000000):
  Bal (addP p n) (R++[(K1 p:Int)])/\(X9 (addP p n)).length=(X9 p).length+n.2.2.1.length:=by
 have hrefs:∀i:Int,0<=i->0<=z4m (slA p i)/\z4m (slA p i)+(n.2.2.1.length:Int)<500000000000:=by
  intro i hi
  by_cases hui:W5 p i=true
  ·rw[h.refs i hui]
   have l1:=bF (a:=i) (l:=R)
   have l2:=bF (a:=i) (l:=X9 p)
   omega
  ·by_cases hi1:i<(p.length:Int)
   ·rw[ze0 h hi hi1 hui]
    have:z4m D0=0:=rfl
    omega
   ·rw[zhz hi (by omega)]
    have:z4m D0=0:=rfl
    omega
 obtain⟨hl,hat⟩:=yh7 hu hrefs
 have hlen:=y98 p
 have hid:=zsl p
 have hused:∀i:Int,W5 (addP p n) i=true↔i=(K1 p:Int)\/W5 p i=true:=by
  intro i
  constructor
  ·intro hi
   obtain⟨h0,h1,h2⟩:=V5.1 hi
   by_cases e:i=(K1 p:Int)
   ·exact .inl e
   ·rw[hat i h0,if_neg e]at h2
    have h2:(slA p i).1=true:=h2
    refine .inr (V5.2 ⟨h0, ?_,h2⟩)
    by_cases hlt:i<(p.length:Int)
    ·exact hlt
    ·rw[zhz h0 (by omega)]at h2;cases h2
  ·rintro(rfl | hi)
   ·refine V5.2 ⟨by omega,by rw[hl];exact hlen.1, ?_⟩
    rw[hat _ (by omega),if_pos rfl];rfl
   ·obtain⟨h0,h1,h2⟩:=V5.1 hi
    have e:i≠(K1 p:Int):=fun e=>by rw[e,hid]at hi;cases hi
    refine V5.2 ⟨h0,by rw[hl];omega, ?_⟩
    rw[hat i h0,if_neg e];exact h2
 have hak:X9 (addP p n)=X9 (setL (ext p) (K1 p:Int) (zgg n)):=by
  refine y6e (by rw[hl,z0r]) fun i h0 h1=> ?_
  rw[hat i h0]
  by_cases e:i=(K1 p:Int)
  ·subst e;rw[if_pos rfl,z6y (by omega) hlen.1]
  ·rw[if_neg e,z0w (by omega) h0 e,y8q h0];rfl
 have hkD:kidsU (slA (ext p) (K1 p:Int))=[]:=by
  rw[y8q (by omega)]
  by_cases hlt:(K1 p:Int)<(p.length:Int)
  ·rw[ze0 h (by omega) hlt (by rw[hid];decide)];rfl
  ·rw[zhz (by omega) (by omega)];rfl
 have hkn:kidsU (zgg n)=n.2.2.1:=rfl
 have hcnt:∀j,(X9 (addP p n)).count j=(X9 p).count j+n.2.2.1.count j:=by
  intro j
  have:=y4t (ext p) (K1 p:Int) (zgg n) j (by omega) hlen.1
  rw[hkD,hkn,zve,<-hak]at this
  simpa using this
 have hmem:∀j,j∈X9 (addP p n)->W5 p j=true:=by
  intro j hj
  have h1:=bh.2 hj
  rw[hcnt]at h1
  by_cases hc:0<(X9 p).count j
  ·exact h.kid j (bh.1 hc)
  ·exact z74.1 hu j (bh.1 (by omega))
 have hc0:R.count (K1 p:Int)=0/\(X9 (addP p n)).count (K1 p:Int)=0:=by
  refine⟨db.2 fun hm=> ?_,db.2 fun hm=> ?_⟩
  ·have:=h.mem _ hm;rw[hid]at this;cases this
  ·have:=hmem _ hm;rw[hid]at this;cases this
 have hR:∀i:Int,(R++[(K1 p:Int)]).count i=R.count i+(if i=(K1 p:Int)then 1 else 0):=by
  intro i
  rw[cG,dC,ff]
  by_cases e:i=(K1 p:Int)
  ·subst e;simp
  ·have e':¬(K1 p:Int)=i:=fun h=>e h.symm
   simp[e,e']
 refine⟨⟨fun s hs he=> ?_,fun s hs=> ?_,fun i hi=> ?_,fun k hk=> ?_,fun k hk=>(hused k).2 (.inr (hmem k hk)),fun i hi=> ?_, ?_⟩, ?_⟩
 ·obtain⟨i,h0,h1,h2⟩:=y67 D0 hs
  have h2:slA (addP p n) i=s:=h2
  rw[hat i h0]at h2
  by_cases e:i=(K1 p:Int)
  ·rw[if_pos e]at h2;subst h2;cases he
  ·rw[if_neg e]at h2
   subst h2
   have he:(slA p i).1=false:=he
   have hnu:¬W5 p i=true:=fun hh=>by have:=(V5.1 hh).2.2;rw[he]at this;cases this
   have hc:n.2.2.1.count i=0:=db.2 fun hm=>hnu (z74.1 hu i hm)
   have hz:slA p i=D0:=by
    by_cases hlt:i<(p.length:Int)
    ·exact ze0 h h0 hlt hnu
    ·exact zhz h0 (by omega)
   rw[hz,hc];rfl
 ·obtain⟨i,h0,h1,h2⟩:=y67 D0 hs
  have h2:slA (addP p n) i=s:=h2
  rw[hat i h0]at h2
  by_cases e:i=(K1 p:Int)
  ·rw[if_pos e]at h2;subst h2;rfl
  ·rw[if_neg e]at h2
   subst h2
   show(slA p i).2.1=false
   by_cases hlt:i<(p.length:Int)
   ·exact h.lost _ (z6m h0 hlt)
   ·rw[zhz h0 (by omega)]
 ·rw[hR,hcnt]
  rcases(hused i).1 hi with rfl | hip
  ·have:=hcnt (K1 p:Int)
   rw[hat _ (by omega),if_pos rfl,if_pos rfl,hc0.1]
   have:z4m (zgg n)=1:=rfl
   omega
  ·have e:i≠(K1 p:Int):=fun e=>by rw[e,hid]at hip;cases hip
   rw[hat i (k9 hip),if_neg e,if_neg e]
   have:∀x,z4m (J4 (slA p i) x)=x:=fun _=>rfl
   rw[this,h.refs i hip]
   omega
 ·rcases ak.1 hk with hk | hk
  ·exact(hused k).2 (.inr (h.mem k hk))
  ·exact(hused k).2 (.inl (by simpa using hk))
 ·rw[hR,hcnt]
  rcases(hused i).1 hi with rfl | hip
  ·rw[if_pos rfl];omega
  ·have:=h.pos i hip;omega
 ·obtain⟨r,hr⟩:=h.rank
  obtain⟨B,hB⟩:=y2l p r
  refine⟨fun j=>if j=(K1 p:Int)then B else r j,fun i hi k hk=> ?_⟩
  have kne:∀k,W5 p k=true->k≠(K1 p:Int):=fun k hk e=>by rw[e,hid]at hk;cases hk
  rcases(hused i).1 hi with rfl | hip
  ·rw[hat _ (by omega),if_pos rfl]at hk
   have hk:k∈n.2.2.1:=hk
   have hku:=z74.1 hu k hk
   simp only[if_neg (kne k hku),if_true]
   exact hB k hku
  ·have e:=kne i hip
   rw[hat i (k9 hip),if_neg e]at hk
   have hk:k∈y8 (slA p i):=hk
   have hku:=h.kid k (y30 hip hk)
   simp only[if_neg (kne k hku),if_neg e]
   exact hr i hip k hk
 ·have:=zmh (ext p) (K1 p:Int) (zgg n) (by omega) hlen.1
  rw[hkD,hkn,zve,<-hak]at this
  simpa using this
end Ds
namespace Ds
open Go Go.Dv
set_option maxRecDepth 100000
variable [Fuel]
theorem Thr.comp{e h c c':Nat}{l r t:List Sp}(a:Thr e h l r c)(b:Thr (e+c) (h-c) r t c'):Thr e h l t (c+c'):=
 ⟨b.sep,by rw[<-bV];exact b.g,by rw[<-Nat.sub_sub];exact aW b.wt a.wt⟩
theorem ymc(m:Mg):mvs m<=1:=by unfold mvs;split<;>omega
theorem ybj(buf:List Mg){g:Nat}(hg1:1<=g)(hm:∀m∈buf,GM g m)(hbl:buf.length<100000000):∀(j:Nat) (l:List Sp) (n e h:Nat),j<=buf.length->j<n->g<=e->e+mvN (buf.take j)<40000->mvN (buf.take j)<h->Sep l->(∀s∈l,SpG e s)->
  ∃r,z8q NN n buf l ((j:Int)-1)=some (r,())/\Thr e h l r (mvN (buf.take j))
 | _,_,0,_,_,_,h,_,_,_,_,_=>absurd h (ag _)
 | 0,l,n+1,e,h,_,_,_,_,_,hs,hg=>by
  refine⟨l, ?_,hs,hg,al _⟩
  rw[zfh]
  simp only[z2n]
  rw[Y3 (by simp)]
 | j+1,l,n+1,e,h,hj,hn,hge,he,hh,hs,hg=>by
  have ht:buf.take (j+1)=buf.take j++[buf[j]]:=by rw[List.take_succ_eq_append_getElem]
  have hmv:mvN (buf.take (j+1))=mvN (buf.take j)+mvs buf[j]:=by rw[ht,z7o];simp[mvN]
  obtain⟨r,r1,r2⟩:=ydt (e:=e) (h:=h) (by omega) hg1 hge (hm buf[j] (List.getElem_mem _)) hs hg (by omega)
  obtain⟨t,t1,t2⟩:=ybj buf hg1 hm hbl j r n (e+mvs buf[j]) (h-mvs buf[j]) (by omega) (by omega) (by omega) (by omega) (by omega) r2.sep r2.g
  refine⟨t, ?_,by rw[hmv,Nat.add_comm];exact r2.comp t2⟩
  rw[zfh]
  simp only[z2n]
  have e1:((j+1:Nat):Int)-1=(j:Int):=by omega
  have e2:rdL buf (j:Int) Q7=buf[j]:=by
   rw[ym7 (x:=buf[j]) (by omega) (by simp[aI (show j<buf.length by omega)])]
  rw[e1,X2 (by simp),gd_t (V8 (by omega) (by omega)),e2,r1]
  simp only[ab]
  rw[w64 (by omega) (by omega)]
  exact t1
theorem yiy{buf:List Mg}{g:Nat}(hg1:1<=g)(hm:∀m∈buf,GM g m)(hbl:buf.length<100000000){e h:Nat}(hge:g<=e)(he:e+mvN buf<40000)(hh:mvN buf<h){s:Sp}(hs:SpG e s):
  ∃r,zj7 NN s buf=some r/\Sep r/\(∀x∈r,SpG (e+mvN buf) x)/\wt (h-mvN buf) (inS r)<=wt h (hasB s):=by
 obtain⟨r,r1,r2,r3,r4,r5⟩:=zea NN (l:=[s]) (by have:=V0;simp;omega) (by simp)
 have hr:∀x∈r,SpG e x:=fun x hx=>by
  obtain⟨⟨a,ha,ea⟩,b,hb,eb⟩:=r5 x hx
  have ha:=(aB.1 ha).1
  have hb:=(aB.1 hb).1
  simp at ha hb
  subst ha hb
  exact⟨r4.full x hx,by rw[ea];exact hs.2.1,by rw[eb];exact hs.2.2⟩
 have htk:buf.take buf.length=buf:=List.take_length
 obtain⟨t,t1,t2⟩:=ybj buf hg1 hm hbl buf.length r NN e h (al _) (by have:=V0;omega) hge (by rw[htk];exact he) (by rw[htk];exact hh) r4 hr
 rw[htk]at t2
 refine⟨t, ?_,t2.sep,t2.g,aW t2.wt (zkh fun a ha=>by rw[r2]at ha;simpa[inS] using ha)⟩
 simp only[zj7,r1,ab]
 rw[w64 (by omega) (by omega),t1]
 rfl
theorem yob(N:Nat)(s:Sp)(k:B):zpg N s k=some (hasB s k):=by simp only[zpg,hasB];cases lts k s.1<;>cases eqs s.2 []<;>rfl
theorem y6j{t:List Pr}{i:Int}{x:Pr}(hi:inB i t.length=true)(hx:rdL t i X6=x)(out:List Pr):∀(post pre:List Sp) (b:Bool) (n:Nat),post.length<n->(pre++post).length<100000000->
  z7d NN n t (pre++post) i b (pre.length:Int) out=some ((t,(pre++post,((),(i,b || inS post x.1)))),(out,()))
 | _,_,_,0,h,_=>absurd h (ag _)
 | [],pre,b,n+1,_,_=>by
  rw[zdj]
  simp only[z13,ai,aA,decide_false,cond_false]
  simp[inS]
 | s::post,pre,b,n+1,hn,hl=>by
  simp only[af]at hn
  have hb:pre.length<9223372036854775807:=by simp at hl;omega
  have ih:=fun b=>y6j hi hx out post (pre++[s]) b n (by omega) (by simpa using hl)
  rw[zdj]
  simp only[z13,Q1,V6,cond_true,U4,hx,yob,ab]
  cases b
  ·rw[cond_false,gd_t rfl,gd_t hi,V1 (q:=s) hb,U1 (pre:=pre) (q:=s) (post:=post),ih]
   simp[inS]
  ·rw[cond_true,V1 (q:=s) hb,U1 (pre:=pre) (q:=s) (post:=post),ih]
   simp
theorem y6i{t:List Pr}{l:List Sp}(ht:t.length<100000000)(hl:l.length<100000000):zce NN t l=some (t.filter fun p=>inS l p.1):=by
 have h:=y9j (xs:=t) (L:=fun n i s=>z7e NN n t l i s) (fun o x=>bif inS l x.1 then o++[x]else o) (fun s=>((),(s,()))) (fun s post=>s.length+post.length<100000000)
  (fun n s _=>by
   rw[zdk]
   simp only[z14,aA,decide_false,cond_false])
  (fun n pre x post s hx hi=>by
   simp only[af]at hi
   have hb:pre.length<9223372036854775807:=by rw[hx]at ht;simp at ht;omega
   have h1:=y6j (t:=pre++x::post) (i:=(pre.length:Int)) (x:=x) V6 U4 s l [] false NN (by have:=V0;omega) (by simpa using hl)
   have hz:(([]:List Sp).length:Int)=0:=rfl
   simp only[aj,hz,cD]at h1
   rw[zdk]
   rw[hx]
   simp only[z14,Q1,cond_true,h1,ab,V6,U4]
   rw[V1 (q:=x) hb]
   cases inS l x.1
   ·exact⟨rfl,by simp only[cond_false];omega⟩
   ·rw[cond_true,gd_t rfl,gd_t (Y4 (by simp;omega) (by omega))]
    exact⟨rfl,by simp;omega⟩) (n:=NN) (s:=[]) (by have:=V0;omega) (by simpa using ht)
 simp only[zce,h,ab,y4k,aj]
mutual
inductive Tr where
 | leaf (ps:List Pr)
 | node (ks:Trs) (piv:List B) (buf:List Mg)
inductive Trs where
 | nil
 | cons (t:Tr) (ts:Trs)
end
def Trs.len:Trs->Nat
 | .nil=>0
 | .cons _ ts=>ts.len+1
mutual
def Tr.mv:Tr->Nat
 | .leaf _=>0
 | .node ks _ buf=>ks.mv+mvN buf
def Trs.mv:Trs->Nat
 | .nil=>0
 | .cons t ts=>t.mv+ts.mv
end
mutual
def Tr.ht:Tr->Nat
 | .leaf _=>0
 | .node ks _ _=>ks.ht+1
def Trs.ht:Trs->Nat
 | .nil=>0
 | .cons t ts=>max t.ht ts.ht
end
mutual
def Unf(p:List Sl):Int->Tr->Prop
 | i, .leaf ps=>W5 p i=true/\(slA p i).2.1=false/\zb2 (slA p i)=(ps,([],([],([],[]))))
 | i, .node ks piv buf=>W5 p i=true/\(slA p i).2.1=false/\∃kids sums,zb2 (slA p i)=([],(piv,(kids,(sums,buf))))/\sums.length=kids.length/\kids≠[]/\UnfL p kids ks
def UnfL(p:List Sl):List Int->Trs->Prop
 | [], .nil=>True
 | k::kids, .cons t ts=>Unf p k t/\UnfL p kids ts
 | _,_=>False
end
theorem UnfL.len{p:List Sl}:∀{ks:Trs} {kids:List Int},UnfL p kids ks->kids.length=ks.len
 | .nil,[],_=>rfl
 | .nil,_::_,h=>by simp[UnfL]at h
 | .cons _ _,[],h=>by simp[UnfL]at h
 | .cons t ts,k::kids,h=>by
  simp only[UnfL]at h
  simp only[af,Trs.len,UnfL.len h.2]
def LiesIn(s:Sp)(m:Mg):Prop:=∀x∈wr m++rds m,∀k,hasB x k=true->hasB s k=true
mutual
def VT(g:Nat):B->B->Tr->Prop
 | lo,hi, .leaf ps=>Tb g ps/\∀p∈ps,hasB (lo,hi) p.1=true
 | lo,hi, .node ks piv buf=>VTs g lo hi ks piv/\∀m∈buf,GM g m/\LiesIn (lo,hi) m
def VTs(g:Nat):B->B->Trs->List B->Prop
 | lo,hi, .cons t .nil,[]=>VT g lo hi t
 | lo,hi, .cons t (.cons u ts),q::piv=>q∈KU g/\lts lo q=true/\belowB q hi=true/\VT g lo q t/\VTs g q hi (.cons u ts) piv
 | _,_,_,_=>False
end
def z4u(s:Sp)(lo:B):List B->List Sp
 | []=>[w5 s (lo,[])]
 | p::r=>w5 s (lo,p)::z4u s p r
theorem zpk(s:Sp):∀(l:List B) (lo:B),(z4u s lo l).length=l.length+1
 | [],_=>rfl
 | p::r,_=>by simp[z4u,zpk s r p]
theorem y6u(s:Sp):∀(post pre:List B) (lo:B) (n:Nat) (out:List Sp),post.length<n->(pre++post).length<100000000->out.length<=pre.length->
  ∃q last,z8y NN n (pre++post) lo (pre.length:Int) s out=some (((),((),last)),(s,(q,())))/\q++[w5 s (last,[])]=out++z4u s lo post/\q.length<=(pre++post).length
 | _,_,_,0,_,h,_,_=>absurd h (ag _)
 | [],pre,lo,n+1,out,_,_,ho=>⟨out,lo,by rw[zfo,z2u,yqq];rfl,rfl,by simpa using ho⟩
 | p::post,pre,lo,n+1,out,hn,hb,ho=>by
  have hb':pre.length+(post.length+1)<100000000:=by simpa using hb
  obtain⟨q,last,h1,h2,h3⟩:=y6u s post (pre++[p]) p n (out++[w5 s (lo,p)]) (by simpa using hn) (by rw[<-U1];exact hb) (by simp;omega)
  rw[<-U1]at h1 h3
  refine⟨q,last, ?_,by rw[h2];simp[z4u],h3⟩
  rw[zfo,z2u,Q1,cond_true,gd_t V6,U4,zl3]
  simp only
  rw[gd_t (Y4 (by omega) (by omega)),gd_t V6,V1 (q:=p) (by omega)]
  exact h1
theorem zy5(s:Sp){l:List B}(h:l.length<100000000):zej NN s l=some (z4u s [] l):=by
 obtain⟨q,last,h1,h2,h3⟩:=y6u s l [] [] NN [] (by have:=V0;omega) (by simpa using h) (al _)
 simp only[aj,aq]at h1 h2 h3
 rw[show((0:Nat):Int)=0 from rfl]at h1
 unfold zej
 rw[h1]
 simp only
 rw[zl3]
 simp only
 rw[gd_t (Y4 (by omega) (by omega))]
 show some (q++[w5 s (last,[])])=_
 rw[h2]
theorem ykt{s:Sp}{g:Nat}{m:Mg}(hm:GM g m)(h:LiesIn s m){t:List Pr}(ht:∀p∈t,hasB s p.1=true):∀p∈app m t,hasB s p.1=true:=by
 have hw:∀x∈wr m,∀k,hasB x k=true->hasB s k=true:=fun x hx=>h x (bk _ hx)
 have mvd_in:∀{e:B×B},e∈ends->preB e.2∈wr m->∀p∈mvd e.1 e.2 t,hasB s p.1=true:=fun {e} he hp p hp'=>by
  unfold mvd at hp'
  obtain⟨x,hx,rfl⟩:=aH.1 hp'
  exact hw _ hp _ (by rw[z6n (Q9 he).2];exact zmx _ _)
 have uni_in:∀{a b:List Pr},(∀p∈a,hasB s p.1=true)->(∀p∈b,hasB s p.1=true)->∀p∈uniT a b,hasB s p.1=true:=by
  intro a b ha hb
  unfold uniT
  induction b generalizing a with
  | nil=>exact ha
  | cons q b ih=>
   rw[aX]
   refine ih (fun p hp=> ?_) fun p hp=>hb p (by simp[hp])
   rcases insT_mem hp with rfl | hp
   ·exact hb _ (by simp)
   ·exact ha _ hp
 have fl:∀f:Pr->Bool,∀p∈t.filter f,hasB s p.1=true:=fun f p hp=>ht p (aB.1 hp).1
 cases hm with
 | put k v n hk hv=>
  intro p hp
  rcases insT_mem (p:=(k,v,n)) hp with rfl | hp
  ·exact hw (k,k++[0]) (by simp[wr,eqi]) k (zqg (y47 k))
  ·exact ht p hp
 | del k hk=>exact fl _
 | drop x hx=>exact fl _
 | move e he=>exact fun p hp=>uni_in (fl _) (mvd_in he (by simp[wr,eqi])) p (aB.1 hp).1
 | clone e he=>exact uni_in (fl _) (mvd_in he (by simp[wr,eqi]))
 | stamp x n hx=>
  intro p hp
  obtain⟨y,hy,rfl⟩:=aH.1 (show p∈t.map (stp x n)from hp)
  have:=ht y hy
  unfold stp
  cases hasB x y.1<;>exact this
theorem zyb{s:Sp}{g:Nat}:∀{ms:List Mg} {t:List Pr},(∀m∈ms,GM g m/\LiesIn s m)->(∀p∈t,hasB s p.1=true)->∀p∈apps ms t,hasB s p.1=true
 | [],_,_,ht=>ht
 | m::ms,t,h,ht=>zyb (ms:=ms) (fun x hx=>h x (by simp[hx])) (ykt (h m (by simp)).1 (h m (by simp)).2 ht)
theorem ygg{buf:List Mg}{g:Nat}(hg1:1<=g)(hm:∀m∈buf,GM g m)(hbl:buf.length<100000000){e h:Nat}(hge:g<=e)(he:e+mvN buf<40000)(hh:mvN buf<h)(heh:e+mvN buf<=h-mvN buf)
  (self:List Sl->Int->Sp->List Sp->Option (List Pr×Int)) (p:List Sl) (s0:Sp) {nd:Nd} (hnd:nd.2.2.2.2=buf):∀(post pre out:List Sp) (n:Nat),post.length<n->(pre++post).length<100000000->out.length+wts h post<100000000->(∀s∈post,SpG e s)->
  ∃r,zaj NN self n (pre++post) (pre.length:Int) p s0 nd out=some ((pre++post,((),((),((),())))),(p,(s0,(nd,(out++r,())))))/\(∀x∈r,SpG (e+mvN buf) x)/\wts (h-mvN buf) r<=wts h post
 | _,_,_,0,h,_,_,_=>absurd h (ag _)
 | [],pre,out,n+1,_,_,_,_=>by
  refine⟨[], ?_,(fun x h=>by cases h),by simp[wts]⟩
  rw[zh1]
  simp only[z3v,ai,aA,decide_false,cond_false]
 | s::post,pre,out,n+1,hn,hl,ho,hs=>by
  simp only[af]at hn
  have hb:pre.length<9223372036854775807:=by simp at hl;omega
  have ew:wts h (s::post)=wt h (hasB s)+wts h post:=by simp[wts]
  obtain⟨r,r1,r2,r3,r4⟩:=yiy hg1 hm hbl hge he hh (hs s (by simp))
  have hsp:=y8n (g:=h-mvN buf) r2
  have hrl:r.length<=wts (h-mvN buf) r:=zw8 fun x hx=>⟨(r3 x hx).1,UU.mono heh (r3 x hx).2.1⟩
  obtain⟨t,t1,t2,t3⟩:=ygg hg1 hm hbl hge he hh heh self p s0 hnd post (pre++[s]) (out++r) n (by omega) (by simpa using hl) (by rw[ae];omega) fun x hx=>hs x (by simp[hx])
  refine⟨r++t, ?_,fun x hx=> ?_,by rw[ydp,ew];omega⟩
  ·rw[zh1]
   simp only[z3v,Q1,V6,cond_true,U4,hnd,r1,ab]
   rw[gd_t rfl,gd_t (Y4 (by omega) (by omega)),V1 (q:=s) hb,U1 (pre:=pre) (q:=s) (post:=post),t1]
   simp
  ·rcases ak.1 hx with hx | hx
   ·exact r3 x hx
   ·exact t2 x hx
theorem y2c{a b:List Pr}(ha:Srt a)(hb:Srt b)(h:∀x∈a,∀y∈b,lts x.1 y.1=true):Srt (a++b):=bD.2 ⟨ha,hb,h⟩
theorem yfe{p:List Sl}{i:Int}(hu:W5 p i=true)(hl:(slA p i).2.1=false):za1 NN p i=some (zb2 (slA p i),0):=by
 obtain⟨h0,h1,_⟩:=V5.1 hu
 unfold za1
 rw[zbm,hu]
 simp only[aN,cond_false]
 have hl':((rdL p i X4).2).1=false:=hl
 rw[gd_t (V8 h0 h1),Y3 hl',gd_t (V8 h0 h1)]
 rfl
def yqz(p:List Sl)(n:Nat)(T:Tr):Prop:=∀(id:Int) (s:Sp) (l:List Sp) (e h g:Nat) (lo hi:B),Unf p id T->VT g lo hi T->1<=g->g<=e->e+T.mv<40000->e+2*T.mv<=h->(∀x∈l,SpG e x)->wts h l<10000000->
  ∃out,z0e NN n p id s l=some (out,0)/\Tb (g+T.mv) out/\∀x∈out,hasB (lo,hi) x.1=true/\inS l x.1=true
mutual
def FitT:Tr->Prop
 | .leaf _=>True
 | .node ks _ buf=>buf.length<100000000/\FitTs ks
def FitTs:Trs->Prop
 | .nil=>True
 | .cons t ts=>FitT t/\FitTs ts
end
def Trs.has(t:Tr):Trs->Prop
 | .nil=>False
 | .cons u us=>t=u\/us.has t
theorem Trs.has_ht{t:Tr}:∀{ks:Trs},ks.has t->t.ht<=ks.ht/\t.mv<=ks.mv/\sizeOf t<sizeOf ks
 | .nil,h=>h.elim
 | .cons u us,h=>by
  rcases h with rfl | h
  ·simp only[Trs.ht,Trs.mv,Trs.cons.sizeOf_spec];omega
  ·have:=Trs.has_ht (ks:=us) h
   simp only[Trs.ht,Trs.mv,Trs.cons.sizeOf_spec];omega
theorem FitTs.has{t:Tr}:∀{ks:Trs},FitTs ks->ks.has t->FitT t
 | .nil,_,h=>h.elim
 | .cons u us,hf,h=>by
  simp only[FitTs]at hf
  rcases h with rfl | h
  ·exact hf.1
  ·exact FitTs.has hf.2 h
theorem VTs.piv{g:Nat}{hi:B}:∀{ks:Trs} {piv:List B} {lo:B},VTs g lo hi ks piv->piv.Pairwise (fun a b=>lts a b=true)/\(∀q∈piv,q∈KU g/\lts lo q=true)/\ks.len=piv.length+1
 | .nil,_,_,h=>by simp[VTs]at h
 | .cons t .nil,[],_,h=>⟨bg.nil,(fun q h=>by cases h),rfl⟩
 | .cons t .nil,_::_,_,h=>by simp[VTs]at h
 | .cons t (.cons u us),[],_,h=>by simp[VTs]at h
 | .cons t (.cons u us),q::piv,lo,h=>by
  simp only[VTs]at h
  obtain⟨i1,i2,i3⟩:=VTs.piv h.2.2.2.2
  refine⟨aK.2 ⟨fun x hx=>(i2 x hx).2,i1⟩,fun x hx=> ?_, ?_⟩
  ·rcases am.1 hx with rfl | hx
   ·exact⟨h.1,h.2.1⟩
   ·exact⟨(i2 x hx).1,J8 h.2.1 (i2 x hx).2⟩
  ·simp only[Trs.len,af]at i3|-;omega
theorem VTs.plen{g:Nat}{lo hi:B}{ks:Trs}{piv:List B}(h:VTs g lo hi ks piv):piv.length<=20*(g+1):=by
 obtain⟨h1,h2,_⟩:=VTs.piv h
 have:=zft (L:=KU g) (h1.imp fun h=>zfy h) fun q hq=>(h2 q hq).1
 rwa [KU.length]at this
theorem ze9{x q hi:B}(h:lts x q=true)(hb:belowB q hi=true):belowB x hi=true:=by
 simp only[belowB,ay]at hb|-
 exact hb.imp id fun h'=>J8 h h'
theorem y6p{p:List Sl}{n:Nat}{l need:List Sp}{e h g G:Nat}(hg1:1<=g)(hge:g<=e)(hG:G<40000){hi:B}{nd:Nd}{sp:List Sp}(hneed:∀x∈need,SpG e x)(hw:wts h need<10000000)(heh:e<=h)(hks:nd.2.2.1.length<10000001)(hsp:sp.length=nd.2.2.1.length):
  ∀(ks:Trs) (post pre:List Int) (piv:List B) (lo:B) (m:Nat) (all:List Pr),nd.2.2.1=pre++post->post.length<m->UnfL p post ks->VTs g lo hi ks piv->e+ks.mv<40000->e+2*ks.mv<=h->g+ks.mv<=G->
   (∀(k:Int) (t:Tr) (s:Sp) (a b:B),ks.has t->Unf p k t->VT g a b t->∃out,z0e NN n p k s need=some (out,0)/\Tb (g+t.mv) out/\∀x∈out,hasB (a,b) x.1=true/\inS need x.1=true)->
   Tb G all->(∀x∈all,lts x.1 lo=true)->
   ∃r,z7u NN (z0e NN n) m l need sp (pre.length:Int) p nd all=some (.inr ((l,((),())),(nd,(all++r,()))))/\Tb G (all++r)/\∀x∈r,hasB (lo,hi) x.1=true
 | _,_,_,_,_,0,_,_,h,_,_,_,_,_,_,_,_=>absurd h (ag _)
 | .nil,post,pre,piv,lo,m+1,all,hk,hm,hu,hv,_,_,_,_,_,_=>by simp[VTs]at hv
 | .cons t ts,[],pre,piv,lo,m+1,all,hk,hm,hu,hv,_,_,_,_,_,_=>by simp[UnfL]at hu
 | .cons t ts,k::post,pre,piv,lo,m+1,all,hk,hm,hu,hv,he,heh2,hgG,ih,hall,hlo=>by
  simp only[af]at hm
  have hlen:nd.2.2.1.length=pre.length+(post.length+1):=by rw[hk];simp
  have hb:pre.length<9223372036854775807:=by omega
  simp only[UnfL]at hu
  simp only[Trs.mv]at he heh2 hgG ih
  have hnl:need.length<10000000:=bJ (zw8 fun x hx=>⟨(hneed x hx).1,UU.mono heh (hneed x hx).2.1⟩) hw
  obtain⟨q,hvt,hqhi,hqq⟩:∃q,VT g lo q t/\(∀x,hasB (lo,q) x=true->hasB (lo,hi) x=true)/\∀q' r,piv=q'::r->q=q':=by
   cases ts with
   | nil=>
    cases piv with
    | nil=>simp only[VTs]at hv;exact⟨hi,hv,fun _ h=>h,fun q' r h=>by cases h⟩
    | cons _ _=>simp[VTs]at hv
   | cons u us=>
    cases piv with
    | nil=>simp[VTs]at hv
    | cons q piv=>
     simp only[VTs]at hv
     refine⟨q,hv.2.2.2.1,fun x hx=> ?_,fun q' r h=>by cases h;rfl⟩
     rw[U5]at hx|-
     simp only[belowB,ac,ay]at hx|-
     refine⟨hx.1, ?_⟩
     rcases hx.2 with h' | h'
     ·exact absurd (J6.1 h') (KU.ne hv.1)
     ·have:=ze9 h' hv.2.2.1
      simpa[belowB] using this
  have hcut:cut2 sp (pre.length:Int) ((pre++[k]).length:Int)=(sp.drop pre.length).take 1:=by
   simp[cut2]
  have hcl:((sp.drop pre.length).take 1).length<=1:=by simp;omega
  have ht:=zp5 (l:=need) (m:=(sp.drop pre.length).take 1) (by omega) (by omega)
  have next:∀all',Tb G all'->(∀x∈all',(lts x.1 lo=true\/hasB (lo,q) x.1=true))->∃r,z7u NN (z0e NN n) m l need sp ((pre++[k]).length:Int) p nd all'=some (.inr ((l,((),())),(nd,(all'++r,()))))/\Tb G (all'++r)/\∀x∈r,hasB (lo,hi) x.1=true:=by
   intro all' h1 h2
   cases ts with
   | nil=>
    cases piv with
    | cons _ _=>simp[VTs]at hv
    | nil=>
     have hpost:post=[]:=by
      cases post with
      | nil=>rfl
      | cons a b=>have:=hu.2;simp[UnfL]at this
     subst hpost
     refine⟨[], ?_,by simpa using h1,fun x hx=>by cases hx⟩
     cases m with
     | zero=>simp at hm
     | succ m=>
      rw[zh0]
      simp only[z3u,ai]
      rw[Y3 (by rw[hk];simp)]
   | cons u us=>
    cases piv with
    | nil=>simp[VTs]at hv
    | cons q' piv=>
     simp only[VTs]at hv
     obtain⟨v1,v2,v3,v4,v5⟩:=hv
     have hle:∀x∈all',lts x.1 q'=true:=by
      intro x hx
      have eq:=hqq q' piv rfl
      subst eq
      rcases h2 x hx with h | h
      ·exact J8 h v2
      ·rw[U5]at h
       simp only[belowB,ac,ay]at h
       rcases h.2 with h | h
       ·exact absurd (J6.1 h) (KU.ne v1)
       ·exact h
     obtain⟨r,r1,r2,r3⟩:=y6p hg1 hge hG hneed hw heh hks hsp (.cons u us) post (pre++[k]) piv q' m all' (by rw[hk];simp) (by omega) hu.2 v5 (by omega) (by omega) (by omega)
      (fun k' t' s a b ht=>ih k' t' s a b (.inr ht)) h1 hle
     refine⟨r,r1,r2,fun x hx=> ?_⟩
     have:=r3 x hx
     rw[U5]at this|-
     simp only[ac,aw]at this|-
     exact⟨zvv (z0p v2) this.1,this.2⟩
  rw[zh0]
  have hlt:decide ((pre.length:Int)<(nd.2.2.1.length:Int))=true:=by rw[hk];exact Q1
  have hin:inB (pre.length:Int) nd.2.2.1.length=true:=by rw[hk];exact V6
  have hrd:rdL nd.2.2.1 (pre.length:Int) (0:Int)=k:=by rw[hk];exact U4
  simp only[z3u,hlt,cond_true,hin,hrd,V1 (q:=k) hb,hcut,ht,ab]
  rw[gd_t (by rw[hsp,hlen];simp;omega)]
  cases touchB need ((sp.drop pre.length).take 1)
  ·rw[X2 (by rfl)]
   exact next all hall fun x hx=> .inl (hlo x hx)
  ·obtain⟨out,o1,o2,o3⟩:=ih k t (rdL sp (pre.length:Int) Y8) lo q (.inl rfl) hu.1 hvt
   have hsa:Tb G (all++out):=⟨y2c hall.srt o2.srt fun x hx y hy=>by
     have h1:=hlo x hx
     have h2:=(o3 y hy).1
     rw[U5]at h2
     simp only[ac,aw]at h2
     exact zl4 h1 h2.1,fun x hx=>(ak.1 hx).elim (hall.key x) fun h=>(o2.mono (by omega)).key x h⟩
   have hsl:=hsa.len
   rw[ae]at hsl
   obtain⟨r,r1,r2,r3⟩:=next (all++out) hsa fun x hx=>(ak.1 hx).elim (fun h=> .inl (hlo x h)) fun h=> .inr (o3 x h).1
   refine⟨out++r, ?_,by rw[<-au];exact r2,fun x hx=> ?_⟩
   ·rw[Y3 (by rfl),gd_t rfl,gd_t (by rw[hsp];exact hin),o1]
    simp only[ab]
    rw[Y3 (by rfl),gd_t (Y4 (by omega) (by omega)),r1,au]
   ·rcases ak.1 hx with hx | hx
    ·exact hqhi _ (o3 x hx).1
    ·exact r3 x hx
theorem yfz(p:List Sl):∀(sz:Nat) (T:Tr) (n:Nat),sizeOf T<=sz->T.ht<n->FitT T->yqz p n T
 | _,_,0,_,h,_=>absurd h (ag _)
 | 0,T,_,h,_,_=>by cases T<;>simp at h
 | sz+1, .leaf ps,n+1,_,_,_=>by
  intro id s l e h g lo hi hu hv hg1 hge he heh hl hw
  simp only[Unf]at hu
  simp only[VT]at hv
  obtain⟨u1,u2,u3⟩:=hu
  simp only[Tr.mv,bC,Nat.mul_zero]at he heh|-
  have hpl:=hv.1.len
  have hll:l.length<10000000:=bJ (zw8 fun x hx=>⟨(hl x hx).1,UU.mono heh (hl x hx).2.1⟩) hw
  refine⟨ps.filter fun x=>inS l x.1, ?_,hv.1.filter _,fun x hx=> ?_⟩
  ·rw[zdl]
   simp only[z4q,yfe u1 u2,u3,ab]
   rw[Y3 (by rfl),X2 (by rfl),y6i (by omega) (by omega)]
   rfl
  ·obtain⟨h1,h2⟩:=aB.1 hx
   exact⟨hv.2 x h1,h2⟩
 | sz+1, .node ks piv buf,n+1,hsz,hn,hf=>by
  intro id s l e h g lo hi hu hv hg1 hge he heh hl hw
  simp only[Unf]at hu
  simp only[VT]at hv
  simp only[FitT]at hf
  simp only[Tr.mv,Tr.ht]at he heh hn|-
  obtain⟨u1,u2,kids,sums,u3,u4,u5,u6⟩:=hu
  have hpl:=VTs.plen hv.1
  obtain⟨_,_,hkl⟩:=VTs.piv hv.1
  have hkl':=u6.len
  have hll:l.length<10000000:=bJ (zw8 fun x hx=>⟨(hl x hx).1,UU.mono (by omega) (hl x hx).2.1⟩) hw
  have hG:∀m∈buf,GM g m:=fun m hm=>(hv.2 m hm).1
  obtain⟨need,n1,n2,n3⟩:=ygg hg1 hG hf.1 hge (e:=e) (h:=h) (by omega) (by omega) (by omega) (z0e NN n) p s (nd:=([],(piv,(kids,(sums,buf))))) rfl l [] [] NN (by have:=V0;omega) (by simp;omega) (by simp;omega) hl
  have hz:(([]:List Sp).length:Int)=0:=rfl
  simp only[aj,hz]at n1
  have hkne:eqi (kids.length:Int) 0=false:=G6 (by
   have:kids.length≠0:=fun h=>u5 (bN.1 h)
   omega)
  have hsp:z96 NN ([],(piv,(kids,(sums,buf)))) s=some (z4u s [] piv):=by
   simp only[z96,hkne,cond_false,zy5 s (show piv.length<100000000 by omega)]
  obtain⟨r,r1,r2,r3⟩:=y6p (p:=p) (n:=n) (l:=l) (need:=need) (e:=e+mvN buf) (h:=h-mvN buf) (g:=g) (G:=g+ks.mv) hg1 (by omega) (by omega) (nd:=([],(piv,(kids,(sums,buf))))) (sp:=z4u s [] piv)
   n2 (by omega) (by omega) (by simp only;omega) (by rw[zpk];simp only;omega) ks kids [] piv lo NN [] rfl (by have:=V0;omega) u6 hv.1 (by omega) (by omega) (al _)
   (fun k t s' a b ht hu' hv'=>by
    obtain⟨q1,q2,q3⟩:=Trs.has_ht ht
    simp only[Tr.node.sizeOf_spec]at hsz
    exact yfz p sz t n (by omega) (by omega) (FitTs.has hf.2 ht) k s' need (e+mvN buf) (h-mvN buf) g a b hu' hv' hg1 (by omega) (by omega) (by omega) n2 (by omega))
   ⟨bg.nil,fun x h=>by cases h⟩ (fun x h=>by cases h)
  simp only[aj]at r1 r2
  have hz':(([]:List Int).length:Int)=0:=rfl
  rw[hz']at r1
  have ha:=yg8 (ms:=buf) (g:=g+ks.mv) (by have:=hf.1;simp only[Big];omega) (fun m hm=>(hG m hm).mono (by omega)) r2 (by omega)
  have hT:=y9e r2 fun m hm=>(hG m hm).mono (show g<=g+ks.mv by omega)
  have hTl:=hT.len
  have hreg:=zyb (s:=(lo,hi)) hv.2 r3
  refine⟨(apps buf r).filter fun x=>inS l x.1, ?_, ?_,fun x hx=> ?_⟩
  ·rw[zdl]
   simp only[z4q,yfe u1 u2,u3,ab,hkne]
   rw[Y3 (by rfl),Y3 (by rfl),n1]
   simp only[ab,hsp,r1,ha]
   rw[y6i (by omega) (by omega)]
   rfl
  ·rw[<-bV];exact hT.filter _
  ·obtain⟨h1,h2⟩:=aB.1 hx
   exact⟨hreg x h1,h2⟩
theorem yot{p:List Sl}{sh:U0}{id:Int}{T:Tr}{g:Nat}{lo hi:B}(hu:Unf p id T)(hv:VT g lo hi T)(hg1:1<=g)(hg:g+T.mv<30000)(hf:FitT T)(hh:T.ht<NN){s:Sp}(hs:SpG g s):
  ∃out,zm7 NN (p,(id,sh)) s=some (out,0)/\Tb (g+T.mv) out/\∀x∈out,hasB (lo,hi) x.1=true/\hasB s x.1=true:=by
 have hw:=ymx (g+2*T.mv) (hasB s)
 obtain⟨out,o1,o2,o3⟩:=yfz p (sizeOf T) T NN (al _) hh hf id ([],[]) [s] g (g+2*T.mv) g lo hi hu hv hg1 (al _) (by omega) (al _) (fun x hx=>by simp at hx;rw[hx];exact hs) (by simp[wts];omega)
 refine⟨out, ?_,o2,fun x hx=>⟨(o3 x hx).1,by have:=(o3 x hx).2;rwa [in1]at this⟩⟩
 have o1':y2j NN p id ([],[]) [s]=some (out,0):=o1
 simp only[zm7,o1',ab]
def wm(G:Nat)(m:Mg):Nat:=bif eqi m.1 3 || eqi m.1 6 then wt G (hasB m.2.2.2.1)else 1
def wb(G:Nat)(l:List Mg):Nat:=(l.map (wm G)).sum
def pts(m:Mg):Nat:=if m.1=1 then 1 else 0
def ptN(l:List Mg):Nat:=(l.map pts).sum
theorem za0(G:Nat)(a b:List Mg):wb G (a++b)=wb G a+wb G b:=by simp[wb]
theorem zi7(a b:List Mg):ptN (a++b)=ptN a+ptN b:=by simp[ptN]
theorem zpx(G:Nat)(m:Mg)(a:List Mg):wb G (m::a)=wm G m+wb G a:=by simp[wb]
theorem y50(G:Nat)(m:Mg):wb G [m]=wm G m:=by simp[wb]
theorem y8o(G:Nat)(s:Sp):wm G (zcx s)=wt G (hasB s):=by unfold wm;rw[show eqi (zcx s).1 3=true from rfl];rfl
theorem y3v(G:Nat)(s:Sp)(n:Int):wm G (zl1 s n)=wt G (hasB s):=by unfold wm;rw[show eqi (zl1 s n).1 6=true from rfl,eh];rfl
theorem yfn(G:Nat){m:Mg}(h3:eqi m.1 3=false)(h6:eqi m.1 6=false):wm G m=1:=by unfold wm;rw[h3,h6];rfl
theorem yfa{g G:Nat}(h:g<=G){m:Mg}(hm:GM g m):1<=wm G m:=by
 cases hm with
 | drop s hs=>rw[y8o];exact y9i (UU.mono h hs.2.1) (zqg hs.1)
 | stamp s n hs=>rw[y3v];exact y9i (UU.mono h hs.2.1) (zqg hs.1)
 | _=>rw[yfn G rfl rfl];exact al 1
theorem ymy(G:Nat)(m:Mg):wm G m<=5+48*(G+1):=by
 unfold wm
 cases eqi m.1 3 || eqi m.1 6
 ·simp only[cond_false];omega
 ·exact ymx _ _
theorem zcm{g G:Nat}(h:g<=G):∀{l:List Mg},(∀m∈l,GM g m)->l.length<=wb G l
 | [],_=>bn _
 | m::l,hl=>by
  have:=zcm h (l:=l) fun x hx=>hl x (by simp[hx])
  have:=yfa h (hl m (by simp))
  rw[zpx,af];omega
def covB(s x:Sp):Bool:=emptyB x || (!(emptyB s)&&((lts s.1 x.1 || eqs s.1 x.1)&& !(lessB s.2 x.2)))
theorem ymm(N:Nat)(s x:Sp):zcj N s x=some (covB s x):=by
 simp only[zcj,z3g,y92,covB]
 cases emptyB x<;>cases emptyB s<;>cases lts s.1 x.1<;>cases eqs s.1 x.1<;>rfl
theorem yoh{s x:Sp}(h:covB s x=true){k:B}(hk:hasB x k=true):hasB s k=true:=by
 simp only[covB,ay,ac,aw]at h
 rcases h with h | ⟨_,h1,h2⟩
 ·rw[zin h]at hk;cases hk
 ·rw[U5]at hk|-
  simp only[ac,aw]at hk|-
  refine⟨?_,zlk h2 hk.2⟩
  rcases h1 with h1 | h1
  ·cases e:lts k s.1
   ·rfl
   ·have:=J8 e h1;rw[hk.1]at this;cases this
  ·rw[J6.1 h1];exact hk.1
theorem ygl(s:Sp):∀(post pre:List Sp) (n:Nat),post.length<n->(pre++post).length<100000000->
  zao NN n (pre.length:Int) s (pre++post)=some (bif post.all (covB s)then .inr ((),())else .inl (false,()))
 | _,_,0,h,_=>absurd h (ag _)
 | [],pre,n+1,_,_=>by
  rw[zh6]
  simp only[z40,ai,aA,decide_false,cond_false]
  rfl
 | q::post,pre,n+1,hn,hl=>by
  simp only[af]at hn
  have hb:pre.length<9223372036854775807:=by simp at hl;omega
  rw[zh6]
  simp only[z40,Q1,cond_true,U4,ymm,ab]
  rw[gd_t V6]
  cases e:covB s q
  ·simp[e]
  ·rw[aN,cond_false,V1 (q:=q) hb,U1 (pre:=pre) (q:=q) (post:=post),ygl s post (pre++[q]) n (by omega) (by simpa using hl)]
   simp[e]
theorem yoy{g:Nat}(hg:g<1000000){m:Mg}(hm:GM g m)(s:Sp):zmc NN m s=some ((rds m++wr m).all (covB s)):=by
 obtain⟨h1,h2,_⟩:=y26 m
 have h:=ygl s (rds m++wr m) [] NN (by have:=V0;simp;omega) (by simp;omega)
 have hz:(([]:List Sp).length:Int)=0:=rfl
 simp only[aj,hz]at h
 simp only[zmc,zpi hm,z7m hg hm,ab,aj]
 rw[gd_t (Y4 (by omega) (by omega)),gd_t (Y4 (by omega) (by omega)),h]
 cases (rds m++wr m).all (covB s)<;>rfl
theorem yoa{s:Sp}{m:Mg}(h:(rds m++wr m).all (covB s)=true):LiesIn s m:=by
 intro x hx k hk
 have:=az.1 h x (by simp only[ak]at hx|-;exact hx.symm)
 exact yoh this hk
theorem ycm:∀(j k:B),lts j (k++[0])=(lts j k || eqs j k)
 | [],[]=>rfl
 | [],b::k=>by simp only[aY];rfl
 | a::j,[]=>by
  simp only[aj,zcv,zmz,dQ,da]
  have:decide (a<(0:UInt8))=false:=by
   simp only[decide_eq_false_iff_not,UInt8.lt_iff_toNat_lt];simp
  rw[this,zht (by simp)];rfl
 | a::j,b::k=>by
  simp only[aY,zcv,ycm j k]
  have e:eqs (a::j) (b::k)=(a==b&&eqs j k):=rfl
  rw[e]
  cases decide (a<b)<;>cases (a==b)<;>cases lts j k<;>cases eqs j k<;>rfl
theorem y8x(k j:B):hasB (k,k++[0]) j=eqs k j:=by
 rw[U5]
 have e:eqs (k++[0]) []=false:=zht (by simp)
 have s:eqs k j=eqs j k:=yl4 k j
 simp only[belowB,e,cD,ycm,s]
 cases h:eqs j k
 ·cases lts j k<;>rfl
 ·have:=J6.1 h;subst this
  rw[w6];rfl
structure Rd (g G:Nat) (reg s:Sp) (pre go stay:List Mg):Prop where
 gg:∀m∈go,GM g m/\LiesIn s m/\LiesIn reg m
 ss:∀m∈stay,GM g m/\LiesIn reg m
 mvq:mvN go+mvN stay=mvN pre
 ptq:ptN go+ptN stay=ptN pre
 wgt:wb G go+wb G stay<=wb G pre
theorem Rd.nil(g G:Nat)(reg s:Sp):Rd g G reg s [] [] []:=⟨fun _ h=>(by cases h),fun _ h=>(by cases h),rfl,rfl,al _⟩
theorem Rd.append{g G:Nat}{reg s:Sp}{p a b p' a' b':List Mg}(h:Rd g G reg s p a b)(k:Rd g G reg s p' a' b'):Rd g G reg s (p++p') (a++a') (b++b'):=by
 refine⟨fun m hm=> ?_,fun m hm=> ?_, ?_, ?_, ?_⟩
 ·rcases ak.1 hm with hm | hm
  ·exact h.gg m hm
  ·exact k.gg m hm
 ·rcases ak.1 hm with hm | hm
  ·exact h.ss m hm
  ·exact k.ss m hm
 ·have:=h.mvq;have:=k.mvq;simp only[z7o];omega
 ·have:=h.ptq;have:=k.ptq;simp only[zi7];omega
 ·have:=h.wgt;have:=k.wgt;simp only[za0];omega
theorem Rd.stays{g G:Nat}{reg s:Sp}{m:Mg}(hm:GM g m)(hr:LiesIn reg m):Rd g G reg s [m] [] [m]:=
 ⟨fun _ h=>(by cases h),fun x h=>(by simp at h;subst h;exact⟨hm,hr⟩),by simp[mvN],by simp[ptN],by simp[wb]⟩
theorem Rd.goes{g G:Nat}{reg s:Sp}{m:Mg}(hm:GM g m)(hr:LiesIn reg m)(hs:LiesIn s m):Rd g G reg s [m] [m] []:=
 ⟨fun x h=>(by simp at h;subst h;exact⟨hm,hs,hr⟩),fun _ h=>(by cases h),by simp[mvN],by simp[ptN],by simp[wb]⟩
def spd(m:Mg)(s:Sp):Mg:=(m.1,(m.2.1,(m.2.2.1,(s,m.2.2.2.2))))
theorem yfw(go:List Mg)(held:List Sp)(m0:Mg):∀(post pre:List Sp) (n:Nat) (stay:List Mg) (m:Mg),spd m=spd m0->post.length<n->(pre++post).length<100000000->stay.length+post.length<200000000->
  z4r NN n (pre.length:Int) go stay held m (pre++post)=some (((),()),(((),((),())),(go,(stay++post.map (spd m0),(held,((),()))))))
 | _,_,0,_,_,_,h,_,_=>absurd h (ag _)
 | [],pre,n+1,stay,m,_,_,_,_=>by
  rw[zdr]
  simp only[z18,ai,aA,decide_false,cond_false,bK]
 | q::post,pre,n+1,stay,m,hm,hn,hl,hs=>by
  simp only[af]at hn hs
  have hb:pre.length<9223372036854775807:=by simp at hl;omega
  have e:((m.1,(m.2.1,(m.2.2.1,(q,m.2.2.2.2)))):Mg)=spd m0 q:=congrFun hm q
  rw[zdr]
  simp only[z18,Q1,cond_true,U4,e]
  rw[gd_t V6,gd_t (Y4 (by simp only[af,aq];omega) (by omega)),V1 (q:=q) hb,U1 (pre:=pre) (q:=q) (post:=post),yfw go held m0 post (pre++[q]) n (stay++[spd m0 q]) (spd m0 q) rfl (by omega) (by simpa using hl) (by simp;omega)]
  simp
theorem y6n{x s:Sp}:touchB [x] [s]= !(emptyB (w5 x s)):=by simp[touchB]
theorem yqm{k:B}{s:Sp}(h:emptyB (w5 (k,k++[0]) s)=false):∀j,hasB (k,k++[0]) j=true->hasB s j=true:=by
 intro j hj
 have h1:=zqg h
 rw[zcu,ac,y8x]at h1
 rw[y8x]at hj
 rw[<-J6.1 hj,J6.1 h1.1]
 exact h1.2
theorem Rd.split{g G:Nat}{reg s:Sp}{m:Mg}{x:Sp}(hx:SpG g x)(mk:∀y,SpG g y->GM g (spd m y))(hk:wm G m=wt G (hasB x)/\∀y,wm G (spd m y)=wt G (hasB y))(h0:m.1=3\/m.1=6)
  (hw:∀y z,z∈wr (spd m y)++rds (spd m y)->z=y) (hr:∀k,hasB x k=true->hasB reg k=true) (hs:SpG g s) (he:emptyB (w5 x s)=false) {r:List Sp} (r2:∀k,inS r k=(inS [x] k&& !(inS [s] k))) (r4:Sep r) (r5:∀s∈r,SpG g s):
  Rd g G reg s [m] [spd m (w5 x s)] (r.map (spd m)):=by
 have hmeet:∀k,hasB (w5 x s) k=true->hasB x k=true/\hasB s k=true:=fun k hk=>by rwa [zcu,ac]at hk
 have nomv:∀y,mvs (spd m y)=mvs m:=fun y=>rfl
 have nopt:∀y,pts (spd m y)=pts m:=fun y=>rfl
 have m0:mvs m=0:=by rcases h0 with h | h<;>simp[mvs,h]
 have p0:pts m=0:=by rcases h0 with h | h<;>simp[pts,h]
 have smv:∀l:List Sp,mvN (l.map (spd m))=0:=fun l=>by
  induction l with
  | nil=>rfl
  | cons y l ih=>simp only[mvN,ax,bE]at ih|-;rw[nomv,m0,ih]
 have spt:∀l:List Sp,ptN (l.map (spd m))=0:=fun l=>by
  induction l with
  | nil=>rfl
  | cons y l ih=>simp only[ptN,ax,bE]at ih|-;rw[nopt,p0,ih]
 have swt:∀l:List Sp,wb G (l.map (spd m))=wts G l:=fun l=>by
  induction l with
  | nil=>rfl
  | cons y l ih=>rw[ax,zpx,ih,hk.2];simp[wts]
 refine⟨fun y hy=> ?_,fun y hy=> ?_, ?_, ?_, ?_⟩
 ·simp only[aL]at hy
  subst hy
  refine⟨mk _ (y68 hx hs he),fun z hz k hk=> ?_,fun z hz k hk=> ?_⟩
  ·rw[hw _ z hz]at hk;exact(hmeet k hk).2
  ·rw[hw _ z hz]at hk;exact hr k (hmeet k hk).1
 ·obtain⟨z,hz,rfl⟩:=aH.1 hy
  refine⟨mk z (r5 z hz),fun w hwm k hk=> ?_⟩
  rw[hw _ w hwm]at hk
  have:inS r k=true:=cZ.2 ⟨z,hz,hk⟩
  rw[r2,ac,in1]at this
  exact hr k this.1
 ·rw[smv];simp[mvN,nomv]
 ·rw[spt];simp[ptN,nopt]
 ·rw[swt,y50,y50,hk.1,hk.2]
  have h1:=y8n (g:=G) r4
  have h2:wt G (inS r)<=wt G (fun a=>hasB x a&& !(hasB s a)):=zkh fun a ha=>by rw[r2,in1,in1]at ha;exact ha
  have h3:wt G (hasB (w5 x s))<=wt G (fun a=>hasB x a&&hasB s a):=zkh fun a ha=>by rw[zcu]at ha;exact ha
  have:=y3u (g:=G) (hasB x) (hasB s)
  omega
theorem yhi{g G:Nat}(hg1:1<=g)(hg:g<40000){reg s:Sp}(hs:SpG g s){m:Mg}(hm:GM g m)(hr:LiesIn reg m){go stay:List Mg}{held:List Sp}(hl:go.length+stay.length<100000000)(hh:held.length<90000000):
  ∃a b c,z39 NN m s go stay held=some (((),((),())),(go++a,(stay++b,(held++c,()))))/\c.length<=3/\Rd g G reg s [m] a b:=by
 obtain⟨l1,l2,_⟩:=y26 m
 have hN:=V0
 have mover:(eqi m.1 4 || eqi m.1 5)=true->∃a b c,z39 NN m s go stay held=some (((),((),())),(go++a,(stay++b,(held++c,()))))/\c.length<=3/\Rd g G reg s [m] a b:=fun hmm=>by
  have e1:zbo NN m=some true:=by
   simp only[zbo]
   cases e:eqi m.1 4
   ·rw[e]at hmm;simp only[cD]at hmm;rw[hmm];rfl
   ·rfl
  have ht:=zp5 (l:=rds m++wr m) (m:=held) (by simp;omega) (by omega)
  simp only[z39,e1,ab,cond_true,zpi hm,z7m (g:=g) (by omega) hm,yoy (g:=g) (by omega) hm,aj,ht]
  rw[gd_t (Y4 (by omega) (by omega)),gd_t (Y4 (by omega) (by omega))]
  have no:∃a b c,(gd (fits (stay.length+1) 112) (gd (fits (held.length+(rds m++wr m).length) 32) (some ((((),((),())),(go,(stay++[m],(held++(rds m++wr m),())))):((Unit×(Unit×Unit))×((List Z1)×((List Z1)×((List Z0)×Unit))))))))=some (((),((),())),(go++a,(stay++b,(held++c,()))))/\c.length<=3/\Rd g G reg s [m] a b:=by
   refine⟨[],[m],rds m++wr m, ?_,by simp;omega,Rd.stays hm hr⟩
   rw[gd_t (Y4 (by omega) (by omega)),gd_t (Y4 (by simp;omega) (by omega)),ai]
  cases e2:(rds m++wr m).all (covB s)
  ·exact no
  ·cases e3:touchB (rds m++wr m) held
   ·refine⟨[m],[],[], ?_,by simp,Rd.goes hm hr (yoa e2)⟩
    simp only[cond_true,aO]
    rw[gd_t (Y4 (by omega) (by omega)),ai,ai]
   ·exact no
 have part:∀p,eqi m.1 4=false->eqi m.1 5=false->zi5 NN m s=some p->(p=[]\/∃q x,p=[q]/\J7 NN q=some [x]/\((eqi m.1 3=false/\eqi m.1 6=false/\Rd g G reg s [m] [q] [])\/
   ((eqi m.1 3=true\/eqi m.1 6=true)/\∃r,K6 NN [m.2.2.2.1] [s]=some r/\r.length<=2/\Rd g G reg s [m] [q] (r.map (spd m)))))->
   ∃a b c,z39 NN m s go stay held=some (((),((),())),(go++a,(stay++b,(held++c,()))))/\c.length<=3/\Rd g G reg s [m] a b:=fun p h4 h5 hp hc=>by
  have e1:zbo NN m=some false:=by simp only[zbo,h4,h5,cond_false]
  simp only[z39,e1,ab,cond_false,hp]
  rcases hc with rfl | ⟨q,x,rfl,hq,hc⟩
  ·refine⟨[],[m],[], ?_,by simp,Rd.stays hm hr⟩
   simp only[aq,Int.natCast_zero,K9,cond_true]
   rw[gd_t (Y4 (by omega) (by omega)),ai,ai]
  ·have e0:eqi ((([q]:List Mg).length:Nat):Int) 0=false:=rfl
   have e2:inB 0 ([q]:List Mg).length=true:=rfl
   have e3:rdL ([q]:List Mg) 0 Q7=q:=rfl
   have ht:=zp5 (l:=[x]) (m:=held) (by simp) (by omega)
   simp only[e0,cond_false,e2,e3,hq,ab,ht]
   rw[gd_t rfl]
   cases et:touchB [x] held
   ·simp only[cond_false]
    rw[gd_t rfl,gd_t (Y4 (by simp only[af,aq];omega) (by omega))]
    rcases hc with⟨h3,h6,hR⟩ | ⟨h36,r,r1,r2,hR⟩
    ·refine⟨[q],[],[], ?_,by simp,hR⟩
     simp only[h3,h6,cond_false,ai]
    ·have hz:(([]:List Sp).length:Int)=0:=rfl
     have lp:=yfw (go++[q]) held m r [] NN stay m rfl (by omega) (by simp;omega) (by omega)
     simp only[aj,hz]at lp
     refine⟨[q],r.map (spd m),[], ?_,by simp,hR⟩
     simp only[r1,ab,lp,ai]
     cases e3:eqi m.1 3
     ·rcases h36 with h | h
      ·rw[h]at e3;cases e3
      ·simp only[h,cond_true,cond_false]
     ·rfl
   ·refine⟨[],[m],[x], ?_,by simp,Rd.stays hm hr⟩
    simp only[cond_true]
    rw[gd_t (Y4 (by omega) (by omega)),gd_t rfl,gd_t (Y4 (by simp only[af,aq];omega) (by omega)),ai]
 have one:∀k,wr m=[(k,k++[0])]->rds m=[]->eqi m.1 3=false->eqi m.1 6=false->eqi m.1 4=false->eqi m.1 5=false->∃a b c,z39 NN m s go stay held=some (((),((),())),(go++a,(stay++b,(held++c,()))))/\c.length<=3/\Rd g G reg s [m] a b:=fun k hw hrd h3 h6 h4 h5=>by
  have ht:=zp5 (l:=wr m) (m:=[s]) (by omega) (by simp)
  refine part (bif touchB (wr m) [s]then[m]else[]) h4 h5 ?_ ?_
  ·simp only[zi5,z7m (g:=g) (by omega) hm,ab,ht,h3,h6,cond_false]
   cases touchB (wr m) [s]<;>rfl
  ·cases et:touchB (wr m) [s]
   ·exact .inl rfl
   ·refine .inr ⟨m,(k,k++[0]),rfl,by rw[z7m (g:=g) (by omega) hm,hw], .inl ⟨h3,h6,Rd.goes hm hr ?_⟩⟩
    rw[hw,y6n,aw]at et
    intro x hx j hj
    rw[hw,hrd]at hx
    simp only[ai,aL]at hx
    subst hx
    exact yqm et j hj
 have spn:∀x,m.2.2.2.1=x->SpG g x->wr m=[x]->(∀y,SpG g y->GM g (spd m y))->(wm G m=wt G (hasB x)/\∀y,wm G (spd m y)=wt G (hasB y))->(m.1=3\/m.1=6)->(∀y,wr (spd m y)=[y])->(∀y,∀z∈rds (spd m y),z=y)->∃a b c,z39 NN m s go stay held=some (((),((),())),(go++a,(stay++b,(held++c,()))))/\c.length<=3/\Rd g G reg s [m] a b:=fun x hx hG hw mk hk h36 hwy hry=>by
  have h4:eqi m.1 4=false:=by rcases h36 with h | h<;>rw[h]<;>rfl
  have h5:eqi m.1 5=false:=by rcases h36 with h | h<;>rw[h]<;>rfl
  have h36':eqi m.1 3=true\/eqi m.1 6=true:=by rcases h36 with h | h<;>rw[h]<;>simp[eqi]
  have ht:=zp5 (l:=[x]) (m:=[s]) (by simp) (by simp)
  refine part (bif touchB [x] [s]then[spd m (w5 x s)]else[]) h4 h5 ?_ ?_
  ·simp only[zi5,z7m (g:=g) (by omega) hm,hw,ab,ht,hx,zl3]
   cases et:touchB [x] [s]
   ·rfl
   ·rcases h36' with h | h
    ·rw[h];rfl
    ·cases e3:eqi m.1 3
     ·rw[h];rfl
     ·rfl
  ·cases et:touchB [x] [s]
   ·exact .inl rfl
   ·rw[y6n,aw]at et
    obtain⟨r,r1,r2,r3,r4,r5⟩:=y3o (l:=[x]) (m:=[s]) (E:=UU g) (fun y hy=>by simp at hy;subst hy;exact hs.2) (UU.nil g) (fun y hy _=>by simp at hy;subst hy;exact hG.2) (by simp) (by simp)
    refine .inr ⟨spd m (w5 x s),w5 x s,rfl,by rw[z7m (g:=g) (by omega) (mk _ (y68 hG hs et)),hwy], .inr ⟨h36',r,by rw[hx];exact r1,by simpa using r3, ?_⟩⟩
    refine Rd.split hG mk hk h36 (fun y z hz=> ?_) (fun k hk=>hr x (by rw[hw];simp) k hk) hs et r2 r4 fun y hy=>⟨r4.full y hy,r5 y hy⟩
    rcases ak.1 hz with hz | hz
    ·rw[hwy]at hz;simpa using hz
    ·exact hry y z hz
 cases hm with
 | put k v n hk hv=>exact one k rfl rfl rfl rfl rfl rfl
 | del k hk=>exact one k rfl rfl rfl rfl rfl rfl
 | drop x hx=>exact spn x rfl hx rfl (fun y hy=> .drop y hy) ⟨y8o G x,fun y=>y8o G y⟩ (.inl rfl) (fun _=>rfl) (fun y z hz=>by cases hz)
 | move e he=>exact mover rfl
 | clone e he=>exact mover rfl
 | stamp x n hx=>exact spn x rfl hx rfl (fun y hy=> .stamp y n hy) ⟨y3v G x n,fun y=>y3v G y n⟩ (.inr rfl) (fun _=>rfl) (fun y z hz=>aL.1 hz)
theorem yby{g G:Nat}(hg1:1<=g)(hgG:g<=G)(hg:g<40000){reg s:Sp}(hs:SpG g s):∀(post pre go stay:List Mg) (held:List Sp) (n:Nat),post.length<n->(pre++post).length<20000000->(∀m∈post,GM g m/\LiesIn reg m)->held.length<=3*pre.length->
  go.length+stay.length+wb G post<100000000->
  ∃a b c,z8p NN n (pre++post) (pre.length:Int) go stay held s=some (((),()),((),(((),((),())),(go++a,(stay++b,(c,()))))))/\Rd g G reg s post a b
 | _,_,_,_,_,0,h,_,_,_,_=>absurd h (ag _)
 | [],pre,go,stay,held,n+1,_,_,_,_,_=>by
  refine⟨[],[],held, ?_,Rd.nil _ _ _ _⟩
  rw[zfg]
  simp only[z2m,ai,aA,decide_false,cond_false]
 | m::post,pre,go,stay,held,n+1,hn,hl,hm,hh,hw=>by
  simp only[af]at hn
  have hb:pre.length<9223372036854775807:=by simp at hl;omega
  have hpl:pre.length<20000000:=by simp at hl;omega
  obtain⟨m1,m2⟩:=hm m (by simp)
  have hp:=yfa hgG m1
  rw[zpx]at hw
  obtain⟨a,b,c,h1,h2,h3⟩:=yhi (G:=G) hg1 hg hs m1 m2 (go:=go) (stay:=stay) (held:=held) (by omega) (by omega)
  have la:=zcm hgG fun x hx=>(h3.gg x hx).1
  have lb:=zcm hgG fun x hx=>(h3.ss x hx).1
  have hwt:=h3.wgt
  rw[y50]at hwt
  obtain⟨a',b',c',k1,k2⟩:=yby hg1 hgG hg hs post (pre++[m]) (go++a) (stay++b) (held++c) n (by omega) (by simpa using hl) (fun x hx=>hm x (by simp[hx])) (by simp;omega) (by simp only[ae];omega)
  refine⟨a++a',b++b',c', ?_,h3.append k2⟩
  rw[zfg]
  simp only[z2m,Q1,cond_true,U4,h1,ab]
  rw[gd_t V6,V1 (q:=m) hb,U1 (pre:=pre) (q:=m) (post:=post),k1]
  simp
theorem ydm{g G:Nat}(hg1:1<=g)(hgG:g<=G)(hg:g<40000){reg s:Sp}(hs:SpG g s){buf:List Mg}{piv:List B}{i:Int}(hp:piv.length<100000000)(hi:inB i (piv.length+1)=true)(hsi:rdL (z4u ([],[]) [] piv) i Y8=s)
  (hm:∀m∈buf,GM g m/\LiesIn reg m) (hw:wb G buf<20000000):∃go stay x,z6s NN buf piv i=some (go,(stay,x))/\Rd g G reg s buf go stay:=by
 have hl:=zcm hgG fun m h=>(hm m h).1
 obtain⟨a,b,c,h1,h2⟩:=yby hg1 hgG hg hs buf [] [] [] [] NN (by have:=V0;omega) (by simp;omega) hm (bn _) (by simp;omega)
 have hz:(([]:List Mg).length:Int)=0:=rfl
 simp only[aj,hz]at h1
 refine⟨a,b,c, ?_,h2⟩
 simp only[z6s,zoe,zy5 ([],[]) hp,ab,hsi,h1,zpk,hi]
 rfl
def y9p(m:Mg)(p:Pr):Mg:=y9q (m.2.2.2.2.2.1++p.1.drop m.2.2.2.2.1.length) p.2.1 p.2.2
theorem ycn(m:Mg)(hto:m.2.2.2.2.2.1.length<1000000):∀(post pre:List Pr) (n:Nat) (out:List Mg),post.length<n->(pre++post).length<100000000->out.length+post.length<200000000->(∀p∈post,p.1.length<1000000/\m.2.2.2.2.1.length<=p.1.length)->
  zan NN n (pre++post) (pre.length:Int) m out=some (((),()),(m,(out++post.map (y9p m),())))
 | _,_,0,_,h,_,_,_=>absurd h (ag _)
 | [],pre,n+1,out,_,_,_,_=>by
  rw[zh5]
  simp only[z3z,ai,aA,decide_false,cond_false,bK]
 | p::post,pre,n+1,out,hn,hl,ho,hp=>by
  simp only[af]at hn ho
  have hb:pre.length<9223372036854775807:=by simp at hl;omega
  obtain⟨p1,p2⟩:=hp p (by simp)
  rw[zh5]
  simp only[z3z,Q1,cond_true,U4]
  rw[gd_t V6,gd_t (by simp;omega),zp4,gd_p (by simp only[maxS,aZ];omega),gd_t (Y4 (by simp only[af,aq];omega) (by omega)),V1 (q:=p) hb,U1 (pre:=pre) (q:=p) (post:=post),ycn m hto post (pre++[p]) n _ (by omega) (by simpa using hl) (by simp;omega) fun x hx=>hp x (by simp[hx])]
  simp[y9p]
def zbv(m:Mg)(src:List Pr):List Mg:=zcx (preB m.2.2.2.2.2.1)::(src.map (y9p m)++bif eqi m.1 4 then[zcx (preB m.2.2.2.2.1)]else[])
theorem ylr{m:Mg}{e:B×B}(he:e∈ends)(h1:m.2.2.2.2.1=e.1)(h2:m.2.2.2.2.2.1=e.2)(hk:eqi m.1 4=true\/eqi m.1 5=true){src:List Pr}(hl:src.length<90000000)(hs:∀p∈src,p.1.length<1000000/\e.1.length<=p.1.length):
  zmb NN m src=some (zbv m src):=by
 obtain⟨p1,p2⟩:=Q9 he
 have l2:=(z9y p2).2
 have em:z6r NN m=some true:=by
  simp only[z6r]
  cases e4:eqi m.1 4
  ·rcases hk with h | h
   ·rw[h]at e4;cases e4
   ·rw[h];rfl
  ·rfl
 have h:=ycn m (by rw[h2];omega) src [] NN [zcx (preB m.2.2.2.2.2.1)] (by have:=V0;omega) (by simp;omega) (by simp;omega) (fun p hp=>by rw[h1];exact hs p hp)
 have hz:(([]:List Pr).length:Int)=0:=rfl
 simp only[aj,hz]at h
 simp only[zmb,em,ab,aN,cond_false,h2,z61 p2]
 rw[h2]at h
 rw[h]
 simp only[ab,zbv,h2,h1]
 cases e4:eqi m.1 4
 ·simp
 ·simp only[cond_true,z61 p1,ab]
  rw[gd_t (Y4 (by simp;omega) (by omega))]
  simp
theorem yk3{α:Type}(f:α->Nat)(l:List α)(h:∀x∈l,f x=0):(l.map f).sum=0:=by
 induction l with
 | nil=>rfl
 | cons x l ih=>rw[ax,bE,h x (by simp),ih fun y hy=>h y (by simp[hy])]
theorem ynq{α:Type}(f:α->Nat)(l:List α)(h:∀x∈l,f x=1):(l.map f).sum=l.length:=by
 induction l with
 | nil=>rfl
 | cons x l ih=>rw[ax,bE,h x (by simp),ih fun y hy=>h y (by simp[hy])];simp;omega
theorem ye2{g G c:Nat}(hg1:1<=g){m:Mg}{e:B×B}(he:e∈ends)(hm:(m.1=4\/m.1=5)/\m.2.2.2.2.1=e.1/\m.2.2.2.2.2.1=e.2){reg:Sp}(hr:LiesIn reg m){src:List Pr}(hs:Tb c src)(hp:∀p∈src,e.1.isPrefixOf p.1=true)(hc:g<=c+1):
  (∀x∈zbv m src,GM (c+1) x/\LiesIn reg x)/\mvN (zbv m src)=0/\wb G (zbv m src)<=20*(c+1)+2*(5+48*(G+1)):=by
 obtain⟨h0,h1,h2⟩:=hm
 obtain⟨p1,p2⟩:=Q9 he
 have hw2:preB e.2∈wr m:=by
  unfold wr
  rcases h0 with h | h<;>rw[h,h1,h2]<;>simp[eqi]
 have hw1:m.1=4->preB e.1∈wr m:=fun h=>by
  unfold wr
  rw[h,h1,h2];simp[eqi]
 have l2:∀k,hasB (preB e.2) k=true->hasB reg k=true:=hr _ (bk _ hw2)
 have ld:∀q:B,(∀k,hasB (preB q) k=true->hasB reg k=true)->LiesIn reg (zcx (preB q)):=fun q h x hx k hk=>by
  have:x=preB q:=by simpa[wr,rds,eqi] using hx
  rw[this]at hk;exact h k hk
 refine⟨fun x hx=> ?_, ?_, ?_⟩
 ·unfold zbv at hx
  rw[h1,h2]at hx
  rcases am.1 hx with rfl | hx
  ·exact⟨.drop _ ((SpG.pre p2).mono (by omega)),ld _ l2⟩
  rcases ak.1 hx with hx | hx
  ·obtain⟨p,hp',rfl⟩:=aH.1 hx
   have hk:=hs.key p hp'
   refine⟨?_,fun y hy k hk'=> ?_⟩
   ·unfold y9p
    rw[h1,h2]
    exact .put _ _ _ (KU.move p1 p2 hk.1 (hp p hp')) hk.2
   ·have:y=(e.2++p.1.drop e.1.length,e.2++p.1.drop e.1.length++[0]):=by
     simp only[y9p,h1,h2]at hy
     simpa[wr,rds,eqi] using hy
    rw[this,y8x]at hk'
    rw[<-J6.1 hk']
    exact l2 _ (by rw[z6n p2];exact zmx _ _)
  ·cases e4:eqi m.1 4
   ·rw[e4]at hx;cases hx
   ·rw[e4]at hx
    simp only[cond_true,aL]at hx
    subst hx
    exact⟨.drop _ ((SpG.pre p1).mono (by omega)),ld _ (hr _ (bk _ (hw1 (zxq.1 e4))))⟩
 ·unfold zbv mvN
  refine yk3 mvs _ fun x hx=> ?_
  rcases am.1 hx with rfl | hx
  ·rfl
  rcases ak.1 hx with hx | hx
  ·obtain⟨p,hp',rfl⟩:=aH.1 hx;rfl
  ·cases e4:eqi m.1 4
   ·rw[e4]at hx;cases hx
   ·rw[e4]at hx
    simp only[cond_true,aL]at hx
    subst hx;rfl
 ·unfold zbv
  rw[zpx,za0]
  have a1:wb G (src.map (y9p m))=src.length:=by
   unfold wb
   rw[List.map_map,ynq]
   intro x _
   exact yfn G rfl rfl
  have a2:wb G (bif eqi m.1 4 then[zcx (preB m.2.2.2.2.1)]else[])<=5+48*(G+1):=by
   cases eqi m.1 4
   ·exact bn _
   ·simp only[cond_true,y50];exact ymy _ _
  have a3:=ymy G (zcx (preB m.2.2.2.2.2.1))
  have:=hs.len
  omega
theorem y6m{p:List Sl}{root:Int}{sh:U0}{nd:Nd}{m0:Mg}{rest:List Mg}(hbuf:nd.2.2.2.2=m0::rest){s:Sp}(hpre:U8 NN m0.2.2.2.2.1=some s){g G:Nat}(hs:SpG g s)(hg1:1<=g)(hG:G<30000){hi:B}:
  ∀(ks:Trs) (post pre:List Int) (piv:List B) (lo:B) (m:Nat) (all:List Pr),nd.2.2.1=pre++post->nd.2.2.1.length<10000001->post.length<m->UnfL p post ks->VTs g lo hi ks piv->g+ks.mv<=G->FitTs ks->ks.ht<NN->Tb G all->(∀x∈all,lts x.1 lo=true/\hasB s x.1=true)->
   ∃r,z1v NN m (pre.length:Int) (p,(root,sh)) nd all=some (.inr (((),((),())),(nd,((),(all++r,())))))/\Tb G (all++r)/\∀x∈r,hasB (lo,hi) x.1=true/\hasB s x.1=true
 | _,_,_,_,_,0,_,_,_,h,_,_,_,_,_,_,_=>absurd h (ag _)
 | .nil,post,pre,piv,lo,m+1,all,hk,hkl,hm,hu,hv,_,_,_,_,_=>by simp[VTs]at hv
 | .cons t ts,[],pre,piv,lo,m+1,all,hk,hkl,hm,hu,hv,_,_,_,_,_=>by simp[UnfL]at hu
 | .cons t ts,k::post,pre,piv,lo,m+1,all,hk,hkl,hm,hu,hv,hgG,hfit,hht,hall,hlo=>by
  simp only[af]at hm
  have hlen:nd.2.2.1.length=pre.length+(post.length+1):=by rw[hk];simp
  have hb:pre.length<9223372036854775807:=by omega
  simp only[UnfL]at hu
  simp only[Trs.mv]at hgG
  simp only[FitTs]at hfit
  simp only[Trs.ht]at hht
  obtain⟨q,hvt,hqhi,hqq⟩:∃q,VT g lo q t/\(∀x,hasB (lo,q) x=true->hasB (lo,hi) x=true)/\∀q' r,piv=q'::r->q=q':=by
   cases ts with
   | nil=>
    cases piv with
    | nil=>simp only[VTs]at hv;exact⟨hi,hv,fun _ h=>h,fun q' r h=>by cases h⟩
    | cons _ _=>simp[VTs]at hv
   | cons u us=>
    cases piv with
    | nil=>simp[VTs]at hv
    | cons q piv=>
     simp only[VTs]at hv
     refine⟨q,hv.2.2.2.1,fun x hx=> ?_,fun q' r h=>by cases h;rfl⟩
     rw[U5]at hx|-
     simp only[belowB,ac,ay]at hx|-
     refine⟨hx.1, ?_⟩
     rcases hx.2 with h' | h'
     ·exact absurd (J6.1 h') (KU.ne hv.1)
     ·have:=ze9 h' hv.2.2.1
      simpa[belowB] using this
  have next:∀all',Tb G all'->(∀x∈all',(lts x.1 lo=true\/hasB (lo,q) x.1=true)/\hasB s x.1=true)->∃r,z1v NN m ((pre++[k]).length:Int) (p,(root,sh)) nd all'=some (.inr (((),((),())),(nd,((),(all'++r,())))))/\Tb G (all'++r)/\∀x∈r,hasB (lo,hi) x.1=true/\hasB s x.1=true:=by
   intro all' h1 h2
   cases ts with
   | nil=>
    cases piv with
    | cons _ _=>simp[VTs]at hv
    | nil=>
     have hpost:post=[]:=by
      cases post with
      | nil=>rfl
      | cons a b=>have:=hu.2;simp[UnfL]at this
     subst hpost
     refine⟨[], ?_,by simpa using h1,fun x hx=>by cases hx⟩
     cases m with
     | zero=>simp at hm
     | succ m=>
      rw[zdf]
      simp only[z11,ai]
      rw[Y3 (by rw[hk];simp)]
   | cons u us=>
    cases piv with
    | nil=>simp[VTs]at hv
    | cons q' piv=>
     simp only[VTs]at hv
     obtain⟨v1,v2,v3,v4,v5⟩:=hv
     have hle:∀x∈all',lts x.1 q'=true/\hasB s x.1=true:=by
      intro x hx
      have eq:=hqq q' piv rfl
      subst eq
      refine⟨?_,(h2 x hx).2⟩
      rcases(h2 x hx).1 with h | h
      ·exact J8 h v2
      ·rw[U5]at h
       simp only[belowB,ac,ay]at h
       rcases h.2 with h | h
       ·exact absurd (J6.1 h) (KU.ne v1)
       ·exact h
     obtain⟨r,r1,r2,r3⟩:=y6m hbuf hpre hs hg1 hG (.cons u us) post (pre++[k]) piv q' m all' (by rw[hk];simp) hkl (by omega) hu.2 v5 (by omega) hfit.2 (by omega) h1 hle
     refine⟨r,r1,r2,fun x hx=> ?_⟩
     have:=r3 x hx
     refine⟨?_,this.2⟩
     have:=this.1
     rw[U5]at this|-
     simp only[ac,aw]at this|-
     exact⟨zvv (z0p v2) this.1,this.2⟩
  rw[zdf]
  have hlt:decide ((pre.length:Int)<(nd.2.2.1.length:Int))=true:=by rw[hk];exact Q1
  have hin:inB (pre.length:Int) nd.2.2.1.length=true:=by rw[hk];exact V6
  have hrd:rdL nd.2.2.1 (pre.length:Int) (0:Int)=k:=by rw[hk];exact U4
  have hb0:inB (0:Int) nd.2.2.2.2.length=true:=by rw[hbuf];exact V8 (by omega) (by simp)
  have hr0:rdL nd.2.2.2.2 (0:Int) Q7=m0:=by rw[hbuf];rfl
  obtain⟨out,o1,o2,o3⟩:=yot (sh:=sh) hu.1 hvt hg1 (by omega) hfit.1 (by omega) hs
  simp only[z11,hlt,cond_true,hin,hrd,hr0,V1 (q:=k) hb,hpre,o1,ab]
  have hsa:Tb G (all++out):=⟨y2c hall.srt o2.srt fun x hx y hy=>by
    have h1:=(hlo x hx).1
    have h2:=(o3 y hy).1
    rw[U5]at h2
    simp only[ac,aw]at h2
    exact zl4 h1 h2.1,fun x hx=>(ak.1 hx).elim (hall.key x) fun h=>(o2.mono (by omega)).key x h⟩
  have hsl:=hsa.len
  rw[ae]at hsl
  obtain⟨r,r1,r2,r3⟩:=next (all++out) hsa fun x hx=>(ak.1 hx).elim (fun h=>⟨.inl (hlo x h).1,(hlo x h).2⟩) fun h=>⟨.inr (o3 x h).1,(o3 x h).2⟩
  refine⟨out++r, ?_,by rw[<-au];exact r2,fun x hx=> ?_⟩
  ·rw[gd_t rfl,gd_t hb0,Y3 (by rfl),gd_t (Y4 (by omega) (by omega)),r1,au]
  ·rcases ak.1 hx with hx | hx
   ·exact⟨hqhi _ (o3 x hx).1,(o3 x hx).2⟩
   ·exact r3 x hx
theorem yhg{p:List Sl}{root:Int}{sh:U0}{piv:List B}{kids:List Int}{sums:List Y7}{m0:Mg}{rest:List Mg}{ks:Trs}{g Γ:Nat}{lo hi:B}(hg1:1<=g)(hG:g+ks.mv+1<30000)
  (hu:UnfL p kids ks) (hv:VTs g lo hi ks piv) (hf:FitTs ks) (hh:ks.ht<NN) (hm:∀m∈m0::rest,GM g m/\LiesIn (lo,hi) m) (hl:rest.length<90000000):
  ∃nd e,z70 NN (p,(root,sh)) (([]:List Pr),(piv,(kids,(sums,m0::rest))))=some (nd,e)/\(e≠0\/(e=0/\∃new,nd=([],(piv,(kids,(sums,new++rest))))/\(∀m∈new,GM (g+ks.mv+1) m/\LiesIn (lo,hi) m)/\mvN new=0/\mvs m0=1/\
   wb Γ new<=20*(g+ks.mv+1)+2*(5+48*(Γ+1)))):=by
 have hpl:=VTs.plen hv
 obtain⟨_,_,hkl⟩:=VTs.piv hv
 have hkl':=hu.len
 have go:∀s,U8 NN m0.2.2.2.2.1=some s->SpG g s->∃src,z1v NN NN (0:Int) (p,(root,sh)) (([]:List Pr),(piv,(kids,(sums,m0::rest)))) []=some (.inr (((),((),())),((([]:List Pr),(piv,(kids,(sums,m0::rest)))),((),(src,())))))/\Tb (g+ks.mv) src/\∀x∈src,hasB s x.1=true:=fun s h1 h2=>by
  obtain⟨r,r1,r2,r3⟩:=y6m (p:=p) (root:=root) (sh:=sh) (nd:=([],(piv,(kids,(sums,m0::rest))))) (m0:=m0) (rest:=rest) rfl h1 (G:=g+ks.mv) h2 hg1 (by omega) ks kids [] piv lo NN [] rfl (by simp only;omega) (by have:=V0;omega) hu hv (al _) hf hh ⟨bg.nil,fun x h=>by cases h⟩ fun x h=>by cases h
  have hz:(([]:List Int).length:Int)=0:=rfl
  simp only[aj,hz]at r1 r2
  exact⟨r,r1,r2,fun x hx=>(r3 x hx).2⟩
 obtain⟨hm0,hr0⟩:=hm m0 (by simp)
 have nomove:mvs m0=0->m0.2.2.2.2.1=[]->eqi m0.1 4=false->eqi m0.1 5=false->∃nd e,z70 NN (p,(root,sh)) (([]:List Pr),(piv,(kids,(sums,m0::rest))))=some (nd,e)/\(e≠0\/(e=0/\∃new,nd=([],(piv,(kids,(sums,new++rest))))/\(∀m∈new,GM (g+ks.mv+1) m/\LiesIn (lo,hi) m)/\mvN new=0/\mvs m0=1/\
   wb Γ new<=20*(g+ks.mv+1)+2*(5+48*(Γ+1)))):=fun h0 hfr h4 h5=>by
  have hp0:U8 NN ([]:B)=some ([],[]):=by
   obtain⟨k,hk⟩:∃k,NN=k+1:=⟨NN-1,by have:=V0;omega⟩
   have h0:G9 NN NN ([]:B) (([]:B).length:Int)=some (([],((),0)),((),())):=by
    rw[show G9 NN NN=G9 NN (k+1)from congrArg _ hk,zdw]
    rfl
   simp only[U8,h0]
   rfl
  obtain⟨src,s1,_⟩:=go ([],[]) (by rw[hfr];exact hp0) ⟨rfl,UU.nil g,UU.nil g⟩
  refine⟨_,_,by
   simp only[z70,s1,ab,zma]
   rw[Y3 (by simp[eqi];omega),gd_t (by simp[inB])]
   have e0:rdL (m0::rest) (0:Int) Q7=m0:=rfl
   simp only[e0,z6r,h4,h5,cond_false,ab,aO,cond_true]
   rfl, .inl (by decide)⟩
 have mover:∀e,e∈ends->mvs m0=1->(m0.1=4\/m0.1=5)->m0.2.2.2.2.1=e.1->m0.2.2.2.2.2.1=e.2->∃nd e,z70 NN (p,(root,sh)) (([]:List Pr),(piv,(kids,(sums,m0::rest))))=some (nd,e)/\(e≠0\/(e=0/\∃new,nd=([],(piv,(kids,(sums,new++rest))))/\(∀m∈new,GM (g+ks.mv+1) m/\LiesIn (lo,hi) m)/\mvN new=0/\mvs m0=1/\
   wb Γ new<=20*(g+ks.mv+1)+2*(5+48*(Γ+1)))):=fun e he hmv h45 e1 e2=>by
  obtain⟨p1,p2⟩:=Q9 he
  have hk:eqi m0.1 4=true\/eqi m0.1 5=true:=by rcases h45 with h | h<;>rw[h]<;>simp[eqi]
  obtain⟨src,s1,s2,s3⟩:=go (preB e.1) (by rw[e1];exact z61 p1) ((SpG.pre p1).mono hg1)
  have hpre:∀x∈src,e.1.isPrefixOf x.1=true:=fun x hx=>by rw[<-z6n p1];exact s3 x hx
  have hsl:=s2.len
  obtain⟨k1,k2,k3⟩:=ye2 (G:=Γ) (reg:=(lo,hi)) hg1 he ⟨h45,e1,e2⟩ hr0 s2 hpre (by omega)
  have h9:=ylr (m:=m0) he e1 e2 hk (src:=src) (by omega) fun x hx=>⟨by have:=UU.len (UU.of (s2.key x hx).1);omega,(aP.1 (hpre x hx)).length_le⟩
  have em:z6r NN m0=some true:=by
   simp only[z6r]
   cases e4:eqi m0.1 4
   ·rcases hk with h | h
    ·rw[h]at e4;cases e4
    ·rw[h];rfl
   ·rfl
  have hset:(zbv m0 src).length<=src.length+2:=by unfold zbv;cases eqi m0.1 4<;>simp
  refine⟨([],(piv,(kids,(sums,zbv m0 src++rest)))),0, ?_, .inr ⟨rfl,zbv m0 src,rfl,k1,k2,hmv,k3⟩⟩
  simp only[z70,s1,ab,zma]
  have e0:rdL (m0::rest) (0:Int) Q7=m0:=rfl
  rw[Y3 (by simp[eqi];omega),gd_t (by simp[inB])]
  simp only[e0,em,ab,aN,cond_false,h9]
  rw[gd_t (by simp[inB]),gd_t (by simp;omega),yl5,gd_t (Y4 (by omega) (by omega))]
  rfl
 cases hm0 with
 | put k v n hk hv=>exact nomove rfl rfl rfl rfl
 | del k hk=>exact nomove rfl rfl rfl rfl
 | drop x hx=>exact nomove rfl rfl rfl rfl
 | move e he=>exact mover e he rfl (.inl rfl) rfl rfl
 | clone e he=>exact mover e he rfl (.inr rfl) rfl rfl
 | stamp x n hx=>exact nomove rfl rfl rfl rfl
end Ds
