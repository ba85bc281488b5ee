/- How many rounds loops may take: any number from some bound on. -/
import Derived.Test.YtljffhpbdmkplaaGreatDvF
import Derived.KernelRfl
import Derived.Test.YtljffhpbdmkplaaGreatDsPure
import Derived.Test.YtljffhpbdmkplaaGreatDvE
import Derived.Laws.BitsLemmas
set_option linter.all false
open Bool renaming and_eq_false_iff->dr,and_eq_true->ac,and_false->cZ,and_true->bV,eq_iff_iff->eB,false_and->eL,false_or->cG,not_eq_false'->dN,not_eq_true'->aw,not_false->aO,not_true->aS,or_assoc->eP,or_eq_false_iff->cW,or_eq_true->ay,or_false->de,or_self->eT,or_true->eA,true_and->bv,true_or->dq
open Int renaming le_refl->fe,lt_irrefl->aA,tmod->aJ,toNat_natCast->dm
open Go.IntKind renaming wrap->aa
open List renaming Nodup->fw,Pairwise->bi,all_cons->br,all_eq_true->az,any_eq_true->db,append_assoc->au,append_eq_nil_iff->dk,append_inj->fc,append_nil->ai,cons_append->aY,contains_iff_mem->dt,count_append->cK,count_cons->dF,count_cons_self->dD,count_eq_zero->df,count_le_length->bJ,count_nil->fu,count_pos_iff->bj,dropLast_concat->cX,drop_left->da,ext_getElem->eW,filter_congr->dY,filter_cons_of_neg->bn,filter_cons_of_pos->bq,filter_eq_self->cn,flatMap_cons->co,flatMap_def->eX,foldl_cons->aU,getElem?_eq_getElem->aK,getElem_cons_succ->dl,getElem_cons_zero->eh,getLast?_eq_none_iff->dT,getLast?_eq_some_iff->c9,isPrefixOf_cons₂->eD,isPrefixOf_iff_prefix->aP,length->ap,length_append->ae,length_cons->af,length_drop->aZ,length_eq_zero_iff->bP,length_filter_le->cd,length_map->bZ,length_nil->aq,length_pos_of_mem->eg,map_cons->ax,map_nil->bO,mem_append->ak,mem_append_left->bp,mem_append_right->bz,mem_cons->am,mem_filter->aB,mem_flatMap->dz,mem_map->aH,mem_singleton->aE,nil_append->aj,nodup_cons->bU,pairwise_append->bH,pairwise_cons->aI,pairwise_map->cU,prefix_of_prefix_length_le->dn,set_cons_succ->dO,set_cons_zero->eQ,sum_cons->bI
open Nat renaming add_assoc->bW,add_zero->bG,ble->ci,le_add_right->cb,le_of_ble_eq_true->cc,le_refl->al,le_succ->ff,le_trans->aX,lt_of_le_of_lt->bN,mul_le_mul_left->ba,mul_le_mul_right->bB,not_lt_zero->ag,pow_pos->e9,zero_le->bm
open Option renaming bind_some->ab
namespace Ds
class Fuel where
 n:Nat
 le:100000000000<=n
 big:1000000000000000000000000000000000000000000000000000000000000<=n
abbrev NN [F:Fuel]:Nat:=F.n
theorem W9 [Fuel]:100000000000<=NN:=Fuel.le
theorem ya2 [Fuel]:1000000000000000000000000000000000000000000000000000000000000<=NN:=Fuel.big
end Ds
namespace Ds
open Go Go.Dv
set_option maxRecDepth 100000000
abbrev B:=List UInt8
variable [Fuel]
def paths:List B:=[[97,47],[98,47],[97,47,98,47],[99,47],[100,47]]
def tails:List B:=[[1],[2,0,0],[2,0,1],[2,0,2],[3,120]]
def keys:List B:=(paths.take 4).flatMap fun p=>tails.map fun t=>p++t
def values:List B:=[[],[120],[121,121],[49,50,51,52,53,54,55,56,57,48],[0,255]]
def ends:List (B×B):=paths.flatMap fun a=>paths.filterMap fun b=>bif (a.isPrefixOf b || b.isPrefixOf a)then none else some (a,b)
def ylu(s:B×B):Bool:=(eqs s.2 [] || lts s.1 s.2)&&decide (s.1.length<=8)&&decide (s.2.length<=8)
inductive Good:Z1->Prop where
 | put (k v:B) (n:Int):k∈keys->v∈values->0<=n->n<8->Good ((1:Int),k,v,(([]:B),([]:B)),([]:B),([]:B),n)
 | del (k:B):k∈keys->Good ((2:Int),k,([]:B),(([]:B),([]:B)),([]:B),([]:B),(0:Int))
 | drop (s:B×B):ylu s=true->Good ((3:Int),([]:B),([]:B),(s.1,s.2),([]:B),([]:B),(0:Int))
 | move (e:B×B):e∈ends->Good ((4:Int),([]:B),([]:B),(([]:B),([]:B)),e.1,e.2,(0:Int))
 | clone (e:B×B):e∈ends->Good ((5:Int),([]:B),([]:B),(([]:B),([]:B)),e.1,e.2,(0:Int))
 | stamp (s:B×B) (n:Int):ylu s=true->0<=n->n<8->Good ((6:Int),([]:B),([]:B),(s.1,s.2),([]:B),([]:B),n)
theorem y8n{n:Int}(h0:0<=n)(h1:n<256):∃p,zb0 NN n=some p/\p∈paths:=by
 obtain⟨p,h,hp⟩:=yf5 (f:=zb0 NN) (p:=fun x=>paths.contains x) (by kernel_rfl) h0 h1
 exact⟨p,h,by simpa using hp⟩
theorem ymg{n:Int}(h0:0<=n)(h1:n<256):∃p,zk8 NN n=some p/\p∈keys:=by
 obtain⟨p,h,hp⟩:=yf5 (f:=zk8 NN) (p:=fun x=>keys.contains x) (by kernel_rfl) h0 h1
 exact⟨p,h,by simpa using hp⟩
theorem yjs{n:Int}(h0:0<=n)(h1:n<256):∃p,zil NN n=some p/\p∈values:=by
 obtain⟨p,h,hp⟩:=yf5 (f:=zil NN) (p:=fun x=>values.contains x) (by kernel_rfl) h0 h1
 exact⟨p,h,by simpa using hp⟩
abbrev Pr:=Z3
def hasB(s:Z0)(k:B):Bool:=bif !(lts k s.1)then(bif eqs s.2 []then true else lts k s.2)else false
theorem yn2(a b:B):(lts a b || eqs a b)= !(lts b a):=by
 rcases lts_tri a b with h | rfl | h
 ·rw[h,z0j h];rfl
 ·rw[z6c,G8];rfl
 ·rw[h,z0j h,zh3 (zf9 h).symm];rfl
def y2a(p:Pr):Bool->List Pr->List Pr
 | d,[]=>bif d then[]else[p]
 | d,q::t=>(bif !d&& !(lts q.1 p.1)then[p]else[])++((bif !(eqs q.1 p.1)then[q]else[])++y2a p (d || !(lts q.1 p.1)) t)
def z90(p:Pr):Bool->List Pr->Bool
 | d,[]=>d
 | d,q::t=>z90 p (d || !(lts q.1 p.1)) t
def zgz(p:Pr):Bool->List Pr->List Pr
 | d,[]=>[]
 | d,q::t=>(bif !d&& !(lts q.1 p.1)then[p]else[])++((bif !(eqs q.1 p.1)then[q]else[])++zgz p (d || !(lts q.1 p.1)) t)
theorem ybs(p:Pr):∀(t:List Pr) (d:Bool),y2a p d t=zgz p d t++(bif z90 p d t then[]else[p])
 | [],d=>by cases d<;>rfl
 | q::t,d=>by simp only[y2a,zgz,z90,ybs p t];simp[au]
theorem ym1(N:Nat)(p:Pr):∀(post pre:List Pr) (n:Nat) (d:Bool) (out:List Pr),post.length<n->(pre++post).length<1000000000->out.length+2*post.length<1000000000->
  z1p N n (pre++post) d (pre.length:Int) p out=some (((),((),z90 p d post)),(p,(out++zgz p d post,())))
 | [],pre,n+1,d,out,_,_,_=>by
  rw[zdd]
  simp only[z14,ai,aA,decide_false,cond_false,z90,zgz]
  try rfl
 | [],pre,0,d,out,h,_,_=>absurd h (ag _)
 | q::post,pre,0,d,out,h,_,_=>absurd h (ag _)
 | q::post,pre,n+1,d,out,hn,hl,ho=>by
  have ih:=fun d out=>ym1 N p post (pre++[q]) n d out (by simp at hn;omega) (by simpa using hl)
  have hl':pre.length<9223372036854775807:=by simp at hl;omega
  have p1:∀(d:Bool) (out:List Pr),out.length<1000000000->z1o N (pre++q::post) d (pre.length:Int) p out=
    some (((pre++q::post),((),((),(d,(pre.length:Int))))),(p,(out++(bif !(eqs q.1 p.1)then[q]else[]),()))):=by
   intro d out ho
   simp only[z1o,V4,U0]
   rw[gd_t rfl]
   cases e:eqs q.1 p.1
   ·have e':eqs q.1 p.1=false:=e
    simp only[e',aO,cond_true]
    rw[gd_t rfl,gd_t (Y4 (by first | omega | (simp;omega)) (by omega))]
    try rfl
   ·have e':eqs q.1 p.1=true:=e
    simp only[e',aS,cond_false,ai]
    try rfl
  have go:∀(d:Bool) (out:List Pr),out.length+1+2*post.length<1000000000->(match z1o N (pre++q::post) d (pre.length:Int) p out with
    | some r4=>(let x5:=(aa .i64 (r4.1.2.2.2.2+(1:Int)))
     z1p N n r4.1.1 r4.1.2.2.2.1 x5 r4.2.1 r4.2.2.1)
    | none=>none)=some (((),((),z90 p d post)),(p,((out++(bif !(eqs q.1 p.1)then[q]else[]))++zgz p d post,()))):=by
   intro d out ho
   rw[p1 d out (by omega)]
   simp only
   rw[W7 (q:=q) hl',V9]
   exact ih d _ (by cases eqs q.1 p.1<;>simp<;>omega)
  rw[zdd]
  simp only[z14,U3,V4,cond_true,U0,yn2]
  rw[gd_t rfl]
  simp only[af]at ho
  cases d
  all_goals simp only[aS,aO,cond_true,cond_false]
  ·cases e:lts q.1 p.1
   ·have e':lts q.1 p.1=false:=e
    rw[gd_t (Y4 (by omega) (by omega))]
    refine(go true (out++[p]) (by simp;omega)).trans ?_
    simp only[z90,zgz,e',aO,Bool.and_self,cond_true,eA]
    simp[au]
   ·have e':lts q.1 p.1=true:=e
    refine(go false out (by omega)).trans ?_
    simp only[z90,zgz,e',aS,aO,cZ,cond_false,de]
    simp[au]
  ·refine(go true out (by omega)).trans ?_
   simp only[z90,zgz,aS,eL,cond_false,dq]
   simp[au]
theorem zu7(p:Pr):∀(t:List Pr),z90 p true t=true
 | []=>rfl
 | q::t=>by simp only[z90,dq];exact zu7 p t
theorem zry(p:Pr):∀(t:List Pr) (d:Bool),(zgz p d t).length<=t.length+(bif d then 0 else bif z90 p d t then 1 else 0)
 | [],d=>by simp[zgz]
 | q::t,d=>by
  have i1:=zry p t true
  have i2:=zry p t false
  have i3:=zu7 p t
  simp only[cond_true,cond_false]at i1 i2
  simp only[zgz,z90,ae,af]
  cases d<;>cases lts q.1 p.1<;>cases eqs q.1 p.1<;>simp[i3]<;>omega
theorem yql(N:Nat)(p:Pr)(t:List Pr)(hN:t.length<N)(ht:t.length<100000000):z9e N t p=some (y2a p false t):=by
 have h:=ym1 N p t [] N false [] hN (by simpa using(by omega)) (by simp;omega)
 have hl:=zry p t false
 have e:=ybs p t false
 rw[e]
 have h':z1p N N t false (0:Int) p []=_:=h
 simp only[z9e,h']
 cases ed:z90 p false t
 ·simp only[aO,cond_true,aj,cond_false]
  rw[gd_t (Y4 (by simp[ed]at hl;omega) (by omega))]
  try rfl
 ·simp only[aS,cond_true,aj,cond_false,ai]
def emptyB(s:B×B):Bool:= !(eqs s.2 [])&&(lts s.2 s.1 || eqs s.2 s.1)
theorem z30(N:Nat)(s:Z0):z0h N s=some (emptyB s):=by
 simp only[z0h,emptyB];cases eqs s.2 []<;>rfl
theorem zhy{s:B×B}(h:emptyB s=true)(k:B):hasB s k=false:=by
 simp only[emptyB,ac,aw,ay]at h
 simp only[hasB,h.1]
 cases e:lts k s.1
 ·simp only[aO,cond_true,cond_false]
  rcases h.2 with h | h
  ·cases e2:lts k s.2
   ·rfl
   ·have:=K9 e2 h;rw[e]at this;cases this
  ·rw[K7.1 h];exact e
 ·rfl
theorem y28(p:Pr):∀t:List Pr,y2a p true t=t.filter (fun q=> !(eqs q.1 p.1))
 | []=>rfl
 | q::t=>by
  simp only[y2a,aS,eL,cond_false,aj,dq,y28 p t]
  cases e:eqs q.1 p.1
  ·rw[bq (by simp[e])];rfl
  ·rw[bn (by simp[e])];rfl
theorem y29(p:Pr):∀{t:List Pr},Srt t->y2a p false t=insT p t
 | [],_=>rfl
 | q::t,hs=>by
  obtain⟨h1,h2⟩:=aI.1 hs
  have ih:=y29 p h2
  have all:lts q.1 p.1=false->t.filter (fun x=>lts x.1 p.1)=[]/\t.filter (fun x=> !(eqs x.1 p.1))=t/\t.filter (fun x=>lts p.1 x.1)=t:=by
   intro e
   have hx:∀x∈t,lts p.1 x.1=true:=fun x hx=>y9n e (h1 x hx)
   exact⟨List.filter_eq_nil_iff.2 fun x h=>by simp[z0j (hx x h)],cn.2 fun x h=>by rw[zh3 (zf9 (hx x h)).symm];rfl,cn.2 fun x h=>hx x h⟩
  simp only[y2a,aO,bv,cG,insT]
  cases e:lts q.1 p.1
  ·obtain⟨a1,a2,a3⟩:=all e
   simp only[aO,cond_true,y28]
   rw[bn (by simp[e]),a1,a2]
   rcases lts_tri p.1 q.1 with g | g | g
   ·rw[zh3 (zf9 g).symm,bq (by simp[g]),a3];rfl
   ·rw[<-g,z6c,bn (by rw[<-g,G8];simp),a3];rfl
   ·rw[e]at g;cases g
  ·have hne:eqs q.1 p.1=false:=zh3 (zf9 e)
   simp only[aS,cond_false,hne,aO,cond_true,aj]
   rw[bq (by simp[e]),bn (by rw[z0j e];simp),ih]
   rfl
def uniT{V:Type}(a b:List (B×V)):List (B×V):=b.foldl (fun t p=>insT p t) a
theorem yb0{V:Type}{a:List (B×V)}(b:List (B×V))(h:Srt a):Srt (uniT a b):=by
 unfold uniT
 induction b generalizing a with
 | nil=>exact h
 | cons p b ih=>exact ih (h.insT p)
theorem yb1{V:Type}{a b:List (B×V)}(hb:Srt b)(k:B):fnd (uniT a b) k=match fnd b k with | some v=>some v | none=>fnd a k:=by
 unfold uniT
 induction b generalizing a with
 | nil=>rfl
 | cons p b ih=>
  obtain⟨h1,h2⟩:=aI.1 hb
  rw[aU,ih h2,yku]
  simp only[fnd]
  cases e:eqs p.1 k
  ·rfl
  ·have:=K7.1 e;subst this
   rw[zoh fun x hx=>(zf9 (h1 x hx)).symm];rfl
theorem yky{α:Type}(x:α)(xs:List α):cut2 (x::xs) (1:Int) ((x::xs).length:Int)=xs:=by
 simp[cut2]
abbrev Mg:=Z1
abbrev Sp:=Z0
theorem y93(k:B)(n:Nat):cut2 k (0:Int) (n:Int)=k.take n:=by simp[cut2]
theorem zol(k:B)(n:Nat):cut2 k (n:Int) (k.length:Int)=k.drop n:=by
 simp only[cut2,dm]
 exact List.take_of_length_le (by simp)
theorem yk6(p k:B):(decide (p.length<=k.length)&&eqs (k.take p.length) p)=p.isPrefixOf k:=by
 rw[eB]
 simp only[ac,decide_eq_true_eq,K7,aP]
 constructor
 ·rintro⟨_,h⟩;exact h▸List.take_prefix _ _
 ·intro h;exact⟨h.length_le,(List.prefix_iff_eq_take.1 h).symm⟩
theorem zyj(c:UInt8)(hc:c.toNat<255):∀(i k:B),(bif !(lts k (i++[c]))then lts k (i++[c+1])else false)=(i++[c]).isPrefixOf k
 | [],[]=>rfl
 | [],b::r=>by
  have h1:(c+1).toNat=c.toNat+1:=by rw[UInt8.toNat_add];simp;omega
  simp only[aj,zci,zma,cZ,de,eD,List.isPrefixOf_nil_left,bV]
  have e1:decide (b<c)=decide (b.toNat<c.toNat):=rfl
  have e2:decide (b<c+1)=decide (b.toNat<c.toNat+1):=by rw[<-h1];rfl
  have e3:(c==b)=decide (c.toNat=b.toNat):=by
   rw[eB];simp[UInt8.toNat_inj]
  rw[e1,e2,e3]
  by_cases g1:b.toNat<c.toNat
  ·simp[g1];omega
  ·by_cases g2:b.toNat<c.toNat+1
   ·simp[g1,g2];omega
   ·simp[g1,g2];omega
 | a::i,[]=>rfl
 | a::i,b::r=>by
  have ih:=zyj c hc i r
  simp only[aY,zci,eD,<-ih]
  rcases u8_tri a b with h | rfl | h
  ·have h2:¬b<a:=fun g=>UInt8.lt_irrefl _ (UInt8.lt_trans h g)
   have h3:(b==a)=false:=by simp;rintro rfl;exact h2 h
   have h4:(a==b)=false:=by simp;rintro rfl;exact h2 h
   simp[h2,h3,h4]
  ·simp[UInt8.lt_irrefl]
  ·have h4:(a==b)=false:=by simp;rintro rfl;exact UInt8.lt_irrefl _ h
   simp[h,h4]
def preB(p:B):B×B:=(p,p.dropLast++[48])
theorem z9o{p:B}(hp:p∈paths):p=p.dropLast++[47]/\p.length<=4:=by
 have h:(paths.all fun p=>eqs p (p.dropLast++[47])&&ci p.length 4)=true:=by decide
 have:=az.1 h p hp
 simp only[ac]at this
 exact⟨K7.1 this.1,cc this.2⟩
theorem z6b{p:B}(hp:p∈paths)(k:B):hasB (preB p) k=p.isPrefixOf k:=by
 have e:=(z9o hp).1
 have h:=zyj 47 (by decide) p.dropLast k
 rw[<-e]at h
 rw[<-h]
 have:eqs (p.dropLast++[48]) []=false:=zh3 (by simp)
 simp only[hasB,preB,this,cond_false]
 rfl
theorem U9{e:B×B}(he:e∈ends):e.1∈paths/\e.2∈paths:=by
 have h:(ends.all fun e=>paths.contains e.1&&paths.contains e.2)=true:=by decide+kernel
 have:=az.1 h e he
 simpa using this
structure Ok (n L:Nat) (t:List Pr):Prop where
 srt:Srt t
 len:t.length<=n
 key:∀p∈t,p.1.length<=L
theorem insT_mem{V:Type}{p x:B×V}{t:List (B×V)}(h:x∈insT p t):x=p\/x∈t:=by
 unfold insT at h
 rcases ak.1 h with h | h
 ·exact .inr (aB.1 h).1
 ·rcases am.1 h with h | h
  ·exact .inl h
  ·exact .inr (aB.1 h).1
def stp(s:B×B)(n:Int)(p:Pr):Pr:=bif hasB s p.1 then(p.1,p.2.1,n)else p
def app(m:Mg)(t:List Pr):List Pr:=
 bif eqi m.1 1 then insT (m.2.1,m.2.2.1,m.2.2.2.2.2.2) t else
 bif eqi m.1 2 then t.filter (fun p=> !(hasB (m.2.1,m.2.1++[0]) p.1))else
 bif eqi m.1 3 then t.filter (fun p=> !(hasB m.2.2.2.1 p.1))else
 bif eqi m.1 4 then(uniT (t.filter fun p=> !(hasB (preB m.2.2.2.2.2.1) p.1)) (mvd m.2.2.2.2.1 m.2.2.2.2.2.1 t)).filter (fun p=> !(hasB (preB m.2.2.2.2.1) p.1))else
 bif eqi m.1 5 then uniT (t.filter fun p=> !(hasB (preB m.2.2.2.2.2.1) p.1)) (mvd m.2.2.2.2.1 m.2.2.2.2.2.1 t)else
 bif eqi m.1 6 then t.map (stp m.2.2.2.1 m.2.2.2.2.2.2)else t
abbrev y9j(k v:B)(n:Int):Mg:=(1,k,v,([],[]),[],[],n)
abbrev ymj(k:B):Mg:=(2,k,[],([],[]),[],[],0)
abbrev zck(s:B×B):Mg:=(3,[],[],s,[],[],0)
abbrev mv(k:Int)(e:B×B):Mg:=(k,[],[],([],[]),e.1,e.2,0)
abbrev zkf(s:B×B)(n:Int):Mg:=(6,[],[],s,[],[],n)
section one
variable {n L:Nat} {t:List Pr} (h:Ok n L t) (hn:n+4<NN) (hL:L<1000000000)
include h hn
include hL
end one
def apps(ms:List Mg)(t:List Pr):List Pr:=ms.foldl (fun t m=>app m t) t
theorem ypa{α:Type}(xs:List α)(i:Int)(d:α)(h0:0<=i)(h1:i<(xs.length:Int)):∃(h:i.toNat<xs.length),rdL xs i d=xs[i.toNat]'h:=by
 have h:i.toNat<xs.length:=by omega
 refine⟨h, ?_⟩
 simp[rdL,List.getD,h]
theorem walk{α S R:Type}{xs:List α}{L:Nat->Int->S->Option R}(g:S->α->S)(fin:S->R)(I:S->List α->Prop)
  (hend:∀n s,I s []->L (n+1) (xs.length:Int) s=some (fin s))
  (hstep:∀n pre x post s,xs=pre++x::post->I s (x::post)->L (n+1) (pre.length:Int) s=L n ((pre++[x]).length:Int) (g s x)/\I (g s x) post):
  ∀post pre n s,xs=pre++post->post.length<n->I s post->L n (pre.length:Int) s=some (fin (post.foldl g s))/\I (post.foldl g s) []
 | _,_,0,_,_,h,_=>absurd h (ag _)
 | [],pre,n+1,s,hx,_,hi=>by
  have:xs=pre:=by simpa using hx
  subst this
  exact⟨hend n s hi,hi⟩
 | x::post,pre,n+1,s,hx,hn,hi=>by
  obtain⟨h1,h2⟩:=hstep n pre x post s hx hi
  have ih:=walk g fin I hend hstep post (pre++[x]) n (g s x) (by rw[hx];simp) (by simpa using hn) h2
  exact⟨h1.trans ih.1,ih.2⟩
theorem y9d{α S R:Type}{xs:List α}{L:Nat->Int->S->Option R}(g:S->α->S)(fin:S->R)(I:S->List α->Prop)
  (hend:∀n s,I s []->L (n+1) (xs.length:Int) s=some (fin s))
  (hstep:∀n pre x post s,xs=pre++x::post->I s (x::post)->L (n+1) (pre.length:Int) s=L n ((pre++[x]).length:Int) (g s x)/\I (g s x) post)
  {n:Nat} {s:S} (hn:xs.length<n) (hi:I s xs):L n 0 s=some (fin (xs.foldl g s)):=
 (walk g fin I hend hstep xs [] n s rfl hn hi).1
abbrev Big(n:Nat):Prop:=n<1000000000
def inS(l:List Sp)(k:B):Bool:=l.any fun s=>hasB s k
theorem yfz(N:Nat)(s:Sp)(k:B):zbk N s k=some (hasB s k):=by
 simp only[zbk,hasB]
 cases lts k s.1<;>cases eqs s.2 []<;>rfl
theorem ypm(N:Nat)(k:B):∀(post pre:List Sp) (n:Nat),post.length<n->Big (pre++post).length->
  ze1 N n (pre++post) k (pre.length:Int)=some (bif inS post k then .inl (true,())else .inr ((),()))
 | _,_,0,h,_=>absurd h (ag _)
 | [],pre,n+1,_,_=>by
  rw[zjw]
  simp only[z5j,ai,aA,decide_false,cond_false]
  rfl
 | q::post,pre,n+1,hn,hl=>by
  simp only[af]at hn
  have hl':pre.length<9223372036854775807:=by simp[Big]at hl;omega
  rw[zjw]
  simp only[z5j,U3,V4,cond_true,U0,yfz]
  rw[gd_t rfl]
  cases e:hasB q k
  ·rw[cond_false,W7 (q:=q) hl',V9 (pre:=pre) (q:=q) (post:=post),ypm N k post (pre++[q]) n (by omega) (by simpa using hl)]
   simp[inS,e]
  ·simp[inS,e]
theorem yq6(N:Nat)(l:List Sp)(k:B)(hN:l.length<N)(hl:Big l.length):zoe N l k=some (inS l k):=by
 have h:=ypm N k l [] N hN (by simpa using hl)
 have hz:(([]:List Sp).length:Int)=0:=rfl
 simp only[aj,hz]at h
 simp only[zoe,h]
 cases inS l k<;>rfl
theorem y4a{α:Type}(f:α->Bool)(xs out:List α):xs.foldl (fun o x=>bif f x then o++[x]else o) out=out++xs.filter f:=by
 induction xs generalizing out with
 | nil=>simp
 | cons x xs ih=>
  rw[aU,ih]
  cases e:f x<;>simp[e]
theorem yer(N:Nat)(t:List Pr)(l:List Sp)(hN:t.length<N)(hl:l.length<N)(ht:Big t.length)(hl':Big l.length):z57 N t l=some (t.filter fun p=> !(inS l p.1)):=by
 have h:=y9d (xs:=t) (L:=fun n i s=>z5i N n t l i s) (fun o x=>bif !(inS l x.1)then o++[x]else o) (fun s=>((),(s,()))) (fun s post=>s.length+post.length<1000000000)
  (fun n s _=>by
   rw[zce]
   simp only[z0g,aA,decide_false,cond_false])
  (fun n pre x post s hx hi=>by
   have hb:pre.length<9223372036854775807:=by rw[hx]at ht;simp[Big]at ht;omega
   simp only[af]at hi
   rw[zce]
   rw[hx]
   simp only[z0g,U3,V4,cond_true,U0,yq6 N l _ hl hl']
   rw[gd_t rfl]
   cases inS l x.1
   ·simp only[aO,cond_true]
    rw[gd_t rfl,gd_t (Y4 (by omega) (by omega)),W7 (q:=x) hb]
    exact⟨rfl,by simp;omega⟩
   ·simp only[aS,cond_false]
    rw[W7 (q:=x) hb]
    exact⟨rfl,by omega⟩)
  hN (by simpa using ht) (s:=[])
 simp only[z57,h,y4a,aj]
theorem yir(N:Nat)(t:List Pr)(l:List Sp)(hN:t.length<N)(hl:l.length<N)(ht:Big t.length)(hl':Big l.length):zfm N t l=some (t.filter fun p=>inS l p.1):=by
 have h:=y9d (xs:=t) (L:=fun n i s=>z73 N n t l i s) (fun o x=>bif inS l x.1 then o++[x]else o) (fun s=>((),(s,()))) (fun s post=>s.length+post.length<1000000000)
  (fun n s _=>by
   rw[zdb]
   simp only[z11,aA,decide_false,cond_false])
  (fun n pre x post s hx hi=>by
   have hb:pre.length<9223372036854775807:=by rw[hx]at ht;simp[Big]at ht;omega
   simp only[af]at hi
   rw[zdb]
   rw[hx]
   simp only[z11,U3,V4,cond_true,U0,yq6 N l _ hl hl']
   rw[gd_t rfl]
   cases inS l x.1
   ·simp only[cond_false]
    rw[W7 (q:=x) hb]
    exact⟨rfl,by omega⟩
   ·simp only[cond_true]
    rw[gd_t rfl,gd_t (Y4 (by omega) (by omega)),W7 (q:=x) hb]
    exact⟨rfl,by simp;omega⟩)
  hN (by simpa using ht) (s:=[])
 simp only[zfm,h,y4a,aj]
theorem y7t(N:Nat){t:List Pr}(p:Pr)(hs:Srt t)(hN:t.length<N)(ht:t.length<100000000):z9e N t p=some (insT p t):=by
 rw[yql N p t hN ht,y29 p hs]
theorem yeb{e:B×B}(he:e∈ends)(k:B)(h1:e.1.isPrefixOf k=true):e.2.isPrefixOf k=false:=by
 have h:(ends.all fun e=> !(e.1.isPrefixOf e.2)&& !(e.2.isPrefixOf e.1))=true:=by decide+kernel
 have hh:=az.1 h e he
 simp only[ac,aw]at hh
 cases h2:e.2.isPrefixOf k
 ·rfl
 ·have p1:=aP.1 h1
  have p2:=aP.1 h2
  rcases Nat.le_total e.1.length e.2.length with hl | hl
  ·have:=aP.2 (dn p1 p2 hl)
   rw[this]at hh;cases hh.1
  ·have:=aP.2 (dn p2 p1 hl)
   rw[this]at hh;cases hh.2
theorem zrx(N:Nat)(k p:B):z04 N k p=some (p.isPrefixOf k):=by
 simp only[z04,<-yk6]
 by_cases h:p.length<=k.length
 ·rw[X4 (by simp;omega),gd_t (by simp;omega),y93]
  simp[h]
 ·rw[Y3 (by simp;omega)]
  simp[h]
theorem yho(N:Nat)(k p q:B)(hk:k.length<1000000000)(hq:q.length<1000000000):ziq N k p q=some (bif p.isPrefixOf k then(q++k.drop p.length,true)else([],false)):=by
 simp only[ziq,zrx]
 cases e:p.isPrefixOf k
 ·rfl
 ·have h:p.length<=k.length:=(aP.1 e).length_le
  simp only[aS,cond_false,cond_true]
  rw[gd_t (by simp;omega),zol,gd_p (by simp only[maxS,aZ];omega)]
theorem in1(s:Sp)(k:B):inS [s] k=hasB s k:=by simp[inS]
theorem y6i(N:Nat)(m:Mg):∀(post pre:List Pr) (n:Nat),post.length<n->(pre++post).length<1000000000->
  z8c N n (pre.length:Int) m (pre++post)=some ((),(pre++post.map (stp m.2.2.2.1 m.2.2.2.2.2.2),()))
 | _,_,0,h,_=>absurd h (ag _)
 | [],pre,n+1,_,_=>by
  rw[zew]
  simp only[z2b,ai,aA,decide_false,cond_false,bO]
 | x::post,pre,n+1,hn,hl=>by
  simp only[af]at hn
  have hl':pre.length<9223372036854775807:=by simp at hl;omega
  rw[zew]
  simp only[z2b,U3,V4,cond_true,U0,y8j,yfz]
  rw[gd_t rfl]
  have ih:=fun y:Pr=>y6i N m post (pre++[y]) n (by omega) (by simp at hl|-;omega)
  cases e1:hasB m.2.2.2.1 x.1
  ·rw[cond_false,W7 (q:=x) hl',V9 (pre:=pre) (q:=x) (post:=post),ih x]
   simp[stp,e1]
  ·rw[cond_true,gd_t rfl,W7 (q:=(x.1,x.2.1,m.2.2.2.2.2.2)) hl',V9 (pre:=pre) (q:=(x.1,x.2.1,m.2.2.2.2.2.2)) (post:=post),ih]
   simp[stp,e1]
def lessB(a b:B):Bool:= !(eqs a [])&&(eqs b [] || lts a b)
theorem y8w(N:Nat)(a b:B):zdg N a b=some (lessB a b):=by
 simp only[zdg,lessB]
 cases eqs a []<;>cases eqs b []<;>rfl
def ye3(a b:B):B:=bif !(lts a b)then a else b
def y2m(a b:Sp):Sp:=(ye3 a.1 b.1,bif lessB b.2 a.2 then b.2 else a.2)
def G7(a b:Sp):Sp:=bif emptyB (y2m a b)then([97],[97])else y2m a b
theorem zkh(N:Nat)(a b:Sp):z2n N a b=some (G7 a b):=by
 simp only[z2n,y8w,z30,zlo,G7,y2m,ye3]
 cases lessB b.2 a.2
 ·simp only[cond_false]
  cases emptyB (bif !lts a.1 b.1 then a.1 else b.1,a.2)<;>rfl
 ·simp only[cond_true]
  cases emptyB (bif !lts a.1 b.1 then a.1 else b.1,b.2)<;>rfl
def belowB(k h:B):Bool:=eqs h [] || lts k h
theorem U1(s:Sp)(k:B):hasB s k=(!(lts k s.1)&&belowB k s.2):=by
 simp only[hasB,belowB]
 cases lts k s.1<;>cases eqs s.2 []<;>rfl
theorem yo5(a b k:B):lts k (ye3 a b)=(lts k a || lts k b):=by
 unfold ye3
 cases e:lts a b
 ·simp only[aO,cond_true]
  cases e2:lts k b
  ·simp
  ·rw[zki e2 e];rfl
 ·simp only[aS,cond_false]
  cases e2:lts k a
  ·rfl
  ·rw[K9 e2 e];rfl
theorem zz3{a b k:B}(h:lessB a b=true)(hk:belowB k a=true):belowB k b=true:=by
 simp only[lessB,belowB,ac,ay,aw]at h hk|-
 obtain⟨h1,h2⟩:=h
 rcases hk with hk | hk
 ·rw[h1]at hk;cases hk
 ·rcases h2 with h2 | h2
  ·exact .inl h2
  ·exact .inr (K9 hk h2)
theorem zky{a b k:B}(h:lessB a b=false)(hk:belowB k b=true):belowB k a=true:=by
 simp only[lessB,belowB,ay,dr,cW,dN]at h hk|-
 rcases h with h | ⟨h1,h2⟩
 ·exact .inl h
 ·rcases hk with hk | hk
  ·rw[h1]at hk;cases hk
  ·exact .inr (zki hk h2)
theorem yi3(a b k:B):belowB k (bif lessB b a then b else a)=(belowB k a&&belowB k b):=by
 cases e:lessB b a
 ·simp only[cond_false]
  cases e2:belowB k a
  ·rfl
  ·rw[zky e e2];rfl
 ·simp only[cond_true]
  cases e2:belowB k b
  ·simp
  ·rw[zz3 e e2];rfl
theorem zch(a b:Sp)(k:B):hasB (G7 a b) k=(hasB a k&&hasB b k):=by
 have h:hasB (y2m a b) k=(hasB a k&&hasB b k):=by
  rw[U1,U1,U1]
  simp only[y2m,yo5,yi3]
  cases lts k a.1<;>cases lts k b.1<;>cases belowB k a.2<;>cases belowB k b.2<;>rfl
 unfold G7
 cases e:emptyB (y2m a b)
 ·exact h
 ·rw[<-h,zhy e,cond_true,zhy (by decide)]
def sMid(s:Sp):Bool->List Sp->List Sp
 | _,[]=>[]
 | d,q::l=>bif !d&&lts s.1 q.1 then s::q::sMid s true l else q::sMid s d l
def sDone(s:Sp):Bool->List Sp->Bool
 | d,[]=>d
 | d,q::l=>bif !d&&lts s.1 q.1 then sDone s true l else sDone s d l
def sIns(s:Sp)(l:List Sp):List Sp:=sMid s (emptyB s) l++bif sDone s (emptyB s) l then[]else[s]
theorem zgv(s:Sp):∀l,sMid s true l=l/\sDone s true l=true
 | []=>⟨rfl,rfl⟩
 | q::l=>by
  obtain⟨h1,h2⟩:=zgv s l
  simp[sMid,sDone,h1,h2]
theorem ybh(s:Sp):∀(l:List Sp),(sMid s false l).length<=l.length+1/\(sMid s false l).length+(bif sDone s false l then 0 else 1)<=l.length+1
 | []=>by simp[sMid,sDone]
 | q::l=>by
  have i1:=zgv s l
  obtain⟨i2,i3⟩:=ybh s l
  simp only[sMid,sDone,aO,bv]
  cases lts s.1 q.1
  ·simp only[cond_false,af]
   omega
  ·simp only[cond_true,i1.1,i1.2,af]
   omega
theorem ybi(s:Sp)(l:List Sp):(sMid s (emptyB s) l).length<=l.length+1/\(sIns s l).length<=l.length+1:=by
 unfold sIns
 cases emptyB s
 ·obtain⟨i2,i3⟩:=ybh s l
  refine⟨i2, ?_⟩
  rw[ae]
  cases e:sDone s false l<;>rw[e]at i3<;>simp only[cond_true,cond_false,aq,af]at i3⊢<;>omega
 ·obtain⟨i1,i2⟩:=zgv s l
  rw[i1,i2]
  simp
theorem y78(N:Nat)(s:Sp):∀(post pre:List Sp) (n:Nat) (d:Bool) (out:List Sp),post.length<n->Big (pre++post).length->out.length+2*post.length<1000000000->
  z75 N n (pre++post) d (pre.length:Int) s out=some (((),((),sDone s d post)),(s,(out++sMid s d post,())))
 | _,_,0,_,_,h,_,_=>absurd h (ag _)
 | [],pre,n+1,d,out,_,_,_=>by
  rw[zde]
  simp only[z15,ai,aA,decide_false,cond_false,sDone,sMid]
 | q::post,pre,n+1,d,out,hn,hl,ho=>by
  simp only[af]at hn ho
  have hl':pre.length<9223372036854775807:=by simp[Big]at hl;omega
  have ih:=fun d out=>y78 N s post (pre++[q]) n d out (by omega) (by simpa using hl)
  rw[zde]
  simp only[z15,U3,V4,cond_true,U0]
  cases d
  ·simp only[aO,cond_true]
   rw[gd_t rfl]
   cases e:lts s.1 q.1
   ·simp only[cond_false]
    rw[gd_t rfl,gd_t (Y4 (by omega) (by omega)),W7 (q:=q) hl',V9 (pre:=pre) (q:=q) (post:=post),ih false (out++[q]) (by simp;omega)]
    simp[sMid,sDone,e]
   ·simp only[cond_true]
    rw[gd_t (Y4 (by omega) (by omega)),gd_t rfl,gd_t (Y4 (by simp;omega) (by omega)),W7 (q:=q) hl',V9 (pre:=pre) (q:=q) (post:=post),ih true (out++[s]++[q]) (by simp;omega)]
    simp[sMid,sDone,e]
  ·simp only[aS,cond_false]
   rw[gd_t rfl,gd_t (Y4 (by omega) (by omega)),W7 (q:=q) hl',V9 (pre:=pre) (q:=q) (post:=post),ih true (out++[q]) (by simp;omega)]
   simp[sMid,sDone]
theorem y77(N:Nat)(l:List Sp)(s:Sp)(hN:l.length<N)(hl:l.length<100000000):zfp N l s=some (sIns s l):=by
 have h:=y78 N s l [] N (emptyB s) [] hN (by simp only[aj,Big];omega) (by simp;omega)
 have hz:(([]:List Sp).length:Int)=0:=rfl
 simp only[aj,hz]at h
 have hm:=(ybi s l).1
 simp only[zfp,z30,h,sIns]
 cases sDone s (emptyB s) l
 ·simp only[aO,cond_true,cond_false]
  rw[gd_t (Y4 (by omega) (by omega))]
 ·simp
structure Nrm (l:List Sp):Prop where
 ord:l.Pairwise fun a b=>lts b.1 a.1=false
 full:∀s∈l,emptyB s=false
theorem zro(s:Sp):∀l:List Sp,Nrm l->emptyB s=false->Nrm (sMid s false l++bif sDone s false l then[]else[s])/\(∀x,x∈(sMid s false l++bif sDone s false l then[]else[s])↔x=s\/x∈l)
 | [],h,hs=>⟨⟨by simp[sMid,sDone],fun x hx=>by simp[sMid,sDone]at hx;rw[hx];exact hs⟩,fun x=>by simp[sMid,sDone]⟩
 | q::l,h,hs=>by
  obtain⟨o1,o2⟩:=aI.1 h.ord
  cases e:lts s.1 q.1
  ·obtain⟨i1,i2⟩:=zro s l ⟨o2,fun x hx=>h.full x (by simp[hx])⟩ hs
   have e1:(sMid s false (q::l)++bif sDone s false (q::l)then[]else[s])=q::(sMid s false l++bif sDone s false l then[]else[s]):=by simp[sMid,sDone,e]
   rw[e1]
   refine⟨⟨aI.2 ⟨fun x hx=> ?_,i1.ord⟩,fun x hx=> ?_⟩,fun x=> ?_⟩
   ·rcases(i2 x).1 hx with rfl | hx
    ·exact e
    ·exact o1 x hx
   ·rcases am.1 hx with rfl | hx
    ·exact h.full _ (by simp)
    ·exact i1.full x hx
   ·rw[am,i2,am]
    constructor
    ·rintro(h | h | h)
     ·exact .inr (.inl h)
     ·exact .inl h
     ·exact .inr (.inr h)
    ·rintro(h | h | h)
     ·exact .inr (.inl h)
     ·exact .inl h
     ·exact .inr (.inr h)
  ·obtain⟨m1,m2⟩:=zgv s l
   have e1:(sMid s false (q::l)++bif sDone s false (q::l)then[]else[s])=s::q::l:=by simp[sMid,sDone,e,m1,m2]
   rw[e1]
   refine⟨⟨aI.2 ⟨fun x hx=> ?_,h.ord⟩,fun x hx=> ?_⟩,fun x=>am⟩
   ·rcases am.1 hx with rfl | hx
    ·exact z0j e
    ·cases e2:lts x.1 s.1
     ·rfl
     ·have:=K9 e2 e;rw[o1 x hx]at this;cases this
   ·rcases am.1 hx with rfl | hx
    ·exact hs
    ·exact h.full x hx
theorem y21(s:Sp){l:List Sp}(h:Nrm l):Nrm (sIns s l)/\(∀k,inS (sIns s l) k=(inS l k || hasB s k))/\(sIns s l).length<=l.length+1:=by
 have hlen:=(ybi s l).2
 cases e:emptyB s
 ·obtain⟨i1,i2⟩:=zro s l h e
  have e1:sIns s l=(sMid s false l++bif sDone s false l then[]else[s]):=by unfold sIns;rw[e]
  rw[e1]at hlen|-
  refine⟨i1,fun k=> ?_,hlen⟩
  rw[eB]
  simp only[inS,db,ay]
  constructor
  ·rintro⟨x,hx,hk⟩
   rcases(i2 x).1 hx with rfl | hx
   ·exact .inr hk
   ·exact .inl ⟨x,hx,hk⟩
  ·rintro(⟨x,hx,hk⟩ | hk)
   ·exact⟨x,(i2 x).2 (.inr hx),hk⟩
   ·exact⟨s,(i2 s).2 (.inl rfl),hk⟩
 ·obtain⟨m1,m2⟩:=zgv s l
  have e1:sIns s l=l:=by unfold sIns;rw[e,m1,m2];simp
  rw[e1]
  exact⟨h,fun k=>by rw[zhy e,de],by omega⟩
def zbq(out:List Sp)(s:Sp):List Sp:=match out.getLast? with
 | none=>[s]
 | some o=>bif !(eqs o.2 [])&&lts o.2 s.1 then out++[s]else bif lessB o.2 s.2 then out.dropLast++[(o.1,s.2)]else out
theorem z92(a b:List Sp)(k:B):inS (a++b) k=(inS a k || inS b k):=by simp[inS,List.any_append]
theorem inS1(s:Sp)(k:B):inS [s] k=hasB s k:=by simp[inS]
theorem yi4{o s:Sp}(h1:lts s.1 o.1=false)(h2:(!(eqs o.2 [])&&lts o.2 s.1)=false)(k:B):(hasB o k || hasB s k)=(bif lessB o.2 s.2 then hasB (o.1,s.2) k else hasB o k):=by
 have A:lts k o.1=true->lts k s.1=true:=fun h=>zki h h1
 have Bn:lts k s.1=true->belowB k o.2=true:=fun h=>by
  simp only[dr,dN]at h2
  simp only[belowB,ay]
  rcases h2 with h2 | h2
  ·exact .inl h2
  ·exact .inr (zki h h2)
 rw[U1,U1,U1]
 cases e:lessB o.2 s.2
 ·have C:belowB k s.2=true->belowB k o.2=true:=fun h=>zky e h
  simp only[cond_false]
  revert A Bn C
  cases lts k o.1<;>cases lts k s.1<;>cases belowB k o.2<;>cases belowB k s.2<;>simp
 ·have C:belowB k o.2=true->belowB k s.2=true:=fun h=>zz3 e h
  simp only[cond_true]
  revert A Bn C
  cases lts k o.1<;>cases lts k s.1<;>cases belowB k o.2<;>cases belowB k s.2<;>simp
theorem yca:∀(post out:List Sp),post.Pairwise (fun a b=>lts b.1 a.1=false)->(∀o,out.getLast? =some o->∀s∈post,lts s.1 o.1=false)->(∀k,inS (post.foldl zbq out) k=(inS out k || inS post k))/\(post.foldl zbq out).length<=out.length+post.length
 | [],out,_,_=>⟨fun k=>by simp[inS],by simp⟩
 | s::post,out,hp,ho=>by
  obtain⟨p1,p2⟩:=aI.1 hp
  have key:(∀k,inS (zbq out s) k=(inS out k || hasB s k))/\(∀o,(zbq out s).getLast? =some o->∀x∈post,lts x.1 o.1=false)/\(zbq out s).length<=out.length+1:=by
   unfold zbq
   cases e:out.getLast? with
   | none=>
    have:out=[]:=dT.1 e
    subst this
    exact⟨fun k=>by simp[inS],fun o h x hx=>by simp at h;subst h;exact p1 x hx,by simp⟩
   | some o=>
    obtain⟨ini,rfl⟩:∃ini,out=ini++[o]:=c9.1 e
    have hos:=ho o e s (by simp)
    simp only
    cases e1:(!(eqs o.2 [])&&lts o.2 s.1)
    ·have hm:=yi4 hos e1
     simp only[cond_false]
     cases e2:lessB o.2 s.2
     ·simp only[e2,cond_false]at hm|-
      refine⟨fun k=> ?_,fun o' h x hx=> ?_,by simp⟩
      ·rw[z92,inS1,<-hm k]
       cases inS ini k<;>cases hasB o k<;>cases hasB s k<;>rfl
      ·rw[e]at h;cases h
       exact ho o e x (by simp[hx])
     ·simp only[e2,cond_true]at hm|-
      rw[cX]
      refine⟨fun k=> ?_,fun o' h x hx=> ?_,by simp⟩
      ·rw[z92,z92,inS1,inS1,<-hm k,eP]
      ·simp at h;subst h
       exact ho o e x (by simp[hx])
    ·simp only[cond_true]
     refine⟨fun k=>by rw[z92,inS1],fun o' h x hx=> ?_,by simp⟩
     simp at h;subst h
     exact p1 x hx
  obtain⟨k1,k2,k3⟩:=key
  obtain⟨i1,i2⟩:=yca post (zbq out s) p2 k2
  refine⟨fun k=> ?_, ?_⟩
  ·rw[aU,i1,k1]
   simp[inS,eP]
  ·rw[aU];simp only[af];omega
theorem yo0(N:Nat){i:Int}{b:Bool}{sorted:List Sp}{s o:Sp}{ini:List Sp}(hi:inB i sorted.length=true)(hr:rdL sorted i Y7=s)(hl:ini.length<1000000000):
  z2w N i (ini.length:Int) b sorted (ini++[o])=some (((),((),i)),(sorted,((bif b then ini++[o]++[s]else bif lessB o.2 s.2 then ini++[(o.1,s.2)]else ini++[o]),()))):=by
 simp only[z2w,hr,V4,U0,y8j,y8w]
 cases b
 ·simp only[cond_false]
  rw[gd_t rfl,gd_t hi]
  cases lessB o.2 s.2
  ·rfl
  ·simp only[cond_true]
   rw[gd_t hi,gd_t rfl]
 ·simp only[cond_true]
  rw[gd_t hi,gd_t (Y4 (by simp;omega) (by omega))]
theorem yg7(N:Nat){sorted:List Sp}(hN:sorted.length<N)(hl:sorted.length<100000000):z7h N N (0:Int) sorted []=some ((),(sorted.foldl zbq [],())):=by
 refine y9d (xs:=sorted) (L:=fun n i s=>z7h N n i sorted s) zbq (fun s=>((),(s,()))) (fun s post=>s.length+post.length<=100000000)
  (fun n s _=>by
   rw[zgi]
   simp only[z3m,aA,decide_false,cond_false])
  (fun n pre x post s hx hi=> ?_) hN (by simp;omega)
 simp only[af]at hi
 have hb:pre.length<9223372036854775807:=by rw[hx]at hl;simp at hl;omega
 have hlen:(zbq s x).length<=s.length+1:=by
  unfold zbq
  split
  ·simp
  ·rename_i o _
   cases (!(eqs o.2 [])&&lts o.2 x.1)
   ·cases lessB o.2 x.2
    ·simp
    ·simp only[cond_true,cond_false,ae,List.length_dropLast,af,aq];omega
   ·simp
 rw[zgi]
 rw[hx]
 simp only[z3m,U3,V4,cond_true,U0]
 cases e:s.getLast? with
 | none=>
  have:s=[]:=dT.1 e
  subst this
  have w:aa .i64 ((([]:List Sp).length:Int)-(1:Int))= -1:=by decide
  have p2:z2w N (pre.length:Int) (-1) true (pre++x::post) []=some (((),((),(pre.length:Int))),(pre++x::post,([x],()))):=by
   simp only[z2w,cond_true,V4,U0]
   rw[gd_t rfl,gd_t (Y4 (by simp) (by omega))]
   rfl
  rw[w,X4 (by decide),p2]
  simp only
  rw[W7 (q:=x) hb]
  exact⟨rfl,by simp[zbq];simp at hi;omega⟩
 | some o=>
  obtain⟨ini,rfl⟩:∃ini,s=ini++[o]:=c9.1 e
  have hil:ini.length<100000000:=by simp at hi;omega
  have w:aa .i64 (((ini++[o]).length:Int)-(1:Int))=(ini.length:Int):=by
   rw[w64 (by simp only[ae,af,aq];omega) (by simp only[ae,af,aq];omega)];simp
  have p2:=fun b=>yo0 N (i:=(pre.length:Int)) (b:=b) (sorted:=pre++x::post) (s:=x) (o:=o) (ini:=ini) V4 U0 (by omega)
  have hms:zbq (ini++[o]) x=(bif !(eqs o.2 [])&&lts o.2 x.1 then ini++[o]++[x]else bif lessB o.2 x.2 then ini++[(o.1,x.2)]else ini++[o]):=by
   unfold zbq
   rw[e]
   simp only[cX]
  rw[w,Y3 (by simp),V4,U0,gd_t rfl,hms]
  rw[hms]at hlen
  cases e1:eqs o.2 []
  ·simp only[e1,aO,cond_true,bv]at hlen|-
   rw[gd_t rfl,gd_t rfl,p2]
   simp only
   rw[W7 (q:=x) hb]
   exact⟨rfl,by omega⟩
  ·simp only[e1,aS,cond_false,eL]at hlen|-
   rw[p2]
   simp only
   rw[W7 (q:=x) hb]
   exact⟨rfl,by omega⟩
theorem yoz(N:Nat){l:List Sp}(hN:l.length<N)(hl:l.length<40000000):∃r,z16 N l=some r/\(∀k,inS r k=inS l k)/\r.length<=l.length:=by
 have h0:=walk (xs:=l) (L:=fun n i (s:List Sp)=>z7i N n l i s []) (fun o x=>sIns x o) (fun s=>(((),()),(s,([],())))) (fun s post=>Nrm s/\s.length+post.length<=l.length)
  (fun n s _=>by
   rw[z69]
   simp only[y6,aA,decide_false,cond_false])
  (fun n pre x post s hx hi=>by
   obtain⟨h1,h2⟩:=hi
   simp only[af]at h2
   have hb:pre.length<9223372036854775807:=by rw[hx]at hl;simp at hl;omega
   have hbl:=congrArg ap hx
   obtain⟨i1,_,i3⟩:=y21 x h1
   rw[z69]
   rw[hx]
   simp only[y6,U3,V4,cond_true,U0,y77 N s x (by omega) (by omega)]
   rw[gd_t rfl,W7 (q:=x) hb]
   exact⟨rfl,i1,by omega⟩)
  l [] N [] rfl hN ⟨⟨bi.nil,fun s h=>by cases h⟩,by simp⟩
 have hz:(([]:List Sp).length:Int)=0:=rfl
 simp only[hz]at h0
 obtain⟨e0,n1,n2⟩:=h0
 have sem:∀(post s:List Sp),Nrm s->∀k,inS (post.foldl (fun o x=>sIns x o) s) k=(inS s k || inS post k):=by
  intro post
  induction post with
  | nil=>intro s _ k;simp[inS]
  | cons x post ih=>
   intro s hs k
   obtain⟨i1,i2,_⟩:=y21 x hs
   rw[aU,ih _ i1,i2]
   simp[inS,eP]
 have sm:=sem l [] ⟨bi.nil,fun s h=>by cases h⟩
 generalize l.foldl (fun o x=>sIns x o) []=sorted at e0 n1 n2 sm
 simp only[aq,bG]at n2
 obtain⟨m1,m2⟩:=yca sorted [] n1.ord (fun o h=>by simp at h)
 have e1:=yg7 N (sorted:=sorted) (by omega) (by omega)
 refine⟨sorted.foldl zbq [],by simp only[z16,e0,e1],fun k=> ?_,by simp at m2;omega⟩
 rw[m1,sm]
 simp[inS]
def z2x(q:Sp)(out:List Sp)(x:Sp):List Sp:=out++((bif eqs q.1 []then[]else[G7 x ([],q.1)])++bif eqs q.2 []then[]else[G7 x (q.2,[])])
theorem y2j{q:Sp}(hq:emptyB q=false)(x:Sp)(k:B):inS ((bif eqs q.1 []then[]else[G7 x ([],q.1)])++bif eqs q.2 []then[]else[G7 x (q.2,[])]) k=(hasB x k&& !(hasB q k)):=by
 have e1:inS (bif eqs q.1 []then[]else[G7 x ([],q.1)]) k=(hasB x k&&lts k q.1):=by
  cases e:eqs q.1 []
  ·simp only[cond_false]
   rw[inS1,zch,U1 ([],q.1)]
   simp only[zma,belowB,e,aO,bv,cG]
  ·rw[K7.1 e,zma];simp[inS]
 have e2:inS (bif eqs q.2 []then[]else[G7 x (q.2,[])]) k=(hasB x k&& !(belowB k q.2)):=by
  cases e:eqs q.2 []
  ·simp only[cond_false]
   rw[inS1,zch,U1 (q.2,[])]
   simp only[belowB,e,z6c,dq,bV,cG]
  ·simp[inS,belowB,e]
 have C:lts k q.1=true->belowB k q.2=true:=fun h=>by
  simp only[emptyB,dr,cW,dN]at hq
  simp only[belowB,ay]
  rcases hq with hq | ⟨hq,_⟩
  ·exact .inl hq
  ·exact .inr (zki h hq)
 rw[z92,e1,e2,U1 q]
 revert C
 cases hasB x k<;>cases lts k q.1<;>cases belowB k q.2<;>simp
theorem yc8(N:Nat){pm post':List Sp}{q:Sp}(left:List Sp)(hN:left.length<N)(hl:left.length<20000000):
  z60 N N (pm++q::post') (pm.length:Int) (0:Int) left []=some ((pm++q::post',((pm.length:Int),())),(left.foldl (z2x q) [],())):=by
 refine y9d (xs:=left) (L:=fun n i s=>z60 N n (pm++q::post') (pm.length:Int) i left s) (z2x q) (fun s=>((pm++q::post',((pm.length:Int),())),(s,()))) (fun s post=>s.length+2*post.length<=40000000)
  (fun n s _=>by
   rw[zf0]
   simp only[z2f,aA,decide_false,cond_false])
  (fun n pre x post s hx hi=> ?_) hN (by simp;omega)
 simp only[af]at hi
 have hb:pre.length<9223372036854775807:=by rw[hx]at hl;simp at hl;omega
 have hlen:(z2x q s x).length<=s.length+2:=by
  unfold z2x
  cases eqs q.1 []<;>cases eqs q.2 []<;>simp
 refine⟨?_,by omega⟩
 rw[zf0]
 rw[hx]
 simp only[z2f,U3,V4,cond_true,U0,zkh]
 rw[gd_t rfl]
 cases e1:eqs q.1 []
 ·simp only[aO,cond_true]
  rw[gd_t rfl,gd_t rfl,gd_t (Y4 (by omega) (by omega)),gd_t rfl]
  cases e2:eqs q.2 []
  ·simp only[aO,cond_true]
   rw[gd_t rfl,gd_t rfl,gd_t (Y4 (by simp;omega) (by omega)),W7 (q:=x) hb]
   simp[z2x,e1,e2]
  ·simp only[aS,cond_false]
   rw[W7 (q:=x) hb]
   simp[z2x,e1,e2]
 ·simp only[aS,cond_false]
  rw[gd_t rfl]
  cases e2:eqs q.2 []
  ·simp only[aO,cond_true]
   rw[gd_t rfl,gd_t rfl,gd_t (Y4 (by omega) (by omega)),W7 (q:=x) hb]
   simp[z2x,e1,e2]
  ·simp only[aS,cond_false]
   rw[W7 (q:=x) hb]
   simp[z2x,e1,e2]
theorem zxc(a b:Bool):(bif a then some b else some false)=some (a&&b):=by cases a<;>rfl
def inR(n lo hi:Int):Bool:=decide (lo<=n)&&decide (n<=hi)
theorem ylw(N:Nat)(n lo hi:Int):zhv N n lo hi=some (inR n lo hi):=by simp only[zhv,zxc];rfl
def nol(s:B):Bool:=eqs s []
theorem ykx(a b:B):eqs a b=eqs b a:=by
 cases h:eqs b a
 ·cases h2:eqs a b
  ·rfl
  ·rw[K7.1 h2,z6c]at h;cases h
 ·rw[K7.1 h,z6c]
theorem y2i(s:B):eqs s []=nol s:=rfl
def spanV(s:Sp):Bool:= !(emptyB s)&&(decide ((s.1.length:Int)<=65535)&&decide ((s.2.length:Int)<=65535))
theorem ybk(N:Nat)(s:Sp):zhg N s=some (spanV s):=by
 simp only[zhg,z30,zxc,spanV]
def yfe(a b:B):Bool:=inR a.length 1 200&&(inR b.length 1 200&&(!(b.isPrefixOf a)&& !(a.isPrefixOf b)))
def vldB(m:Mg):Bool:=
 bif eqi m.1 1 then(inR m.2.1.length 1 65535&&(decide ((m.2.2.1.length:Int)<=64)&&inR m.2.2.2.2.2.2 0 1000000000))&&(nol m.2.2.2.1.1&&(nol m.2.2.2.1.2&&(nol m.2.2.2.2.1&&nol m.2.2.2.2.2.1)))else
 bif eqi m.1 2 then inR m.2.1.length 1 65535&&(nol m.2.2.1&&(nol m.2.2.2.1.1&&(nol m.2.2.2.1.2&&(nol m.2.2.2.2.1&&(nol m.2.2.2.2.2.1&&eqi m.2.2.2.2.2.2 0)))))else
 bif eqi m.1 3 then spanV m.2.2.2.1&&(nol m.2.1&&(nol m.2.2.1&&(nol m.2.2.2.2.1&&(nol m.2.2.2.2.2.1&&eqi m.2.2.2.2.2.2 0))))else
 bif eqi m.1 4 || eqi m.1 5 then yfe m.2.2.2.2.1 m.2.2.2.2.2.1&&(nol m.2.1&&(nol m.2.2.1&&(nol m.2.2.2.1.1&&(nol m.2.2.2.1.2&&eqi m.2.2.2.2.2.2 0))))else
 bif eqi m.1 6 then(spanV m.2.2.2.1&&inR m.2.2.2.2.2.2 0 1000000000)&&(nol m.2.1&&(nol m.2.2.1&&(nol m.2.2.2.2.1&&nol m.2.2.2.2.2.1)))else false
theorem yhn(m:Mg)(st mvs:Bool):z89 NN st m.1 mvs m=
  some (bif mvs then .inl (yfe m.2.2.2.2.1 m.2.2.2.2.2.1&&(nol m.2.1&&(nol m.2.2.1&&(nol m.2.2.2.1.1&&(nol m.2.2.2.1.2&&eqi m.2.2.2.2.2.2 0)))),())else bif eqi m.1 6 then .inl ((spanV m.2.2.2.1&&st)&&(nol m.2.1&&(nol m.2.2.1&&(nol m.2.2.2.2.1&&nol m.2.2.2.2.2.1))),())else .inr ((),())):=by
 simp only[z89,zrx,ylw,ybk,y2i,K0,z6c,bv,bV,yfe]
 cases mvs
 ·simp only[cond_false]
  cases eqi m.1 6
  ·rfl
  ·simp only[cond_true]
   cases spanV m.2.2.2.1<;>cases st<;>rfl
 ·simp only[cond_true]
  cases m.2.2.2.2.2.1.isPrefixOf m.2.2.2.2.1<;>cases m.2.2.2.2.1.isPrefixOf m.2.2.2.2.2.1<;>cases inR m.2.2.2.2.1.length 1 200<;>cases inR m.2.2.2.2.2.1.length 1 200<;>rfl
theorem zxn(m:Mg):zb8 NN m=some (vldB m):=by
 simp only[zb8,vldB,ylw,ybk,yhn]
 cases h1:eqi m.1 1
 case true=>
  simp only[cond_true,zxc,K0,z6c,y2i,bv,bV,Bool.and_assoc]
 case false=>
 cases h2:eqi m.1 2
 case true=>
  simp only[cond_true,cond_false,zxc,K0,z6c,y2i,bv,bV]
 case false=>
 cases h3:eqi m.1 3
 case true=>
  simp only[cond_true,cond_false,zxc,K0,z6c,y2i,bv,bV]
 case false=>
 cases h4:eqi m.1 4
 case true=>simp only[cond_true,cond_false,dq]
 case false=>
 cases h5:eqi m.1 5
 case true=>simp only[cond_true,cond_false,eA]
 case false=>
 cases h6:eqi m.1 6
 ·simp only[cond_false,eT]
 ·simp only[cond_true,cond_false,eT]
def byt(n:Int)(i:Nat):Int:=aa .u8 (Int.fdiv n (2^(8*i)))
def bytes(n:Int):Nat->List Int
 | 0=>[]
 | w+1=>byt n w::bytes n w
end Ds
namespace Ds
open Go Go.Dv
set_option maxRecDepth 100000
variable [Fuel]
theorem full_iff{s:Sp}:emptyB s=false↔s.2=[]\/lts s.1 s.2=true:=by
 unfold emptyB
 constructor
 ·intro h
  cases e:eqs s.2 []
  ·rw[e,yn2]at h
   exact .inr (by simpa using h)
  ·exact .inl (K7.1 e)
 ·rintro(h | h)
  ·rw[h];rfl
  ·rw[yn2,h];simp
structure Sep (l:List Sp):Prop where
 ord:l.Pairwise fun a b=>a.2≠[]/\lts a.2 b.1=true
 full:∀s∈l,emptyB s=false
def Ends(r l:List Sp):Prop:=∀s∈r,(∃x∈l,s.1=x.1)/\∃x∈l,s.2=x.2
theorem sIns_mem(s:Sp){l:List Sp}(h:Nrm l):∀x∈sIns s l,(x=s/\emptyB s=false)\/x∈l:=by
 cases e:emptyB s
 ·obtain⟨_,i2⟩:=zro s l h e
  have e1:sIns s l=(sMid s false l++bif sDone s false l then[]else[s]):=by unfold sIns;rw[e]
  rw[e1]
  exact fun x hx=>((i2 x).1 hx).imp (fun h=>⟨h,rfl⟩) id
 ·unfold sIns
  obtain⟨i1,i2⟩:=zgv s l
  rw[e,i1,i2]
  intro x hx
  exact .inr (by simpa using hx)
theorem ycn(l0:List Sp):∀(l s:List Sp),Nrm s->(∀x∈l,emptyB x=false->x∈l0)->(∀x∈s,x∈l0)->Nrm (l.foldl (fun o x=>sIns x o) s)/\∀x∈l.foldl (fun o x=>sIns x o) s,x∈l0
 | [],s,h,_,hs=>⟨h,hs⟩
 | x::l,s,h,hl,hs=>by
  rw[aU]
  refine ycn l0 l _ (y21 x h).1 (fun y hy=>hl y (by simp[hy])) fun y hy=> ?_
  rcases sIns_mem x h y hy with⟨rfl,he⟩ | hy
  ·exact hl _ (by simp) he
  ·exact hs _ hy
theorem yi1{l0 out:List Sp}{s:Sp}(h:Sep out)(he:Ends out l0)(hs:emptyB s=false)(hm:s∈l0)(ho:∀o,out.getLast? =some o->lts s.1 o.1=false):
  Sep (zbq out s)/\Ends (zbq out s) l0/\∀o,(zbq out s).getLast? =some o->lts s.1 o.1=false:=by
 unfold zbq
 cases e:out.getLast? with
 | none=>
  simp only
  refine⟨⟨by simp,fun x hx=> ?_⟩,fun x hx=> ?_,fun o ho=> ?_⟩
  ·simp at hx;rw[hx];exact hs
  ·simp at hx;rw[hx];exact⟨⟨s,hm,rfl⟩,s,hm,rfl⟩
  ·simp at ho;rw[<-ho];exact G8 _
 | some o=>
  obtain⟨ini,rfl⟩:∃ini,out=ini++[o]:=c9.1 e
  have hos:=ho o e
  obtain⟨p1,p2,p3⟩:=bH.1 h.ord
  have ein:∀x∈ini,(∃y∈l0,x.1=y.1)/\∃y∈l0,x.2=y.2:=fun x hx=>he x (by simp[hx])
  have eo:=he o (by simp)
  simp only
  cases e1:(!(eqs o.2 [])&&lts o.2 s.1)
  ·simp only[cond_false]
   cases e2:lessB o.2 s.2
   ·simp only[cond_false]
    exact⟨h,he,fun o' h'=>by rw[e]at h';cases h';exact hos⟩
   ·simp only[cond_true]
    rw[cX]
    have hfull:emptyB (o.1,s.2)=false:=by
     rcases full_iff.1 hs with h | h
     ·exact full_iff.2 (.inl h)
     ·exact full_iff.2 (.inr (y9n hos h))
    refine⟨⟨bH.2 ⟨p1,by simp,fun a ha b hb=> ?_⟩,fun x hx=> ?_⟩,fun x hx=> ?_,fun o' h'=> ?_⟩
    ·simp at hb;rw[hb];exact p3 a ha o (by simp)
    ·rcases ak.1 hx with hx | hx
     ·exact h.full x (by simp[hx])
     ·simp at hx;rw[hx];exact hfull
    ·rcases ak.1 hx with hx | hx
     ·exact ein x hx
     ·simp at hx;rw[hx];exact⟨eo.1,s,hm,rfl⟩
    ·simp at h';rw[<-h'];exact hos
  ·simp only[cond_true]
   simp only[ac,aw]at e1
   have hne:o.2≠[]:=fun h=>by rw[h]at e1;simp[eqs]at e1
   refine⟨⟨bH.2 ⟨h.ord,by simp,fun a ha b hb=> ?_⟩,fun x hx=> ?_⟩,fun x hx=> ?_,fun o' h'=> ?_⟩
   ·simp at hb;rw[hb]
    rcases ak.1 ha with ha | ha
    ·obtain⟨q1,q2⟩:=p3 a ha o (by simp)
     exact⟨q1,zki q2 hos⟩
    ·simp at ha;rw[ha];exact⟨hne,e1.2⟩
   ·rcases ak.1 hx with hx | hx
    ·exact h.full x hx
    ·simp at hx;rw[hx];exact hs
   ·rcases ak.1 hx with hx | hx
    ·exact he x hx
    ·simp at hx;rw[hx];exact⟨⟨s,hm,rfl⟩,s,hm,rfl⟩
   ·simp at h';rw[<-h'];exact G8 _
theorem ycm{l0:List Sp}:∀(l out:List Sp),Nrm l->(∀x∈l,x∈l0)->Sep out->Ends out l0->(∀o,out.getLast? =some o->∀s∈l,lts s.1 o.1=false)->Sep (l.foldl zbq out)/\Ends (l.foldl zbq out) l0
 | [],out,_,_,h,he,_=>⟨h,he⟩
 | s::l,out,hn,hl,h,he,ho=>by
  obtain⟨o1,o2⟩:=aI.1 hn.ord
  obtain⟨k1,k2,k3⟩:=yi1 h he (hn.full s (by simp)) (hl s (by simp)) fun o h'=>ho o h' s (by simp)
  rw[aU]
  exact ycm l _ ⟨o2,fun x hx=>hn.full x (by simp[hx])⟩ (fun x hx=>hl x (by simp[hx])) k1 k2 fun o h' x hx=>zve (k3 o h') (o1 x hx)
theorem zdt(N:Nat){l:List Sp}(hN:l.length<N)(hl:l.length<40000000):∃r,z16 N l=some r/\(∀k,inS r k=inS l k)/\r.length<=l.length/\Sep r/\Ends r (l.filter fun s=> !(emptyB s)):=by
 have h0:=walk (xs:=l) (L:=fun n i (s:List Sp)=>z7i N n l i s []) (fun o x=>sIns x o) (fun s=>(((),()),(s,([],())))) (fun s post=>Nrm s/\s.length+post.length<=l.length)
  (fun n s _=>by
   rw[z69]
   simp only[y6,aA,decide_false,cond_false])
  (fun n pre x post s hx hi=>by
   obtain⟨h1,h2⟩:=hi
   simp only[af]at h2
   have hb:pre.length<9223372036854775807:=by rw[hx]at hl;simp at hl;omega
   have hbl:=congrArg ap hx
   obtain⟨i1,_,i3⟩:=y21 x h1
   rw[z69]
   rw[hx]
   simp only[y6,U3,V4,cond_true,U0,y77 N s x (by omega) (by omega)]
   rw[gd_t rfl,W7 (q:=x) hb]
   exact⟨rfl,i1,by omega⟩)
  l [] N [] rfl hN ⟨⟨bi.nil,fun s h=>by cases h⟩,by simp⟩
 have hz:(([]:List Sp).length:Int)=0:=rfl
 simp only[hz]at h0
 obtain⟨e0,n1,n2⟩:=h0
 obtain⟨r,r1,r2,r3⟩:=yoz N hN hl
 have f1:=ycn (l.filter fun s=> !(emptyB s)) l [] ⟨bi.nil,fun s h=>by cases h⟩ (fun x h he=>aB.2 ⟨h,by simp[he]⟩) (fun _ h=>by cases h)
 generalize l.foldl (fun o x=>sIns x o) []=sorted at e0 n1 n2 f1
 simp only[aq,bG]at n2
 have e1:=yg7 N (sorted:=sorted) (by omega) (by omega)
 have f2:=ycm (l0:=l.filter fun s=> !(emptyB s)) sorted [] f1.1 f1.2 ⟨bi.nil,fun s h=>by cases h⟩ (fun s h=>by cases h) (fun o h=>by simp at h)
 have e2:z16 N l=some (sorted.foldl zbq []):=by simp only[z16,e0,e1]
 rw[r1]at e2
 cases e2
 exact⟨_,r1,r2,r3,f2.1,f2.2⟩
theorem y43(a b:Sp)(h:emptyB (G7 a b)=false):((G7 a b).1=a.1\/(G7 a b).1=b.1)/\((G7 a b).2=a.2\/(G7 a b).2=b.2):=by
 unfold G7 at h|-
 cases e:emptyB (y2m a b)
 ·simp only[cond_false]
  unfold y2m ye3
  refine⟨?_, ?_⟩
  ·cases lts a.1 b.1<;>simp
  ·cases lessB b.2 a.2<;>simp
 ·rw[e]at h;cases h
theorem zs4(m0:List Sp)(E:List B)(hE:∀q∈m0,q.1∈E/\q.2∈E)(h0:([]:B)∈E):∀(post pre:List Sp) (n:Nat) (left:List Sp),(∀q∈post,q∈m0)->post.length<n->(pre++post).length<1000->left.length*2^post.length<=10000000->
  Sep left->(∀s∈left,s.1∈E/\s.2∈E)->∃r,z61 NN n (pre++post) (pre.length:Int) left=some ((),(r,()))/\(∀k,inS r k=(inS left k&& !(inS post k)))/\r.length<=left.length*2^post.length/\Sep r/\∀s∈r,s.1∈E/\s.2∈E
 | _,_,0,_,_,h,_,_,_,_=>absurd h (ag _)
 | [],pre,n+1,left,_,_,_,_,hs,he=>by
  refine⟨left, ?_,fun k=>by simp[inS],by simp,hs,he⟩
  rw[g9]
  simp only[Q9,ai,aA,decide_false,cond_false]
 | q::post,pre,n+1,left,hm0,hn,hl,hp,hs,he=>by
  simp only[af]at hn hp
  have hb:pre.length<9223372036854775807:=by simp at hl;omega
  have e2:(2:Nat)^(post.length+1)=2*2^post.length:=by rw[Nat.pow_succ];omega
  have hpos:0<(2:Nat)^post.length:=e9 (by omega)
  have h2:left.length*2*2^post.length=left.length*2^(post.length+1):=by rw[e2,Nat.mul_assoc]
  have h1:left.length*1<=left.length*2^(post.length+1):=ba _ (by rw[e2];omega)
  have hq:=hE q (hm0 q (by simp))
  have hm0':∀x∈post,x∈m0:=fun x hx=>hm0 x (by simp[hx])
  cases e:emptyB q
  ·have hm:=yc8 NN (pm:=pre) (post':=post) (q:=q) left (by have:=W9;omega) (by omega)
   have sem:∀(l out:List Sp),(∀k,inS (l.foldl (z2x q) out) k=(inS out k || (inS l k&& !(hasB q k))))/\(l.foldl (z2x q) out).length<=out.length+2*l.length:=by
    intro l
    induction l with
    | nil=>intro out;exact⟨fun k=>by simp[inS],by simp⟩
    | cons x l ih=>
     intro out
     obtain⟨i1,i2⟩:=ih (z2x q out x)
     have hlen:(z2x q out x).length<=out.length+2:=by
      unfold z2x
      cases eqs q.1 []<;>cases eqs q.2 []<;>simp
     refine⟨fun k=> ?_, ?_⟩
     ·rw[aU,i1]
      unfold z2x
      rw[z92,y2j e]
      have:inS (x::l) k=(hasB x k || inS l k):=by simp[inS]
      rw[this]
      cases inS out k<;>cases hasB x k<;>cases inS l k<;>cases hasB q k<;>rfl
     ·rw[aU];simp only[af];omega
   have ends:∀(l out:List Sp),(∀s∈l,s.1∈E/\s.2∈E)->(∀s∈out,emptyB s=false->s.1∈E/\s.2∈E)->∀s∈l.foldl (z2x q) out,emptyB s=false->s.1∈E/\s.2∈E:=by
    intro l
    induction l with
    | nil=>intro out _ h;exact h
    | cons x l ih=>
     intro out hl ho
     rw[aU]
     refine ih _ (fun s hs=>hl s (by simp[hs])) fun s hs hfull=> ?_
     have hx:=hl x (by simp)
     unfold z2x at hs
     have two:∀y:Sp,y.1∈E->y.2∈E->s=G7 x y->s.1∈E/\s.2∈E:=by
      rintro y y1 y2 rfl
      obtain⟨f1,f2⟩:=y43 x y hfull
      exact⟨by rcases f1 with f | f<;>rw[f]<;>first | exact hx.1 | exact y1,by rcases f2 with f | f<;>rw[f]<;>first | exact hx.2 | exact y2⟩
     rcases ak.1 hs with hs | hs
     ·exact ho s hs hfull
     ·rcases ak.1 hs with hs | hs
      ·cases e1:eqs q.1 []<;>rw[e1]at hs<;>simp at hs
       exact two ([],q.1) h0 hq.1 hs
      ·cases e1:eqs q.2 []<;>rw[e1]at hs<;>simp at hs
       exact two (q.2,[]) hq.2 h0 hs
   obtain⟨s1,s2⟩:=sem left []
   simp only[aq,Nat.zero_add]at s2
   obtain⟨r,r1,r2,r3,r4,r5⟩:=zdt NN (l:=left.foldl (z2x q) []) (by have:=W9;omega) (by omega)
   have hr:r.length*2^post.length<=left.length*2*2^post.length:=bB _ (by omega)
   have r6:∀s∈r,s.1∈E/\s.2∈E:=by
    intro s hs
    have e0:=ends left [] he (fun s h=>by cases h)
    obtain⟨⟨x,hx,ex⟩,y,hy,ey⟩:=r5 s hs
    obtain⟨x1,x2⟩:=aB.1 hx
    obtain⟨y1,y2⟩:=aB.1 hy
    exact⟨by rw[ex];exact(e0 x x1 (by simpa using x2)).1,by rw[ey];exact(e0 y y1 (by simpa using y2)).2⟩
   obtain⟨r',i1,i2,i3,i4,i5⟩:=zs4 m0 E hE h0 post (pre++[q]) n r hm0' (by omega) (by simpa using hl) (by omega) r4 r6
   refine⟨r', ?_,fun k=> ?_,by simp only[af];omega,i4,i5⟩
   ·rw[g9]
    simp only[Q9,U3,V4,cond_true,U0,z30,e,cond_false,hm,r1]
    rw[gd_t rfl,W7 (q:=q) hb,V9 (pre:=pre) (q:=q) (post:=post),i1]
   ·rw[i2,r2,s1]
    have:inS (q::post) k=(hasB q k || inS post k):=by simp[inS]
    rw[this]
    have z:inS [] k=false:=rfl
    rw[z]
    cases inS left k<;>cases hasB q k<;>cases inS post k<;>rfl
  ·have hr:left.length*2^post.length<=left.length*2*2^post.length:=bB _ (by omega)
   obtain⟨r',i1,i2,i3,i4,i5⟩:=zs4 m0 E hE h0 post (pre++[q]) n left hm0' (by omega) (by simpa using hl) (by omega) hs he
   refine⟨r', ?_,fun k=> ?_,by simp only[af];omega,i4,i5⟩
   ·rw[g9]
    simp only[Q9,U3,V4,cond_true,U0,z30,e]
    rw[gd_t rfl,W7 (q:=q) hb,V9 (pre:=pre) (q:=q) (post:=post),i1]
   ·rw[i2]
    have:inS (q::post) k=(hasB q k || inS post k):=by simp[inS]
    rw[this,zhy e,cG]
theorem y3d{l m:List Sp}{E:List B}(hE:∀q∈m,q.1∈E/\q.2∈E)(h0:([]:B)∈E)(hL:∀s∈l,emptyB s=false->s.1∈E/\s.2∈E)(hm:m.length<1000)(hl:l.length*2^m.length<=10000000):
  ∃r,Q7 NN l m=some r/\(∀k,inS r k=(inS l k&& !(inS m k)))/\r.length<=l.length*2^m.length/\Sep r/\∀s∈r,s.1∈E/\s.2∈E:=by
 have hpos:0<(2:Nat)^m.length:=e9 (by omega)
 have h1:l.length*1<=l.length*2^m.length:=ba _ hpos
 obtain⟨r,r1,r2,r3,r4,r5⟩:=zdt NN (l:=l) (by have:=W9;omega) (by omega)
 have h2:r.length*2^m.length<=l.length*2^m.length:=bB _ r3
 have r6:∀s∈r,s.1∈E/\s.2∈E:=fun s hs=>by
  obtain⟨⟨x,hx,ex⟩,y,hy,ey⟩:=r5 s hs
  obtain⟨x1,x2⟩:=aB.1 hx
  obtain⟨y1,y2⟩:=aB.1 hy
  exact⟨by rw[ex];exact(hL x x1 (by simpa using x2)).1,by rw[ey];exact(hL y y1 (by simpa using y2)).2⟩
 obtain⟨r',i1,i2,i3,i4,i5⟩:=zs4 m E hE h0 m [] NN r (fun _ h=>h) (by have:=W9;omega) (by simpa using hm) (by omega) r4 r6
 have hz:(([]:List Sp).length:Int)=0:=rfl
 simp only[aj,hz]at i1
 exact⟨r',by simp only[Q7,r1,i1],fun k=>by rw[i2,r2],by omega,i4,i5⟩
theorem Sep.nodup{l:List Sp}(h:Sep l):(l.map (·.1)).Nodup:=by
 rw[fw,cU]
 refine bi.imp_of_mem ?_ h.ord
 rintro a b ha hb ⟨h1,h2⟩ e
 rcases full_iff.1 (h.full a ha)with h3 | h3
 ·exact h1 h3
 ·have:=K9 h3 h2;rw[e,G8]at this;cases this
theorem zf4{α:Type} [DecidableEq α]:∀{l L:List α},l.Nodup->(∀x∈l,x∈L)->l.length<=L.length
 | [],_,_,_=>bm _
 | x::l,L,h,hs=>by
  obtain⟨h1,h2⟩:=bU.1 h
  have hx:=hs x (by simp)
  have:=zf4 (L:=L.erase x) h2 fun y hy=>(List.mem_erase_of_ne (fun(e:y=x)=>h1 (by rw[<-e];exact hy))).2 (hs y (by simp[hy]))
  rw[List.length_erase_of_mem hx]at this
  have:=eg hx
  simp only[af];omega
theorem Sep.len{l:List Sp}{E:List B}(h:Sep l)(he:∀s∈l,s.1∈E):l.length<=E.length:=by
 have:=zf4 h.nodup (L:=E) (by simpa using fun a b hs=>he (a,b) hs)
 simpa using this
def xs4:List B:=[[97,47],[98,47],[99,47],[100,47]]
def bs:Nat->B
 | 0=>[]
 | j+1=>98::47::bs j
theorem ymp:∀j,(bs j).length=2*j
 | 0=>rfl
 | j+1=>by simp[bs,ymp j];omega
def tB:List B:=tails++(tails.map (·++[0])++[[],[98,48]])
def tops:List B:=[[],[97,48],[98,48],[99,48],[100,48]]
def gen(ts:List B)(g:Nat):List B:=xs4.flatMap fun x=>(List.range (g+1)).flatMap fun j=>ts.map fun t=>x++(bs j++t)
def KU(g:Nat):List B:=gen tails g
def UU(g:Nat):List B:=tops++gen tB g
theorem zhl{ts:List B}{g:Nat}{u:B}:u∈gen ts g↔∃x∈xs4,∃j,j<=g/\∃t∈ts,u=x++(bs j++t):=by
 unfold gen
 simp only[dz,List.mem_range,aH]
 constructor
 ·rintro⟨x,hx,j,hj,t,ht,rfl⟩;exact⟨x,hx,j,by omega,t,ht,rfl⟩
 ·rintro⟨x,hx,j,hj,t,ht,rfl⟩;exact⟨x,hx,j,by omega,t,ht,rfl⟩
theorem y49{ts ts':List B}{g g':Nat}(h:g<=g')(ht:∀t∈ts,t∈ts'){u:B}(hu:u∈gen ts g):u∈gen ts' g':=by
 obtain⟨x,hx,j,hj,t,ht',rfl⟩:=zhl.1 hu
 exact zhl.2 ⟨x,hx,j,by omega,t,ht t ht',rfl⟩
theorem KU.mono{g g':Nat}(h:g<=g'){u:B}(hu:u∈KU g):u∈KU g':=y49 h (fun _ h=>h) hu
theorem UU.mono{g g':Nat}(h:g<=g'){u:B}(hu:u∈UU g):u∈UU g':=by
 rcases ak.1 hu with hu | hu
 ·exact bp _ hu
 ·exact bz _ (y49 h (fun _ h=>h) hu)
theorem UU.of{g:Nat}{u:B}(hu:u∈KU g):u∈UU g:=bz _ (y49 (al g) (fun t h=>bp _ h) hu)
theorem UU.succ{g:Nat}{u:B}(hu:u∈KU g):u++[0]∈UU g:=by
 obtain⟨x,hx,j,hj,t,ht,rfl⟩:=zhl.1 hu
 exact bz _ (zhl.2 ⟨x,hx,j,hj,t++[0],bz _ (bp _ (aH.2 ⟨t,ht,rfl⟩)),by simp⟩)
theorem UU.nil(g:Nat):([]:B)∈UU g:=bp _ (by simp[tops])
theorem KU.ne{g:Nat}{u:B}(hu:u∈KU g):u≠[]:=by
 obtain⟨x,hx,j,hj,t,ht,rfl⟩:=zhl.1 hu
 have:x≠[]:=by rintro rfl;simp[xs4]at hx
 simp[this]
theorem yjv{t:B}(ht:t∈tB):t.length<=4:=by
 have h:(tB.all fun t=>ci t.length 4)=true:=by decide
 exact cc (az.1 h t ht)
theorem yf3{x:B}(hx:x∈xs4):x.length=2:=by
 have h:(xs4.all fun t=>Nat.beq t.length 2)=true:=by decide
 exact Nat.eq_of_beq_eq_true (az.1 h x hx)
theorem UU.len{g:Nat}{u:B}(hu:u∈UU g):u.length<=2*g+6:=by
 rcases ak.1 hu with hu | hu
 ·have h:(tops.all fun t=>ci t.length 2)=true:=by decide
  have:=cc (az.1 h u hu)
  omega
 ·obtain⟨x,hx,j,hj,t,ht,rfl⟩:=zhl.1 hu
  have:=yjv ht
  simp only[ae,yf3 hx,ymp];omega
theorem y4b{α β:Type}{f:α->List β}{n:Nat}:∀{l:List α},(∀x∈l,(f x).length=n)->(l.flatMap f).length=l.length*n
 | [],_=>by simp
 | x::l,h=>by
  rw[co,ae,h x (by simp),y4b fun y hy=>h y (by simp[hy])]
  simp only[af,Nat.add_mul];omega
theorem ygl(ts:List B)(g:Nat):(gen ts g).length=4*((g+1)*ts.length):=by
 unfold gen
 rw[y4b (n:=(g+1)*ts.length)]
 ·rfl
 ·intro x _
  rw[y4b (n:=ts.length)]
  ·simp
  ·intro j _;simp
theorem KU.length(g:Nat):(KU g).length=20*(g+1):=by
 unfold KU;rw[ygl];simp[tails];omega
theorem UU.length(g:Nat):(UU g).length=5+48*(g+1):=by
 unfold UU;rw[ae,ygl];simp[tB,tails,tops];omega
theorem zm8(p u:B):p.isPrefixOf (p++u)=true:=aP.2 ⟨u,rfl⟩
theorem path_cases{p:B}(hp:p∈paths):p∈xs4\/p=[97,47,98,47]:=by
 have h:(paths.all fun p=>xs4.contains p || eqs p [97,47,98,47])=true:=by decide
 have:=az.1 h p hp
 simp only[ay,dt]at this
 exact this.imp id K7.1
theorem ybv{ts:List B}{q:B}(hq:q∈paths){j g:Nat}(hj:j<=g){t:B}(ht:t∈ts):q++(bs j++t)∈gen ts (g+1):=by
 rcases path_cases hq with h | rfl
 ·exact zhl.2 ⟨q,h,j,by omega,t,ht,rfl⟩
 ·exact zhl.2 ⟨[97,47],by simp[xs4],j+1,by omega,t,ht,by simp[bs]⟩
theorem ycs{ts:List B}(hts:∀t∈ts,[98,47].isPrefixOf t=false){p q:B}(hp:p∈paths)(hq:q∈paths){g:Nat}{u:B}(hu:u∈gen ts g)(h:p.isPrefixOf u=true):q++u.drop p.length∈gen ts (g+1):=by
 obtain⟨x,hx,j,hj,t,ht,rfl⟩:=zhl.1 hu
 have hxl:=yf3 hx
 rcases path_cases hp with h4 | rfl
 ·have hpl:=yf3 h4
  have:p=x:=by
   obtain⟨r,hr⟩:=aP.1 h
   exact(fc hr (by omega)).1
  subst this
  rw[da]
  exact ybv hq hj ht
 ·obtain⟨r,hr⟩:=aP.1 h
  have e1:([97,47,98,47]:B)++r=[97,47]++([98,47]++r):=rfl
  rw[e1]at hr
  obtain⟨rfl,h2⟩:=fc hr (by rw[hxl];rfl)
  cases j with
  | zero=>
   have h3:[98,47]++r=t:=h2
   have:=hts t ht
   rw[<-h3]at this
   rw[zm8]at this;cases this
  | succ j=>
   have h3:(98::47::r:B)=98::47::(bs j++t):=h2
   have h4:r=bs j++t:=by injection h3 with _ h3;injection h3
   have h5:(([97,47]:B)++(bs (j+1)++t)).drop 4=bs j++t:=rfl
   show q++(([97,47]:B)++(bs (j+1)++t)).drop 4∈_
   rw[h5]
   exact ybv hq (by omega) ht
theorem KU.move{p q:B}(hp:p∈paths)(hq:q∈paths){g:Nat}{u:B}(hu:u∈KU g)(h:p.isPrefixOf u=true):q++u.drop p.length∈KU (g+1):=
 ycs (fun t ht=>by
   have h:(tails.all fun t=> !([98,47].isPrefixOf t))=true:=by decide
   simpa using az.1 h t ht) hp hq hu h
theorem UU.move{p q:B}(hp:p∈paths)(hq:q∈paths){g:Nat}{u:B}(hu:u∈UU g)(h:p.isPrefixOf u=true):q++u.drop p.length∈UU (g+1):=by
 rcases ak.1 hu with hu | hu
 ·have hh:(tops.all fun t=>paths.all fun p=> !(p.isPrefixOf t))=true:=by decide
  have:=az.1 (az.1 hh u hu) p hp
  rw[h]at this;cases this
 ·exact bz _ (ycs (fun t ht=>by
   have h:(tB.all fun t=> !([98,47].isPrefixOf t))=true:=by decide
   simpa using az.1 h t ht) hp hq hu h)
theorem UU.path{p:B}(hp:p∈paths):p∈UU 1/\(preB p).2∈UU 1:=by
 have h:(paths.all fun p=>(UU 1).contains p&&(UU 1).contains (preB p).2)=true:=by decide+kernel
 have:=az.1 h p hp
 simpa using this
def dd:List B->List B
 | []=>[]
 | x::l=>if x∈dd l then dd l else x::dd l
theorem y0h{x:B}:∀{l:List B},x∈dd l↔x∈l
 | []=>Iff.rfl
 | y::l=>by
  unfold dd
  by_cases h:y∈dd l
  ·rw[if_pos h,y0h,am]
   constructor
   ·exact .inr
   ·rintro(rfl | h')
    ·exact y0h.1 h
    ·exact h'
  ·rw[if_neg h,am,am,y0h]
theorem y40:∀l:List B,(dd l).Nodup
 | []=>bi.nil
 | y::l=>by
  unfold dd
  by_cases h:y∈dd l
  ·rw[if_pos h];exact y40 l
  ·rw[if_neg h];exact bU.2 ⟨h,y40 l⟩
theorem ymk:∀l:List B,(dd l).length<=l.length
 | []=>al _
 | y::l=>by
  unfold dd
  have:=ymk l
  by_cases h:y∈dd l
  ·rw[if_pos h];simp only[af];omega
  ·rw[if_neg h];simp only[af];omega
def wt(g:Nat)(P:B->Bool):Nat:=((dd (UU g)).filter P).length
theorem ymy(g:Nat)(P:B->Bool):wt g P<=5+48*(g+1):=by
 have h1:=ymk (UU g)
 rw[UU.length]at h1
 exact aX (cd _ _) h1
theorem ylp{g g':Nat}{P Q:B->Bool}(f:B->B)(h:∀a,a∈UU g->P a=true->f a∈UU g'/\Q (f a)=true)(hi:∀a b,P a=true->P b=true->f a=f b->a=b):wt g P<=wt g' Q:=by
 unfold wt
 have hn:(((dd (UU g)).filter P).map f).Nodup:=by
  rw[fw,cU]
  refine bi.imp_of_mem ?_ ((y40 (UU g)).filter P)
  intro a b ha hb hne e
  exact hne (hi a b (aB.1 ha).2 (aB.1 hb).2 e)
 have:=zf4 (L:=(dd (UU g')).filter Q) hn fun x hx=>by
  obtain⟨a,ha,rfl⟩:=aH.1 hx
  obtain⟨h1,h2⟩:=aB.1 ha
  obtain⟨k1,k2⟩:=h a (y0h.1 h1) h2
  exact aB.2 ⟨y0h.2 k1,k2⟩
 simpa using this
theorem zjv{g:Nat}{P Q:B->Bool}(h:∀a,P a=true->Q a=true):wt g P<=wt g Q:=ylp id (fun a ha hp=>⟨ha,h a hp⟩) fun _ _ _ _ e=>e
theorem y9c{g:Nat}{P:B->Bool}{a:B}(ha:a∈UU g)(hp:P a=true):1<=wt g P:=
 eg (aB.2 ⟨y0h.2 ha,hp⟩)
theorem y3j{g:Nat}(P Q:B->Bool):wt g P=wt g (fun a=>P a&&Q a)+wt g (fun a=>P a&& !(Q a)):=by
 unfold wt
 generalize dd (UU g)=l
 induction l with
 | nil=>rfl
 | cons x l ih=>
  simp only[List.filter_cons]
  cases P x<;>cases Q x<;>simp<;>omega
def wts(g:Nat)(l:List Sp):Nat:=(l.map fun s=>wt g (hasB s)).sum
theorem ydi(g:Nat)(a b:List Sp):wts g (a++b)=wts g a+wts g b:=by simp[wts]
theorem zpv{s:Sp}(h:emptyB s=false):hasB s s.1=true:=by
 rw[U1,G8]
 rcases full_iff.1 h with e | e<;>simp[belowB,e]
theorem zvs{g:Nat}:∀{l:List Sp},(∀s∈l,emptyB s=false/\s.1∈UU g)->l.length<=wts g l
 | [],_=>bm _
 | s::l,h=>by
  have:=zvs (g:=g) (l:=l) fun x hx=>h x (by simp[hx])
  obtain⟨h1,h2⟩:=h s (by simp)
  have:=y9c h2 (zpv h1)
  simp only[wts,ax,bI,af]at*;omega
theorem yqg{s:Sp}{l:List Sp}(h:Sep (s::l)){k:B}(hk:hasB s k=true):inS l k=false:=by
 cases e:inS l k
 ·rfl
 ·obtain⟨x,hx,hxk⟩:=db.1 e
  obtain⟨h1,h2⟩:=(aI.1 h.ord).1 x hx
  rw[U1]at hk hxk
  simp only[belowB,ac,aw,ay]at hk hxk
  rcases hk.2 with e1 | e1
  ·exact absurd (K7.1 e1) h1
  ·have:=K9 e1 h2
   rw[hxk.1]at this;cases this
theorem Sep.tail{s:Sp}{l:List Sp}(h:Sep (s::l)):Sep l:=⟨(aI.1 h.ord).2,fun x hx=>h.full x (by simp[hx])⟩
theorem y8e{g:Nat}:∀{l:List Sp},Sep l->wts g l<=wt g (inS l)
 | [],_=>by simp[wts]
 | s::l,h=>by
  have ih:=y8e (g:=g) h.tail
  have e:wt g (inS (s::l))=wt g (fun a=>inS (s::l) a&&hasB s a)+wt g (fun a=>inS (s::l) a&& !(hasB s a)):=y3j _ _
  have h1:wt g (hasB s)<=wt g (fun a=>inS (s::l) a&&hasB s a):=zjv fun a ha=>by simp[inS,ha]
  have h2:wt g (inS l)<=wt g (fun a=>inS (s::l) a&& !(hasB s a)):=zjv fun a ha=>by
   have:hasB s a=false:=by
    cases e:hasB s a
    ·rfl
    ·have:=yqg h e;rw[ha]at this;cases this
   have e2:inS (s::l) a=(hasB s a || inS l a):=by simp[inS]
   rw[e2,ha,this];rfl
  have e3:wts g (s::l)=wt g (hasB s)+wts g l:=by simp[wts]
  omega
def SpG(g:Nat)(s:Sp):Prop:=emptyB s=false/\s.1∈UU g/\s.2∈UU g
theorem SpG.mono{g g':Nat}(h:g<=g'){s:Sp}(hs:SpG g s):SpG g' s:=⟨hs.1,UU.mono h hs.2.1,UU.mono h hs.2.2⟩
def y65(s:Sp):Bool:= !(emptyB s)&&((UU 1).contains s.1&&(UU 1).contains s.2)
theorem zot{s:Sp}:y65 s=true↔SpG 1 s:=by
 unfold y65 SpG
 simp only[ac,aw,dt]
inductive GM (g:Nat):Mg->Prop where
 | put (k v:B) (n:Int):k∈KU g->v∈values->GM g (y9j k v n)
 | del (k:B):k∈KU g->GM g (ymj k)
 | drop (s:Sp):SpG g s->GM g (zck s)
 | move (e:B×B):e∈ends->GM g (mv 4 e)
 | clone (e:B×B):e∈ends->GM g (mv 5 e)
 | stamp (s:Sp) (n:Int):SpG g s->GM g (zkf s n)
theorem GM.mono{g g':Nat}(h:g<=g'){m:Mg}(hm:GM g m):GM g' m:=by
 cases hm with
 | put k v n hk hv=>exact .put k v n (KU.mono h hk) hv
 | del k hk=>exact .del k (KU.mono h hk)
 | drop s hs=>exact .drop s (hs.mono h)
 | move e he=>exact .move e he
 | clone e he=>exact .clone e he
 | stamp s n hs=>exact .stamp s n (hs.mono h)
theorem yqy{pre post:B}{b:UInt8}:bt (pre++b::post) (pre.length:Int)=(b.toNat:Int):=by simp[bt]
theorem z5k{p:B}(hp:p∈paths):U2 NN p=some (preB p):=by
 obtain⟨h1,h2⟩:=z9o hp
 generalize hq:p.dropLast=q at h1
 subst h1
 have hl:q.length<=4:=by simp at h2;omega
 obtain⟨k,hk⟩:∃k,NN=k+1:=⟨NN-1,by have:=W9;omega⟩
 have e1:(((q++[47]).length:Nat):Int)=(q.length:Int)+1:=by simp
 have e2:aa .i64 ((((q++[47]).length:Nat):Int)-1)=(q.length:Int):=by rw[e1,w64 (by omega) (by omega)];omega
 have e3:bt (q++[47]) (q.length:Int)=47:=by rw[yqy];rfl
 have h0:J9 NN NN (q++[47]) ((q++[47]).length:Int)=some ((q++[47],((),((q++[47]).length:Int))),((),())):=by
  rw[show J9 NN NN=J9 NN (k+1)from congrArg _ hk,zdf]
  simp only[z4e,e2,e3]
  rw[X4 (by simp<;>omega),gd_t (V7 (by omega) (by simp<;>omega)),Y3 (by decide)]
 simp only[U2,h0,e2,e3]
 rw[Y3 (J3 (by rw[e1];omega)),gd_t (by simp;omega),y93,gd_t (V7 (by omega) (by simp;omega))]
 have e4:zmm [aa .u8 ((47:Int)+1)]=[48]:=by decide
 rw[e4,gd_p (by simp[maxS];omega)]
 simp[preB]
theorem zpn{g:Nat}(hg:g<1000000){k:B}(hk:k∈KU g):z9s NN k=some (k,k++[0]):=by
 have:=UU.len (UU.of hk)
 simp only[z9s]
 rw[gd_p (by simp only[maxS,af,aq];omega)]
theorem yk7{p:B}(hp:p∈paths):emptyB (preB p)=false:=by
 have h:(paths.all fun p=> !(emptyB (preB p)))=true:=by decide
 simpa using az.1 h p hp
theorem SpG.pre{p:B}(hp:p∈paths):SpG 1 (preB p):=by
 refine⟨yk7 hp, ?_⟩
 have:=UU.path hp
 exact this
theorem y3x(k:B):emptyB (k,k++[0])=false:=full_iff.2 (.inr (by
 have:=zjz k [] [0]
 rw[ai]at this
 rw[this];rfl))
theorem SpG.one{g:Nat}{k:B}(hk:k∈KU g):SpG g (k,k++[0]):=⟨y3x _,UU.of hk,UU.succ hk⟩
theorem y2p{k:B}(hk:k∈keys):k∈KU 1:=by
 have h:(keys.all fun k=>(KU 1).contains k)=true:=by decide+kernel
 simpa using az.1 h k hk
theorem yr6{k a b:B}{x:K3}{s:Z0}(hk:k∈keys)(he:(a,b)∈ends)(hs:y65 s=true)
  (h2:0<=x.2.2.1/\x.2.2.1<256) (h5:0<=x.2.2.2.2.2/\x.2.2.2.2.2<256) (h0:0<=x.1/\x.1<256):
  ∃r,z12 NN k a b x s=some r/\GM 1 r.2.1/\(aJ x.1 6=3->r.2.1.1=(4:Int)):=by
 obtain⟨v,hv,hvm⟩:=yjs h2.1 h2.2
 have hn:=yqd h5.1 (show(0:Int)<8 by decide)
 have hw:aa .i64 (aJ x.2.2.2.2.2 (8:Int))=aJ x.2.2.2.2.2 8:=w64 (by omega) (by omega)
 simp only[z12,hv,hw]
 have no:∀{a:Int},a≠3->eqi (aJ x.1 6) a=true->aJ x.1 6=3->False:=fun h1 h2 h3=>h1 ((zpw.1 h2).symm.trans h3)
 cases q0:eqi (aJ x.1 6) 0
 case true=>exact⟨_,rfl, .put k v _ (y2p hk) hvm,fun h=>(no (by decide) q0 h).elim⟩
 cases q1:eqi (aJ x.1 6) 1
 case true=>exact⟨_,rfl, .del k (y2p hk),fun h=>(no (by decide) q1 h).elim⟩
 cases q2:eqi (aJ x.1 6) 2
 case true=>exact⟨_,rfl, .drop s (zot.1 hs),fun h=>(no (by decide) q2 h).elim⟩
 cases q3:eqi (aJ x.1 6) 3
 case true=>exact⟨_,rfl, .move (a,b) he,fun _=>rfl⟩
 cases q4:eqi (aJ x.1 6) 4
 case true=>exact⟨_,rfl, .clone (a,b) he,fun h=>(no (by decide) q4 h).elim⟩
 exact⟨_,rfl, .stamp s _ (zot.1 hs),fun h=>by rw[h]at q3;cases q3⟩
theorem yr7{k:B}{x:K3}{s:Z0}(hk:k∈keys)(hs:y65 s=true)
  (h0:0<=x.1/\x.1<256) (h1:0<=x.2.1/\x.2.1<256) (h2:0<=x.2.2.1/\x.2.2.1<256) (h3:0<=x.2.2.2.1/\x.2.2.2.1<256) (h5:0<=x.2.2.2.2.2/\x.2.2.2.2.2<256):
  ∃r,z13 NN k x s=some r/\GM 1 r.2.1/\(aJ x.1 6=3->r.2.1.1=(4:Int)):=by
 obtain⟨p,hp,hpm⟩:=y8n h1.1 h1.2
 obtain⟨q,hq,hqm⟩:=y8n h3.1 h3.2
 have hb:(paths.all fun p=>paths.all fun q=>okO (z04 NN p q) fun b=>okO (z04 NN q p) fun c=>
   bif b || c then ends.contains (p,bif eqs p [100,47]then[99,47]else[100,47])else ends.contains (p,q))=true:=by kernel_rfl
 obtain⟨b,hb1,hb⟩:=y3z (az.1 (az.1 hb p hpm) q hqm)
 obtain⟨c,hc1,hb⟩:=y3z hb
 have go:∀e:B,(p,e)∈ends->∃r,(match z12 NN k p e x s with
   | some r11=>(some ((),(r11.2.1,())))
   | none=>none)=some r/\GM 1 r.2.1/\(aJ x.1 6=3->r.2.1.1=(4:Int)):=by
  intro e he
  obtain⟨r,h1,h2⟩:=yr6 (s:=s) hk he hs h2 h5 h0
  exact⟨_,by rw[h1],h2⟩
 simp only[z13,hp,hq,hb1,hc1]
 cases b<;>cases c<;>cases e:eqs p [100,47]<;>simp only[e,eA,de,dq,cond_true,cond_false,dt]at hb⊢<;>exact go _ hb
theorem ykh{x0 x1 x2 x3 x4 x5:Int}(h0:0<=x0/\x0<256)(h1:0<=x1/\x1<256)(h2:0<=x2/\x2<256)(h3:0<=x3/\x3<256)(h4:0<=x4/\x4<256)(h5:0<=x5/\x5<256):
  ∃m,zdc NN ((x0,x1,x2,x3,x4,x5):Int×Int×Int×Int×Int×Int)=some m/\GM 1 m/\(aJ x0 6=3->m.1=(4:Int)):=by
 obtain⟨k,hk,hkm⟩:=ymg h1.1 h1.2
 obtain⟨l,hl,hlm⟩:=ymg h3.1 h3.2
 obtain⟨p,hp,hpm⟩:=y8n h1.1 h1.2
 have hkey:(keys.all fun k=>y65 (k,[]))=true:=by decide+kernel
 have hmm:(keys.all fun k=>keys.all fun l=>bif eqs k l then true else y65 (bif lts k l || eqs k l then k else l,bif !(lts k l)then k else l))=true:=by decide+kernel
 have hs:=z5k hpm
 have hso:=zot.2 (SpG.pre hpm)
 have ho:=zpn (g:=1) (by omega) (y2p hkm)
 have hoo:=zot.2 (SpG.one (y2p hkm))
 have hke:=az.1 hkey k hkm
 have hml:=az.1 (az.1 hmm k hkm) l hlm
 have go:∀s:B×B,y65 s=true->∃m,(match z13 NN k (x0,x1,x2,x3,x4,x5) s with
   | some r17=>(some r17.2.1)
   | none=>none)=some m/\GM 1 m/\(aJ x0 6=3->m.1=(4:Int)):=by
  intro s h
  obtain⟨r,e1,e2⟩:=yr7 (x:=(x0,x1,x2,x3,x4,x5)) (s:=s) hkm h h0 h1 h2 h3 h5
  exact⟨r.2.1,by rw[e1],e2⟩
 simp only[zdc,hk,hl,hp,hs,ho]
 cases eqi (aJ x4 4) 0
 case true=>exact go _ hso
 cases eqi (aJ x4 16) 1
 case true=>exact go _ hke
 cases eqi (aJ x4 16) 5
 case true=>exact go _ (by decide)
 cases e:eqs k l
 case true=>exact go _ hoo
 rw[e]at hml
 exact go _ (by simpa[e] using hml)
theorem ykg{x:K3}(hx:okT u7 x):∃m,zdc NN x=some m/\GM 1 m/\(aJ x.1 6=3->m.1=(4:Int)):=
 ykh (z6a hx.1) (z6a hx.2.1) (z6a hx.2.2.1) (z6a hx.2.2.2.1) (z6a hx.2.2.2.2.1) (z6a hx.2.2.2.2.2)
theorem yo6{x:K3}(hx:okT u7 x):∃m,zdc NN x=some m/\GM 1 m:=by
 obtain⟨m,h1,h2,_⟩:=ykg hx
 exact⟨m,h1,h2⟩
theorem yo8{xs:List (K3)}(hx:okT (.list u7) xs){k:Int}(hk:0<=k/\k<=24):
  ∃buf,zfn NN xs k=some buf/\(buf.length:Int)<=k/\∀m∈buf,GM 1 m:=by
 have hmem:∀i:Int,0<=i->i<(xs.length:Int)->okT u7 (rdL (α:=K3) xs i zz4):=by
  intro i h0 h1
  obtain⟨h,e⟩:=ypa xs i _ h0 h1
  rw[e]
  exact hx.2 i.toNat _ (aK h)
 have hl:(xs.length:Int)<=140737488351232:=by
  have:xs.length*6<=0x7ffffffff000:=hx.1
  omega
 have loop:=ycg (A:=((((List (K3))×(Int×(Unit×Int)))×((List (Z1))×Unit)))) (R:=(Unit×((List (Z1))×Unit)))
  (f:=fun rec v=>y9 NN (fun b0 b1 b2 b3=>rec ((b0,(b1,((),b2))),(b3,()))) v.1.1 v.1.2.1 v.1.2.2.2 v.2.1)
  (fun v=>v.1.1=xs/\v.1.2.1=k/\0<=v.1.2.2.2/\v.1.2.2.2<=k/\(v.2.1.length:Int)=v.1.2.2.2/\∀m∈v.2.1,GM 1 m)
  (fun r=>(r.2.1.length:Int)<=k/\∀m∈r.2.1,GM 1 m) (fun v=>(k-v.1.2.2.2).toNat)
  (by
   rintro rec ⟨⟨b0,b1,u,i⟩,out,_⟩ ⟨rfl,rfl,h3,h4,h5,h6⟩ ih
   simp only at h3 h4 h5 h6 hl hk hmem
   simp only[y9]
   cases e1:decide (i<(b0.length:Int))
   ·exact⟨_,rfl,by simp only;omega,h6⟩
   cases e2:decide (i<b1)
   ·exact⟨_,rfl,by simp only;omega,h6⟩
   have e1:=of_decide_eq_true e1
   have e2:=of_decide_eq_true e2
   obtain⟨m,hm,gm⟩:=yo6 (hmem i h3 e1)
   simp only[cond_true]
   rw[gd_t (V7 h3 e1),hm]
   simp only
   rw[gd_t (y9q (by simp only[maxB];omega) (by simp only[maxB];omega)),w64 (by omega) (by omega)]
   exact ih ((b0,b1,(),i+1),out++[m],()) ⟨rfl,rfl,by simp only;omega,by simp only;omega,by simp;omega,fun m' hm'=>by
    rcases ak.1 hm' with h | h
    ·exact h6 _ h
    ·simp at h;subst h;exact gm⟩ (by simp only;omega))
  NN ((xs,k,(),0),[],()) ⟨rfl,rfl,fe _,hk.1,rfl,fun m h=>by simp at h⟩ (by have:=W9;simp only;omega)
 obtain⟨r,h1,h2⟩:=loop
 have h1:z74 NN NN xs k 0 []=some r:=(congrFun (y47 (A:=((List K3)×(Int×(Unit×Int)))×((List Z1)×Unit)) (T:=Unit×((List Z1)×Unit)) (Φ:=List K3->Int->Int->List Z1->Option (Unit×((List Z1)×Unit))) (G:=y9 NN) (app:=fun f v=>f v.1.1 v.1.2.1 v.1.2.2.2 v.2.1)
  (cur:=fun r b0 b1 b2 b3=>r ((b0,(b1,((),b2))),(b3,()))) (fun _=>rfl) (fun _ _=>rfl) NN) ((xs,k,(),0),[],())).symm.trans h1
 exact⟨r.2.1,by simp only[zfn,h1],h2⟩
def wr(m:Mg):List Sp:=bif eqi m.1 1 || eqi m.1 2 then[(m.2.1,m.2.1++[0])]else bif eqi m.1 4 then[preB m.2.2.2.2.1,preB m.2.2.2.2.2.1]else bif eqi m.1 5 then[preB m.2.2.2.2.2.1]else[m.2.2.2.1]
def rds(m:Mg):List Sp:=bif eqi m.1 4 || eqi m.1 5 then[preB m.2.2.2.2.1]else bif eqi m.1 6 then[m.2.2.2.1]else[]
def kls(m:Mg):List Sp:=bif eqi m.1 6 then[]else wr m
def touchB(l m:List Sp):Bool:=l.any fun a=>m.any fun b=> !(emptyB (G7 a b))
theorem z77{g:Nat}(hg:g<1000000){m:Mg}(hm:GM g m):K8 NN m=some (wr m):=by
 cases hm with
 | put k v n hk hv=>simp only[K8,K0,cond_true,zpn hg hk];rfl
 | del k hk=>simp only[K8,show eqi (2:Int) 1=false by decide,K0,cond_true,cond_false,zpn hg hk];rfl
 | drop s hs=>rfl
 | move e he=>simp only[K8,show eqi (4:Int) 1=false by decide,show eqi (4:Int) 2=false by decide,K0,cond_true,cond_false,z5k (U9 he).1,z5k (U9 he).2];rfl
 | clone e he=>simp only[K8,show eqi (5:Int) 1=false by decide,show eqi (5:Int) 2=false by decide,show eqi (5:Int) 4=false by decide,K0,cond_true,cond_false,z5k (U9 he).2];rfl
 | stamp s n hs=>rfl
theorem zp0{g:Nat}{m:Mg}(hm:GM g m):z6g NN m=some (rds m):=by
 cases hm with
 | put k v n hk hv=>rfl
 | del k hk=>rfl
 | drop s hs=>rfl
 | move e he=>simp only[z6g,K0,cond_true,z5k (U9 he).1];rfl
 | clone e he=>simp only[z6g,show eqi (5:Int) 4=false by decide,K0,cond_true,cond_false,z5k (U9 he).1];rfl
 | stamp s n hs=>rfl
theorem yhp{g:Nat}(hg:g<1000000){m:Mg}(hm:GM g m):zim NN m=some (kls m):=by
 simp only[zim,z77 hg hm,kls]
 cases eqi m.1 6<;>rfl
theorem y1s(m:Mg):(wr m).length<=2/\(rds m).length<=1/\(kls m).length<=2:=by
 unfold kls wr rds
 cases eqi m.1 1<;>cases eqi m.1 2<;>cases eqi m.1 4<;>cases eqi m.1 5<;>cases eqi m.1 6<;>simp
theorem wr_G{g:Nat}{m:Mg}(hm:GM g m)(h1:1<=g):(∀s∈wr m,SpG g s)/\∀s∈rds m,SpG g s:=by
 have one:∀{k:B},k∈KU g->SpG g (k,k++[0]):=fun hk=>⟨y3x _,UU.of hk,UU.succ hk⟩
 have pr:∀{p:B},p∈paths->SpG g (preB p):=fun hp=>(SpG.pre hp).mono h1
 cases hm with
 | put k v n hk hv=>exact⟨fun s hs=>by simp[wr,eqi]at hs;rw[hs];exact one hk,fun s hs=>by simp[rds,eqi]at hs⟩
 | del k hk=>exact⟨fun s hs=>by simp[wr,eqi]at hs;rw[hs];exact one hk,fun s hs=>by simp[rds,eqi]at hs⟩
 | drop s hs=>exact⟨fun x hx=>by simp[wr,eqi]at hx;rw[hx];exact hs,fun s hs=>by simp[rds,eqi]at hs⟩
 | move e he=>exact⟨fun s hs=>by simp[wr,eqi]at hs;rcases hs with rfl | rfl;exact pr (U9 he).1;exact pr (U9 he).2,fun s hs=>by simp[rds,eqi]at hs;rw[hs];exact pr (U9 he).1⟩
 | clone e he=>exact⟨fun s hs=>by simp[wr,eqi]at hs;rw[hs];exact pr (U9 he).2,fun s hs=>by simp[rds,eqi]at hs;rw[hs];exact pr (U9 he).1⟩
 | stamp s n hs=>exact⟨fun x hx=>by simp[wr,eqi]at hx;rw[hx];exact hs,fun x hx=>by simp[rds,eqi]at hx;rw[hx];exact hs⟩
theorem yb2{l m:List Sp}{i:Int}{q:Sp}(hi:inB i l.length=true)(hq:rdL l i Y7=q)(hl:l.length<100000000):∀(post pre:List Sp) (n:Nat),m=pre++post->post.length<n->m.length<100000000->
  z8a NN n l m i (pre.length:Int)=some (bif post.any fun b=> !(emptyB (G7 q b))then .inl (true,())else .inr ((l,(m,i)),()))
 | _,_,0,_,h,_=>absurd h (ag _)
 | [],pre,n+1,hm,_,_=>by
  have e:decide ((pre.length:Int)<(m.length:Int))=false:=by rw[hm];simp
  rw[zeu]
  simp only[z29,e,cond_false,List.any_nil]
 | r::post,pre,n+1,hm,hn,hl'=>by
  simp only[af]at hn
  have hb:pre.length<9223372036854775807:=by rw[hm]at hl';simp at hl';omega
  have ih:=yb2 (m:=m) hi hq hl post (pre++[r]) n (by rw[hm];simp) (by omega) hl'
  rw[zeu]
  simp only[z29]
  have e1:decide ((pre.length:Int)<(m.length:Int))=true:=by rw[hm];exact U3
  have e2:inB (pre.length:Int) m.length=true:=by rw[hm];exact V4
  have e3:rdL m (pre.length:Int) Y7=r:=by rw[hm];exact U0
  simp only[e1,e2,e3,hq,cond_true,zkh,z30]
  rw[gd_t hi,gd_t rfl,W7 (q:=r) hb,ih]
  cases e:emptyB (G7 q r)<;>simp[e]
theorem yb3{m:List Sp}(hm:m.length<100000000):∀(post pre:List Sp) (n:Nat),post.length<n->(pre++post).length<100000000->
  z8b NN n (pre++post) m (pre.length:Int)=some (bif touchB post m then .inl (true,())else .inr ((),()))
 | _,_,0,h,_=>absurd h (ag _)
 | [],pre,n+1,_,_=>by
  rw[zev]
  simp only[z2a,ai,aA,decide_false,cond_false]
  rfl
 | q::post,pre,n+1,hn,hl=>by
  simp only[af]at hn
  have hb:pre.length<9223372036854775807:=by simp at hl;omega
  have et:touchB (q::post) m=((m.any fun b=> !(emptyB (G7 q b))) || touchB post m):=by simp[touchB]
  have h1:=yb2 (l:=pre++q::post) (m:=m) (i:=(pre.length:Int)) (q:=q) V4 U0 (by omega) m [] NN rfl (by have:=W9;omega) (by omega)
  have hz:(([]:List Sp).length:Int)=0:=rfl
  rw[hz]at h1
  rw[zev]
  simp only[z2a,U3,cond_true,h1,et]
  cases e:(m.any fun b=> !(emptyB (G7 q b)))
  ·simp only[cond_false,cG]
   rw[W7 (q:=q) hb,V9 (pre:=pre) (q:=q) (post:=post)]
   exact yb3 hm post (pre++[q]) n (by omega) (by simpa using hl)
  ·rfl
theorem zon{l m:List Sp}(hl:l.length<100000000)(hm:m.length<100000000):z8p NN l m=some (touchB l m):=by
 have h:=yb3 hm l [] NN (by have:=W9;omega) (by simp;omega)
 have hz:(([]:List Sp).length:Int)=0:=rfl
 simp only[aj,hz]at h
 simp only[z8p,h]
 cases touchB l m<;>rfl
theorem y6l{m:Mg}{e:B×B}(hm1:m.2.2.2.2.1=e.1)(hm2:m.2.2.2.2.2.1=e.2)(he:e∈ends){out src:List Pr}(ho:Srt out)(hn:out.length+src.length<90000000)(hs:∀x∈src,x.1.length<1000000000/\e.1.isPrefixOf x.1=true):
  z3x NN NN (0:Int) m out src=some ((),(uniT out (src.map fun x=>(e.2++x.1.drop e.1.length,x.2)),())):=by
 have e2:=(z9o (U9 he).2).2
 have h:=y9d (xs:=src) (L:=fun n i s=>z3x NN n i m s src) (fun t x=>insT (e.2++x.1.drop e.1.length,x.2) t) (fun s=>((),(s,()))) (fun s post=>Srt s/\s.length+post.length<=out.length+src.length/\∀x∈post,x.1.length<1000000000/\e.1.isPrefixOf x.1=true)
  (fun n s _=>by
   rw[zex]
   simp only[z2c,aA,decide_false,cond_false])
  (fun n pre x post s hx hi=>by
   have hb:pre.length<9223372036854775807:=by rw[hx]at hn;simp at hn;omega
   obtain⟨h1,h2,h3⟩:=hi
   simp only[af]at h2
   obtain⟨x1,x2⟩:=h3 x (by simp)
   have hin:=ych (e.2++x.1.drop e.1.length,x.2) s
   have hbl:=congrArg ap hx
   have hm:=yho NN x.1 e.1 e.2 (by omega) (by omega)
   rw[x2,cond_true]at hm
   rw[zex]
   rw[hx]
   simp only[z2c,U3,V4,cond_true,U0,hm1,hm2,hm,y7t NN (e.2++x.1.drop e.1.length,x.2) h1 (show s.length<NN by have:=W9;omega) (by omega)]
   rw[gd_t rfl,gd_t rfl,gd_t rfl,W7 (q:=x) hb]
   exact⟨rfl,h1.insT _,by omega,fun y hy=>h3 y (by simp[hy])⟩)
  (by have:=W9;omega) (show Srt out/\out.length+src.length<=out.length+src.length/\_ from⟨ho,al _,hs⟩) (n:=NN)
 rw[h]
 unfold uniT
 rw[List.foldl_map]
structure Tb (g:Nat) (t:List Pr):Prop where
 srt:Srt t
 key:∀p∈t,p.1∈KU g/\p.2.1∈values
theorem Srt.nodup{t:List Pr}(h:Srt t):(t.map (·.1)).Nodup:=by
 rw[fw,cU]
 exact h.imp fun h=>zf9 h
theorem Tb.len{g:Nat}{t:List Pr}(h:Tb g t):t.length<=20*(g+1):=by
 have:=zf4 h.srt.nodup (L:=KU g) (fun x hx=>by obtain⟨p,hp,rfl⟩:=aH.1 hx;exact(h.key p hp).1)
 rw[KU.length]at this
 simpa using this
theorem Tb.mono{g g':Nat}(h:g<=g'){t:List Pr}(ht:Tb g t):Tb g' t:=⟨ht.srt,fun p hp=>⟨KU.mono h (ht.key p hp).1,(ht.key p hp).2⟩⟩
theorem Tb.filter{g:Nat}{t:List Pr}(h:Tb g t)(f:Pr->Bool):Tb g (t.filter f):=⟨h.srt.filter f,fun p hp=>h.key p (aB.1 hp).1⟩
theorem Tb.uni{g:Nat}{a b:List Pr}(h:Tb g a)(hb:∀p∈b,p.1∈KU g/\p.2.1∈values):Tb g (uniT a b):=by
 unfold uniT
 induction b generalizing a with
 | nil=>exact h
 | cons p b ih=>
  rw[aU]
  refine ih ⟨h.srt.insT p,fun x hx=> ?_⟩ fun x hx=>hb x (by simp[hx])
  rcases insT_mem hx with rfl | hx
  ·exact hb _ (by simp)
  ·exact h.key x hx
def mvs(m:Mg):Nat:=if m.1=4\/m.1=5 then 1 else 0
theorem ypj{g:Nat}{t:List Pr}(h:Tb g t){e:B×B}(he:e∈ends):∀p∈mvd e.1 e.2 t,p.1∈KU (g+1)/\p.2.1∈values:=by
 intro p hp
 unfold mvd at hp
 obtain⟨x,hx,rfl⟩:=aH.1 hp
 obtain⟨h1,h2⟩:=aB.1 hx
 exact⟨KU.move (U9 he).1 (U9 he).2 (h.key x h1).1 h2,(h.key x h1).2⟩
theorem yfd{g:Nat}{t:List Pr}(h:Tb g t){m:Mg}(hm:GM g m):Tb (g+mvs m) (app m t):=by
 cases hm with
 | put k v n hk hv=>
  refine Tb.mono (cb _ _) (⟨h.srt.insT (k,v,n),fun x hx=> ?_⟩:Tb g (insT (k,v,n) t))
  rcases insT_mem hx with rfl | hx
  ·exact⟨hk,hv⟩
  ·exact h.key x hx
 | del k hk=>exact(h.filter _).mono (cb _ _)
 | drop s hs=>exact(h.filter _).mono (cb _ _)
 | move e he=>exact(((h.filter fun p=> !(hasB (preB e.2) p.1)).mono (ff g)).uni (ypj h he)).filter _
 | clone e he=>exact((h.filter fun p=> !(hasB (preB e.2) p.1)).mono (ff g)).uni (ypj h he)
 | stamp s n hs=>
  refine Tb.mono (cb _ _) (⟨h.srt.map (fun p=>by unfold stp;cases hasB s p.1<;>rfl),fun x hx=> ?_⟩:Tb g (t.map (stp s n)))
  obtain⟨y,hy,rfl⟩:=aH.1 hx
  have:=h.key y hy
  unfold stp
  cases hasB s y.1
  ·exact this
  ·exact this
theorem y6o{g:Nat}(hg:g<1000000){t:List Pr}(h:Tb g t){m:Mg}(hm:GM g m):z31 NN t m=some (app m t):=by
 have hl:=h.len
 have hN:=W9
 have wo:=fun(t:List Pr) (ht:t.length<100000000) (s:Sp)=>yer NN t [s] (by omega) (by simp;omega) (by simp only[Big];omega) (by simp[Big])
 have wi:=fun s:Sp=>yir NN t [s] (by omega) (by simp;omega) (by simp only[Big];omega) (by simp[Big])
 simp only[in1]at wo wi
 cases hm with
 | put k v x hk hv=>
  simp only[z31,K0,cond_true,y7t NN (k,v,x) h.srt (by omega) (by omega)]
  rfl
 | del k hk=>
  simp only[z31,show eqi (2:Int) 1=false by decide,K0,cond_true,cond_false,zpn hg hk,wo t (by omega)]
  rfl
 | drop s hs=>
  simp only[z31,show eqi (3:Int) 1=false by decide,show eqi (3:Int) 2=false by decide,K0,cond_true,cond_false,wo t (by omega)]
  rfl
 | stamp s x hs=>
  have hp:=y6i NN (zkf s x) t [] NN (by omega) (by simp only[aj];omega)
  have hz:(([]:List Pr).length:Int)=0:=rfl
  simp only[aj,hz]at hp
  simp only[z31,show eqi (6:Int) 1=false by decide,show eqi (6:Int) 2=false by decide,show eqi (6:Int) 3=false by decide,K0,cond_true,cond_false]
  rw[gd_t (Y4 (by omega) (by omega))]
  simp only[aj,hp]
  rfl
 | move e he=>
  obtain⟨h1,h2⟩:=U9 he
  have a1:=h.filter fun p=> !(hasB (preB e.2) p.1)
  have a2:=a1.filter fun p=> !(hasB (preB e.1) p.1)
  have l1:=a1.len
  have l2:=a2.len
  have es:t.filter (fun p=>hasB (preB e.1) p.1)=t.filter (fun x=>e.1.isPrefixOf x.1):=dY fun x _=>z6b h1 x.1
  have hsl:(t.filter (fun x=>e.1.isPrefixOf x.1)).length<=t.length:=cd _ _
  have hm:=y6l (m:=mv 4 e) rfl rfl he a2.srt (src:=t.filter (fun x=>e.1.isPrefixOf x.1)) (by omega) (fun x hx=>⟨by have:=UU.len (UU.of (h.key x (aB.1 hx).1).1);omega,(aB.1 hx).2⟩)
  simp only[z31,show eqi (4:Int) 1=false by decide,show eqi (4:Int) 2=false by decide,show eqi (4:Int) 3=false by decide,show eqi (4:Int) 6=false by decide,K0,cond_true,cond_false,z5k h2,z5k h1,wo t (by omega),wi,wo (t.filter fun p=> !(hasB (preB e.2) p.1)) (by omega),es,hm]
  refine congrArg some (Srt.ext (yb0 _ a2.srt) ((yb0 _ a1.srt).filter _) fun k=> ?_)
  have hms:=h.srt.mvd e.1 e.2
  show fnd (uniT ((t.filter fun p=> !(hasB (preB e.2) p.1)).filter fun p=> !(hasB (preB e.1) p.1)) (mvd e.1 e.2 t)) k=fnd ((uniT (t.filter fun p=> !(hasB (preB e.2) p.1)) (mvd e.1 e.2 t)).filter (fun p=> !(hasB (preB e.1) p.1))) k
  rw[yb1 hms,zlw (fun x=> !(hasB (preB e.1) x)),zlw (fun x=> !(hasB (preB e.1) x)),yb1 hms,yoe,z6b h1]
  cases q1:e.1.isPrefixOf k
  ·simp only[aO,cond_true]
  ·rw[yeb he k q1];rfl
 | clone e he=>
  obtain⟨h1,h2⟩:=U9 he
  have a1:=h.filter fun p=> !(hasB (preB e.2) p.1)
  have l1:=a1.len
  have es:t.filter (fun p=>hasB (preB e.1) p.1)=t.filter (fun x=>e.1.isPrefixOf x.1):=dY fun x _=>z6b h1 x.1
  have hsl:(t.filter (fun x=>e.1.isPrefixOf x.1)).length<=t.length:=cd _ _
  have hm:=y6l (m:=mv 5 e) rfl rfl he a1.srt (src:=t.filter (fun x=>e.1.isPrefixOf x.1)) (by omega) (fun x hx=>⟨by have:=UU.len (UU.of (h.key x (aB.1 hx).1).1);omega,(aB.1 hx).2⟩)
  simp only[z31,show eqi (5:Int) 1=false by decide,show eqi (5:Int) 2=false by decide,show eqi (5:Int) 3=false by decide,show eqi (5:Int) 6=false by decide,show eqi (5:Int) 4=false by decide,cond_false,z5k h2,z5k h1,wo t (by omega),wi,es,hm]
  rfl
def mvN(l:List Mg):Nat:=(l.map mvs).sum
theorem z79(a b:List Mg):mvN (a++b)=mvN a+mvN b:=by simp[mvN]
theorem y98:∀{ms:List Mg} {g:Nat} {t:List Pr},Tb g t->(∀m∈ms,GM g m)->Tb (g+mvN ms) (apps ms t)
 | [],_,_,h,_=>h
 | m::ms,g,t,h,hm=>by
  have:=y98 (ms:=ms) (yfd h (hm m (by simp))) (fun x hx=>(hm x (by simp[hx])).mono (cb _ _))
  have e:g+mvs m+mvN ms=g+mvN (m::ms):=by simp[mvN];omega
  rw[e]at this
  exact this
theorem yg1:∀(post pre:List Mg) (n g:Nat) (t:List Pr),post.length<n->Big (pre++post).length->(∀m∈post,GM g m)->Tb g t->g+mvN post<1000000->
  zc5 NN n t (pre++post) (pre.length:Int)=some (apps post t,())
 | _,_,0,_,_,h,_,_,_,_=>absurd h (ag _)
 | [],pre,n+1,g,t,_,_,_,_,_=>by
  rw[zib]
  simp only[z4v,ai,aA,decide_false,cond_false]
  rfl
 | m::post,pre,n+1,g,t,hn,hl,hg,ho,hb=>by
  simp only[af]at hn
  have hl':pre.length<9223372036854775807:=by simp[Big]at hl;omega
  have e:mvN (m::post)=mvs m+mvN post:=by simp[mvN]
  have a1:=y6o (by omega) ho (hg m (by simp))
  rw[zib]
  simp only[z4v,U3,V4,cond_true,U0,a1]
  rw[gd_t rfl,W7 (q:=m) hl',V9,yg1 post (pre++[m]) n (g+mvs m) _ (by omega) (by simpa using hl) (fun x hx=>(hg x (by simp[hx])).mono (cb _ _)) (yfd ho (hg m (by simp))) (by omega)]
  rfl
theorem yg0{ms:List Mg}{g:Nat}{t:List Pr}(hn:Big ms.length)(hm:∀m∈ms,GM g m)(ho:Tb g t)(hb:g+mvN ms<1000000):zk9 NN t ms=some (apps ms t):=by
 have h:=yg1 ms [] NN g t (by have:=W9;simp only[Big]at hn;omega) (by simpa using hn) hm ho hb
 have hz:(([]:List Mg).length:Int)=0:=rfl
 simp only[aj,hz]at h
 simp only[zk9,h]
theorem yme(p r:B):lts (p++r) p=false:=by
 have:=zjz p r []
 rw[ai]at this
 rw[this,zma]
def zps(s:Sp)(p q:B):Sp:=(q++s.1.drop p.length,bif p.isPrefixOf s.2 then q++s.2.drop p.length else(preB q).2)
theorem y8o{p:B}(hp:p∈paths):p≠[]:=by rintro rfl;simp[paths]at hp
theorem yj0{s:Sp}{p q:B}(hp:p∈paths)(hq:q∈paths)(h1:p.isPrefixOf s.1=true)(l1:s.1.length<1000000)(l2:s.2.length<1000000):zik NN s p q=some (zps s p q):=by
 have hl:=(aP.1 h1).length_le
 have hq4:=(z9o hq).2
 have hz:∀b:Bool,(bif b then(bif !(eqs s.2 [])then some 1 else none)else none:Option Nat)=none\/True:=fun _=> .inr trivial
 simp only[zik,z5k hq,ab,zrx]
 rw[gd_t (by simp;omega),zol,gd_p (by simp only[maxS,aZ];omega)]
 unfold zps
 cases e:p.isPrefixOf s.2
 ·rfl
 ·have hl2:=(aP.1 e).length_le
  have hne:eqs s.2 []=false:=zh3 fun h=>by
   rw[h]at hl2
   exact y8o hp (bP.1 (by simpa using hl2))
  rw[cond_true,hne,X4 (by rfl),gd_t (by simp;omega),zol,gd_p (by simp only[maxS,aZ];omega)]
  rfl
theorem yi2{s:Sp}{p q:B}(hp:p∈paths)(hq:q∈paths)(hs:emptyB s=false)(h1:p.isPrefixOf s.1=true){k:B}(hk:hasB (zps s p q) k=true):q.isPrefixOf k=true/\hasB s (p++k.drop q.length)=true:=by
 obtain⟨r,hr⟩:=aP.1 h1
 have hd:s.1.drop p.length=r:=by rw[<-hr,da]
 unfold zps at hk
 rw[hd,U1]at hk
 simp only[belowB,ac,aw,ay]at hk
 obtain⟨k1,k2⟩:=hk
 have hqk:lts k q=false:=zve (yme q r) k1
 have hpre:q.isPrefixOf k=true:=by
  rw[<-z6b hq,U1,show(preB q).1=q from rfl,hqk]
  simp only[aO,bv,belowB,ay]
  refine .inr ?_
  cases e:p.isPrefixOf s.2
  ·rw[e,cond_false]at k2
   rcases k2 with k2 | k2
   ·have h:(paths.all fun q=> !(eqs (preB q).2 []))=true:=by decide
    have:=az.1 h q hq
    rw[k2]at this;cases this
   ·exact k2
  ·rw[e,cond_true]at k2
   have hb:hasB (preB q) (q++s.2.drop p.length)=true:=by rw[z6b hq];exact zm8 _ _
   rw[U1]at hb
   simp only[belowB,ac,ay]at hb
   rcases k2 with k2 | k2
   ·have:=K7.1 k2
    simp only[dk]at this
    exact absurd this.1 (y8o hq)
   ·rcases hb.2 with h | h
    ·have h':(paths.all fun q=> !(eqs (preB q).2 []))=true:=by decide
     have:=az.1 h' q hq
     rw[h]at this;cases this
    ·exact K9 k2 h
 refine⟨hpre, ?_⟩
 obtain⟨t,rfl⟩:=aP.1 hpre
 rw[da]
 rw[zjz]at k1
 rw[U1,<-hr,zjz,k1]
 simp only[aO,bv,belowB,ay]
 cases e:p.isPrefixOf s.2
 ·rcases full_iff.1 hs with h | h
  ·exact .inl (by rw[h];rfl)
  ·refine .inr ?_
   have h2:lts s.2 p=false:=by
    refine z0j ?_
    rw[<-hr]at h
    exact y9n (yme p r) h
   have h3:hasB (preB p) s.2=false:=by rw[z6b hp];exact e
   rw[U1,show(preB p).1=p from rfl,h2]at h3
   simp only[aO,bv,belowB,cW]at h3
   have hb:hasB (preB p) (p++t)=true:=by rw[z6b hp];exact zm8 _ _
   rw[U1]at hb
   simp only[belowB,ac,ay]at hb
   rcases hb.2 with h4 | h4
   ·rw[h3.1]at h4;cases h4
   ·exact zki h4 h3.2
 ·obtain⟨r2,hr2⟩:=aP.1 e
  rw[e,cond_true,<-hr2,da,zjz]at k2
  rw[<-hr2,zjz]
  rcases k2 with k2 | k2
  ·have:=K7.1 k2
   simp only[dk]at this
   exact absurd this.1 (y8o hq)
  ·exact .inr k2
theorem yo2{s:Sp}{p q:B}{e:Nat}(hp:p∈paths)(hq:q∈paths)(hs:SpG e s)(h1:p.isPrefixOf s.1=true):(zps s p q).1∈UU (e+1)/\(zps s p q).2∈UU (e+1):=by
 refine⟨UU.move hp hq hs.2.1 h1, ?_⟩
 unfold zps
 cases h:p.isPrefixOf s.2
 ·exact UU.mono (by omega) (UU.path hq).2
 ·exact UU.move hp hq hs.2.2 h
def zjg(l:List Sp)(p q:B):List Sp:=(l.filter fun s=> !(emptyB (G7 s (preB p)))).map fun s=>zps (G7 s (preB p)) p q
theorem y42{s:Sp}{p:B}(hp:p∈paths)(h:emptyB (G7 s (preB p))=false):p.isPrefixOf (G7 s (preB p)).1=true:=by
 have:=zpv h
 rw[zch]at this
 simp only[ac]at this
 rw[<-z6b hp];exact this.2
theorem y5x{s x:Sp}{e:Nat}(hs:SpG e s)(hx:SpG e x)(h:emptyB (G7 s x)=false):SpG e (G7 s x):=by
 obtain⟨h1,h2⟩:=y43 s x h
 exact⟨h,by rcases h1 with h1 | h1<;>rw[h1]<;>first | exact hs.2.1 | exact hx.2.1,by rcases h2 with h2 | h2<;>rw[h2]<;>first | exact hs.2.2 | exact hx.2.2⟩
theorem ylr{m:Mg}{p q:B}(hp:p∈paths)(hq:q∈paths)(hm1:m.2.2.2.2.2.1=p)(hm2:m.2.2.2.2.1=q){e:Nat}(he:e<50000)(h1:1<=e):∀(post pre out:List Sp) (n:Nat),post.length<n->(pre++post).length<100000000->out.length+post.length<100000000->(∀s∈post,SpG e s)->
  z0n NN n (pre++post) (pre.length:Int) m (preB p) out=some ((),(out++zjg post p q,()))
 | _,_,_,0,h,_,_,_=>absurd h (ag _)
 | [],pre,out,n+1,_,_,_,_=>by
  rw[zcd]
  simp only[z0f,ai,aA,decide_false,cond_false]
  simp[zjg]
 | s::post,pre,out,n+1,hn,hl,ho,hs=>by
  simp only[af]at hn ho
  have hb:pre.length<9223372036854775807:=by simp at hl;omega
  have ih:=fun out (h:out.length+post.length<100000000)=>ylr hp hq hm1 hm2 he h1 post (pre++[s]) out n (by omega) (by simpa using hl) h fun x hx=>hs x (by simp[hx])
  rw[zcd]
  simp only[z0f,U3,V4,cond_true,U0,zkh,z30,ab]
  rw[gd_t rfl]
  cases e1:emptyB (G7 s (preB p))
  ·have hG:=y5x (hs s (by simp)) ((SpG.pre hp).mono h1) e1
   have l1:=UU.len hG.2.1
   have l2:=UU.len hG.2.2
   rw[X4 (by rfl),hm1,hm2,yj0 hp hq (y42 hp e1) (by omega) (by omega)]
   simp only[ab]
   rw[gd_t (Y4 (by omega) (by omega)),W7 (q:=s) hb,V9 (pre:=pre) (q:=s) (post:=post),ih _ (by simp;omega)]
   simp[zjg,e1]
  ·rw[Y3 (by rfl),W7 (q:=s) hb,V9 (pre:=pre) (q:=s) (post:=post),ih _ (by omega)]
   simp[zjg,e1]
structure Thr (e h:Nat) (l r:List Sp) (c:Nat):Prop where
 sep:Sep r
 g:∀s∈r,SpG (e+c) s
 wt:wt (h-c) (inS r)<=wt h (inS l)
theorem SpG.len{l:List Sp}{e:Nat}(hs:Sep l)(hg:∀s∈l,SpG e s):l.length<=5+48*(e+1):=by
 have:=hs.len (E:=UU e) fun s h=>(hg s h).2.1
 rwa [UU.length]at this
theorem y6z{e h:Nat}{l x:List Sp}(he:e<40000)(hx:x.length<=2)(hs:Sep l)(hg:∀s∈l,SpG e s)(hxg:∀s∈x,SpG e s):∃r,Q7 NN l x=some r/\(∀k,inS r k=(inS l k&& !(inS x k)))/\r.length<=l.length*2^x.length/\Sep r/\∀s∈r,SpG e s:=by
 have hl:=SpG.len hs hg
 have hp:2^x.length<=4:=by
  have:x.length=0\/x.length=1\/x.length=2:=by omega
  rcases this with h | h | h<;>rw[h]<;>decide
 have hm:l.length*2^x.length<=l.length*4:=ba _ hp
 obtain⟨r,r1,r2,r3,r4,r5⟩:=y3d (l:=l) (m:=x) (E:=UU e) (fun s h=>(hxg s h).2) (UU.nil e) (fun s h _=>(hg s h).2) (by omega) (by omega)
 exact⟨r,r1,r2,r3,r4,fun s h=>⟨r4.full s h,r5 s h⟩⟩
theorem ydl{e h g:Nat}(he:e<40000)(h1:1<=g)(hge:g<=e){l:List Sp}{m:Mg}(hm:GM g m)(hs:Sep l)(hg:∀s∈l,SpG e s)(hh:1<=h):∃r,z2v NN l m=some r/\Thr e h l r (mvs m):=by
 have one:∀x:List Sp,x.length<=2->(∀s∈x,SpG e s)->∃r,Q7 NN l x=some r/\Thr e h l r 0:=fun x hx hxg=>by
  obtain⟨r,r1,r2,r3,r4,r5⟩:=y6z he hx hs hg hxg (h:=h)
  exact⟨r,r1,r4,r5,zjv fun a ha=>by rw[r2]at ha;simp at ha;exact ha.1⟩
 have big:∀(x:List Sp) (ed:B×B),ed∈ends->mvs m=1->m.2.2.2.2.1=ed.1->m.2.2.2.2.2.1=ed.2->x.length<=2->(∀s∈x,SpG e s)->(∀k,ed.2.isPrefixOf k=true->inS x k=true)->
   ∃r1 r2 r3,Q7 NN l x=some r1/\z0n NN NN l (0:Int) m (preB ed.2) r1=some ((),(r2,()))/\z16 NN r2=some r3/\Thr e h l r3 (mvs m):=fun x ed hed hmv em1 em2 hx hxg hto=>by
  obtain⟨p1,p2⟩:=U9 hed
  obtain⟨r,r1,r2,r3,r4,r5⟩:=y6z he hx hs hg hxg (h:=h)
  have hl:=SpG.len hs hg
  have hrl:=SpG.len r4 r5
  have h0:=ylr p2 p1 em2 em1 (e:=e) (by omega) (by omega) l [] r NN (by have:=W9;omega) (by simp;omega) (by omega) hg
  have hz:(([]:List Sp).length:Int)=0:=rfl
  simp only[aj,hz]at h0
  have hml:(zjg l ed.2 ed.1).length<=l.length:=by unfold zjg;rw[bZ];exact cd _ _
  obtain⟨t,t1,t2,t3,t4,t5⟩:=zdt NN (l:=r++zjg l ed.2 ed.1) (by have:=W9;simp;omega) (by simp;omega)
  have mg:∀s∈zjg l ed.2 ed.1,s.1∈UU (e+1)/\s.2∈UU (e+1):=fun s hs'=>by
   unfold zjg at hs'
   obtain⟨y,hy,rfl⟩:=aH.1 hs'
   obtain⟨y1,y2⟩:=aB.1 hy
   have y2:emptyB (G7 y (preB ed.2))=false:=by simpa using y2
   exact yo2 p2 p1 (y5x (hg y y1) ((SpG.pre p2).mono (by omega)) y2) (y42 p2 y2)
  have all:∀s∈r++zjg l ed.2 ed.1,s.1∈UU (e+1)/\s.2∈UU (e+1):=fun s hs'=>by
   rcases ak.1 hs' with hs' | hs'
   ·exact⟨UU.mono (by omega) (r5 s hs').2.1,UU.mono (by omega) (r5 s hs').2.2⟩
   ·exact mg s hs'
  refine⟨r,_,t,r1,h0,t1,t4,fun s hs'=> ?_, ?_⟩
  ·rw[hmv]
   obtain⟨⟨a,ha,ea⟩,b,hb,eb⟩:=t5 s hs'
   exact⟨t4.full s hs',by rw[ea];exact(all a (aB.1 ha).1).1,by rw[eb];exact(all b (aB.1 hb).1).2⟩
  ·rw[hmv]
   have src:∀a,inS t a=true->inS x a=false/\inS l a=true\/ed.1.isPrefixOf a=true/\inS l (ed.2++a.drop ed.1.length)=true:=fun a ha=>by
    rw[t2,z92,ay]at ha
    rcases ha with ha | ha
    ·rw[r2]at ha
     simp only[ac,aw]at ha
     exact .inl ⟨ha.2,ha.1⟩
    ·obtain⟨s,hs',ha⟩:=db.1 ha
     unfold zjg at hs'
     obtain⟨y,hy,rfl⟩:=aH.1 hs'
     obtain⟨y1,y2⟩:=aB.1 hy
     have y2:emptyB (G7 y (preB ed.2))=false:=by simpa using y2
     obtain⟨k1,k2⟩:=yi2 p2 p1 y2 (y42 p2 y2) ha
     rw[zch,ac]at k2
     exact .inr ⟨k1,db.2 ⟨y,y1,k2.1⟩⟩
   have hto':∀a,inS x a=false->ed.2.isPrefixOf a=false:=fun a ha=>by
    cases e2:ed.2.isPrefixOf a
    ·rfl
    ·rw[hto a e2]at ha;cases ha
   refine ylp (fun a=>if inS x a=false/\inS l a=true then a else ed.2++a.drop ed.1.length) (fun a ha hp=> ?_) fun a b ha hb hab=> ?_
   ·by_cases c:inS x a=false/\inS l a=true
    ·rw[if_pos c];exact⟨UU.mono (by omega) ha,c.2⟩
    ·rw[if_neg c]
     rcases src a hp with h | ⟨k1,k2⟩
     ·exact absurd h c
     ·have:=UU.move p1 p2 ha k1
      rw[show h-1+1=h by omega]at this
      exact⟨this,k2⟩
   ·by_cases c:inS x a=false/\inS l a=true
    ·rw[if_pos c]at hab
     by_cases d:inS x b=false/\inS l b=true
     ·rw[if_pos d]at hab;exact hab
     ·rw[if_neg d]at hab
      have:=hto' a c.1
      rw[hab,zm8]at this;cases this
    ·rw[if_neg c]at hab
     rcases src a ha with h | ⟨k1,_⟩
     ·exact absurd h c
     by_cases d:inS x b=false/\inS l b=true
     ·rw[if_pos d]at hab
      have:=hto' b d.1
      rw[<-hab,zm8]at this;cases this
     ·rw[if_neg d]at hab
      rcases src b hb with h | ⟨k2,_⟩
      ·exact absurd h d
      ·have hd:=List.append_cancel_left hab
       have ea:=z9g k1
       have eb:=z9g k2
       rw[<-ea,<-eb,hd]
 cases hm with
 | put k v n hk hv=>
  obtain⟨r,r1,r2⟩:=one [(k,k++[0])] (by simp) (fun s hs'=>by simp at hs';rw[hs'];exact(SpG.one hk).mono hge)
  exact⟨r,by simp only[z2v,K0,cond_true,zpn (by omega) hk,ab,r1],r2⟩
 | del k hk=>
  obtain⟨r,r1,r2⟩:=one [(k,k++[0])] (by simp) (fun s hs'=>by simp at hs';rw[hs'];exact(SpG.one hk).mono hge)
  exact⟨r,by simp only[z2v,show eqi (2:Int) 1=false by decide,K0,cond_true,cond_false,zpn (by omega) hk,ab,r1],r2⟩
 | drop s hs'=>
  obtain⟨r,r1,r2⟩:=one [s] (by simp) (fun x hx=>by simp at hx;rw[hx];exact hs'.mono hge)
  exact⟨r,by simp only[z2v,show eqi (3:Int) 1=false by decide,show eqi (3:Int) 2=false by decide,K0,cond_true,cond_false,r1,ab],r2⟩
 | stamp s n hs'=>exact⟨l,rfl,hs,hg,al _⟩
 | move ed hed=>
  obtain⟨p1,p2⟩:=U9 hed
  obtain⟨r1,r2,r3,e1,e2,e3,e4⟩:=big [preB ed.2,preB ed.1] ed hed rfl rfl rfl (by simp) (fun s hs'=>by
   simp at hs'
   rcases hs' with rfl | rfl
   ·exact(SpG.pre p2).mono (by omega)
   ·exact(SpG.pre p1).mono (by omega)) (fun k hk=>by simp[inS,z6b p2,hk])
  refine⟨r3, ?_,e4⟩
  simp only[z2v,show eqi (4:Int) 1=false by decide,show eqi (4:Int) 2=false by decide,show eqi (4:Int) 3=false by decide,show eqi (4:Int) 6=false by decide,K0,cond_true,cond_false,z5k p2,z5k p1,ab]
  rw[gd_t (Y4 (by omega) (by omega))]
  show(Q7 NN l [preB ed.2,preB ed.1]).bind _=_
  simp only[e1,ab,e2,e3]
 | clone ed hed=>
  obtain⟨p1,p2⟩:=U9 hed
  obtain⟨r1,r2,r3,e1,e2,e3,e4⟩:=big [preB ed.2] ed hed rfl rfl rfl (by simp) (fun s hs'=>by
   simp at hs'
   rw[hs'];exact(SpG.pre p2).mono (by omega)) (fun k hk=>by simp[inS,z6b p2,hk])
  refine⟨r3, ?_,e4⟩
  simp only[z2v,show eqi (5:Int) 1=false by decide,show eqi (5:Int) 2=false by decide,show eqi (5:Int) 3=false by decide,show eqi (5:Int) 6=false by decide,show eqi (5:Int) 4=false by decide,cond_false,z5k p2,ab,e1,e2,e3]
end Ds
namespace Ds
open Go Go.Dv
set_option maxRecDepth 100000
abbrev Sl:Type:=Z7
abbrev Nd:Type:=Z5
abbrev D0:Sl:=X2
def G6(s:Sl):List Int:=s.2.2.2.2.2.1
def z47(s:Sl):Int:=s.2.2.1
def zas(s:Sl):Nd:=s.2.2.2
def slA(p:List Sl)(i:Int):Sl:=rdL p i D0
def W2(p:List Sl)(i:Int):Bool:=decide (0<=i)&&(decide (i<(p.length:Int))&&(slA p i).1)
def kidsU(s:Sl):List Int:=if s.1=true then G6 s else[]
def X8(p:List Sl):List Int:=p.flatMap kidsU
theorem V2{p:List Sl}{i:Int}:W2 p i=true↔0<=i/\i<(p.length:Int)/\(slA p i).1=true:=by
 simp[W2]
theorem z32{α:Type}{p:List α}{i:Int}{y d:α}(h0:0<=i)(h1:i<(p.length:Int)):rdL (setL p i y) i d=y:=by
 have:i.toNat<p.length:=by omega
 simp[rdL,setL,this]
theorem z1d{α:Type}{p:List α}{i j:Int}{y d:α}(h0:0<=i)(h1:0<=j)(h:j≠i):rdL (setL p i y) j d=rdL p j d:=by
 have:i.toNat≠j.toNat:=by omega
 simp[rdL,setL,List.getElem?_set,this]
@[simp] theorem G0{α:Type}(p:List α)(i:Int)(y:α):(setL p i y).length=p.length:=by simp[setL]
theorem z62{α:Type}{p:List α}{i:Int}{d:α}(h0:0<=i)(h1:i<(p.length:Int)):rdL p i d∈p:=by
 have:i.toNat<p.length:=by omega
 simp[rdL,this]
theorem y5w{α:Type}{p:List α}{x:α}(d:α)(h:x∈p):∃i:Int,0<=i/\i<(p.length:Int)/\rdL p i d=x:=by
 obtain⟨n,hn,rfl⟩:=List.mem_iff_getElem.1 h
 exact⟨(n:Int),by omega,by omega,by simp[rdL,hn]⟩
theorem yqk{α:Type}{p q:List α}(d:α)(hl:p.length=q.length)(h:∀i:Int,0<=i->i<(p.length:Int)->rdL p i d=rdL q i d):p=q:=by
 apply eW hl
 intro n h1 h2
 have:=h (n:Int) (by omega) (by omega)
 simpa[rdL,h1,h2] using this
theorem ygs(j:Int):∀(p:List Sl) (n:Nat) (y:Sl) (h:n<p.length),(X8 (p.set n y)).count j+(kidsU p[n]).count j=(X8 p).count j+(kidsU y).count j
 | [],_,_,h=>absurd h (ag _)
 | s::p,0,y,_=>by simp only[X8,eQ,co,cK,eh];omega
 | s::p,n+1,y,h=>by
  have ih:=ygs j p n y (by simpa using h)
  simp only[X8,dO,co,cK,dl]at ih|-
  omega
theorem zha{p:List Sl}{i:Int}(h1:i.toNat<p.length):slA p i=p[i.toNat]:=by simp[slA,rdL,h1]
theorem y4h(p:List Sl)(i:Int)(y:Sl)(j:Int)(h0:0<=i)(h1:i<(p.length:Int)):(X8 (setL p i y)).count j+(kidsU (slA p i)).count j=(X8 p).count j+(kidsU y).count j:=by
 have h:i.toNat<p.length:=by omega
 rw[zha h]
 exact ygs j p i.toNat y h
theorem y2o{p:List Sl}{i k:Int}(hu:W2 p i=true)(hk:k∈G6 (slA p i)):k∈X8 p:=by
 obtain⟨h0,h1,h2⟩:=V2.1 hu
 refine dz.2 ⟨slA p i,z62 h0 h1, ?_⟩
 rw[kidsU,if_pos h2];exact hk
theorem yqv{p:List Sl}{k:Int}(h:k∈X8 p):∃i,W2 p i=true/\k∈G6 (slA p i):=by
 obtain⟨s,hs,hk⟩:=dz.1 h
 obtain⟨i,h0,h1,h2⟩:=y5w D0 hs
 unfold kidsU at hk
 split at hk
 ·rename_i hu
  exact⟨i,V2.2 ⟨h0,h1,by rw[show slA p i=s from h2];exact hu⟩,by rw[show slA p i=s from h2];exact hk⟩
 ·cases hk
structure Bal (p:List Sl) (L:List Int):Prop where
 z:∀s∈p,s.1=false->s=D0
 lost:∀s∈p,s.2.1=false
 refs:∀i,W2 p i=true->z47 (slA p i)=((L.count i+(X8 p).count i:Nat):Int)
 mem:∀k∈L,W2 p k=true
 kid:∀k∈X8 p,W2 p k=true
 pos:∀i,W2 p i=true->0<L.count i+(X8 p).count i
 rank:∃r:Int->Nat,∀i,W2 p i=true->∀k∈G6 (slA p i),r k<r i
theorem Bal.congr{p:List Sl}{L L':List Int}(h:Bal p L)(hc:∀i,L'.count i=L.count i):Bal p L':=by
 refine⟨h.z,h.lost,fun i hi=>by rw[hc];exact h.refs i hi,fun k hk=> ?_,h.kid,fun i hi=>by rw[hc];exact h.pos i hi,h.rank⟩
 apply h.mem
 rw[<-bj,<-hc,bj];exact hk
structure Shr (p q:List Sl):Prop where
 len:q.length=p.length
 node:∀i,W2 q i=true->W2 p i=true/\zas (slA q i)=zas (slA p i)
theorem Shr.refl(p:List Sl):Shr p p:=⟨rfl,fun i h=>⟨h,rfl⟩⟩
theorem Shr.trans{p q r:List Sl}(h:Shr p q)(k:Shr q r):Shr p r:=
 ⟨k.len.trans h.len,fun i hi=>⟨(h.node i (k.node i hi).1).1,(k.node i hi).2.trans (h.node i (k.node i hi).1).2⟩⟩
theorem zh2(s:Sl):G6 s=(zas s).2.2.1:=rfl
theorem y27(p:List Sl)(r:Int->Nat):∃B,∀i,W2 p i=true->r i<B:=by
 have:∀n:Nat,∃B,∀i:Int,0<=i->i<(n:Int)->r i<B:=by
  intro n
  induction n with
  | zero=>exact⟨0,fun i h0 h1=>by omega⟩
  | succ n ih=>
   obtain⟨B,hB⟩:=ih
   refine⟨B+r n+1,fun i h0 h1=> ?_⟩
   by_cases e:i=(n:Int)
   ·subst e;omega
   ·have:=hB i h0 (by omega);omega
 obtain⟨B,hB⟩:=this p.length
 exact⟨B,fun i hi=>by obtain⟨h0,h1,_⟩:=V2.1 hi;exact hB i h0 h1⟩
theorem yq9{p:List Sl}{L:List Int}(h:Bal p L)(Q:Int->Prop)(hr:∀k∈L,Q k)(hk:∀i k,W2 p i=true->Q i->k∈G6 (slA p i)->Q k):∀i,W2 p i=true->Q i:=by
 obtain⟨r,hrk⟩:=h.rank
 obtain⟨B,hB⟩:=y27 p r
 have:∀n i,W2 p i=true->B-r i<=n->Q i:=by
  intro n
  induction n with
  | zero=>intro i hi hn;have:=hB i hi;omega
  | succ n ih=>
   intro i hi hn
   have hp:=h.pos i hi
   by_cases hc:0<L.count i
   ·exact hr i (bj.1 hc)
   ·have:0<(X8 p).count i:=by omega
    obtain⟨j,hj,hkj⟩:=yqv (bj.1 this)
    have:=hrk j hj i hkj
    exact hk j i hj (ih j hj (by omega)) hkj
 exact fun i hi=>this _ i hi (al _)
theorem zdj{p:List Sl}{L:List Int}(h:Bal p L){i:Int}(h0:0<=i)(h1:i<(p.length:Int))(hu:¬W2 p i=true):slA p i=D0:=by
 refine h.z _ (z62 h0 h1) ?_
 cases e:(slA p i).1 with
 | false=>rfl
 | true=>exact absurd (V2.2 ⟨h0,h1,e⟩) hu
theorem z6l{p:List Sl}{i:Int}{y:Sl}(h0:0<=i)(h1:i<(p.length:Int)):slA (setL p i y) i=y:=z32 h0 h1
theorem z0p{p:List Sl}{i j:Int}{y:Sl}(h0:0<=i)(h1:0<=j)(h:j≠i):slA (setL p i y) j=slA p j:=z1d h0 h1 h
theorem y3l{p:List Sl}{i j:Int}{y:Sl}(h0:0<=i)(h1:i<(p.length:Int)):W2 (setL p i y) j=if j=i then y.1 else W2 p j:=by
 by_cases e:j=i
 ·subst e
  rw[if_pos rfl,W2,z6l h0 h1,G0]
  simp[h0,h1]
 ·rw[if_neg e]
  by_cases hj:0<=j
  ·rw[W2,W2,z0p h0 hj e,G0]
  ·simp[W2,hj]
theorem mem_setL{p:List Sl}{i:Int}{y s:Sl}(h:s∈setL p i y):s∈p\/s=y:=List.mem_or_eq_of_mem_set h
def K5(s:Sl)(n:Int):Sl:=(s.1,(s.2.1,(n,s.2.2.2)))
theorem yd3{p:List Sl}{L L':List Int}{k:Int}{n:Int}(h:Bal p L)(hk:W2 p k=true)
  (hc:∀i,i≠k->L'.count i=L.count i) (hn:n=((L'.count k+(X8 p).count k:Nat):Int)) (hp:0<L'.count k+(X8 p).count k):
  Bal (setL p k (K5 (slA p k) n)) L'/\Shr p (setL p k (K5 (slA p k) n)):=by
 obtain⟨h0,h1,h2⟩:=V2.1 hk
 have hu:∀j,W2 (setL p k (K5 (slA p k) n)) j=W2 p j:=by
  intro j
  rw[y3l h0 h1]
  by_cases e:j=k
  ·subst e;rw[if_pos rfl,hk];exact h2
  ·rw[if_neg e]
 have hcn:∀j,(X8 (setL p k (K5 (slA p k) n))).count j=(X8 p).count j:=by
  intro j
  have:=y4h p k (K5 (slA p k) n) j h0 h1
  have e:kidsU (K5 (slA p k) n)=kidsU (slA p k):=rfl
  rw[e]at this;omega
 have hmk:∀j,j∈X8 (setL p k (K5 (slA p k) n))↔j∈X8 p:=fun j=>by rw[<-bj,hcn,bj]
 have hkd:∀j,0<=j->G6 (slA (setL p k (K5 (slA p k) n)) j)=G6 (slA p j)/\zas (slA (setL p k (K5 (slA p k) n)) j)=zas (slA p j):=by
  intro j hj
  by_cases e:j=k
  ·subst e;rw[z6l h0 h1];exact⟨rfl,rfl⟩
  ·rw[z0p h0 hj e];exact⟨rfl,rfl⟩
 refine⟨⟨fun s hs he=> ?_,fun s hs=> ?_,fun i hi=> ?_,fun j hj=> ?_,fun j hj=> ?_,fun i hi=> ?_, ?_⟩,⟨G0 _ _ _,fun i hi=> ?_⟩⟩
 ·rcases mem_setL hs with hs | rfl
  ·exact h.z s hs he
  ·rw[show(K5 (slA p k) n).1=(slA p k).1 from rfl,h2]at he;cases he
 ·rcases mem_setL hs with hs | rfl
  ·exact h.lost s hs
  ·exact h.lost (slA p k) (z62 h0 h1)
 ·rw[hu]at hi
  rw[hcn]
  by_cases e:i=k
  ·subst e;rw[z6l h0 h1];exact hn
  ·rw[z0p h0 (V2.1 hi).1 e,hc i e];exact h.refs i hi
 ·rw[hu]
  by_cases e:j=k
  ·subst e;exact hk
  ·apply h.mem;rw[<-bj,<-hc j e,bj];exact hj
 ·rw[hu];exact h.kid j ((hmk j).1 hj)
 ·rw[hu]at hi;rw[hcn]
  by_cases e:i=k
  ·subst e;exact hp
  ·rw[hc i e];exact h.pos i hi
 ·obtain⟨r,hr⟩:=h.rank
  refine⟨r,fun i hi j hj=> ?_⟩
  rw[hu]at hi
  rw[(hkd i (V2.1 hi).1).1]at hj
  exact hr i hi j hj
 ·rw[hu]at hi
  exact⟨hi,(hkd i (V2.1 hi).1).2⟩
theorem yla{p:List Sl}{L L':List Int}{k:Int}(h:Bal p L)(hk:W2 p k=true)
  (hc:∀i,i≠k->L'.count i=L.count i) (h0c:L'.count k=0) (hak:(X8 p).count k=0):
  Bal (setL p k D0) (L'++G6 (slA p k))/\Shr p (setL p k D0):=by
 obtain⟨h0,h1,h2⟩:=V2.1 hk
 have hu:∀j,W2 (setL p k D0) j=if j=k then false else W2 p j:=fun j=>y3l h0 h1
 have hcn:∀j,(X8 (setL p k D0)).count j+(G6 (slA p k)).count j=(X8 p).count j:=by
  intro j
  have:=y4h p k D0 j h0 h1
  have e:kidsU D0=[]:=rfl
  rw[e,kidsU,if_pos h2]at this
  simpa using this
 have hne:∀j,j∈X8 p->j≠k:=fun j hj e=>by subst e;have:=bj.2 hj;omega
 have hkne:∀j,j∈G6 (slA p k)->j≠k:=fun j hj=>hne j (y2o hk hj)
 have hsub:∀j,j∈X8 (setL p k D0)->j∈X8 p:=fun j hj=>by
  have:=bj.2 hj
  have:=hcn j
  exact bj.1 (by omega)
 have hun:∀i,W2 (setL p k D0) i=true->i≠k/\W2 p i=true:=by
  intro i hi
  rw[hu]at hi
  by_cases e:i=k
  ·rw[if_pos e]at hi;cases hi
  ·rw[if_neg e]at hi;exact⟨e,hi⟩
 refine⟨⟨fun s hs he=> ?_,fun s hs=> ?_,fun i hi=> ?_,fun j hj=> ?_,fun j hj=> ?_,fun i hi=> ?_, ?_⟩,⟨G0 _ _ _,fun i hi=> ?_⟩⟩
 ·rcases mem_setL hs with hs | rfl
  ·exact h.z s hs he
  ·rfl
 ·rcases mem_setL hs with hs | rfl
  ·exact h.lost s hs
  ·rfl
 ·obtain⟨e,hi⟩:=hun i hi
  rw[z0p h0 (V2.1 hi).1 e,h.refs i hi,cK,hc i e]
  have:=hcn i
  congr 1;omega
 ·rw[hu]
  rcases ak.1 hj with hj1 | hj
  ·have e:j≠k:=fun e=>by rw[e]at hj1;have:=bj.2 hj1;omega
   rw[if_neg e]
   apply h.mem;rw[<-bj,<-hc j e,bj];exact hj1
  ·rw[if_neg (hkne j hj)];exact h.kid j (y2o hk hj)
 ·rw[hu,if_neg (hne j (hsub j hj))];exact h.kid j (hsub j hj)
 ·obtain⟨e,hi⟩:=hun i hi
  have:=h.pos i hi
  rw[cK,hc i e]
  have:=hcn i
  omega
 ·obtain⟨r,hr⟩:=h.rank
  refine⟨r,fun i hi j hj=> ?_⟩
  obtain⟨e,hi⟩:=hun i hi
  rw[z0p h0 (V2.1 hi).1 e]at hj
  exact hr i hi j hj
 ·obtain⟨e,hi⟩:=hun i hi
  exact⟨hi,by rw[z0p h0 (V2.1 hi).1 e]⟩
theorem zb5(N:Nat)(p:List Sl)(i:Int):z71 N p i=some (W2 p i):=by
 unfold z71 W2 slA
 by_cases h0:0<=i
 ·by_cases h1:i<(p.length:Int)
  ·simp only[h0,h1,decide_true,cond_true,bv]
   rw[gd_t (V7 h0 h1)]
  ·simp[h0,h1]
 ·simp[h0]
theorem zy6(N:Nat)(p:List Sl)(h:p.length<=100000):z9b N p=some p:=by
 unfold z9b
 rw[gd_t (Y4 (by omega) (by omega))]
 simp
theorem y72:∀(p:List Sl) (n:Nat) (y:Sl) (h:n<p.length),(X8 (p.set n y)).length+(kidsU p[n]).length=(X8 p).length+(kidsU y).length
 | [],_,_,h=>absurd h (ag _)
 | s::p,0,y,_=>by simp only[X8,eQ,co,ae,eh];omega
 | s::p,n+1,y,h=>by
  have ih:=y72 p n y (by simpa using h)
  simp only[X8,dO,co,ae,dl]at ih|-
  omega
theorem zls(p:List Sl)(i:Int)(y:Sl)(h0:0<=i)(h1:i<(p.length:Int)):(X8 (setL p i y)).length+(kidsU (slA p i)).length=(X8 p).length+(kidsU y).length:=by
 have h:i.toNat<p.length:=by omega
 rw[zha h]
 exact y72 p i.toNat y h
theorem yhh(p:List Sl)(i:Int)(x y:Sl):setL (setL p i x) i y=setL p i y:=by simp[setL]
theorem yid{p:List Sl}{rest R:List Int}{k:Int}(h:Bal p (k::(rest++R)))(hb:rest.length+1+R.length+(X8 p).length<1000000000):
  ∃c:Int,aa .i64 (z47 (slA p k)-1)=c/\0<=c/\
   (0<c->Bal (setL p k (K5 (slA p k) c)) (rest++R)/\Shr p (setL p k (K5 (slA p k) c))/\(X8 (setL p k (K5 (slA p k) c))).length=(X8 p).length)/\
   (c=0->Bal (setL p k D0) ((rest++G6 (slA p k))++R)/\Shr p (setL p k D0)/\(X8 (setL p k D0)).length+(G6 (slA p k)).length=(X8 p).length):=by
 have hk:=h.mem k (by simp)
 obtain⟨h0,h1,h2⟩:=V2.1 hk
 have hr:=h.refs k hk
 rw[dD]at hr
 have l1:=bJ (a:=k) (l:=rest++R)
 have l2:=bJ (a:=k) (l:=X8 p)
 rw[ae]at l1
 have hw:aa .i64 (z47 (slA p k)-1)=(((rest++R).count k+(X8 p).count k:Nat):Int):=by
  rw[hr,w64 (by omega) (by omega)];omega
 have hc:∀i,i≠k->(rest++R).count i=(k::(rest++R)).count i:=fun i e=>by
  rw[dF];simp[Ne.symm e]
 refine⟨_,hw,by omega,fun hpos=> ?_,fun hz=> ?_⟩
 ·obtain⟨a,b⟩:=yd3 h hk hc rfl (by omega)
  refine⟨a,b, ?_⟩
  have:=zls p k (K5 (slA p k) (((rest++R).count k+(X8 p).count k:Nat):Int)) h0 h1
  have e:kidsU (K5 (slA p k) (((rest++R).count k+(X8 p).count k:Nat):Int))=kidsU (slA p k):=rfl
  rw[e]at this;omega
 ·obtain⟨a,b⟩:=yla h hk hc (by omega) (by omega)
  refine⟨a.congr fun i=>by simp only[cK];omega,b, ?_⟩
  have:=zls p k D0 h0 h1
  have e:kidsU D0=[]:=rfl
  rw[e,kidsU,if_pos h2]at this
  simpa using this
theorem y7j(k:Int)(rest:List Int):cut2 (k::rest) 1 ((k::rest).length:Int)=rest:=by
 simp only[cut2,dm,af]
 show List.take (rest.length+1-1) (List.drop 1 (k::rest))=rest
 simp
theorem zrr(N:Nat)(R:List Int):∀(n:Nat) (todo:List Int) (p:List Sl),Bal p (todo++R)->todo.length+R.length+(X8 p).length<1000000000->todo.length+(X8 p).length<n->
  ∃q,z7g N n todo p=some (((),()),((),((),(q,()))))/\Bal q R/\Shr p q
 | 0,_,_,_,_,hn=>absurd hn (ag _)
 | n+1,[],p,h,hb,hn=>by
  refine⟨p, ?_,by simpa using h,Shr.refl p⟩
  rw[zgd]
  simp[z3h]
 | n+1,k::rest,p,h,hb,hn=>by
  simp only[af]at hb hn
  have hk:=h.mem k (by simp)
  obtain⟨h0,h1,h2⟩:=V2.1 hk
  obtain⟨c,hc,hc0,hc1,hc2⟩:=yid (rest:=rest) (R:=R) h (by omega)
  have hrd:rdL (k::rest) (0:Int) (0:Int)=k:=rfl
  rw[zgd]
  simp only[z3h,hrd,y7j,zb5,hk]
  rw[X4 (by simp<;>omega),gd_t (V7 (by omega) (by simp<;>omega)),gd_t (by simp<;>omega)]
  simp only[aS,cond_false]
  rw[gd_t (V7 h0 h1),gd_t (V7 h0 h1)]
  have hx7:setL p k ((rdL p k X2).1,(((rdL p k X2).2).1,((aa .i64 ((((rdL p k X2).2).2).1-(1:Int))),((((rdL p k X2).2).2).2))))=setL p k (K5 (slA p k) c):=by
   rw[<-hc];rfl
  rw[hx7]
  have hr7:rdL (setL p k (K5 (slA p k) c)) k X2=K5 (slA p k) c:=z6l h0 h1
  rw[hr7]
  have hc8:(((K5 (slA p k) c).2).2).1=c:=rfl
  have hk8:((((((K5 (slA p k) c).2).2).2).2).2).1=G6 (slA p k):=rfl
  rw[hc8,hk8,yhh,gd_t (V7 h0 (by simpa using h1))]
  by_cases hcz:c=0
  ·obtain⟨a,b,d⟩:=hc2 hcz
   obtain⟨q,q1,q2,q3⟩:=zrr N R n (rest++G6 (slA p k)) _ a (by rw[ae];omega) (by rw[ae];omega)
   refine⟨q, ?_,q2,b.trans q3⟩
   rw[X4 (zpw.2 hcz),gd_t (Y4 (by omega) (by omega)),gd_t (V7 h0 (by simpa using h1)),gd_t (Y4 (by simp;omega) (by omega)),gd_t (V7 h0 (by simpa using h1))]
   exact q1
  ·obtain⟨a,b,d⟩:=hc1 (by omega)
   obtain⟨q,q1,q2,q3⟩:=zrr N R n rest _ a (by rw[d];omega) (by rw[d];omega)
   refine⟨q, ?_,q2,b.trans q3⟩
   rw[Y3 (J3 hcz)]
   exact q1
theorem yak{N:Nat}(hN:2000000000<=N){p:List Sl}{id:Int}{R:List Int}(h:Bal p (id::R))(hl:p.length<=100000)(hb:R.length+(X8 p).length<500000000):
  ∃q,z2m N p id=some (q,0)/\Bal q R/\Shr p q:=by
 have hk:=h.mem id (by simp)
 obtain⟨q,q1,q2,q3⟩:=zrr N R N [id] p h (by simp;omega) (by simp;omega)
 refine⟨q, ?_,q2,q3⟩
 unfold z2m
 rw[zb5,zy6 N p hl,hk]
 simp only[aS,cond_false]
 have q1':z7g N N ([id]:List Int) p=_:=q1
 rw[q1']
def zs7(p:List Sl)(id:Int):List Sl:=setL p id (K5 (slA p id) (aa .i64 (z47 (slA p id)+1)))
theorem yaj{N:Nat}{p:List Sl}{id:Int}(hl:p.length<=100000):z8x N p id=some (if W2 p id=true then(zs7 p id,0)else(p,110)):=by
 unfold z8x
 rw[zb5,zy6 N p hl]
 cases hu:W2 p id with
 | false=>rfl
 | true=>
  obtain⟨h0,h1,h2⟩:=V2.1 hu
  simp only[aS,cond_false]
  rw[gd_t (V7 h0 h1),gd_t (V7 h0 h1)]
  rfl
theorem ykq{p:List Sl}{id:Int}{L:List Int}(h:Bal p L)(hu:W2 p id=true)(hb:L.length+(X8 p).length<1000000000):Bal (zs7 p id) (id::L)/\Shr p (zs7 p id)/\Shr (zs7 p id) p/\(X8 (zs7 p id)).length=(X8 p).length:=by
 obtain⟨h0,h1,h2⟩:=V2.1 hu
 have hr:=h.refs id hu
 have l1:=bJ (a:=id) (l:=L)
 have l2:=bJ (a:=id) (l:=X8 p)
 have hw:aa .i64 (z47 (slA p id)+1)=(((id::L).count id+(X8 p).count id:Nat):Int):=by
  rw[hr,w64 (by omega) (by omega),dD];omega
 have hb':=yd3 (L':=id::L) h hu (fun i e=>by rw[dF];simp[Ne.symm e]) hw (by rw[dD];omega)
 refine⟨hb'.1,hb'.2,⟨(G0 _ _ _).symm,fun i hi=> ?_⟩, ?_⟩
 ·have hu':W2 (zs7 p id) i=W2 p i:=by
   unfold zs7
   rw[y3l h0 h1]
   by_cases e:i=id
   ·subst e;rw[if_pos rfl,hu];exact h2
   ·rw[if_neg e]
  exact⟨by rw[hu'];exact hi,((hb'.2.node i (by show W2 (zs7 p id) i=true;rw[hu'];exact hi)).2).symm⟩
 ·have:=zls p id (K5 (slA p id) (aa .i64 (z47 (slA p id)+1))) h0 h1
  have e:kidsU (K5 (slA p id) (aa .i64 (z47 (slA p id)+1)))=kidsU (slA p id):=rfl
  rw[e]at this
  unfold zs7;omega
theorem ymh{α R:Type}(p:List α)(b:Int)(h:p.length<=100000)(hb:0<=b)(hb2:b<=1000)(k:Option R):gd ((decide (0<=(ap p:Int))&&decide ((ap p:Int)<=(ap p:Int)))&&(decide ((ap p:Int)<maxB)&&decide ((ap p:Int)*b<maxB))) k=k:=by
 have hmx:(maxB:Int)=4398046511104:=rfl
 refine gd_t ?_ k
 simp only[ac,decide_eq_true_eq,hmx]
 refine⟨⟨by omega,by omega⟩,by omega, ?_⟩
 have:(p.length:Int)*b<=100000*1000:=Int.mul_le_mul (by omega) hb2 hb (by omega)
 omega
def rem:List Sl->List Bool->Nat
 | s::p,b::ks=>(if b=true then 0 else(kidsU s).length)+rem p ks
 | _,_=>0
theorem zxk:∀p:List Sl,rem p (List.replicate p.length false)=(X8 p).length
 | []=>rfl
 | s::p=>by
  simp only[af,List.replicate_succ,rem,X8,co,ae]
  have:=zxk p
  unfold X8 at this
  simp[this]
theorem zx4:∀(p:List Sl) (ks:List Bool) (n:Nat) (h:n<p.length) (h':n<ks.length),ks[n]=false->rem p (ks.set n true)+(kidsU p[n]).length=rem p ks
 | [],_,_,h,_,_=>absurd h (ag _)
 | s::p,[],_,_,h,_=>absurd h (ag _)
 | s::p,b::ks,0,_,_,e=>by
  have e:b=false:=e
  subst e
  simp[rem];omega
 | s::p,b::ks,n+1,h,h',e=>by
  have:=zx4 p ks n (by simpa using h) (by simpa using h') e
  simp only[dO,rem,dl];omega
def zk1:Int->List Bool->List Int
 | _,[]=>[]
 | i,b::bs=>if b=true then i::zk1 (i+1) bs else zk1 (i+1) bs
theorem zxs:∀(bs:List Bool) (i j:Int),j∈zk1 i bs↔i<=j/\j<i+bs.length/\rdL bs (j-i) false=true
 | [],i,j=>by simp[zk1];omega
 | b::bs,i,j=>by
  have ih:=zxs bs (i+1) j
  have hlow:j∈zk1 (i+1) bs->i+1<=j:=fun h=>(ih.1 h).1
  have hsucc:i+1<=j->rdL (b::bs) (j-i) false=rdL bs (j-(i+1)) false:=by
   intro h
   have:(j-i).toNat=(j-(i+1)).toNat+1:=by omega
   simp[rdL,this]
  have hz:rdL (b::bs) (i-i) false=b:=by simp[rdL]
  have hmain:j∈zk1 i (b::bs)↔(j=i/\b=true)\/j∈zk1 (i+1) bs:=by
   simp only[zk1]
   split
   ·rename_i h;simp[h]
   ·rename_i h;simp[h]
  rw[hmain]
  constructor
  ·rintro(⟨rfl,hb⟩ | h)
   ·exact⟨fe _,by simp<;>omega,by rw[hz];exact hb⟩
   ·obtain⟨a,c,d⟩:=ih.1 h
    exact⟨by omega,by simp;omega,by rw[hsucc a];exact d⟩
  ·rintro⟨a,c,d⟩
   by_cases e:j=i
   ·subst e;rw[hz]at d;exact .inl ⟨rfl,d⟩
   ·refine .inr (ih.2 ⟨by omega,by simp at c;omega, ?_⟩)
    rw[<-hsucc (by omega)];exact d
theorem zy8:∀(bs:List Bool) (i:Int),(zk1 i bs).Pairwise (·<·)
 | [],_=>bi.nil
 | b::bs,i=>by
  simp only[zk1]
  split
  ·exact aI.2 ⟨fun j hj=>by have:=((zxs bs (i+1) j).1 hj).1;omega,zy8 bs (i+1)⟩
  ·exact zy8 bs (i+1)
def Q2(p:List Sl):Nat:=(p.takeWhile (fun s=>s.1)).length
def ext(p:List Sl):List Sl:=if Q2 p=p.length then p++[D0]else p
def zhq(q:List Sl)(k:Int):List Sl:=setL q k (K5 (slA q k) (aa .i64 (z47 (slA q k)+1)))
def bump(q:List Sl)(ks:List Int):List Sl:=ks.foldl zhq q
def zfr(n:Nd):Sl:=(true,(false,((1:Int),n)))
def addP(p:List Sl)(n:Nd):List Sl:=bump (setL (ext p) (Q2 p:Int) (zfr n)) n.2.2.1
def addF(p:List Sl)(n:Nd):List Sl×(Int×Int):=
 if n.2.2.1.all (W2 p)=true then(if 4096<=(Q2 p:Int)then(p,((0:Int),(111:Int)))else(addP p n,((Q2 p:Int),(0:Int))))else(p,((0:Int),(110:Int)))
theorem y41(p:List Sl):Q2 p<=p.length:=(List.takeWhile_prefix _).length_le
theorem yfi:∀(p:List Sl) (h:(p.takeWhile (fun s=>s.1)).length<p.length),(p[(p.takeWhile (fun s=>s.1)).length]).1=false
 | [],h=>absurd h (ag _)
 | s::p,h=>by
  cases hs:s.1 with
  | false=>simp[hs]
  | true=>
   have h':(p.takeWhile (fun s=>s.1)).length<p.length:=by simpa[hs] using h
   have:=yfi p h'
   simpa[hs] using this
theorem zs3(p:List Sl):W2 p (Q2 p:Int)=false:=by
 cases hu:W2 p (Q2 p:Int)with
 | false=>rfl
 | true=>
  obtain⟨h0,h1,h2⟩:=V2.1 hu
  have hlt:Q2 p<p.length:=by omega
  have:=yfi p hlt
  rw[zha (by simpa using hlt)]at h2
  simp only[dm]at h2
  have h3:(p[Q2 p]).1=false:=this
  rw[h3]at h2;cases h2
theorem y0{p:List Sl}{k:Int}(h:W2 p k=true):0<=k:=(V2.1 h).1
theorem z7q{p:List Sl}{k:Int}(h:W2 p k=true):k<(p.length:Int):=(V2.1 h).2.1
theorem z6r{p:List Sl}{l:List Int}:l.all (W2 p)=true↔∀k∈l,W2 p k=true:=by simp
theorem ya5{p q:List Sl}{k:Int}(h:W2 p k=true)(hq:p.length<=q.length):inB k q.length=true:=V7 (y0 h) (by have:=z7q h;omega)
theorem znz(q:List Sl)(k:Int):(zhq q k).length=q.length:=G0 _ _ _
theorem y8m(N:Nat)(p:List Sl)(id:Int){nd:Nd}:∀(post pre:List Int) (m:Nat) (q:List Sl),nd.2.2.1=pre++post->post.length<m->(pre++post).length<1000000000->post.all (W2 p)=true->p.length<=q.length->
  z4z N m id (pre.length:Int) nd q=some (((),(id,())),((),((),(bump q post,()))))
 | [],_,0,_,_,h,_,_,_=>absurd h (ag _)
 | _::_,_,0,_,_,h,_,_,_=>absurd h (ag _)
 | [],pre,m+1,q,hk,_,_,_,_=>by
  rw[zi6]
  simp only[z4q,hk,ai,aA,decide_false,cond_false]
  rfl
 | k::post,pre,m+1,q,hk,hm,hb,hu,hq=>by
  simp only[ae,af]at hb hm
  simp only[br,ac]at hu
  have hi:=ya5 hu.1 hq
  rw[zi6]
  simp only[z4q,hk,U3,V4,U0,cond_true]
  rw[gd_t rfl,gd_t hi,gd_t hi,W7 (q:=k) (by omega)]
  exact y8m N p id post (pre++[k]) m (zhq q k) (by rw[hk];simp) (by omega) (by simp only[ae,af,aq];omega) hu.2 (by rw[znz];exact hq)
theorem yfy(N:Nat)(p:List Sl){nd:Nd}:∀(post pre:List Int) (m:Nat),nd.2.2.1=pre++post->post.length<m->(pre++post).length<1000000000->
  z9d N m (pre.length:Int) p nd=some (bif post.all (W2 p)then .inr (((),((),())),(p,(nd,((),()))))else .inl ((),((p,((0:Int),(110:Int))),())))
 | [],_,0,_,h,_=>absurd h (ag _)
 | _::_,_,0,_,h,_=>absurd h (ag _)
 | [],pre,m+1,hk,_,_=>by
  rw[zi8]
  simp only[z4s,hk,ai,aA,decide_false,cond_false]
  rfl
 | k::post,pre,m+1,hk,hm,hb=>by
  simp only[ae,af]at hb hm
  have ih:=yfy N p (nd:=nd) post (pre++[k]) m (by rw[hk];simp) (by omega) (by simp only[ae,af,aq];omega)
  rw[zi8]
  simp only[z4s,hk,U3,V4,U0,cond_true,zb5,br]
  rw[gd_t rfl,W7 (q:=k) (by omega)]
  cases hu:W2 p k with
  | false=>rfl
  | true=>
   simp only[aS,cond_false,bv]
   exact ih
theorem yfx(N:Nat){nd:Nd}:∀(post pre:List Sl) (m:Nat),post.length<m->(pre++post).length<1000000000->
  z9c N m (pre.length:Int) (pre++post) nd=some (((),((),((),((pre.length+Q2 post:Nat):Int)))),(pre++post,(nd,((),()))))
 | [],_,0,h,_=>absurd h (ag _)
 | _::_,_,0,h,_=>absurd h (ag _)
 | [],pre,m+1,_,_=>by
  rw[zi7]
  simp only[z4r,ai,aA,decide_false,cond_false]
  rfl
 | s::post,pre,m+1,hm,hb=>by
  simp only[ae,af]at hb hm
  have h:=yfx N (nd:=nd) post (pre++[s]) m (by omega) (by simp only[ae,af,aq];omega)
  rw[zi7]
  simp only[z4r,U3,V4,U0,cond_true]
  rw[gd_t rfl,W7 (q:=s) (by omega)]
  cases hs:s.1 with
  | false=>
   have:Q2 (s::post)=0:=by simp[Q2,hs]
   rw[this]
   rfl
  | true=>
   have:Q2 (s::post)=Q2 post+1:=by simp[Q2,hs]
   rw[this]
   have e:(pre++[s]).length+Q2 post=pre.length+(Q2 post+1):=by simp;omega
   rw[e]at h
   rw[<-V9 (pre:=pre) (q:=s) (post:=post)]at h
   exact h
theorem y23{N:Nat}(hN:2000000000<=N){p:List Sl}{n:Nd}(hl:p.length<=50000)(hk:n.2.2.1.length<1000000000):z65 N p n=some (addF p n):=by
 unfold z65 addF
 have h0:=yfy N p (nd:=n) n.2.2.1 [] N rfl (by omega) (by simpa using hk)
 have h0':z9d N N (0:Int) p n=_:=h0
 simp only[h0']
 cases hu:n.2.2.1.all (W2 p)with
 | false=>rfl
 | true=>
  simp only[cond_true,if_true,aj]
  have hle:=y41 p
  have h1:=yfx N (nd:=n) p [] N (by omega) (by simpa using(by omega:p.length<1000000000))
  have h1':z9c N N (0:Int) p n=some (((),((),((),(Q2 p:Int)))),(p,(n,((),())))):=by
   rw[show((Q2 p:Nat):Int)=(([]:List Sl).length+Q2 p:Nat) by simp]
   exact h1
  rw[h1']
  try simp only
  by_cases hbig:(4096:Int)<=(Q2 p:Int)
  ·rw[X4 (by simpa using hbig),if_pos hbig]
  ·rw[Y3 (by simpa using hbig),if_neg hbig,zy6 N p (by omega)]
   try simp only
   by_cases e:Q2 p=p.length
   ·rw[X4 (zpw.2 (by omega)),gd_t (Y4 (by simp;omega) (by omega)),gd_t (V7 (by omega) (by simp;omega))]
    have hx:setL (p++[D0]) (Q2 p:Int) (zfr n)=setL (ext p) (Q2 p:Int) (zfr n):=by rw[ext,if_pos e]
    have h2:=y8m N p (Q2 p:Int) (nd:=n) n.2.2.1 [] N (setL (p++[D0]) (Q2 p:Int) (zfr n)) rfl (by omega) (by simpa using hk) hu (by simp)
    have h3:z4z N N (Q2 p:Int) (0:Int) n (setL (p++[(false,(false,((0:Int),(([]:List Z3),(([]:List (List UInt8)),(([]:List Int),(([]:List Y6),([]:List Z1))))))))]) (Q2 p:Int) (true,(false,((1:Int),n))))=_:=h2
    rw[h3,hx]
    rfl
   ·have hlt:Q2 p<p.length:=by omega
    rw[Y3 (J3 (by omega)),gd_t (V7 (by omega) (by omega))]
    have hx:setL p (Q2 p:Int) (zfr n)=setL (ext p) (Q2 p:Int) (zfr n):=by rw[ext,if_neg e]
    have h2:=y8m N p (Q2 p:Int) (nd:=n) n.2.2.1 [] N (setL p (Q2 p:Int) (zfr n)) rfl (by omega) (by simpa using hk) hu (by rw[G0];omega)
    have h3:z4z N N (Q2 p:Int) (0:Int) n (setL p (Q2 p:Int) (true,(false,((1:Int),n))))=_:=h2
    rw[h3,hx]
    rfl
theorem zh9{p:List Sl}{i:Int}(h0:0<=i)(h:(p.length:Int)<=i):slA p i=D0:=by
 have:p.length<=i.toNat:=by omega
 simp only[slA,rdL,List.getD_eq_getElem?_getD]
 rw[List.getElem?_eq_none this];rfl
theorem y8i{p:List Sl}{i:Int}(h0:0<=i):slA (ext p) i=slA p i:=by
 unfold ext
 split
 ·have hl:(p++[D0]).length=p.length+1:=by simp
  by_cases h:i<(p.length:Int)
  ·have h1:i.toNat<p.length:=by omega
   have h2:i.toNat<(p++[D0]).length:=by omega
   rw[zha h2,zha h1,List.getElem_append_left h1]
  ·rw[zh9 (p:=p) h0 (by omega)]
   by_cases e:i=(p.length:Int)
   ·have h2:i.toNat<(p++[D0]).length:=by omega
    have h3:i.toNat=p.length:=by omega
    rw[zha h2]
    simp[h3]
   ·rw[zh9 (p:=p++[D0]) h0 (by omega)]
 ·rfl
theorem y92(p:List Sl):(Q2 p:Int)<((ext p).length:Int)/\p.length<=(ext p).length/\(ext p).length<=p.length+1:=by
 have hle:=y41 p
 unfold ext
 split<;>simp<;>omega
theorem zuw(p:List Sl):X8 (ext p)=X8 p:=by
 unfold ext
 split
 ·simp only[X8,List.flatMap_append,co,List.flatMap_nil]
  have:kidsU D0=[]:=rfl
  rw[this];simp
 ·rfl
theorem y64{p q:List Sl}(hl:p.length=q.length)(h:∀i:Int,0<=i->i<(p.length:Int)->kidsU (slA p i)=kidsU (slA q i)):X8 p=X8 q:=by
 have:p.map kidsU=q.map kidsU:=by
  apply eW (by simpa using hl)
  intro n h1 h2
  simp only[bZ]at h1 h2
  have:=h (n:Int) (by omega) (by omega)
  rw[zha (by simpa using h1),zha (by simpa using h2)]at this
  simpa using this
 unfold X8
 rw[eX,eX,this]
theorem yd2:∀(ks:List Int) (q:List Sl),(bump q ks).length=q.length
 | [],_=>rfl
 | k::ks,q=>by
  have:=yd2 ks (zhq q k)
  rw[znz]at this
  exact this
theorem ygw:∀(ks:List Int) (q:List Sl),(∀k∈ks,0<=k/\k<(q.length:Int))->(∀i:Int,0<=i->0<=z47 (slA q i)/\z47 (slA q i)+(ks.length:Int)<1000000000000)->∀i:Int,0<=i->slA (bump q ks) i=K5 (slA q i) (z47 (slA q i)+(ks.count i:Int))
 | [],q,_,_,i,_=>by
  show slA q i=_
  rw[fu]
  have:z47 (slA q i)+((0:Nat):Int)=z47 (slA q i):=by omega
  rw[this];rfl
 | k::ks,q,hk,hr,i,hi=>by
  obtain⟨k0,k1⟩:=hk k (by simp)
  have hrk:=hr k k0
  simp only[af]at hrk
  have hw:aa .i64 (z47 (slA q k)+1)=z47 (slA q k)+1:=w64 (by omega) (by omega)
  have h1:∀j:Int,0<=j->slA (zhq q k) j=if j=k then K5 (slA q k) (z47 (slA q k)+1)else slA q j:=by
   intro j hj
   unfold zhq
   rw[hw]
   by_cases e:j=k
   ·subst e;rw[z6l k0 k1,if_pos rfl]
   ·rw[z0p k0 hj e,if_neg e]
  have hrr:∀j:Int,0<=j->z47 (slA (zhq q k) j)=z47 (slA q j)+(if j=k then 1 else 0):=by
   intro j hj
   rw[h1 j hj]
   by_cases e:j=k
   ·subst e;rw[if_pos rfl,if_pos rfl];rfl
   ·rw[if_neg e,if_neg e];omega
  have ih:=ygw ks (zhq q k) (fun j hj=>by rw[znz];exact hk j (by simp[hj])) (fun j hj=>by
   have:=hr j hj
   simp only[af]at this
   rw[hrr j hj]
   split<;>omega) i hi
  show slA (bump (zhq q k) ks) i=_
  rw[ih,hrr i hi,h1 i hi,dF]
  by_cases e:i=k
  ·subst e
   rw[if_pos rfl,if_pos rfl]
   simp only[beq_self_eq_true,if_true]
   have:z47 (slA q i)+1+(ks.count i:Int)=z47 (slA q i)+((ks.count i+1:Nat):Int):=by omega
   rw[this];rfl
  ·have e':¬k=i:=fun h=>e h.symm
   rw[if_neg e,if_neg e]
   simp[e']
theorem yh2{p:List Sl}{n:Nd}(hu:n.2.2.1.all (W2 p)=true)(hr:∀i:Int,0<=i->0<=z47 (slA p i)/\z47 (slA p i)+(n.2.2.1.length:Int)<500000000000):
  (addP p n).length=(ext p).length/\∀i:Int,0<=i->slA (addP p n) i=if i=(Q2 p:Int)then zfr n else K5 (slA p i) (z47 (slA p i)+(n.2.2.1.count i:Int)):=by
 have hlen:=y92 p
 have hs:∀i:Int,0<=i->slA (setL (ext p) (Q2 p:Int) (zfr n)) i=if i=(Q2 p:Int)then zfr n else slA p i:=by
  intro i hi
  by_cases e:i=(Q2 p:Int)
  ·subst e;rw[z6l (by omega) hlen.1,if_pos rfl]
  ·rw[z0p (by omega) hi e,if_neg e,y8i hi]
 have hrn:z47 (zfr n)=1:=rfl
 have hl0:=hr 0 (by omega)
 have hb:=ygw n.2.2.1 (setL (ext p) (Q2 p:Int) (zfr n)) (fun k hk=>by
  have:=z6r.1 hu k hk
  have:=z7q this
  have:=y0 (z6r.1 hu k hk)
  rw[G0];omega) (fun i hi=>by
  rw[hs i hi]
  have:=hr i hi
  split
  ·rw[hrn];omega
  ·omega)
 refine⟨by unfold addP;rw[yd2,G0],fun i hi=> ?_⟩
 have h:=hb i hi
 unfold addP
 rw[h,hs i hi]
 by_cases e:i=(Q2 p:Int)
 ·rw[if_pos e,if_pos e]
  have hc:n.2.2.1.count i=0:=df.2 fun hm=>by
   have:=z6r.1 hu i hm
   rw[e,zs3]at this;cases this
  rw[hc];rfl
 ·rw[if_neg e,if_neg e]
theorem yor{p:List Sl}{n:Nd}{R:List Int}(h:Bal p R)(hu:n.2.2.1.all (W2 p)=true)(hb:R.length+(X8 p).length+n.2.2.1.length<1000000000):
  Bal (addP p n) (R++[(Q2 p:Int)])/\(X8 (addP p n)).length=(X8 p).length+n.2.2.1.length:=by
 have hrefs:∀i:Int,0<=i->0<=z47 (slA p i)/\z47 (slA p i)+(n.2.2.1.length:Int)<500000000000:=by
  intro i hi
  by_cases hui:W2 p i=true
  ·rw[h.refs i hui]
   have l1:=bJ (a:=i) (l:=R)
   have l2:=bJ (a:=i) (l:=X8 p)
   omega
  ·by_cases hi1:i<(p.length:Int)
   ·rw[zdj h hi hi1 hui]
    have:z47 D0=0:=rfl
    omega
   ·rw[zh9 hi (by omega)]
    have:z47 D0=0:=rfl
    omega
 obtain⟨hl,hat⟩:=yh2 hu hrefs
 have hlen:=y92 p
 have hid:=zs3 p
 have hused:∀i:Int,W2 (addP p n) i=true↔i=(Q2 p:Int)\/W2 p i=true:=by
  intro i
  constructor
  ·intro hi
   obtain⟨h0,h1,h2⟩:=V2.1 hi
   by_cases e:i=(Q2 p:Int)
   ·exact .inl e
   ·rw[hat i h0,if_neg e]at h2
    have h2:(slA p i).1=true:=h2
    refine .inr (V2.2 ⟨h0, ?_,h2⟩)
    by_cases hlt:i<(p.length:Int)
    ·exact hlt
    ·rw[zh9 h0 (by omega)]at h2;cases h2
  ·rintro(rfl | hi)
   ·refine V2.2 ⟨by omega,by rw[hl];exact hlen.1, ?_⟩
    rw[hat _ (by omega),if_pos rfl];rfl
   ·obtain⟨h0,h1,h2⟩:=V2.1 hi
    have e:i≠(Q2 p:Int):=fun e=>by rw[e,hid]at hi;cases hi
    refine V2.2 ⟨h0,by rw[hl];omega, ?_⟩
    rw[hat i h0,if_neg e];exact h2
 have hak:X8 (addP p n)=X8 (setL (ext p) (Q2 p:Int) (zfr n)):=by
  refine y64 (by rw[hl,G0]) fun i h0 h1=> ?_
  rw[hat i h0]
  by_cases e:i=(Q2 p:Int)
  ·subst e;rw[if_pos rfl,z6l (by omega) hlen.1]
  ·rw[if_neg e,z0p (by omega) h0 e,y8i h0];rfl
 have hkD:kidsU (slA (ext p) (Q2 p:Int))=[]:=by
  rw[y8i (by omega)]
  by_cases hlt:(Q2 p:Int)<(p.length:Int)
  ·rw[zdj h (by omega) hlt (by rw[hid];decide)];rfl
  ·rw[zh9 (by omega) (by omega)];rfl
 have hkn:kidsU (zfr n)=n.2.2.1:=rfl
 have hcnt:∀j,(X8 (addP p n)).count j=(X8 p).count j+n.2.2.1.count j:=by
  intro j
  have:=y4h (ext p) (Q2 p:Int) (zfr n) j (by omega) hlen.1
  rw[hkD,hkn,zuw,<-hak]at this
  simpa using this
 have hmem:∀j,j∈X8 (addP p n)->W2 p j=true:=by
  intro j hj
  have h1:=bj.2 hj
  rw[hcnt]at h1
  by_cases hc:0<(X8 p).count j
  ·exact h.kid j (bj.1 hc)
  ·exact z6r.1 hu j (bj.1 (by omega))
 have hc0:R.count (Q2 p:Int)=0/\(X8 (addP p n)).count (Q2 p:Int)=0:=by
  refine⟨df.2 fun hm=> ?_,df.2 fun hm=> ?_⟩
  ·have:=h.mem _ hm;rw[hid]at this;cases this
  ·have:=hmem _ hm;rw[hid]at this;cases this
 have hR:∀i:Int,(R++[(Q2 p:Int)]).count i=R.count i+(if i=(Q2 p:Int)then 1 else 0):=by
  intro i
  rw[cK,dF,fu]
  by_cases e:i=(Q2 p:Int)
  ·subst e;simp
  ·have e':¬(Q2 p:Int)=i:=fun h=>e h.symm
   simp[e,e']
 refine⟨⟨fun s hs he=> ?_,fun s hs=> ?_,fun i hi=> ?_,fun k hk=> ?_,fun k hk=>(hused k).2 (.inr (hmem k hk)),fun i hi=> ?_, ?_⟩, ?_⟩
 ·obtain⟨i,h0,h1,h2⟩:=y5w D0 hs
  have h2:slA (addP p n) i=s:=h2
  rw[hat i h0]at h2
  by_cases e:i=(Q2 p:Int)
  ·rw[if_pos e]at h2;subst h2;cases he
  ·rw[if_neg e]at h2
   subst h2
   have he:(slA p i).1=false:=he
   have hnu:¬W2 p i=true:=fun hh=>by have:=(V2.1 hh).2.2;rw[he]at this;cases this
   have hc:n.2.2.1.count i=0:=df.2 fun hm=>hnu (z6r.1 hu i hm)
   have hz:slA p i=D0:=by
    by_cases hlt:i<(p.length:Int)
    ·exact zdj h h0 hlt hnu
    ·exact zh9 h0 (by omega)
   rw[hz,hc];rfl
 ·obtain⟨i,h0,h1,h2⟩:=y5w D0 hs
  have h2:slA (addP p n) i=s:=h2
  rw[hat i h0]at h2
  by_cases e:i=(Q2 p:Int)
  ·rw[if_pos e]at h2;subst h2;rfl
  ·rw[if_neg e]at h2
   subst h2
   show(slA p i).2.1=false
   by_cases hlt:i<(p.length:Int)
   ·exact h.lost _ (z62 h0 hlt)
   ·rw[zh9 h0 (by omega)]
 ·rw[hR,hcnt]
  rcases(hused i).1 hi with rfl | hip
  ·have:=hcnt (Q2 p:Int)
   rw[hat _ (by omega),if_pos rfl,if_pos rfl,hc0.1]
   have:z47 (zfr n)=1:=rfl
   omega
  ·have e:i≠(Q2 p:Int):=fun e=>by rw[e,hid]at hip;cases hip
   rw[hat i (y0 hip),if_neg e,if_neg e]
   have:∀x,z47 (K5 (slA p i) x)=x:=fun _=>rfl
   rw[this,h.refs i hip]
   omega
 ·rcases ak.1 hk with hk | hk
  ·exact(hused k).2 (.inr (h.mem k hk))
  ·exact(hused k).2 (.inl (by simpa using hk))
 ·rw[hR,hcnt]
  rcases(hused i).1 hi with rfl | hip
  ·rw[if_pos rfl];omega
  ·have:=h.pos i hip;omega
 ·obtain⟨r,hr⟩:=h.rank
  obtain⟨B,hB⟩:=y27 p r
  refine⟨fun j=>if j=(Q2 p:Int)then B else r j,fun i hi k hk=> ?_⟩
  have kne:∀k,W2 p k=true->k≠(Q2 p:Int):=fun k hk e=>by rw[e,hid]at hk;cases hk
  rcases(hused i).1 hi with rfl | hip
  ·rw[hat _ (by omega),if_pos rfl]at hk
   have hk:k∈n.2.2.1:=hk
   have hku:=z6r.1 hu k hk
   simp only[if_neg (kne k hku),if_true]
   exact hB k hku
  ·have e:=kne i hip
   rw[hat i (y0 hip),if_neg e]at hk
   have hk:k∈G6 (slA p i):=hk
   have hku:=h.kid k (y2o hip hk)
   simp only[if_neg (kne k hku),if_neg e]
   exact hr i hip k hk
 ·have:=zls (ext p) (Q2 p:Int) (zfr n) (by omega) hlen.1
  rw[hkD,hkn,zuw,<-hak]at this
  simpa using this
end Ds
namespace Ds
open Go Go.Dv
set_option maxRecDepth 100000
variable [Fuel]
theorem Thr.comp{e h c c':Nat}{l r t:List Sp}(a:Thr e h l r c)(b:Thr (e+c) (h-c) r t c'):Thr e h l t (c+c'):=
 ⟨b.sep,by rw[<-bW];exact b.g,by rw[<-Nat.sub_sub];exact aX b.wt a.wt⟩
theorem ymb(m:Mg):mvs m<=1:=by unfold mvs;split<;>omega
theorem ybc(buf:List Mg){g:Nat}(hg1:1<=g)(hm:∀m∈buf,GM g m)(hbl:buf.length<100000000):∀(j:Nat) (l:List Sp) (n e h:Nat),j<=buf.length->j<n->g<=e->e+mvN (buf.take j)<40000->mvN (buf.take j)<h->Sep l->(∀s∈l,SpG e s)->
  ∃r,z88 NN n buf l ((j:Int)-1)=some (r,())/\Thr e h l r (mvN (buf.take j))
 | _,_,0,_,_,_,h,_,_,_,_,_=>absurd h (ag _)
 | 0,l,n+1,e,h,_,_,_,_,_,hs,hg=>by
  refine⟨l, ?_,hs,hg,al _⟩
  rw[zet]
  simp only[z27]
  rw[Y3 (by simp)]
 | j+1,l,n+1,e,h,hj,hn,hge,he,hh,hs,hg=>by
  have ht:buf.take (j+1)=buf.take j++[buf[j]]:=by rw[List.take_succ_eq_append_getElem]
  have hmv:mvN (buf.take (j+1))=mvN (buf.take j)+mvs buf[j]:=by rw[ht,z79];simp[mvN]
  obtain⟨r,r1,r2⟩:=ydl (e:=e) (h:=h) (by omega) hg1 hge (hm buf[j] (List.getElem_mem _)) hs hg (by omega)
  obtain⟨t,t1,t2⟩:=ybc buf hg1 hm hbl j r n (e+mvs buf[j]) (h-mvs buf[j]) (by omega) (by omega) (by omega) (by omega) (by omega) r2.sep r2.g
  refine⟨t, ?_,by rw[hmv,Nat.add_comm];exact r2.comp t2⟩
  rw[zet]
  simp only[z27]
  have e1:((j+1:Nat):Int)-1=(j:Int):=by omega
  have e2:rdL buf (j:Int) U7=buf[j]:=by
   rw[ym0 (x:=buf[j]) (by omega) (by simp[aK (show j<buf.length by omega)])]
  rw[e1,X4 (by simp),gd_t (V7 (by omega) (by omega)),e2,r1]
  simp only[ab]
  rw[w64 (by omega) (by omega)]
  exact t1
theorem yiu{buf:List Mg}{g:Nat}(hg1:1<=g)(hm:∀m∈buf,GM g m)(hbl:buf.length<100000000){e h:Nat}(hge:g<=e)(he:e+mvN buf<40000)(hh:mvN buf<h){s:Sp}(hs:SpG e s):
  ∃r,zij NN s buf=some r/\Sep r/\(∀x∈r,SpG (e+mvN buf) x)/\wt (h-mvN buf) (inS r)<=wt h (hasB s):=by
 obtain⟨r,r1,r2,r3,r4,r5⟩:=zdt NN (l:=[s]) (by have:=W9;simp;omega) (by simp)
 have hr:∀x∈r,SpG e x:=fun x hx=>by
  obtain⟨⟨a,ha,ea⟩,b,hb,eb⟩:=r5 x hx
  have ha:=(aB.1 ha).1
  have hb:=(aB.1 hb).1
  simp at ha hb
  subst ha hb
  exact⟨r4.full x hx,by rw[ea];exact hs.2.1,by rw[eb];exact hs.2.2⟩
 have htk:buf.take buf.length=buf:=List.take_length
 obtain⟨t,t1,t2⟩:=ybc buf hg1 hm hbl buf.length r NN e h (al _) (by have:=W9;omega) hge (by rw[htk];exact he) (by rw[htk];exact hh) r4 hr
 rw[htk]at t2
 refine⟨t, ?_,t2.sep,t2.g,aX t2.wt (zjv fun a ha=>by rw[r2]at ha;simpa[inS] using ha)⟩
 simp only[zij,r1,ab]
 rw[w64 (by omega) (by omega),t1]
 rfl
theorem yob(N:Nat)(s:Sp)(k:B):zoy N s k=some (hasB s k):=by simp only[zoy,hasB];cases lts k s.1<;>cases eqs s.2 []<;>rfl
theorem y69{t:List Pr}{i:Int}{x:Pr}(hi:inB i t.length=true)(hx:rdL t i X5=x)(out:List Pr):∀(post pre:List Sp) (b:Bool) (n:Nat),post.length<n->(pre++post).length<100000000->
  z6z NN n t (pre++post) i b (pre.length:Int) out=some ((t,(pre++post,((),(i,b || inS post x.1)))),(out,()))
 | _,_,_,0,h,_=>absurd h (ag _)
 | [],pre,b,n+1,_,_=>by
  rw[zd5]
  simp only[z0w,ai,aA,decide_false,cond_false]
  simp[inS]
 | s::post,pre,b,n+1,hn,hl=>by
  simp only[af]at hn
  have hb:pre.length<9223372036854775807:=by simp at hl;omega
  have ih:=fun b=>y69 hi hx out post (pre++[s]) b n (by omega) (by simpa using hl)
  rw[zd5]
  simp only[z0w,U3,V4,cond_true,U0,hx,yob,ab]
  cases b
  ·rw[cond_false,gd_t rfl,gd_t hi,W7 (q:=s) hb,V9 (pre:=pre) (q:=s) (post:=post),ih]
   simp[inS]
  ·rw[cond_true,W7 (q:=s) hb,V9 (pre:=pre) (q:=s) (post:=post),ih]
   simp
theorem y68{t:List Pr}{l:List Sp}(ht:t.length<100000000)(hl:l.length<100000000):zc1 NN t l=some (t.filter fun p=>inS l p.1):=by
 have h:=y9d (xs:=t) (L:=fun n i s=>z70 NN n t l i s) (fun o x=>bif inS l x.1 then o++[x]else o) (fun s=>((),(s,()))) (fun s post=>s.length+post.length<100000000)
  (fun n s _=>by
   rw[zd6]
   simp only[z0x,aA,decide_false,cond_false])
  (fun n pre x post s hx hi=>by
   simp only[af]at hi
   have hb:pre.length<9223372036854775807:=by rw[hx]at ht;simp at ht;omega
   have h1:=y69 (t:=pre++x::post) (i:=(pre.length:Int)) (x:=x) V4 U0 s l [] false NN (by have:=W9;omega) (by simpa using hl)
   have hz:(([]:List Sp).length:Int)=0:=rfl
   simp only[aj,hz,cG]at h1
   rw[zd6]
   rw[hx]
   simp only[z0x,U3,cond_true,h1,ab,V4,U0]
   rw[W7 (q:=x) hb]
   cases inS l x.1
   ·exact⟨rfl,by simp only[cond_false];omega⟩
   ·rw[cond_true,gd_t rfl,gd_t (Y4 (by simp;omega) (by omega))]
    exact⟨rfl,by simp;omega⟩) (n:=NN) (s:=[]) (by have:=W9;omega) (by simpa using ht)
 simp only[zc1,h,ab,y4a,aj]
mutual
inductive Tr where
 | leaf (ps:List Pr)
 | node (ks:Trs) (piv:List B) (buf:List Mg)
inductive Trs where
 | nil
 | cons (t:Tr) (ts:Trs)
end
def Trs.len:Trs->Nat
 | .nil=>0
 | .cons _ ts=>ts.len+1
mutual
def Tr.mv:Tr->Nat
 | .leaf _=>0
 | .node ks _ buf=>ks.mv+mvN buf
def Trs.mv:Trs->Nat
 | .nil=>0
 | .cons t ts=>t.mv+ts.mv
end
mutual
def Tr.ht:Tr->Nat
 | .leaf _=>0
 | .node ks _ _=>ks.ht+1
def Trs.ht:Trs->Nat
 | .nil=>0
 | .cons t ts=>max t.ht ts.ht
end
mutual
def Unf(p:List Sl):Int->Tr->Prop
 | i, .leaf ps=>W2 p i=true/\(slA p i).2.1=false/\zas (slA p i)=(ps,([],([],([],[]))))
 | i, .node ks piv buf=>W2 p i=true/\(slA p i).2.1=false/\∃kids sums,zas (slA p i)=([],(piv,(kids,(sums,buf))))/\sums.length=kids.length/\kids≠[]/\UnfL p kids ks
def UnfL(p:List Sl):List Int->Trs->Prop
 | [], .nil=>True
 | k::kids, .cons t ts=>Unf p k t/\UnfL p kids ts
 | _,_=>False
end
theorem UnfL.len{p:List Sl}:∀{ks:Trs} {kids:List Int},UnfL p kids ks->kids.length=ks.len
 | .nil,[],_=>rfl
 | .nil,_::_,h=>by simp[UnfL]at h
 | .cons _ _,[],h=>by simp[UnfL]at h
 | .cons t ts,k::kids,h=>by
  simp only[UnfL]at h
  simp only[af,Trs.len,UnfL.len h.2]
def LiesIn(s:Sp)(m:Mg):Prop:=∀x∈wr m++rds m,∀k,hasB x k=true->hasB s k=true
mutual
def VT(g:Nat):B->B->Tr->Prop
 | lo,hi, .leaf ps=>Tb g ps/\∀p∈ps,hasB (lo,hi) p.1=true
 | lo,hi, .node ks piv buf=>VTs g lo hi ks piv/\∀m∈buf,GM g m/\LiesIn (lo,hi) m
def VTs(g:Nat):B->B->Trs->List B->Prop
 | lo,hi, .cons t .nil,[]=>VT g lo hi t
 | lo,hi, .cons t (.cons u ts),q::piv=>q∈KU g/\lts lo q=true/\belowB q hi=true/\VT g lo q t/\VTs g q hi (.cons u ts) piv
 | _,_,_,_=>False
end
def z4g(s:Sp)(lo:B):List B->List Sp
 | []=>[G7 s (lo,[])]
 | p::r=>G7 s (lo,p)::z4g s p r
theorem zp2(s:Sp):∀(l:List B) (lo:B),(z4g s lo l).length=l.length+1
 | [],_=>rfl
 | p::r,_=>by simp[z4g,zp2 s r p]
theorem y6k(s:Sp):∀(post pre:List B) (lo:B) (n:Nat) (out:List Sp),post.length<n->(pre++post).length<100000000->out.length<=pre.length->
  ∃q last,z8f NN n (pre++post) lo (pre.length:Int) s out=some (((),((),last)),(s,(q,())))/\q++[G7 s (last,[])]=out++z4g s lo post/\q.length<=(pre++post).length
 | _,_,_,0,_,h,_,_=>absurd h (ag _)
 | [],pre,lo,n+1,out,_,_,ho=>⟨out,lo,by rw[zez,z2e,yqt];rfl,rfl,by simpa using ho⟩
 | p::post,pre,lo,n+1,out,hn,hb,ho=>by
  have hb':pre.length+(post.length+1)<100000000:=by simpa using hb
  obtain⟨q,last,h1,h2,h3⟩:=y6k s post (pre++[p]) p n (out++[G7 s (lo,p)]) (by simpa using hn) (by rw[<-V9];exact hb) (by simp;omega)
  rw[<-V9]at h1 h3
  refine⟨q,last, ?_,by rw[h2];simp[z4g],h3⟩
  rw[zez,z2e,U3,cond_true,gd_t V4,U0,zkh]
  simp only
  rw[gd_t (Y4 (by omega) (by omega)),gd_t V4,W7 (q:=p) (by omega)]
  exact h1
theorem zxo(s:Sp){l:List B}(h:l.length<100000000):ze0 NN s l=some (z4g s [] l):=by
 obtain⟨q,last,h1,h2,h3⟩:=y6k s l [] [] NN [] (by have:=W9;omega) (by simpa using h) (al _)
 simp only[aj,aq]at h1 h2 h3
 rw[show((0:Nat):Int)=0 from rfl]at h1
 unfold ze0
 rw[h1]
 simp only
 rw[zkh]
 simp only
 rw[gd_t (Y4 (by omega) (by omega))]
 show some (q++[G7 s (last,[])])=_
 rw[h2]
theorem ykm{s:Sp}{g:Nat}{m:Mg}(hm:GM g m)(h:LiesIn s m){t:List Pr}(ht:∀p∈t,hasB s p.1=true):∀p∈app m t,hasB s p.1=true:=by
 have hw:∀x∈wr m,∀k,hasB x k=true->hasB s k=true:=fun x hx=>h x (bp _ hx)
 have mvd_in:∀{e:B×B},e∈ends->preB e.2∈wr m->∀p∈mvd e.1 e.2 t,hasB s p.1=true:=fun {e} he hp p hp'=>by
  unfold mvd at hp'
  obtain⟨x,hx,rfl⟩:=aH.1 hp'
  exact hw _ hp _ (by rw[z6b (U9 he).2];exact zm8 _ _)
 have uni_in:∀{a b:List Pr},(∀p∈a,hasB s p.1=true)->(∀p∈b,hasB s p.1=true)->∀p∈uniT a b,hasB s p.1=true:=by
  intro a b ha hb
  unfold uniT
  induction b generalizing a with
  | nil=>exact ha
  | cons q b ih=>
   rw[aU]
   refine ih (fun p hp=> ?_) fun p hp=>hb p (by simp[hp])
   rcases insT_mem hp with rfl | hp
   ·exact hb _ (by simp)
   ·exact ha _ hp
 have fl:∀f:Pr->Bool,∀p∈t.filter f,hasB s p.1=true:=fun f p hp=>ht p (aB.1 hp).1
 cases hm with
 | put k v n hk hv=>
  intro p hp
  rcases insT_mem (p:=(k,v,n)) hp with rfl | hp
  ·exact hw (k,k++[0]) (by simp[wr,eqi]) k (zpv (y3x k))
  ·exact ht p hp
 | del k hk=>exact fl _
 | drop x hx=>exact fl _
 | move e he=>exact fun p hp=>uni_in (fl _) (mvd_in he (by simp[wr,eqi])) p (aB.1 hp).1
 | clone e he=>exact uni_in (fl _) (mvd_in he (by simp[wr,eqi]))
 | stamp x n hx=>
  intro p hp
  obtain⟨y,hy,rfl⟩:=aH.1 (show p∈t.map (stp x n)from hp)
  have:=ht y hy
  unfold stp
  cases hasB x y.1<;>exact this
theorem zxu{s:Sp}{g:Nat}:∀{ms:List Mg} {t:List Pr},(∀m∈ms,GM g m/\LiesIn s m)->(∀p∈t,hasB s p.1=true)->∀p∈apps ms t,hasB s p.1=true
 | [],_,_,ht=>ht
 | m::ms,t,h,ht=>zxu (ms:=ms) (fun x hx=>h x (by simp[hx])) (ykm (h m (by simp)).1 (h m (by simp)).2 ht)
theorem yg9{buf:List Mg}{g:Nat}(hg1:1<=g)(hm:∀m∈buf,GM g m)(hbl:buf.length<100000000){e h:Nat}(hge:g<=e)(he:e+mvN buf<40000)(hh:mvN buf<h)(heh:e+mvN buf<=h-mvN buf)
  (self:List Sl->Int->Sp->List Sp->Option (List Pr×Int)) (p:List Sl) (s0:Sp) {nd:Nd} (hnd:nd.2.2.2.2=buf):∀(post pre out:List Sp) (n:Nat),post.length<n->(pre++post).length<100000000->out.length+wts h post<100000000->(∀s∈post,SpG e s)->
  ∃r,za8 NN self n (pre++post) (pre.length:Int) p s0 nd out=some ((pre++post,((),((),((),())))),(p,(s0,(nd,(out++r,())))))/\(∀x∈r,SpG (e+mvN buf) x)/\wts (h-mvN buf) r<=wts h post
 | _,_,_,0,h,_,_,_=>absurd h (ag _)
 | [],pre,out,n+1,_,_,_,_=>by
  refine⟨[], ?_,(fun x h=>by cases h),by simp[wts]⟩
  rw[zgb]
  simp only[z3f,ai,aA,decide_false,cond_false]
 | s::post,pre,out,n+1,hn,hl,ho,hs=>by
  simp only[af]at hn
  have hb:pre.length<9223372036854775807:=by simp at hl;omega
  have ew:wts h (s::post)=wt h (hasB s)+wts h post:=by simp[wts]
  obtain⟨r,r1,r2,r3,r4⟩:=yiu hg1 hm hbl hge he hh (hs s (by simp))
  have hsp:=y8e (g:=h-mvN buf) r2
  have hrl:r.length<=wts (h-mvN buf) r:=zvs fun x hx=>⟨(r3 x hx).1,UU.mono heh (r3 x hx).2.1⟩
  obtain⟨t,t1,t2,t3⟩:=yg9 hg1 hm hbl hge he hh heh self p s0 hnd post (pre++[s]) (out++r) n (by omega) (by simpa using hl) (by rw[ae];omega) fun x hx=>hs x (by simp[hx])
  refine⟨r++t, ?_,fun x hx=> ?_,by rw[ydi,ew];omega⟩
  ·rw[zgb]
   simp only[z3f,U3,V4,cond_true,U0,hnd,r1,ab]
   rw[gd_t rfl,gd_t (Y4 (by omega) (by omega)),W7 (q:=s) hb,V9 (pre:=pre) (q:=s) (post:=post),t1]
   simp
  ·rcases ak.1 hx with hx | hx
   ·exact r3 x hx
   ·exact t2 x hx
theorem y1y{a b:List Pr}(ha:Srt a)(hb:Srt b)(h:∀x∈a,∀y∈b,lts x.1 y.1=true):Srt (a++b):=bH.2 ⟨ha,hb,h⟩
theorem yf8{p:List Sl}{i:Int}(hu:W2 p i=true)(hl:(slA p i).2.1=false):z9r NN p i=some (zas (slA p i),0):=by
 obtain⟨h0,h1,_⟩:=V2.1 hu
 unfold z9r
 rw[zb5,hu]
 simp only[aS,cond_false]
 have hl':((rdL p i X2).2).1=false:=hl
 rw[gd_t (V7 h0 h1),Y3 hl',gd_t (V7 h0 h1)]
 rfl
def yr2(p:List Sl)(n:Nat)(T:Tr):Prop:=∀(id:Int) (s:Sp) (l:List Sp) (e h g:Nat) (lo hi:B),Unf p id T->VT g lo hi T->1<=g->g<=e->e+T.mv<40000->e+2*T.mv<=h->(∀x∈l,SpG e x)->wts h l<10000000->
  ∃out,z08 NN n p id s l=some (out,0)/\Tb (g+T.mv) out/\∀x∈out,hasB (lo,hi) x.1=true/\inS l x.1=true
mutual
def FitT:Tr->Prop
 | .leaf _=>True
 | .node ks _ buf=>buf.length<100000000/\FitTs ks
def FitTs:Trs->Prop
 | .nil=>True
 | .cons t ts=>FitT t/\FitTs ts
end
def Trs.has(t:Tr):Trs->Prop
 | .nil=>False
 | .cons u us=>t=u\/us.has t
theorem Trs.has_ht{t:Tr}:∀{ks:Trs},ks.has t->t.ht<=ks.ht/\t.mv<=ks.mv/\sizeOf t<sizeOf ks
 | .nil,h=>h.elim
 | .cons u us,h=>by
  rcases h with rfl | h
  ·simp only[Trs.ht,Trs.mv,Trs.cons.sizeOf_spec];omega
  ·have:=Trs.has_ht (ks:=us) h
   simp only[Trs.ht,Trs.mv,Trs.cons.sizeOf_spec];omega
theorem FitTs.has{t:Tr}:∀{ks:Trs},FitTs ks->ks.has t->FitT t
 | .nil,_,h=>h.elim
 | .cons u us,hf,h=>by
  simp only[FitTs]at hf
  rcases h with rfl | h
  ·exact hf.1
  ·exact FitTs.has hf.2 h
theorem VTs.piv{g:Nat}{hi:B}:∀{ks:Trs} {piv:List B} {lo:B},VTs g lo hi ks piv->piv.Pairwise (fun a b=>lts a b=true)/\(∀q∈piv,q∈KU g/\lts lo q=true)/\ks.len=piv.length+1
 | .nil,_,_,h=>by simp[VTs]at h
 | .cons t .nil,[],_,h=>⟨bi.nil,(fun q h=>by cases h),rfl⟩
 | .cons t .nil,_::_,_,h=>by simp[VTs]at h
 | .cons t (.cons u us),[],_,h=>by simp[VTs]at h
 | .cons t (.cons u us),q::piv,lo,h=>by
  simp only[VTs]at h
  obtain⟨i1,i2,i3⟩:=VTs.piv h.2.2.2.2
  refine⟨aI.2 ⟨fun x hx=>(i2 x hx).2,i1⟩,fun x hx=> ?_, ?_⟩
  ·rcases am.1 hx with rfl | hx
   ·exact⟨h.1,h.2.1⟩
   ·exact⟨(i2 x hx).1,K9 h.2.1 (i2 x hx).2⟩
  ·simp only[Trs.len,af]at i3|-;omega
theorem VTs.plen{g:Nat}{lo hi:B}{ks:Trs}{piv:List B}(h:VTs g lo hi ks piv):piv.length<=20*(g+1):=by
 obtain⟨h1,h2,_⟩:=VTs.piv h
 have:=zf4 (L:=KU g) (h1.imp fun h=>zf9 h) fun q hq=>(h2 q hq).1
 rwa [KU.length]at this
theorem zds{x q hi:B}(h:lts x q=true)(hb:belowB q hi=true):belowB x hi=true:=by
 simp only[belowB,ay]at hb|-
 exact hb.imp id fun h'=>K9 h h'
theorem y6f{p:List Sl}{n:Nat}{l need:List Sp}{e h g G:Nat}(hg1:1<=g)(hge:g<=e)(hG:G<40000){hi:B}{nd:Nd}{sp:List Sp}(hneed:∀x∈need,SpG e x)(hw:wts h need<10000000)(heh:e<=h)(hks:nd.2.2.1.length<10000001)(hsp:sp.length=nd.2.2.1.length):
  ∀(ks:Trs) (post pre:List Int) (piv:List B) (lo:B) (m:Nat) (all:List Pr),nd.2.2.1=pre++post->post.length<m->UnfL p post ks->VTs g lo hi ks piv->e+ks.mv<40000->e+2*ks.mv<=h->g+ks.mv<=G->
   (∀(k:Int) (t:Tr) (s:Sp) (a b:B),ks.has t->Unf p k t->VT g a b t->∃out,z08 NN n p k s need=some (out,0)/\Tb (g+t.mv) out/\∀x∈out,hasB (a,b) x.1=true/\inS need x.1=true)->
   Tb G all->(∀x∈all,lts x.1 lo=true)->
   ∃r,z7f NN (z08 NN n) m l need sp (pre.length:Int) p nd all=some (.inr ((l,((),())),(nd,(all++r,()))))/\Tb G (all++r)/\∀x∈r,hasB (lo,hi) x.1=true
 | _,_,_,_,_,0,_,_,h,_,_,_,_,_,_,_,_=>absurd h (ag _)
 | .nil,post,pre,piv,lo,m+1,all,hk,hm,hu,hv,_,_,_,_,_,_=>by simp[VTs]at hv
 | .cons t ts,[],pre,piv,lo,m+1,all,hk,hm,hu,hv,_,_,_,_,_,_=>by simp[UnfL]at hu
 | .cons t ts,k::post,pre,piv,lo,m+1,all,hk,hm,hu,hv,he,heh2,hgG,ih,hall,hlo=>by
  simp only[af]at hm
  have hlen:nd.2.2.1.length=pre.length+(post.length+1):=by rw[hk];simp
  have hb:pre.length<9223372036854775807:=by omega
  simp only[UnfL]at hu
  simp only[Trs.mv]at he heh2 hgG ih
  have hnl:need.length<10000000:=bN (zvs fun x hx=>⟨(hneed x hx).1,UU.mono heh (hneed x hx).2.1⟩) hw
  obtain⟨q,hvt,hqhi,hqq⟩:∃q,VT g lo q t/\(∀x,hasB (lo,q) x=true->hasB (lo,hi) x=true)/\∀q' r,piv=q'::r->q=q':=by
   cases ts with
   | nil=>
    cases piv with
    | nil=>simp only[VTs]at hv;exact⟨hi,hv,fun _ h=>h,fun q' r h=>by cases h⟩
    | cons _ _=>simp[VTs]at hv
   | cons u us=>
    cases piv with
    | nil=>simp[VTs]at hv
    | cons q piv=>
     simp only[VTs]at hv
     refine⟨q,hv.2.2.2.1,fun x hx=> ?_,fun q' r h=>by cases h;rfl⟩
     rw[U1]at hx|-
     simp only[belowB,ac,ay]at hx|-
     refine⟨hx.1, ?_⟩
     rcases hx.2 with h' | h'
     ·exact absurd (K7.1 h') (KU.ne hv.1)
     ·have:=zds h' hv.2.2.1
      simpa[belowB] using this
  have hcut:cut2 sp (pre.length:Int) ((pre++[k]).length:Int)=(sp.drop pre.length).take 1:=by
   simp[cut2]
  have hcl:((sp.drop pre.length).take 1).length<=1:=by simp;omega
  have ht:=zon (l:=need) (m:=(sp.drop pre.length).take 1) (by omega) (by omega)
  have next:∀all',Tb G all'->(∀x∈all',(lts x.1 lo=true\/hasB (lo,q) x.1=true))->∃r,z7f NN (z08 NN n) m l need sp ((pre++[k]).length:Int) p nd all'=some (.inr ((l,((),())),(nd,(all'++r,()))))/\Tb G (all'++r)/\∀x∈r,hasB (lo,hi) x.1=true:=by
   intro all' h1 h2
   cases ts with
   | nil=>
    cases piv with
    | cons _ _=>simp[VTs]at hv
    | nil=>
     have hpost:post=[]:=by
      cases post with
      | nil=>rfl
      | cons a b=>have:=hu.2;simp[UnfL]at this
     subst hpost
     refine⟨[], ?_,by simpa using h1,fun x hx=>by cases hx⟩
     cases m with
     | zero=>simp at hm
     | succ m=>
      rw[zga]
      simp only[z3e,ai]
      rw[Y3 (by rw[hk];simp)]
   | cons u us=>
    cases piv with
    | nil=>simp[VTs]at hv
    | cons q' piv=>
     simp only[VTs]at hv
     obtain⟨v1,v2,v3,v4,v5⟩:=hv
     have hle:∀x∈all',lts x.1 q'=true:=by
      intro x hx
      have eq:=hqq q' piv rfl
      subst eq
      rcases h2 x hx with h | h
      ·exact K9 h v2
      ·rw[U1]at h
       simp only[belowB,ac,ay]at h
       rcases h.2 with h | h
       ·exact absurd (K7.1 h) (KU.ne v1)
       ·exact h
     obtain⟨r,r1,r2,r3⟩:=y6f hg1 hge hG hneed hw heh hks hsp (.cons u us) post (pre++[k]) piv q' m all' (by rw[hk];simp) (by omega) hu.2 v5 (by omega) (by omega) (by omega)
      (fun k' t' s a b ht=>ih k' t' s a b (.inr ht)) h1 hle
     refine⟨r,r1,r2,fun x hx=> ?_⟩
     have:=r3 x hx
     rw[U1]at this|-
     simp only[ac,aw]at this|-
     exact⟨zve (z0j v2) this.1,this.2⟩
  rw[zga]
  have hlt:decide ((pre.length:Int)<(nd.2.2.1.length:Int))=true:=by rw[hk];exact U3
  have hin:inB (pre.length:Int) nd.2.2.1.length=true:=by rw[hk];exact V4
  have hrd:rdL nd.2.2.1 (pre.length:Int) (0:Int)=k:=by rw[hk];exact U0
  simp only[z3e,hlt,cond_true,hin,hrd,W7 (q:=k) hb,hcut,ht,ab]
  rw[gd_t (by rw[hsp,hlen];simp;omega)]
  cases touchB need ((sp.drop pre.length).take 1)
  ·rw[X4 (by rfl)]
   exact next all hall fun x hx=> .inl (hlo x hx)
  ·obtain⟨out,o1,o2,o3⟩:=ih k t (rdL sp (pre.length:Int) Y7) lo q (.inl rfl) hu.1 hvt
   have hsa:Tb G (all++out):=⟨y1y hall.srt o2.srt fun x hx y hy=>by
     have h1:=hlo x hx
     have h2:=(o3 y hy).1
     rw[U1]at h2
     simp only[ac,aw]at h2
     exact zki h1 h2.1,fun x hx=>(ak.1 hx).elim (hall.key x) fun h=>(o2.mono (by omega)).key x h⟩
   have hsl:=hsa.len
   rw[ae]at hsl
   obtain⟨r,r1,r2,r3⟩:=next (all++out) hsa fun x hx=>(ak.1 hx).elim (fun h=> .inl (hlo x h)) fun h=> .inr (o3 x h).1
   refine⟨out++r, ?_,by rw[<-au];exact r2,fun x hx=> ?_⟩
   ·rw[Y3 (by rfl),gd_t rfl,gd_t (by rw[hsp];exact hin),o1]
    simp only[ab]
    rw[Y3 (by rfl),gd_t (Y4 (by omega) (by omega)),r1,au]
   ·rcases ak.1 hx with hx | hx
    ·exact hqhi _ (o3 x hx).1
    ·exact r3 x hx
theorem yfr(p:List Sl):∀(sz:Nat) (T:Tr) (n:Nat),sizeOf T<=sz->T.ht<n->FitT T->yr2 p n T
 | _,_,0,_,h,_=>absurd h (ag _)
 | 0,T,_,h,_,_=>by cases T<;>simp at h
 | sz+1, .leaf ps,n+1,_,_,_=>by
  intro id s l e h g lo hi hu hv hg1 hge he heh hl hw
  simp only[Unf]at hu
  simp only[VT]at hv
  obtain⟨u1,u2,u3⟩:=hu
  simp only[Tr.mv,bG,Nat.mul_zero]at he heh|-
  have hpl:=hv.1.len
  have hll:l.length<10000000:=bN (zvs fun x hx=>⟨(hl x hx).1,UU.mono heh (hl x hx).2.1⟩) hw
  refine⟨ps.filter fun x=>inS l x.1, ?_,hv.1.filter _,fun x hx=> ?_⟩
  ·rw[zd7]
   simp only[z4b,yf8 u1 u2,u3,ab]
   rw[Y3 (by rfl),X4 (by rfl),y68 (by omega) (by omega)]
   rfl
  ·obtain⟨h1,h2⟩:=aB.1 hx
   exact⟨hv.2 x h1,h2⟩
 | sz+1, .node ks piv buf,n+1,hsz,hn,hf=>by
  intro id s l e h g lo hi hu hv hg1 hge he heh hl hw
  simp only[Unf]at hu
  simp only[VT]at hv
  simp only[FitT]at hf
  simp only[Tr.mv,Tr.ht]at he heh hn|-
  obtain⟨u1,u2,kids,sums,u3,u4,u5,u6⟩:=hu
  have hpl:=VTs.plen hv.1
  obtain⟨_,_,hkl⟩:=VTs.piv hv.1
  have hkl':=u6.len
  have hll:l.length<10000000:=bN (zvs fun x hx=>⟨(hl x hx).1,UU.mono (by omega) (hl x hx).2.1⟩) hw
  have hG:∀m∈buf,GM g m:=fun m hm=>(hv.2 m hm).1
  obtain⟨need,n1,n2,n3⟩:=yg9 hg1 hG hf.1 hge (e:=e) (h:=h) (by omega) (by omega) (by omega) (z08 NN n) p s (nd:=([],(piv,(kids,(sums,buf))))) rfl l [] [] NN (by have:=W9;omega) (by simp;omega) (by simp;omega) hl
  have hz:(([]:List Sp).length:Int)=0:=rfl
  simp only[aj,hz]at n1
  have hkne:eqi (kids.length:Int) 0=false:=J3 (by
   have:kids.length≠0:=fun h=>u5 (bP.1 h)
   omega)
  have hsp:z8n NN ([],(piv,(kids,(sums,buf)))) s=some (z4g s [] piv):=by
   simp only[z8n,hkne,cond_false,zxo s (show piv.length<100000000 by omega)]
  obtain⟨r,r1,r2,r3⟩:=y6f (p:=p) (n:=n) (l:=l) (need:=need) (e:=e+mvN buf) (h:=h-mvN buf) (g:=g) (G:=g+ks.mv) hg1 (by omega) (by omega) (nd:=([],(piv,(kids,(sums,buf))))) (sp:=z4g s [] piv)
   n2 (by omega) (by omega) (by simp only;omega) (by rw[zp2];simp only;omega) ks kids [] piv lo NN [] rfl (by have:=W9;omega) u6 hv.1 (by omega) (by omega) (al _)
   (fun k t s' a b ht hu' hv'=>by
    obtain⟨q1,q2,q3⟩:=Trs.has_ht ht
    simp only[Tr.node.sizeOf_spec]at hsz
    exact yfr p sz t n (by omega) (by omega) (FitTs.has hf.2 ht) k s' need (e+mvN buf) (h-mvN buf) g a b hu' hv' hg1 (by omega) (by omega) (by omega) n2 (by omega))
   ⟨bi.nil,fun x h=>by cases h⟩ (fun x h=>by cases h)
  simp only[aj]at r1 r2
  have hz':(([]:List Int).length:Int)=0:=rfl
  rw[hz']at r1
  have ha:=yg0 (ms:=buf) (g:=g+ks.mv) (by have:=hf.1;simp only[Big];omega) (fun m hm=>(hG m hm).mono (by omega)) r2 (by omega)
  have hT:=y98 r2 fun m hm=>(hG m hm).mono (show g<=g+ks.mv by omega)
  have hTl:=hT.len
  have hreg:=zxu (s:=(lo,hi)) hv.2 r3
  refine⟨(apps buf r).filter fun x=>inS l x.1, ?_, ?_,fun x hx=> ?_⟩
  ·rw[zd7]
   simp only[z4b,yf8 u1 u2,u3,ab,hkne]
   rw[Y3 (by rfl),Y3 (by rfl),n1]
   simp only[ab,hsp,r1,ha]
   rw[y68 (by omega) (by omega)]
   rfl
  ·rw[<-bW];exact hT.filter _
  ·obtain⟨h1,h2⟩:=aB.1 hx
   exact⟨hreg x h1,h2⟩
theorem yov{p:List Sl}{sh:V8}{id:Int}{T:Tr}{g:Nat}{lo hi:B}(hu:Unf p id T)(hv:VT g lo hi T)(hg1:1<=g)(hg:g+T.mv<30000)(hf:FitT T)(hh:T.ht<NN){s:Sp}(hs:SpG g s):
  ∃out,zli NN (p,(id,sh)) s=some (out,0)/\Tb (g+T.mv) out/\∀x∈out,hasB (lo,hi) x.1=true/\hasB s x.1=true:=by
 have hw:=ymy (g+2*T.mv) (hasB s)
 obtain⟨out,o1,o2,o3⟩:=yfr p (sizeOf T) T NN (al _) hh hf id ([],[]) [s] g (g+2*T.mv) g lo hi hu hv hg1 (al _) (by omega) (al _) (fun x hx=>by simp at hx;rw[hx];exact hs) (by simp[wts];omega)
 refine⟨out, ?_,o2,fun x hx=>⟨(o3 x hx).1,by have:=(o3 x hx).2;rwa [in1]at this⟩⟩
 have o1':y26 NN p id ([],[]) [s]=some (out,0):=o1
 simp only[zli,o1',ab]
def wm(G:Nat)(m:Mg):Nat:=bif eqi m.1 3 || eqi m.1 6 then wt G (hasB m.2.2.2.1)else 1
def wb(G:Nat)(l:List Mg):Nat:=(l.map (wm G)).sum
def pts(m:Mg):Nat:=if m.1=1 then 1 else 0
def ptN(l:List Mg):Nat:=(l.map pts).sum
theorem z9q(G:Nat)(a b:List Mg):wb G (a++b)=wb G a+wb G b:=by simp[wb]
theorem zhh(a b:List Mg):ptN (a++b)=ptN a+ptN b:=by simp[ptN]
theorem zpe(G:Nat)(m:Mg)(a:List Mg):wb G (m::a)=wm G m+wb G a:=by simp[wb]
theorem y4o(G:Nat)(m:Mg):wb G [m]=wm G m:=by simp[wb]
theorem y8f(G:Nat)(s:Sp):wm G (zck s)=wt G (hasB s):=by unfold wm;rw[show eqi (zck s).1 3=true from rfl];rfl
theorem y3k(G:Nat)(s:Sp)(n:Int):wm G (zkf s n)=wt G (hasB s):=by unfold wm;rw[show eqi (zkf s n).1 6=true from rfl,eA];rfl
theorem yfg(G:Nat){m:Mg}(h3:eqi m.1 3=false)(h6:eqi m.1 6=false):wm G m=1:=by unfold wm;rw[h3,h6];rfl
theorem yf4{g G:Nat}(h:g<=G){m:Mg}(hm:GM g m):1<=wm G m:=by
 cases hm with
 | drop s hs=>rw[y8f];exact y9c (UU.mono h hs.2.1) (zpv hs.1)
 | stamp s n hs=>rw[y3k];exact y9c (UU.mono h hs.2.1) (zpv hs.1)
 | _=>rw[yfg G rfl rfl];exact al 1
theorem ymz(G:Nat)(m:Mg):wm G m<=5+48*(G+1):=by
 unfold wm
 cases eqi m.1 3 || eqi m.1 6
 ·simp only[cond_false];omega
 ·exact ymy _ _
theorem zc8{g G:Nat}(h:g<=G):∀{l:List Mg},(∀m∈l,GM g m)->l.length<=wb G l
 | [],_=>bm _
 | m::l,hl=>by
  have:=zc8 h (l:=l) fun x hx=>hl x (by simp[hx])
  have:=yf4 h (hl m (by simp))
  rw[zpe,af];omega
def covB(s x:Sp):Bool:=emptyB x || (!(emptyB s)&&((lts s.1 x.1 || eqs s.1 x.1)&& !(lessB s.2 x.2)))
theorem yml(N:Nat)(s x:Sp):zc6 N s x=some (covB s x):=by
 simp only[zc6,z30,y8w,covB]
 cases emptyB x<;>cases emptyB s<;>cases lts s.1 x.1<;>cases eqs s.1 x.1<;>rfl
theorem yoi{s x:Sp}(h:covB s x=true){k:B}(hk:hasB x k=true):hasB s k=true:=by
 simp only[covB,ay,ac,aw]at h
 rcases h with h | ⟨_,h1,h2⟩
 ·rw[zhy h]at hk;cases hk
 ·rw[U1]at hk|-
  simp only[ac,aw]at hk|-
  refine⟨?_,zky h2 hk.2⟩
  rcases h1 with h1 | h1
  ·cases e:lts k s.1
   ·rfl
   ·have:=K9 e h1;rw[hk.1]at this;cases this
  ·rw[K7.1 h1];exact hk.1
theorem ygf(s:Sp):∀(post pre:List Sp) (n:Nat),post.length<n->(pre++post).length<100000000->
  zad NN n (pre.length:Int) s (pre++post)=some (bif post.all (covB s)then .inr ((),())else .inl (false,()))
 | _,_,0,h,_=>absurd h (ag _)
 | [],pre,n+1,_,_=>by
  rw[zgg]
  simp only[z3k,ai,aA,decide_false,cond_false]
  rfl
 | q::post,pre,n+1,hn,hl=>by
  simp only[af]at hn
  have hb:pre.length<9223372036854775807:=by simp at hl;omega
  rw[zgg]
  simp only[z3k,U3,cond_true,U0,yml,ab]
  rw[gd_t V4]
  cases e:covB s q
  ·simp[e]
  ·rw[aS,cond_false,W7 (q:=q) hb,V9 (pre:=pre) (q:=q) (post:=post),ygf s post (pre++[q]) n (by omega) (by simpa using hl)]
   simp[e]
theorem yp0{g:Nat}(hg:g<1000000){m:Mg}(hm:GM g m)(s:Sp):zln NN m s=some ((rds m++wr m).all (covB s)):=by
 obtain⟨h1,h2,_⟩:=y1s m
 have h:=ygf s (rds m++wr m) [] NN (by have:=W9;simp;omega) (by simp;omega)
 have hz:(([]:List Sp).length:Int)=0:=rfl
 simp only[aj,hz]at h
 simp only[zln,zp0 hm,z77 hg hm,ab,aj]
 rw[gd_t (Y4 (by omega) (by omega)),gd_t (Y4 (by omega) (by omega)),h]
 cases (rds m++wr m).all (covB s)<;>rfl
theorem yoa{s:Sp}{m:Mg}(h:(rds m++wr m).all (covB s)=true):LiesIn s m:=by
 intro x hx k hk
 have:=az.1 h x (by simp only[ak]at hx|-;exact hx.symm)
 exact yoi this hk
theorem ycd:∀(j k:B),lts j (k++[0])=(lts j k || eqs j k)
 | [],[]=>rfl
 | [],b::k=>by simp only[aY];rfl
 | a::j,[]=>by
  simp only[aj,zci,zma,cZ,de]
  have:decide (a<(0:UInt8))=false:=by
   simp only[decide_eq_false_iff_not,UInt8.lt_iff_toNat_lt];simp
  rw[this,zh3 (by simp)];rfl
 | a::j,b::k=>by
  simp only[aY,zci,ycd j k]
  have e:eqs (a::j) (b::k)=(a==b&&eqs j k):=rfl
  rw[e]
  cases decide (a<b)<;>cases (a==b)<;>cases lts j k<;>cases eqs j k<;>rfl
theorem y8q(k j:B):hasB (k,k++[0]) j=eqs k j:=by
 rw[U1]
 have e:eqs (k++[0]) []=false:=zh3 (by simp)
 have s:eqs k j=eqs j k:=ykx k j
 simp only[belowB,e,cG,ycd,s]
 cases h:eqs j k
 ·cases lts j k<;>rfl
 ·have:=K7.1 h;subst this
  rw[G8];rfl
structure Rd (g G:Nat) (reg s:Sp) (pre go stay:List Mg):Prop where
 gg:∀m∈go,GM g m/\LiesIn s m/\LiesIn reg m
 ss:∀m∈stay,GM g m/\LiesIn reg m
 mvq:mvN go+mvN stay=mvN pre
 ptq:ptN go+ptN stay=ptN pre
 wgt:wb G go+wb G stay<=wb G pre
theorem Rd.nil(g G:Nat)(reg s:Sp):Rd g G reg s [] [] []:=⟨fun _ h=>(by cases h),fun _ h=>(by cases h),rfl,rfl,al _⟩
theorem Rd.append{g G:Nat}{reg s:Sp}{p a b p' a' b':List Mg}(h:Rd g G reg s p a b)(k:Rd g G reg s p' a' b'):Rd g G reg s (p++p') (a++a') (b++b'):=by
 refine⟨fun m hm=> ?_,fun m hm=> ?_, ?_, ?_, ?_⟩
 ·rcases ak.1 hm with hm | hm
  ·exact h.gg m hm
  ·exact k.gg m hm
 ·rcases ak.1 hm with hm | hm
  ·exact h.ss m hm
  ·exact k.ss m hm
 ·have:=h.mvq;have:=k.mvq;simp only[z79];omega
 ·have:=h.ptq;have:=k.ptq;simp only[zhh];omega
 ·have:=h.wgt;have:=k.wgt;simp only[z9q];omega
theorem Rd.stays{g G:Nat}{reg s:Sp}{m:Mg}(hm:GM g m)(hr:LiesIn reg m):Rd g G reg s [m] [] [m]:=
 ⟨fun _ h=>(by cases h),fun x h=>(by simp at h;subst h;exact⟨hm,hr⟩),by simp[mvN],by simp[ptN],by simp[wb]⟩
theorem Rd.goes{g G:Nat}{reg s:Sp}{m:Mg}(hm:GM g m)(hr:LiesIn reg m)(hs:LiesIn s m):Rd g G reg s [m] [m] []:=
 ⟨fun x h=>(by simp at h;subst h;exact⟨hm,hs,hr⟩),fun _ h=>(by cases h),by simp[mvN],by simp[ptN],by simp[wb]⟩
def spd(m:Mg)(s:Sp):Mg:=(m.1,(m.2.1,(m.2.2.1,(s,m.2.2.2.2))))
theorem yfp(go:List Mg)(held:List Sp)(m0:Mg):∀(post pre:List Sp) (n:Nat) (stay:List Mg) (m:Mg),spd m=spd m0->post.length<n->(pre++post).length<100000000->stay.length+post.length<200000000->
  z4d NN n (pre.length:Int) go stay held m (pre++post)=some (((),()),(((),((),())),(go,(stay++post.map (spd m0),(held,((),()))))))
 | _,_,0,_,_,_,h,_,_=>absurd h (ag _)
 | [],pre,n+1,stay,m,_,_,_,_=>by
  rw[zda]
  simp only[z10,ai,aA,decide_false,cond_false,bO]
 | q::post,pre,n+1,stay,m,hm,hn,hl,hs=>by
  simp only[af]at hn hs
  have hb:pre.length<9223372036854775807:=by simp at hl;omega
  have e:((m.1,(m.2.1,(m.2.2.1,(q,m.2.2.2.2)))):Mg)=spd m0 q:=congrFun hm q
  rw[zda]
  simp only[z10,U3,cond_true,U0,e]
  rw[gd_t V4,gd_t (Y4 (by simp only[af,aq];omega) (by omega)),W7 (q:=q) hb,V9 (pre:=pre) (q:=q) (post:=post),yfp go held m0 post (pre++[q]) n (stay++[spd m0 q]) (spd m0 q) rfl (by omega) (by simpa using hl) (by simp;omega)]
  simp
theorem y6c{x s:Sp}:touchB [x] [s]= !(emptyB (G7 x s)):=by simp[touchB]
theorem yqo{k:B}{s:Sp}(h:emptyB (G7 (k,k++[0]) s)=false):∀j,hasB (k,k++[0]) j=true->hasB s j=true:=by
 intro j hj
 have h1:=zpv h
 rw[zch,ac,y8q]at h1
 rw[y8q]at hj
 rw[<-K7.1 hj,K7.1 h1.1]
 exact h1.2
theorem Rd.split{g G:Nat}{reg s:Sp}{m:Mg}{x:Sp}(hx:SpG g x)(mk:∀y,SpG g y->GM g (spd m y))(hk:wm G m=wt G (hasB x)/\∀y,wm G (spd m y)=wt G (hasB y))(h0:m.1=3\/m.1=6)
  (hw:∀y z,z∈wr (spd m y)++rds (spd m y)->z=y) (hr:∀k,hasB x k=true->hasB reg k=true) (hs:SpG g s) (he:emptyB (G7 x s)=false) {r:List Sp} (r2:∀k,inS r k=(inS [x] k&& !(inS [s] k))) (r4:Sep r) (r5:∀s∈r,SpG g s):
  Rd g G reg s [m] [spd m (G7 x s)] (r.map (spd m)):=by
 have hmeet:∀k,hasB (G7 x s) k=true->hasB x k=true/\hasB s k=true:=fun k hk=>by rwa [zch,ac]at hk
 have nomv:∀y,mvs (spd m y)=mvs m:=fun y=>rfl
 have nopt:∀y,pts (spd m y)=pts m:=fun y=>rfl
 have m0:mvs m=0:=by rcases h0 with h | h<;>simp[mvs,h]
 have p0:pts m=0:=by rcases h0 with h | h<;>simp[pts,h]
 have smv:∀l:List Sp,mvN (l.map (spd m))=0:=fun l=>by
  induction l with
  | nil=>rfl
  | cons y l ih=>simp only[mvN,ax,bI]at ih|-;rw[nomv,m0,ih]
 have spt:∀l:List Sp,ptN (l.map (spd m))=0:=fun l=>by
  induction l with
  | nil=>rfl
  | cons y l ih=>simp only[ptN,ax,bI]at ih|-;rw[nopt,p0,ih]
 have swt:∀l:List Sp,wb G (l.map (spd m))=wts G l:=fun l=>by
  induction l with
  | nil=>rfl
  | cons y l ih=>rw[ax,zpe,ih,hk.2];simp[wts]
 refine⟨fun y hy=> ?_,fun y hy=> ?_, ?_, ?_, ?_⟩
 ·simp only[aE]at hy
  subst hy
  refine⟨mk _ (y5x hx hs he),fun z hz k hk=> ?_,fun z hz k hk=> ?_⟩
  ·rw[hw _ z hz]at hk;exact(hmeet k hk).2
  ·rw[hw _ z hz]at hk;exact hr k (hmeet k hk).1
 ·obtain⟨z,hz,rfl⟩:=aH.1 hy
  refine⟨mk z (r5 z hz),fun w hwm k hk=> ?_⟩
  rw[hw _ w hwm]at hk
  have:inS r k=true:=db.2 ⟨z,hz,hk⟩
  rw[r2,ac,in1]at this
  exact hr k this.1
 ·rw[smv];simp[mvN,nomv]
 ·rw[spt];simp[ptN,nopt]
 ·rw[swt,y4o,y4o,hk.1,hk.2]
  have h1:=y8e (g:=G) r4
  have h2:wt G (inS r)<=wt G (fun a=>hasB x a&& !(hasB s a)):=zjv fun a ha=>by rw[r2,in1,in1]at ha;exact ha
  have h3:wt G (hasB (G7 x s))<=wt G (fun a=>hasB x a&&hasB s a):=zjv fun a ha=>by rw[zch]at ha;exact ha
  have:=y3j (g:=G) (hasB x) (hasB s)
  omega
theorem yhe{g G:Nat}(hg1:1<=g)(hg:g<40000){reg s:Sp}(hs:SpG g s){m:Mg}(hm:GM g m)(hr:LiesIn reg m){go stay:List Mg}{held:List Sp}(hl:go.length+stay.length<100000000)(hh:held.length<90000000):
  ∃a b c,z2s NN m s go stay held=some (((),((),())),(go++a,(stay++b,(held++c,()))))/\c.length<=3/\Rd g G reg s [m] a b:=by
 obtain⟨l1,l2,_⟩:=y1s m
 have hN:=W9
 have mover:(eqi m.1 4 || eqi m.1 5)=true->∃a b c,z2s NN m s go stay held=some (((),((),())),(go++a,(stay++b,(held++c,()))))/\c.length<=3/\Rd g G reg s [m] a b:=fun hmm=>by
  have e1:zb7 NN m=some true:=by
   simp only[zb7]
   cases e:eqi m.1 4
   ·rw[e]at hmm;simp only[cG]at hmm;rw[hmm];rfl
   ·rfl
  have ht:=zon (l:=rds m++wr m) (m:=held) (by simp;omega) (by omega)
  simp only[z2s,e1,ab,cond_true,zp0 hm,z77 (g:=g) (by omega) hm,yp0 (g:=g) (by omega) hm,aj,ht]
  rw[gd_t (Y4 (by omega) (by omega)),gd_t (Y4 (by omega) (by omega))]
  have no:∃a b c,(gd (fits (stay.length+1) 112) (gd (fits (held.length+(rds m++wr m).length) 32) (some ((((),((),())),(go,(stay++[m],(held++(rds m++wr m),())))):((Unit×(Unit×Unit))×((List Z1)×((List Z1)×((List Z0)×Unit))))))))=some (((),((),())),(go++a,(stay++b,(held++c,()))))/\c.length<=3/\Rd g G reg s [m] a b:=by
   refine⟨[],[m],rds m++wr m, ?_,by simp;omega,Rd.stays hm hr⟩
   rw[gd_t (Y4 (by omega) (by omega)),gd_t (Y4 (by simp;omega) (by omega)),ai]
  cases e2:(rds m++wr m).all (covB s)
  ·exact no
  ·cases e3:touchB (rds m++wr m) held
   ·refine⟨[m],[],[], ?_,by simp,Rd.goes hm hr (yoa e2)⟩
    simp only[cond_true,aO]
    rw[gd_t (Y4 (by omega) (by omega)),ai,ai]
   ·exact no
 have part:∀p,eqi m.1 4=false->eqi m.1 5=false->zhf NN m s=some p->(p=[]\/∃q x,p=[q]/\K8 NN q=some [x]/\((eqi m.1 3=false/\eqi m.1 6=false/\Rd g G reg s [m] [q] [])\/
   ((eqi m.1 3=true\/eqi m.1 6=true)/\∃r,Q7 NN [m.2.2.2.1] [s]=some r/\r.length<=2/\Rd g G reg s [m] [q] (r.map (spd m)))))->
   ∃a b c,z2s NN m s go stay held=some (((),((),())),(go++a,(stay++b,(held++c,()))))/\c.length<=3/\Rd g G reg s [m] a b:=fun p h4 h5 hp hc=>by
  have e1:zb7 NN m=some false:=by simp only[zb7,h4,h5,cond_false]
  simp only[z2s,e1,ab,cond_false,hp]
  rcases hc with rfl | ⟨q,x,rfl,hq,hc⟩
  ·refine⟨[],[m],[], ?_,by simp,Rd.stays hm hr⟩
   simp only[aq,Int.natCast_zero,K0,cond_true]
   rw[gd_t (Y4 (by omega) (by omega)),ai,ai]
  ·have e0:eqi ((([q]:List Mg).length:Nat):Int) 0=false:=rfl
   have e2:inB 0 ([q]:List Mg).length=true:=rfl
   have e3:rdL ([q]:List Mg) 0 U7=q:=rfl
   have ht:=zon (l:=[x]) (m:=held) (by simp) (by omega)
   simp only[e0,cond_false,e2,e3,hq,ab,ht]
   rw[gd_t rfl]
   cases et:touchB [x] held
   ·simp only[cond_false]
    rw[gd_t rfl,gd_t (Y4 (by simp only[af,aq];omega) (by omega))]
    rcases hc with⟨h3,h6,hR⟩ | ⟨h36,r,r1,r2,hR⟩
    ·refine⟨[q],[],[], ?_,by simp,hR⟩
     simp only[h3,h6,cond_false,ai]
    ·have hz:(([]:List Sp).length:Int)=0:=rfl
     have lp:=yfp (go++[q]) held m r [] NN stay m rfl (by omega) (by simp;omega) (by omega)
     simp only[aj,hz]at lp
     refine⟨[q],r.map (spd m),[], ?_,by simp,hR⟩
     simp only[r1,ab,lp,ai]
     cases e3:eqi m.1 3
     ·rcases h36 with h | h
      ·rw[h]at e3;cases e3
      ·simp only[h,cond_true,cond_false]
     ·rfl
   ·refine⟨[],[m],[x], ?_,by simp,Rd.stays hm hr⟩
    simp only[cond_true]
    rw[gd_t (Y4 (by omega) (by omega)),gd_t rfl,gd_t (Y4 (by simp only[af,aq];omega) (by omega)),ai]
 have one:∀k,wr m=[(k,k++[0])]->rds m=[]->eqi m.1 3=false->eqi m.1 6=false->eqi m.1 4=false->eqi m.1 5=false->∃a b c,z2s NN m s go stay held=some (((),((),())),(go++a,(stay++b,(held++c,()))))/\c.length<=3/\Rd g G reg s [m] a b:=fun k hw hrd h3 h6 h4 h5=>by
  have ht:=zon (l:=wr m) (m:=[s]) (by omega) (by simp)
  refine part (bif touchB (wr m) [s]then[m]else[]) h4 h5 ?_ ?_
  ·simp only[zhf,z77 (g:=g) (by omega) hm,ab,ht,h3,h6,cond_false]
   cases touchB (wr m) [s]<;>rfl
  ·cases et:touchB (wr m) [s]
   ·exact .inl rfl
   ·refine .inr ⟨m,(k,k++[0]),rfl,by rw[z77 (g:=g) (by omega) hm,hw], .inl ⟨h3,h6,Rd.goes hm hr ?_⟩⟩
    rw[hw,y6c,aw]at et
    intro x hx j hj
    rw[hw,hrd]at hx
    simp only[ai,aE]at hx
    subst hx
    exact yqo et j hj
 have spn:∀x,m.2.2.2.1=x->SpG g x->wr m=[x]->(∀y,SpG g y->GM g (spd m y))->(wm G m=wt G (hasB x)/\∀y,wm G (spd m y)=wt G (hasB y))->(m.1=3\/m.1=6)->(∀y,wr (spd m y)=[y])->(∀y,∀z∈rds (spd m y),z=y)->∃a b c,z2s NN m s go stay held=some (((),((),())),(go++a,(stay++b,(held++c,()))))/\c.length<=3/\Rd g G reg s [m] a b:=fun x hx hG hw mk hk h36 hwy hry=>by
  have h4:eqi m.1 4=false:=by rcases h36 with h | h<;>rw[h]<;>rfl
  have h5:eqi m.1 5=false:=by rcases h36 with h | h<;>rw[h]<;>rfl
  have h36':eqi m.1 3=true\/eqi m.1 6=true:=by rcases h36 with h | h<;>rw[h]<;>simp[eqi]
  have ht:=zon (l:=[x]) (m:=[s]) (by simp) (by simp)
  refine part (bif touchB [x] [s]then[spd m (G7 x s)]else[]) h4 h5 ?_ ?_
  ·simp only[zhf,z77 (g:=g) (by omega) hm,hw,ab,ht,hx,zkh]
   cases et:touchB [x] [s]
   ·rfl
   ·rcases h36' with h | h
    ·rw[h];rfl
    ·cases e3:eqi m.1 3
     ·rw[h];rfl
     ·rfl
  ·cases et:touchB [x] [s]
   ·exact .inl rfl
   ·rw[y6c,aw]at et
    obtain⟨r,r1,r2,r3,r4,r5⟩:=y3d (l:=[x]) (m:=[s]) (E:=UU g) (fun y hy=>by simp at hy;subst hy;exact hs.2) (UU.nil g) (fun y hy _=>by simp at hy;subst hy;exact hG.2) (by simp) (by simp)
    refine .inr ⟨spd m (G7 x s),G7 x s,rfl,by rw[z77 (g:=g) (by omega) (mk _ (y5x hG hs et)),hwy], .inr ⟨h36',r,by rw[hx];exact r1,by simpa using r3, ?_⟩⟩
    refine Rd.split hG mk hk h36 (fun y z hz=> ?_) (fun k hk=>hr x (by rw[hw];simp) k hk) hs et r2 r4 fun y hy=>⟨r4.full y hy,r5 y hy⟩
    rcases ak.1 hz with hz | hz
    ·rw[hwy]at hz;simpa using hz
    ·exact hry y z hz
 cases hm with
 | put k v n hk hv=>exact one k rfl rfl rfl rfl rfl rfl
 | del k hk=>exact one k rfl rfl rfl rfl rfl rfl
 | drop x hx=>exact spn x rfl hx rfl (fun y hy=> .drop y hy) ⟨y8f G x,fun y=>y8f G y⟩ (.inl rfl) (fun _=>rfl) (fun y z hz=>by cases hz)
 | move e he=>exact mover rfl
 | clone e he=>exact mover rfl
 | stamp x n hx=>exact spn x rfl hx rfl (fun y hy=> .stamp y n hy) ⟨y3k G x n,fun y=>y3k G y n⟩ (.inr rfl) (fun _=>rfl) (fun y z hz=>aE.1 hz)
theorem ybq{g G:Nat}(hg1:1<=g)(hgG:g<=G)(hg:g<40000){reg s:Sp}(hs:SpG g s):∀(post pre go stay:List Mg) (held:List Sp) (n:Nat),post.length<n->(pre++post).length<20000000->(∀m∈post,GM g m/\LiesIn reg m)->held.length<=3*pre.length->
  go.length+stay.length+wb G post<100000000->
  ∃a b c,z87 NN n (pre++post) (pre.length:Int) go stay held s=some (((),()),((),(((),((),())),(go++a,(stay++b,(c,()))))))/\Rd g G reg s post a b
 | _,_,_,_,_,0,h,_,_,_,_=>absurd h (ag _)
 | [],pre,go,stay,held,n+1,_,_,_,_,_=>by
  refine⟨[],[],held, ?_,Rd.nil _ _ _ _⟩
  rw[zes]
  simp only[z26,ai,aA,decide_false,cond_false]
 | m::post,pre,go,stay,held,n+1,hn,hl,hm,hh,hw=>by
  simp only[af]at hn
  have hb:pre.length<9223372036854775807:=by simp at hl;omega
  have hpl:pre.length<20000000:=by simp at hl;omega
  obtain⟨m1,m2⟩:=hm m (by simp)
  have hp:=yf4 hgG m1
  rw[zpe]at hw
  obtain⟨a,b,c,h1,h2,h3⟩:=yhe (G:=G) hg1 hg hs m1 m2 (go:=go) (stay:=stay) (held:=held) (by omega) (by omega)
  have la:=zc8 hgG fun x hx=>(h3.gg x hx).1
  have lb:=zc8 hgG fun x hx=>(h3.ss x hx).1
  have hwt:=h3.wgt
  rw[y4o]at hwt
  obtain⟨a',b',c',k1,k2⟩:=ybq hg1 hgG hg hs post (pre++[m]) (go++a) (stay++b) (held++c) n (by omega) (by simpa using hl) (fun x hx=>hm x (by simp[hx])) (by simp;omega) (by simp only[ae];omega)
  refine⟨a++a',b++b',c', ?_,h3.append k2⟩
  rw[zes]
  simp only[z26,U3,cond_true,U0,h1,ab]
  rw[gd_t V4,W7 (q:=m) hb,V9 (pre:=pre) (q:=m) (post:=post),k1]
  simp
theorem yde{g G:Nat}(hg1:1<=g)(hgG:g<=G)(hg:g<40000){reg s:Sp}(hs:SpG g s){buf:List Mg}{piv:List B}{i:Int}(hp:piv.length<100000000)(hi:inB i (piv.length+1)=true)(hsi:rdL (z4g ([],[]) [] piv) i Y7=s)
  (hm:∀m∈buf,GM g m/\LiesIn reg m) (hw:wb G buf<20000000):∃go stay x,z6f NN buf piv i=some (go,(stay,x))/\Rd g G reg s buf go stay:=by
 have hl:=zc8 hgG fun m h=>(hm m h).1
 obtain⟨a,b,c,h1,h2⟩:=ybq hg1 hgG hg hs buf [] [] [] [] NN (by have:=W9;omega) (by simp;omega) hm (bm _) (by simp;omega)
 have hz:(([]:List Mg).length:Int)=0:=rfl
 simp only[aj,hz]at h1
 refine⟨a,b,c, ?_,h2⟩
 simp only[z6f,zns,zxo ([],[]) hp,ab,hsi,h1,zp2,hi]
 rfl
def y9i(m:Mg)(p:Pr):Mg:=y9j (m.2.2.2.2.2.1++p.1.drop m.2.2.2.2.1.length) p.2.1 p.2.2
theorem yce(m:Mg)(hto:m.2.2.2.2.2.1.length<1000000):∀(post pre:List Pr) (n:Nat) (out:List Mg),post.length<n->(pre++post).length<100000000->out.length+post.length<200000000->(∀p∈post,p.1.length<1000000/\m.2.2.2.2.1.length<=p.1.length)->
  zac NN n (pre++post) (pre.length:Int) m out=some (((),()),(m,(out++post.map (y9i m),())))
 | _,_,0,_,h,_,_,_=>absurd h (ag _)
 | [],pre,n+1,out,_,_,_,_=>by
  rw[zgf]
  simp only[z3j,ai,aA,decide_false,cond_false,bO]
 | p::post,pre,n+1,out,hn,hl,ho,hp=>by
  simp only[af]at hn ho
  have hb:pre.length<9223372036854775807:=by simp at hl;omega
  obtain⟨p1,p2⟩:=hp p (by simp)
  rw[zgf]
  simp only[z3j,U3,cond_true,U0]
  rw[gd_t V4,gd_t (by simp;omega),zol,gd_p (by simp only[maxS,aZ];omega),gd_t (Y4 (by simp only[af,aq];omega) (by omega)),W7 (q:=p) hb,V9 (pre:=pre) (q:=p) (post:=post),yce m hto post (pre++[p]) n _ (by omega) (by simpa using hl) (by simp;omega) fun x hx=>hp x (by simp[hx])]
  simp[y9i]
def zbg(m:Mg)(src:List Pr):List Mg:=zck (preB m.2.2.2.2.2.1)::(src.map (y9i m)++bif eqi m.1 4 then[zck (preB m.2.2.2.2.1)]else[])
theorem ylj{m:Mg}{e:B×B}(he:e∈ends)(h1:m.2.2.2.2.1=e.1)(h2:m.2.2.2.2.2.1=e.2)(hk:eqi m.1 4=true\/eqi m.1 5=true){src:List Pr}(hl:src.length<90000000)(hs:∀p∈src,p.1.length<1000000/\e.1.length<=p.1.length):
  zlm NN m src=some (zbg m src):=by
 obtain⟨p1,p2⟩:=U9 he
 have l2:=(z9o p2).2
 have em:z6e NN m=some true:=by
  simp only[z6e]
  cases e4:eqi m.1 4
  ·rcases hk with h | h
   ·rw[h]at e4;cases e4
   ·rw[h];rfl
  ·rfl
 have h:=yce m (by rw[h2];omega) src [] NN [zck (preB m.2.2.2.2.2.1)] (by have:=W9;omega) (by simp;omega) (by simp;omega) (fun p hp=>by rw[h1];exact hs p hp)
 have hz:(([]:List Pr).length:Int)=0:=rfl
 simp only[aj,hz]at h
 simp only[zlm,em,ab,aS,cond_false,h2,z5k p2]
 rw[h2]at h
 rw[h]
 simp only[ab,zbg,h2,h1]
 cases e4:eqi m.1 4
 ·simp
 ·simp only[cond_true,z5k p1,ab]
  rw[gd_t (Y4 (by simp;omega) (by omega))]
  simp
theorem yjx{α:Type}(f:α->Nat)(l:List α)(h:∀x∈l,f x=0):(l.map f).sum=0:=by
 induction l with
 | nil=>rfl
 | cons x l ih=>rw[ax,bI,h x (by simp),ih fun y hy=>h y (by simp[hy])]
theorem ynr{α:Type}(f:α->Nat)(l:List α)(h:∀x∈l,f x=1):(l.map f).sum=l.length:=by
 induction l with
 | nil=>rfl
 | cons x l ih=>rw[ax,bI,h x (by simp),ih fun y hy=>h y (by simp[hy])];simp;omega
theorem ydu{g G c:Nat}(hg1:1<=g){m:Mg}{e:B×B}(he:e∈ends)(hm:(m.1=4\/m.1=5)/\m.2.2.2.2.1=e.1/\m.2.2.2.2.2.1=e.2){reg:Sp}(hr:LiesIn reg m){src:List Pr}(hs:Tb c src)(hp:∀p∈src,e.1.isPrefixOf p.1=true)(hc:g<=c+1):
  (∀x∈zbg m src,GM (c+1) x/\LiesIn reg x)/\mvN (zbg m src)=0/\wb G (zbg m src)<=20*(c+1)+2*(5+48*(G+1)):=by
 obtain⟨h0,h1,h2⟩:=hm
 obtain⟨p1,p2⟩:=U9 he
 have hw2:preB e.2∈wr m:=by
  unfold wr
  rcases h0 with h | h<;>rw[h,h1,h2]<;>simp[eqi]
 have hw1:m.1=4->preB e.1∈wr m:=fun h=>by
  unfold wr
  rw[h,h1,h2];simp[eqi]
 have l2:∀k,hasB (preB e.2) k=true->hasB reg k=true:=hr _ (bp _ hw2)
 have ld:∀q:B,(∀k,hasB (preB q) k=true->hasB reg k=true)->LiesIn reg (zck (preB q)):=fun q h x hx k hk=>by
  have:x=preB q:=by simpa[wr,rds,eqi] using hx
  rw[this]at hk;exact h k hk
 refine⟨fun x hx=> ?_, ?_, ?_⟩
 ·unfold zbg at hx
  rw[h1,h2]at hx
  rcases am.1 hx with rfl | hx
  ·exact⟨.drop _ ((SpG.pre p2).mono (by omega)),ld _ l2⟩
  rcases ak.1 hx with hx | hx
  ·obtain⟨p,hp',rfl⟩:=aH.1 hx
   have hk:=hs.key p hp'
   refine⟨?_,fun y hy k hk'=> ?_⟩
   ·unfold y9i
    rw[h1,h2]
    exact .put _ _ _ (KU.move p1 p2 hk.1 (hp p hp')) hk.2
   ·have:y=(e.2++p.1.drop e.1.length,e.2++p.1.drop e.1.length++[0]):=by
     simp only[y9i,h1,h2]at hy
     simpa[wr,rds,eqi] using hy
    rw[this,y8q]at hk'
    rw[<-K7.1 hk']
    exact l2 _ (by rw[z6b p2];exact zm8 _ _)
  ·cases e4:eqi m.1 4
   ·rw[e4]at hx;cases hx
   ·rw[e4]at hx
    simp only[cond_true,aE]at hx
    subst hx
    exact⟨.drop _ ((SpG.pre p1).mono (by omega)),ld _ (hr _ (bp _ (hw1 (zpw.1 e4))))⟩
 ·unfold zbg mvN
  refine yjx mvs _ fun x hx=> ?_
  rcases am.1 hx with rfl | hx
  ·rfl
  rcases ak.1 hx with hx | hx
  ·obtain⟨p,hp',rfl⟩:=aH.1 hx;rfl
  ·cases e4:eqi m.1 4
   ·rw[e4]at hx;cases hx
   ·rw[e4]at hx
    simp only[cond_true,aE]at hx
    subst hx;rfl
 ·unfold zbg
  rw[zpe,z9q]
  have a1:wb G (src.map (y9i m))=src.length:=by
   unfold wb
   rw[List.map_map,ynr]
   intro x _
   exact yfg G rfl rfl
  have a2:wb G (bif eqi m.1 4 then[zck (preB m.2.2.2.2.1)]else[])<=5+48*(G+1):=by
   cases eqi m.1 4
   ·exact bm _
   ·simp only[cond_true,y4o];exact ymz _ _
  have a3:=ymz G (zck (preB m.2.2.2.2.2.1))
  have:=hs.len
  omega
theorem y6b{p:List Sl}{root:Int}{sh:V8}{nd:Nd}{m0:Mg}{rest:List Mg}(hbuf:nd.2.2.2.2=m0::rest){s:Sp}(hpre:U2 NN m0.2.2.2.2.1=some s){g G:Nat}(hs:SpG g s)(hg1:1<=g)(hG:G<30000){hi:B}:
  ∀(ks:Trs) (post pre:List Int) (piv:List B) (lo:B) (m:Nat) (all:List Pr),nd.2.2.1=pre++post->nd.2.2.1.length<10000001->post.length<m->UnfL p post ks->VTs g lo hi ks piv->g+ks.mv<=G->FitTs ks->ks.ht<NN->Tb G all->(∀x∈all,lts x.1 lo=true/\hasB s x.1=true)->
   ∃r,z1m NN m (pre.length:Int) (p,(root,sh)) nd all=some (.inr (((),((),())),(nd,((),(all++r,())))))/\Tb G (all++r)/\∀x∈r,hasB (lo,hi) x.1=true/\hasB s x.1=true
 | _,_,_,_,_,0,_,_,_,h,_,_,_,_,_,_,_=>absurd h (ag _)
 | .nil,post,pre,piv,lo,m+1,all,hk,hkl,hm,hu,hv,_,_,_,_,_=>by simp[VTs]at hv
 | .cons t ts,[],pre,piv,lo,m+1,all,hk,hkl,hm,hu,hv,_,_,_,_,_=>by simp[UnfL]at hu
 | .cons t ts,k::post,pre,piv,lo,m+1,all,hk,hkl,hm,hu,hv,hgG,hfit,hht,hall,hlo=>by
  simp only[af]at hm
  have hlen:nd.2.2.1.length=pre.length+(post.length+1):=by rw[hk];simp
  have hb:pre.length<9223372036854775807:=by omega
  simp only[UnfL]at hu
  simp only[Trs.mv]at hgG
  simp only[FitTs]at hfit
  simp only[Trs.ht]at hht
  obtain⟨q,hvt,hqhi,hqq⟩:∃q,VT g lo q t/\(∀x,hasB (lo,q) x=true->hasB (lo,hi) x=true)/\∀q' r,piv=q'::r->q=q':=by
   cases ts with
   | nil=>
    cases piv with
    | nil=>simp only[VTs]at hv;exact⟨hi,hv,fun _ h=>h,fun q' r h=>by cases h⟩
    | cons _ _=>simp[VTs]at hv
   | cons u us=>
    cases piv with
    | nil=>simp[VTs]at hv
    | cons q piv=>
     simp only[VTs]at hv
     refine⟨q,hv.2.2.2.1,fun x hx=> ?_,fun q' r h=>by cases h;rfl⟩
     rw[U1]at hx|-
     simp only[belowB,ac,ay]at hx|-
     refine⟨hx.1, ?_⟩
     rcases hx.2 with h' | h'
     ·exact absurd (K7.1 h') (KU.ne hv.1)
     ·have:=zds h' hv.2.2.1
      simpa[belowB] using this
  have next:∀all',Tb G all'->(∀x∈all',(lts x.1 lo=true\/hasB (lo,q) x.1=true)/\hasB s x.1=true)->∃r,z1m NN m ((pre++[k]).length:Int) (p,(root,sh)) nd all'=some (.inr (((),((),())),(nd,((),(all'++r,())))))/\Tb G (all'++r)/\∀x∈r,hasB (lo,hi) x.1=true/\hasB s x.1=true:=by
   intro all' h1 h2
   cases ts with
   | nil=>
    cases piv with
    | cons _ _=>simp[VTs]at hv
    | nil=>
     have hpost:post=[]:=by
      cases post with
      | nil=>rfl
      | cons a b=>have:=hu.2;simp[UnfL]at this
     subst hpost
     refine⟨[], ?_,by simpa using h1,fun x hx=>by cases hx⟩
     cases m with
     | zero=>simp at hm
     | succ m=>
      rw[zd1]
      simp only[z0u,ai]
      rw[Y3 (by rw[hk];simp)]
   | cons u us=>
    cases piv with
    | nil=>simp[VTs]at hv
    | cons q' piv=>
     simp only[VTs]at hv
     obtain⟨v1,v2,v3,v4,v5⟩:=hv
     have hle:∀x∈all',lts x.1 q'=true/\hasB s x.1=true:=by
      intro x hx
      have eq:=hqq q' piv rfl
      subst eq
      refine⟨?_,(h2 x hx).2⟩
      rcases(h2 x hx).1 with h | h
      ·exact K9 h v2
      ·rw[U1]at h
       simp only[belowB,ac,ay]at h
       rcases h.2 with h | h
       ·exact absurd (K7.1 h) (KU.ne v1)
       ·exact h
     obtain⟨r,r1,r2,r3⟩:=y6b hbuf hpre hs hg1 hG (.cons u us) post (pre++[k]) piv q' m all' (by rw[hk];simp) hkl (by omega) hu.2 v5 (by omega) hfit.2 (by omega) h1 hle
     refine⟨r,r1,r2,fun x hx=> ?_⟩
     have:=r3 x hx
     refine⟨?_,this.2⟩
     have:=this.1
     rw[U1]at this|-
     simp only[ac,aw]at this|-
     exact⟨zve (z0j v2) this.1,this.2⟩
  rw[zd1]
  have hlt:decide ((pre.length:Int)<(nd.2.2.1.length:Int))=true:=by rw[hk];exact U3
  have hin:inB (pre.length:Int) nd.2.2.1.length=true:=by rw[hk];exact V4
  have hrd:rdL nd.2.2.1 (pre.length:Int) (0:Int)=k:=by rw[hk];exact U0
  have hb0:inB (0:Int) nd.2.2.2.2.length=true:=by rw[hbuf];exact V7 (by omega) (by simp)
  have hr0:rdL nd.2.2.2.2 (0:Int) U7=m0:=by rw[hbuf];rfl
  obtain⟨out,o1,o2,o3⟩:=yov (sh:=sh) hu.1 hvt hg1 (by omega) hfit.1 (by omega) hs
  simp only[z0u,hlt,cond_true,hin,hrd,hr0,W7 (q:=k) hb,hpre,o1,ab]
  have hsa:Tb G (all++out):=⟨y1y hall.srt o2.srt fun x hx y hy=>by
    have h1:=(hlo x hx).1
    have h2:=(o3 y hy).1
    rw[U1]at h2
    simp only[ac,aw]at h2
    exact zki h1 h2.1,fun x hx=>(ak.1 hx).elim (hall.key x) fun h=>(o2.mono (by omega)).key x h⟩
  have hsl:=hsa.len
  rw[ae]at hsl
  obtain⟨r,r1,r2,r3⟩:=next (all++out) hsa fun x hx=>(ak.1 hx).elim (fun h=>⟨.inl (hlo x h).1,(hlo x h).2⟩) fun h=>⟨.inr (o3 x h).1,(o3 x h).2⟩
  refine⟨out++r, ?_,by rw[<-au];exact r2,fun x hx=> ?_⟩
  ·rw[gd_t rfl,gd_t hb0,Y3 (by rfl),gd_t (Y4 (by omega) (by omega)),r1,au]
  ·rcases ak.1 hx with hx | hx
   ·exact⟨hqhi _ (o3 x hx).1,(o3 x hx).2⟩
   ·exact r3 x hx
theorem yhb{p:List Sl}{root:Int}{sh:V8}{piv:List B}{kids:List Int}{sums:List Y6}{m0:Mg}{rest:List Mg}{ks:Trs}{g Γ:Nat}{lo hi:B}(hg1:1<=g)(hG:g+ks.mv+1<30000)
  (hu:UnfL p kids ks) (hv:VTs g lo hi ks piv) (hf:FitTs ks) (hh:ks.ht<NN) (hm:∀m∈m0::rest,GM g m/\LiesIn (lo,hi) m) (hl:rest.length<90000000):
  ∃nd e,z6o NN (p,(root,sh)) (([]:List Pr),(piv,(kids,(sums,m0::rest))))=some (nd,e)/\(e≠0\/(e=0/\∃new,nd=([],(piv,(kids,(sums,new++rest))))/\(∀m∈new,GM (g+ks.mv+1) m/\LiesIn (lo,hi) m)/\mvN new=0/\mvs m0=1/\
   wb Γ new<=20*(g+ks.mv+1)+2*(5+48*(Γ+1)))):=by
 have hpl:=VTs.plen hv
 obtain⟨_,_,hkl⟩:=VTs.piv hv
 have hkl':=hu.len
 have go:∀s,U2 NN m0.2.2.2.2.1=some s->SpG g s->∃src,z1m NN NN (0:Int) (p,(root,sh)) (([]:List Pr),(piv,(kids,(sums,m0::rest)))) []=some (.inr (((),((),())),((([]:List Pr),(piv,(kids,(sums,m0::rest)))),((),(src,())))))/\Tb (g+ks.mv) src/\∀x∈src,hasB s x.1=true:=fun s h1 h2=>by
  obtain⟨r,r1,r2,r3⟩:=y6b (p:=p) (root:=root) (sh:=sh) (nd:=([],(piv,(kids,(sums,m0::rest))))) (m0:=m0) (rest:=rest) rfl h1 (G:=g+ks.mv) h2 hg1 (by omega) ks kids [] piv lo NN [] rfl (by simp only;omega) (by have:=W9;omega) hu hv (al _) hf hh ⟨bi.nil,fun x h=>by cases h⟩ fun x h=>by cases h
  have hz:(([]:List Int).length:Int)=0:=rfl
  simp only[aj,hz]at r1 r2
  exact⟨r,r1,r2,fun x hx=>(r3 x hx).2⟩
 obtain⟨hm0,hr0⟩:=hm m0 (by simp)
 have nomove:mvs m0=0->m0.2.2.2.2.1=[]->eqi m0.1 4=false->eqi m0.1 5=false->∃nd e,z6o NN (p,(root,sh)) (([]:List Pr),(piv,(kids,(sums,m0::rest))))=some (nd,e)/\(e≠0\/(e=0/\∃new,nd=([],(piv,(kids,(sums,new++rest))))/\(∀m∈new,GM (g+ks.mv+1) m/\LiesIn (lo,hi) m)/\mvN new=0/\mvs m0=1/\
   wb Γ new<=20*(g+ks.mv+1)+2*(5+48*(Γ+1)))):=fun h0 hfr h4 h5=>by
  have hp0:U2 NN ([]:B)=some ([],[]):=by
   obtain⟨k,hk⟩:∃k,NN=k+1:=⟨NN-1,by have:=W9;omega⟩
   have h0:J9 NN NN ([]:B) (([]:B).length:Int)=some (([],((),0)),((),())):=by
    rw[show J9 NN NN=J9 NN (k+1)from congrArg _ hk,zdf]
    rfl
   simp only[U2,h0]
   rfl
  obtain⟨src,s1,_⟩:=go ([],[]) (by rw[hfr];exact hp0) ⟨rfl,UU.nil g,UU.nil g⟩
  refine⟨_,_,by
   simp only[z6o,s1,ab,zll]
   rw[Y3 (by simp[eqi];omega),gd_t (by simp[inB])]
   have e0:rdL (m0::rest) (0:Int) U7=m0:=rfl
   simp only[e0,z6e,h4,h5,cond_false,ab,aO,cond_true]
   rfl, .inl (by decide)⟩
 have mover:∀e,e∈ends->mvs m0=1->(m0.1=4\/m0.1=5)->m0.2.2.2.2.1=e.1->m0.2.2.2.2.2.1=e.2->∃nd e,z6o NN (p,(root,sh)) (([]:List Pr),(piv,(kids,(sums,m0::rest))))=some (nd,e)/\(e≠0\/(e=0/\∃new,nd=([],(piv,(kids,(sums,new++rest))))/\(∀m∈new,GM (g+ks.mv+1) m/\LiesIn (lo,hi) m)/\mvN new=0/\mvs m0=1/\
   wb Γ new<=20*(g+ks.mv+1)+2*(5+48*(Γ+1)))):=fun e he hmv h45 e1 e2=>by
  obtain⟨p1,p2⟩:=U9 he
  have hk:eqi m0.1 4=true\/eqi m0.1 5=true:=by rcases h45 with h | h<;>rw[h]<;>simp[eqi]
  obtain⟨src,s1,s2,s3⟩:=go (preB e.1) (by rw[e1];exact z5k p1) ((SpG.pre p1).mono hg1)
  have hpre:∀x∈src,e.1.isPrefixOf x.1=true:=fun x hx=>by rw[<-z6b p1];exact s3 x hx
  have hsl:=s2.len
  obtain⟨k1,k2,k3⟩:=ydu (G:=Γ) (reg:=(lo,hi)) hg1 he ⟨h45,e1,e2⟩ hr0 s2 hpre (by omega)
  have h9:=ylj (m:=m0) he e1 e2 hk (src:=src) (by omega) fun x hx=>⟨by have:=UU.len (UU.of (s2.key x hx).1);omega,(aP.1 (hpre x hx)).length_le⟩
  have em:z6e NN m0=some true:=by
   simp only[z6e]
   cases e4:eqi m0.1 4
   ·rcases hk with h | h
    ·rw[h]at e4;cases e4
    ·rw[h];rfl
   ·rfl
  have hset:(zbg m0 src).length<=src.length+2:=by unfold zbg;cases eqi m0.1 4<;>simp
  refine⟨([],(piv,(kids,(sums,zbg m0 src++rest)))),0, ?_, .inr ⟨rfl,zbg m0 src,rfl,k1,k2,hmv,k3⟩⟩
  simp only[z6o,s1,ab,zll]
  have e0:rdL (m0::rest) (0:Int) U7=m0:=rfl
  rw[Y3 (by simp[eqi];omega),gd_t (by simp[inB])]
  simp only[e0,em,ab,aS,cond_false,h9]
  rw[gd_t (by simp[inB]),gd_t (by simp;omega),yky,gd_t (Y4 (by omega) (by omega))]
  rfl
 cases hm0 with
 | put k v n hk hv=>exact nomove rfl rfl rfl rfl
 | del k hk=>exact nomove rfl rfl rfl rfl
 | drop x hx=>exact nomove rfl rfl rfl rfl
 | move e he=>exact mover e he rfl (.inl rfl) rfl rfl
 | clone e he=>exact mover e he rfl (.inr rfl) rfl rfl
 | stamp x n hx=>exact nomove rfl rfl rfl rfl
end Ds
