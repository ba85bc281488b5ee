/- How many rounds loops may take: any number from some bound on. -/
import Derived.Test.YtljffhpbdmkplaaGreatDvF
import Derived.KernelRfl
import Derived.Test.YtljffhpbdmkplaaGreatDsPure
import Derived.Test.YtljffhpbdmkplaaGreatDvE
import Derived.Laws.BitsLemmas
set_option linter.all false
open Bool renaming and_eq_false_iff->dn,and_eq_true->ac,and_false->dQ,and_true->bU,eq_iff_iff->eh,false_and->eF,false_or->cD,not_eq_false'->dK,not_eq_true'->aw,not_false->aN,not_true->aR,or_assoc->eK,or_eq_false_iff->cU,or_eq_true->ay,or_false->da,or_self->eO,or_true->eg,true_and->bp,true_or->dm
open Int renaming le_refl->eX,lt_irrefl->aA,tmod->aH,toNat_natCast->dj
open Go.IntKind renaming wrap->aa
open List renaming Nodup->fh,Pairwise->bg,all_cons->bo,all_eq_true->az,any_eq_true->cZ,append_assoc->au,append_eq_nil_iff->dh,append_inj->eW,append_nil->ai,cons_append->aX,contains_iff_mem->dp,count_append->cG,count_cons->dC,count_cons_self->dA,count_eq_zero->db,count_le_length->bF,count_nil->ff,count_pos_iff->bi,dropLast_concat->cV,drop_left->cY,filter_congr->dV,filter_cons_of_neg->bM,filter_cons_of_pos->bT,filter_eq_self->cI,flatMap_cons->cm,flatMap_def->eR,foldl_cons->ba,getElem?_eq_getElem->aI,getElem_cons_succ->di,getElem_cons_zero->d6,getLast?_eq_none_iff->dR,getLast?_eq_some_iff->cX,isPrefixOf_cons₂->ej,isPrefixOf_iff_prefix->aO,length->aq,length_append->ae,length_cons->af,length_drop->aY,length_eq_zero_iff->bN,length_filter_le->cb,length_map->bX,length_nil->ap,length_pos_of_mem->d0,map_cons->ax,map_nil->bK,mem_append->ak,mem_append_left->bm,mem_append_right->bq,mem_cons->am,mem_filter->aB,mem_flatMap->dr,mem_map->aG,mem_singleton->aK,nil_append->aj,nodup_cons->bS,pairwise_append->bD,pairwise_cons->aJ,pairwise_map->cS,prefix_of_prefix_length_le->dk,set_cons_succ->dL,set_cons_zero->eL,sum_cons->bE
open Nat renaming add_assoc->bV,add_zero->bz,ble->ce,le_add_right->bY,le_of_ble_eq_true->bZ,le_refl->al,le_succ->eY,le_trans->aW,lt_of_le_of_lt->bJ,mul_le_mul_left->bc,mul_le_mul_right->bv,not_lt_zero->ag,pow_pos->eV,zero_le->bn
open Option renaming bind_some->ab
namespace Ds
class Fuel where
 n:Nat
 le:100000000000<=n
 big:1000000000000000000000000000000000000000000000000000000000000<=n
abbrev NN [F:Fuel]:Nat:=F.n
theorem W7 [Fuel]:100000000000<=NN:=Fuel.le
theorem yey [Fuel]:1000000000000000000000000000000000000000000000000000000000000<=NN:=Fuel.big
end Ds
namespace Ds
open Go Go.Dv
set_option maxRecDepth 100000000
abbrev B:=List UInt8
variable [Fuel]
def paths:List B:=[[97,47],[98,47],[97,47,98,47],[99,47],[100,47]]
def tails:List B:=[[1],[2,0,0],[2,0,1],[2,0,2],[3,120]]
def keys:List B:=(paths.take 4).flatMap fun p=>tails.map fun t=>p++t
def values:List B:=[[],[120],[121,121],[49,50,51,52,53,54,55,56,57,48],[0,255]]
def ends:List (B×B):=paths.flatMap fun a=>paths.filterMap fun b=>bif (a.isPrefixOf b || b.isPrefixOf a)then none else some (a,b)
def yl2(s:B×B):Bool:=(eqs s.2 [] || lts s.1 s.2)&&decide (s.1.length<=8)&&decide (s.2.length<=8)
inductive Good:Z1->Prop where
 | put (k v:B) (n:Int):k∈keys->v∈values->0<=n->n<8->Good ((1:Int),k,v,(([]:B),([]:B)),([]:B),([]:B),n)
 | del (k:B):k∈keys->Good ((2:Int),k,([]:B),(([]:B),([]:B)),([]:B),([]:B),(0:Int))
 | drop (s:B×B):yl2 s=true->Good ((3:Int),([]:B),([]:B),(s.1,s.2),([]:B),([]:B),(0:Int))
 | move (e:B×B):e∈ends->Good ((4:Int),([]:B),([]:B),(([]:B),([]:B)),e.1,e.2,(0:Int))
 | clone (e:B×B):e∈ends->Good ((5:Int),([]:B),([]:B),(([]:B),([]:B)),e.1,e.2,(0:Int))
 | stamp (s:B×B) (n:Int):yl2 s=true->0<=n->n<8->Good ((6:Int),([]:B),([]:B),(s.1,s.2),([]:B),([]:B),n)
theorem y88{n:Int}(h0:0<=n)(h1:n<256):∃p,zam NN n=some p/\p∈paths:=by
 obtain⟨p,h,hp⟩:=yen (f:=zam NN) (p:=fun x=>paths.contains x) (by kernel_rfl) h0 h1
 exact⟨p,h,by simpa using hp⟩
theorem ylj{n:Int}(h0:0<=n)(h1:n<256):∃p,zk9 NN n=some p/\p∈keys:=by
 obtain⟨p,h,hp⟩:=yen (f:=zk9 NN) (p:=fun x=>keys.contains x) (by kernel_rfl) h0 h1
 exact⟨p,h,by simpa using hp⟩
theorem yj5{n:Int}(h0:0<=n)(h1:n<256):∃p,zik NN n=some p/\p∈values:=by
 obtain⟨p,h,hp⟩:=yen (f:=zik NN) (p:=fun x=>values.contains x) (by kernel_rfl) h0 h1
 exact⟨p,h,by simpa using hp⟩
abbrev Pr:=Z3
def hasB(s:Z0)(k:B):Bool:=bif !(lts k s.1)then(bif eqs s.2 []then true else lts k s.2)else false
theorem ym3(a b:B):(lts a b || eqs a b)= !(lts b a):=by
 rcases lts_tri a b with h | rfl | h
 ·rw[h,z09 h];rfl
 ·rw[z5z,G7];rfl
 ·rw[h,z09 h,zh3 (zf9 h).symm];rfl
def y23(p:Pr):Bool->List Pr->List Pr
 | d,[]=>bif d then[]else[p]
 | d,q::t=>(bif !d&& !(lts q.1 p.1)then[p]else[])++((bif !(eqs q.1 p.1)then[q]else[])++y23 p (d || !(lts q.1 p.1)) t)
def z8s(p:Pr):Bool->List Pr->Bool
 | d,[]=>d
 | d,q::t=>z8s p (d || !(lts q.1 p.1)) t
def zgz(p:Pr):Bool->List Pr->List Pr
 | d,[]=>[]
 | d,q::t=>(bif !d&& !(lts q.1 p.1)then[p]else[])++((bif !(eqs q.1 p.1)then[q]else[])++zgz p (d || !(lts q.1 p.1)) t)
theorem ybc(p:Pr):∀(t:List Pr) (d:Bool),y23 p d t=zgz p d t++(bif z8s p d t then[]else[p])
 | [],d=>by cases d<;>rfl
 | q::t,d=>by simp only[y23,zgz,z8s,ybc p t];simp[au]
theorem yl9(N:Nat)(p:Pr):∀(post pre:List Pr) (n:Nat) (d:Bool) (out:List Pr),post.length<n->(pre++post).length<1000000000->out.length+2*post.length<1000000000->
  z1f N n (pre++post) d (pre.length:Int) p out=some (((),((),z8s p d post)),(p,(out++zgz p d post,())))
 | [],pre,n+1,d,out,_,_,_=>by
  rw[zd4]
  simp only[z0u,ai,aA,decide_false,cond_false,z8s,zgz]
  try rfl
 | [],pre,0,d,out,h,_,_=>absurd h (ag _)
 | q::post,pre,0,d,out,h,_,_=>absurd h (ag _)
 | q::post,pre,n+1,d,out,hn,hl,ho=>by
  have ih:=fun d out=>yl9 N p post (pre++[q]) n d out (by simp at hn;omega) (by simpa using hl)
  have hl':pre.length<9223372036854775807:=by simp at hl;omega
  have p1:∀(d:Bool) (out:List Pr),out.length<1000000000->z1e N (pre++q::post) d (pre.length:Int) p out=
    some (((pre++q::post),((),((),(d,(pre.length:Int))))),(p,(out++(bif !(eqs q.1 p.1)then[q]else[]),()))):=by
   intro d out ho
   simp only[z1e,V4,U0]
   rw[gd_t rfl]
   cases e:eqs q.1 p.1
   ·have e':eqs q.1 p.1=false:=e
    simp only[e',aN,cond_true]
    rw[gd_t rfl,gd_t (Y4 (by first | omega | (simp;omega)) (by omega))]
    try rfl
   ·have e':eqs q.1 p.1=true:=e
    simp only[e',aR,cond_false,ai]
    try rfl
  have go:∀(d:Bool) (out:List Pr),out.length+1+2*post.length<1000000000->(match z1e N (pre++q::post) d (pre.length:Int) p out with
    | some r4=>(let x5:=(aa .i64 (r4.1.2.2.2.2+(1:Int)))
     z1f N n r4.1.1 r4.1.2.2.2.1 x5 r4.2.1 r4.2.2.1)
    | none=>none)=some (((),((),z8s p d post)),(p,((out++(bif !(eqs q.1 p.1)then[q]else[]))++zgz p d post,()))):=by
   intro d out ho
   rw[p1 d out (by omega)]
   simp only
   rw[W8 (q:=q) hl',V9]
   exact ih d _ (by cases eqs q.1 p.1<;>simp<;>omega)
  rw[zd4]
  simp only[z0u,U3,V4,cond_true,U0,ym3]
  rw[gd_t rfl]
  simp only[af]at ho
  cases d
  all_goals simp only[aR,aN,cond_true,cond_false]
  ·cases e:lts q.1 p.1
   ·have e':lts q.1 p.1=false:=e
    rw[gd_t (Y4 (by omega) (by omega))]
    refine(go true (out++[p]) (by simp;omega)).trans ?_
    simp only[z8s,zgz,e',aN,Bool.and_self,cond_true,eg]
    simp[au]
   ·have e':lts q.1 p.1=true:=e
    refine(go false out (by omega)).trans ?_
    simp only[z8s,zgz,e',aR,aN,dQ,cond_false,da]
    simp[au]
  ·refine(go true out (by omega)).trans ?_
   simp only[z8s,zgz,aR,eF,cond_false,dm]
   simp[au]
theorem zu6(p:Pr):∀(t:List Pr),z8s p true t=true
 | []=>rfl
 | q::t=>by simp only[z8s,dm];exact zu6 p t
theorem zrx(p:Pr):∀(t:List Pr) (d:Bool),(zgz p d t).length<=t.length+(bif d then 0 else bif z8s p d t then 1 else 0)
 | [],d=>by simp[zgz]
 | q::t,d=>by
  have i1:=zrx p t true
  have i2:=zrx p t false
  have i3:=zu6 p t
  simp only[cond_true,cond_false]at i1 i2
  simp only[zgz,z8s,ae,af]
  cases d<;>cases lts q.1 p.1<;>cases eqs q.1 p.1<;>simp[i3]<;>omega
theorem ypi(N:Nat)(p:Pr)(t:List Pr)(hN:t.length<N)(ht:t.length<100000000):z96 N t p=some (y23 p false t):=by
 have h:=yl9 N p t [] N false [] hN (by simpa using(by omega)) (by simp;omega)
 have hl:=zrx p t false
 have e:=ybc p t false
 rw[e]
 have h':z1f N N t false (0:Int) p []=_:=h
 simp only[z96,h']
 cases ed:z8s p false t
 ·simp only[aN,cond_true,aj,cond_false]
  rw[gd_t (Y4 (by simp[ed]at hl;omega) (by omega))]
  try rfl
 ·simp only[aR,cond_true,aj,cond_false,ai]
def emptyB(s:B×B):Bool:= !(eqs s.2 [])&&(lts s.2 s.1 || eqs s.2 s.1)
theorem z2z(N:Nat)(s:Z0):z07 N s=some (emptyB s):=by
 simp only[z07,emptyB];cases eqs s.2 []<;>rfl
theorem zhy{s:B×B}(h:emptyB s=true)(k:B):hasB s k=false:=by
 simp only[emptyB,ac,aw,ay]at h
 simp only[hasB,h.1]
 cases e:lts k s.1
 ·simp only[aN,cond_true,cond_false]
  rcases h.2 with h | h
  ·cases e2:lts k s.2
   ·rfl
   ·have:=K8 e2 h;rw[e]at this;cases this
  ·rw[K5.1 h];exact e
 ·rfl
theorem y21(p:Pr):∀t:List Pr,y23 p true t=t.filter (fun q=> !(eqs q.1 p.1))
 | []=>rfl
 | q::t=>by
  simp only[y23,aR,eF,cond_false,aj,dm,y21 p t]
  cases e:eqs q.1 p.1
  ·rw[bT (by simp[e])];rfl
  ·rw[bM (by simp[e])];rfl
theorem y22(p:Pr):∀{t:List Pr},Srt t->y23 p false t=insT p t
 | [],_=>rfl
 | q::t,hs=>by
  obtain⟨h1,h2⟩:=aJ.1 hs
  have ih:=y22 p h2
  have all:lts q.1 p.1=false->t.filter (fun x=>lts x.1 p.1)=[]/\t.filter (fun x=> !(eqs x.1 p.1))=t/\t.filter (fun x=>lts p.1 x.1)=t:=by
   intro e
   have hx:∀x∈t,lts p.1 x.1=true:=fun x hx=>y98 e (h1 x hx)
   exact⟨List.filter_eq_nil_iff.2 fun x h=>by simp[z09 (hx x h)],cI.2 fun x h=>by rw[zh3 (zf9 (hx x h)).symm];rfl,cI.2 fun x h=>hx x h⟩
  simp only[y23,aN,bp,cD,insT]
  cases e:lts q.1 p.1
  ·obtain⟨a1,a2,a3⟩:=all e
   simp only[aN,cond_true,y21]
   rw[bM (by simp[e]),a1,a2]
   rcases lts_tri p.1 q.1 with g | g | g
   ·rw[zh3 (zf9 g).symm,bT (by simp[g]),a3];rfl
   ·rw[<-g,z5z,bM (by rw[<-g,G7];simp),a3];rfl
   ·rw[e]at g;cases g
  ·have hne:eqs q.1 p.1=false:=zh3 (zf9 e)
   simp only[aR,cond_false,hne,aN,cond_true,aj]
   rw[bT (by simp[e]),bM (by rw[z09 e];simp),ih]
   rfl
def uniT{V:Type}(a b:List (B×V)):List (B×V):=b.foldl (fun t p=>insT p t) a
theorem yaj{V:Type}{a:List (B×V)}(b:List (B×V))(h:Srt a):Srt (uniT a b):=by
 unfold uniT
 induction b generalizing a with
 | nil=>exact h
 | cons p b ih=>exact ih (h.insT p)
theorem yak{V:Type}{a b:List (B×V)}(hb:Srt b)(k:B):fnd (uniT a b) k=match fnd b k with | some v=>some v | none=>fnd a k:=by
 unfold uniT
 induction b generalizing a with
 | nil=>rfl
 | cons p b ih=>
  obtain⟨h1,h2⟩:=aJ.1 hb
  rw[ba,ih h2,yk4]
  simp only[fnd]
  cases e:eqs p.1 k
  ·rfl
  ·have:=K5.1 e;subst this
   rw[zoi fun x hx=>(zf9 (h1 x hx)).symm];rfl
theorem yk8{α:Type}(x:α)(xs:List α):cut2 (x::xs) (1:Int) ((x::xs).length:Int)=xs:=by
 simp[cut2]
abbrev Mg:=Z1
abbrev Sp:=Z0
theorem y8n(k:B)(n:Nat):cut2 k (0:Int) (n:Int)=k.take n:=by simp[cut2]
theorem zok(k:B)(n:Nat):cut2 k (n:Int) (k.length:Int)=k.drop n:=by
 simp only[cut2,dj]
 exact List.take_of_length_le (by simp)
theorem yjh(p k:B):(decide (p.length<=k.length)&&eqs (k.take p.length) p)=p.isPrefixOf k:=by
 rw[eh]
 simp only[ac,decide_eq_true_eq,K5,aO]
 constructor
 ·rintro⟨_,h⟩;exact h▸List.take_prefix _ _
 ·intro h;exact⟨h.length_le,(List.prefix_iff_eq_take.1 h).symm⟩
theorem zyd(c:UInt8)(hc:c.toNat<255):∀(i k:B),(bif !(lts k (i++[c]))then lts k (i++[c+1])else false)=(i++[c]).isPrefixOf k
 | [],[]=>rfl
 | [],b::r=>by
  have h1:(c+1).toNat=c.toNat+1:=by rw[UInt8.toNat_add];simp;omega
  simp only[aj,zc4,zme,dQ,da,ej,List.isPrefixOf_nil_left,bU]
  have e1:decide (b<c)=decide (b.toNat<c.toNat):=rfl
  have e2:decide (b<c+1)=decide (b.toNat<c.toNat+1):=by rw[<-h1];rfl
  have e3:(c==b)=decide (c.toNat=b.toNat):=by
   rw[eh];simp[UInt8.toNat_inj]
  rw[e1,e2,e3]
  by_cases g1:b.toNat<c.toNat
  ·simp[g1];omega
  ·by_cases g2:b.toNat<c.toNat+1
   ·simp[g1,g2];omega
   ·simp[g1,g2];omega
 | a::i,[]=>rfl
 | a::i,b::r=>by
  have ih:=zyd c hc i r
  simp only[aX,zc4,ej,<-ih]
  rcases u8_tri a b with h | rfl | h
  ·have h2:¬b<a:=fun g=>UInt8.lt_irrefl _ (UInt8.lt_trans h g)
   have h3:(b==a)=false:=by simp;rintro rfl;exact h2 h
   have h4:(a==b)=false:=by simp;rintro rfl;exact h2 h
   simp[h2,h3,h4]
  ·simp[UInt8.lt_irrefl]
  ·have h4:(a==b)=false:=by simp;rintro rfl;exact UInt8.lt_irrefl _ h
   simp[h,h4]
def preB(p:B):B×B:=(p,p.dropLast++[48])
theorem z9b{p:B}(hp:p∈paths):p=p.dropLast++[47]/\p.length<=4:=by
 have h:(paths.all fun p=>eqs p (p.dropLast++[47])&&ce p.length 4)=true:=by decide
 have:=az.1 h p hp
 simp only[ac]at this
 exact⟨K5.1 this.1,bZ this.2⟩
theorem z5y{p:B}(hp:p∈paths)(k:B):hasB (preB p) k=p.isPrefixOf k:=by
 have e:=(z9b hp).1
 have h:=zyd 47 (by decide) p.dropLast k
 rw[<-e]at h
 rw[<-h]
 have:eqs (p.dropLast++[48]) []=false:=zh3 (by simp)
 simp only[hasB,preB,this,cond_false]
 rfl
theorem U9{e:B×B}(he:e∈ends):e.1∈paths/\e.2∈paths:=by
 have h:(ends.all fun e=>paths.contains e.1&&paths.contains e.2)=true:=by decide+kernel
 have:=az.1 h e he
 simpa using this
structure Ok (n L:Nat) (t:List Pr):Prop where
 srt:Srt t
 len:t.length<=n
 key:∀p∈t,p.1.length<=L
theorem insT_mem{V:Type}{p x:B×V}{t:List (B×V)}(h:x∈insT p t):x=p\/x∈t:=by
 unfold insT at h
 rcases ak.1 h with h | h
 ·exact .inr (aB.1 h).1
 ·rcases am.1 h with h | h
  ·exact .inl h
  ·exact .inr (aB.1 h).1
def stp(s:B×B)(n:Int)(p:Pr):Pr:=bif hasB s p.1 then(p.1,p.2.1,n)else p
def app(m:Mg)(t:List Pr):List Pr:=
 bif eqi m.1 1 then insT (m.2.1,m.2.2.1,m.2.2.2.2.2.2) t else
 bif eqi m.1 2 then t.filter (fun p=> !(hasB (m.2.1,m.2.1++[0]) p.1))else
 bif eqi m.1 3 then t.filter (fun p=> !(hasB m.2.2.2.1 p.1))else
 bif eqi m.1 4 then(uniT (t.filter fun p=> !(hasB (preB m.2.2.2.2.2.1) p.1)) (mvd m.2.2.2.2.1 m.2.2.2.2.2.1 t)).filter (fun p=> !(hasB (preB m.2.2.2.2.1) p.1))else
 bif eqi m.1 5 then uniT (t.filter fun p=> !(hasB (preB m.2.2.2.2.2.1) p.1)) (mvd m.2.2.2.2.1 m.2.2.2.2.2.1 t)else
 bif eqi m.1 6 then t.map (stp m.2.2.2.1 m.2.2.2.2.2.2)else t
abbrev y94(k v:B)(n:Int):Mg:=(1,k,v,([],[]),[],[],n)
abbrev ylm(k:B):Mg:=(2,k,[],([],[]),[],[],0)
abbrev zc6(s:B×B):Mg:=(3,[],[],s,[],[],0)
abbrev mv(k:Int)(e:B×B):Mg:=(k,[],[],([],[]),e.1,e.2,0)
abbrev zkk(s:B×B)(n:Int):Mg:=(6,[],[],s,[],[],n)
section one
variable {n L:Nat} {t:List Pr} (h:Ok n L t) (hn:n+4<NN) (hL:L<1000000000)
include h hn
include hL
end one
def apps(ms:List Mg)(t:List Pr):List Pr:=ms.foldl (fun t m=>app m t) t
theorem yo8{α:Type}(xs:List α)(i:Int)(d:α)(h0:0<=i)(h1:i<(xs.length:Int)):∃(h:i.toNat<xs.length),rdL xs i d=xs[i.toNat]'h:=by
 have h:i.toNat<xs.length:=by omega
 refine⟨h, ?_⟩
 simp[rdL,List.getD,h]
theorem walk{α S R:Type}{xs:List α}{L:Nat->Int->S->Option R}(g:S->α->S)(fin:S->R)(I:S->List α->Prop)
  (hend:∀n s,I s []->L (n+1) (xs.length:Int) s=some (fin s))
  (hstep:∀n pre x post s,xs=pre++x::post->I s (x::post)->L (n+1) (pre.length:Int) s=L n ((pre++[x]).length:Int) (g s x)/\I (g s x) post):
  ∀post pre n s,xs=pre++post->post.length<n->I s post->L n (pre.length:Int) s=some (fin (post.foldl g s))/\I (post.foldl g s) []
 | _,_,0,_,_,h,_=>absurd h (ag _)
 | [],pre,n+1,s,hx,_,hi=>by
  have:xs=pre:=by simpa using hx
  subst this
  exact⟨hend n s hi,hi⟩
 | x::post,pre,n+1,s,hx,hn,hi=>by
  obtain⟨h1,h2⟩:=hstep n pre x post s hx hi
  have ih:=walk g fin I hend hstep post (pre++[x]) n (g s x) (by rw[hx];simp) (by simpa using hn) h2
  exact⟨h1.trans ih.1,ih.2⟩
theorem y8x{α S R:Type}{xs:List α}{L:Nat->Int->S->Option R}(g:S->α->S)(fin:S->R)(I:S->List α->Prop)
  (hend:∀n s,I s []->L (n+1) (xs.length:Int) s=some (fin s))
  (hstep:∀n pre x post s,xs=pre++x::post->I s (x::post)->L (n+1) (pre.length:Int) s=L n ((pre++[x]).length:Int) (g s x)/\I (g s x) post)
  {n:Nat} {s:S} (hn:xs.length<n) (hi:I s xs):L n 0 s=some (fin (xs.foldl g s)):=
 (walk g fin I hend hstep xs [] n s rfl hn hi).1
abbrev Big(n:Nat):Prop:=n<1000000000
def inS(l:List Sp)(k:B):Bool:=l.any fun s=>hasB s k
theorem yfi(N:Nat)(s:Sp)(k:B):zb5 N s k=some (hasB s k):=by
 simp only[zb5,hasB]
 cases lts k s.1<;>cases eqs s.2 []<;>rfl
theorem yok(N:Nat)(k:B):∀(post pre:List Sp) (n:Nat),post.length<n->Big (pre++post).length->
  zdt N n (pre++post) k (pre.length:Int)=some (bif inS post k then .inl (true,())else .inr ((),()))
 | _,_,0,h,_=>absurd h (ag _)
 | [],pre,n+1,_,_=>by
  rw[zju]
  simp only[z5e,ai,aA,decide_false,cond_false]
  rfl
 | q::post,pre,n+1,hn,hl=>by
  simp only[af]at hn
  have hl':pre.length<9223372036854775807:=by simp[Big]at hl;omega
  rw[zju]
  simp only[z5e,U3,V4,cond_true,U0,yfi]
  rw[gd_t rfl]
  cases e:hasB q k
  ·rw[cond_false,W8 (q:=q) hl',V9 (pre:=pre) (q:=q) (post:=post),yok N k post (pre++[q]) n (by omega) (by simpa using hl)]
   simp[inS,e]
  ·simp[inS,e]
theorem yp5(N:Nat)(l:List Sp)(k:B)(hN:l.length<N)(hl:Big l.length):zof N l k=some (inS l k):=by
 have h:=yok N k l [] N hN (by simpa using hl)
 have hz:(([]:List Sp).length:Int)=0:=rfl
 simp only[aj,hz]at h
 simp only[zof,h]
 cases inS l k<;>rfl
theorem y3y{α:Type}(f:α->Bool)(xs out:List α):xs.foldl (fun o x=>bif f x then o++[x]else o) out=out++xs.filter f:=by
 induction xs generalizing out with
 | nil=>simp
 | cons x xs ih=>
  rw[ba,ih]
  cases e:f x<;>simp[e]
theorem ye9(N:Nat)(t:List Pr)(l:List Sp)(hN:t.length<N)(hl:l.length<N)(ht:Big t.length)(hl':Big l.length):z50 N t l=some (t.filter fun p=> !(inS l p.1)):=by
 have h:=y8x (xs:=t) (L:=fun n i s=>z5d N n t l i s) (fun o x=>bif !(inS l x.1)then o++[x]else o) (fun s=>((),(s,()))) (fun s post=>s.length+post.length<1000000000)
  (fun n s _=>by
   rw[zc1]
   simp only[z06,aA,decide_false,cond_false])
  (fun n pre x post s hx hi=>by
   have hb:pre.length<9223372036854775807:=by rw[hx]at ht;simp[Big]at ht;omega
   simp only[af]at hi
   rw[zc1]
   rw[hx]
   simp only[z06,U3,V4,cond_true,U0,yp5 N l _ hl hl']
   rw[gd_t rfl]
   cases inS l x.1
   ·simp only[aN,cond_true]
    rw[gd_t rfl,gd_t (Y4 (by omega) (by omega)),W8 (q:=x) hb]
    exact⟨rfl,by simp;omega⟩
   ·simp only[aR,cond_false]
    rw[W8 (q:=x) hb]
    exact⟨rfl,by omega⟩)
  hN (by simpa using ht) (s:=[])
 simp only[z50,h,y3y,aj]
theorem yi4(N:Nat)(t:List Pr)(l:List Sp)(hN:t.length<N)(hl:l.length<N)(ht:Big t.length)(hl':Big l.length):zfm N t l=some (t.filter fun p=>inS l p.1):=by
 have h:=y8x (xs:=t) (L:=fun n i s=>z6s N n t l i s) (fun o x=>bif inS l x.1 then o++[x]else o) (fun s=>((),(s,()))) (fun s post=>s.length+post.length<1000000000)
  (fun n s _=>by
   rw[zd2]
   simp only[z0r,aA,decide_false,cond_false])
  (fun n pre x post s hx hi=>by
   have hb:pre.length<9223372036854775807:=by rw[hx]at ht;simp[Big]at ht;omega
   simp only[af]at hi
   rw[zd2]
   rw[hx]
   simp only[z0r,U3,V4,cond_true,U0,yp5 N l _ hl hl']
   rw[gd_t rfl]
   cases inS l x.1
   ·simp only[cond_false]
    rw[W8 (q:=x) hb]
    exact⟨rfl,by omega⟩
   ·simp only[cond_true]
    rw[gd_t rfl,gd_t (Y4 (by omega) (by omega)),W8 (q:=x) hb]
    exact⟨rfl,by simp;omega⟩)
  hN (by simpa using ht) (s:=[])
 simp only[zfm,h,y3y,aj]
theorem y7h(N:Nat){t:List Pr}(p:Pr)(hs:Srt t)(hN:t.length<N)(ht:t.length<100000000):z96 N t p=some (insT p t):=by
 rw[ypi N p t hN ht,y22 p hs]
theorem ydu{e:B×B}(he:e∈ends)(k:B)(h1:e.1.isPrefixOf k=true):e.2.isPrefixOf k=false:=by
 have h:(ends.all fun e=> !(e.1.isPrefixOf e.2)&& !(e.2.isPrefixOf e.1))=true:=by decide+kernel
 have hh:=az.1 h e he
 simp only[ac,aw]at hh
 cases h2:e.2.isPrefixOf k
 ·rfl
 ·have p1:=aO.1 h1
  have p2:=aO.1 h2
  rcases Nat.le_total e.1.length e.2.length with hl | hl
  ·have:=aO.2 (dk p1 p2 hl)
   rw[this]at hh;cases hh.1
  ·have:=aO.2 (dk p2 p1 hl)
   rw[this]at hh;cases hh.2
theorem zrw(N:Nat)(k p:B):j0 N k p=some (p.isPrefixOf k):=by
 simp only[j0,<-yjh]
 by_cases h:p.length<=k.length
 ·rw[X4 (by simp;omega),gd_t (by simp;omega),y8n]
  simp[h]
 ·rw[Y3 (by simp;omega)]
  simp[h]
theorem yh2(N:Nat)(k p q:B)(hk:k.length<1000000000)(hq:q.length<1000000000):zio N k p q=some (bif p.isPrefixOf k then(q++k.drop p.length,true)else([],false)):=by
 simp only[zio,zrw]
 cases e:p.isPrefixOf k
 ·rfl
 ·have h:p.length<=k.length:=(aO.1 e).length_le
  simp only[aR,cond_false,cond_true]
  rw[gd_t (by simp;omega),zok,gd_p (by simp only[maxS,aY];omega)]
theorem in1(s:Sp)(k:B):inS [s] k=hasB s k:=by simp[inS]
theorem y64(N:Nat)(m:Mg):∀(post pre:List Pr) (n:Nat),post.length<n->(pre++post).length<1000000000->
  z87 N n (pre.length:Int) m (pre++post)=some ((),(pre++post.map (stp m.2.2.2.1 m.2.2.2.2.2.2),()))
 | _,_,0,h,_=>absurd h (ag _)
 | [],pre,n+1,_,_=>by
  rw[zew]
  simp only[z29,ai,aA,decide_false,cond_false,bK]
 | x::post,pre,n+1,hn,hl=>by
  simp only[af]at hn
  have hl':pre.length<9223372036854775807:=by simp at hl;omega
  rw[zew]
  simp only[z29,U3,V4,cond_true,U0,yfb,yfi]
  rw[gd_t rfl]
  have ih:=fun y:Pr=>y64 N m post (pre++[y]) n (by omega) (by simp at hl|-;omega)
  cases e1:hasB m.2.2.2.1 x.1
  ·rw[cond_false,W8 (q:=x) hl',V9 (pre:=pre) (q:=x) (post:=post),ih x]
   simp[stp,e1]
  ·rw[cond_true,gd_t rfl,W8 (q:=(x.1,x.2.1,m.2.2.2.2.2.2)) hl',V9 (pre:=pre) (q:=(x.1,x.2.1,m.2.2.2.2.2.2)) (post:=post),ih]
   simp[stp,e1]
def lessB(a b:B):Bool:= !(eqs a [])&&(eqs b [] || lts a b)
theorem y8g(N:Nat)(a b:B):zd7 N a b=some (lessB a b):=by
 simp only[zd7,lessB]
 cases eqs a []<;>cases eqs b []<;>rfl
def ydl(a b:B):B:=bif !(lts a b)then a else b
def y2e(a b:Sp):Sp:=(ydl a.1 b.1,bif lessB b.2 a.2 then b.2 else a.2)
def G6(a b:Sp):Sp:=bif emptyB (y2e a b)then([97],[97])else y2e a b
theorem zkm(N:Nat)(a b:Sp):z2l N a b=some (G6 a b):=by
 simp only[z2l,y8g,z2z,zls,G6,y2e,ydl]
 cases lessB b.2 a.2
 ·simp only[cond_false]
  cases emptyB (bif !lts a.1 b.1 then a.1 else b.1,a.2)<;>rfl
 ·simp only[cond_true]
  cases emptyB (bif !lts a.1 b.1 then a.1 else b.1,b.2)<;>rfl
def belowB(k h:B):Bool:=eqs h [] || lts k h
theorem U1(s:Sp)(k:B):hasB s k=(!(lts k s.1)&&belowB k s.2):=by
 simp only[hasB,belowB]
 cases lts k s.1<;>cases eqs s.2 []<;>rfl
theorem yn6(a b k:B):lts k (ydl a b)=(lts k a || lts k b):=by
 unfold ydl
 cases e:lts a b
 ·simp only[aN,cond_true]
  cases e2:lts k b
  ·simp
  ·rw[zkn e2 e];rfl
 ·simp only[aR,cond_false]
  cases e2:lts k a
  ·rfl
  ·rw[K8 e2 e];rfl
theorem zyw{a b k:B}(h:lessB a b=true)(hk:belowB k a=true):belowB k b=true:=by
 simp only[lessB,belowB,ac,ay,aw]at h hk|-
 obtain⟨h1,h2⟩:=h
 rcases hk with hk | hk
 ·rw[h1]at hk;cases hk
 ·rcases h2 with h2 | h2
  ·exact .inl h2
  ·exact .inr (K8 hk h2)
theorem zl2{a b k:B}(h:lessB a b=false)(hk:belowB k b=true):belowB k a=true:=by
 simp only[lessB,belowB,ay,dn,cU,dK]at h hk|-
 rcases h with h | ⟨h1,h2⟩
 ·exact .inl h
 ·rcases hk with hk | hk
  ·rw[h1]at hk;cases hk
  ·exact .inr (zkn hk h2)
theorem yhh(a b k:B):belowB k (bif lessB b a then b else a)=(belowB k a&&belowB k b):=by
 cases e:lessB b a
 ·simp only[cond_false]
  cases e2:belowB k a
  ·rfl
  ·rw[zl2 e e2];rfl
 ·simp only[cond_true]
  cases e2:belowB k b
  ·simp
  ·rw[zyw e e2];rfl
theorem zc3(a b:Sp)(k:B):hasB (G6 a b) k=(hasB a k&&hasB b k):=by
 have h:hasB (y2e a b) k=(hasB a k&&hasB b k):=by
  rw[U1,U1,U1]
  simp only[y2e,yn6,yhh]
  cases lts k a.1<;>cases lts k b.1<;>cases belowB k a.2<;>cases belowB k b.2<;>rfl
 unfold G6
 cases e:emptyB (y2e a b)
 ·exact h
 ·rw[<-h,zhy e,cond_true,zhy (by decide)]
def sMid(s:Sp):Bool->List Sp->List Sp
 | _,[]=>[]
 | d,q::l=>bif !d&&lts s.1 q.1 then s::q::sMid s true l else q::sMid s d l
def sDone(s:Sp):Bool->List Sp->Bool
 | d,[]=>d
 | d,q::l=>bif !d&&lts s.1 q.1 then sDone s true l else sDone s d l
def sIns(s:Sp)(l:List Sp):List Sp:=sMid s (emptyB s) l++bif sDone s (emptyB s) l then[]else[s]
theorem zgw(s:Sp):∀l,sMid s true l=l/\sDone s true l=true
 | []=>⟨rfl,rfl⟩
 | q::l=>by
  obtain⟨h1,h2⟩:=zgw s l
  simp[sMid,sDone,h1,h2]
theorem yb0(s:Sp):∀(l:List Sp),(sMid s false l).length<=l.length+1/\(sMid s false l).length+(bif sDone s false l then 0 else 1)<=l.length+1
 | []=>by simp[sMid,sDone]
 | q::l=>by
  have i1:=zgw s l
  obtain⟨i2,i3⟩:=yb0 s l
  simp only[sMid,sDone,aN,bp]
  cases lts s.1 q.1
  ·simp only[cond_false,af]
   omega
  ·simp only[cond_true,i1.1,i1.2,af]
   omega
theorem yb1(s:Sp)(l:List Sp):(sMid s (emptyB s) l).length<=l.length+1/\(sIns s l).length<=l.length+1:=by
 unfold sIns
 cases emptyB s
 ·obtain⟨i2,i3⟩:=yb0 s l
  refine⟨i2, ?_⟩
  rw[ae]
  cases e:sDone s false l<;>rw[e]at i3<;>simp only[cond_true,cond_false,ap,af]at i3⊢<;>omega
 ·obtain⟨i1,i2⟩:=zgw s l
  rw[i1,i2]
  simp
theorem y6t(N:Nat)(s:Sp):∀(post pre:List Sp) (n:Nat) (d:Bool) (out:List Sp),post.length<n->Big (pre++post).length->out.length+2*post.length<1000000000->
  z6u N n (pre++post) d (pre.length:Int) s out=some (((),((),sDone s d post)),(s,(out++sMid s d post,())))
 | _,_,0,_,_,h,_,_=>absurd h (ag _)
 | [],pre,n+1,d,out,_,_,_=>by
  rw[zd5]
  simp only[z0v,ai,aA,decide_false,cond_false,sDone,sMid]
 | q::post,pre,n+1,d,out,hn,hl,ho=>by
  simp only[af]at hn ho
  have hl':pre.length<9223372036854775807:=by simp[Big]at hl;omega
  have ih:=fun d out=>y6t N s post (pre++[q]) n d out (by omega) (by simpa using hl)
  rw[zd5]
  simp only[z0v,U3,V4,cond_true,U0]
  cases d
  ·simp only[aN,cond_true]
   rw[gd_t rfl]
   cases e:lts s.1 q.1
   ·simp only[cond_false]
    rw[gd_t rfl,gd_t (Y4 (by omega) (by omega)),W8 (q:=q) hl',V9 (pre:=pre) (q:=q) (post:=post),ih false (out++[q]) (by simp;omega)]
    simp[sMid,sDone,e]
   ·simp only[cond_true]
    rw[gd_t (Y4 (by omega) (by omega)),gd_t rfl,gd_t (Y4 (by simp;omega) (by omega)),W8 (q:=q) hl',V9 (pre:=pre) (q:=q) (post:=post),ih true (out++[s]++[q]) (by simp;omega)]
    simp[sMid,sDone,e]
  ·simp only[aR,cond_false]
   rw[gd_t rfl,gd_t (Y4 (by omega) (by omega)),W8 (q:=q) hl',V9 (pre:=pre) (q:=q) (post:=post),ih true (out++[q]) (by simp;omega)]
   simp[sMid,sDone]
theorem y6s(N:Nat)(l:List Sp)(s:Sp)(hN:l.length<N)(hl:l.length<100000000):zfp N l s=some (sIns s l):=by
 have h:=y6t N s l [] N (emptyB s) [] hN (by simp only[aj,Big];omega) (by simp;omega)
 have hz:(([]:List Sp).length:Int)=0:=rfl
 simp only[aj,hz]at h
 have hm:=(yb1 s l).1
 simp only[zfp,z2z,h,sIns]
 cases sDone s (emptyB s) l
 ·simp only[aN,cond_true,cond_false]
  rw[gd_t (Y4 (by omega) (by omega))]
 ·simp
structure Nrm (l:List Sp):Prop where
 ord:l.Pairwise fun a b=>lts b.1 a.1=false
 full:∀s∈l,emptyB s=false
theorem zrn(s:Sp):∀l:List Sp,Nrm l->emptyB s=false->Nrm (sMid s false l++bif sDone s false l then[]else[s])/\(∀x,x∈(sMid s false l++bif sDone s false l then[]else[s])↔x=s\/x∈l)
 | [],h,hs=>⟨⟨by simp[sMid,sDone],fun x hx=>by simp[sMid,sDone]at hx;rw[hx];exact hs⟩,fun x=>by simp[sMid,sDone]⟩
 | q::l,h,hs=>by
  obtain⟨o1,o2⟩:=aJ.1 h.ord
  cases e:lts s.1 q.1
  ·obtain⟨i1,i2⟩:=zrn s l ⟨o2,fun x hx=>h.full x (by simp[hx])⟩ hs
   have e1:(sMid s false (q::l)++bif sDone s false (q::l)then[]else[s])=q::(sMid s false l++bif sDone s false l then[]else[s]):=by simp[sMid,sDone,e]
   rw[e1]
   refine⟨⟨aJ.2 ⟨fun x hx=> ?_,i1.ord⟩,fun x hx=> ?_⟩,fun x=> ?_⟩
   ·rcases(i2 x).1 hx with rfl | hx
    ·exact e
    ·exact o1 x hx
   ·rcases am.1 hx with rfl | hx
    ·exact h.full _ (by simp)
    ·exact i1.full x hx
   ·rw[am,i2,am]
    constructor
    ·rintro(h | h | h)
     ·exact .inr (.inl h)
     ·exact .inl h
     ·exact .inr (.inr h)
    ·rintro(h | h | h)
     ·exact .inr (.inl h)
     ·exact .inl h
     ·exact .inr (.inr h)
  ·obtain⟨m1,m2⟩:=zgw s l
   have e1:(sMid s false (q::l)++bif sDone s false (q::l)then[]else[s])=s::q::l:=by simp[sMid,sDone,e,m1,m2]
   rw[e1]
   refine⟨⟨aJ.2 ⟨fun x hx=> ?_,h.ord⟩,fun x hx=> ?_⟩,fun x=>am⟩
   ·rcases am.1 hx with rfl | hx
    ·exact z09 e
    ·cases e2:lts x.1 s.1
     ·rfl
     ·have:=K8 e2 e;rw[o1 x hx]at this;cases this
   ·rcases am.1 hx with rfl | hx
    ·exact hs
    ·exact h.full x hx
theorem y1v(s:Sp){l:List Sp}(h:Nrm l):Nrm (sIns s l)/\(∀k,inS (sIns s l) k=(inS l k || hasB s k))/\(sIns s l).length<=l.length+1:=by
 have hlen:=(yb1 s l).2
 cases e:emptyB s
 ·obtain⟨i1,i2⟩:=zrn s l h e
  have e1:sIns s l=(sMid s false l++bif sDone s false l then[]else[s]):=by unfold sIns;rw[e]
  rw[e1]at hlen|-
  refine⟨i1,fun k=> ?_,hlen⟩
  rw[eh]
  simp only[inS,cZ,ay]
  constructor
  ·rintro⟨x,hx,hk⟩
   rcases(i2 x).1 hx with rfl | hx
   ·exact .inr hk
   ·exact .inl ⟨x,hx,hk⟩
  ·rintro(⟨x,hx,hk⟩ | hk)
   ·exact⟨x,(i2 x).2 (.inr hx),hk⟩
   ·exact⟨s,(i2 s).2 (.inl rfl),hk⟩
 ·obtain⟨m1,m2⟩:=zgw s l
  have e1:sIns s l=l:=by unfold sIns;rw[e,m1,m2];simp
  rw[e1]
  exact⟨h,fun k=>by rw[zhy e,da],by omega⟩
def zbc(out:List Sp)(s:Sp):List Sp:=match out.getLast? with
 | none=>[s]
 | some o=>bif !(eqs o.2 [])&&lts o.2 s.1 then out++[s]else bif lessB o.2 s.2 then out.dropLast++[(o.1,s.2)]else out
theorem z8v(a b:List Sp)(k:B):inS (a++b) k=(inS a k || inS b k):=by simp[inS,List.any_append]
theorem inS1(s:Sp)(k:B):inS [s] k=hasB s k:=by simp[inS]
theorem yhi{o s:Sp}(h1:lts s.1 o.1=false)(h2:(!(eqs o.2 [])&&lts o.2 s.1)=false)(k:B):(hasB o k || hasB s k)=(bif lessB o.2 s.2 then hasB (o.1,s.2) k else hasB o k):=by
 have A:lts k o.1=true->lts k s.1=true:=fun h=>zkn h h1
 have Bn:lts k s.1=true->belowB k o.2=true:=fun h=>by
  simp only[dn,dK]at h2
  simp only[belowB,ay]
  rcases h2 with h2 | h2
  ·exact .inl h2
  ·exact .inr (zkn h h2)
 rw[U1,U1,U1]
 cases e:lessB o.2 s.2
 ·have C:belowB k s.2=true->belowB k o.2=true:=fun h=>zl2 e h
  simp only[cond_false]
  revert A Bn C
  cases lts k o.1<;>cases lts k s.1<;>cases belowB k o.2<;>cases belowB k s.2<;>simp
 ·have C:belowB k o.2=true->belowB k s.2=true:=fun h=>zyw e h
  simp only[cond_true]
  revert A Bn C
  cases lts k o.1<;>cases lts k s.1<;>cases belowB k o.2<;>cases belowB k s.2<;>simp
theorem ybu:∀(post out:List Sp),post.Pairwise (fun a b=>lts b.1 a.1=false)->(∀o,out.getLast? =some o->∀s∈post,lts s.1 o.1=false)->(∀k,inS (post.foldl zbc out) k=(inS out k || inS post k))/\(post.foldl zbc out).length<=out.length+post.length
 | [],out,_,_=>⟨fun k=>by simp[inS],by simp⟩
 | s::post,out,hp,ho=>by
  obtain⟨p1,p2⟩:=aJ.1 hp
  have key:(∀k,inS (zbc out s) k=(inS out k || hasB s k))/\(∀o,(zbc out s).getLast? =some o->∀x∈post,lts x.1 o.1=false)/\(zbc out s).length<=out.length+1:=by
   unfold zbc
   cases e:out.getLast? with
   | none=>
    have:out=[]:=dR.1 e
    subst this
    exact⟨fun k=>by simp[inS],fun o h x hx=>by simp at h;subst h;exact p1 x hx,by simp⟩
   | some o=>
    obtain⟨ini,rfl⟩:∃ini,out=ini++[o]:=cX.1 e
    have hos:=ho o e s (by simp)
    simp only
    cases e1:(!(eqs o.2 [])&&lts o.2 s.1)
    ·have hm:=yhi hos e1
     simp only[cond_false]
     cases e2:lessB o.2 s.2
     ·simp only[e2,cond_false]at hm|-
      refine⟨fun k=> ?_,fun o' h x hx=> ?_,by simp⟩
      ·rw[z8v,inS1,<-hm k]
       cases inS ini k<;>cases hasB o k<;>cases hasB s k<;>rfl
      ·rw[e]at h;cases h
       exact ho o e x (by simp[hx])
     ·simp only[e2,cond_true]at hm|-
      rw[cV]
      refine⟨fun k=> ?_,fun o' h x hx=> ?_,by simp⟩
      ·rw[z8v,z8v,inS1,inS1,<-hm k,eK]
      ·simp at h;subst h
       exact ho o e x (by simp[hx])
    ·simp only[cond_true]
     refine⟨fun k=>by rw[z8v,inS1],fun o' h x hx=> ?_,by simp⟩
     simp at h;subst h
     exact p1 x hx
  obtain⟨k1,k2,k3⟩:=key
  obtain⟨i1,i2⟩:=ybu post (zbc out s) p2 k2
  refine⟨fun k=> ?_, ?_⟩
  ·rw[ba,i1,k1]
   simp[inS,eK]
  ·rw[ba];simp only[af];omega
theorem yn1(N:Nat){i:Int}{b:Bool}{sorted:List Sp}{s o:Sp}{ini:List Sp}(hi:inB i sorted.length=true)(hr:rdL sorted i Y7=s)(hl:ini.length<1000000000):
  z2w N i (ini.length:Int) b sorted (ini++[o])=some (((),((),i)),(sorted,((bif b then ini++[o]++[s]else bif lessB o.2 s.2 then ini++[(o.1,s.2)]else ini++[o]),()))):=by
 simp only[z2w,hr,V4,U0,yfb,y8g]
 cases b
 ·simp only[cond_false]
  rw[gd_t rfl,gd_t hi]
  cases lessB o.2 s.2
  ·rfl
  ·simp only[cond_true]
   rw[gd_t hi,gd_t rfl]
 ·simp only[cond_true]
  rw[gd_t hi,gd_t (Y4 (by simp;omega) (by omega))]
theorem yfp(N:Nat){sorted:List Sp}(hN:sorted.length<N)(hl:sorted.length<100000000):z77 N N (0:Int) sorted []=some ((),(sorted.foldl zbc [],())):=by
 refine y8x (xs:=sorted) (L:=fun n i s=>z77 N n i sorted s) zbc (fun s=>((),(s,()))) (fun s post=>s.length+post.length<=100000000)
  (fun n s _=>by
   rw[zgj]
   simp only[z3k,aA,decide_false,cond_false])
  (fun n pre x post s hx hi=> ?_) hN (by simp;omega)
 simp only[af]at hi
 have hb:pre.length<9223372036854775807:=by rw[hx]at hl;simp at hl;omega
 have hlen:(zbc s x).length<=s.length+1:=by
  unfold zbc
  split
  ·simp
  ·rename_i o _
   cases (!(eqs o.2 [])&&lts o.2 x.1)
   ·cases lessB o.2 x.2
    ·simp
    ·simp only[cond_true,cond_false,ae,List.length_dropLast,af,ap];omega
   ·simp
 rw[zgj]
 rw[hx]
 simp only[z3k,U3,V4,cond_true,U0]
 cases e:s.getLast? with
 | none=>
  have:s=[]:=dR.1 e
  subst this
  have w:aa .i64 ((([]:List Sp).length:Int)-(1:Int))= -1:=by decide
  have p2:z2w N (pre.length:Int) (-1) true (pre++x::post) []=some (((),((),(pre.length:Int))),(pre++x::post,([x],()))):=by
   simp only[z2w,cond_true,V4,U0]
   rw[gd_t rfl,gd_t (Y4 (by simp) (by omega))]
   rfl
  rw[w,X4 (by decide),p2]
  simp only
  rw[W8 (q:=x) hb]
  exact⟨rfl,by simp[zbc];simp at hi;omega⟩
 | some o=>
  obtain⟨ini,rfl⟩:∃ini,s=ini++[o]:=cX.1 e
  have hil:ini.length<100000000:=by simp at hi;omega
  have w:aa .i64 (((ini++[o]).length:Int)-(1:Int))=(ini.length:Int):=by
   rw[w64 (by simp only[ae,af,ap];omega) (by simp only[ae,af,ap];omega)];simp
  have p2:=fun b=>yn1 N (i:=(pre.length:Int)) (b:=b) (sorted:=pre++x::post) (s:=x) (o:=o) (ini:=ini) V4 U0 (by omega)
  have hms:zbc (ini++[o]) x=(bif !(eqs o.2 [])&&lts o.2 x.1 then ini++[o]++[x]else bif lessB o.2 x.2 then ini++[(o.1,x.2)]else ini++[o]):=by
   unfold zbc
   rw[e]
   simp only[cV]
  rw[w,Y3 (by simp),V4,U0,gd_t rfl,hms]
  rw[hms]at hlen
  cases e1:eqs o.2 []
  ·simp only[e1,aN,cond_true,bp]at hlen|-
   rw[gd_t rfl,gd_t rfl,p2]
   simp only
   rw[W8 (q:=x) hb]
   exact⟨rfl,by omega⟩
  ·simp only[e1,aR,cond_false,eF]at hlen|-
   rw[p2]
   simp only
   rw[W8 (q:=x) hb]
   exact⟨rfl,by omega⟩
theorem yny(N:Nat){l:List Sp}(hN:l.length<N)(hl:l.length<40000000):∃r,z0w N l=some r/\(∀k,inS r k=inS l k)/\r.length<=l.length:=by
 have h0:=walk (xs:=l) (L:=fun n i (s:List Sp)=>z78 N n l i s []) (fun o x=>sIns x o) (fun s=>(((),()),(s,([],())))) (fun s post=>Nrm s/\s.length+post.length<=l.length)
  (fun n s _=>by
   rw[z5w]
   simp only[y0,aA,decide_false,cond_false])
  (fun n pre x post s hx hi=>by
   obtain⟨h1,h2⟩:=hi
   simp only[af]at h2
   have hb:pre.length<9223372036854775807:=by rw[hx]at hl;simp at hl;omega
   have hbl:=congrArg aq hx
   obtain⟨i1,_,i3⟩:=y1v x h1
   rw[z5w]
   rw[hx]
   simp only[y0,U3,V4,cond_true,U0,y6s N s x (by omega) (by omega)]
   rw[gd_t rfl,W8 (q:=x) hb]
   exact⟨rfl,i1,by omega⟩)
  l [] N [] rfl hN ⟨⟨bg.nil,fun s h=>by cases h⟩,by simp⟩
 have hz:(([]:List Sp).length:Int)=0:=rfl
 simp only[hz]at h0
 obtain⟨e0,n1,n2⟩:=h0
 have sem:∀(post s:List Sp),Nrm s->∀k,inS (post.foldl (fun o x=>sIns x o) s) k=(inS s k || inS post k):=by
  intro post
  induction post with
  | nil=>intro s _ k;simp[inS]
  | cons x post ih=>
   intro s hs k
   obtain⟨i1,i2,_⟩:=y1v x hs
   rw[ba,ih _ i1,i2]
   simp[inS,eK]
 have sm:=sem l [] ⟨bg.nil,fun s h=>by cases h⟩
 generalize l.foldl (fun o x=>sIns x o) []=sorted at e0 n1 n2 sm
 simp only[ap,bz]at n2
 obtain⟨m1,m2⟩:=ybu sorted [] n1.ord (fun o h=>by simp at h)
 have e1:=yfp N (sorted:=sorted) (by omega) (by omega)
 refine⟨sorted.foldl zbc [],by simp only[z0w,e0,e1],fun k=> ?_,by simp at m2;omega⟩
 rw[m1,sm]
 simp[inS]
def z2x(q:Sp)(out:List Sp)(x:Sp):List Sp:=out++((bif eqs q.1 []then[]else[G6 x ([],q.1)])++bif eqs q.2 []then[]else[G6 x (q.2,[])])
theorem y2b{q:Sp}(hq:emptyB q=false)(x:Sp)(k:B):inS ((bif eqs q.1 []then[]else[G6 x ([],q.1)])++bif eqs q.2 []then[]else[G6 x (q.2,[])]) k=(hasB x k&& !(hasB q k)):=by
 have e1:inS (bif eqs q.1 []then[]else[G6 x ([],q.1)]) k=(hasB x k&&lts k q.1):=by
  cases e:eqs q.1 []
  ·simp only[cond_false]
   rw[inS1,zc3,U1 ([],q.1)]
   simp only[zme,belowB,e,aN,bp,cD]
  ·rw[K5.1 e,zme];simp[inS]
 have e2:inS (bif eqs q.2 []then[]else[G6 x (q.2,[])]) k=(hasB x k&& !(belowB k q.2)):=by
  cases e:eqs q.2 []
  ·simp only[cond_false]
   rw[inS1,zc3,U1 (q.2,[])]
   simp only[belowB,e,z5z,dm,bU,cD]
  ·simp[inS,belowB,e]
 have C:lts k q.1=true->belowB k q.2=true:=fun h=>by
  simp only[emptyB,dn,cU,dK]at hq
  simp only[belowB,ay]
  rcases hq with hq | ⟨hq,_⟩
  ·exact .inl hq
  ·exact .inr (zkn h hq)
 rw[z8v,e1,e2,U1 q]
 revert C
 cases hasB x k<;>cases lts k q.1<;>cases belowB k q.2<;>simp
theorem ybs(N:Nat){pm post':List Sp}{q:Sp}(left:List Sp)(hN:left.length<N)(hl:left.length<20000000):
  z5o N N (pm++q::post') (pm.length:Int) (0:Int) left []=some ((pm++q::post',((pm.length:Int),())),(left.foldl (z2x q) [],())):=by
 refine y8x (xs:=left) (L:=fun n i s=>z5o N n (pm++q::post') (pm.length:Int) i left s) (z2x q) (fun s=>((pm++q::post',((pm.length:Int),())),(s,()))) (fun s post=>s.length+2*post.length<=40000000)
  (fun n s _=>by
   rw[zf0]
   simp only[z2d,aA,decide_false,cond_false])
  (fun n pre x post s hx hi=> ?_) hN (by simp;omega)
 simp only[af]at hi
 have hb:pre.length<9223372036854775807:=by rw[hx]at hl;simp at hl;omega
 have hlen:(z2x q s x).length<=s.length+2:=by
  unfold z2x
  cases eqs q.1 []<;>cases eqs q.2 []<;>simp
 refine⟨?_,by omega⟩
 rw[zf0]
 rw[hx]
 simp only[z2d,U3,V4,cond_true,U0,zkm]
 rw[gd_t rfl]
 cases e1:eqs q.1 []
 ·simp only[aN,cond_true]
  rw[gd_t rfl,gd_t rfl,gd_t (Y4 (by omega) (by omega)),gd_t rfl]
  cases e2:eqs q.2 []
  ·simp only[aN,cond_true]
   rw[gd_t rfl,gd_t rfl,gd_t (Y4 (by simp;omega) (by omega)),W8 (q:=x) hb]
   simp[z2x,e1,e2]
  ·simp only[aR,cond_false]
   rw[W8 (q:=x) hb]
   simp[z2x,e1,e2]
 ·simp only[aR,cond_false]
  rw[gd_t rfl]
  cases e2:eqs q.2 []
  ·simp only[aN,cond_true]
   rw[gd_t rfl,gd_t rfl,gd_t (Y4 (by omega) (by omega)),W8 (q:=x) hb]
   simp[z2x,e1,e2]
  ·simp only[aR,cond_false]
   rw[W8 (q:=x) hb]
   simp[z2x,e1,e2]
theorem zx6(a b:Bool):(bif a then some b else some false)=some (a&&b):=by cases a<;>rfl
def inR(n lo hi:Int):Bool:=decide (lo<=n)&&decide (n<=hi)
theorem yl4(N:Nat)(n lo hi:Int):zhv N n lo hi=some (inR n lo hi):=by simp only[zhv,zx6];rfl
def nol(s:B):Bool:=eqs s []
theorem yk7(a b:B):eqs a b=eqs b a:=by
 cases h:eqs b a
 ·cases h2:eqs a b
  ·rfl
  ·rw[K5.1 h2,z5z]at h;cases h
 ·rw[K5.1 h,z5z]
theorem y2a(s:B):eqs s []=nol s:=rfl
def spanV(s:Sp):Bool:= !(emptyB s)&&(decide ((s.1.length:Int)<=65535)&&decide ((s.2.length:Int)<=65535))
theorem yb3(N:Nat)(s:Sp):zhh N s=some (spanV s):=by
 simp only[zhh,z2z,zx6,spanV]
def yex(a b:B):Bool:=inR a.length 1 200&&(inR b.length 1 200&&(!(b.isPrefixOf a)&& !(a.isPrefixOf b)))
def vldB(m:Mg):Bool:=
 bif eqi m.1 1 then(inR m.2.1.length 1 65535&&(decide ((m.2.2.1.length:Int)<=64)&&inR m.2.2.2.2.2.2 0 1000000000))&&(nol m.2.2.2.1.1&&(nol m.2.2.2.1.2&&(nol m.2.2.2.2.1&&nol m.2.2.2.2.2.1)))else
 bif eqi m.1 2 then inR m.2.1.length 1 65535&&(nol m.2.2.1&&(nol m.2.2.2.1.1&&(nol m.2.2.2.1.2&&(nol m.2.2.2.2.1&&(nol m.2.2.2.2.2.1&&eqi m.2.2.2.2.2.2 0)))))else
 bif eqi m.1 3 then spanV m.2.2.2.1&&(nol m.2.1&&(nol m.2.2.1&&(nol m.2.2.2.2.1&&(nol m.2.2.2.2.2.1&&eqi m.2.2.2.2.2.2 0))))else
 bif eqi m.1 4 || eqi m.1 5 then yex m.2.2.2.2.1 m.2.2.2.2.2.1&&(nol m.2.1&&(nol m.2.2.1&&(nol m.2.2.2.1.1&&(nol m.2.2.2.1.2&&eqi m.2.2.2.2.2.2 0))))else
 bif eqi m.1 6 then(spanV m.2.2.2.1&&inR m.2.2.2.2.2.2 0 1000000000)&&(nol m.2.1&&(nol m.2.2.1&&(nol m.2.2.2.2.1&&nol m.2.2.2.2.2.1)))else false
theorem yh1(m:Mg)(st mvs:Bool):z84 NN st m.1 mvs m=
  some (bif mvs then .inl (yex m.2.2.2.2.1 m.2.2.2.2.2.1&&(nol m.2.1&&(nol m.2.2.1&&(nol m.2.2.2.1.1&&(nol m.2.2.2.1.2&&eqi m.2.2.2.2.2.2 0)))),())else bif eqi m.1 6 then .inl ((spanV m.2.2.2.1&&st)&&(nol m.2.1&&(nol m.2.2.1&&(nol m.2.2.2.2.1&&nol m.2.2.2.2.2.1))),())else .inr ((),())):=by
 simp only[z84,zrw,yl4,yb3,y2a,K4,z5z,bp,bU,yex]
 cases mvs
 ·simp only[cond_false]
  cases eqi m.1 6
  ·rfl
  ·simp only[cond_true]
   cases spanV m.2.2.2.1<;>cases st<;>rfl
 ·simp only[cond_true]
  cases m.2.2.2.2.2.1.isPrefixOf m.2.2.2.2.1<;>cases m.2.2.2.2.1.isPrefixOf m.2.2.2.2.2.1<;>cases inR m.2.2.2.2.1.length 1 200<;>cases inR m.2.2.2.2.2.1.length 1 200<;>rfl
theorem zxi(m:Mg):zau NN m=some (vldB m):=by
 simp only[zau,vldB,yl4,yb3,yh1]
 cases h1:eqi m.1 1
 case true=>
  simp only[cond_true,zx6,K4,z5z,y2a,bp,bU,Bool.and_assoc]
 case false=>
 cases h2:eqi m.1 2
 case true=>
  simp only[cond_true,cond_false,zx6,K4,z5z,y2a,bp,bU]
 case false=>
 cases h3:eqi m.1 3
 case true=>
  simp only[cond_true,cond_false,zx6,K4,z5z,y2a,bp,bU]
 case false=>
 cases h4:eqi m.1 4
 case true=>simp only[cond_true,cond_false,dm]
 case false=>
 cases h5:eqi m.1 5
 case true=>simp only[cond_true,cond_false,eg]
 case false=>
 cases h6:eqi m.1 6
 ·simp only[cond_false,eO]
 ·simp only[cond_true,cond_false,eO]
def byt(n:Int)(i:Nat):Int:=aa .u8 (Int.fdiv n (2^(8*i)))
def bytes(n:Int):Nat->List Int
 | 0=>[]
 | w+1=>byt n w::bytes n w
end Ds
namespace Ds
open Go Go.Dv
set_option maxRecDepth 100000
variable [Fuel]
theorem full_iff{s:Sp}:emptyB s=false↔s.2=[]\/lts s.1 s.2=true:=by
 unfold emptyB
 constructor
 ·intro h
  cases e:eqs s.2 []
  ·rw[e,ym3]at h
   exact .inr (by simpa using h)
  ·exact .inl (K5.1 e)
 ·rintro(h | h)
  ·rw[h];rfl
  ·rw[ym3,h];simp
structure Sep (l:List Sp):Prop where
 ord:l.Pairwise fun a b=>a.2≠[]/\lts a.2 b.1=true
 full:∀s∈l,emptyB s=false
def Ends(r l:List Sp):Prop:=∀s∈r,(∃x∈l,s.1=x.1)/\∃x∈l,s.2=x.2
theorem sIns_mem(s:Sp){l:List Sp}(h:Nrm l):∀x∈sIns s l,(x=s/\emptyB s=false)\/x∈l:=by
 cases e:emptyB s
 ·obtain⟨_,i2⟩:=zrn s l h e
  have e1:sIns s l=(sMid s false l++bif sDone s false l then[]else[s]):=by unfold sIns;rw[e]
  rw[e1]
  exact fun x hx=>((i2 x).1 hx).imp (fun h=>⟨h,rfl⟩) id
 ·unfold sIns
  obtain⟨i1,i2⟩:=zgw s l
  rw[e,i1,i2]
  intro x hx
  exact .inr (by simpa using hx)
theorem yc7(l0:List Sp):∀(l s:List Sp),Nrm s->(∀x∈l,emptyB x=false->x∈l0)->(∀x∈s,x∈l0)->Nrm (l.foldl (fun o x=>sIns x o) s)/\∀x∈l.foldl (fun o x=>sIns x o) s,x∈l0
 | [],s,h,_,hs=>⟨h,hs⟩
 | x::l,s,h,hl,hs=>by
  rw[ba]
  refine yc7 l0 l _ (y1v x h).1 (fun y hy=>hl y (by simp[hy])) fun y hy=> ?_
  rcases sIns_mem x h y hy with⟨rfl,he⟩ | hy
  ·exact hl _ (by simp) he
  ·exact hs _ hy
theorem yhf{l0 out:List Sp}{s:Sp}(h:Sep out)(he:Ends out l0)(hs:emptyB s=false)(hm:s∈l0)(ho:∀o,out.getLast? =some o->lts s.1 o.1=false):
  Sep (zbc out s)/\Ends (zbc out s) l0/\∀o,(zbc out s).getLast? =some o->lts s.1 o.1=false:=by
 unfold zbc
 cases e:out.getLast? with
 | none=>
  simp only
  refine⟨⟨by simp,fun x hx=> ?_⟩,fun x hx=> ?_,fun o ho=> ?_⟩
  ·simp at hx;rw[hx];exact hs
  ·simp at hx;rw[hx];exact⟨⟨s,hm,rfl⟩,s,hm,rfl⟩
  ·simp at ho;rw[<-ho];exact G7 _
 | some o=>
  obtain⟨ini,rfl⟩:∃ini,out=ini++[o]:=cX.1 e
  have hos:=ho o e
  obtain⟨p1,p2,p3⟩:=bD.1 h.ord
  have ein:∀x∈ini,(∃y∈l0,x.1=y.1)/\∃y∈l0,x.2=y.2:=fun x hx=>he x (by simp[hx])
  have eo:=he o (by simp)
  simp only
  cases e1:(!(eqs o.2 [])&&lts o.2 s.1)
  ·simp only[cond_false]
   cases e2:lessB o.2 s.2
   ·simp only[cond_false]
    exact⟨h,he,fun o' h'=>by rw[e]at h';cases h';exact hos⟩
   ·simp only[cond_true]
    rw[cV]
    have hfull:emptyB (o.1,s.2)=false:=by
     rcases full_iff.1 hs with h | h
     ·exact full_iff.2 (.inl h)
     ·exact full_iff.2 (.inr (y98 hos h))
    refine⟨⟨bD.2 ⟨p1,by simp,fun a ha b hb=> ?_⟩,fun x hx=> ?_⟩,fun x hx=> ?_,fun o' h'=> ?_⟩
    ·simp at hb;rw[hb];exact p3 a ha o (by simp)
    ·rcases ak.1 hx with hx | hx
     ·exact h.full x (by simp[hx])
     ·simp at hx;rw[hx];exact hfull
    ·rcases ak.1 hx with hx | hx
     ·exact ein x hx
     ·simp at hx;rw[hx];exact⟨eo.1,s,hm,rfl⟩
    ·simp at h';rw[<-h'];exact hos
  ·simp only[cond_true]
   simp only[ac,aw]at e1
   have hne:o.2≠[]:=fun h=>by rw[h]at e1;simp[eqs]at e1
   refine⟨⟨bD.2 ⟨h.ord,by simp,fun a ha b hb=> ?_⟩,fun x hx=> ?_⟩,fun x hx=> ?_,fun o' h'=> ?_⟩
   ·simp at hb;rw[hb]
    rcases ak.1 ha with ha | ha
    ·obtain⟨q1,q2⟩:=p3 a ha o (by simp)
     exact⟨q1,zkn q2 hos⟩
    ·simp at ha;rw[ha];exact⟨hne,e1.2⟩
   ·rcases ak.1 hx with hx | hx
    ·exact h.full x hx
    ·simp at hx;rw[hx];exact hs
   ·rcases ak.1 hx with hx | hx
    ·exact he x hx
    ·simp at hx;rw[hx];exact⟨⟨s,hm,rfl⟩,s,hm,rfl⟩
   ·simp at h';rw[<-h'];exact G7 _
theorem yc6{l0:List Sp}:∀(l out:List Sp),Nrm l->(∀x∈l,x∈l0)->Sep out->Ends out l0->(∀o,out.getLast? =some o->∀s∈l,lts s.1 o.1=false)->Sep (l.foldl zbc out)/\Ends (l.foldl zbc out) l0
 | [],out,_,_,h,he,_=>⟨h,he⟩
 | s::l,out,hn,hl,h,he,ho=>by
  obtain⟨o1,o2⟩:=aJ.1 hn.ord
  obtain⟨k1,k2,k3⟩:=yhf h he (hn.full s (by simp)) (hl s (by simp)) fun o h'=>ho o h' s (by simp)
  rw[ba]
  exact yc6 l _ ⟨o2,fun x hx=>hn.full x (by simp[hx])⟩ (fun x hx=>hl x (by simp[hx])) k1 k2 fun o h' x hx=>zva (k3 o h') (o1 x hx)
theorem zdk(N:Nat){l:List Sp}(hN:l.length<N)(hl:l.length<40000000):∃r,z0w N l=some r/\(∀k,inS r k=inS l k)/\r.length<=l.length/\Sep r/\Ends r (l.filter fun s=> !(emptyB s)):=by
 have h0:=walk (xs:=l) (L:=fun n i (s:List Sp)=>z78 N n l i s []) (fun o x=>sIns x o) (fun s=>(((),()),(s,([],())))) (fun s post=>Nrm s/\s.length+post.length<=l.length)
  (fun n s _=>by
   rw[z5w]
   simp only[y0,aA,decide_false,cond_false])
  (fun n pre x post s hx hi=>by
   obtain⟨h1,h2⟩:=hi
   simp only[af]at h2
   have hb:pre.length<9223372036854775807:=by rw[hx]at hl;simp at hl;omega
   have hbl:=congrArg aq hx
   obtain⟨i1,_,i3⟩:=y1v x h1
   rw[z5w]
   rw[hx]
   simp only[y0,U3,V4,cond_true,U0,y6s N s x (by omega) (by omega)]
   rw[gd_t rfl,W8 (q:=x) hb]
   exact⟨rfl,i1,by omega⟩)
  l [] N [] rfl hN ⟨⟨bg.nil,fun s h=>by cases h⟩,by simp⟩
 have hz:(([]:List Sp).length:Int)=0:=rfl
 simp only[hz]at h0
 obtain⟨e0,n1,n2⟩:=h0
 obtain⟨r,r1,r2,r3⟩:=yny N hN hl
 have f1:=yc7 (l.filter fun s=> !(emptyB s)) l [] ⟨bg.nil,fun s h=>by cases h⟩ (fun x h he=>aB.2 ⟨h,by simp[he]⟩) (fun _ h=>by cases h)
 generalize l.foldl (fun o x=>sIns x o) []=sorted at e0 n1 n2 f1
 simp only[ap,bz]at n2
 have e1:=yfp N (sorted:=sorted) (by omega) (by omega)
 have f2:=yc6 (l0:=l.filter fun s=> !(emptyB s)) sorted [] f1.1 f1.2 ⟨bg.nil,fun s h=>by cases h⟩ (fun s h=>by cases h) (fun o h=>by simp at h)
 have e2:z0w N l=some (sorted.foldl zbc []):=by simp only[z0w,e0,e1]
 rw[r1]at e2
 cases e2
 exact⟨_,r1,r2,r3,f2.1,f2.2⟩
theorem y3r(a b:Sp)(h:emptyB (G6 a b)=false):((G6 a b).1=a.1\/(G6 a b).1=b.1)/\((G6 a b).2=a.2\/(G6 a b).2=b.2):=by
 unfold G6 at h|-
 cases e:emptyB (y2e a b)
 ·simp only[cond_false]
  unfold y2e ydl
  refine⟨?_, ?_⟩
  ·cases lts a.1 b.1<;>simp
  ·cases lessB b.2 a.2<;>simp
 ·rw[e]at h;cases h
theorem zs3(m0:List Sp)(E:List B)(hE:∀q∈m0,q.1∈E/\q.2∈E)(h0:([]:B)∈E):∀(post pre:List Sp) (n:Nat) (left:List Sp),(∀q∈post,q∈m0)->post.length<n->(pre++post).length<1000->left.length*2^post.length<=10000000->
  Sep left->(∀s∈left,s.1∈E/\s.2∈E)->∃r,z5p NN n (pre++post) (pre.length:Int) left=some ((),(r,()))/\(∀k,inS r k=(inS left k&& !(inS post k)))/\r.length<=left.length*2^post.length/\Sep r/\∀s∈r,s.1∈E/\s.2∈E
 | _,_,0,_,_,h,_,_,_,_=>absurd h (ag _)
 | [],pre,n+1,left,_,_,_,_,hs,he=>by
  refine⟨left, ?_,fun k=>by simp[inS],by simp,hs,he⟩
  rw[v8]
  simp only[Q7,ai,aA,decide_false,cond_false]
 | q::post,pre,n+1,left,hm0,hn,hl,hp,hs,he=>by
  simp only[af]at hn hp
  have hb:pre.length<9223372036854775807:=by simp at hl;omega
  have e2:(2:Nat)^(post.length+1)=2*2^post.length:=by rw[Nat.pow_succ];omega
  have hpos:0<(2:Nat)^post.length:=eV (by omega)
  have h2:left.length*2*2^post.length=left.length*2^(post.length+1):=by rw[e2,Nat.mul_assoc]
  have h1:left.length*1<=left.length*2^(post.length+1):=bc _ (by rw[e2];omega)
  have hq:=hE q (hm0 q (by simp))
  have hm0':∀x∈post,x∈m0:=fun x hx=>hm0 x (by simp[hx])
  cases e:emptyB q
  ·have hm:=ybs NN (pm:=pre) (post':=post) (q:=q) left (by have:=W7;omega) (by omega)
   have sem:∀(l out:List Sp),(∀k,inS (l.foldl (z2x q) out) k=(inS out k || (inS l k&& !(hasB q k))))/\(l.foldl (z2x q) out).length<=out.length+2*l.length:=by
    intro l
    induction l with
    | nil=>intro out;exact⟨fun k=>by simp[inS],by simp⟩
    | cons x l ih=>
     intro out
     obtain⟨i1,i2⟩:=ih (z2x q out x)
     have hlen:(z2x q out x).length<=out.length+2:=by
      unfold z2x
      cases eqs q.1 []<;>cases eqs q.2 []<;>simp
     refine⟨fun k=> ?_, ?_⟩
     ·rw[ba,i1]
      unfold z2x
      rw[z8v,y2b e]
      have:inS (x::l) k=(hasB x k || inS l k):=by simp[inS]
      rw[this]
      cases inS out k<;>cases hasB x k<;>cases inS l k<;>cases hasB q k<;>rfl
     ·rw[ba];simp only[af];omega
   have ends:∀(l out:List Sp),(∀s∈l,s.1∈E/\s.2∈E)->(∀s∈out,emptyB s=false->s.1∈E/\s.2∈E)->∀s∈l.foldl (z2x q) out,emptyB s=false->s.1∈E/\s.2∈E:=by
    intro l
    induction l with
    | nil=>intro out _ h;exact h
    | cons x l ih=>
     intro out hl ho
     rw[ba]
     refine ih _ (fun s hs=>hl s (by simp[hs])) fun s hs hfull=> ?_
     have hx:=hl x (by simp)
     unfold z2x at hs
     have two:∀y:Sp,y.1∈E->y.2∈E->s=G6 x y->s.1∈E/\s.2∈E:=by
      rintro y y1 y2 rfl
      obtain⟨f1,f2⟩:=y3r x y hfull
      exact⟨by rcases f1 with f | f<;>rw[f]<;>first | exact hx.1 | exact y1,by rcases f2 with f | f<;>rw[f]<;>first | exact hx.2 | exact y2⟩
     rcases ak.1 hs with hs | hs
     ·exact ho s hs hfull
     ·rcases ak.1 hs with hs | hs
      ·cases e1:eqs q.1 []<;>rw[e1]at hs<;>simp at hs
       exact two ([],q.1) h0 hq.1 hs
      ·cases e1:eqs q.2 []<;>rw[e1]at hs<;>simp at hs
       exact two (q.2,[]) hq.2 h0 hs
   obtain⟨s1,s2⟩:=sem left []
   simp only[ap,Nat.zero_add]at s2
   obtain⟨r,r1,r2,r3,r4,r5⟩:=zdk NN (l:=left.foldl (z2x q) []) (by have:=W7;omega) (by omega)
   have hr:r.length*2^post.length<=left.length*2*2^post.length:=bv _ (by omega)
   have r6:∀s∈r,s.1∈E/\s.2∈E:=by
    intro s hs
    have e0:=ends left [] he (fun s h=>by cases h)
    obtain⟨⟨x,hx,ex⟩,y,hy,ey⟩:=r5 s hs
    obtain⟨x1,x2⟩:=aB.1 hx
    obtain⟨y1,y2⟩:=aB.1 hy
    exact⟨by rw[ex];exact(e0 x x1 (by simpa using x2)).1,by rw[ey];exact(e0 y y1 (by simpa using y2)).2⟩
   obtain⟨r',i1,i2,i3,i4,i5⟩:=zs3 m0 E hE h0 post (pre++[q]) n r hm0' (by omega) (by simpa using hl) (by omega) r4 r6
   refine⟨r', ?_,fun k=> ?_,by simp only[af];omega,i4,i5⟩
   ·rw[v8]
    simp only[Q7,U3,V4,cond_true,U0,z2z,e,cond_false,hm,r1]
    rw[gd_t rfl,W8 (q:=q) hb,V9 (pre:=pre) (q:=q) (post:=post),i1]
   ·rw[i2,r2,s1]
    have:inS (q::post) k=(hasB q k || inS post k):=by simp[inS]
    rw[this]
    have z:inS [] k=false:=rfl
    rw[z]
    cases inS left k<;>cases hasB q k<;>cases inS post k<;>rfl
  ·have hr:left.length*2^post.length<=left.length*2*2^post.length:=bv _ (by omega)
   obtain⟨r',i1,i2,i3,i4,i5⟩:=zs3 m0 E hE h0 post (pre++[q]) n left hm0' (by omega) (by simpa using hl) (by omega) hs he
   refine⟨r', ?_,fun k=> ?_,by simp only[af];omega,i4,i5⟩
   ·rw[v8]
    simp only[Q7,U3,V4,cond_true,U0,z2z,e]
    rw[gd_t rfl,W8 (q:=q) hb,V9 (pre:=pre) (q:=q) (post:=post),i1]
   ·rw[i2]
    have:inS (q::post) k=(hasB q k || inS post k):=by simp[inS]
    rw[this,zhy e,cD]
theorem y32{l m:List Sp}{E:List B}(hE:∀q∈m,q.1∈E/\q.2∈E)(h0:([]:B)∈E)(hL:∀s∈l,emptyB s=false->s.1∈E/\s.2∈E)(hm:m.length<1000)(hl:l.length*2^m.length<=10000000):
  ∃r,Q6 NN l m=some r/\(∀k,inS r k=(inS l k&& !(inS m k)))/\r.length<=l.length*2^m.length/\Sep r/\∀s∈r,s.1∈E/\s.2∈E:=by
 have hpos:0<(2:Nat)^m.length:=eV (by omega)
 have h1:l.length*1<=l.length*2^m.length:=bc _ hpos
 obtain⟨r,r1,r2,r3,r4,r5⟩:=zdk NN (l:=l) (by have:=W7;omega) (by omega)
 have h2:r.length*2^m.length<=l.length*2^m.length:=bv _ r3
 have r6:∀s∈r,s.1∈E/\s.2∈E:=fun s hs=>by
  obtain⟨⟨x,hx,ex⟩,y,hy,ey⟩:=r5 s hs
  obtain⟨x1,x2⟩:=aB.1 hx
  obtain⟨y1,y2⟩:=aB.1 hy
  exact⟨by rw[ex];exact(hL x x1 (by simpa using x2)).1,by rw[ey];exact(hL y y1 (by simpa using y2)).2⟩
 obtain⟨r',i1,i2,i3,i4,i5⟩:=zs3 m E hE h0 m [] NN r (fun _ h=>h) (by have:=W7;omega) (by simpa using hm) (by omega) r4 r6
 have hz:(([]:List Sp).length:Int)=0:=rfl
 simp only[aj,hz]at i1
 exact⟨r',by simp only[Q6,r1,i1],fun k=>by rw[i2,r2],by omega,i4,i5⟩
theorem Sep.nodup{l:List Sp}(h:Sep l):(l.map (·.1)).Nodup:=by
 rw[fh,cS]
 refine bg.imp_of_mem ?_ h.ord
 rintro a b ha hb ⟨h1,h2⟩ e
 rcases full_iff.1 (h.full a ha)with h3 | h3
 ·exact h1 h3
 ·have:=K8 h3 h2;rw[e,G7]at this;cases this
theorem zf4{α:Type} [DecidableEq α]:∀{l L:List α},l.Nodup->(∀x∈l,x∈L)->l.length<=L.length
 | [],_,_,_=>bn _
 | x::l,L,h,hs=>by
  obtain⟨h1,h2⟩:=bS.1 h
  have hx:=hs x (by simp)
  have:=zf4 (L:=L.erase x) h2 fun y hy=>(List.mem_erase_of_ne (fun(e:y=x)=>h1 (by rw[<-e];exact hy))).2 (hs y (by simp[hy]))
  rw[List.length_erase_of_mem hx]at this
  have:=d0 hx
  simp only[af];omega
theorem Sep.len{l:List Sp}{E:List B}(h:Sep l)(he:∀s∈l,s.1∈E):l.length<=E.length:=by
 have:=zf4 h.nodup (L:=E) (by simpa using fun a b hs=>he (a,b) hs)
 simpa using this
def xs4:List B:=[[97,47],[98,47],[99,47],[100,47]]
def bs:Nat->B
 | 0=>[]
 | j+1=>98::47::bs j
theorem ylr:∀j,(bs j).length=2*j
 | 0=>rfl
 | j+1=>by simp[bs,ylr j];omega
def tB:List B:=tails++(tails.map (·++[0])++[[],[98,48]])
def tops:List B:=[[],[97,48],[98,48],[99,48],[100,48]]
def gen(ts:List B)(g:Nat):List B:=xs4.flatMap fun x=>(List.range (g+1)).flatMap fun j=>ts.map fun t=>x++(bs j++t)
def KU(g:Nat):List B:=gen tails g
def UU(g:Nat):List B:=tops++gen tB g
theorem zhm{ts:List B}{g:Nat}{u:B}:u∈gen ts g↔∃x∈xs4,∃j,j<=g/\∃t∈ts,u=x++(bs j++t):=by
 unfold gen
 simp only[dr,List.mem_range,aG]
 constructor
 ·rintro⟨x,hx,j,hj,t,ht,rfl⟩;exact⟨x,hx,j,by omega,t,ht,rfl⟩
 ·rintro⟨x,hx,j,hj,t,ht,rfl⟩;exact⟨x,hx,j,by omega,t,ht,rfl⟩
theorem y3x{ts ts':List B}{g g':Nat}(h:g<=g')(ht:∀t∈ts,t∈ts'){u:B}(hu:u∈gen ts g):u∈gen ts' g':=by
 obtain⟨x,hx,j,hj,t,ht',rfl⟩:=zhm.1 hu
 exact zhm.2 ⟨x,hx,j,by omega,t,ht t ht',rfl⟩
theorem KU.mono{g g':Nat}(h:g<=g'){u:B}(hu:u∈KU g):u∈KU g':=y3x h (fun _ h=>h) hu
theorem UU.mono{g g':Nat}(h:g<=g'){u:B}(hu:u∈UU g):u∈UU g':=by
 rcases ak.1 hu with hu | hu
 ·exact bm _ hu
 ·exact bq _ (y3x h (fun _ h=>h) hu)
theorem UU.of{g:Nat}{u:B}(hu:u∈KU g):u∈UU g:=bq _ (y3x (al g) (fun t h=>bm _ h) hu)
theorem UU.succ{g:Nat}{u:B}(hu:u∈KU g):u++[0]∈UU g:=by
 obtain⟨x,hx,j,hj,t,ht,rfl⟩:=zhm.1 hu
 exact bq _ (zhm.2 ⟨x,hx,j,hj,t++[0],bq _ (bm _ (aG.2 ⟨t,ht,rfl⟩)),by simp⟩)
theorem UU.nil(g:Nat):([]:B)∈UU g:=bm _ (by simp[tops])
theorem KU.ne{g:Nat}{u:B}(hu:u∈KU g):u≠[]:=by
 obtain⟨x,hx,j,hj,t,ht,rfl⟩:=zhm.1 hu
 have:x≠[]:=by rintro rfl;simp[xs4]at hx
 simp[this]
theorem yj7{t:B}(ht:t∈tB):t.length<=4:=by
 have h:(tB.all fun t=>ce t.length 4)=true:=by decide
 exact bZ (az.1 h t ht)
theorem yel{x:B}(hx:x∈xs4):x.length=2:=by
 have h:(xs4.all fun t=>Nat.beq t.length 2)=true:=by decide
 exact Nat.eq_of_beq_eq_true (az.1 h x hx)
theorem UU.len{g:Nat}{u:B}(hu:u∈UU g):u.length<=2*g+6:=by
 rcases ak.1 hu with hu | hu
 ·have h:(tops.all fun t=>ce t.length 2)=true:=by decide
  have:=bZ (az.1 h u hu)
  omega
 ·obtain⟨x,hx,j,hj,t,ht,rfl⟩:=zhm.1 hu
  have:=yj7 ht
  simp only[ae,yel hx,ylr];omega
theorem y3z{α β:Type}{f:α->List β}{n:Nat}:∀{l:List α},(∀x∈l,(f x).length=n)->(l.flatMap f).length=l.length*n
 | [],_=>by simp
 | x::l,h=>by
  rw[cm,ae,h x (by simp),y3z fun y hy=>h y (by simp[hy])]
  simp only[af,Nat.add_mul];omega
theorem yg2(ts:List B)(g:Nat):(gen ts g).length=4*((g+1)*ts.length):=by
 unfold gen
 rw[y3z (n:=(g+1)*ts.length)]
 ·rfl
 ·intro x _
  rw[y3z (n:=ts.length)]
  ·simp
  ·intro j _;simp
theorem KU.length(g:Nat):(KU g).length=20*(g+1):=by
 unfold KU;rw[yg2];simp[tails];omega
theorem UU.length(g:Nat):(UU g).length=5+48*(g+1):=by
 unfold UU;rw[ae,yg2];simp[tB,tails,tops];omega
theorem zmc(p u:B):p.isPrefixOf (p++u)=true:=aO.2 ⟨u,rfl⟩
theorem path_cases{p:B}(hp:p∈paths):p∈xs4\/p=[97,47,98,47]:=by
 have h:(paths.all fun p=>xs4.contains p || eqs p [97,47,98,47])=true:=by decide
 have:=az.1 h p hp
 simp only[ay,dp]at this
 exact this.imp id K5.1
theorem ybf{ts:List B}{q:B}(hq:q∈paths){j g:Nat}(hj:j<=g){t:B}(ht:t∈ts):q++(bs j++t)∈gen ts (g+1):=by
 rcases path_cases hq with h | rfl
 ·exact zhm.2 ⟨q,h,j,by omega,t,ht,rfl⟩
 ·exact zhm.2 ⟨[97,47],by simp[xs4],j+1,by omega,t,ht,by simp[bs]⟩
theorem ycc{ts:List B}(hts:∀t∈ts,[98,47].isPrefixOf t=false){p q:B}(hp:p∈paths)(hq:q∈paths){g:Nat}{u:B}(hu:u∈gen ts g)(h:p.isPrefixOf u=true):q++u.drop p.length∈gen ts (g+1):=by
 obtain⟨x,hx,j,hj,t,ht,rfl⟩:=zhm.1 hu
 have hxl:=yel hx
 rcases path_cases hp with h4 | rfl
 ·have hpl:=yel h4
  have:p=x:=by
   obtain⟨r,hr⟩:=aO.1 h
   exact(eW hr (by omega)).1
  subst this
  rw[cY]
  exact ybf hq hj ht
 ·obtain⟨r,hr⟩:=aO.1 h
  have e1:([97,47,98,47]:B)++r=[97,47]++([98,47]++r):=rfl
  rw[e1]at hr
  obtain⟨rfl,h2⟩:=eW hr (by rw[hxl];rfl)
  cases j with
  | zero=>
   have h3:[98,47]++r=t:=h2
   have:=hts t ht
   rw[<-h3]at this
   rw[zmc]at this;cases this
  | succ j=>
   have h3:(98::47::r:B)=98::47::(bs j++t):=h2
   have h4:r=bs j++t:=by injection h3 with _ h3;injection h3
   have h5:(([97,47]:B)++(bs (j+1)++t)).drop 4=bs j++t:=rfl
   show q++(([97,47]:B)++(bs (j+1)++t)).drop 4∈_
   rw[h5]
   exact ybf hq (by omega) ht
theorem KU.move{p q:B}(hp:p∈paths)(hq:q∈paths){g:Nat}{u:B}(hu:u∈KU g)(h:p.isPrefixOf u=true):q++u.drop p.length∈KU (g+1):=
 ycc (fun t ht=>by
   have h:(tails.all fun t=> !([98,47].isPrefixOf t))=true:=by decide
   simpa using az.1 h t ht) hp hq hu h
theorem UU.move{p q:B}(hp:p∈paths)(hq:q∈paths){g:Nat}{u:B}(hu:u∈UU g)(h:p.isPrefixOf u=true):q++u.drop p.length∈UU (g+1):=by
 rcases ak.1 hu with hu | hu
 ·have hh:(tops.all fun t=>paths.all fun p=> !(p.isPrefixOf t))=true:=by decide
  have:=az.1 (az.1 hh u hu) p hp
  rw[h]at this;cases this
 ·exact bq _ (ycc (fun t ht=>by
   have h:(tB.all fun t=> !([98,47].isPrefixOf t))=true:=by decide
   simpa using az.1 h t ht) hp hq hu h)
theorem UU.path{p:B}(hp:p∈paths):p∈UU 1/\(preB p).2∈UU 1:=by
 have h:(paths.all fun p=>(UU 1).contains p&&(UU 1).contains (preB p).2)=true:=by decide+kernel
 have:=az.1 h p hp
 simpa using this
def dd:List B->List B
 | []=>[]
 | x::l=>if x∈dd l then dd l else x::dd l
theorem y0b{x:B}:∀{l:List B},x∈dd l↔x∈l
 | []=>Iff.rfl
 | y::l=>by
  unfold dd
  by_cases h:y∈dd l
  ·rw[if_pos h,y0b,am]
   constructor
   ·exact .inr
   ·rintro(rfl | h')
    ·exact y0b.1 h
    ·exact h'
  ·rw[if_neg h,am,am,y0b]
theorem y3o:∀l:List B,(dd l).Nodup
 | []=>bg.nil
 | y::l=>by
  unfold dd
  by_cases h:y∈dd l
  ·rw[if_pos h];exact y3o l
  ·rw[if_neg h];exact bS.2 ⟨h,y3o l⟩
theorem yln:∀l:List B,(dd l).length<=l.length
 | []=>al _
 | y::l=>by
  unfold dd
  have:=yln l
  by_cases h:y∈dd l
  ·rw[if_pos h];simp only[af];omega
  ·rw[if_neg h];simp only[af];omega
def wt(g:Nat)(P:B->Bool):Nat:=((dd (UU g)).filter P).length
theorem ylz(g:Nat)(P:B->Bool):wt g P<=5+48*(g+1):=by
 have h1:=yln (UU g)
 rw[UU.length]at h1
 exact aW (cb _ _) h1
theorem ykx{g g':Nat}{P Q:B->Bool}(f:B->B)(h:∀a,a∈UU g->P a=true->f a∈UU g'/\Q (f a)=true)(hi:∀a b,P a=true->P b=true->f a=f b->a=b):wt g P<=wt g' Q:=by
 unfold wt
 have hn:(((dd (UU g)).filter P).map f).Nodup:=by
  rw[fh,cS]
  refine bg.imp_of_mem ?_ ((y3o (UU g)).filter P)
  intro a b ha hb hne e
  exact hne (hi a b (aB.1 ha).2 (aB.1 hb).2 e)
 have:=zf4 (L:=(dd (UU g')).filter Q) hn fun x hx=>by
  obtain⟨a,ha,rfl⟩:=aG.1 hx
  obtain⟨h1,h2⟩:=aB.1 ha
  obtain⟨k1,k2⟩:=h a (y0b.1 h1) h2
  exact aB.2 ⟨y0b.2 k1,k2⟩
 simpa using this
theorem zjt{g:Nat}{P Q:B->Bool}(h:∀a,P a=true->Q a=true):wt g P<=wt g Q:=ykx id (fun a ha hp=>⟨ha,h a hp⟩) fun _ _ _ _ e=>e
theorem y8w{g:Nat}{P:B->Bool}{a:B}(ha:a∈UU g)(hp:P a=true):1<=wt g P:=
 d0 (aB.2 ⟨y0b.2 ha,hp⟩)
theorem y38{g:Nat}(P Q:B->Bool):wt g P=wt g (fun a=>P a&&Q a)+wt g (fun a=>P a&& !(Q a)):=by
 unfold wt
 generalize dd (UU g)=l
 induction l with
 | nil=>rfl
 | cons x l ih=>
  simp only[List.filter_cons]
  cases P x<;>cases Q x<;>simp<;>omega
def wts(g:Nat)(l:List Sp):Nat:=(l.map fun s=>wt g (hasB s)).sum
theorem yd0(g:Nat)(a b:List Sp):wts g (a++b)=wts g a+wts g b:=by simp[wts]
theorem zpw{s:Sp}(h:emptyB s=false):hasB s s.1=true:=by
 rw[U1,G7]
 rcases full_iff.1 h with e | e<;>simp[belowB,e]
theorem zvn{g:Nat}:∀{l:List Sp},(∀s∈l,emptyB s=false/\s.1∈UU g)->l.length<=wts g l
 | [],_=>bn _
 | s::l,h=>by
  have:=zvn (g:=g) (l:=l) fun x hx=>h x (by simp[hx])
  obtain⟨h1,h2⟩:=h s (by simp)
  have:=y8w h2 (zpw h1)
  simp only[wts,ax,bE,af]at*;omega
theorem ype{s:Sp}{l:List Sp}(h:Sep (s::l)){k:B}(hk:hasB s k=true):inS l k=false:=by
 cases e:inS l k
 ·rfl
 ·obtain⟨x,hx,hxk⟩:=cZ.1 e
  obtain⟨h1,h2⟩:=(aJ.1 h.ord).1 x hx
  rw[U1]at hk hxk
  simp only[belowB,ac,aw,ay]at hk hxk
  rcases hk.2 with e1 | e1
  ·exact absurd (K5.1 e1) h1
  ·have:=K8 e1 h2
   rw[hxk.1]at this;cases this
theorem Sep.tail{s:Sp}{l:List Sp}(h:Sep (s::l)):Sep l:=⟨(aJ.1 h.ord).2,fun x hx=>h.full x (by simp[hx])⟩
theorem y80{g:Nat}:∀{l:List Sp},Sep l->wts g l<=wt g (inS l)
 | [],_=>by simp[wts]
 | s::l,h=>by
  have ih:=y80 (g:=g) h.tail
  have e:wt g (inS (s::l))=wt g (fun a=>inS (s::l) a&&hasB s a)+wt g (fun a=>inS (s::l) a&& !(hasB s a)):=y38 _ _
  have h1:wt g (hasB s)<=wt g (fun a=>inS (s::l) a&&hasB s a):=zjt fun a ha=>by simp[inS,ha]
  have h2:wt g (inS l)<=wt g (fun a=>inS (s::l) a&& !(hasB s a)):=zjt fun a ha=>by
   have:hasB s a=false:=by
    cases e:hasB s a
    ·rfl
    ·have:=ype h e;rw[ha]at this;cases this
   have e2:inS (s::l) a=(hasB s a || inS l a):=by simp[inS]
   rw[e2,ha,this];rfl
  have e3:wts g (s::l)=wt g (hasB s)+wts g l:=by simp[wts]
  omega
def SpG(g:Nat)(s:Sp):Prop:=emptyB s=false/\s.1∈UU g/\s.2∈UU g
theorem SpG.mono{g g':Nat}(h:g<=g'){s:Sp}(hs:SpG g s):SpG g' s:=⟨hs.1,UU.mono h hs.2.1,UU.mono h hs.2.2⟩
def y5r(s:Sp):Bool:= !(emptyB s)&&((UU 1).contains s.1&&(UU 1).contains s.2)
theorem zoq{s:Sp}:y5r s=true↔SpG 1 s:=by
 unfold y5r SpG
 simp only[ac,aw,dp]
inductive GM (g:Nat):Mg->Prop where
 | put (k v:B) (n:Int):k∈KU g->v∈values->GM g (y94 k v n)
 | del (k:B):k∈KU g->GM g (ylm k)
 | drop (s:Sp):SpG g s->GM g (zc6 s)
 | move (e:B×B):e∈ends->GM g (mv 4 e)
 | clone (e:B×B):e∈ends->GM g (mv 5 e)
 | stamp (s:Sp) (n:Int):SpG g s->GM g (zkk s n)
theorem GM.mono{g g':Nat}(h:g<=g'){m:Mg}(hm:GM g m):GM g' m:=by
 cases hm with
 | put k v n hk hv=>exact .put k v n (KU.mono h hk) hv
 | del k hk=>exact .del k (KU.mono h hk)
 | drop s hs=>exact .drop s (hs.mono h)
 | move e he=>exact .move e he
 | clone e he=>exact .clone e he
 | stamp s n hs=>exact .stamp s n (hs.mono h)
theorem ypu{pre post:B}{b:UInt8}:bt (pre++b::post) (pre.length:Int)=(b.toNat:Int):=by simp[bt]
theorem z5f{p:B}(hp:p∈paths):U2 NN p=some (preB p):=by
 obtain⟨h1,h2⟩:=z9b hp
 generalize hq:p.dropLast=q at h1
 subst h1
 have hl:q.length<=4:=by simp at h2;omega
 obtain⟨k,hk⟩:∃k,NN=k+1:=⟨NN-1,by have:=W7;omega⟩
 have e1:(((q++[47]).length:Nat):Int)=(q.length:Int)+1:=by simp
 have e2:aa .i64 ((((q++[47]).length:Nat):Int)-1)=(q.length:Int):=by rw[e1,w64 (by omega) (by omega)];omega
 have e3:bt (q++[47]) (q.length:Int)=47:=by rw[ypu];rfl
 have h0:J9 NN NN (q++[47]) ((q++[47]).length:Int)=some ((q++[47],((),((q++[47]).length:Int))),((),())):=by
  rw[show J9 NN NN=J9 NN (k+1)from congrArg _ hk,zd6]
  simp only[z49,e2,e3]
  rw[X4 (by simp<;>omega),gd_t (V6 (by omega) (by simp<;>omega)),Y3 (by decide)]
 simp only[U2,h0,e2,e3]
 rw[Y3 (J6 (by rw[e1];omega)),gd_t (by simp;omega),y8n,gd_t (V6 (by omega) (by simp;omega))]
 have e4:zmn [aa .u8 ((47:Int)+1)]=[48]:=by decide
 rw[e4,gd_p (by simp[maxS];omega)]
 simp[preB]
theorem zpp{g:Nat}(hg:g<1000000){k:B}(hk:k∈KU g):z9f NN k=some (k,k++[0]):=by
 have:=UU.len (UU.of hk)
 simp only[z9f]
 rw[gd_p (by simp only[maxS,af,ap];omega)]
theorem yji{p:B}(hp:p∈paths):emptyB (preB p)=false:=by
 have h:(paths.all fun p=> !(emptyB (preB p)))=true:=by decide
 simpa using az.1 h p hp
theorem SpG.pre{p:B}(hp:p∈paths):SpG 1 (preB p):=by
 refine⟨yji hp, ?_⟩
 have:=UU.path hp
 exact this
theorem y3l(k:B):emptyB (k,k++[0])=false:=full_iff.2 (.inr (by
 have:=zjx k [] [0]
 rw[ai]at this
 rw[this];rfl))
theorem SpG.one{g:Nat}{k:B}(hk:k∈KU g):SpG g (k,k++[0]):=⟨y3l _,UU.of hk,UU.succ hk⟩
theorem y2g{k:B}(hk:k∈keys):k∈KU 1:=by
 have h:(keys.all fun k=>(KU 1).contains k)=true:=by decide+kernel
 simpa using az.1 h k hk
theorem yq2{k a b:B}{x:K0}{s:Z0}(hk:k∈keys)(he:(a,b)∈ends)(hs:y5r s=true)
  (h2:0<=x.2.2.1/\x.2.2.1<256) (h5:0<=x.2.2.2.2.2/\x.2.2.2.2.2<256) (h0:0<=x.1/\x.1<256):
  ∃r,z0s NN k a b x s=some r/\GM 1 r.2.1/\(aH x.1 6=3->r.2.1.1=(4:Int)):=by
 obtain⟨v,hv,hvm⟩:=yj5 h2.1 h2.2
 have hn:=ypb h5.1 (show(0:Int)<8 by decide)
 have hw:aa .i64 (aH x.2.2.2.2.2 (8:Int))=aH x.2.2.2.2.2 8:=w64 (by omega) (by omega)
 simp only[z0s,hv,hw]
 have no:∀{a:Int},a≠3->eqi (aH x.1 6) a=true->aH x.1 6=3->False:=fun h1 h2 h3=>h1 ((zx4.1 h2).symm.trans h3)
 cases q0:eqi (aH x.1 6) 0
 case true=>exact⟨_,rfl, .put k v _ (y2g hk) hvm,fun h=>(no (by decide) q0 h).elim⟩
 cases q1:eqi (aH x.1 6) 1
 case true=>exact⟨_,rfl, .del k (y2g hk),fun h=>(no (by decide) q1 h).elim⟩
 cases q2:eqi (aH x.1 6) 2
 case true=>exact⟨_,rfl, .drop s (zoq.1 hs),fun h=>(no (by decide) q2 h).elim⟩
 cases q3:eqi (aH x.1 6) 3
 case true=>exact⟨_,rfl, .move (a,b) he,fun _=>rfl⟩
 cases q4:eqi (aH x.1 6) 4
 case true=>exact⟨_,rfl, .clone (a,b) he,fun h=>(no (by decide) q4 h).elim⟩
 exact⟨_,rfl, .stamp s _ (zoq.1 hs),fun h=>by rw[h]at q3;cases q3⟩
theorem yq3{k:B}{x:K0}{s:Z0}(hk:k∈keys)(hs:y5r s=true)
  (h0:0<=x.1/\x.1<256) (h1:0<=x.2.1/\x.2.1<256) (h2:0<=x.2.2.1/\x.2.2.1<256) (h3:0<=x.2.2.2.1/\x.2.2.2.1<256) (h5:0<=x.2.2.2.2.2/\x.2.2.2.2.2<256):
  ∃r,z0t NN k x s=some r/\GM 1 r.2.1/\(aH x.1 6=3->r.2.1.1=(4:Int)):=by
 obtain⟨p,hp,hpm⟩:=y88 h1.1 h1.2
 obtain⟨q,hq,hqm⟩:=y88 h3.1 h3.2
 have hb:(paths.all fun p=>paths.all fun q=>okO (j0 NN p q) fun b=>okO (j0 NN q p) fun c=>
   bif b || c then ends.contains (p,bif eqs p [100,47]then[99,47]else[100,47])else ends.contains (p,q))=true:=by kernel_rfl
 obtain⟨b,hb1,hb⟩:=y3n (az.1 (az.1 hb p hpm) q hqm)
 obtain⟨c,hc1,hb⟩:=y3n hb
 have go:∀e:B,(p,e)∈ends->∃r,(match z0s NN k p e x s with
   | some r11=>(some ((),(r11.2.1,())))
   | none=>none)=some r/\GM 1 r.2.1/\(aH x.1 6=3->r.2.1.1=(4:Int)):=by
  intro e he
  obtain⟨r,h1,h2⟩:=yq2 (s:=s) hk he hs h2 h5 h0
  exact⟨_,by rw[h1],h2⟩
 simp only[z0t,hp,hq,hb1,hc1]
 cases b<;>cases c<;>cases e:eqs p [100,47]<;>simp only[e,eg,da,dm,cond_true,cond_false,dp]at hb⊢<;>exact go _ hb
theorem yjr{x0 x1 x2 x3 x4 x5:Int}(h0:0<=x0/\x0<256)(h1:0<=x1/\x1<256)(h2:0<=x2/\x2<256)(h3:0<=x3/\x3<256)(h4:0<=x4/\x4<256)(h5:0<=x5/\x5<256):
  ∃m,zd3 NN ((x0,x1,x2,x3,x4,x5):Int×Int×Int×Int×Int×Int)=some m/\GM 1 m/\(aH x0 6=3->m.1=(4:Int)):=by
 obtain⟨k,hk,hkm⟩:=ylj h1.1 h1.2
 obtain⟨l,hl,hlm⟩:=ylj h3.1 h3.2
 obtain⟨p,hp,hpm⟩:=y88 h1.1 h1.2
 have hkey:(keys.all fun k=>y5r (k,[]))=true:=by decide+kernel
 have hmm:(keys.all fun k=>keys.all fun l=>bif eqs k l then true else y5r (bif lts k l || eqs k l then k else l,bif !(lts k l)then k else l))=true:=by decide+kernel
 have hs:=z5f hpm
 have hso:=zoq.2 (SpG.pre hpm)
 have ho:=zpp (g:=1) (by omega) (y2g hkm)
 have hoo:=zoq.2 (SpG.one (y2g hkm))
 have hke:=az.1 hkey k hkm
 have hml:=az.1 (az.1 hmm k hkm) l hlm
 have go:∀s:B×B,y5r s=true->∃m,(match z0t NN k (x0,x1,x2,x3,x4,x5) s with
   | some r17=>(some r17.2.1)
   | none=>none)=some m/\GM 1 m/\(aH x0 6=3->m.1=(4:Int)):=by
  intro s h
  obtain⟨r,e1,e2⟩:=yq3 (x:=(x0,x1,x2,x3,x4,x5)) (s:=s) hkm h h0 h1 h2 h3 h5
  exact⟨r.2.1,by rw[e1],e2⟩
 simp only[zd3,hk,hl,hp,hs,ho]
 cases eqi (aH x4 4) 0
 case true=>exact go _ hso
 cases eqi (aH x4 16) 1
 case true=>exact go _ hke
 cases eqi (aH x4 16) 5
 case true=>exact go _ (by decide)
 cases e:eqs k l
 case true=>exact go _ hoo
 rw[e]at hml
 exact go _ (by simpa[e] using hml)
theorem yjq{x:K0}(hx:okT w7 x):∃m,zd3 NN x=some m/\GM 1 m/\(aH x.1 6=3->m.1=(4:Int)):=
 yjr (z54 hx.1) (z54 hx.2.1) (z54 hx.2.2.1) (z54 hx.2.2.2.1) (z54 hx.2.2.2.2.1) (z54 hx.2.2.2.2.2)
theorem yn7{x:K0}(hx:okT w7 x):∃m,zd3 NN x=some m/\GM 1 m:=by
 obtain⟨m,h1,h2,_⟩:=yjq hx
 exact⟨m,h1,h2⟩
theorem yn9{xs:List (K0)}(hx:okT (.list w7) xs){k:Int}(hk:0<=k/\k<=24):
  ∃buf,zfn NN xs k=some buf/\(buf.length:Int)<=k/\∀m∈buf,GM 1 m:=by
 have hmem:∀i:Int,0<=i->i<(xs.length:Int)->okT w7 (rdL (α:=K0) xs i zyy):=by
  intro i h0 h1
  obtain⟨h,e⟩:=yo8 xs i _ h0 h1
  rw[e]
  exact hx.2 i.toNat _ (aI h)
 have hl:(xs.length:Int)<=140737488351232:=by
  have:xs.length*6<=0x7ffffffff000:=hx.1
  omega
 have loop:=yc0 (A:=((((List (K0))×(Int×(Unit×Int)))×((List (Z1))×Unit)))) (R:=(Unit×((List (Z1))×Unit)))
  (f:=fun rec v=>y6 NN (fun b0 b1 b2 b3=>rec ((b0,(b1,((),b2))),(b3,()))) v.1.1 v.1.2.1 v.1.2.2.2 v.2.1)
  (fun v=>v.1.1=xs/\v.1.2.1=k/\0<=v.1.2.2.2/\v.1.2.2.2<=k/\(v.2.1.length:Int)=v.1.2.2.2/\∀m∈v.2.1,GM 1 m)
  (fun r=>(r.2.1.length:Int)<=k/\∀m∈r.2.1,GM 1 m) (fun v=>(k-v.1.2.2.2).toNat)
  (by
   rintro rec ⟨⟨b0,b1,u,i⟩,out,_⟩ ⟨rfl,rfl,h3,h4,h5,h6⟩ ih
   simp only at h3 h4 h5 h6 hl hk hmem
   simp only[y6]
   cases e1:decide (i<(b0.length:Int))
   ·exact⟨_,rfl,by simp only;omega,h6⟩
   cases e2:decide (i<b1)
   ·exact⟨_,rfl,by simp only;omega,h6⟩
   have e1:=of_decide_eq_true e1
   have e2:=of_decide_eq_true e2
   obtain⟨m,hm,gm⟩:=yn7 (hmem i h3 e1)
   simp only[cond_true]
   rw[gd_t (V6 h3 e1),hm]
   simp only
   rw[gd_t (yer (by simp only[maxB];omega) (by simp only[maxB];omega)),w64 (by omega) (by omega)]
   exact ih ((b0,b1,(),i+1),out++[m],()) ⟨rfl,rfl,by simp only;omega,by simp only;omega,by simp;omega,fun m' hm'=>by
    rcases ak.1 hm' with h | h
    ·exact h6 _ h
    ·simp at h;subst h;exact gm⟩ (by simp only;omega))
  NN ((xs,k,(),0),[],()) ⟨rfl,rfl,eX _,hk.1,rfl,fun m h=>by simp at h⟩ (by have:=W7;simp only;omega)
 obtain⟨r,h1,h2⟩:=loop
 have h1:z6t NN NN xs k 0 []=some r:=(congrFun (y3v (A:=((List K0)×(Int×(Unit×Int)))×((List Z1)×Unit)) (T:=Unit×((List Z1)×Unit)) (Φ:=List K0->Int->Int->List Z1->Option (Unit×((List Z1)×Unit))) (G:=y6 NN) (app:=fun f v=>f v.1.1 v.1.2.1 v.1.2.2.2 v.2.1)
  (cur:=fun r b0 b1 b2 b3=>r ((b0,(b1,((),b2))),(b3,()))) (fun _=>rfl) (fun _ _=>rfl) NN) ((xs,k,(),0),[],())).symm.trans h1
 exact⟨r.2.1,by simp only[zfn,h1],h2⟩
def wr(m:Mg):List Sp:=bif eqi m.1 1 || eqi m.1 2 then[(m.2.1,m.2.1++[0])]else bif eqi m.1 4 then[preB m.2.2.2.2.1,preB m.2.2.2.2.2.1]else bif eqi m.1 5 then[preB m.2.2.2.2.2.1]else[m.2.2.2.1]
def rds(m:Mg):List Sp:=bif eqi m.1 4 || eqi m.1 5 then[preB m.2.2.2.2.1]else bif eqi m.1 6 then[m.2.2.2.1]else[]
def kls(m:Mg):List Sp:=bif eqi m.1 6 then[]else wr m
def touchB(l m:List Sp):Bool:=l.any fun a=>m.any fun b=> !(emptyB (G6 a b))
theorem z6w{g:Nat}(hg:g<1000000){m:Mg}(hm:GM g m):K6 NN m=some (wr m):=by
 cases hm with
 | put k v n hk hv=>simp only[K6,K4,cond_true,zpp hg hk];rfl
 | del k hk=>simp only[K6,show eqi (2:Int) 1=false by decide,K4,cond_true,cond_false,zpp hg hk];rfl
 | drop s hs=>rfl
 | move e he=>simp only[K6,show eqi (4:Int) 1=false by decide,show eqi (4:Int) 2=false by decide,K4,cond_true,cond_false,z5f (U9 he).1,z5f (U9 he).2];rfl
 | clone e he=>simp only[K6,show eqi (5:Int) 1=false by decide,show eqi (5:Int) 2=false by decide,show eqi (5:Int) 4=false by decide,K4,cond_true,cond_false,z5f (U9 he).2];rfl
 | stamp s n hs=>rfl
theorem zox{g:Nat}{m:Mg}(hm:GM g m):z64 NN m=some (rds m):=by
 cases hm with
 | put k v n hk hv=>rfl
 | del k hk=>rfl
 | drop s hs=>rfl
 | move e he=>simp only[z64,K4,cond_true,z5f (U9 he).1];rfl
 | clone e he=>simp only[z64,show eqi (5:Int) 4=false by decide,K4,cond_true,cond_false,z5f (U9 he).1];rfl
 | stamp s n hs=>rfl
theorem yh3{g:Nat}(hg:g<1000000){m:Mg}(hm:GM g m):zil NN m=some (kls m):=by
 simp only[zil,z6w hg hm,kls]
 cases eqi m.1 6<;>rfl
theorem y1l(m:Mg):(wr m).length<=2/\(rds m).length<=1/\(kls m).length<=2:=by
 unfold kls wr rds
 cases eqi m.1 1<;>cases eqi m.1 2<;>cases eqi m.1 4<;>cases eqi m.1 5<;>cases eqi m.1 6<;>simp
theorem wr_G{g:Nat}{m:Mg}(hm:GM g m)(h1:1<=g):(∀s∈wr m,SpG g s)/\∀s∈rds m,SpG g s:=by
 have one:∀{k:B},k∈KU g->SpG g (k,k++[0]):=fun hk=>⟨y3l _,UU.of hk,UU.succ hk⟩
 have pr:∀{p:B},p∈paths->SpG g (preB p):=fun hp=>(SpG.pre hp).mono h1
 cases hm with
 | put k v n hk hv=>exact⟨fun s hs=>by simp[wr,eqi]at hs;rw[hs];exact one hk,fun s hs=>by simp[rds,eqi]at hs⟩
 | del k hk=>exact⟨fun s hs=>by simp[wr,eqi]at hs;rw[hs];exact one hk,fun s hs=>by simp[rds,eqi]at hs⟩
 | drop s hs=>exact⟨fun x hx=>by simp[wr,eqi]at hx;rw[hx];exact hs,fun s hs=>by simp[rds,eqi]at hs⟩
 | move e he=>exact⟨fun s hs=>by simp[wr,eqi]at hs;rcases hs with rfl | rfl;exact pr (U9 he).1;exact pr (U9 he).2,fun s hs=>by simp[rds,eqi]at hs;rw[hs];exact pr (U9 he).1⟩
 | clone e he=>exact⟨fun s hs=>by simp[wr,eqi]at hs;rw[hs];exact pr (U9 he).2,fun s hs=>by simp[rds,eqi]at hs;rw[hs];exact pr (U9 he).1⟩
 | stamp s n hs=>exact⟨fun x hx=>by simp[wr,eqi]at hx;rw[hx];exact hs,fun x hx=>by simp[rds,eqi]at hx;rw[hx];exact hs⟩
theorem yal{l m:List Sp}{i:Int}{q:Sp}(hi:inB i l.length=true)(hq:rdL l i Y7=q)(hl:l.length<100000000):∀(post pre:List Sp) (n:Nat),m=pre++post->post.length<n->m.length<100000000->
  z85 NN n l m i (pre.length:Int)=some (bif post.any fun b=> !(emptyB (G6 q b))then .inl (true,())else .inr ((l,(m,i)),()))
 | _,_,0,_,h,_=>absurd h (ag _)
 | [],pre,n+1,hm,_,_=>by
  have e:decide ((pre.length:Int)<(m.length:Int))=false:=by rw[hm];simp
  rw[zeu]
  simp only[z26,e,cond_false,List.any_nil]
 | r::post,pre,n+1,hm,hn,hl'=>by
  simp only[af]at hn
  have hb:pre.length<9223372036854775807:=by rw[hm]at hl';simp at hl';omega
  have ih:=yal (m:=m) hi hq hl post (pre++[r]) n (by rw[hm];simp) (by omega) hl'
  rw[zeu]
  simp only[z26]
  have e1:decide ((pre.length:Int)<(m.length:Int))=true:=by rw[hm];exact U3
  have e2:inB (pre.length:Int) m.length=true:=by rw[hm];exact V4
  have e3:rdL m (pre.length:Int) Y7=r:=by rw[hm];exact U0
  simp only[e1,e2,e3,hq,cond_true,zkm,z2z]
  rw[gd_t hi,gd_t rfl,W8 (q:=r) hb,ih]
  cases e:emptyB (G6 q r)<;>simp[e]
theorem yam{m:List Sp}(hm:m.length<100000000):∀(post pre:List Sp) (n:Nat),post.length<n->(pre++post).length<100000000->
  z86 NN n (pre++post) m (pre.length:Int)=some (bif touchB post m then .inl (true,())else .inr ((),()))
 | _,_,0,h,_=>absurd h (ag _)
 | [],pre,n+1,_,_=>by
  rw[zev]
  simp only[z27,ai,aA,decide_false,cond_false]
  rfl
 | q::post,pre,n+1,hn,hl=>by
  simp only[af]at hn
  have hb:pre.length<9223372036854775807:=by simp at hl;omega
  have et:touchB (q::post) m=((m.any fun b=> !(emptyB (G6 q b))) || touchB post m):=by simp[touchB]
  have h1:=yal (l:=pre++q::post) (m:=m) (i:=(pre.length:Int)) (q:=q) V4 U0 (by omega) m [] NN rfl (by have:=W7;omega) (by omega)
  have hz:(([]:List Sp).length:Int)=0:=rfl
  rw[hz]at h1
  rw[zev]
  simp only[z27,U3,cond_true,h1,et]
  cases e:(m.any fun b=> !(emptyB (G6 q b)))
  ·simp only[cond_false,cD]
   rw[W8 (q:=q) hb,V9 (pre:=pre) (q:=q) (post:=post)]
   exact yam hm post (pre++[q]) n (by omega) (by simpa using hl)
  ·rfl
theorem zol{l m:List Sp}(hl:l.length<100000000)(hm:m.length<100000000):z8k NN l m=some (touchB l m):=by
 have h:=yam hm l [] NN (by have:=W7;omega) (by simp;omega)
 have hz:(([]:List Sp).length:Int)=0:=rfl
 simp only[aj,hz]at h
 simp only[z8k,h]
 cases touchB l m<;>rfl
theorem y67{m:Mg}{e:B×B}(hm1:m.2.2.2.2.1=e.1)(hm2:m.2.2.2.2.2.1=e.2)(he:e∈ends){out src:List Pr}(ho:Srt out)(hn:out.length+src.length<90000000)(hs:∀x∈src,x.1.length<1000000000/\e.1.isPrefixOf x.1=true):
  z3u NN NN (0:Int) m out src=some ((),(uniT out (src.map fun x=>(e.2++x.1.drop e.1.length,x.2)),())):=by
 have e2:=(z9b (U9 he).2).2
 have h:=y8x (xs:=src) (L:=fun n i s=>z3u NN n i m s src) (fun t x=>insT (e.2++x.1.drop e.1.length,x.2) t) (fun s=>((),(s,()))) (fun s post=>Srt s/\s.length+post.length<=out.length+src.length/\∀x∈post,x.1.length<1000000000/\e.1.isPrefixOf x.1=true)
  (fun n s _=>by
   rw[zex]
   simp only[z2a,aA,decide_false,cond_false])
  (fun n pre x post s hx hi=>by
   have hb:pre.length<9223372036854775807:=by rw[hx]at hn;simp at hn;omega
   obtain⟨h1,h2,h3⟩:=hi
   simp only[af]at h2
   obtain⟨x1,x2⟩:=h3 x (by simp)
   have hin:=yc1 (e.2++x.1.drop e.1.length,x.2) s
   have hbl:=congrArg aq hx
   have hm:=yh2 NN x.1 e.1 e.2 (by omega) (by omega)
   rw[x2,cond_true]at hm
   rw[zex]
   rw[hx]
   simp only[z2a,U3,V4,cond_true,U0,hm1,hm2,hm,y7h NN (e.2++x.1.drop e.1.length,x.2) h1 (show s.length<NN by have:=W7;omega) (by omega)]
   rw[gd_t rfl,gd_t rfl,gd_t rfl,W8 (q:=x) hb]
   exact⟨rfl,h1.insT _,by omega,fun y hy=>h3 y (by simp[hy])⟩)
  (by have:=W7;omega) (show Srt out/\out.length+src.length<=out.length+src.length/\_ from⟨ho,al _,hs⟩) (n:=NN)
 rw[h]
 unfold uniT
 rw[List.foldl_map]
structure Tb (g:Nat) (t:List Pr):Prop where
 srt:Srt t
 key:∀p∈t,p.1∈KU g/\p.2.1∈values
theorem Srt.nodup{t:List Pr}(h:Srt t):(t.map (·.1)).Nodup:=by
 rw[fh,cS]
 exact h.imp fun h=>zf9 h
theorem Tb.len{g:Nat}{t:List Pr}(h:Tb g t):t.length<=20*(g+1):=by
 have:=zf4 h.srt.nodup (L:=KU g) (fun x hx=>by obtain⟨p,hp,rfl⟩:=aG.1 hx;exact(h.key p hp).1)
 rw[KU.length]at this
 simpa using this
theorem Tb.mono{g g':Nat}(h:g<=g'){t:List Pr}(ht:Tb g t):Tb g' t:=⟨ht.srt,fun p hp=>⟨KU.mono h (ht.key p hp).1,(ht.key p hp).2⟩⟩
theorem Tb.filter{g:Nat}{t:List Pr}(h:Tb g t)(f:Pr->Bool):Tb g (t.filter f):=⟨h.srt.filter f,fun p hp=>h.key p (aB.1 hp).1⟩
theorem Tb.uni{g:Nat}{a b:List Pr}(h:Tb g a)(hb:∀p∈b,p.1∈KU g/\p.2.1∈values):Tb g (uniT a b):=by
 unfold uniT
 induction b generalizing a with
 | nil=>exact h
 | cons p b ih=>
  rw[ba]
  refine ih ⟨h.srt.insT p,fun x hx=> ?_⟩ fun x hx=>hb x (by simp[hx])
  rcases insT_mem hx with rfl | hx
  ·exact hb _ (by simp)
  ·exact h.key x hx
def mvs(m:Mg):Nat:=if m.1=4\/m.1=5 then 1 else 0
theorem yoh{g:Nat}{t:List Pr}(h:Tb g t){e:B×B}(he:e∈ends):∀p∈mvd e.1 e.2 t,p.1∈KU (g+1)/\p.2.1∈values:=by
 intro p hp
 unfold mvd at hp
 obtain⟨x,hx,rfl⟩:=aG.1 hp
 obtain⟨h1,h2⟩:=aB.1 hx
 exact⟨KU.move (U9 he).1 (U9 he).2 (h.key x h1).1 h2,(h.key x h1).2⟩
theorem yew{g:Nat}{t:List Pr}(h:Tb g t){m:Mg}(hm:GM g m):Tb (g+mvs m) (app m t):=by
 cases hm with
 | put k v n hk hv=>
  refine Tb.mono (bY _ _) (⟨h.srt.insT (k,v,n),fun x hx=> ?_⟩:Tb g (insT (k,v,n) t))
  rcases insT_mem hx with rfl | hx
  ·exact⟨hk,hv⟩
  ·exact h.key x hx
 | del k hk=>exact(h.filter _).mono (bY _ _)
 | drop s hs=>exact(h.filter _).mono (bY _ _)
 | move e he=>exact(((h.filter fun p=> !(hasB (preB e.2) p.1)).mono (eY g)).uni (yoh h he)).filter _
 | clone e he=>exact((h.filter fun p=> !(hasB (preB e.2) p.1)).mono (eY g)).uni (yoh h he)
 | stamp s n hs=>
  refine Tb.mono (bY _ _) (⟨h.srt.map (fun p=>by unfold stp;cases hasB s p.1<;>rfl),fun x hx=> ?_⟩:Tb g (t.map (stp s n)))
  obtain⟨y,hy,rfl⟩:=aG.1 hx
  have:=h.key y hy
  unfold stp
  cases hasB s y.1
  ·exact this
  ·exact this
theorem y6a{g:Nat}(hg:g<1000000){t:List Pr}(h:Tb g t){m:Mg}(hm:GM g m):z30 NN t m=some (app m t):=by
 have hl:=h.len
 have hN:=W7
 have wo:=fun(t:List Pr) (ht:t.length<100000000) (s:Sp)=>ye9 NN t [s] (by omega) (by simp;omega) (by simp only[Big];omega) (by simp[Big])
 have wi:=fun s:Sp=>yi4 NN t [s] (by omega) (by simp;omega) (by simp only[Big];omega) (by simp[Big])
 simp only[in1]at wo wi
 cases hm with
 | put k v x hk hv=>
  simp only[z30,K4,cond_true,y7h NN (k,v,x) h.srt (by omega) (by omega)]
  rfl
 | del k hk=>
  simp only[z30,show eqi (2:Int) 1=false by decide,K4,cond_true,cond_false,zpp hg hk,wo t (by omega)]
  rfl
 | drop s hs=>
  simp only[z30,show eqi (3:Int) 1=false by decide,show eqi (3:Int) 2=false by decide,K4,cond_true,cond_false,wo t (by omega)]
  rfl
 | stamp s x hs=>
  have hp:=y64 NN (zkk s x) t [] NN (by omega) (by simp only[aj];omega)
  have hz:(([]:List Pr).length:Int)=0:=rfl
  simp only[aj,hz]at hp
  simp only[z30,show eqi (6:Int) 1=false by decide,show eqi (6:Int) 2=false by decide,show eqi (6:Int) 3=false by decide,K4,cond_true,cond_false]
  rw[gd_t (Y4 (by omega) (by omega))]
  simp only[aj,hp]
  rfl
 | move e he=>
  obtain⟨h1,h2⟩:=U9 he
  have a1:=h.filter fun p=> !(hasB (preB e.2) p.1)
  have a2:=a1.filter fun p=> !(hasB (preB e.1) p.1)
  have l1:=a1.len
  have l2:=a2.len
  have es:t.filter (fun p=>hasB (preB e.1) p.1)=t.filter (fun x=>e.1.isPrefixOf x.1):=dV fun x _=>z5y h1 x.1
  have hsl:(t.filter (fun x=>e.1.isPrefixOf x.1)).length<=t.length:=cb _ _
  have hm:=y67 (m:=mv 4 e) rfl rfl he a2.srt (src:=t.filter (fun x=>e.1.isPrefixOf x.1)) (by omega) (fun x hx=>⟨by have:=UU.len (UU.of (h.key x (aB.1 hx).1).1);omega,(aB.1 hx).2⟩)
  simp only[z30,show eqi (4:Int) 1=false by decide,show eqi (4:Int) 2=false by decide,show eqi (4:Int) 3=false by decide,show eqi (4:Int) 6=false by decide,K4,cond_true,cond_false,z5f h2,z5f h1,wo t (by omega),wi,wo (t.filter fun p=> !(hasB (preB e.2) p.1)) (by omega),es,hm]
  refine congrArg some (Srt.ext (yaj _ a2.srt) ((yaj _ a1.srt).filter _) fun k=> ?_)
  have hms:=h.srt.mvd e.1 e.2
  show fnd (uniT ((t.filter fun p=> !(hasB (preB e.2) p.1)).filter fun p=> !(hasB (preB e.1) p.1)) (mvd e.1 e.2 t)) k=fnd ((uniT (t.filter fun p=> !(hasB (preB e.2) p.1)) (mvd e.1 e.2 t)).filter (fun p=> !(hasB (preB e.1) p.1))) k
  rw[yak hms,zlz (fun x=> !(hasB (preB e.1) x)),zlz (fun x=> !(hasB (preB e.1) x)),yak hms,ynf,z5y h1]
  cases q1:e.1.isPrefixOf k
  ·simp only[aN,cond_true]
  ·rw[ydu he k q1];rfl
 | clone e he=>
  obtain⟨h1,h2⟩:=U9 he
  have a1:=h.filter fun p=> !(hasB (preB e.2) p.1)
  have l1:=a1.len
  have es:t.filter (fun p=>hasB (preB e.1) p.1)=t.filter (fun x=>e.1.isPrefixOf x.1):=dV fun x _=>z5y h1 x.1
  have hsl:(t.filter (fun x=>e.1.isPrefixOf x.1)).length<=t.length:=cb _ _
  have hm:=y67 (m:=mv 5 e) rfl rfl he a1.srt (src:=t.filter (fun x=>e.1.isPrefixOf x.1)) (by omega) (fun x hx=>⟨by have:=UU.len (UU.of (h.key x (aB.1 hx).1).1);omega,(aB.1 hx).2⟩)
  simp only[z30,show eqi (5:Int) 1=false by decide,show eqi (5:Int) 2=false by decide,show eqi (5:Int) 3=false by decide,show eqi (5:Int) 6=false by decide,show eqi (5:Int) 4=false by decide,cond_false,z5f h2,z5f h1,wo t (by omega),wi,es,hm]
  rfl
def mvN(l:List Mg):Nat:=(l.map mvs).sum
theorem z6y(a b:List Mg):mvN (a++b)=mvN a+mvN b:=by simp[mvN]
theorem y8s:∀{ms:List Mg} {g:Nat} {t:List Pr},Tb g t->(∀m∈ms,GM g m)->Tb (g+mvN ms) (apps ms t)
 | [],_,_,h,_=>h
 | m::ms,g,t,h,hm=>by
  have:=y8s (ms:=ms) (yew h (hm m (by simp))) (fun x hx=>(hm x (by simp[hx])).mono (bY _ _))
  have e:g+mvs m+mvN ms=g+mvN (m::ms):=by simp[mvN];omega
  rw[e]at this
  exact this
theorem yfk:∀(post pre:List Mg) (n g:Nat) (t:List Pr),post.length<n->Big (pre++post).length->(∀m∈post,GM g m)->Tb g t->g+mvN post<1000000->
  zbs NN n t (pre++post) (pre.length:Int)=some (apps post t,())
 | _,_,0,_,_,h,_,_,_,_=>absurd h (ag _)
 | [],pre,n+1,g,t,_,_,_,_,_=>by
  rw[zia]
  simp only[z4p,ai,aA,decide_false,cond_false]
  rfl
 | m::post,pre,n+1,g,t,hn,hl,hg,ho,hb=>by
  simp only[af]at hn
  have hl':pre.length<9223372036854775807:=by simp[Big]at hl;omega
  have e:mvN (m::post)=mvs m+mvN post:=by simp[mvN]
  have a1:=y6a (by omega) ho (hg m (by simp))
  rw[zia]
  simp only[z4p,U3,V4,cond_true,U0,a1]
  rw[gd_t rfl,W8 (q:=m) hl',V9,yfk post (pre++[m]) n (g+mvs m) _ (by omega) (by simpa using hl) (fun x hx=>(hg x (by simp[hx])).mono (bY _ _)) (yew ho (hg m (by simp))) (by omega)]
  rfl
theorem yfj{ms:List Mg}{g:Nat}{t:List Pr}(hn:Big ms.length)(hm:∀m∈ms,GM g m)(ho:Tb g t)(hb:g+mvN ms<1000000):zka NN t ms=some (apps ms t):=by
 have h:=yfk ms [] NN g t (by have:=W7;simp only[Big]at hn;omega) (by simpa using hn) hm ho hb
 have hz:(([]:List Mg).length:Int)=0:=rfl
 simp only[aj,hz]at h
 simp only[zka,h]
theorem ylh(p r:B):lts (p++r) p=false:=by
 have:=zjx p r []
 rw[ai]at this
 rw[this,zme]
def zpt(s:Sp)(p q:B):Sp:=(q++s.1.drop p.length,bif p.isPrefixOf s.2 then q++s.2.drop p.length else(preB q).2)
theorem y89{p:B}(hp:p∈paths):p≠[]:=by rintro rfl;simp[paths]at hp
theorem yid{s:Sp}{p q:B}(hp:p∈paths)(hq:q∈paths)(h1:p.isPrefixOf s.1=true)(l1:s.1.length<1000000)(l2:s.2.length<1000000):zij NN s p q=some (zpt s p q):=by
 have hl:=(aO.1 h1).length_le
 have hq4:=(z9b hq).2
 have hz:∀b:Bool,(bif b then(bif !(eqs s.2 [])then some 1 else none)else none:Option Nat)=none\/True:=fun _=> .inr trivial
 simp only[zij,z5f hq,ab,zrw]
 rw[gd_t (by simp;omega),zok,gd_p (by simp only[maxS,aY];omega)]
 unfold zpt
 cases e:p.isPrefixOf s.2
 ·rfl
 ·have hl2:=(aO.1 e).length_le
  have hne:eqs s.2 []=false:=zh3 fun h=>by
   rw[h]at hl2
   exact y89 hp (bN.1 (by simpa using hl2))
  rw[cond_true,hne,X4 (by rfl),gd_t (by simp;omega),zok,gd_p (by simp only[maxS,aY];omega)]
  rfl
theorem yhg{s:Sp}{p q:B}(hp:p∈paths)(hq:q∈paths)(hs:emptyB s=false)(h1:p.isPrefixOf s.1=true){k:B}(hk:hasB (zpt s p q) k=true):q.isPrefixOf k=true/\hasB s (p++k.drop q.length)=true:=by
 obtain⟨r,hr⟩:=aO.1 h1
 have hd:s.1.drop p.length=r:=by rw[<-hr,cY]
 unfold zpt at hk
 rw[hd,U1]at hk
 simp only[belowB,ac,aw,ay]at hk
 obtain⟨k1,k2⟩:=hk
 have hqk:lts k q=false:=zva (ylh q r) k1
 have hpre:q.isPrefixOf k=true:=by
  rw[<-z5y hq,U1,show(preB q).1=q from rfl,hqk]
  simp only[aN,bp,belowB,ay]
  refine .inr ?_
  cases e:p.isPrefixOf s.2
  ·rw[e,cond_false]at k2
   rcases k2 with k2 | k2
   ·have h:(paths.all fun q=> !(eqs (preB q).2 []))=true:=by decide
    have:=az.1 h q hq
    rw[k2]at this;cases this
   ·exact k2
  ·rw[e,cond_true]at k2
   have hb:hasB (preB q) (q++s.2.drop p.length)=true:=by rw[z5y hq];exact zmc _ _
   rw[U1]at hb
   simp only[belowB,ac,ay]at hb
   rcases k2 with k2 | k2
   ·have:=K5.1 k2
    simp only[dh]at this
    exact absurd this.1 (y89 hq)
   ·rcases hb.2 with h | h
    ·have h':(paths.all fun q=> !(eqs (preB q).2 []))=true:=by decide
     have:=az.1 h' q hq
     rw[h]at this;cases this
    ·exact K8 k2 h
 refine⟨hpre, ?_⟩
 obtain⟨t,rfl⟩:=aO.1 hpre
 rw[cY]
 rw[zjx]at k1
 rw[U1,<-hr,zjx,k1]
 simp only[aN,bp,belowB,ay]
 cases e:p.isPrefixOf s.2
 ·rcases full_iff.1 hs with h | h
  ·exact .inl (by rw[h];rfl)
  ·refine .inr ?_
   have h2:lts s.2 p=false:=by
    refine z09 ?_
    rw[<-hr]at h
    exact y98 (ylh p r) h
   have h3:hasB (preB p) s.2=false:=by rw[z5y hp];exact e
   rw[U1,show(preB p).1=p from rfl,h2]at h3
   simp only[aN,bp,belowB,cU]at h3
   have hb:hasB (preB p) (p++t)=true:=by rw[z5y hp];exact zmc _ _
   rw[U1]at hb
   simp only[belowB,ac,ay]at hb
   rcases hb.2 with h4 | h4
   ·rw[h3.1]at h4;cases h4
   ·exact zkn h4 h3.2
 ·obtain⟨r2,hr2⟩:=aO.1 e
  rw[e,cond_true,<-hr2,cY,zjx]at k2
  rw[<-hr2,zjx]
  rcases k2 with k2 | k2
  ·have:=K5.1 k2
   simp only[dh]at this
   exact absurd this.1 (y89 hq)
  ·exact .inr k2
theorem yn3{s:Sp}{p q:B}{e:Nat}(hp:p∈paths)(hq:q∈paths)(hs:SpG e s)(h1:p.isPrefixOf s.1=true):(zpt s p q).1∈UU (e+1)/\(zpt s p q).2∈UU (e+1):=by
 refine⟨UU.move hp hq hs.2.1 h1, ?_⟩
 unfold zpt
 cases h:p.isPrefixOf s.2
 ·exact UU.mono (by omega) (UU.path hq).2
 ·exact UU.move hp hq hs.2.2 h
def zje(l:List Sp)(p q:B):List Sp:=(l.filter fun s=> !(emptyB (G6 s (preB p)))).map fun s=>zpt (G6 s (preB p)) p q
theorem y3q{s:Sp}{p:B}(hp:p∈paths)(h:emptyB (G6 s (preB p))=false):p.isPrefixOf (G6 s (preB p)).1=true:=by
 have:=zpw h
 rw[zc3]at this
 simp only[ac]at this
 rw[<-z5y hp];exact this.2
theorem y5k{s x:Sp}{e:Nat}(hs:SpG e s)(hx:SpG e x)(h:emptyB (G6 s x)=false):SpG e (G6 s x):=by
 obtain⟨h1,h2⟩:=y3r s x h
 exact⟨h,by rcases h1 with h1 | h1<;>rw[h1]<;>first | exact hs.2.1 | exact hx.2.1,by rcases h2 with h2 | h2<;>rw[h2]<;>first | exact hs.2.2 | exact hx.2.2⟩
theorem ykz{m:Mg}{p q:B}(hp:p∈paths)(hq:q∈paths)(hm1:m.2.2.2.2.2.1=p)(hm2:m.2.2.2.2.1=q){e:Nat}(he:e<50000)(h1:1<=e):∀(post pre out:List Sp) (n:Nat),post.length<n->(pre++post).length<100000000->out.length+post.length<100000000->(∀s∈post,SpG e s)->
  z0c NN n (pre++post) (pre.length:Int) m (preB p) out=some ((),(out++zje post p q,()))
 | _,_,_,0,h,_,_,_=>absurd h (ag _)
 | [],pre,out,n+1,_,_,_,_=>by
  rw[zc0]
  simp only[z05,ai,aA,decide_false,cond_false]
  simp[zje]
 | s::post,pre,out,n+1,hn,hl,ho,hs=>by
  simp only[af]at hn ho
  have hb:pre.length<9223372036854775807:=by simp at hl;omega
  have ih:=fun out (h:out.length+post.length<100000000)=>ykz hp hq hm1 hm2 he h1 post (pre++[s]) out n (by omega) (by simpa using hl) h fun x hx=>hs x (by simp[hx])
  rw[zc0]
  simp only[z05,U3,V4,cond_true,U0,zkm,z2z,ab]
  rw[gd_t rfl]
  cases e1:emptyB (G6 s (preB p))
  ·have hG:=y5k (hs s (by simp)) ((SpG.pre hp).mono h1) e1
   have l1:=UU.len hG.2.1
   have l2:=UU.len hG.2.2
   rw[X4 (by rfl),hm1,hm2,yid hp hq (y3q hp e1) (by omega) (by omega)]
   simp only[ab]
   rw[gd_t (Y4 (by omega) (by omega)),W8 (q:=s) hb,V9 (pre:=pre) (q:=s) (post:=post),ih _ (by simp;omega)]
   simp[zje,e1]
  ·rw[Y3 (by rfl),W8 (q:=s) hb,V9 (pre:=pre) (q:=s) (post:=post),ih _ (by omega)]
   simp[zje,e1]
structure Thr (e h:Nat) (l r:List Sp) (c:Nat):Prop where
 sep:Sep r
 g:∀s∈r,SpG (e+c) s
 wt:wt (h-c) (inS r)<=wt h (inS l)
theorem SpG.len{l:List Sp}{e:Nat}(hs:Sep l)(hg:∀s∈l,SpG e s):l.length<=5+48*(e+1):=by
 have:=hs.len (E:=UU e) fun s h=>(hg s h).2.1
 rwa [UU.length]at this
theorem y6k{e h:Nat}{l x:List Sp}(he:e<40000)(hx:x.length<=2)(hs:Sep l)(hg:∀s∈l,SpG e s)(hxg:∀s∈x,SpG e s):∃r,Q6 NN l x=some r/\(∀k,inS r k=(inS l k&& !(inS x k)))/\r.length<=l.length*2^x.length/\Sep r/\∀s∈r,SpG e s:=by
 have hl:=SpG.len hs hg
 have hp:2^x.length<=4:=by
  have:x.length=0\/x.length=1\/x.length=2:=by omega
  rcases this with h | h | h<;>rw[h]<;>decide
 have hm:l.length*2^x.length<=l.length*4:=bc _ hp
 obtain⟨r,r1,r2,r3,r4,r5⟩:=y32 (l:=l) (m:=x) (E:=UU e) (fun s h=>(hxg s h).2) (UU.nil e) (fun s h _=>(hg s h).2) (by omega) (by omega)
 exact⟨r,r1,r2,r3,r4,fun s h=>⟨r4.full s h,r5 s h⟩⟩
theorem yd4{e h g:Nat}(he:e<40000)(h1:1<=g)(hge:g<=e){l:List Sp}{m:Mg}(hm:GM g m)(hs:Sep l)(hg:∀s∈l,SpG e s)(hh:1<=h):∃r,z2v NN l m=some r/\Thr e h l r (mvs m):=by
 have one:∀x:List Sp,x.length<=2->(∀s∈x,SpG e s)->∃r,Q6 NN l x=some r/\Thr e h l r 0:=fun x hx hxg=>by
  obtain⟨r,r1,r2,r3,r4,r5⟩:=y6k he hx hs hg hxg (h:=h)
  exact⟨r,r1,r4,r5,zjt fun a ha=>by rw[r2]at ha;simp at ha;exact ha.1⟩
 have big:∀(x:List Sp) (ed:B×B),ed∈ends->mvs m=1->m.2.2.2.2.1=ed.1->m.2.2.2.2.2.1=ed.2->x.length<=2->(∀s∈x,SpG e s)->(∀k,ed.2.isPrefixOf k=true->inS x k=true)->
   ∃r1 r2 r3,Q6 NN l x=some r1/\z0c NN NN l (0:Int) m (preB ed.2) r1=some ((),(r2,()))/\z0w NN r2=some r3/\Thr e h l r3 (mvs m):=fun x ed hed hmv em1 em2 hx hxg hto=>by
  obtain⟨p1,p2⟩:=U9 hed
  obtain⟨r,r1,r2,r3,r4,r5⟩:=y6k he hx hs hg hxg (h:=h)
  have hl:=SpG.len hs hg
  have hrl:=SpG.len r4 r5
  have h0:=ykz p2 p1 em2 em1 (e:=e) (by omega) (by omega) l [] r NN (by have:=W7;omega) (by simp;omega) (by omega) hg
  have hz:(([]:List Sp).length:Int)=0:=rfl
  simp only[aj,hz]at h0
  have hml:(zje l ed.2 ed.1).length<=l.length:=by unfold zje;rw[bX];exact cb _ _
  obtain⟨t,t1,t2,t3,t4,t5⟩:=zdk NN (l:=r++zje l ed.2 ed.1) (by have:=W7;simp;omega) (by simp;omega)
  have mg:∀s∈zje l ed.2 ed.1,s.1∈UU (e+1)/\s.2∈UU (e+1):=fun s hs'=>by
   unfold zje at hs'
   obtain⟨y,hy,rfl⟩:=aG.1 hs'
   obtain⟨y1,y2⟩:=aB.1 hy
   have y2:emptyB (G6 y (preB ed.2))=false:=by simpa using y2
   exact yn3 p2 p1 (y5k (hg y y1) ((SpG.pre p2).mono (by omega)) y2) (y3q p2 y2)
  have all:∀s∈r++zje l ed.2 ed.1,s.1∈UU (e+1)/\s.2∈UU (e+1):=fun s hs'=>by
   rcases ak.1 hs' with hs' | hs'
   ·exact⟨UU.mono (by omega) (r5 s hs').2.1,UU.mono (by omega) (r5 s hs').2.2⟩
   ·exact mg s hs'
  refine⟨r,_,t,r1,h0,t1,t4,fun s hs'=> ?_, ?_⟩
  ·rw[hmv]
   obtain⟨⟨a,ha,ea⟩,b,hb,eb⟩:=t5 s hs'
   exact⟨t4.full s hs',by rw[ea];exact(all a (aB.1 ha).1).1,by rw[eb];exact(all b (aB.1 hb).1).2⟩
  ·rw[hmv]
   have src:∀a,inS t a=true->inS x a=false/\inS l a=true\/ed.1.isPrefixOf a=true/\inS l (ed.2++a.drop ed.1.length)=true:=fun a ha=>by
    rw[t2,z8v,ay]at ha
    rcases ha with ha | ha
    ·rw[r2]at ha
     simp only[ac,aw]at ha
     exact .inl ⟨ha.2,ha.1⟩
    ·obtain⟨s,hs',ha⟩:=cZ.1 ha
     unfold zje at hs'
     obtain⟨y,hy,rfl⟩:=aG.1 hs'
     obtain⟨y1,y2⟩:=aB.1 hy
     have y2:emptyB (G6 y (preB ed.2))=false:=by simpa using y2
     obtain⟨k1,k2⟩:=yhg p2 p1 y2 (y3q p2 y2) ha
     rw[zc3,ac]at k2
     exact .inr ⟨k1,cZ.2 ⟨y,y1,k2.1⟩⟩
   have hto':∀a,inS x a=false->ed.2.isPrefixOf a=false:=fun a ha=>by
    cases e2:ed.2.isPrefixOf a
    ·rfl
    ·rw[hto a e2]at ha;cases ha
   refine ykx (fun a=>if inS x a=false/\inS l a=true then a else ed.2++a.drop ed.1.length) (fun a ha hp=> ?_) fun a b ha hb hab=> ?_
   ·by_cases c:inS x a=false/\inS l a=true
    ·rw[if_pos c];exact⟨UU.mono (by omega) ha,c.2⟩
    ·rw[if_neg c]
     rcases src a hp with h | ⟨k1,k2⟩
     ·exact absurd h c
     ·have:=UU.move p1 p2 ha k1
      rw[show h-1+1=h by omega]at this
      exact⟨this,k2⟩
   ·by_cases c:inS x a=false/\inS l a=true
    ·rw[if_pos c]at hab
     by_cases d:inS x b=false/\inS l b=true
     ·rw[if_pos d]at hab;exact hab
     ·rw[if_neg d]at hab
      have:=hto' a c.1
      rw[hab,zmc]at this;cases this
    ·rw[if_neg c]at hab
     rcases src a ha with h | ⟨k1,_⟩
     ·exact absurd h c
     by_cases d:inS x b=false/\inS l b=true
     ·rw[if_pos d]at hab
      have:=hto' b d.1
      rw[<-hab,zmc]at this;cases this
     ·rw[if_neg d]at hab
      rcases src b hb with h | ⟨k2,_⟩
      ·exact absurd h d
      ·have hd:=List.append_cancel_left hab
       have ea:=z98 k1
       have eb:=z98 k2
       rw[<-ea,<-eb,hd]
 cases hm with
 | put k v n hk hv=>
  obtain⟨r,r1,r2⟩:=one [(k,k++[0])] (by simp) (fun s hs'=>by simp at hs';rw[hs'];exact(SpG.one hk).mono hge)
  exact⟨r,by simp only[z2v,K4,cond_true,zpp (by omega) hk,ab,r1],r2⟩
 | del k hk=>
  obtain⟨r,r1,r2⟩:=one [(k,k++[0])] (by simp) (fun s hs'=>by simp at hs';rw[hs'];exact(SpG.one hk).mono hge)
  exact⟨r,by simp only[z2v,show eqi (2:Int) 1=false by decide,K4,cond_true,cond_false,zpp (by omega) hk,ab,r1],r2⟩
 | drop s hs'=>
  obtain⟨r,r1,r2⟩:=one [s] (by simp) (fun x hx=>by simp at hx;rw[hx];exact hs'.mono hge)
  exact⟨r,by simp only[z2v,show eqi (3:Int) 1=false by decide,show eqi (3:Int) 2=false by decide,K4,cond_true,cond_false,r1,ab],r2⟩
 | stamp s n hs'=>exact⟨l,rfl,hs,hg,al _⟩
 | move ed hed=>
  obtain⟨p1,p2⟩:=U9 hed
  obtain⟨r1,r2,r3,e1,e2,e3,e4⟩:=big [preB ed.2,preB ed.1] ed hed rfl rfl rfl (by simp) (fun s hs'=>by
   simp at hs'
   rcases hs' with rfl | rfl
   ·exact(SpG.pre p2).mono (by omega)
   ·exact(SpG.pre p1).mono (by omega)) (fun k hk=>by simp[inS,z5y p2,hk])
  refine⟨r3, ?_,e4⟩
  simp only[z2v,show eqi (4:Int) 1=false by decide,show eqi (4:Int) 2=false by decide,show eqi (4:Int) 3=false by decide,show eqi (4:Int) 6=false by decide,K4,cond_true,cond_false,z5f p2,z5f p1,ab]
  rw[gd_t (Y4 (by omega) (by omega))]
  show(Q6 NN l [preB ed.2,preB ed.1]).bind _=_
  simp only[e1,ab,e2,e3]
 | clone ed hed=>
  obtain⟨p1,p2⟩:=U9 hed
  obtain⟨r1,r2,r3,e1,e2,e3,e4⟩:=big [preB ed.2] ed hed rfl rfl rfl (by simp) (fun s hs'=>by
   simp at hs'
   rw[hs'];exact(SpG.pre p2).mono (by omega)) (fun k hk=>by simp[inS,z5y p2,hk])
  refine⟨r3, ?_,e4⟩
  simp only[z2v,show eqi (5:Int) 1=false by decide,show eqi (5:Int) 2=false by decide,show eqi (5:Int) 3=false by decide,show eqi (5:Int) 6=false by decide,show eqi (5:Int) 4=false by decide,cond_false,z5f p2,ab,e1,e2,e3]
end Ds
namespace Ds
open Go Go.Dv
set_option maxRecDepth 100000
abbrev Sl:Type:=Z7
abbrev Nd:Type:=Z6
abbrev D0:Sl:=X3
def G4(s:Sl):List Int:=s.2.2.2.2.2.1
def z42(s:Sl):Int:=s.2.2.1
def zaf(s:Sl):Nd:=s.2.2.2
def slA(p:List Sl)(i:Int):Sl:=rdL p i D0
def W2(p:List Sl)(i:Int):Bool:=decide (0<=i)&&(decide (i<(p.length:Int))&&(slA p i).1)
def kidsU(s:Sl):List Int:=if s.1=true then G4 s else[]
def X8(p:List Sl):List Int:=p.flatMap kidsU
theorem V1{p:List Sl}{i:Int}:W2 p i=true↔0<=i/\i<(p.length:Int)/\(slA p i).1=true:=by
 simp[W2]
theorem zdv{α:Type}{p:List α}{i:Int}{y d:α}(h0:0<=i)(h1:i<(p.length:Int)):rdL (setL p i y) i d=y:=by
 have:i.toNat<p.length:=by omega
 simp[rdL,setL,this]
theorem z4v{α:Type}{p:List α}{i j:Int}{y d:α}(h0:0<=i)(h1:0<=j)(h:j≠i):rdL (setL p i y) j d=rdL p j d:=by
 have:i.toNat≠j.toNat:=by omega
 simp[rdL,setL,List.getElem?_set,this]
@[simp] theorem z0a{α:Type}(p:List α)(i:Int)(y:α):(setL p i y).length=p.length:=by simp[setL]
theorem z5x{α:Type}{p:List α}{i:Int}{d:α}(h0:0<=i)(h1:i<(p.length:Int)):rdL p i d∈p:=by
 have:i.toNat<p.length:=by omega
 simp[rdL,this]
theorem y5j{α:Type}{p:List α}{x:α}(d:α)(h:x∈p):∃i:Int,0<=i/\i<(p.length:Int)/\rdL p i d=x:=by
 obtain⟨n,hn,rfl⟩:=List.mem_iff_getElem.1 h
 exact⟨(n:Int),by omega,by omega,by simp[rdL,hn]⟩
theorem yg9(j:Int):∀(p:List Sl) (n:Nat) (y:Sl) (h:n<p.length),(X8 (p.set n y)).count j+(kidsU p[n]).count j=(X8 p).count j+(kidsU y).count j
 | [],_,_,h=>absurd h (ag _)
 | s::p,0,y,_=>by simp only[X8,eL,cm,cG,d6];omega
 | s::p,n+1,y,h=>by
  have ih:=yg9 j p n y (by simpa using h)
  simp only[X8,dL,cm,cG,di]at ih|-
  omega
theorem zha{p:List Sl}{i:Int}(h1:i.toNat<p.length):slA p i=p[i.toNat]:=by simp[slA,rdL,h1]
theorem y47(p:List Sl)(i:Int)(y:Sl)(j:Int)(h0:0<=i)(h1:i<(p.length:Int)):(X8 (setL p i y)).count j+(kidsU (slA p i)).count j=(X8 p).count j+(kidsU y).count j:=by
 have h:i.toNat<p.length:=by omega
 rw[zha h]
 exact yg9 j p i.toNat y h
theorem y2f{p:List Sl}{i k:Int}(hu:W2 p i=true)(hk:k∈G4 (slA p i)):k∈X8 p:=by
 obtain⟨h0,h1,h2⟩:=V1.1 hu
 refine dr.2 ⟨slA p i,z5x h0 h1, ?_⟩
 rw[kidsU,if_pos h2];exact hk
theorem ypr{p:List Sl}{k:Int}(h:k∈X8 p):∃i,W2 p i=true/\k∈G4 (slA p i):=by
 obtain⟨s,hs,hk⟩:=dr.1 h
 obtain⟨i,h0,h1,h2⟩:=y5j D0 hs
 unfold kidsU at hk
 split at hk
 ·rename_i hu
  exact⟨i,V1.2 ⟨h0,h1,by rw[show slA p i=s from h2];exact hu⟩,by rw[show slA p i=s from h2];exact hk⟩
 ·cases hk
structure Bal (p:List Sl) (L:List Int):Prop where
 z:∀s∈p,s.1=false->s=D0
 lost:∀s∈p,s.2.1=false
 refs:∀i,W2 p i=true->z42 (slA p i)=((L.count i+(X8 p).count i:Nat):Int)
 mem:∀k∈L,W2 p k=true
 kid:∀k∈X8 p,W2 p k=true
 pos:∀i,W2 p i=true->0<L.count i+(X8 p).count i
 rank:∃r:Int->Nat,∀i,W2 p i=true->∀k∈G4 (slA p i),r k<r i
theorem Bal.congr{p:List Sl}{L L':List Int}(h:Bal p L)(hc:∀i,L'.count i=L.count i):Bal p L':=by
 refine⟨h.z,h.lost,fun i hi=>by rw[hc];exact h.refs i hi,fun k hk=> ?_,h.kid,fun i hi=>by rw[hc];exact h.pos i hi,h.rank⟩
 apply h.mem
 rw[<-bi,<-hc,bi];exact hk
structure Shr (p q:List Sl):Prop where
 len:q.length=p.length
 node:∀i,W2 q i=true->W2 p i=true/\zaf (slA q i)=zaf (slA p i)
theorem Shr.refl(p:List Sl):Shr p p:=⟨rfl,fun i h=>⟨h,rfl⟩⟩
theorem Shr.trans{p q r:List Sl}(h:Shr p q)(k:Shr q r):Shr p r:=
 ⟨k.len.trans h.len,fun i hi=>⟨(h.node i (k.node i hi).1).1,(k.node i hi).2.trans (h.node i (k.node i hi).1).2⟩⟩
theorem zh2(s:Sl):G4 s=(zaf s).2.2.1:=rfl
theorem y20(p:List Sl)(r:Int->Nat):∃B,∀i,W2 p i=true->r i<B:=by
 have:∀n:Nat,∃B,∀i:Int,0<=i->i<(n:Int)->r i<B:=by
  intro n
  induction n with
  | zero=>exact⟨0,fun i h0 h1=>by omega⟩
  | succ n ih=>
   obtain⟨B,hB⟩:=ih
   refine⟨B+r n+1,fun i h0 h1=> ?_⟩
   by_cases e:i=(n:Int)
   ·subst e;omega
   ·have:=hB i h0 (by omega);omega
 obtain⟨B,hB⟩:=this p.length
 exact⟨B,fun i hi=>by obtain⟨h0,h1,_⟩:=V1.1 hi;exact hB i h0 h1⟩
theorem yp7{p:List Sl}{L:List Int}(h:Bal p L)(Q:Int->Prop)(hr:∀k∈L,Q k)(hk:∀i k,W2 p i=true->Q i->k∈G4 (slA p i)->Q k):∀i,W2 p i=true->Q i:=by
 obtain⟨r,hrk⟩:=h.rank
 obtain⟨B,hB⟩:=y20 p r
 have:∀n i,W2 p i=true->B-r i<=n->Q i:=by
  intro n
  induction n with
  | zero=>intro i hi hn;have:=hB i hi;omega
  | succ n ih=>
   intro i hi hn
   have hp:=h.pos i hi
   by_cases hc:0<L.count i
   ·exact hr i (bi.1 hc)
   ·have:0<(X8 p).count i:=by omega
    obtain⟨j,hj,hkj⟩:=ypr (bi.1 this)
    have:=hrk j hj i hkj
    exact hk j i hj (ih j hj (by omega)) hkj
 exact fun i hi=>this _ i hi (al _)
theorem zda{p:List Sl}{L:List Int}(h:Bal p L){i:Int}(h0:0<=i)(h1:i<(p.length:Int))(hu:¬W2 p i=true):slA p i=D0:=by
 refine h.z _ (z5x h0 h1) ?_
 cases e:(slA p i).1 with
 | false=>rfl
 | true=>exact absurd (V1.2 ⟨h0,h1,e⟩) hu
theorem z69{p:List Sl}{i:Int}{y:Sl}(h0:0<=i)(h1:i<(p.length:Int)):slA (setL p i y) i=y:=zdv h0 h1
theorem z0e{p:List Sl}{i j:Int}{y:Sl}(h0:0<=i)(h1:0<=j)(h:j≠i):slA (setL p i y) j=slA p j:=z4v h0 h1 h
theorem y3a{p:List Sl}{i j:Int}{y:Sl}(h0:0<=i)(h1:i<(p.length:Int)):W2 (setL p i y) j=if j=i then y.1 else W2 p j:=by
 by_cases e:j=i
 ·subst e
  rw[if_pos rfl,W2,z69 h0 h1,z0a]
  simp[h0,h1]
 ·rw[if_neg e]
  by_cases hj:0<=j
  ·rw[W2,W2,z0e h0 hj e,z0a]
  ·simp[W2,hj]
theorem mem_setL{p:List Sl}{i:Int}{y s:Sl}(h:s∈setL p i y):s∈p\/s=y:=List.mem_or_eq_of_mem_set h
def K3(s:Sl)(n:Int):Sl:=(s.1,(s.2.1,(n,s.2.2.2)))
theorem ycn{p:List Sl}{L L':List Int}{k:Int}{n:Int}(h:Bal p L)(hk:W2 p k=true)
  (hc:∀i,i≠k->L'.count i=L.count i) (hn:n=((L'.count k+(X8 p).count k:Nat):Int)) (hp:0<L'.count k+(X8 p).count k):
  Bal (setL p k (K3 (slA p k) n)) L'/\Shr p (setL p k (K3 (slA p k) n)):=by
 obtain⟨h0,h1,h2⟩:=V1.1 hk
 have hu:∀j,W2 (setL p k (K3 (slA p k) n)) j=W2 p j:=by
  intro j
  rw[y3a h0 h1]
  by_cases e:j=k
  ·subst e;rw[if_pos rfl,hk];exact h2
  ·rw[if_neg e]
 have hcn:∀j,(X8 (setL p k (K3 (slA p k) n))).count j=(X8 p).count j:=by
  intro j
  have:=y47 p k (K3 (slA p k) n) j h0 h1
  have e:kidsU (K3 (slA p k) n)=kidsU (slA p k):=rfl
  rw[e]at this;omega
 have hmk:∀j,j∈X8 (setL p k (K3 (slA p k) n))↔j∈X8 p:=fun j=>by rw[<-bi,hcn,bi]
 have hkd:∀j,0<=j->G4 (slA (setL p k (K3 (slA p k) n)) j)=G4 (slA p j)/\zaf (slA (setL p k (K3 (slA p k) n)) j)=zaf (slA p j):=by
  intro j hj
  by_cases e:j=k
  ·subst e;rw[z69 h0 h1];exact⟨rfl,rfl⟩
  ·rw[z0e h0 hj e];exact⟨rfl,rfl⟩
 refine⟨⟨fun s hs he=> ?_,fun s hs=> ?_,fun i hi=> ?_,fun j hj=> ?_,fun j hj=> ?_,fun i hi=> ?_, ?_⟩,⟨z0a _ _ _,fun i hi=> ?_⟩⟩
 ·rcases mem_setL hs with hs | rfl
  ·exact h.z s hs he
  ·rw[show(K3 (slA p k) n).1=(slA p k).1 from rfl,h2]at he;cases he
 ·rcases mem_setL hs with hs | rfl
  ·exact h.lost s hs
  ·exact h.lost (slA p k) (z5x h0 h1)
 ·rw[hu]at hi
  rw[hcn]
  by_cases e:i=k
  ·subst e;rw[z69 h0 h1];exact hn
  ·rw[z0e h0 (V1.1 hi).1 e,hc i e];exact h.refs i hi
 ·rw[hu]
  by_cases e:j=k
  ·subst e;exact hk
  ·apply h.mem;rw[<-bi,<-hc j e,bi];exact hj
 ·rw[hu];exact h.kid j ((hmk j).1 hj)
 ·rw[hu]at hi;rw[hcn]
  by_cases e:i=k
  ·subst e;exact hp
  ·rw[hc i e];exact h.pos i hi
 ·obtain⟨r,hr⟩:=h.rank
  refine⟨r,fun i hi j hj=> ?_⟩
  rw[hu]at hi
  rw[(hkd i (V1.1 hi).1).1]at hj
  exact hr i hi j hj
 ·rw[hu]at hi
  exact⟨hi,(hkd i (V1.1 hi).1).2⟩
theorem ykk{p:List Sl}{L L':List Int}{k:Int}(h:Bal p L)(hk:W2 p k=true)
  (hc:∀i,i≠k->L'.count i=L.count i) (h0c:L'.count k=0) (hak:(X8 p).count k=0):
  Bal (setL p k D0) (L'++G4 (slA p k))/\Shr p (setL p k D0):=by
 obtain⟨h0,h1,h2⟩:=V1.1 hk
 have hu:∀j,W2 (setL p k D0) j=if j=k then false else W2 p j:=fun j=>y3a h0 h1
 have hcn:∀j,(X8 (setL p k D0)).count j+(G4 (slA p k)).count j=(X8 p).count j:=by
  intro j
  have:=y47 p k D0 j h0 h1
  have e:kidsU D0=[]:=rfl
  rw[e,kidsU,if_pos h2]at this
  simpa using this
 have hne:∀j,j∈X8 p->j≠k:=fun j hj e=>by subst e;have:=bi.2 hj;omega
 have hkne:∀j,j∈G4 (slA p k)->j≠k:=fun j hj=>hne j (y2f hk hj)
 have hsub:∀j,j∈X8 (setL p k D0)->j∈X8 p:=fun j hj=>by
  have:=bi.2 hj
  have:=hcn j
  exact bi.1 (by omega)
 have hun:∀i,W2 (setL p k D0) i=true->i≠k/\W2 p i=true:=by
  intro i hi
  rw[hu]at hi
  by_cases e:i=k
  ·rw[if_pos e]at hi;cases hi
  ·rw[if_neg e]at hi;exact⟨e,hi⟩
 refine⟨⟨fun s hs he=> ?_,fun s hs=> ?_,fun i hi=> ?_,fun j hj=> ?_,fun j hj=> ?_,fun i hi=> ?_, ?_⟩,⟨z0a _ _ _,fun i hi=> ?_⟩⟩
 ·rcases mem_setL hs with hs | rfl
  ·exact h.z s hs he
  ·rfl
 ·rcases mem_setL hs with hs | rfl
  ·exact h.lost s hs
  ·rfl
 ·obtain⟨e,hi⟩:=hun i hi
  rw[z0e h0 (V1.1 hi).1 e,h.refs i hi,cG,hc i e]
  have:=hcn i
  congr 1;omega
 ·rw[hu]
  rcases ak.1 hj with hj1 | hj
  ·have e:j≠k:=fun e=>by rw[e]at hj1;have:=bi.2 hj1;omega
   rw[if_neg e]
   apply h.mem;rw[<-bi,<-hc j e,bi];exact hj1
  ·rw[if_neg (hkne j hj)];exact h.kid j (y2f hk hj)
 ·rw[hu,if_neg (hne j (hsub j hj))];exact h.kid j (hsub j hj)
 ·obtain⟨e,hi⟩:=hun i hi
  have:=h.pos i hi
  rw[cG,hc i e]
  have:=hcn i
  omega
 ·obtain⟨r,hr⟩:=h.rank
  refine⟨r,fun i hi j hj=> ?_⟩
  obtain⟨e,hi⟩:=hun i hi
  rw[z0e h0 (V1.1 hi).1 e]at hj
  exact hr i hi j hj
 ·obtain⟨e,hi⟩:=hun i hi
  exact⟨hi,by rw[z0e h0 (V1.1 hi).1 e]⟩
theorem zar(N:Nat)(p:List Sl)(i:Int):z6p N p i=some (W2 p i):=by
 unfold z6p W2 slA
 by_cases h0:0<=i
 ·by_cases h1:i<(p.length:Int)
  ·simp only[h0,h1,decide_true,cond_true,bp]
   rw[gd_t (V6 h0 h1)]
  ·simp[h0,h1]
 ·simp[h0]
theorem zy1(N:Nat)(p:List Sl)(h:p.length<=100000):z93 N p=some p:=by
 unfold z93
 rw[gd_t (Y4 (by omega) (by omega))]
 simp
theorem y6o:∀(p:List Sl) (n:Nat) (y:Sl) (h:n<p.length),(X8 (p.set n y)).length+(kidsU p[n]).length=(X8 p).length+(kidsU y).length
 | [],_,_,h=>absurd h (ag _)
 | s::p,0,y,_=>by simp only[X8,eL,cm,ae,d6];omega
 | s::p,n+1,y,h=>by
  have ih:=y6o p n y (by simpa using h)
  simp only[X8,dL,cm,ae,di]at ih|-
  omega
theorem zlw(p:List Sl)(i:Int)(y:Sl)(h0:0<=i)(h1:i<(p.length:Int)):(X8 (setL p i y)).length+(kidsU (slA p i)).length=(X8 p).length+(kidsU y).length:=by
 have h:i.toNat<p.length:=by omega
 rw[zha h]
 exact y6o p i.toNat y h
theorem ygv(p:List Sl)(i:Int)(x y:Sl):setL (setL p i x) i y=setL p i y:=by simp[setL]
theorem yhq{p:List Sl}{rest R:List Int}{k:Int}(h:Bal p (k::(rest++R)))(hb:rest.length+1+R.length+(X8 p).length<1000000000):
  ∃c:Int,aa .i64 (z42 (slA p k)-1)=c/\0<=c/\
   (0<c->Bal (setL p k (K3 (slA p k) c)) (rest++R)/\Shr p (setL p k (K3 (slA p k) c))/\(X8 (setL p k (K3 (slA p k) c))).length=(X8 p).length)/\
   (c=0->Bal (setL p k D0) ((rest++G4 (slA p k))++R)/\Shr p (setL p k D0)/\(X8 (setL p k D0)).length+(G4 (slA p k)).length=(X8 p).length):=by
 have hk:=h.mem k (by simp)
 obtain⟨h0,h1,h2⟩:=V1.1 hk
 have hr:=h.refs k hk
 rw[dA]at hr
 have l1:=bF (a:=k) (l:=rest++R)
 have l2:=bF (a:=k) (l:=X8 p)
 rw[ae]at l1
 have hw:aa .i64 (z42 (slA p k)-1)=(((rest++R).count k+(X8 p).count k:Nat):Int):=by
  rw[hr,w64 (by omega) (by omega)];omega
 have hc:∀i,i≠k->(rest++R).count i=(k::(rest++R)).count i:=fun i e=>by
  rw[dC];simp[Ne.symm e]
 refine⟨_,hw,by omega,fun hpos=> ?_,fun hz=> ?_⟩
 ·obtain⟨a,b⟩:=ycn h hk hc rfl (by omega)
  refine⟨a,b, ?_⟩
  have:=zlw p k (K3 (slA p k) (((rest++R).count k+(X8 p).count k:Nat):Int)) h0 h1
  have e:kidsU (K3 (slA p k) (((rest++R).count k+(X8 p).count k:Nat):Int))=kidsU (slA p k):=rfl
  rw[e]at this;omega
 ·obtain⟨a,b⟩:=ykk h hk hc (by omega) (by omega)
  refine⟨a.congr fun i=>by simp only[cG];omega,b, ?_⟩
  have:=zlw p k D0 h0 h1
  have e:kidsU D0=[]:=rfl
  rw[e,kidsU,if_pos h2]at this
  simpa using this
theorem y74(k:Int)(rest:List Int):cut2 (k::rest) 1 ((k::rest).length:Int)=rest:=by
 simp only[cut2,dj,af]
 show List.take (rest.length+1-1) (List.drop 1 (k::rest))=rest
 simp
theorem zrq(N:Nat)(R:List Int):∀(n:Nat) (todo:List Int) (p:List Sl),Bal p (todo++R)->todo.length+R.length+(X8 p).length<1000000000->todo.length+(X8 p).length<n->
  ∃q,z76 N n todo p=some (((),()),((),((),(q,()))))/\Bal q R/\Shr p q
 | 0,_,_,_,_,hn=>absurd hn (ag _)
 | n+1,[],p,h,hb,hn=>by
  refine⟨p, ?_,by simpa using h,Shr.refl p⟩
  rw[zge]
  simp[z3f]
 | n+1,k::rest,p,h,hb,hn=>by
  simp only[af]at hb hn
  have hk:=h.mem k (by simp)
  obtain⟨h0,h1,h2⟩:=V1.1 hk
  obtain⟨c,hc,hc0,hc1,hc2⟩:=yhq (rest:=rest) (R:=R) h (by omega)
  have hrd:rdL (k::rest) (0:Int) (0:Int)=k:=rfl
  rw[zge]
  simp only[z3f,hrd,y74,zar,hk]
  rw[X4 (by simp<;>omega),gd_t (V6 (by omega) (by simp<;>omega)),gd_t (by simp<;>omega)]
  simp only[aR,cond_false]
  rw[gd_t (V6 h0 h1),gd_t (V6 h0 h1)]
  have hx7:setL p k ((rdL p k X3).1,(((rdL p k X3).2).1,((aa .i64 ((((rdL p k X3).2).2).1-(1:Int))),((((rdL p k X3).2).2).2))))=setL p k (K3 (slA p k) c):=by
   rw[<-hc];rfl
  rw[hx7]
  have hr7:rdL (setL p k (K3 (slA p k) c)) k X3=K3 (slA p k) c:=z69 h0 h1
  rw[hr7]
  have hc8:(((K3 (slA p k) c).2).2).1=c:=rfl
  have hk8:((((((K3 (slA p k) c).2).2).2).2).2).1=G4 (slA p k):=rfl
  rw[hc8,hk8,ygv,gd_t (V6 h0 (by simpa using h1))]
  by_cases hcz:c=0
  ·obtain⟨a,b,d⟩:=hc2 hcz
   obtain⟨q,q1,q2,q3⟩:=zrq N R n (rest++G4 (slA p k)) _ a (by rw[ae];omega) (by rw[ae];omega)
   refine⟨q, ?_,q2,b.trans q3⟩
   rw[X4 (zx4.2 hcz),gd_t (Y4 (by omega) (by omega)),gd_t (V6 h0 (by simpa using h1)),gd_t (Y4 (by simp;omega) (by omega)),gd_t (V6 h0 (by simpa using h1))]
   exact q1
  ·obtain⟨a,b,d⟩:=hc1 (by omega)
   obtain⟨q,q1,q2,q3⟩:=zrq N R n rest _ a (by rw[d];omega) (by rw[d];omega)
   refine⟨q, ?_,q2,b.trans q3⟩
   rw[Y3 (J6 hcz)]
   exact q1
theorem ya3{N:Nat}(hN:2000000000<=N){p:List Sl}{id:Int}{R:List Int}(h:Bal p (id::R))(hl:p.length<=100000)(hb:R.length+(X8 p).length<500000000):
  ∃q,z2k N p id=some (q,0)/\Bal q R/\Shr p q:=by
 have hk:=h.mem id (by simp)
 obtain⟨q,q1,q2,q3⟩:=zrq N R N [id] p h (by simp;omega) (by simp;omega)
 refine⟨q, ?_,q2,q3⟩
 unfold z2k
 rw[zar,zy1 N p hl,hk]
 simp only[aR,cond_false]
 have q1':z76 N N ([id]:List Int) p=_:=q1
 rw[q1']
def zs6(p:List Sl)(id:Int):List Sl:=setL p id (K3 (slA p id) (aa .i64 (z42 (slA p id)+1)))
theorem ya2{N:Nat}{p:List Sl}{id:Int}(hl:p.length<=100000):z8q N p id=some (if W2 p id=true then(zs6 p id,0)else(p,110)):=by
 unfold z8q
 rw[zar,zy1 N p hl]
 cases hu:W2 p id with
 | false=>rfl
 | true=>
  obtain⟨h0,h1,h2⟩:=V1.1 hu
  simp only[aR,cond_false]
  rw[gd_t (V6 h0 h1),gd_t (V6 h0 h1)]
  rfl
theorem yk0{p:List Sl}{id:Int}{L:List Int}(h:Bal p L)(hu:W2 p id=true)(hb:L.length+(X8 p).length<1000000000):Bal (zs6 p id) (id::L)/\Shr p (zs6 p id)/\Shr (zs6 p id) p/\(X8 (zs6 p id)).length=(X8 p).length:=by
 obtain⟨h0,h1,h2⟩:=V1.1 hu
 have hr:=h.refs id hu
 have l1:=bF (a:=id) (l:=L)
 have l2:=bF (a:=id) (l:=X8 p)
 have hw:aa .i64 (z42 (slA p id)+1)=(((id::L).count id+(X8 p).count id:Nat):Int):=by
  rw[hr,w64 (by omega) (by omega),dA];omega
 have hb':=ycn (L':=id::L) h hu (fun i e=>by rw[dC];simp[Ne.symm e]) hw (by rw[dA];omega)
 refine⟨hb'.1,hb'.2,⟨(z0a _ _ _).symm,fun i hi=> ?_⟩, ?_⟩
 ·have hu':W2 (zs6 p id) i=W2 p i:=by
   unfold zs6
   rw[y3a h0 h1]
   by_cases e:i=id
   ·subst e;rw[if_pos rfl,hu];exact h2
   ·rw[if_neg e]
  exact⟨by rw[hu'];exact hi,((hb'.2.node i (by show W2 (zs6 p id) i=true;rw[hu'];exact hi)).2).symm⟩
 ·have:=zlw p id (K3 (slA p id) (aa .i64 (z42 (slA p id)+1))) h0 h1
  have e:kidsU (K3 (slA p id) (aa .i64 (z42 (slA p id)+1)))=kidsU (slA p id):=rfl
  rw[e]at this
  unfold zs6;omega
theorem ylk{α R:Type}(p:List α)(b:Int)(h:p.length<=100000)(hb:0<=b)(hb2:b<=1000)(k:Option R):gd ((decide (0<=(aq p:Int))&&decide ((aq p:Int)<=(aq p:Int)))&&(decide ((aq p:Int)<maxB)&&decide ((aq p:Int)*b<maxB))) k=k:=by
 have hmx:(maxB:Int)=4398046511104:=rfl
 refine gd_t ?_ k
 simp only[ac,decide_eq_true_eq,hmx]
 refine⟨⟨by omega,by omega⟩,by omega, ?_⟩
 have:(p.length:Int)*b<=100000*1000:=Int.mul_le_mul (by omega) hb2 hb (by omega)
 omega
def rem:List Sl->List Bool->Nat
 | s::p,b::ks=>(if b=true then 0 else(kidsU s).length)+rem p ks
 | _,_=>0
theorem zxf:∀p:List Sl,rem p (List.replicate p.length false)=(X8 p).length
 | []=>rfl
 | s::p=>by
  simp only[af,List.replicate_succ,rem,X8,cm,ae]
  have:=zxf p
  unfold X8 at this
  simp[this]
theorem zwz:∀(p:List Sl) (ks:List Bool) (n:Nat) (h:n<p.length) (h':n<ks.length),ks[n]=false->rem p (ks.set n true)+(kidsU p[n]).length=rem p ks
 | [],_,_,h,_,_=>absurd h (ag _)
 | s::p,[],_,_,h,_=>absurd h (ag _)
 | s::p,b::ks,0,_,_,e=>by
  have e:b=false:=e
  subst e
  simp[rem];omega
 | s::p,b::ks,n+1,h,h',e=>by
  have:=zwz p ks n (by simpa using h) (by simpa using h') e
  simp only[dL,rem,di];omega
def zjz:Int->List Bool->List Int
 | _,[]=>[]
 | i,b::bs=>if b=true then i::zjz (i+1) bs else zjz (i+1) bs
theorem zxn:∀(bs:List Bool) (i j:Int),j∈zjz i bs↔i<=j/\j<i+bs.length/\rdL bs (j-i) false=true
 | [],i,j=>by simp[zjz];omega
 | b::bs,i,j=>by
  have ih:=zxn bs (i+1) j
  have hlow:j∈zjz (i+1) bs->i+1<=j:=fun h=>(ih.1 h).1
  have hsucc:i+1<=j->rdL (b::bs) (j-i) false=rdL bs (j-(i+1)) false:=by
   intro h
   have:(j-i).toNat=(j-(i+1)).toNat+1:=by omega
   simp[rdL,this]
  have hz:rdL (b::bs) (i-i) false=b:=by simp[rdL]
  have hmain:j∈zjz i (b::bs)↔(j=i/\b=true)\/j∈zjz (i+1) bs:=by
   simp only[zjz]
   split
   ·rename_i h;simp[h]
   ·rename_i h;simp[h]
  rw[hmain]
  constructor
  ·rintro(⟨rfl,hb⟩ | h)
   ·exact⟨eX _,by simp<;>omega,by rw[hz];exact hb⟩
   ·obtain⟨a,c,d⟩:=ih.1 h
    exact⟨by omega,by simp;omega,by rw[hsucc a];exact d⟩
  ·rintro⟨a,c,d⟩
   by_cases e:j=i
   ·subst e;rw[hz]at d;exact .inl ⟨rfl,d⟩
   ·refine .inr (ih.2 ⟨by omega,by simp at c;omega, ?_⟩)
    rw[<-hsucc (by omega)];exact d
theorem zy3:∀(bs:List Bool) (i:Int),(zjz i bs).Pairwise (·<·)
 | [],_=>bg.nil
 | b::bs,i=>by
  simp only[zjz]
  split
  ·exact aJ.2 ⟨fun j hj=>by have:=((zxn bs (i+1) j).1 hj).1;omega,zy3 bs (i+1)⟩
  ·exact zy3 bs (i+1)
def Q1(p:List Sl):Nat:=(p.takeWhile (fun s=>s.1)).length
def ext(p:List Sl):List Sl:=if Q1 p=p.length then p++[D0]else p
def zhq(q:List Sl)(k:Int):List Sl:=setL q k (K3 (slA q k) (aa .i64 (z42 (slA q k)+1)))
def bump(q:List Sl)(ks:List Int):List Sl:=ks.foldl zhq q
def zfr(n:Nd):Sl:=(true,(false,((1:Int),n)))
def addP(p:List Sl)(n:Nd):List Sl:=bump (setL (ext p) (Q1 p:Int) (zfr n)) n.2.2.1
def addF(p:List Sl)(n:Nd):List Sl×(Int×Int):=
 if n.2.2.1.all (W2 p)=true then(if 4096<=(Q1 p:Int)then(p,((0:Int),(111:Int)))else(addP p n,((Q1 p:Int),(0:Int))))else(p,((0:Int),(110:Int)))
theorem y3p(p:List Sl):Q1 p<=p.length:=(List.takeWhile_prefix _).length_le
theorem yf2:∀(p:List Sl) (h:(p.takeWhile (fun s=>s.1)).length<p.length),(p[(p.takeWhile (fun s=>s.1)).length]).1=false
 | [],h=>absurd h (ag _)
 | s::p,h=>by
  cases hs:s.1 with
  | false=>simp[hs]
  | true=>
   have h':(p.takeWhile (fun s=>s.1)).length<p.length:=by simpa[hs] using h
   have:=yf2 p h'
   simpa[hs] using this
theorem zs2(p:List Sl):W2 p (Q1 p:Int)=false:=by
 cases hu:W2 p (Q1 p:Int)with
 | false=>rfl
 | true=>
  obtain⟨h0,h1,h2⟩:=V1.1 hu
  have hlt:Q1 p<p.length:=by omega
  have:=yf2 p hlt
  rw[zha (by simpa using hlt)]at h2
  simp only[dj]at h2
  have h3:(p[Q1 p]).1=false:=this
  rw[h3]at h2;cases h2
theorem y7{p:List Sl}{k:Int}(h:W2 p k=true):0<=k:=(V1.1 h).1
theorem z8n{p:List Sl}{k:Int}(h:W2 p k=true):k<(p.length:Int):=(V1.1 h).2.1
theorem z6f{p:List Sl}{l:List Int}:l.all (W2 p)=true↔∀k∈l,W2 p k=true:=by simp
theorem y9o{p q:List Sl}{k:Int}(h:W2 p k=true)(hq:p.length<=q.length):inB k q.length=true:=V6 (y7 h) (by have:=z8n h;omega)
theorem zo0(q:List Sl)(k:Int):(zhq q k).length=q.length:=z0a _ _ _
theorem y87(N:Nat)(p:List Sl)(id:Int){nd:Nd}:∀(post pre:List Int) (m:Nat) (q:List Sl),nd.2.2.1=pre++post->post.length<m->(pre++post).length<1000000000->post.all (W2 p)=true->p.length<=q.length->
  z4t N m id (pre.length:Int) nd q=some (((),(id,())),((),((),(bump q post,()))))
 | [],_,0,_,_,h,_,_,_=>absurd h (ag _)
 | _::_,_,0,_,_,h,_,_,_=>absurd h (ag _)
 | [],pre,m+1,q,hk,_,_,_,_=>by
  rw[zi5]
  simp only[z4k,hk,ai,aA,decide_false,cond_false]
  rfl
 | k::post,pre,m+1,q,hk,hm,hb,hu,hq=>by
  simp only[ae,af]at hb hm
  simp only[bo,ac]at hu
  have hi:=y9o hu.1 hq
  rw[zi5]
  simp only[z4k,hk,U3,V4,U0,cond_true]
  rw[gd_t rfl,gd_t hi,gd_t hi,W8 (q:=k) (by omega)]
  exact y87 N p id post (pre++[k]) m (zhq q k) (by rw[hk];simp) (by omega) (by simp only[ae,af,ap];omega) hu.2 (by rw[zo0];exact hq)
theorem yfh(N:Nat)(p:List Sl){nd:Nd}:∀(post pre:List Int) (m:Nat),nd.2.2.1=pre++post->post.length<m->(pre++post).length<1000000000->
  z95 N m (pre.length:Int) p nd=some (bif post.all (W2 p)then .inr (((),((),())),(p,(nd,((),()))))else .inl ((),((p,((0:Int),(110:Int))),())))
 | [],_,0,_,h,_=>absurd h (ag _)
 | _::_,_,0,_,h,_=>absurd h (ag _)
 | [],pre,m+1,hk,_,_=>by
  rw[zi7]
  simp only[z4m,hk,ai,aA,decide_false,cond_false]
  rfl
 | k::post,pre,m+1,hk,hm,hb=>by
  simp only[ae,af]at hb hm
  have ih:=yfh N p (nd:=nd) post (pre++[k]) m (by rw[hk];simp) (by omega) (by simp only[ae,af,ap];omega)
  rw[zi7]
  simp only[z4m,hk,U3,V4,U0,cond_true,zar,bo]
  rw[gd_t rfl,W8 (q:=k) (by omega)]
  cases hu:W2 p k with
  | false=>rfl
  | true=>
   simp only[aR,cond_false,bp]
   exact ih
theorem yfg(N:Nat){nd:Nd}:∀(post pre:List Sl) (m:Nat),post.length<m->(pre++post).length<1000000000->
  z94 N m (pre.length:Int) (pre++post) nd=some (((),((),((),((pre.length+Q1 post:Nat):Int)))),(pre++post,(nd,((),()))))
 | [],_,0,h,_=>absurd h (ag _)
 | _::_,_,0,h,_=>absurd h (ag _)
 | [],pre,m+1,_,_=>by
  rw[zi6]
  simp only[z4l,ai,aA,decide_false,cond_false]
  rfl
 | s::post,pre,m+1,hm,hb=>by
  simp only[ae,af]at hb hm
  have h:=yfg N (nd:=nd) post (pre++[s]) m (by omega) (by simp only[ae,af,ap];omega)
  rw[zi6]
  simp only[z4l,U3,V4,U0,cond_true]
  rw[gd_t rfl,W8 (q:=s) (by omega)]
  cases hs:s.1 with
  | false=>
   have:Q1 (s::post)=0:=by simp[Q1,hs]
   rw[this]
   rfl
  | true=>
   have:Q1 (s::post)=Q1 post+1:=by simp[Q1,hs]
   rw[this]
   have e:(pre++[s]).length+Q1 post=pre.length+(Q1 post+1):=by simp;omega
   rw[e]at h
   rw[<-V9 (pre:=pre) (q:=s) (post:=post)]at h
   exact h
theorem y1x{N:Nat}(hN:2000000000<=N){p:List Sl}{n:Nd}(hl:p.length<=50000)(hk:n.2.2.1.length<1000000000):z5s N p n=some (addF p n):=by
 unfold z5s addF
 have h0:=yfh N p (nd:=n) n.2.2.1 [] N rfl (by omega) (by simpa using hk)
 have h0':z95 N N (0:Int) p n=_:=h0
 simp only[h0']
 cases hu:n.2.2.1.all (W2 p)with
 | false=>rfl
 | true=>
  simp only[cond_true,if_true,aj]
  have hle:=y3p p
  have h1:=yfg N (nd:=n) p [] N (by omega) (by simpa using(by omega:p.length<1000000000))
  have h1':z94 N N (0:Int) p n=some (((),((),((),(Q1 p:Int)))),(p,(n,((),())))):=by
   rw[show((Q1 p:Nat):Int)=(([]:List Sl).length+Q1 p:Nat) by simp]
   exact h1
  rw[h1']
  try simp only
  by_cases hbig:(4096:Int)<=(Q1 p:Int)
  ·rw[X4 (by simpa using hbig),if_pos hbig]
  ·rw[Y3 (by simpa using hbig),if_neg hbig,zy1 N p (by omega)]
   try simp only
   by_cases e:Q1 p=p.length
   ·rw[X4 (zx4.2 (by omega)),gd_t (Y4 (by simp;omega) (by omega)),gd_t (V6 (by omega) (by simp;omega))]
    have hx:setL (p++[D0]) (Q1 p:Int) (zfr n)=setL (ext p) (Q1 p:Int) (zfr n):=by rw[ext,if_pos e]
    have h2:=y87 N p (Q1 p:Int) (nd:=n) n.2.2.1 [] N (setL (p++[D0]) (Q1 p:Int) (zfr n)) rfl (by omega) (by simpa using hk) hu (by simp)
    have h3:z4t N N (Q1 p:Int) (0:Int) n (setL (p++[(false,(false,((0:Int),(([]:List Z3),(([]:List (List UInt8)),(([]:List Int),(([]:List Y6),([]:List Z1))))))))]) (Q1 p:Int) (true,(false,((1:Int),n))))=_:=h2
    rw[h3,hx]
    rfl
   ·have hlt:Q1 p<p.length:=by omega
    rw[Y3 (J6 (by omega)),gd_t (V6 (by omega) (by omega))]
    have hx:setL p (Q1 p:Int) (zfr n)=setL (ext p) (Q1 p:Int) (zfr n):=by rw[ext,if_neg e]
    have h2:=y87 N p (Q1 p:Int) (nd:=n) n.2.2.1 [] N (setL p (Q1 p:Int) (zfr n)) rfl (by omega) (by simpa using hk) hu (by rw[z0a];omega)
    have h3:z4t N N (Q1 p:Int) (0:Int) n (setL p (Q1 p:Int) (true,(false,((1:Int),n))))=_:=h2
    rw[h3,hx]
    rfl
theorem zh9{p:List Sl}{i:Int}(h0:0<=i)(h:(p.length:Int)<=i):slA p i=D0:=by
 have:p.length<=i.toNat:=by omega
 simp only[slA,rdL,List.getD_eq_getElem?_getD]
 rw[List.getElem?_eq_none this];rfl
theorem y83{p:List Sl}{i:Int}(h0:0<=i):slA (ext p) i=slA p i:=by
 unfold ext
 split
 ·have hl:(p++[D0]).length=p.length+1:=by simp
  by_cases h:i<(p.length:Int)
  ·have h1:i.toNat<p.length:=by omega
   have h2:i.toNat<(p++[D0]).length:=by omega
   rw[zha h2,zha h1,List.getElem_append_left h1]
  ·rw[zh9 (p:=p) h0 (by omega)]
   by_cases e:i=(p.length:Int)
   ·have h2:i.toNat<(p++[D0]).length:=by omega
    have h3:i.toNat=p.length:=by omega
    rw[zha h2]
    simp[h3]
   ·rw[zh9 (p:=p++[D0]) h0 (by omega)]
 ·rfl
theorem y8m(p:List Sl):(Q1 p:Int)<((ext p).length:Int)/\p.length<=(ext p).length/\(ext p).length<=p.length+1:=by
 have hle:=y3p p
 unfold ext
 split<;>simp<;>omega
theorem zuv(p:List Sl):X8 (ext p)=X8 p:=by
 unfold ext
 split
 ·simp only[X8,List.flatMap_append,cm,List.flatMap_nil]
  have:kidsU D0=[]:=rfl
  rw[this];simp
 ·rfl
theorem y5q{p q:List Sl}(hl:p.length=q.length)(h:∀i:Int,0<=i->i<(p.length:Int)->kidsU (slA p i)=kidsU (slA q i)):X8 p=X8 q:=by
 have:p.map kidsU=q.map kidsU:=by
  apply List.ext_getElem (by simpa using hl)
  intro n h1 h2
  simp only[bX]at h1 h2
  have:=h (n:Int) (by omega) (by omega)
  rw[zha (by simpa using h1),zha (by simpa using h2)]at this
  simpa using this
 unfold X8
 rw[eR,eR,this]
theorem ycm:∀(ks:List Int) (q:List Sl),(bump q ks).length=q.length
 | [],_=>rfl
 | k::ks,q=>by
  have:=ycm ks (zhq q k)
  rw[zo0]at this
  exact this
theorem ygc:∀(ks:List Int) (q:List Sl),(∀k∈ks,0<=k/\k<(q.length:Int))->(∀i:Int,0<=i->0<=z42 (slA q i)/\z42 (slA q i)+(ks.length:Int)<1000000000000)->∀i:Int,0<=i->slA (bump q ks) i=K3 (slA q i) (z42 (slA q i)+(ks.count i:Int))
 | [],q,_,_,i,_=>by
  show slA q i=_
  rw[ff]
  have:z42 (slA q i)+((0:Nat):Int)=z42 (slA q i):=by omega
  rw[this];rfl
 | k::ks,q,hk,hr,i,hi=>by
  obtain⟨k0,k1⟩:=hk k (by simp)
  have hrk:=hr k k0
  simp only[af]at hrk
  have hw:aa .i64 (z42 (slA q k)+1)=z42 (slA q k)+1:=w64 (by omega) (by omega)
  have h1:∀j:Int,0<=j->slA (zhq q k) j=if j=k then K3 (slA q k) (z42 (slA q k)+1)else slA q j:=by
   intro j hj
   unfold zhq
   rw[hw]
   by_cases e:j=k
   ·subst e;rw[z69 k0 k1,if_pos rfl]
   ·rw[z0e k0 hj e,if_neg e]
  have hrr:∀j:Int,0<=j->z42 (slA (zhq q k) j)=z42 (slA q j)+(if j=k then 1 else 0):=by
   intro j hj
   rw[h1 j hj]
   by_cases e:j=k
   ·subst e;rw[if_pos rfl,if_pos rfl];rfl
   ·rw[if_neg e,if_neg e];omega
  have ih:=ygc ks (zhq q k) (fun j hj=>by rw[zo0];exact hk j (by simp[hj])) (fun j hj=>by
   have:=hr j hj
   simp only[af]at this
   rw[hrr j hj]
   split<;>omega) i hi
  show slA (bump (zhq q k) ks) i=_
  rw[ih,hrr i hi,h1 i hi,dC]
  by_cases e:i=k
  ·subst e
   rw[if_pos rfl,if_pos rfl]
   simp only[beq_self_eq_true,if_true]
   have:z42 (slA q i)+1+(ks.count i:Int)=z42 (slA q i)+((ks.count i+1:Nat):Int):=by omega
   rw[this];rfl
  ·have e':¬k=i:=fun h=>e h.symm
   rw[if_neg e,if_neg e]
   simp[e']
theorem ygh{p:List Sl}{n:Nd}(hu:n.2.2.1.all (W2 p)=true)(hr:∀i:Int,0<=i->0<=z42 (slA p i)/\z42 (slA p i)+(n.2.2.1.length:Int)<500000000000):
  (addP p n).length=(ext p).length/\∀i:Int,0<=i->slA (addP p n) i=if i=(Q1 p:Int)then zfr n else K3 (slA p i) (z42 (slA p i)+(n.2.2.1.count i:Int)):=by
 have hlen:=y8m p
 have hs:∀i:Int,0<=i->slA (setL (ext p) (Q1 p:Int) (zfr n)) i=if i=(Q1 p:Int)then zfr n else slA p i:=by
  intro i hi
  by_cases e:i=(Q1 p:Int)
  ·subst e;rw[z69 (by omega) hlen.1,if_pos rfl]
  ·rw[z0e (by omega) hi e,if_neg e,y83 hi]
 have hrn:z42 (zfr n)=1:=rfl
 have hl0:=hr 0 (by omega)
 have hb:=ygc n.2.2.1 (setL (ext p) (Q1 p:Int) (zfr n)) (fun k hk=>by
  have:=z6f.1 hu k hk
  have:=z8n this
  have:=y7 (z6f.1 hu k hk)
  rw[z0a];omega) (fun i hi=>by
  rw[hs i hi]
  have:=hr i hi
  split
  ·rw[hrn];omega
  ·omega)
 refine⟨by unfold addP;rw[ycm,z0a],fun i hi=> ?_⟩
 have h:=hb i hi
 unfold addP
 rw[h,hs i hi]
 by_cases e:i=(Q1 p:Int)
 ·rw[if_pos e,if_pos e]
  have hc:n.2.2.1.count i=0:=db.2 fun hm=>by
   have:=z6f.1 hu i hm
   rw[e,zs2]at this;cases this
  rw[hc];rfl
 ·rw[if_neg e,if_neg e]
theorem ynq{p:List Sl}{n:Nd}{R:List Int}(h:Bal p R)(hu:n.2.2.1.all (W2 p)=true)(hb:R.length+(X8 p).length+n.2.2.1.length<1000000000):
  Bal (addP p n) (R++[(Q1 p:Int)])/\(X8 (addP p n)).length=(X8 p).length+n.2.2.1.length:=by
 have hrefs:∀i:Int,0<=i->0<=z42 (slA p i)/\z42 (slA p i)+(n.2.2.1.length:Int)<500000000000:=by
  intro i hi
  by_cases hui:W2 p i=true
  ·rw[h.refs i hui]
   have l1:=bF (a:=i) (l:=R)
   have l2:=bF (a:=i) (l:=X8 p)
   omega
  ·by_cases hi1:i<(p.length:Int)
   ·rw[zda h hi hi1 hui]
    have:z42 D0=0:=rfl
    omega
   ·rw[zh9 hi (by omega)]
    have:z42 D0=0:=rfl
    omega
 obtain⟨hl,hat⟩:=ygh hu hrefs
 have hlen:=y8m p
 have hid:=zs2 p
 have hused:∀i:Int,W2 (addP p n) i=true↔i=(Q1 p:Int)\/W2 p i=true:=by
  intro i
  constructor
  ·intro hi
   obtain⟨h0,h1,h2⟩:=V1.1 hi
   by_cases e:i=(Q1 p:Int)
   ·exact .inl e
   ·rw[hat i h0,if_neg e]at h2
    have h2:(slA p i).1=true:=h2
    refine .inr (V1.2 ⟨h0, ?_,h2⟩)
    by_cases hlt:i<(p.length:Int)
    ·exact hlt
    ·rw[zh9 h0 (by omega)]at h2;cases h2
  ·rintro(rfl | hi)
   ·refine V1.2 ⟨by omega,by rw[hl];exact hlen.1, ?_⟩
    rw[hat _ (by omega),if_pos rfl];rfl
   ·obtain⟨h0,h1,h2⟩:=V1.1 hi
    have e:i≠(Q1 p:Int):=fun e=>by rw[e,hid]at hi;cases hi
    refine V1.2 ⟨h0,by rw[hl];omega, ?_⟩
    rw[hat i h0,if_neg e];exact h2
 have hak:X8 (addP p n)=X8 (setL (ext p) (Q1 p:Int) (zfr n)):=by
  refine y5q (by rw[hl,z0a]) fun i h0 h1=> ?_
  rw[hat i h0]
  by_cases e:i=(Q1 p:Int)
  ·subst e;rw[if_pos rfl,z69 (by omega) hlen.1]
  ·rw[if_neg e,z0e (by omega) h0 e,y83 h0];rfl
 have hkD:kidsU (slA (ext p) (Q1 p:Int))=[]:=by
  rw[y83 (by omega)]
  by_cases hlt:(Q1 p:Int)<(p.length:Int)
  ·rw[zda h (by omega) hlt (by rw[hid];decide)];rfl
  ·rw[zh9 (by omega) (by omega)];rfl
 have hkn:kidsU (zfr n)=n.2.2.1:=rfl
 have hcnt:∀j,(X8 (addP p n)).count j=(X8 p).count j+n.2.2.1.count j:=by
  intro j
  have:=y47 (ext p) (Q1 p:Int) (zfr n) j (by omega) hlen.1
  rw[hkD,hkn,zuv,<-hak]at this
  simpa using this
 have hmem:∀j,j∈X8 (addP p n)->W2 p j=true:=by
  intro j hj
  have h1:=bi.2 hj
  rw[hcnt]at h1
  by_cases hc:0<(X8 p).count j
  ·exact h.kid j (bi.1 hc)
  ·exact z6f.1 hu j (bi.1 (by omega))
 have hc0:R.count (Q1 p:Int)=0/\(X8 (addP p n)).count (Q1 p:Int)=0:=by
  refine⟨db.2 fun hm=> ?_,db.2 fun hm=> ?_⟩
  ·have:=h.mem _ hm;rw[hid]at this;cases this
  ·have:=hmem _ hm;rw[hid]at this;cases this
 have hR:∀i:Int,(R++[(Q1 p:Int)]).count i=R.count i+(if i=(Q1 p:Int)then 1 else 0):=by
  intro i
  rw[cG,dC,ff]
  by_cases e:i=(Q1 p:Int)
  ·subst e;simp
  ·have e':¬(Q1 p:Int)=i:=fun h=>e h.symm
   simp[e,e']
 refine⟨⟨fun s hs he=> ?_,fun s hs=> ?_,fun i hi=> ?_,fun k hk=> ?_,fun k hk=>(hused k).2 (.inr (hmem k hk)),fun i hi=> ?_, ?_⟩, ?_⟩
 ·obtain⟨i,h0,h1,h2⟩:=y5j D0 hs
  have h2:slA (addP p n) i=s:=h2
  rw[hat i h0]at h2
  by_cases e:i=(Q1 p:Int)
  ·rw[if_pos e]at h2;subst h2;cases he
  ·rw[if_neg e]at h2
   subst h2
   have he:(slA p i).1=false:=he
   have hnu:¬W2 p i=true:=fun hh=>by have:=(V1.1 hh).2.2;rw[he]at this;cases this
   have hc:n.2.2.1.count i=0:=db.2 fun hm=>hnu (z6f.1 hu i hm)
   have hz:slA p i=D0:=by
    by_cases hlt:i<(p.length:Int)
    ·exact zda h h0 hlt hnu
    ·exact zh9 h0 (by omega)
   rw[hz,hc];rfl
 ·obtain⟨i,h0,h1,h2⟩:=y5j D0 hs
  have h2:slA (addP p n) i=s:=h2
  rw[hat i h0]at h2
  by_cases e:i=(Q1 p:Int)
  ·rw[if_pos e]at h2;subst h2;rfl
  ·rw[if_neg e]at h2
   subst h2
   show(slA p i).2.1=false
   by_cases hlt:i<(p.length:Int)
   ·exact h.lost _ (z5x h0 hlt)
   ·rw[zh9 h0 (by omega)]
 ·rw[hR,hcnt]
  rcases(hused i).1 hi with rfl | hip
  ·have:=hcnt (Q1 p:Int)
   rw[hat _ (by omega),if_pos rfl,if_pos rfl,hc0.1]
   have:z42 (zfr n)=1:=rfl
   omega
  ·have e:i≠(Q1 p:Int):=fun e=>by rw[e,hid]at hip;cases hip
   rw[hat i (y7 hip),if_neg e,if_neg e]
   have:∀x,z42 (K3 (slA p i) x)=x:=fun _=>rfl
   rw[this,h.refs i hip]
   omega
 ·rcases ak.1 hk with hk | hk
  ·exact(hused k).2 (.inr (h.mem k hk))
  ·exact(hused k).2 (.inl (by simpa using hk))
 ·rw[hR,hcnt]
  rcases(hused i).1 hi with rfl | hip
  ·rw[if_pos rfl];omega
  ·have:=h.pos i hip;omega
 ·obtain⟨r,hr⟩:=h.rank
  obtain⟨B,hB⟩:=y20 p r
  refine⟨fun j=>if j=(Q1 p:Int)then B else r j,fun i hi k hk=> ?_⟩
  have kne:∀k,W2 p k=true->k≠(Q1 p:Int):=fun k hk e=>by rw[e,hid]at hk;cases hk
  rcases(hused i).1 hi with rfl | hip
  ·rw[hat _ (by omega),if_pos rfl]at hk
   have hk:k∈n.2.2.1:=hk
   have hku:=z6f.1 hu k hk
   simp only[if_neg (kne k hku),if_true]
   exact hB k hku
  ·have e:=kne i hip
   rw[hat i (y7 hip),if_neg e]at hk
   have hk:k∈G4 (slA p i):=hk
   have hku:=h.kid k (y2f hip hk)
   simp only[if_neg (kne k hku),if_neg e]
   exact hr i hip k hk
 ·have:=zlw (ext p) (Q1 p:Int) (zfr n) (by omega) hlen.1
  rw[hkD,hkn,zuv,<-hak]at this
  simpa using this
end Ds
namespace Ds
open Go Go.Dv
set_option maxRecDepth 100000
variable [Fuel]
theorem Thr.comp{e h c c':Nat}{l r t:List Sp}(a:Thr e h l r c)(b:Thr (e+c) (h-c) r t c'):Thr e h l t (c+c'):=
 ⟨b.sep,by rw[<-bV];exact b.g,by rw[<-Nat.sub_sub];exact aW b.wt a.wt⟩
theorem yle(m:Mg):mvs m<=1:=by unfold mvs;split<;>omega
theorem yav(buf:List Mg){g:Nat}(hg1:1<=g)(hm:∀m∈buf,GM g m)(hbl:buf.length<100000000):∀(j:Nat) (l:List Sp) (n e h:Nat),j<=buf.length->j<n->g<=e->e+mvN (buf.take j)<40000->mvN (buf.take j)<h->Sep l->(∀s∈l,SpG e s)->
  ∃r,z82 NN n buf l ((j:Int)-1)=some (r,())/\Thr e h l r (mvN (buf.take j))
 | _,_,0,_,_,_,h,_,_,_,_,_=>absurd h (ag _)
 | 0,l,n+1,e,h,_,_,_,_,_,hs,hg=>by
  refine⟨l, ?_,hs,hg,al _⟩
  rw[zes]
  simp only[z24]
  rw[Y3 (by simp)]
 | j+1,l,n+1,e,h,hj,hn,hge,he,hh,hs,hg=>by
  have ht:buf.take (j+1)=buf.take j++[buf[j]]:=by rw[List.take_succ_eq_append_getElem]
  have hmv:mvN (buf.take (j+1))=mvN (buf.take j)+mvs buf[j]:=by rw[ht,z6y];simp[mvN]
  obtain⟨r,r1,r2⟩:=yd4 (e:=e) (h:=h) (by omega) hg1 hge (hm buf[j] (List.getElem_mem _)) hs hg (by omega)
  obtain⟨t,t1,t2⟩:=yav buf hg1 hm hbl j r n (e+mvs buf[j]) (h-mvs buf[j]) (by omega) (by omega) (by omega) (by omega) (by omega) r2.sep r2.g
  refine⟨t, ?_,by rw[hmv,Nat.add_comm];exact r2.comp t2⟩
  rw[zes]
  simp only[z24]
  have e1:((j+1:Nat):Int)-1=(j:Int):=by omega
  have e2:rdL buf (j:Int) U7=buf[j]:=by
   rw[yl8 (x:=buf[j]) (by omega) (by simp[aI (show j<buf.length by omega)])]
  rw[e1,X4 (by simp),gd_t (V6 (by omega) (by omega)),e2,r1]
  simp only[ab]
  rw[w64 (by omega) (by omega)]
  exact t1
theorem yi7{buf:List Mg}{g:Nat}(hg1:1<=g)(hm:∀m∈buf,GM g m)(hbl:buf.length<100000000){e h:Nat}(hge:g<=e)(he:e+mvN buf<40000)(hh:mvN buf<h){s:Sp}(hs:SpG e s):
  ∃r,zii NN s buf=some r/\Sep r/\(∀x∈r,SpG (e+mvN buf) x)/\wt (h-mvN buf) (inS r)<=wt h (hasB s):=by
 obtain⟨r,r1,r2,r3,r4,r5⟩:=zdk NN (l:=[s]) (by have:=W7;simp;omega) (by simp)
 have hr:∀x∈r,SpG e x:=fun x hx=>by
  obtain⟨⟨a,ha,ea⟩,b,hb,eb⟩:=r5 x hx
  have ha:=(aB.1 ha).1
  have hb:=(aB.1 hb).1
  simp at ha hb
  subst ha hb
  exact⟨r4.full x hx,by rw[ea];exact hs.2.1,by rw[eb];exact hs.2.2⟩
 have htk:buf.take buf.length=buf:=List.take_length
 obtain⟨t,t1,t2⟩:=yav buf hg1 hm hbl buf.length r NN e h (al _) (by have:=W7;omega) hge (by rw[htk];exact he) (by rw[htk];exact hh) r4 hr
 rw[htk]at t2
 refine⟨t, ?_,t2.sep,t2.g,aW t2.wt (zjt fun a ha=>by rw[r2]at ha;simpa[inS] using ha)⟩
 simp only[zii,r1,ab]
 rw[w64 (by omega) (by omega),t1]
 rfl
theorem ync(N:Nat)(s:Sp)(k:B):zov N s k=some (hasB s k):=by simp only[zov,hasB];cases lts k s.1<;>cases eqs s.2 []<;>rfl
theorem y5u{t:List Pr}{i:Int}{x:Pr}(hi:inB i t.length=true)(hx:rdL t i X5=x)(out:List Pr):∀(post pre:List Sp) (b:Bool) (n:Nat),post.length<n->(pre++post).length<100000000->
  z6n NN n t (pre++post) i b (pre.length:Int) out=some ((t,(pre++post,((),(i,b || inS post x.1)))),(out,()))
 | _,_,_,0,h,_=>absurd h (ag _)
 | [],pre,b,n+1,_,_=>by
  rw[zct]
  simp only[z0l,ai,aA,decide_false,cond_false]
  simp[inS]
 | s::post,pre,b,n+1,hn,hl=>by
  simp only[af]at hn
  have hb:pre.length<9223372036854775807:=by simp at hl;omega
  have ih:=fun b=>y5u hi hx out post (pre++[s]) b n (by omega) (by simpa using hl)
  rw[zct]
  simp only[z0l,U3,V4,cond_true,U0,hx,ync,ab]
  cases b
  ·rw[cond_false,gd_t rfl,gd_t hi,W8 (q:=s) hb,V9 (pre:=pre) (q:=s) (post:=post),ih]
   simp[inS]
  ·rw[cond_true,W8 (q:=s) hb,V9 (pre:=pre) (q:=s) (post:=post),ih]
   simp
theorem y5t{t:List Pr}{l:List Sp}(ht:t.length<100000000)(hl:l.length<100000000):zbo NN t l=some (t.filter fun p=>inS l p.1):=by
 have h:=y8x (xs:=t) (L:=fun n i s=>z6o NN n t l i s) (fun o x=>bif inS l x.1 then o++[x]else o) (fun s=>((),(s,()))) (fun s post=>s.length+post.length<100000000)
  (fun n s _=>by
   rw[zcu]
   simp only[z0m,aA,decide_false,cond_false])
  (fun n pre x post s hx hi=>by
   simp only[af]at hi
   have hb:pre.length<9223372036854775807:=by rw[hx]at ht;simp at ht;omega
   have h1:=y5u (t:=pre++x::post) (i:=(pre.length:Int)) (x:=x) V4 U0 s l [] false NN (by have:=W7;omega) (by simpa using hl)
   have hz:(([]:List Sp).length:Int)=0:=rfl
   simp only[aj,hz,cD]at h1
   rw[zcu]
   rw[hx]
   simp only[z0m,U3,cond_true,h1,ab,V4,U0]
   rw[W8 (q:=x) hb]
   cases inS l x.1
   ·exact⟨rfl,by simp only[cond_false];omega⟩
   ·rw[cond_true,gd_t rfl,gd_t (Y4 (by simp;omega) (by omega))]
    exact⟨rfl,by simp;omega⟩) (n:=NN) (s:=[]) (by have:=W7;omega) (by simpa using ht)
 simp only[zbo,h,ab,y3y,aj]
mutual
inductive Tr where
 | leaf (ps:List Pr)
 | node (ks:Trs) (piv:List B) (buf:List Mg)
inductive Trs where
 | nil
 | cons (t:Tr) (ts:Trs)
end
def Trs.len:Trs->Nat
 | .nil=>0
 | .cons _ ts=>ts.len+1
mutual
def Tr.mv:Tr->Nat
 | .leaf _=>0
 | .node ks _ buf=>ks.mv+mvN buf
def Trs.mv:Trs->Nat
 | .nil=>0
 | .cons t ts=>t.mv+ts.mv
end
mutual
def Tr.ht:Tr->Nat
 | .leaf _=>0
 | .node ks _ _=>ks.ht+1
def Trs.ht:Trs->Nat
 | .nil=>0
 | .cons t ts=>max t.ht ts.ht
end
mutual
def Unf(p:List Sl):Int->Tr->Prop
 | i, .leaf ps=>W2 p i=true/\(slA p i).2.1=false/\zaf (slA p i)=(ps,([],([],([],[]))))
 | i, .node ks piv buf=>W2 p i=true/\(slA p i).2.1=false/\∃kids sums,zaf (slA p i)=([],(piv,(kids,(sums,buf))))/\sums.length=kids.length/\kids≠[]/\UnfL p kids ks
def UnfL(p:List Sl):List Int->Trs->Prop
 | [], .nil=>True
 | k::kids, .cons t ts=>Unf p k t/\UnfL p kids ts
 | _,_=>False
end
theorem UnfL.len{p:List Sl}:∀{ks:Trs} {kids:List Int},UnfL p kids ks->kids.length=ks.len
 | .nil,[],_=>rfl
 | .nil,_::_,h=>by simp[UnfL]at h
 | .cons _ _,[],h=>by simp[UnfL]at h
 | .cons t ts,k::kids,h=>by
  simp only[UnfL]at h
  simp only[af,Trs.len,UnfL.len h.2]
def LiesIn(s:Sp)(m:Mg):Prop:=∀x∈wr m++rds m,∀k,hasB x k=true->hasB s k=true
mutual
def VT(g:Nat):B->B->Tr->Prop
 | lo,hi, .leaf ps=>Tb g ps/\∀p∈ps,hasB (lo,hi) p.1=true
 | lo,hi, .node ks piv buf=>VTs g lo hi ks piv/\∀m∈buf,GM g m/\LiesIn (lo,hi) m
def VTs(g:Nat):B->B->Trs->List B->Prop
 | lo,hi, .cons t .nil,[]=>VT g lo hi t
 | lo,hi, .cons t (.cons u ts),q::piv=>q∈KU g/\lts lo q=true/\belowB q hi=true/\VT g lo q t/\VTs g q hi (.cons u ts) piv
 | _,_,_,_=>False
end
def z4b(s:Sp)(lo:B):List B->List Sp
 | []=>[G6 s (lo,[])]
 | p::r=>G6 s (lo,p)::z4b s p r
theorem zoz(s:Sp):∀(l:List B) (lo:B),(z4b s lo l).length=l.length+1
 | [],_=>rfl
 | p::r,_=>by simp[z4b,zoz s r p]
theorem y66(s:Sp):∀(post pre:List B) (lo:B) (n:Nat) (out:List Sp),post.length<n->(pre++post).length<100000000->out.length<=pre.length->
  ∃q last,z8a NN n (pre++post) lo (pre.length:Int) s out=some (((),((),last)),(s,(q,())))/\q++[G6 s (last,[])]=out++z4b s lo post/\q.length<=(pre++post).length
 | _,_,_,0,_,h,_,_=>absurd h (ag _)
 | [],pre,lo,n+1,out,_,_,ho=>⟨out,lo,by rw[zez,z2c,ypp];rfl,rfl,by simpa using ho⟩
 | p::post,pre,lo,n+1,out,hn,hb,ho=>by
  have hb':pre.length+(post.length+1)<100000000:=by simpa using hb
  obtain⟨q,last,h1,h2,h3⟩:=y66 s post (pre++[p]) p n (out++[G6 s (lo,p)]) (by simpa using hn) (by rw[<-V9];exact hb) (by simp;omega)
  rw[<-V9]at h1 h3
  refine⟨q,last, ?_,by rw[h2];simp[z4b],h3⟩
  rw[zez,z2c,U3,cond_true,gd_t V4,U0,zkm]
  simp only
  rw[gd_t (Y4 (by omega) (by omega)),gd_t V4,W8 (q:=p) (by omega)]
  exact h1
theorem zxj(s:Sp){l:List B}(h:l.length<100000000):zds NN s l=some (z4b s [] l):=by
 obtain⟨q,last,h1,h2,h3⟩:=y66 s l [] [] NN [] (by have:=W7;omega) (by simpa using h) (al _)
 simp only[aj,ap]at h1 h2 h3
 rw[show((0:Nat):Int)=0 from rfl]at h1
 unfold zds
 rw[h1]
 simp only
 rw[zkm]
 simp only
 rw[gd_t (Y4 (by omega) (by omega))]
 show some (q++[G6 s (last,[])])=_
 rw[h2]
theorem yjw{s:Sp}{g:Nat}{m:Mg}(hm:GM g m)(h:LiesIn s m){t:List Pr}(ht:∀p∈t,hasB s p.1=true):∀p∈app m t,hasB s p.1=true:=by
 have hw:∀x∈wr m,∀k,hasB x k=true->hasB s k=true:=fun x hx=>h x (bm _ hx)
 have mvd_in:∀{e:B×B},e∈ends->preB e.2∈wr m->∀p∈mvd e.1 e.2 t,hasB s p.1=true:=fun {e} he hp p hp'=>by
  unfold mvd at hp'
  obtain⟨x,hx,rfl⟩:=aG.1 hp'
  exact hw _ hp _ (by rw[z5y (U9 he).2];exact zmc _ _)
 have uni_in:∀{a b:List Pr},(∀p∈a,hasB s p.1=true)->(∀p∈b,hasB s p.1=true)->∀p∈uniT a b,hasB s p.1=true:=by
  intro a b ha hb
  unfold uniT
  induction b generalizing a with
  | nil=>exact ha
  | cons q b ih=>
   rw[ba]
   refine ih (fun p hp=> ?_) fun p hp=>hb p (by simp[hp])
   rcases insT_mem hp with rfl | hp
   ·exact hb _ (by simp)
   ·exact ha _ hp
 have fl:∀f:Pr->Bool,∀p∈t.filter f,hasB s p.1=true:=fun f p hp=>ht p (aB.1 hp).1
 cases hm with
 | put k v n hk hv=>
  intro p hp
  rcases insT_mem (p:=(k,v,n)) hp with rfl | hp
  ·exact hw (k,k++[0]) (by simp[wr,eqi]) k (zpw (y3l k))
  ·exact ht p hp
 | del k hk=>exact fl _
 | drop x hx=>exact fl _
 | move e he=>exact fun p hp=>uni_in (fl _) (mvd_in he (by simp[wr,eqi])) p (aB.1 hp).1
 | clone e he=>exact uni_in (fl _) (mvd_in he (by simp[wr,eqi]))
 | stamp x n hx=>
  intro p hp
  obtain⟨y,hy,rfl⟩:=aG.1 (show p∈t.map (stp x n)from hp)
  have:=ht y hy
  unfold stp
  cases hasB x y.1<;>exact this
theorem zxp{s:Sp}{g:Nat}:∀{ms:List Mg} {t:List Pr},(∀m∈ms,GM g m/\LiesIn s m)->(∀p∈t,hasB s p.1=true)->∀p∈apps ms t,hasB s p.1=true
 | [],_,_,ht=>ht
 | m::ms,t,h,ht=>zxp (ms:=ms) (fun x hx=>h x (by simp[hx])) (yjw (h m (by simp)).1 (h m (by simp)).2 ht)
theorem yfr{buf:List Mg}{g:Nat}(hg1:1<=g)(hm:∀m∈buf,GM g m)(hbl:buf.length<100000000){e h:Nat}(hge:g<=e)(he:e+mvN buf<40000)(hh:mvN buf<h)(heh:e+mvN buf<=h-mvN buf)
  (self:List Sl->Int->Sp->List Sp->Option (List Pr×Int)) (p:List Sl) (s0:Sp) {nd:Nd} (hnd:nd.2.2.2.2=buf):∀(post pre out:List Sp) (n:Nat),post.length<n->(pre++post).length<100000000->out.length+wts h post<100000000->(∀s∈post,SpG e s)->
  ∃r,z9w NN self n (pre++post) (pre.length:Int) p s0 nd out=some ((pre++post,((),((),((),())))),(p,(s0,(nd,(out++r,())))))/\(∀x∈r,SpG (e+mvN buf) x)/\wts (h-mvN buf) r<=wts h post
 | _,_,_,0,h,_,_,_=>absurd h (ag _)
 | [],pre,out,n+1,_,_,_,_=>by
  refine⟨[], ?_,(fun x h=>by cases h),by simp[wts]⟩
  rw[zgc]
  simp only[z3d,ai,aA,decide_false,cond_false]
 | s::post,pre,out,n+1,hn,hl,ho,hs=>by
  simp only[af]at hn
  have hb:pre.length<9223372036854775807:=by simp at hl;omega
  have ew:wts h (s::post)=wt h (hasB s)+wts h post:=by simp[wts]
  obtain⟨r,r1,r2,r3,r4⟩:=yi7 hg1 hm hbl hge he hh (hs s (by simp))
  have hsp:=y80 (g:=h-mvN buf) r2
  have hrl:r.length<=wts (h-mvN buf) r:=zvn fun x hx=>⟨(r3 x hx).1,UU.mono heh (r3 x hx).2.1⟩
  obtain⟨t,t1,t2,t3⟩:=yfr hg1 hm hbl hge he hh heh self p s0 hnd post (pre++[s]) (out++r) n (by omega) (by simpa using hl) (by rw[ae];omega) fun x hx=>hs x (by simp[hx])
  refine⟨r++t, ?_,fun x hx=> ?_,by rw[yd0,ew];omega⟩
  ·rw[zgc]
   simp only[z3d,U3,V4,cond_true,U0,hnd,r1,ab]
   rw[gd_t rfl,gd_t (Y4 (by omega) (by omega)),W8 (q:=s) hb,V9 (pre:=pre) (q:=s) (post:=post),t1]
   simp
  ·rcases ak.1 hx with hx | hx
   ·exact r3 x hx
   ·exact t2 x hx
theorem y1r{a b:List Pr}(ha:Srt a)(hb:Srt b)(h:∀x∈a,∀y∈b,lts x.1 y.1=true):Srt (a++b):=bD.2 ⟨ha,hb,h⟩
theorem yeq{p:List Sl}{i:Int}(hu:W2 p i=true)(hl:(slA p i).2.1=false):z9e NN p i=some (zaf (slA p i),0):=by
 obtain⟨h0,h1,_⟩:=V1.1 hu
 unfold z9e
 rw[zar,hu]
 simp only[aR,cond_false]
 have hl':((rdL p i X3).2).1=false:=hl
 rw[gd_t (V6 h0 h1),Y3 hl',gd_t (V6 h0 h1)]
 rfl
def ypy(p:List Sl)(n:Nat)(T:Tr):Prop:=∀(id:Int) (s:Sp) (l:List Sp) (e h g:Nat) (lo hi:B),Unf p id T->VT g lo hi T->1<=g->g<=e->e+T.mv<40000->e+2*T.mv<=h->(∀x∈l,SpG e x)->wts h l<10000000->
  ∃out,g8 NN n p id s l=some (out,0)/\Tb (g+T.mv) out/\∀x∈out,hasB (lo,hi) x.1=true/\inS l x.1=true
mutual
def FitT:Tr->Prop
 | .leaf _=>True
 | .node ks _ buf=>buf.length<100000000/\FitTs ks
def FitTs:Trs->Prop
 | .nil=>True
 | .cons t ts=>FitT t/\FitTs ts
end
def Trs.has(t:Tr):Trs->Prop
 | .nil=>False
 | .cons u us=>t=u\/us.has t
theorem Trs.has_ht{t:Tr}:∀{ks:Trs},ks.has t->t.ht<=ks.ht/\t.mv<=ks.mv/\sizeOf t<sizeOf ks
 | .nil,h=>h.elim
 | .cons u us,h=>by
  rcases h with rfl | h
  ·simp only[Trs.ht,Trs.mv,Trs.cons.sizeOf_spec];omega
  ·have:=Trs.has_ht (ks:=us) h
   simp only[Trs.ht,Trs.mv,Trs.cons.sizeOf_spec];omega
theorem FitTs.has{t:Tr}:∀{ks:Trs},FitTs ks->ks.has t->FitT t
 | .nil,_,h=>h.elim
 | .cons u us,hf,h=>by
  simp only[FitTs]at hf
  rcases h with rfl | h
  ·exact hf.1
  ·exact FitTs.has hf.2 h
theorem VTs.piv{g:Nat}{hi:B}:∀{ks:Trs} {piv:List B} {lo:B},VTs g lo hi ks piv->piv.Pairwise (fun a b=>lts a b=true)/\(∀q∈piv,q∈KU g/\lts lo q=true)/\ks.len=piv.length+1
 | .nil,_,_,h=>by simp[VTs]at h
 | .cons t .nil,[],_,h=>⟨bg.nil,(fun q h=>by cases h),rfl⟩
 | .cons t .nil,_::_,_,h=>by simp[VTs]at h
 | .cons t (.cons u us),[],_,h=>by simp[VTs]at h
 | .cons t (.cons u us),q::piv,lo,h=>by
  simp only[VTs]at h
  obtain⟨i1,i2,i3⟩:=VTs.piv h.2.2.2.2
  refine⟨aJ.2 ⟨fun x hx=>(i2 x hx).2,i1⟩,fun x hx=> ?_, ?_⟩
  ·rcases am.1 hx with rfl | hx
   ·exact⟨h.1,h.2.1⟩
   ·exact⟨(i2 x hx).1,K8 h.2.1 (i2 x hx).2⟩
  ·simp only[Trs.len,af]at i3|-;omega
theorem VTs.plen{g:Nat}{lo hi:B}{ks:Trs}{piv:List B}(h:VTs g lo hi ks piv):piv.length<=20*(g+1):=by
 obtain⟨h1,h2,_⟩:=VTs.piv h
 have:=zf4 (L:=KU g) (h1.imp fun h=>zf9 h) fun q hq=>(h2 q hq).1
 rwa [KU.length]at this
theorem zdj{x q hi:B}(h:lts x q=true)(hb:belowB q hi=true):belowB x hi=true:=by
 simp only[belowB,ay]at hb|-
 exact hb.imp id fun h'=>K8 h h'
theorem y61{p:List Sl}{n:Nat}{l need:List Sp}{e h g G:Nat}(hg1:1<=g)(hge:g<=e)(hG:G<40000){hi:B}{nd:Nd}{sp:List Sp}(hneed:∀x∈need,SpG e x)(hw:wts h need<10000000)(heh:e<=h)(hks:nd.2.2.1.length<10000001)(hsp:sp.length=nd.2.2.1.length):
  ∀(ks:Trs) (post pre:List Int) (piv:List B) (lo:B) (m:Nat) (all:List Pr),nd.2.2.1=pre++post->post.length<m->UnfL p post ks->VTs g lo hi ks piv->e+ks.mv<40000->e+2*ks.mv<=h->g+ks.mv<=G->
   (∀(k:Int) (t:Tr) (s:Sp) (a b:B),ks.has t->Unf p k t->VT g a b t->∃out,g8 NN n p k s need=some (out,0)/\Tb (g+t.mv) out/\∀x∈out,hasB (a,b) x.1=true/\inS need x.1=true)->
   Tb G all->(∀x∈all,lts x.1 lo=true)->
   ∃r,z75 NN (g8 NN n) m l need sp (pre.length:Int) p nd all=some (.inr ((l,((),())),(nd,(all++r,()))))/\Tb G (all++r)/\∀x∈r,hasB (lo,hi) x.1=true
 | _,_,_,_,_,0,_,_,h,_,_,_,_,_,_,_,_=>absurd h (ag _)
 | .nil,post,pre,piv,lo,m+1,all,hk,hm,hu,hv,_,_,_,_,_,_=>by simp[VTs]at hv
 | .cons t ts,[],pre,piv,lo,m+1,all,hk,hm,hu,hv,_,_,_,_,_,_=>by simp[UnfL]at hu
 | .cons t ts,k::post,pre,piv,lo,m+1,all,hk,hm,hu,hv,he,heh2,hgG,ih,hall,hlo=>by
  simp only[af]at hm
  have hlen:nd.2.2.1.length=pre.length+(post.length+1):=by rw[hk];simp
  have hb:pre.length<9223372036854775807:=by omega
  simp only[UnfL]at hu
  simp only[Trs.mv]at he heh2 hgG ih
  have hnl:need.length<10000000:=bJ (zvn fun x hx=>⟨(hneed x hx).1,UU.mono heh (hneed x hx).2.1⟩) hw
  obtain⟨q,hvt,hqhi,hqq⟩:∃q,VT g lo q t/\(∀x,hasB (lo,q) x=true->hasB (lo,hi) x=true)/\∀q' r,piv=q'::r->q=q':=by
   cases ts with
   | nil=>
    cases piv with
    | nil=>simp only[VTs]at hv;exact⟨hi,hv,fun _ h=>h,fun q' r h=>by cases h⟩
    | cons _ _=>simp[VTs]at hv
   | cons u us=>
    cases piv with
    | nil=>simp[VTs]at hv
    | cons q piv=>
     simp only[VTs]at hv
     refine⟨q,hv.2.2.2.1,fun x hx=> ?_,fun q' r h=>by cases h;rfl⟩
     rw[U1]at hx|-
     simp only[belowB,ac,ay]at hx|-
     refine⟨hx.1, ?_⟩
     rcases hx.2 with h' | h'
     ·exact absurd (K5.1 h') (KU.ne hv.1)
     ·have:=zdj h' hv.2.2.1
      simpa[belowB] using this
  have hcut:cut2 sp (pre.length:Int) ((pre++[k]).length:Int)=(sp.drop pre.length).take 1:=by
   simp[cut2]
  have hcl:((sp.drop pre.length).take 1).length<=1:=by simp;omega
  have ht:=zol (l:=need) (m:=(sp.drop pre.length).take 1) (by omega) (by omega)
  have next:∀all',Tb G all'->(∀x∈all',(lts x.1 lo=true\/hasB (lo,q) x.1=true))->∃r,z75 NN (g8 NN n) m l need sp ((pre++[k]).length:Int) p nd all'=some (.inr ((l,((),())),(nd,(all'++r,()))))/\Tb G (all'++r)/\∀x∈r,hasB (lo,hi) x.1=true:=by
   intro all' h1 h2
   cases ts with
   | nil=>
    cases piv with
    | cons _ _=>simp[VTs]at hv
    | nil=>
     have hpost:post=[]:=by
      cases post with
      | nil=>rfl
      | cons a b=>have:=hu.2;simp[UnfL]at this
     subst hpost
     refine⟨[], ?_,by simpa using h1,fun x hx=>by cases hx⟩
     cases m with
     | zero=>simp at hm
     | succ m=>
      rw[zgb]
      simp only[z3c,ai]
      rw[Y3 (by rw[hk];simp)]
   | cons u us=>
    cases piv with
    | nil=>simp[VTs]at hv
    | cons q' piv=>
     simp only[VTs]at hv
     obtain⟨v1,v2,v3,v4,v5⟩:=hv
     have hle:∀x∈all',lts x.1 q'=true:=by
      intro x hx
      have eq:=hqq q' piv rfl
      subst eq
      rcases h2 x hx with h | h
      ·exact K8 h v2
      ·rw[U1]at h
       simp only[belowB,ac,ay]at h
       rcases h.2 with h | h
       ·exact absurd (K5.1 h) (KU.ne v1)
       ·exact h
     obtain⟨r,r1,r2,r3⟩:=y61 hg1 hge hG hneed hw heh hks hsp (.cons u us) post (pre++[k]) piv q' m all' (by rw[hk];simp) (by omega) hu.2 v5 (by omega) (by omega) (by omega)
      (fun k' t' s a b ht=>ih k' t' s a b (.inr ht)) h1 hle
     refine⟨r,r1,r2,fun x hx=> ?_⟩
     have:=r3 x hx
     rw[U1]at this|-
     simp only[ac,aw]at this|-
     exact⟨zva (z09 v2) this.1,this.2⟩
  rw[zgb]
  have hlt:decide ((pre.length:Int)<(nd.2.2.1.length:Int))=true:=by rw[hk];exact U3
  have hin:inB (pre.length:Int) nd.2.2.1.length=true:=by rw[hk];exact V4
  have hrd:rdL nd.2.2.1 (pre.length:Int) (0:Int)=k:=by rw[hk];exact U0
  simp only[z3c,hlt,cond_true,hin,hrd,W8 (q:=k) hb,hcut,ht,ab]
  rw[gd_t (by rw[hsp,hlen];simp;omega)]
  cases touchB need ((sp.drop pre.length).take 1)
  ·rw[X4 (by rfl)]
   exact next all hall fun x hx=> .inl (hlo x hx)
  ·obtain⟨out,o1,o2,o3⟩:=ih k t (rdL sp (pre.length:Int) Y7) lo q (.inl rfl) hu.1 hvt
   have hsa:Tb G (all++out):=⟨y1r hall.srt o2.srt fun x hx y hy=>by
     have h1:=hlo x hx
     have h2:=(o3 y hy).1
     rw[U1]at h2
     simp only[ac,aw]at h2
     exact zkn h1 h2.1,fun x hx=>(ak.1 hx).elim (hall.key x) fun h=>(o2.mono (by omega)).key x h⟩
   have hsl:=hsa.len
   rw[ae]at hsl
   obtain⟨r,r1,r2,r3⟩:=next (all++out) hsa fun x hx=>(ak.1 hx).elim (fun h=> .inl (hlo x h)) fun h=> .inr (o3 x h).1
   refine⟨out++r, ?_,by rw[<-au];exact r2,fun x hx=> ?_⟩
   ·rw[Y3 (by rfl),gd_t rfl,gd_t (by rw[hsp];exact hin),o1]
    simp only[ab]
    rw[Y3 (by rfl),gd_t (Y4 (by omega) (by omega)),r1,au]
   ·rcases ak.1 hx with hx | hx
    ·exact hqhi _ (o3 x hx).1
    ·exact r3 x hx
theorem yfc(p:List Sl):∀(sz:Nat) (T:Tr) (n:Nat),sizeOf T<=sz->T.ht<n->FitT T->ypy p n T
 | _,_,0,_,h,_=>absurd h (ag _)
 | 0,T,_,h,_,_=>by cases T<;>simp at h
 | sz+1, .leaf ps,n+1,_,_,_=>by
  intro id s l e h g lo hi hu hv hg1 hge he heh hl hw
  simp only[Unf]at hu
  simp only[VT]at hv
  obtain⟨u1,u2,u3⟩:=hu
  simp only[Tr.mv,bz,Nat.mul_zero]at he heh|-
  have hpl:=hv.1.len
  have hll:l.length<10000000:=bJ (zvn fun x hx=>⟨(hl x hx).1,UU.mono heh (hl x hx).2.1⟩) hw
  refine⟨ps.filter fun x=>inS l x.1, ?_,hv.1.filter _,fun x hx=> ?_⟩
  ·rw[zcv]
   simp only[z47,yeq u1 u2,u3,ab]
   rw[Y3 (by rfl),X4 (by rfl),y5t (by omega) (by omega)]
   rfl
  ·obtain⟨h1,h2⟩:=aB.1 hx
   exact⟨hv.2 x h1,h2⟩
 | sz+1, .node ks piv buf,n+1,hsz,hn,hf=>by
  intro id s l e h g lo hi hu hv hg1 hge he heh hl hw
  simp only[Unf]at hu
  simp only[VT]at hv
  simp only[FitT]at hf
  simp only[Tr.mv,Tr.ht]at he heh hn|-
  obtain⟨u1,u2,kids,sums,u3,u4,u5,u6⟩:=hu
  have hpl:=VTs.plen hv.1
  obtain⟨_,_,hkl⟩:=VTs.piv hv.1
  have hkl':=u6.len
  have hll:l.length<10000000:=bJ (zvn fun x hx=>⟨(hl x hx).1,UU.mono (by omega) (hl x hx).2.1⟩) hw
  have hG:∀m∈buf,GM g m:=fun m hm=>(hv.2 m hm).1
  obtain⟨need,n1,n2,n3⟩:=yfr hg1 hG hf.1 hge (e:=e) (h:=h) (by omega) (by omega) (by omega) (g8 NN n) p s (nd:=([],(piv,(kids,(sums,buf))))) rfl l [] [] NN (by have:=W7;omega) (by simp;omega) (by simp;omega) hl
  have hz:(([]:List Sp).length:Int)=0:=rfl
  simp only[aj,hz]at n1
  have hkne:eqi (kids.length:Int) 0=false:=J6 (by
   have:kids.length≠0:=fun h=>u5 (bN.1 h)
   omega)
  have hsp:z8i NN ([],(piv,(kids,(sums,buf)))) s=some (z4b s [] piv):=by
   simp only[z8i,hkne,cond_false,zxj s (show piv.length<100000000 by omega)]
  obtain⟨r,r1,r2,r3⟩:=y61 (p:=p) (n:=n) (l:=l) (need:=need) (e:=e+mvN buf) (h:=h-mvN buf) (g:=g) (G:=g+ks.mv) hg1 (by omega) (by omega) (nd:=([],(piv,(kids,(sums,buf))))) (sp:=z4b s [] piv)
   n2 (by omega) (by omega) (by simp only;omega) (by rw[zoz];simp only;omega) ks kids [] piv lo NN [] rfl (by have:=W7;omega) u6 hv.1 (by omega) (by omega) (al _)
   (fun k t s' a b ht hu' hv'=>by
    obtain⟨q1,q2,q3⟩:=Trs.has_ht ht
    simp only[Tr.node.sizeOf_spec]at hsz
    exact yfc p sz t n (by omega) (by omega) (FitTs.has hf.2 ht) k s' need (e+mvN buf) (h-mvN buf) g a b hu' hv' hg1 (by omega) (by omega) (by omega) n2 (by omega))
   ⟨bg.nil,fun x h=>by cases h⟩ (fun x h=>by cases h)
  simp only[aj]at r1 r2
  have hz':(([]:List Int).length:Int)=0:=rfl
  rw[hz']at r1
  have ha:=yfj (ms:=buf) (g:=g+ks.mv) (by have:=hf.1;simp only[Big];omega) (fun m hm=>(hG m hm).mono (by omega)) r2 (by omega)
  have hT:=y8s r2 fun m hm=>(hG m hm).mono (show g<=g+ks.mv by omega)
  have hTl:=hT.len
  have hreg:=zxp (s:=(lo,hi)) hv.2 r3
  refine⟨(apps buf r).filter fun x=>inS l x.1, ?_, ?_,fun x hx=> ?_⟩
  ·rw[zcv]
   simp only[z47,yeq u1 u2,u3,ab,hkne]
   rw[Y3 (by rfl),Y3 (by rfl),n1]
   simp only[ab,hsp,r1,ha]
   rw[y5t (by omega) (by omega)]
   rfl
  ·rw[<-bV];exact hT.filter _
  ·obtain⟨h1,h2⟩:=aB.1 hx
   exact⟨hreg x h1,h2⟩
theorem ynu{p:List Sl}{sh:V7}{id:Int}{T:Tr}{g:Nat}{lo hi:B}(hu:Unf p id T)(hv:VT g lo hi T)(hg1:1<=g)(hg:g+T.mv<30000)(hf:FitT T)(hh:T.ht<NN){s:Sp}(hs:SpG g s):
  ∃out,zlm NN (p,(id,sh)) s=some (out,0)/\Tb (g+T.mv) out/\∀x∈out,hasB (lo,hi) x.1=true/\hasB s x.1=true:=by
 have hw:=ylz (g+2*T.mv) (hasB s)
 obtain⟨out,o1,o2,o3⟩:=yfc p (sizeOf T) T NN (al _) hh hf id ([],[]) [s] g (g+2*T.mv) g lo hi hu hv hg1 (al _) (by omega) (al _) (fun x hx=>by simp at hx;rw[hx];exact hs) (by simp[wts];omega)
 refine⟨out, ?_,o2,fun x hx=>⟨(o3 x hx).1,by have:=(o3 x hx).2;rwa [in1]at this⟩⟩
 have o1':y1z NN p id ([],[]) [s]=some (out,0):=o1
 simp only[zlm,o1',ab]
def wm(G:Nat)(m:Mg):Nat:=bif eqi m.1 3 || eqi m.1 6 then wt G (hasB m.2.2.2.1)else 1
def wb(G:Nat)(l:List Mg):Nat:=(l.map (wm G)).sum
def pts(m:Mg):Nat:=if m.1=1 then 1 else 0
def ptN(l:List Mg):Nat:=(l.map pts).sum
theorem z9d(G:Nat)(a b:List Mg):wb G (a++b)=wb G a+wb G b:=by simp[wb]
theorem zhi(a b:List Mg):ptN (a++b)=ptN a+ptN b:=by simp[ptN]
theorem zpc(G:Nat)(m:Mg)(a:List Mg):wb G (m::a)=wm G m+wb G a:=by simp[wb]
theorem y4e(G:Nat)(m:Mg):wb G [m]=wm G m:=by simp[wb]
theorem y81(G:Nat)(s:Sp):wm G (zc6 s)=wt G (hasB s):=by unfold wm;rw[show eqi (zc6 s).1 3=true from rfl];rfl
theorem y39(G:Nat)(s:Sp)(n:Int):wm G (zkk s n)=wt G (hasB s):=by unfold wm;rw[show eqi (zkk s n).1 6=true from rfl,eg];rfl
theorem yf0(G:Nat){m:Mg}(h3:eqi m.1 3=false)(h6:eqi m.1 6=false):wm G m=1:=by unfold wm;rw[h3,h6];rfl
theorem yem{g G:Nat}(h:g<=G){m:Mg}(hm:GM g m):1<=wm G m:=by
 cases hm with
 | drop s hs=>rw[y81];exact y8w (UU.mono h hs.2.1) (zpw hs.1)
 | stamp s n hs=>rw[y39];exact y8w (UU.mono h hs.2.1) (zpw hs.1)
 | _=>rw[yf0 G rfl rfl];exact al 1
theorem ym0(G:Nat)(m:Mg):wm G m<=5+48*(G+1):=by
 unfold wm
 cases eqi m.1 3 || eqi m.1 6
 ·simp only[cond_false];omega
 ·exact ylz _ _
theorem zbv{g G:Nat}(h:g<=G):∀{l:List Mg},(∀m∈l,GM g m)->l.length<=wb G l
 | [],_=>bn _
 | m::l,hl=>by
  have:=zbv h (l:=l) fun x hx=>hl x (by simp[hx])
  have:=yem h (hl m (by simp))
  rw[zpc,af];omega
def covB(s x:Sp):Bool:=emptyB x || (!(emptyB s)&&((lts s.1 x.1 || eqs s.1 x.1)&& !(lessB s.2 x.2)))
theorem ylo(N:Nat)(s x:Sp):zbt N s x=some (covB s x):=by
 simp only[zbt,z2z,y8g,covB]
 cases emptyB x<;>cases emptyB s<;>cases lts s.1 x.1<;>cases eqs s.1 x.1<;>rfl
theorem yni{s x:Sp}(h:covB s x=true){k:B}(hk:hasB x k=true):hasB s k=true:=by
 simp only[covB,ay,ac,aw]at h
 rcases h with h | ⟨_,h1,h2⟩
 ·rw[zhy h]at hk;cases hk
 ·rw[U1]at hk|-
  simp only[ac,aw]at hk|-
  refine⟨?_,zl2 h2 hk.2⟩
  rcases h1 with h1 | h1
  ·cases e:lts k s.1
   ·rfl
   ·have:=K8 e h1;rw[hk.1]at this;cases this
  ·rw[K5.1 h1];exact hk.1
theorem yfw(s:Sp):∀(post pre:List Sp) (n:Nat),post.length<n->(pre++post).length<100000000->
  za1 NN n (pre.length:Int) s (pre++post)=some (bif post.all (covB s)then .inr ((),())else .inl (false,()))
 | _,_,0,h,_=>absurd h (ag _)
 | [],pre,n+1,_,_=>by
  rw[zgh]
  simp only[z3i,ai,aA,decide_false,cond_false]
  rfl
 | q::post,pre,n+1,hn,hl=>by
  simp only[af]at hn
  have hb:pre.length<9223372036854775807:=by simp at hl;omega
  rw[zgh]
  simp only[z3i,U3,cond_true,U0,ylo,ab]
  rw[gd_t V4]
  cases e:covB s q
  ·simp[e]
  ·rw[aR,cond_false,W8 (q:=q) hb,V9 (pre:=pre) (q:=q) (post:=post),yfw s post (pre++[q]) n (by omega) (by simpa using hl)]
   simp[e]
theorem ynz{g:Nat}(hg:g<1000000){m:Mg}(hm:GM g m)(s:Sp):zlr NN m s=some ((rds m++wr m).all (covB s)):=by
 obtain⟨h1,h2,_⟩:=y1l m
 have h:=yfw s (rds m++wr m) [] NN (by have:=W7;simp;omega) (by simp;omega)
 have hz:(([]:List Sp).length:Int)=0:=rfl
 simp only[aj,hz]at h
 simp only[zlr,zox hm,z6w hg hm,ab,aj]
 rw[gd_t (Y4 (by omega) (by omega)),gd_t (Y4 (by omega) (by omega)),h]
 cases (rds m++wr m).all (covB s)<;>rfl
theorem ynb{s:Sp}{m:Mg}(h:(rds m++wr m).all (covB s)=true):LiesIn s m:=by
 intro x hx k hk
 have:=az.1 h x (by simp only[ak]at hx|-;exact hx.symm)
 exact yni this hk
theorem ybx:∀(j k:B),lts j (k++[0])=(lts j k || eqs j k)
 | [],[]=>rfl
 | [],b::k=>by simp only[aX];rfl
 | a::j,[]=>by
  simp only[aj,zc4,zme,dQ,da]
  have:decide (a<(0:UInt8))=false:=by
   simp only[decide_eq_false_iff_not,UInt8.lt_iff_toNat_lt];simp
  rw[this,zh3 (by simp)];rfl
 | a::j,b::k=>by
  simp only[aX,zc4,ybx j k]
  have e:eqs (a::j) (b::k)=(a==b&&eqs j k):=rfl
  rw[e]
  cases decide (a<b)<;>cases (a==b)<;>cases lts j k<;>cases eqs j k<;>rfl
theorem y8b(k j:B):hasB (k,k++[0]) j=eqs k j:=by
 rw[U1]
 have e:eqs (k++[0]) []=false:=zh3 (by simp)
 have s:eqs k j=eqs j k:=yk7 k j
 simp only[belowB,e,cD,ybx,s]
 cases h:eqs j k
 ·cases lts j k<;>rfl
 ·have:=K5.1 h;subst this
  rw[G7];rfl
structure Rd (g G:Nat) (reg s:Sp) (pre go stay:List Mg):Prop where
 gg:∀m∈go,GM g m/\LiesIn s m/\LiesIn reg m
 ss:∀m∈stay,GM g m/\LiesIn reg m
 mvq:mvN go+mvN stay=mvN pre
 ptq:ptN go+ptN stay=ptN pre
 wgt:wb G go+wb G stay<=wb G pre
theorem Rd.nil(g G:Nat)(reg s:Sp):Rd g G reg s [] [] []:=⟨fun _ h=>(by cases h),fun _ h=>(by cases h),rfl,rfl,al _⟩
theorem Rd.append{g G:Nat}{reg s:Sp}{p a b p' a' b':List Mg}(h:Rd g G reg s p a b)(k:Rd g G reg s p' a' b'):Rd g G reg s (p++p') (a++a') (b++b'):=by
 refine⟨fun m hm=> ?_,fun m hm=> ?_, ?_, ?_, ?_⟩
 ·rcases ak.1 hm with hm | hm
  ·exact h.gg m hm
  ·exact k.gg m hm
 ·rcases ak.1 hm with hm | hm
  ·exact h.ss m hm
  ·exact k.ss m hm
 ·have:=h.mvq;have:=k.mvq;simp only[z6y];omega
 ·have:=h.ptq;have:=k.ptq;simp only[zhi];omega
 ·have:=h.wgt;have:=k.wgt;simp only[z9d];omega
theorem Rd.stays{g G:Nat}{reg s:Sp}{m:Mg}(hm:GM g m)(hr:LiesIn reg m):Rd g G reg s [m] [] [m]:=
 ⟨fun _ h=>(by cases h),fun x h=>(by simp at h;subst h;exact⟨hm,hr⟩),by simp[mvN],by simp[ptN],by simp[wb]⟩
theorem Rd.goes{g G:Nat}{reg s:Sp}{m:Mg}(hm:GM g m)(hr:LiesIn reg m)(hs:LiesIn s m):Rd g G reg s [m] [m] []:=
 ⟨fun x h=>(by simp at h;subst h;exact⟨hm,hs,hr⟩),fun _ h=>(by cases h),by simp[mvN],by simp[ptN],by simp[wb]⟩
def spd(m:Mg)(s:Sp):Mg:=(m.1,(m.2.1,(m.2.2.1,(s,m.2.2.2.2))))
theorem yf9(go:List Mg)(held:List Sp)(m0:Mg):∀(post pre:List Sp) (n:Nat) (stay:List Mg) (m:Mg),spd m=spd m0->post.length<n->(pre++post).length<100000000->stay.length+post.length<200000000->
  z48 NN n (pre.length:Int) go stay held m (pre++post)=some (((),()),(((),((),())),(go,(stay++post.map (spd m0),(held,((),()))))))
 | _,_,0,_,_,_,h,_,_=>absurd h (ag _)
 | [],pre,n+1,stay,m,_,_,_,_=>by
  rw[zd1]
  simp only[z0q,ai,aA,decide_false,cond_false,bK]
 | q::post,pre,n+1,stay,m,hm,hn,hl,hs=>by
  simp only[af]at hn hs
  have hb:pre.length<9223372036854775807:=by simp at hl;omega
  have e:((m.1,(m.2.1,(m.2.2.1,(q,m.2.2.2.2)))):Mg)=spd m0 q:=congrFun hm q
  rw[zd1]
  simp only[z0q,U3,cond_true,U0,e]
  rw[gd_t V4,gd_t (Y4 (by simp only[af,ap];omega) (by omega)),W8 (q:=q) hb,V9 (pre:=pre) (q:=q) (post:=post),yf9 go held m0 post (pre++[q]) n (stay++[spd m0 q]) (spd m0 q) rfl (by omega) (by simpa using hl) (by simp;omega)]
  simp
theorem y5z{x s:Sp}:touchB [x] [s]= !(emptyB (G6 x s)):=by simp[touchB]
theorem ypl{k:B}{s:Sp}(h:emptyB (G6 (k,k++[0]) s)=false):∀j,hasB (k,k++[0]) j=true->hasB s j=true:=by
 intro j hj
 have h1:=zpw h
 rw[zc3,ac,y8b]at h1
 rw[y8b]at hj
 rw[<-K5.1 hj,K5.1 h1.1]
 exact h1.2
theorem Rd.split{g G:Nat}{reg s:Sp}{m:Mg}{x:Sp}(hx:SpG g x)(mk:∀y,SpG g y->GM g (spd m y))(hk:wm G m=wt G (hasB x)/\∀y,wm G (spd m y)=wt G (hasB y))(h0:m.1=3\/m.1=6)
  (hw:∀y z,z∈wr (spd m y)++rds (spd m y)->z=y) (hr:∀k,hasB x k=true->hasB reg k=true) (hs:SpG g s) (he:emptyB (G6 x s)=false) {r:List Sp} (r2:∀k,inS r k=(inS [x] k&& !(inS [s] k))) (r4:Sep r) (r5:∀s∈r,SpG g s):
  Rd g G reg s [m] [spd m (G6 x s)] (r.map (spd m)):=by
 have hmeet:∀k,hasB (G6 x s) k=true->hasB x k=true/\hasB s k=true:=fun k hk=>by rwa [zc3,ac]at hk
 have nomv:∀y,mvs (spd m y)=mvs m:=fun y=>rfl
 have nopt:∀y,pts (spd m y)=pts m:=fun y=>rfl
 have m0:mvs m=0:=by rcases h0 with h | h<;>simp[mvs,h]
 have p0:pts m=0:=by rcases h0 with h | h<;>simp[pts,h]
 have smv:∀l:List Sp,mvN (l.map (spd m))=0:=fun l=>by
  induction l with
  | nil=>rfl
  | cons y l ih=>simp only[mvN,ax,bE]at ih|-;rw[nomv,m0,ih]
 have spt:∀l:List Sp,ptN (l.map (spd m))=0:=fun l=>by
  induction l with
  | nil=>rfl
  | cons y l ih=>simp only[ptN,ax,bE]at ih|-;rw[nopt,p0,ih]
 have swt:∀l:List Sp,wb G (l.map (spd m))=wts G l:=fun l=>by
  induction l with
  | nil=>rfl
  | cons y l ih=>rw[ax,zpc,ih,hk.2];simp[wts]
 refine⟨fun y hy=> ?_,fun y hy=> ?_, ?_, ?_, ?_⟩
 ·simp only[aK]at hy
  subst hy
  refine⟨mk _ (y5k hx hs he),fun z hz k hk=> ?_,fun z hz k hk=> ?_⟩
  ·rw[hw _ z hz]at hk;exact(hmeet k hk).2
  ·rw[hw _ z hz]at hk;exact hr k (hmeet k hk).1
 ·obtain⟨z,hz,rfl⟩:=aG.1 hy
  refine⟨mk z (r5 z hz),fun w hwm k hk=> ?_⟩
  rw[hw _ w hwm]at hk
  have:inS r k=true:=cZ.2 ⟨z,hz,hk⟩
  rw[r2,ac,in1]at this
  exact hr k this.1
 ·rw[smv];simp[mvN,nomv]
 ·rw[spt];simp[ptN,nopt]
 ·rw[swt,y4e,y4e,hk.1,hk.2]
  have h1:=y80 (g:=G) r4
  have h2:wt G (inS r)<=wt G (fun a=>hasB x a&& !(hasB s a)):=zjt fun a ha=>by rw[r2,in1,in1]at ha;exact ha
  have h3:wt G (hasB (G6 x s))<=wt G (fun a=>hasB x a&&hasB s a):=zjt fun a ha=>by rw[zc3]at ha;exact ha
  have:=y38 (g:=G) (hasB x) (hasB s)
  omega
theorem ygs{g G:Nat}(hg1:1<=g)(hg:g<40000){reg s:Sp}(hs:SpG g s){m:Mg}(hm:GM g m)(hr:LiesIn reg m){go stay:List Mg}{held:List Sp}(hl:go.length+stay.length<100000000)(hh:held.length<90000000):
  ∃a b c,z2s NN m s go stay held=some (((),((),())),(go++a,(stay++b,(held++c,()))))/\c.length<=3/\Rd g G reg s [m] a b:=by
 obtain⟨l1,l2,_⟩:=y1l m
 have hN:=W7
 have mover:(eqi m.1 4 || eqi m.1 5)=true->∃a b c,z2s NN m s go stay held=some (((),((),())),(go++a,(stay++b,(held++c,()))))/\c.length<=3/\Rd g G reg s [m] a b:=fun hmm=>by
  have e1:zat NN m=some true:=by
   simp only[zat]
   cases e:eqi m.1 4
   ·rw[e]at hmm;simp only[cD]at hmm;rw[hmm];rfl
   ·rfl
  have ht:=zol (l:=rds m++wr m) (m:=held) (by simp;omega) (by omega)
  simp only[z2s,e1,ab,cond_true,zox hm,z6w (g:=g) (by omega) hm,ynz (g:=g) (by omega) hm,aj,ht]
  rw[gd_t (Y4 (by omega) (by omega)),gd_t (Y4 (by omega) (by omega))]
  have no:∃a b c,(gd (fits (stay.length+1) 112) (gd (fits (held.length+(rds m++wr m).length) 32) (some ((((),((),())),(go,(stay++[m],(held++(rds m++wr m),())))):((Unit×(Unit×Unit))×((List Z1)×((List Z1)×((List Z0)×Unit))))))))=some (((),((),())),(go++a,(stay++b,(held++c,()))))/\c.length<=3/\Rd g G reg s [m] a b:=by
   refine⟨[],[m],rds m++wr m, ?_,by simp;omega,Rd.stays hm hr⟩
   rw[gd_t (Y4 (by omega) (by omega)),gd_t (Y4 (by simp;omega) (by omega)),ai]
  cases e2:(rds m++wr m).all (covB s)
  ·exact no
  ·cases e3:touchB (rds m++wr m) held
   ·refine⟨[m],[],[], ?_,by simp,Rd.goes hm hr (ynb e2)⟩
    simp only[cond_true,aN]
    rw[gd_t (Y4 (by omega) (by omega)),ai,ai]
   ·exact no
 have part:∀p,eqi m.1 4=false->eqi m.1 5=false->zhg NN m s=some p->(p=[]\/∃q x,p=[q]/\K6 NN q=some [x]/\((eqi m.1 3=false/\eqi m.1 6=false/\Rd g G reg s [m] [q] [])\/
   ((eqi m.1 3=true\/eqi m.1 6=true)/\∃r,Q6 NN [m.2.2.2.1] [s]=some r/\r.length<=2/\Rd g G reg s [m] [q] (r.map (spd m)))))->
   ∃a b c,z2s NN m s go stay held=some (((),((),())),(go++a,(stay++b,(held++c,()))))/\c.length<=3/\Rd g G reg s [m] a b:=fun p h4 h5 hp hc=>by
  have e1:zat NN m=some false:=by simp only[zat,h4,h5,cond_false]
  simp only[z2s,e1,ab,cond_false,hp]
  rcases hc with rfl | ⟨q,x,rfl,hq,hc⟩
  ·refine⟨[],[m],[], ?_,by simp,Rd.stays hm hr⟩
   simp only[ap,Int.natCast_zero,K4,cond_true]
   rw[gd_t (Y4 (by omega) (by omega)),ai,ai]
  ·have e0:eqi ((([q]:List Mg).length:Nat):Int) 0=false:=rfl
   have e2:inB 0 ([q]:List Mg).length=true:=rfl
   have e3:rdL ([q]:List Mg) 0 U7=q:=rfl
   have ht:=zol (l:=[x]) (m:=held) (by simp) (by omega)
   simp only[e0,cond_false,e2,e3,hq,ab,ht]
   rw[gd_t rfl]
   cases et:touchB [x] held
   ·simp only[cond_false]
    rw[gd_t rfl,gd_t (Y4 (by simp only[af,ap];omega) (by omega))]
    rcases hc with⟨h3,h6,hR⟩ | ⟨h36,r,r1,r2,hR⟩
    ·refine⟨[q],[],[], ?_,by simp,hR⟩
     simp only[h3,h6,cond_false,ai]
    ·have hz:(([]:List Sp).length:Int)=0:=rfl
     have lp:=yf9 (go++[q]) held m r [] NN stay m rfl (by omega) (by simp;omega) (by omega)
     simp only[aj,hz]at lp
     refine⟨[q],r.map (spd m),[], ?_,by simp,hR⟩
     simp only[r1,ab,lp,ai]
     cases e3:eqi m.1 3
     ·rcases h36 with h | h
      ·rw[h]at e3;cases e3
      ·simp only[h,cond_true,cond_false]
     ·rfl
   ·refine⟨[],[m],[x], ?_,by simp,Rd.stays hm hr⟩
    simp only[cond_true]
    rw[gd_t (Y4 (by omega) (by omega)),gd_t rfl,gd_t (Y4 (by simp only[af,ap];omega) (by omega)),ai]
 have one:∀k,wr m=[(k,k++[0])]->rds m=[]->eqi m.1 3=false->eqi m.1 6=false->eqi m.1 4=false->eqi m.1 5=false->∃a b c,z2s NN m s go stay held=some (((),((),())),(go++a,(stay++b,(held++c,()))))/\c.length<=3/\Rd g G reg s [m] a b:=fun k hw hrd h3 h6 h4 h5=>by
  have ht:=zol (l:=wr m) (m:=[s]) (by omega) (by simp)
  refine part (bif touchB (wr m) [s]then[m]else[]) h4 h5 ?_ ?_
  ·simp only[zhg,z6w (g:=g) (by omega) hm,ab,ht,h3,h6,cond_false]
   cases touchB (wr m) [s]<;>rfl
  ·cases et:touchB (wr m) [s]
   ·exact .inl rfl
   ·refine .inr ⟨m,(k,k++[0]),rfl,by rw[z6w (g:=g) (by omega) hm,hw], .inl ⟨h3,h6,Rd.goes hm hr ?_⟩⟩
    rw[hw,y5z,aw]at et
    intro x hx j hj
    rw[hw,hrd]at hx
    simp only[ai,aK]at hx
    subst hx
    exact ypl et j hj
 have spn:∀x,m.2.2.2.1=x->SpG g x->wr m=[x]->(∀y,SpG g y->GM g (spd m y))->(wm G m=wt G (hasB x)/\∀y,wm G (spd m y)=wt G (hasB y))->(m.1=3\/m.1=6)->(∀y,wr (spd m y)=[y])->(∀y,∀z∈rds (spd m y),z=y)->∃a b c,z2s NN m s go stay held=some (((),((),())),(go++a,(stay++b,(held++c,()))))/\c.length<=3/\Rd g G reg s [m] a b:=fun x hx hG hw mk hk h36 hwy hry=>by
  have h4:eqi m.1 4=false:=by rcases h36 with h | h<;>rw[h]<;>rfl
  have h5:eqi m.1 5=false:=by rcases h36 with h | h<;>rw[h]<;>rfl
  have h36':eqi m.1 3=true\/eqi m.1 6=true:=by rcases h36 with h | h<;>rw[h]<;>simp[eqi]
  have ht:=zol (l:=[x]) (m:=[s]) (by simp) (by simp)
  refine part (bif touchB [x] [s]then[spd m (G6 x s)]else[]) h4 h5 ?_ ?_
  ·simp only[zhg,z6w (g:=g) (by omega) hm,hw,ab,ht,hx,zkm]
   cases et:touchB [x] [s]
   ·rfl
   ·rcases h36' with h | h
    ·rw[h];rfl
    ·cases e3:eqi m.1 3
     ·rw[h];rfl
     ·rfl
  ·cases et:touchB [x] [s]
   ·exact .inl rfl
   ·rw[y5z,aw]at et
    obtain⟨r,r1,r2,r3,r4,r5⟩:=y32 (l:=[x]) (m:=[s]) (E:=UU g) (fun y hy=>by simp at hy;subst hy;exact hs.2) (UU.nil g) (fun y hy _=>by simp at hy;subst hy;exact hG.2) (by simp) (by simp)
    refine .inr ⟨spd m (G6 x s),G6 x s,rfl,by rw[z6w (g:=g) (by omega) (mk _ (y5k hG hs et)),hwy], .inr ⟨h36',r,by rw[hx];exact r1,by simpa using r3, ?_⟩⟩
    refine Rd.split hG mk hk h36 (fun y z hz=> ?_) (fun k hk=>hr x (by rw[hw];simp) k hk) hs et r2 r4 fun y hy=>⟨r4.full y hy,r5 y hy⟩
    rcases ak.1 hz with hz | hz
    ·rw[hwy]at hz;simpa using hz
    ·exact hry y z hz
 cases hm with
 | put k v n hk hv=>exact one k rfl rfl rfl rfl rfl rfl
 | del k hk=>exact one k rfl rfl rfl rfl rfl rfl
 | drop x hx=>exact spn x rfl hx rfl (fun y hy=> .drop y hy) ⟨y81 G x,fun y=>y81 G y⟩ (.inl rfl) (fun _=>rfl) (fun y z hz=>by cases hz)
 | move e he=>exact mover rfl
 | clone e he=>exact mover rfl
 | stamp x n hx=>exact spn x rfl hx rfl (fun y hy=> .stamp y n hy) ⟨y39 G x n,fun y=>y39 G y n⟩ (.inr rfl) (fun _=>rfl) (fun y z hz=>aK.1 hz)
theorem yb9{g G:Nat}(hg1:1<=g)(hgG:g<=G)(hg:g<40000){reg s:Sp}(hs:SpG g s):∀(post pre go stay:List Mg) (held:List Sp) (n:Nat),post.length<n->(pre++post).length<20000000->(∀m∈post,GM g m/\LiesIn reg m)->held.length<=3*pre.length->
  go.length+stay.length+wb G post<100000000->
  ∃a b c,z81 NN n (pre++post) (pre.length:Int) go stay held s=some (((),()),((),(((),((),())),(go++a,(stay++b,(c,()))))))/\Rd g G reg s post a b
 | _,_,_,_,_,0,h,_,_,_,_=>absurd h (ag _)
 | [],pre,go,stay,held,n+1,_,_,_,_,_=>by
  refine⟨[],[],held, ?_,Rd.nil _ _ _ _⟩
  rw[zer]
  simp only[z21,ai,aA,decide_false,cond_false]
 | m::post,pre,go,stay,held,n+1,hn,hl,hm,hh,hw=>by
  simp only[af]at hn
  have hb:pre.length<9223372036854775807:=by simp at hl;omega
  have hpl:pre.length<20000000:=by simp at hl;omega
  obtain⟨m1,m2⟩:=hm m (by simp)
  have hp:=yem hgG m1
  rw[zpc]at hw
  obtain⟨a,b,c,h1,h2,h3⟩:=ygs (G:=G) hg1 hg hs m1 m2 (go:=go) (stay:=stay) (held:=held) (by omega) (by omega)
  have la:=zbv hgG fun x hx=>(h3.gg x hx).1
  have lb:=zbv hgG fun x hx=>(h3.ss x hx).1
  have hwt:=h3.wgt
  rw[y4e]at hwt
  obtain⟨a',b',c',k1,k2⟩:=yb9 hg1 hgG hg hs post (pre++[m]) (go++a) (stay++b) (held++c) n (by omega) (by simpa using hl) (fun x hx=>hm x (by simp[hx])) (by simp;omega) (by simp only[ae];omega)
  refine⟨a++a',b++b',c', ?_,h3.append k2⟩
  rw[zer]
  simp only[z21,U3,cond_true,U0,h1,ab]
  rw[gd_t V4,W8 (q:=m) hb,V9 (pre:=pre) (q:=m) (post:=post),k1]
  simp
theorem ycx{g G:Nat}(hg1:1<=g)(hgG:g<=G)(hg:g<40000){reg s:Sp}(hs:SpG g s){buf:List Mg}{piv:List B}{i:Int}(hp:piv.length<100000000)(hi:inB i (piv.length+1)=true)(hsi:rdL (z4b ([],[]) [] piv) i Y7=s)
  (hm:∀m∈buf,GM g m/\LiesIn reg m) (hw:wb G buf<20000000):∃go stay x,z63 NN buf piv i=some (go,(stay,x))/\Rd g G reg s buf go stay:=by
 have hl:=zbv hgG fun m h=>(hm m h).1
 obtain⟨a,b,c,h1,h2⟩:=yb9 hg1 hgG hg hs buf [] [] [] [] NN (by have:=W7;omega) (by simp;omega) hm (bn _) (by simp;omega)
 have hz:(([]:List Mg).length:Int)=0:=rfl
 simp only[aj,hz]at h1
 refine⟨a,b,c, ?_,h2⟩
 simp only[z63,znu,zxj ([],[]) hp,ab,hsi,h1,zoz,hi]
 rfl
def y93(m:Mg)(p:Pr):Mg:=y94 (m.2.2.2.2.2.1++p.1.drop m.2.2.2.2.1.length) p.2.1 p.2.2
theorem yby(m:Mg)(hto:m.2.2.2.2.2.1.length<1000000):∀(post pre:List Pr) (n:Nat) (out:List Mg),post.length<n->(pre++post).length<100000000->out.length+post.length<200000000->(∀p∈post,p.1.length<1000000/\m.2.2.2.2.1.length<=p.1.length)->
  za0 NN n (pre++post) (pre.length:Int) m out=some (((),()),(m,(out++post.map (y93 m),())))
 | _,_,0,_,h,_,_,_=>absurd h (ag _)
 | [],pre,n+1,out,_,_,_,_=>by
  rw[zgg]
  simp only[z3h,ai,aA,decide_false,cond_false,bK]
 | p::post,pre,n+1,out,hn,hl,ho,hp=>by
  simp only[af]at hn ho
  have hb:pre.length<9223372036854775807:=by simp at hl;omega
  obtain⟨p1,p2⟩:=hp p (by simp)
  rw[zgg]
  simp only[z3h,U3,cond_true,U0]
  rw[gd_t V4,gd_t (by simp;omega),zok,gd_p (by simp only[maxS,aY];omega),gd_t (Y4 (by simp only[af,ap];omega) (by omega)),W8 (q:=p) hb,V9 (pre:=pre) (q:=p) (post:=post),yby m hto post (pre++[p]) n _ (by omega) (by simpa using hl) (by simp;omega) fun x hx=>hp x (by simp[hx])]
  simp[y93]
def zb1(m:Mg)(src:List Pr):List Mg:=zc6 (preB m.2.2.2.2.2.1)::(src.map (y93 m)++bif eqi m.1 4 then[zc6 (preB m.2.2.2.2.1)]else[])
theorem yks{m:Mg}{e:B×B}(he:e∈ends)(h1:m.2.2.2.2.1=e.1)(h2:m.2.2.2.2.2.1=e.2)(hk:eqi m.1 4=true\/eqi m.1 5=true){src:List Pr}(hl:src.length<90000000)(hs:∀p∈src,p.1.length<1000000/\e.1.length<=p.1.length):
  zlq NN m src=some (zb1 m src):=by
 obtain⟨p1,p2⟩:=U9 he
 have l2:=(z9b p2).2
 have em:z62 NN m=some true:=by
  simp only[z62]
  cases e4:eqi m.1 4
  ·rcases hk with h | h
   ·rw[h]at e4;cases e4
   ·rw[h];rfl
  ·rfl
 have h:=yby m (by rw[h2];omega) src [] NN [zc6 (preB m.2.2.2.2.2.1)] (by have:=W7;omega) (by simp;omega) (by simp;omega) (fun p hp=>by rw[h1];exact hs p hp)
 have hz:(([]:List Pr).length:Int)=0:=rfl
 simp only[aj,hz]at h
 simp only[zlq,em,ab,aR,cond_false,h2,z5f p2]
 rw[h2]at h
 rw[h]
 simp only[ab,zb1,h2,h1]
 cases e4:eqi m.1 4
 ·simp
 ·simp only[cond_true,z5f p1,ab]
  rw[gd_t (Y4 (by simp;omega) (by omega))]
  simp
theorem yj9{α:Type}(f:α->Nat)(l:List α)(h:∀x∈l,f x=0):(l.map f).sum=0:=by
 induction l with
 | nil=>rfl
 | cons x l ih=>rw[ax,bE,h x (by simp),ih fun y hy=>h y (by simp[hy])]
theorem yms{α:Type}(f:α->Nat)(l:List α)(h:∀x∈l,f x=1):(l.map f).sum=l.length:=by
 induction l with
 | nil=>rfl
 | cons x l ih=>rw[ax,bE,h x (by simp),ih fun y hy=>h y (by simp[hy])];simp;omega
theorem ydc{g G c:Nat}(hg1:1<=g){m:Mg}{e:B×B}(he:e∈ends)(hm:(m.1=4\/m.1=5)/\m.2.2.2.2.1=e.1/\m.2.2.2.2.2.1=e.2){reg:Sp}(hr:LiesIn reg m){src:List Pr}(hs:Tb c src)(hp:∀p∈src,e.1.isPrefixOf p.1=true)(hc:g<=c+1):
  (∀x∈zb1 m src,GM (c+1) x/\LiesIn reg x)/\mvN (zb1 m src)=0/\wb G (zb1 m src)<=20*(c+1)+2*(5+48*(G+1)):=by
 obtain⟨h0,h1,h2⟩:=hm
 obtain⟨p1,p2⟩:=U9 he
 have hw2:preB e.2∈wr m:=by
  unfold wr
  rcases h0 with h | h<;>rw[h,h1,h2]<;>simp[eqi]
 have hw1:m.1=4->preB e.1∈wr m:=fun h=>by
  unfold wr
  rw[h,h1,h2];simp[eqi]
 have l2:∀k,hasB (preB e.2) k=true->hasB reg k=true:=hr _ (bm _ hw2)
 have ld:∀q:B,(∀k,hasB (preB q) k=true->hasB reg k=true)->LiesIn reg (zc6 (preB q)):=fun q h x hx k hk=>by
  have:x=preB q:=by simpa[wr,rds,eqi] using hx
  rw[this]at hk;exact h k hk
 refine⟨fun x hx=> ?_, ?_, ?_⟩
 ·unfold zb1 at hx
  rw[h1,h2]at hx
  rcases am.1 hx with rfl | hx
  ·exact⟨.drop _ ((SpG.pre p2).mono (by omega)),ld _ l2⟩
  rcases ak.1 hx with hx | hx
  ·obtain⟨p,hp',rfl⟩:=aG.1 hx
   have hk:=hs.key p hp'
   refine⟨?_,fun y hy k hk'=> ?_⟩
   ·unfold y93
    rw[h1,h2]
    exact .put _ _ _ (KU.move p1 p2 hk.1 (hp p hp')) hk.2
   ·have:y=(e.2++p.1.drop e.1.length,e.2++p.1.drop e.1.length++[0]):=by
     simp only[y93,h1,h2]at hy
     simpa[wr,rds,eqi] using hy
    rw[this,y8b]at hk'
    rw[<-K5.1 hk']
    exact l2 _ (by rw[z5y p2];exact zmc _ _)
  ·cases e4:eqi m.1 4
   ·rw[e4]at hx;cases hx
   ·rw[e4]at hx
    simp only[cond_true,aK]at hx
    subst hx
    exact⟨.drop _ ((SpG.pre p1).mono (by omega)),ld _ (hr _ (bm _ (hw1 (zx4.1 e4))))⟩
 ·unfold zb1 mvN
  refine yj9 mvs _ fun x hx=> ?_
  rcases am.1 hx with rfl | hx
  ·rfl
  rcases ak.1 hx with hx | hx
  ·obtain⟨p,hp',rfl⟩:=aG.1 hx;rfl
  ·cases e4:eqi m.1 4
   ·rw[e4]at hx;cases hx
   ·rw[e4]at hx
    simp only[cond_true,aK]at hx
    subst hx;rfl
 ·unfold zb1
  rw[zpc,z9d]
  have a1:wb G (src.map (y93 m))=src.length:=by
   unfold wb
   rw[List.map_map,yms]
   intro x _
   exact yf0 G rfl rfl
  have a2:wb G (bif eqi m.1 4 then[zc6 (preB m.2.2.2.2.1)]else[])<=5+48*(G+1):=by
   cases eqi m.1 4
   ·exact bn _
   ·simp only[cond_true,y4e];exact ym0 _ _
  have a3:=ym0 G (zc6 (preB m.2.2.2.2.2.1))
  have:=hs.len
  omega
theorem y5y{p:List Sl}{root:Int}{sh:V7}{nd:Nd}{m0:Mg}{rest:List Mg}(hbuf:nd.2.2.2.2=m0::rest){s:Sp}(hpre:U2 NN m0.2.2.2.2.1=some s){g G:Nat}(hs:SpG g s)(hg1:1<=g)(hG:G<30000){hi:B}:
  ∀(ks:Trs) (post pre:List Int) (piv:List B) (lo:B) (m:Nat) (all:List Pr),nd.2.2.1=pre++post->nd.2.2.1.length<10000001->post.length<m->UnfL p post ks->VTs g lo hi ks piv->g+ks.mv<=G->FitTs ks->ks.ht<NN->Tb G all->(∀x∈all,lts x.1 lo=true/\hasB s x.1=true)->
   ∃r,z1c NN m (pre.length:Int) (p,(root,sh)) nd all=some (.inr (((),((),())),(nd,((),(all++r,())))))/\Tb G (all++r)/\∀x∈r,hasB (lo,hi) x.1=true/\hasB s x.1=true
 | _,_,_,_,_,0,_,_,_,h,_,_,_,_,_,_,_=>absurd h (ag _)
 | .nil,post,pre,piv,lo,m+1,all,hk,hkl,hm,hu,hv,_,_,_,_,_=>by simp[VTs]at hv
 | .cons t ts,[],pre,piv,lo,m+1,all,hk,hkl,hm,hu,hv,_,_,_,_,_=>by simp[UnfL]at hu
 | .cons t ts,k::post,pre,piv,lo,m+1,all,hk,hkl,hm,hu,hv,hgG,hfit,hht,hall,hlo=>by
  simp only[af]at hm
  have hlen:nd.2.2.1.length=pre.length+(post.length+1):=by rw[hk];simp
  have hb:pre.length<9223372036854775807:=by omega
  simp only[UnfL]at hu
  simp only[Trs.mv]at hgG
  simp only[FitTs]at hfit
  simp only[Trs.ht]at hht
  obtain⟨q,hvt,hqhi,hqq⟩:∃q,VT g lo q t/\(∀x,hasB (lo,q) x=true->hasB (lo,hi) x=true)/\∀q' r,piv=q'::r->q=q':=by
   cases ts with
   | nil=>
    cases piv with
    | nil=>simp only[VTs]at hv;exact⟨hi,hv,fun _ h=>h,fun q' r h=>by cases h⟩
    | cons _ _=>simp[VTs]at hv
   | cons u us=>
    cases piv with
    | nil=>simp[VTs]at hv
    | cons q piv=>
     simp only[VTs]at hv
     refine⟨q,hv.2.2.2.1,fun x hx=> ?_,fun q' r h=>by cases h;rfl⟩
     rw[U1]at hx|-
     simp only[belowB,ac,ay]at hx|-
     refine⟨hx.1, ?_⟩
     rcases hx.2 with h' | h'
     ·exact absurd (K5.1 h') (KU.ne hv.1)
     ·have:=zdj h' hv.2.2.1
      simpa[belowB] using this
  have next:∀all',Tb G all'->(∀x∈all',(lts x.1 lo=true\/hasB (lo,q) x.1=true)/\hasB s x.1=true)->∃r,z1c NN m ((pre++[k]).length:Int) (p,(root,sh)) nd all'=some (.inr (((),((),())),(nd,((),(all'++r,())))))/\Tb G (all'++r)/\∀x∈r,hasB (lo,hi) x.1=true/\hasB s x.1=true:=by
   intro all' h1 h2
   cases ts with
   | nil=>
    cases piv with
    | cons _ _=>simp[VTs]at hv
    | nil=>
     have hpost:post=[]:=by
      cases post with
      | nil=>rfl
      | cons a b=>have:=hu.2;simp[UnfL]at this
     subst hpost
     refine⟨[], ?_,by simpa using h1,fun x hx=>by cases hx⟩
     cases m with
     | zero=>simp at hm
     | succ m=>
      rw[zcp]
      simp only[z0j,ai]
      rw[Y3 (by rw[hk];simp)]
   | cons u us=>
    cases piv with
    | nil=>simp[VTs]at hv
    | cons q' piv=>
     simp only[VTs]at hv
     obtain⟨v1,v2,v3,v4,v5⟩:=hv
     have hle:∀x∈all',lts x.1 q'=true/\hasB s x.1=true:=by
      intro x hx
      have eq:=hqq q' piv rfl
      subst eq
      refine⟨?_,(h2 x hx).2⟩
      rcases(h2 x hx).1 with h | h
      ·exact K8 h v2
      ·rw[U1]at h
       simp only[belowB,ac,ay]at h
       rcases h.2 with h | h
       ·exact absurd (K5.1 h) (KU.ne v1)
       ·exact h
     obtain⟨r,r1,r2,r3⟩:=y5y hbuf hpre hs hg1 hG (.cons u us) post (pre++[k]) piv q' m all' (by rw[hk];simp) hkl (by omega) hu.2 v5 (by omega) hfit.2 (by omega) h1 hle
     refine⟨r,r1,r2,fun x hx=> ?_⟩
     have:=r3 x hx
     refine⟨?_,this.2⟩
     have:=this.1
     rw[U1]at this|-
     simp only[ac,aw]at this|-
     exact⟨zva (z09 v2) this.1,this.2⟩
  rw[zcp]
  have hlt:decide ((pre.length:Int)<(nd.2.2.1.length:Int))=true:=by rw[hk];exact U3
  have hin:inB (pre.length:Int) nd.2.2.1.length=true:=by rw[hk];exact V4
  have hrd:rdL nd.2.2.1 (pre.length:Int) (0:Int)=k:=by rw[hk];exact U0
  have hb0:inB (0:Int) nd.2.2.2.2.length=true:=by rw[hbuf];exact V6 (by omega) (by simp)
  have hr0:rdL nd.2.2.2.2 (0:Int) U7=m0:=by rw[hbuf];rfl
  obtain⟨out,o1,o2,o3⟩:=ynu (sh:=sh) hu.1 hvt hg1 (by omega) hfit.1 (by omega) hs
  simp only[z0j,hlt,cond_true,hin,hrd,hr0,W8 (q:=k) hb,hpre,o1,ab]
  have hsa:Tb G (all++out):=⟨y1r hall.srt o2.srt fun x hx y hy=>by
    have h1:=(hlo x hx).1
    have h2:=(o3 y hy).1
    rw[U1]at h2
    simp only[ac,aw]at h2
    exact zkn h1 h2.1,fun x hx=>(ak.1 hx).elim (hall.key x) fun h=>(o2.mono (by omega)).key x h⟩
  have hsl:=hsa.len
  rw[ae]at hsl
  obtain⟨r,r1,r2,r3⟩:=next (all++out) hsa fun x hx=>(ak.1 hx).elim (fun h=>⟨.inl (hlo x h).1,(hlo x h).2⟩) fun h=>⟨.inr (o3 x h).1,(o3 x h).2⟩
  refine⟨out++r, ?_,by rw[<-au];exact r2,fun x hx=> ?_⟩
  ·rw[gd_t rfl,gd_t hb0,Y3 (by rfl),gd_t (Y4 (by omega) (by omega)),r1,au]
  ·rcases ak.1 hx with hx | hx
   ·exact⟨hqhi _ (o3 x hx).1,(o3 x hx).2⟩
   ·exact r3 x hx
theorem ygq{p:List Sl}{root:Int}{sh:V7}{piv:List B}{kids:List Int}{sums:List Y6}{m0:Mg}{rest:List Mg}{ks:Trs}{g Γ:Nat}{lo hi:B}(hg1:1<=g)(hG:g+ks.mv+1<30000)
  (hu:UnfL p kids ks) (hv:VTs g lo hi ks piv) (hf:FitTs ks) (hh:ks.ht<NN) (hm:∀m∈m0::rest,GM g m/\LiesIn (lo,hi) m) (hl:rest.length<90000000):
  ∃nd e,z6b NN (p,(root,sh)) (([]:List Pr),(piv,(kids,(sums,m0::rest))))=some (nd,e)/\(e≠0\/(e=0/\∃new,nd=([],(piv,(kids,(sums,new++rest))))/\(∀m∈new,GM (g+ks.mv+1) m/\LiesIn (lo,hi) m)/\mvN new=0/\mvs m0=1/\
   wb Γ new<=20*(g+ks.mv+1)+2*(5+48*(Γ+1)))):=by
 have hpl:=VTs.plen hv
 obtain⟨_,_,hkl⟩:=VTs.piv hv
 have hkl':=hu.len
 have go:∀s,U2 NN m0.2.2.2.2.1=some s->SpG g s->∃src,z1c NN NN (0:Int) (p,(root,sh)) (([]:List Pr),(piv,(kids,(sums,m0::rest)))) []=some (.inr (((),((),())),((([]:List Pr),(piv,(kids,(sums,m0::rest)))),((),(src,())))))/\Tb (g+ks.mv) src/\∀x∈src,hasB s x.1=true:=fun s h1 h2=>by
  obtain⟨r,r1,r2,r3⟩:=y5y (p:=p) (root:=root) (sh:=sh) (nd:=([],(piv,(kids,(sums,m0::rest))))) (m0:=m0) (rest:=rest) rfl h1 (G:=g+ks.mv) h2 hg1 (by omega) ks kids [] piv lo NN [] rfl (by simp only;omega) (by have:=W7;omega) hu hv (al _) hf hh ⟨bg.nil,fun x h=>by cases h⟩ fun x h=>by cases h
  have hz:(([]:List Int).length:Int)=0:=rfl
  simp only[aj,hz]at r1 r2
  exact⟨r,r1,r2,fun x hx=>(r3 x hx).2⟩
 obtain⟨hm0,hr0⟩:=hm m0 (by simp)
 have nomove:mvs m0=0->m0.2.2.2.2.1=[]->eqi m0.1 4=false->eqi m0.1 5=false->∃nd e,z6b NN (p,(root,sh)) (([]:List Pr),(piv,(kids,(sums,m0::rest))))=some (nd,e)/\(e≠0\/(e=0/\∃new,nd=([],(piv,(kids,(sums,new++rest))))/\(∀m∈new,GM (g+ks.mv+1) m/\LiesIn (lo,hi) m)/\mvN new=0/\mvs m0=1/\
   wb Γ new<=20*(g+ks.mv+1)+2*(5+48*(Γ+1)))):=fun h0 hfr h4 h5=>by
  have hp0:U2 NN ([]:B)=some ([],[]):=by
   obtain⟨k,hk⟩:∃k,NN=k+1:=⟨NN-1,by have:=W7;omega⟩
   have h0:J9 NN NN ([]:B) (([]:B).length:Int)=some (([],((),0)),((),())):=by
    rw[show J9 NN NN=J9 NN (k+1)from congrArg _ hk,zd6]
    rfl
   simp only[U2,h0]
   rfl
  obtain⟨src,s1,_⟩:=go ([],[]) (by rw[hfr];exact hp0) ⟨rfl,UU.nil g,UU.nil g⟩
  refine⟨_,_,by
   simp only[z6b,s1,ab,zlp]
   rw[Y3 (by simp[eqi];omega),gd_t (by simp[inB])]
   have e0:rdL (m0::rest) (0:Int) U7=m0:=rfl
   simp only[e0,z62,h4,h5,cond_false,ab,aN,cond_true]
   rfl, .inl (by decide)⟩
 have mover:∀e,e∈ends->mvs m0=1->(m0.1=4\/m0.1=5)->m0.2.2.2.2.1=e.1->m0.2.2.2.2.2.1=e.2->∃nd e,z6b NN (p,(root,sh)) (([]:List Pr),(piv,(kids,(sums,m0::rest))))=some (nd,e)/\(e≠0\/(e=0/\∃new,nd=([],(piv,(kids,(sums,new++rest))))/\(∀m∈new,GM (g+ks.mv+1) m/\LiesIn (lo,hi) m)/\mvN new=0/\mvs m0=1/\
   wb Γ new<=20*(g+ks.mv+1)+2*(5+48*(Γ+1)))):=fun e he hmv h45 e1 e2=>by
  obtain⟨p1,p2⟩:=U9 he
  have hk:eqi m0.1 4=true\/eqi m0.1 5=true:=by rcases h45 with h | h<;>rw[h]<;>simp[eqi]
  obtain⟨src,s1,s2,s3⟩:=go (preB e.1) (by rw[e1];exact z5f p1) ((SpG.pre p1).mono hg1)
  have hpre:∀x∈src,e.1.isPrefixOf x.1=true:=fun x hx=>by rw[<-z5y p1];exact s3 x hx
  have hsl:=s2.len
  obtain⟨k1,k2,k3⟩:=ydc (G:=Γ) (reg:=(lo,hi)) hg1 he ⟨h45,e1,e2⟩ hr0 s2 hpre (by omega)
  have h9:=yks (m:=m0) he e1 e2 hk (src:=src) (by omega) fun x hx=>⟨by have:=UU.len (UU.of (s2.key x hx).1);omega,(aO.1 (hpre x hx)).length_le⟩
  have em:z62 NN m0=some true:=by
   simp only[z62]
   cases e4:eqi m0.1 4
   ·rcases hk with h | h
    ·rw[h]at e4;cases e4
    ·rw[h];rfl
   ·rfl
  have hset:(zb1 m0 src).length<=src.length+2:=by unfold zb1;cases eqi m0.1 4<;>simp
  refine⟨([],(piv,(kids,(sums,zb1 m0 src++rest)))),0, ?_, .inr ⟨rfl,zb1 m0 src,rfl,k1,k2,hmv,k3⟩⟩
  simp only[z6b,s1,ab,zlp]
  have e0:rdL (m0::rest) (0:Int) U7=m0:=rfl
  rw[Y3 (by simp[eqi];omega),gd_t (by simp[inB])]
  simp only[e0,em,ab,aR,cond_false,h9]
  rw[gd_t (by simp[inB]),gd_t (by simp;omega),yk8,gd_t (Y4 (by omega) (by omega))]
  rfl
 cases hm0 with
 | put k v n hk hv=>exact nomove rfl rfl rfl rfl
 | del k hk=>exact nomove rfl rfl rfl rfl
 | drop x hx=>exact nomove rfl rfl rfl rfl
 | move e he=>exact mover e he rfl (.inl rfl) rfl rfl
 | clone e he=>exact mover e he rfl (.inr rfl) rfl rfl
 | stamp x n hx=>exact nomove rfl rfl rfl rfl
end Ds
