/- How many rounds loops may take: any number from some bound on. -/
import Derived.Test.YtljffhpbdmkplaaGreatDvF
import Derived.KernelRfl
import Derived.Test.YtljffhpbdmkplaaGreatDsPure
import Derived.Test.YtljffhpbdmkplaaGreatDvE
import Derived.Laws.BitsLemmas
set_option linter.all false
open Bool renaming and_assoc->dV,and_eq_false_iff->de,and_eq_true->ab,and_true->bv,eq_iff_iff->cf,false_and->eG,false_or->dF,not_eq_false'->dn,not_eq_true'->au,not_false->aN,not_true->aG,or_eq_false_iff->cL,or_eq_true->aA,or_self->eg,true_and->aR,true_or->d9
open Int renaming fdiv->cT,lt_irrefl->bj,tmod->aB,toNat_natCast->cG
open Go.IntKind renaming bits->aM,wrap->aa
open List renaming Nodup->eJ,Pairwise->aX,all_cons->bc,all_eq_true->aE,any_eq_true->cO,append_assoc->aU,append_eq_nil_iff->da,append_nil->aj,cons_append->ba,count_append->d7,count_eq_zero->cU,count_le_length->bA,count_pos_iff->bp,drop_left->dt,filter_congr->dD,filter_cons_of_neg->bK,filter_cons_of_pos->bQ,filter_eq_self->cw,flatMap_cons->cH,foldl_cons->bh,getElem_cons_succ->dK,getLast?_eq_some_iff->cM,isPrefixOf_cons₂->dO,isPrefixOf_iff_prefix->be,length->ak,length_append->aq,length_cons->ag,length_filter_le->bP,length_map->ci,length_nil->aJ,length_reverse->cx,map_cons->aC,map_map->dp,mem_append->am,mem_append_left->bo,mem_append_right->bB,mem_cons->ar,mem_filter->aV,mem_flatMap->dh,mem_map->aH,mem_singleton->bq,nil_append->ah,nodup_cons->bH,not_all_eq_any_not->dG,pairwise_append->bz,pairwise_cons->aD,pairwise_map->db,reverse_reverse->di,set_cons_succ->dX
open Nat renaming add_assoc->cI,add_zero->bD,ble->bG,le_add_right->bO,le_of_ble_eq_true->ck,le_refl->ai,le_succ->eA,le_trans->aP,lt_of_le_of_lt->bE,mul_le_mul_left->aY,mul_le_mul_right->bn,not_lt_zero->ae,pow_pos->ez,zero_le->aZ
open Option renaming bind_some->ac
namespace Ds
class Fuel where
 n:Nat
 le:100000000000<=n
 big:1000000000000000000000000000000000000000000000000000000000000<=n
abbrev NN [F:Fuel]:Nat:=F.n
theorem W3 [Fuel]:100000000000<=NN:=Fuel.le
theorem yb3 [Fuel]:1000000000000000000000000000000000000000000000000000000000000<=NN:=Fuel.big
end Ds
namespace Ds
open Go Go.Dv
set_option maxRecDepth 100000000
abbrev B:=List UInt8
variable [Fuel]
def paths:List B:=[[97,47],[98,47],[97,47,98,47],[99,47],[100,47]]
def tails:List B:=[[1],[2,0,0],[2,0,1],[2,0,2],[3,120]]
def keys:List B:=(paths.take 4).flatMap fun p=>tails.map fun t=>p++t
def values:List B:=[[],[120],[121,121],[49,50,51,52,53,54,55,56,57,48],[0,255]]
def ends:List (B×B):=paths.flatMap fun a=>paths.filterMap fun b=>bif (a.isPrefixOf b || b.isPrefixOf a)then none else some (a,b)
def yyd(s:B×B):Bool:=(eqs s.2 [] || lts s.1 s.2)&&decide (s.1.length<=8)&&decide (s.2.length<=8)
inductive Good:Z1->Prop where
 | put (k v:B) (n:Int):k∈keys->v∈values->0<=n->n<8->Good ((1:Int),k,v,(([]:B),([]:B)),([]:B),([]:B),n)
 | del (k:B):k∈keys->Good ((2:Int),k,([]:B),(([]:B),([]:B)),([]:B),([]:B),(0:Int))
 | drop (s:B×B):yyd s=true->Good ((3:Int),([]:B),([]:B),(s.1,s.2),([]:B),([]:B),(0:Int))
 | move (e:B×B):e∈ends->Good ((4:Int),([]:B),([]:B),(([]:B),([]:B)),e.1,e.2,(0:Int))
 | clone (e:B×B):e∈ends->Good ((5:Int),([]:B),([]:B),(([]:B),([]:B)),e.1,e.2,(0:Int))
 | stamp (s:B×B) (n:Int):yyd s=true->0<=n->n<8->Good ((6:Int),([]:B),([]:B),(s.1,s.2),([]:B),([]:B),n)
theorem yjv{n:Int}(h0:0<=n)(h1:n<256):∃p,zdy NN n=some p/\p∈paths:=by
 obtain⟨p,h,hp⟩:=yr4 (f:=zdy NN) (p:=fun x=>paths.contains x) (by kernel_rfl) h0 h1
 grind
theorem yyz{n:Int}(h0:0<=n)(h1:n<256):∃p,zr6 NN n=some p/\p∈keys:=by
 obtain⟨p,h,hp⟩:=yr4 (f:=zr6 NN) (p:=fun x=>keys.contains x) (by kernel_rfl) h0 h1
 grind
theorem yw8{n:Int}(h0:0<=n)(h1:n<256):∃p,zp3 NN n=some p/\p∈values:=by
 obtain⟨p,h,hp⟩:=yr4 (f:=zp3 NN) (p:=fun x=>values.contains x) (by kernel_rfl) h0 h1
 grind
abbrev Pr:=Z7
def hasB(s:Z0)(k:B):Bool:=bif !(lts k s.1)then(bif eqs s.2 []then true else lts k s.2)else false
theorem yzp(a b:B):(lts a b || eqs a b)= !(lts b a):=by grind[lts_tri,z3h,z84,zn4]
def yct(p:Pr):Bool->List Pr->List Pr
 | d,[]=>bif d then[]else[p]
 | d,q::t=>(bif !d&& !(lts q.1 p.1)then[p]else[])++((bif !(eqs q.1 p.1)then[q]else[])++yct p (d || !(lts q.1 p.1)) t)
def zbh(p:Pr):Bool->List Pr->Bool
 | d,[]=>d
 | d,q::t=>zbh p (d || !(lts q.1 p.1)) t
def zmz(p:Pr):Bool->List Pr->List Pr
 | d,[]=>[]
 | d,q::t=>(bif !d&& !(lts q.1 p.1)then[p]else[])++((bif !(eqs q.1 p.1)then[q]else[])++zmz p (d || !(lts q.1 p.1)) t)
theorem ymy(p:Pr):∀(t:List Pr) (d:Bool),yct p d t=zmz p d t++(bif zbh p d t then[]else[p])
 | [],d=>by cases d<;>rfl
 | q::t,d=>by simp only[yct,zmz,zbh,ymy p t];simp[aU]
theorem yyi(N:Nat)(p:Pr):∀(post pre:List Pr) (n:Nat) (d:Bool) (out:List Pr),post.length<n->(pre++post).length<1000000000->out.length+2*post.length<1000000000->
  z70 N n (pre++post) d (pre.length:Int) p out=some (((),((),zbh p d post)),(p,(out++zmz p d post,())))
 | [],pre,n+1,d,out,_,_,_=>by simp[z36,zbh,zmz,zhj]
 | [],pre,0,d,out,h,_,_=>absurd h (ae _)
 | q::post,pre,0,d,out,h,_,_=>absurd h (ae _)
 | q::post,pre,n+1,d,out,hn,hl,ho=>by
  have ih:=fun d out=>yyi N p post (pre++[q]) n d out (by grind) (by grind);have hl':pre.length<9223372036854775807:=by grind
  have p1:∀(d:Bool) (out:List Pr),out.length<1000000000->z3r N (pre++q::post) d (pre.length:Int) p out=
    some (((pre++q::post),((),((),(d,(pre.length:Int))))),(p,(out++(bif !(eqs q.1 p.1)then[q]else[]),()))):=by
   intro d out ho;simp only[z3r,U0,V5];rw[gd_t rfl];cases e:eqs q.1 p.1
   ·have e':eqs q.1 p.1=false:=e;simp only[e',aN,cond_true]
    grind[gd_t,Y9]
   simp
  have go:∀(d:Bool) (out:List Pr),out.length+1+2*post.length<1000000000->(match z3r N (pre++q::post) d (pre.length:Int) p out with
    | some r4=>(let x5:=(aa .i64 (r4.1.2.2.2.2+(1:Int)))
     z70 N n r4.1.1 r4.1.2.2.2.1 x5 r4.2.1 r4.2.2.1)
    | none=>none)=some (((),((),zbh p d post)),(p,((out++(bif !(eqs q.1 p.1)then[q]else[]))++zmz p d post,()))):=by grind[U1]
  rw[zhj];simp only[z36,Q7,U0,cond_true,V5,yzp];rw[gd_t rfl];simp only[ag]at ho;cases d
  all_goals simp only[aG,aN,cond_true,cond_false]
  ·cases e:lts q.1 p.1
   ·have e':lts q.1 p.1=false:=e;rw[gd_t (Y9 (by omega) (by omega))];refine(go true (out++[p]) (by grind)).trans ?_;simp_all[zbh,zmz]
   ·have e':lts q.1 p.1=true:=e;refine(go false out (by omega)).trans ?_;simp_all[zbh,zmz]
  ·refine(go true out (by omega)).trans ?_;simp[zbh,zmz]
theorem y3a(p:Pr):∀(t:List Pr),zbh p true t=true
 | []=>rfl
 | q::t=>by simp only[zbh,d9];exact y3a p t
theorem y0m(p:Pr):∀(t:List Pr) (d:Bool),(zmz p d t).length<=t.length+(bif d then 0 else bif zbh p d t then 1 else 0)
 | [],d=>by simp[zmz]
 | q::t,d=>by
  have i1:=y0m p t true;have i2:=y0m p t false;have i3:=y3a p t;simp only[cond_true,cond_false]at i1 i2
  grind[zmz,zbh]
theorem x4s(N:Nat)(p:Pr)(t:List Pr)(hN:t.length<N)(ht:t.length<100000000):zbz N t p=some (yct p false t):=by
 have h:=yyi N p t [] N false [] hN (by grind) (by grind);have hl:=y0m p t false;have e:=ymy p t false;rw[e];have h':z70 N N t false (0:Int) p []=_:=h;simp only[zbz,h'];cases ed:zbh p false t
 ·simp only[aN,cond_true,ah,cond_false]
  grind[gd_t,Y9]
 simp
def emptyB(s:B×B):Bool:= !(eqs s.2 [])&&(lts s.2 s.1 || eqs s.2 s.1)
theorem z56(N:Nat)(s:Z0):z2b N s=some (emptyB s):=by grind[z2b,emptyB]
theorem zod{s:B×B}(h:emptyB s=true)(k:B):hasB s k=false:=by
 simp only[emptyB,ab,au,aA]at h;simp only[hasB,h.1];cases e:lts k s.1
 ·simp only[aN,cond_true,cond_false]
  grind[k8,y6]
 ·rfl
theorem ycr(p:Pr):∀t:List Pr,yct p true t=t.filter (fun q=> !(eqs q.1 p.1))
 | []=>rfl
 | q::t=>by
  simp only[yct,aG,eG,cond_false,ah,d9,ycr p t];cases e:eqs q.1 p.1
  ·rw[bQ (by simp[e])];rfl
  ·rw[bK (by simp[e])];rfl
theorem ycs(p:Pr):∀{t:List Pr},Srt t->yct p false t=insT p t
 | [],_=>rfl
 | q::t,hs=>by
  obtain⟨h1,h2⟩:=aD.1 hs;have ih:=ycs p h2;have all:lts q.1 p.1=false->t.filter (fun x=>lts x.1 p.1)=[]/\t.filter (fun x=> !(eqs x.1 p.1))=t/\t.filter (fun x=>lts p.1 x.1)=t:=by intro e;have hx:∀x∈t,lts p.1 x.1=true:=fun x hx=>ykr e (h1 x hx);exact⟨List.filter_eq_nil_iff.2 fun x h=>by simp[z3h (hx x h)],cw.2 fun x h=>by rw[zn4 (zn1 (hx x h)).symm];rfl,cw.2 fun x h=>hx x h⟩
  simp only[yct,aN,aR,dF,insT];cases e:lts q.1 p.1
  ·obtain⟨a1,a2,a3⟩:=all e;simp only[aN,cond_true,ycr];rw[bK (by simp[e]),a1,a2];rcases lts_tri p.1 q.1 with g | g | g
   ·rw[zn4 (zn1 g).symm,bQ (by simp[g]),a3];rfl
   ·rw[<-g,z84,bK (by rw[<-g,z12];simp),a3];rfl
   ·rw[e]at g;cases g
  ·have hne:eqs q.1 p.1=false:=zn4 (zn1 e);simp only[aG,cond_false,hne,aN,cond_true,ah];rw[bQ (by simp[e]),bK (by rw[z3h e];simp),ih];rfl
def uniT{V:Type}(a b:List (B×V)):List (B×V):=b.foldl (fun t p=>insT p t) a
theorem ym6{V:Type}{a:List (B×V)}(b:List (B×V))(h:Srt a):Srt (uniT a b):=by
 unfold uniT;induction b generalizing a with
 | nil=>exact h
 | cons p b ih=>exact ih (h.insT p)
theorem ym7{V:Type}{a b:List (B×V)}(hb:Srt b)(k:B):fnd (uniT a b) k=match fnd b k with | some v=>some v | none=>fnd a k:=by
 unfold uniT;induction b generalizing a with
 | nil=>rfl
 | cons p b ih=>
  obtain⟨h1,h2⟩:=aD.1 hb;rw[bh,ih h2,yxc]
  grind[fnd,y6,zwi,zn1]
theorem yxg{α:Type}(x:α)(xs:List α):cut2 (x::xs) (1:Int) ((x::xs).length:Int)=xs:=by simp[cut2]
abbrev Mg:=Z1
abbrev Sp:=Z0
theorem y7a(k:B)(n:Nat):cut2 k (0:Int) (n:Int)=k.take n:=by simp[cut2]
theorem y4s(k:B)(n:Nat):cut2 k (n:Int) (k.length:Int)=k.drop n:=by simp[cut2,List.take_of_length_le]
theorem yn1(p k:B):(decide (p.length<=k.length)&&eqs (k.take p.length) p)=p.isPrefixOf k:=by
 rw[cf];simp only[ab,decide_eq_true_eq,y6,be]
 grind[List.prefix_iff_eq_take]
theorem y8o(c:UInt8)(hc:c.toNat<255):∀(i k:B),(bif !(lts k (i++[c]))then lts k (i++[c+1])else false)=(i++[c]).isPrefixOf k
 | [],[]=>rfl
 | [],b::r=>by
  have h1:(c+1).toNat=c.toNat+1:=by simp;omega
  simp only[ah,zg8,ztu,Bool.and_false,Bool.or_false,dO,List.isPrefixOf_nil_left,bv];have e1:decide (b<c)=decide (b.toNat<c.toNat):=rfl;have e2:decide (b<c+1)=decide (b.toNat<c.toNat+1):=by rw[<-h1];rfl
  grind
 | a::i,[]=>rfl
 | a::i,b::r=>by
  have ih:=y8o c hc i r;simp only[ba,zg8,dO,<-ih];rcases u8_tri a b with h | rfl | h
  ·have h2:¬b<a:=fun g=>UInt8.lt_irrefl _ (UInt8.lt_trans h g);have h3:(b==a)=false:=by simp;rintro rfl;exact h2 h
   have h4:(a==b)=false:=by simp;rintro rfl;exact h2 h
   simp[h2,h3,h4]
  ·simp[UInt8.lt_irrefl]
  ·have h4:(a==b)=false:=by simp;rintro rfl;exact UInt8.lt_irrefl _ h
   simp[h,h4]
def preB(p:B):B×B:=(p,p.dropLast++[48])
theorem zcb{p:B}(hp:p∈paths):p=p.dropLast++[47]/\p.length<=4:=by
 have h:(paths.all fun p=>eqs p (p.dropLast++[47])&&bG p.length 4)=true:=by decide
 have:=aE.1 h p hp;simp only[ab]at this;exact⟨y6.1 this.1,ck this.2⟩
theorem z8z{p:B}(hp:p∈paths)(k:B):hasB (preB p) k=p.isPrefixOf k:=by have e:=(zcb hp).1;have h:=y8o 47 (by decide) p.dropLast k;rw[<-e]at h;rw[<-h];have:eqs (p.dropLast++[48]) []=false:=zn4 (by simp);simp only[hasB,preB,this,cond_false];rfl
theorem G0{e:B×B}(he:e∈ends):e.1∈paths/\e.2∈paths:=by
 have h:(ends.all fun e=>paths.contains e.1&&paths.contains e.2)=true:=by decide+kernel
 grind
structure Ok (n L:Nat) (t:List Pr):Prop where
 srt:Srt t
 len:t.length<=n
 key:∀p∈t,p.1.length<=L
theorem insT_mem{V:Type}{p x:B×V}{t:List (B×V)}(h:x∈insT p t):x=p\/x∈t:=by grind[insT]
def stp(s:B×B)(n:Int)(p:Pr):Pr:=bif hasB s p.1 then(p.1,p.2.1,n)else p
def app(m:Mg)(t:List Pr):List Pr:=
 bif eqi m.1 1 then insT (m.2.1,m.2.2.1,m.2.2.2.2.2.2) t else
 bif eqi m.1 2 then t.filter (fun p=> !(hasB (m.2.1,m.2.1++[0]) p.1))else
 bif eqi m.1 3 then t.filter (fun p=> !(hasB m.2.2.2.1 p.1))else
 bif eqi m.1 4 then(uniT (t.filter fun p=> !(hasB (preB m.2.2.2.2.2.1) p.1)) (mvd m.2.2.2.2.1 m.2.2.2.2.2.1 t)).filter (fun p=> !(hasB (preB m.2.2.2.2.1) p.1))else
 bif eqi m.1 5 then uniT (t.filter fun p=> !(hasB (preB m.2.2.2.2.2.1) p.1)) (mvd m.2.2.2.2.1 m.2.2.2.2.2.1 t)else
 bif eqi m.1 6 then t.map (stp m.2.2.2.1 m.2.2.2.2.2.2)else t
abbrev zu6(k v:B)(n:Int):Mg:=(1,k,v,([],[]),[],[],n)
abbrev y4a(k:B):Mg:=(2,k,[],([],[]),[],[],0)
abbrev zen(s:B×B):Mg:=(3,[],[],s,[],[],0)
abbrev mv(k:Int)(e:B×B):Mg:=(k,[],[],([],[]),e.1,e.2,0)
abbrev zo9(s:B×B)(n:Int):Mg:=(6,[],[],s,[],[],n)
section one
variable {n L:Nat} {t:List Pr} (h:Ok n L t) (hn:n+4<NN) (hL:L<1000000000)
include h hn
include hL
end one
def apps(ms:List Mg)(t:List Pr):List Pr:=ms.foldl (fun t m=>app m t) t
theorem yzk{α:Type}(xs:List α)(i:Int)(d:α)(h0:0<=i)(h1:i<(xs.length:Int)):∃(h:i.toNat<xs.length),rdL xs i d=xs[i.toNat]'h:=by grind[rdL]
theorem walk{α S R:Type}{xs:List α}{L:Nat->Int->S->Option R}(g:S->α->S)(fin:S->R)(I:S->List α->Prop)
  (hend:∀n s,I s []->L (n+1) (xs.length:Int) s=some (fin s))
  (hstep:∀n pre x post s,xs=pre++x::post->I s (x::post)->L (n+1) (pre.length:Int) s=L n ((pre++[x]).length:Int) (g s x)/\I (g s x) post):
  ∀post pre n s,xs=pre++post->post.length<n->I s post->L n (pre.length:Int) s=some (fin (post.foldl g s))/\I (post.foldl g s) []
 | _,_,0,_,_,h,_=>absurd h (ae _)
 | [],pre,n+1,s,hx,_,hi=>by grind
 | x::post,pre,n+1,s,hx,hn,hi=>by
  obtain⟨h1,h2⟩:=hstep n pre x post s hx hi;have ih:=walk g fin I hend hstep post (pre++[x]) n (g s x) (by grind) (by grind) h2
  grind
theorem ykg{α S R:Type}{xs:List α}{L:Nat->Int->S->Option R}(g:S->α->S)(fin:S->R)(I:S->List α->Prop)
  (hend:∀n s,I s []->L (n+1) (xs.length:Int) s=some (fin s))
  (hstep:∀n pre x post s,xs=pre++x::post->I s (x::post)->L (n+1) (pre.length:Int) s=L n ((pre++[x]).length:Int) (g s x)/\I (g s x) post)
  {n:Nat} {s:S} (hn:xs.length<n) (hi:I s xs):L n 0 s=some (fin (xs.foldl g s)):=
 (walk g fin I hend hstep xs [] n s rfl hn hi).1
abbrev Big(n:Nat):Prop:=n<1000000000
def inS(l:List Sp)(k:B):Bool:=l.any fun s=>hasB s k
theorem ys6(N:Nat)(s:Sp)(k:B):zel N s k=some (hasB s k):=by grind[zel,hasB]
theorem x3a(N:Nat)(k:B):∀(post pre:List Sp) (n:Nat),post.length<n->Big (pre++post).length->
  zp8 N n (pre++post) k (pre.length:Int)=some (bif inS post k then .inl (true,())else .inr ((),()))
 | _,_,0,h,_=>absurd h (ae _)
 | [],pre,n+1,_,_=>by rw[zqr];simp only[z89,aj,bj,decide_false,cond_false];rfl
 | q::post,pre,n+1,hn,hl=>by
  simp only[ag]at hn;have hl':pre.length<9223372036854775807:=by grind
  rw[zqr];simp only[z89,Q7,U0,cond_true,V5,ys6];rw[gd_t rfl];cases e:hasB q k
  ·rw[cond_false,U1 (q:=q) hl',Q3 (pre:=pre) (q:=q) (post:=post),x3a N k post (pre++[q]) n (by omega) (by grind)]
   grind[inS]
  grind[inS]
theorem x40(N:Nat)(l:List Sp)(k:B)(hN:l.length<N)(hl:Big l.length):zwd N l k=some (inS l k):=by
 have h:=x3a N k l [] N hN (by grind);have hz:(([]:List Sp).length:Int)=0:=rfl
 grind[zwd]
theorem yf2{α:Type}(f:α->Bool)(xs out:List α):xs.foldl (fun o x=>bif f x then o++[x]else o) out=out++xs.filter f:=by
 induction xs generalizing out with
 | nil=>simp
 | cons x xs ih=>
  grind
theorem yqo(N:Nat)(t:List Pr)(l:List Sp)(hN:t.length<N)(hl:l.length<N)(ht:Big t.length)(hl':Big l.length):z7q N t l=some (t.filter fun p=> !(inS l p.1)):=by
 have h:=ykg (xs:=t) (L:=fun n i s=>zbf N n t l i s) (fun o x=>bif !(inS l x.1)then o++[x]else o) (fun s=>((),(s,()))) (fun s post=>s.length+post.length<1000000000)
  (fun n s _=>by simp[z24,zfy])
  (fun n pre x post s hx hi=>by
   have hb:pre.length<9223372036854775807:=by grind
   simp only[ag]at hi;rw[zfy];rw[hx];simp only[z24,Q7,U0,cond_true,V5,x40 N l _ hl hl'];rw[gd_t rfl];cases inS l x.1
   ·simp only[aN,cond_true]
    grind[gd_t,Y9,U1]
   ·simp only[aG,cond_false]
    grind[U1])
  hN (by grind) (s:=[])
 grind[z7q,yf2]
theorem yv9(N:Nat)(t:List Pr)(l:List Sp)(hN:t.length<N)(hl:l.length<N)(ht:Big t.length)(hl':Big l.length):zl0 N t l=some (t.filter fun p=>inS l p.1):=by
 have h:=ykg (xs:=t) (L:=fun n i s=>zde N n t l i s) (fun o x=>bif inS l x.1 then o++[x]else o) (fun s=>((),(s,()))) (fun s post=>s.length+post.length<1000000000)
  (fun n s _=>by simp[z33,zhh])
  (fun n pre x post s hx hi=>by
   have hb:pre.length<9223372036854775807:=by grind
   simp only[ag]at hi;rw[zhh];rw[hx];simp only[z33,Q7,U0,cond_true,V5,x40 N l _ hl hl'];rw[gd_t rfl];cases inS l x.1
   ·simp only[cond_false]
    grind[U1]
   ·simp only[cond_true]
    grind[gd_t,Y9,U1])
  hN (by grind) (s:=[])
 grind[zl0,yf2]
theorem yj0(N:Nat){t:List Pr}(p:Pr)(hs:Srt t)(hN:t.length<N)(ht:t.length<100000000):zbz N t p=some (insT p t):=by grind[x4s,ycs]
theorem yq6{e:B×B}(he:e∈ends)(k:B)(h1:e.1.isPrefixOf k=true):e.2.isPrefixOf k=false:=by
 have h:(ends.all fun e=> !(e.1.isPrefixOf e.2)&& !(e.2.isPrefixOf e.1))=true:=by decide+kernel
 have hh:=aE.1 h e he;simp only[ab,au]at hh
 grind[List.prefix_of_prefix_length_le]
theorem y0l(N:Nat)(k p:B):z1n N k p=some (p.isPrefixOf k):=by
 simp only[z1n,<-yn1];by_cases h:p.length<=k.length
 ·simp_all[gd_t,y7a]
 grind
theorem yu1(N:Nat)(k p q:B)(hk:k.length<1000000000)(hq:q.length<1000000000):zp7 N k p q=some (bif p.isPrefixOf k then(q++k.drop p.length,true)else([],false)):=by
 simp only[zp7,y0l];cases e:p.isPrefixOf k
 ·rfl
 ·have h:p.length<=k.length:=(be.1 e).length_le;simp only[aG,cond_false,cond_true]
  grind[maxS,y4s,gd_p]
theorem in1(s:Sp)(k:B):inS [s] k=hasB s k:=by simp[inS]
theorem yhk(N:Nat)(m:Mg):∀(post pre:List Pr) (n:Nat),post.length<n->(pre++post).length<1000000000->
  zf8 N n (pre.length:Int) m (pre++post)=some ((),(pre++post.map (stp m.2.2.2.1 m.2.2.2.2.2.2),()))
 | _,_,0,h,_=>absurd h (ae _)
 | [],pre,n+1,_,_=>by simp[z48,zk2]
 | x::post,pre,n+1,hn,hl=>by
  simp only[ag]at hn;have hl':pre.length<9223372036854775807:=by grind
  rw[zk2];simp only[z48,Q7,U0,cond_true,V5,yjr,ys6];rw[gd_t rfl];have ih:=fun y:Pr=>yhk N m post (pre++[y]) n (by omega) (by grind);cases e1:hasB m.2.2.2.1 x.1
  ·rw[cond_false,U1 (q:=x) hl',Q3 (pre:=pre) (q:=x) (post:=post),ih x]
   grind[stp]
  ·rw[cond_true,gd_t rfl,U1 (q:=(x.1,x.2.1,m.2.2.2.2.2.2)) hl',Q3 (pre:=pre) (q:=(x.1,x.2.1,m.2.2.2.2.2.2)) (post:=post),ih]
   grind[stp]
def lessB(a b:B):Bool:= !(eqs a [])&&(eqs b [] || lts a b)
theorem yk3(N:Nat)(a b:B):zhl N a b=some (lessB a b):=by grind[zhl,lessB]
def ypy(a b:B):B:=bif !(lts a b)then a else b
def yd7(a b:Sp):Sp:=(ypy a.1 b.1,bif lessB b.2 a.2 then b.2 else a.2)
def z17(a b:Sp):Sp:=bif emptyB (yd7 a b)then([97],[97])else yd7 a b
theorem zrg(N:Nat)(a b:Sp):z4m N a b=some (z17 a b):=by
 simp only[z4m,yk3,z56,zsz,z17,yd7,ypy]
 grind
def K1(k h:B):Bool:=eqs h [] || lts k h
theorem Q8(s:Sp)(k:B):hasB s k=(!(lts k s.1)&&K1 k s.2):=by simp[hasB,K1]
theorem x1c(a b k:B):lts k (ypy a b)=(lts k a || lts k b):=by
 unfold ypy;cases e:lts a b
 ·simp only[aN,cond_true]
  grind[zrh]
 ·simp only[aG,cond_false]
  grind[k8]
theorem y9a{a b k:B}(h:lessB a b=true)(hk:K1 k a=true):K1 k b=true:=by
 simp only[lessB,K1,ab,aA,au]at h hk|-
 grind[k8]
theorem zs7{a b k:B}(h:lessB a b=false)(hk:K1 k b=true):K1 k a=true:=by
 simp only[lessB,K1,aA,de,cL,dn]at h hk|-
 grind[zrh]
theorem yui(a b k:B):K1 k (bif lessB b a then b else a)=(K1 k a&&K1 k b):=by
 cases e:lessB b a
 ·simp only[cond_false]
  grind[zs7]
 ·simp only[cond_true]
  grind[y9a]
theorem zkb(a b:Sp)(k:B):hasB (z17 a b) k=(hasB a k&&hasB b k):=by
 have h:hasB (yd7 a b) k=(hasB a k&&hasB b k):=by
  rw[Q8,Q8,Q8];simp only[yd7,x1c,yui]
  grind
 unfold z17;cases e:emptyB (yd7 a b)
 ·exact h
 ·rw[<-h,zod e,cond_true,zod (by decide)]
def sMid(s:Sp):Bool->List Sp->List Sp
 | _,[]=>[]
 | d,q::l=>bif !d&&lts s.1 q.1 then s::q::sMid s true l else q::sMid s d l
def sDone(s:Sp):Bool->List Sp->Bool
 | d,[]=>d
 | d,q::l=>bif !d&&lts s.1 q.1 then sDone s true l else sDone s d l
def sIns(s:Sp)(l:List Sp):List Sp:=sMid s (emptyB s) l++bif sDone s (emptyB s) l then[]else[s]
theorem zmv(s:Sp):∀l,sMid s true l=l/\sDone s true l=true
 | []=>⟨rfl,rfl⟩
 | q::l=>by obtain⟨h1,h2⟩:=zmv s l;simp[sMid,sDone,h1,h2]
theorem ymo(s:Sp):∀(l:List Sp),(sMid s false l).length<=l.length+1/\(sMid s false l).length+(bif sDone s false l then 0 else 1)<=l.length+1
 | []=>by simp[sMid,sDone]
 | q::l=>by
  have i1:=zmv s l;obtain⟨i2,i3⟩:=ymo s l;simp only[sMid,sDone,aN,aR]
  grind
theorem ymp(s:Sp)(l:List Sp):(sMid s (emptyB s) l).length<=l.length+1/\(sIns s l).length<=l.length+1:=by
 unfold sIns;cases emptyB s
 ·obtain⟨i2,i3⟩:=ymo s l
  grind
 simp[zmv]
theorem yic(N:Nat)(s:Sp):∀(post pre:List Sp) (n:Nat) (d:Bool) (out:List Sp),post.length<n->Big (pre++post).length->out.length+2*post.length<1000000000->
  zdg N n (pre++post) d (pre.length:Int) s out=some (((),((),sDone s d post)),(s,(out++sMid s d post,())))
 | _,_,0,_,_,h,_,_=>absurd h (ae _)
 | [],pre,n+1,d,out,_,_,_=>by rw[zhk];simp only[z37,aj,bj,decide_false,cond_false,sDone,sMid]
 | q::post,pre,n+1,d,out,hn,hl,ho=>by
  simp only[ag]at hn ho;have hl':pre.length<9223372036854775807:=by simp[Big]at hl;omega
  have ih:=fun d out=>yic N s post (pre++[q]) n d out (by omega) (by simpa using hl);rw[zhk];simp only[z37,Q7,U0,cond_true,V5];cases d
  ·simp only[aN,cond_true];rw[gd_t rfl];cases e:lts s.1 q.1
   ·simp only[cond_false];rw[gd_t rfl,gd_t (Y9 (by omega) (by omega)),U1 (q:=q) hl',Q3 (pre:=pre) (q:=q) (post:=post),ih false (out++[q]) (by simp;omega)];simp[sMid,sDone,e]
   ·simp only[cond_true];rw[gd_t (Y9 (by omega) (by omega)),gd_t rfl,gd_t (Y9 (by simp;omega) (by omega)),U1 (q:=q) hl',Q3 (pre:=pre) (q:=q) (post:=post),ih true (out++[s]++[q]) (by simp;omega)];simp[sMid,sDone,e]
  ·simp only[aG,cond_false];rw[gd_t rfl,gd_t (Y9 (by omega) (by omega)),U1 (q:=q) hl',Q3 (pre:=pre) (q:=q) (post:=post),ih true (out++[q]) (by simp;omega)];simp[sMid,sDone]
theorem yib(N:Nat)(l:List Sp)(s:Sp)(hN:l.length<N)(hl:l.length<100000000):zl4 N l s=some (sIns s l):=by
 have h:=yic N s l [] N (emptyB s) [] hN (by grind) (by grind);have hz:(([]:List Sp).length:Int)=0:=rfl;simp only[ah,hz]at h;have hm:=(ymp s l).1;simp only[zl4,z56,h,sIns];cases sDone s (emptyB s) l
 ·simp only[aN,cond_true,cond_false]
  grind[gd_t,Y9]
 ·simp
structure Nrm (l:List Sp):Prop where
 ord:l.Pairwise fun a b=>lts b.1 a.1=false
 full:∀s∈l,emptyB s=false
theorem y0a(s:Sp):∀l:List Sp,Nrm l->emptyB s=false->Nrm (sMid s false l++bif sDone s false l then[]else[s])/\(∀x,x∈(sMid s false l++bif sDone s false l then[]else[s])↔x=s\/x∈l)
 | [],h,hs=>⟨⟨by simp[sMid,sDone],fun x hx=>by grind[sMid]⟩,fun x=>by simp[sMid,sDone]⟩
 | q::l,h,hs=>by
  obtain⟨o1,o2⟩:=aD.1 h.ord;cases e:lts s.1 q.1
  ·obtain⟨i1,i2⟩:=y0a s l ⟨o2,fun x hx=>h.full x (by simp[hx])⟩ hs;have e1:(sMid s false (q::l)++bif sDone s false (q::l)then[]else[s])=q::(sMid s false l++bif sDone s false l then[]else[s]):=by simp[sMid,sDone,e]
   rw[e1];refine⟨⟨aD.2 ⟨fun x hx=> ?_,i1.ord⟩,fun x hx=> ?_⟩,fun x=> ?_⟩
   ·rcases(i2 x).1 hx with rfl | hx
    ·exact e
    ·exact o1 x hx
   ·rcases ar.1 hx with rfl | hx
    ·exact h.full _ (by simp)
    ·exact i1.full x hx
   ·rw[ar,i2,ar];constructor
    ·rintro(h | h | h)
     ·exact .inr (.inl h)
     ·exact .inl h
     ·exact .inr (.inr h)
    ·rintro(h | h | h)
     ·exact .inr (.inl h)
     ·exact .inl h
     ·exact .inr (.inr h)
  ·obtain⟨m1,m2⟩:=zmv s l;have e1:(sMid s false (q::l)++bif sDone s false (q::l)then[]else[s])=s::q::l:=by simp[sMid,sDone,e,m1,m2]
   rw[e1];refine⟨⟨aD.2 ⟨fun x hx=> ?_,h.ord⟩,fun x hx=> ?_⟩,fun x=>ar⟩
   ·rcases ar.1 hx with rfl | hx
    ·exact z3h e
    ·cases e2:lts x.1 s.1
     ·rfl
     ·have:=k8 e2 e;rw[o1 x hx]at this;cases this
   ·rcases ar.1 hx with rfl | hx
    ·exact hs
    ·exact h.full x hx
theorem yck(s:Sp){l:List Sp}(h:Nrm l):Nrm (sIns s l)/\(∀k,inS (sIns s l) k=(inS l k || hasB s k))/\(sIns s l).length<=l.length+1:=by
 have hlen:=(ymp s l).2;cases e:emptyB s
 ·obtain⟨i1,i2⟩:=y0a s l h e;have e1:sIns s l=(sMid s false l++bif sDone s false l then[]else[s]):=by grind[sIns]
  rw[e1]at hlen|-;refine⟨i1,fun k=> ?_,hlen⟩;rw[cf];simp only[inS,cO,aA]
  grind
 simp_all[sIns,zmv,zod]
def zj8(out:List Sp)(s:Sp):List Sp:=match out.getLast? with
 | none=>[s]
 | some o=>bif !(eqs o.2 [])&&lts o.2 s.1 then out++[s]else bif lessB o.2 s.2 then out.dropLast++[(o.1,s.2)]else out
theorem znv(a b:List Sp)(k:B):inS (a++b) k=(inS a k || inS b k):=by simp[inS]
theorem inS1(s:Sp)(k:B):inS [s] k=hasB s k:=by simp[inS]
theorem yuj{o s:Sp}(h1:lts s.1 o.1=false)(h2:(!(eqs o.2 [])&&lts o.2 s.1)=false)(k:B):(hasB o k || hasB s k)=(bif lessB o.2 s.2 then hasB (o.1,s.2) k else hasB o k):=by
 have A:lts k o.1=true->lts k s.1=true:=fun h=>zrh h h1;have Bn:lts k s.1=true->K1 k o.2=true:=fun h=>by
  simp only[de,dn]at h2;simp only[K1,aA]
  grind[zrh]
 rw[Q8,Q8,Q8];cases e:lessB o.2 s.2
 ·have C:K1 k s.2=true->K1 k o.2=true:=fun h=>zs7 e h
  grind
 ·have C:K1 k o.2=true->K1 k s.2=true:=fun h=>y9a e h
  grind
theorem ynm:∀(post out:List Sp),post.Pairwise (fun a b=>lts b.1 a.1=false)->(∀o,out.getLast? =some o->∀s∈post,lts s.1 o.1=false)->(∀k,inS (post.foldl zj8 out) k=(inS out k || inS post k))/\(post.foldl zj8 out).length<=out.length+post.length
 | [],out,_,_=>⟨fun k=>by simp[inS],by simp⟩
 | s::post,out,hp,ho=>by
  obtain⟨p1,p2⟩:=aD.1 hp;have key:(∀k,inS (zj8 out s) k=(inS out k || hasB s k))/\(∀o,(zj8 out s).getLast? =some o->∀x∈post,lts x.1 o.1=false)/\(zj8 out s).length<=out.length+1:=by
   unfold zj8;cases e:out.getLast? with
   | none=>
    grind[inS]
   | some o=>
    obtain⟨ini,rfl⟩:∃ini,out=ini++[o]:=cM.1 e;have hos:=ho o e s (by simp);simp only;cases e1:(!(eqs o.2 [])&&lts o.2 s.1)
    ·have hm:=yuj hos e1;simp only[cond_false];cases e2:lessB o.2 s.2
     ·simp only[e2,cond_false]at hm|-
      grind[znv,inS1]
     ·simp only[e2,cond_true]at hm|-
      grind[znv,inS1]
    ·simp only[cond_true]
     grind[znv,inS1]
  obtain⟨k1,k2,k3⟩:=key;obtain⟨i1,i2⟩:=ynm post (zj8 out s) p2 k2;refine⟨fun k=> ?_, ?_⟩
  ·rw[bh,i1,k1];simp[inS,Bool.or_assoc]
  ·rw[bh];simp only[ag];omega
theorem x0w(N:Nat){i:Int}{b:Bool}{sorted:List Sp}{s o:Sp}{ini:List Sp}(hi:inB i sorted.length=true)(hr:rdL sorted i Y7=s)(hl:ini.length<1000000000):
  z4x N i (ini.length:Int) b sorted (ini++[o])=some (((),((),i)),(sorted,((bif b then ini++[o]++[s]else bif lessB o.2 s.2 then ini++[(o.1,s.2)]else ini++[o]),()))):=by
 simp only[z4x,hr,U0,V5,yjr,yk3];cases b
 ·simp only[cond_false];rw[gd_t rfl,gd_t hi];cases lessB o.2 s.2
  all_goals simp_all[gd_t]
 ·simp only[cond_true]
  grind[gd_t,Y9]
theorem ysh(N:Nat){sorted:List Sp}(hN:sorted.length<N)(hl:sorted.length<100000000):zct N N (0:Int) sorted []=some ((),(sorted.foldl zj8 [],())):=by
 refine ykg (xs:=sorted) (L:=fun n i s=>zct N n i sorted s) zj8 (fun s=>((),(s,()))) (fun s post=>s.length+post.length<=100000000)
  (fun n s _=>by simp[z5s,zly])
  (fun n pre x post s hx hi=> ?_) hN (by grind)
 simp only[ag]at hi;have hb:pre.length<9223372036854775807:=by grind
 have hlen:(zj8 s x).length<=s.length+1:=by
  unfold zj8
  grind
 rw[zly];rw[hx];simp only[z5s,Q7,U0,cond_true,V5];cases e:s.getLast? with
 | none=>
  have:s=[]:=List.getLast?_eq_none_iff.1 e;subst this;have w:aa .i64 ((([]:List Sp).length:Int)-(1:Int))= -1:=by decide
  have p2:z4x N (pre.length:Int) (-1) true (pre++x::post) []=some (((),((),(pre.length:Int))),(pre++x::post,([x],()))):=by simp only[z4x,cond_true,U0,V5];constructor<;>grind
  rw[w,W8 (by decide),p2];simp only;rw[U1 (q:=x) hb];exact⟨rfl,by omega⟩
 | some o=>
  obtain⟨ini,rfl⟩:∃ini,s=ini++[o]:=cM.1 e;have hil:ini.length<100000000:=by grind
  have w:aa .i64 (((ini++[o]).length:Int)-(1:Int))=(ini.length:Int):=by grind[w64]
  have p2:=fun b=>x0w N (i:=(pre.length:Int)) (b:=b) (sorted:=pre++x::post) (s:=x) (o:=o) (ini:=ini) U0 V5 (by omega);have hms:zj8 (ini++[o]) x=(bif !(eqs o.2 [])&&lts o.2 x.1 then ini++[o]++[x]else bif lessB o.2 x.2 then ini++[(o.1,x.2)]else ini++[o]):=by simp[zj8]
  rw[w,X5 (by simp),U0,V5,gd_t rfl,hms];rw[hms]at hlen;cases e1:eqs o.2 []
  ·simp only[e1,aN,cond_true,aR]at hlen|-
   grind[gd_t,U1]
  ·simp only[e1,aG,cond_false,eG]at hlen|-
   grind[U1]
theorem x2e(N:Nat){l:List Sp}(hN:l.length<N)(hl:l.length<40000000):∃r,z4l N l=some r/\(∀k,inS r k=inS l k)/\r.length<=l.length:=by
 have h0:=walk (xs:=l) (L:=fun n i (s:List Sp)=>zcu N n l i s []) (fun o x=>sIns x o) (fun s=>(((),()),(s,([],())))) (fun s post=>Nrm s/\s.length+post.length<=l.length)
  (fun n s _=>by simp[z0t,z8t])
  (fun n pre x post s hx hi=>by
   obtain⟨h1,h2⟩:=hi;simp only[ag]at h2;have hb:pre.length<9223372036854775807:=by grind
   have hbl:=congrArg ak hx;obtain⟨i1,_,i3⟩:=yck x h1;rw[z8t];rw[hx];simp only[z0t,Q7,U0,cond_true,V5,yib N s x (by omega) (by omega)]
   grind[gd_t,U1])
  l [] N [] rfl hN ⟨⟨aX.nil,fun s h=>by cases h⟩,by simp⟩
 have hz:(([]:List Sp).length:Int)=0:=rfl;simp only[hz]at h0;obtain⟨e0,n1,n2⟩:=h0;have sem:∀(post s:List Sp),Nrm s->∀k,inS (post.foldl (fun o x=>sIns x o) s) k=(inS s k || inS post k):=by
  intro post;induction post with
  | nil=>simp[inS]
  | cons x post ih=>
   grind[inS,yck]
 have sm:=sem l [] ⟨aX.nil,fun s h=>by cases h⟩;generalize l.foldl (fun o x=>sIns x o) []=sorted at e0 n1 n2 sm;simp only[aJ,bD]at n2;obtain⟨m1,m2⟩:=ynm sorted [] n1.ord (fun o h=>by grind)
 grind[z4l,inS,ysh]
def z4y(q:Sp)(out:List Sp)(x:Sp):List Sp:=out++((bif eqs q.1 []then[]else[z17 x ([],q.1)])++bif eqs q.2 []then[]else[z17 x (q.2,[])])
theorem yd4{q:Sp}(hq:emptyB q=false)(x:Sp)(k:B):inS ((bif eqs q.1 []then[]else[z17 x ([],q.1)])++bif eqs q.2 []then[]else[z17 x (q.2,[])]) k=(hasB x k&& !(hasB q k)):=by
 have e1:inS (bif eqs q.1 []then[]else[z17 x ([],q.1)]) k=(hasB x k&&lts k q.1):=by
  cases e:eqs q.1 []
  ·simp only[cond_false];rw[inS1,zkb,Q8 ([],q.1)];simp_all[K1,ztu]
  grind[inS,y6,ztu]
 have e2:inS (bif eqs q.2 []then[]else[z17 x (q.2,[])]) k=(hasB x k&& !(K1 k q.2)):=by
  cases e:eqs q.2 []
  ·simp only[cond_false];rw[inS1,zkb,Q8 (q.2,[])];simp_all[K1]
  grind[inS,K1]
 have C:lts k q.1=true->K1 k q.2=true:=fun h=>by
  simp only[emptyB,de,cL,dn]at hq;simp only[K1,aA]
  grind[zrh]
 grind[znv,Q8]
theorem ynk(N:Nat){pm post':List Sp}{q:Sp}(left:List Sp)(hN:left.length<N)(hl:left.length<20000000):
  zas N N (pm++q::post') (pm.length:Int) (0:Int) left []=some ((pm++q::post',((pm.length:Int),())),(left.foldl (z4y q) [],())):=by
 refine ykg (xs:=left) (L:=fun n i s=>zas N n (pm++q::post') (pm.length:Int) i left s) (z4y q) (fun s=>((pm++q::post',((pm.length:Int),())),(s,()))) (fun s post=>s.length+2*post.length<=40000000)
  (fun n s _=>by simp[z4c,zk6])
  (fun n pre x post s hx hi=> ?_) hN (by grind)
 simp only[ag]at hi;have hb:pre.length<9223372036854775807:=by grind
 have hlen:(z4y q s x).length<=s.length+2:=by grind[z4y]
 refine⟨?_,by omega⟩;rw[zk6];rw[hx];simp only[z4c,Q7,U0,cond_true,V5,zrg];rw[gd_t rfl];cases e1:eqs q.1 []
 ·simp only[aN,cond_true];rw[gd_t rfl,gd_t rfl,gd_t (Y9 (by omega) (by omega)),gd_t rfl];cases e2:eqs q.2 []
  ·simp only[aN,cond_true];rw[gd_t rfl,gd_t rfl,gd_t (Y9 (by grind) (by omega)),U1 (q:=x) hb]
   grind[z4y]
  ·simp only[aG,cond_false]
   grind[z4y,U1]
 ·simp only[aG,cond_false];rw[gd_t rfl];cases e2:eqs q.2 []
  ·simp only[aN,cond_true];rw[gd_t rfl,gd_t rfl,gd_t (Y9 (by omega) (by omega)),U1 (q:=x) hb]
   grind[z4y]
  ·simp only[aG,cond_false]
   grind[z4y,U1]
theorem zd0(a b:Bool):(bif a then some b else some false)=some (a&&b):=by grind
def inR(n lo hi:Int):Bool:=decide (lo<=n)&&decide (n<=hi)
theorem yyf(N:Nat)(n lo hi:Int):zob N n lo hi=some (inR n lo hi):=by simp only[zob,zd0];rfl
def nol(s:B):Bool:=eqs s []
theorem yo6(a b:B):eqs a b=eqs b a:=by grind[y6]
theorem yaw(s:B):eqs [] s=nol s:=yo6 [] s
theorem yd2(s:B):eqs s []=nol s:=rfl
def y08(s:Sp):Bool:= !(emptyB s)&&(decide ((s.1.length:Int)<=65535)&&decide ((s.2.length:Int)<=65535))
theorem ymr(N:Nat)(s:Sp):znn N s=some (y08 s):=by grind[znn,y08,z56]
def zyx(a b:B):Bool:=inR a.length 1 200&&(inR b.length 1 200&&(!(b.isPrefixOf a)&& !(a.isPrefixOf b)))
def vldB(m:Mg):Bool:=
 bif eqi m.1 1 then(inR m.2.1.length 1 65535&&(decide ((m.2.2.1.length:Int)<=64)&&inR m.2.2.2.2.2.2 0 1000000000))&&(nol m.2.2.2.1.1&&(nol m.2.2.2.1.2&&(nol m.2.2.2.2.1&&nol m.2.2.2.2.2.1)))else
 bif eqi m.1 2 then inR m.2.1.length 1 65535&&(nol m.2.2.1&&(nol m.2.2.2.1.1&&(nol m.2.2.2.1.2&&(nol m.2.2.2.2.1&&(nol m.2.2.2.2.2.1&&eqi m.2.2.2.2.2.2 0)))))else
 bif eqi m.1 3 then y08 m.2.2.2.1&&(nol m.2.1&&(nol m.2.2.1&&(nol m.2.2.2.2.1&&(nol m.2.2.2.2.2.1&&eqi m.2.2.2.2.2.2 0))))else
 bif eqi m.1 4 || eqi m.1 5 then zyx m.2.2.2.2.1 m.2.2.2.2.2.1&&(nol m.2.1&&(nol m.2.2.1&&(nol m.2.2.2.1.1&&(nol m.2.2.2.1.2&&eqi m.2.2.2.2.2.2 0))))else
 bif eqi m.1 6 then(y08 m.2.2.2.1&&inR m.2.2.2.2.2.2 0 1000000000)&&(nol m.2.1&&(nol m.2.2.1&&(nol m.2.2.2.2.1&&nol m.2.2.2.2.2.1)))else false
theorem y4r(a b:Int):eqi a b=eqi b a:=by grind[za7]
theorem yu0(m:Mg)(st mvs:Bool):zar NN st m.1 mvs m=
  some (bif mvs then .inl (zyx m.2.2.2.2.1 m.2.2.2.2.2.1&&(nol m.2.1&&(nol m.2.2.1&&(nol m.2.2.2.1.1&&(nol m.2.2.2.1.2&&eqi m.2.2.2.2.2.2 0)))),())else bif eqi m.1 6 then .inl ((y08 m.2.2.2.1&&st)&&(nol m.2.1&&(nol m.2.2.1&&(nol m.2.2.2.2.1&&nol m.2.2.2.2.2.1))),())else .inr ((),())):=by
 simp only[zar,y0l,yyf,ymr,yd2,z09,z84,aR,bv,zyx]
 grind
theorem y7m(m:Mg):ze8 NN m=some (vldB m):=by
 simp only[ze8,vldB,yyf,ymr,yu0];cases h1:eqi m.1 1
 case true=>
  simp[zd0,yd2,dV]
 case false=>
 cases h2:eqi m.1 2
 case true=>
  simp[zd0,yd2]
 case false=>
 cases h3:eqi m.1 3
 case true=>
  simp[zd0,yd2]
 grind
def byt(n:Int)(i:Nat):Int:=aa .u8 (cT n (2^(8*i)))
theorem yrd(n:Int)(i:Nat)(hi:i<8):aa .u8 (cT n (2^min (Int.toNat (aa .i64 ((8:Int)*(i:Int)))) (aM .i64)))=byt n i:=by
 have e:aa .i64 ((8:Int)*(i:Int))=((8*i:Nat):Int):=by grind[w64]
 have b:aM .i64=64:=rfl;rw[e,cG,b,Nat.min_eq_left (by omega)];rfl
def bytes(n:Int):Nat->List Int
 | 0=>[]
 | w+1=>byt n w::bytes n w
theorem K2(n:Int):∀w,(bytes n w).length=w
 | 0=>rfl
 | w+1=>by simp[bytes,K2 n w]
theorem ztg(s:B):(U2 s).length=s.length:=by simp[U2]
def z6l(s:B):List Int:=bytes (s.length:Int) 2++U2 s
theorem z8(s:B):(z6l s).length=2+s.length:=by simp[z6l,K2,ztg]
def y10(m:Mg):List Int:=
 bif eqi m.1 1 then z6l m.2.1++z6l m.2.2.1++bytes m.2.2.2.2.2.2 4 else
 bif eqi m.1 2 then z6l m.2.1 else
 bif eqi m.1 3 then z6l m.2.2.2.1.1++z6l m.2.2.2.1.2 else
 bif eqi m.1 6 then z6l m.2.2.2.1.1++z6l m.2.2.2.1.2++bytes m.2.2.2.2.2.2 4 else
 z6l m.2.2.2.2.1++z6l m.2.2.2.2.2.1
def z3f(m:Mg):List Int:=aa .u8 m.1::y10 m
def zub(m:Mg):List Int:=bif vldB m then z3f m else[]
theorem zkc{n lo hi:Int}:inR n lo hi=true↔lo<=n/\n<=hi:=by simp[inR]
theorem vld_cases{m:Mg}(h:vldB m=true):
  (∃k v n,m=zu6 k v n/\1<=k.length/\k.length<=65535/\v.length<=64/\0<=n/\n<=1000000000)\/
  (∃k,m=y4a k/\1<=k.length/\k.length<=65535)\/
  (∃s,m=zen s/\y08 s=true)\/
  (∃k e,m=mv k e/\(k=4\/k=5)/\zyx e.1 e.2=true)\/
  (∃s n,m=zo9 s n/\y08 s=true/\0<=n/\n<=1000000000):=by
 obtain⟨k,key,val,⟨lo,hi⟩,fr,to,n⟩:=m;simp only[vldB]at h;have nl:∀{s:B},nol s=true->s=[]:=fun h=>y6.1 h;cases h1:eqi k 1
 case true=>
  rw[h1]at h;simp only[cond_true,ab,zkc,decide_eq_true_eq]at h
  grind[za7]
 case false=>
 rw[h1]at h;cases h2:eqi k 2
 case true=>
  rw[h2]at h;simp only[cond_true,cond_false,ab,zkc]at h
  grind[za7]
 case false=>
 rw[h2]at h;cases h3:eqi k 3
 case true=>
  rw[h3]at h;simp only[cond_true,cond_false,ab]at h
  grind[za7]
 case false=>
 rw[h3]at h;cases h4:(eqi k 4 || eqi k 5)
 case true=>
  rw[h4]at h;simp only[cond_true,cond_false,ab]at h;obtain⟨a,d0,d1,d2,d3,d5⟩:=h;rw[nl d0,nl d1,nl d2,nl d3,za7.1 d5];refine .inr (.inr (.inr (.inl ⟨k,(fr,to),rfl, ?_,a⟩)))
  grind[za7]
 case false=>
 rw[h4]at h;cases h6:eqi k 6
 case true=>
  rw[h6]at h;simp only[cond_true,cond_false,ab,zkc]at h
  grind[za7]
 grind
theorem zwu{s:Sp}(h:y08 s=true):s.1.length<=65535/\s.2.length<=65535:=by simp only[y08,ab,decide_eq_true_eq]at h;omega
theorem zti{a b:B}(h:zyx a b=true):(1<=a.length/\a.length<=200)/\1<=b.length/\b.length<=200:=by simp only[zyx,ab,zkc]at h;omega
end Ds
namespace Ds.Nv
open Go Go.Dv Ds
set_option maxRecDepth 100000
variable [Fuel]
theorem yo7(N:Nat)(s:Z0):znb N s=some (emptyB s):=by simp only[znb,emptyB];cases eqs s.2 []<;>rfl
theorem yjl(N:Nat)(k p:B):z6a N k p=some (p.isPrefixOf k):=by
 simp only[z6a,<-yn1];by_cases h:p.length<=k.length
 ·rw[W8 (by simp;omega),gd_t (by simp;omega),y7a];simp[h]
 ·rw[X5 (by simp;omega)];simp[h]
theorem yzc(N:Nat)(s:Z0)(k:B):zvt N s k=some (hasB s k):=by simp only[zvt,hasB];cases lts k s.1<;>cases eqs s.2 []<;>rfl
section one
variable {n L:Nat} {t:List Pr} (h:Ok n L t) (hn:n+4<NN) (hL:L<1000000)
include h hn
include hL
end one
theorem ylz(N:Nat)(a b:B):∃r:Int,zb6 N a b=some r/\decide (r<0)=lessB a b:=by
 simp only[zb6,lessB];cases e:eqs a b
 ·cases e1:eqs a []
  ·cases e2:eqs b []
   ·simp only[cond_false,zaf,z8v,z84,aG];cases e3:lts a b
    ·simp only[cond_false];cases (!(false || eqs a b))
     ·exact⟨0,rfl,rfl⟩
     ·exact⟨1,rfl,rfl⟩
    ·exact⟨-1,rfl,rfl⟩
   ·exact⟨-1,rfl,rfl⟩
  ·exact⟨1,rfl,rfl⟩
 ·have:=y6.1 e;subst this;refine⟨0,rfl, ?_⟩;rw[z12];cases eqs a []<;>rfl
section said
variable {m:Mg} (hm:Good m)
include hm
end said
section keys
variable {t:List Pr}
end keys
section laws
variable {t:List Pr} (h:Ok 12 7 t)
include h
end laws
theorem ykp(N:Nat)(n lo hi:Int):zu7 N n lo hi=some (inR n lo hi):=by simp only[zu7,zd0];rfl
theorem yt0(N:Nat)(s:Sp):zwe N s=some (y08 s):=by
 have h:decide ((bif decide ((s.1.length:Int)<(s.2.length:Int))then(s.2.length:Int)else(s.1.length:Int))<=(65535:Int))=(decide ((s.1.length:Int)<=65535)&&decide ((s.2.length:Int)<=65535)):=by
  rw[cf];by_cases q:(s.1.length:Int)<(s.2.length:Int)
  ·rw[decide_eq_true q];simp only[cond_true,decide_eq_true_eq,ab];omega
  ·rw[decide_eq_false q];simp only[cond_false,decide_eq_true_eq,ab];omega
 simp only[zwe,yo7,h,zd0,y08]
theorem yos(N:Nat)(a b:B):zr9 N a b=some (zyx a b):=by simp only[zr9,ykp,za0,yjl,zd0,zyx]
theorem yoy(m:Mg):zra NN m=some (vldB m):=by
 simp only[zra,zkj,vldB];cases h1:eqi m.1 1
 case true=>
  simp only[cond_true,zq1,zrv,ykp,zd0,z09,z84,yaw,aR,bv,dV]
 case false=>
 cases h2:eqi m.1 2
 case true=>
  simp only[cond_true,cond_false,zq5,zrw,ykp,zd0,z09,z84,yaw,aR,bv,y4r 0]
 case false=>
 cases h3:eqi m.1 3
 case true=>
  simp only[cond_true,cond_false,zmm,zq4,yt0,zd0,z09,z84,yaw,aR,bv,y4r 0]
 case false=>
 cases h4:eqi m.1 4
 case true=>
  simp only[cond_true,cond_false,zmk,zq3,yos,zd0,z09,z84,yaw,aR,bv,y4r 0,d9]
 case false=>
 cases h5:eqi m.1 5
 case true=>
  simp only[cond_true,cond_false,zjf,zmp,yos,zd0,z09,z84,yaw,aR,bv,y4r 0,Bool.or_true]
 case false=>
 cases h6:eqi m.1 6
 case true=>
  simp only[cond_true,cond_false,zj9,zmi,yt0,ykp,zd0,z09,z84,yaw,aR,bv,eg,dV]
 case false=>simp only[cond_false,eg]
theorem yri(N:Nat)(v:Int):∀(w n:Nat) (out:List Int),w<n->w<=8->out.length+w<1000000000->z4p N n v ((w:Int)-1) out=some ((),((),(out++bytes v w,())))
 | _,0,_,h,_,_=>absurd h (ae _)
 | 0,n+1,out,_,_,_=>by rw[z9u];simp only[g8];rw[X5 (by decide)];simp[bytes]
 | w+1,n+1,out,hn,hw,hl=>by
  have e0:((w+1:Nat):Int)-1=(w:Int):=by omega
  have e1:aa .i64 ((w:Int)-(1:Int))=(w:Int)-1:=w64 (by omega) (by omega);have e2:decide (0<=aa .i64 ((8:Int)*(w:Int)))=true:=by rw[w64 (by omega) (by omega)];simp;omega
  rw[e0,z9u];simp only[g8,yrd v w (by omega),e1];rw[W8 (by simp),gd_t e2,gd_t (Y9 (by omega) (by omega)),yri N v w n _ (by omega) (by omega) (by simp;omega)];simp[bytes]
theorem wnum(v:Int)(w:Nat)(hw:w<=8)(out:List Int)(hl:out.length<100000000):z1k NN v (w:Int) out=some ((),((),(out++bytes v w,()))):=by have e1:aa .i64 ((w:Int)-(1:Int))=(w:Int)-1:=w64 (by omega) (by omega);simp only[z1k,e1,yri NN v w NN out (by have:=W3;omega) hw (by omega)]
theorem y06{s:B}(hs:s.length<100000)(out:List Int)(hl:out.length<10000000):w9 NN s out=some ((),((),(out++z6l s,()))):=by have h:=wnum (s.length:Int) 2 (by omega) out (by omega);simp only[w9,show((2:Nat):Int)=2 from rfl]at h|-;simp only[h];rw[gd_t (Y9 (by simp[K2,ztg];omega) (by omega))];simp[z6l]
theorem yp6(m:Mg):zrb NN m=some (zub m):=by
 simp only[zrb,yoy,zub];cases h:vldB m
 ·rfl
 ·simp only[aG,cond_false,cond_true];have n4:=fun(v:Int) out hl=>wnum v 4 (by omega) out hl;simp only[show((4:Nat):Int)=4 from rfl]at n4;rcases vld_cases h with⟨k,v,n,rfl,h1,h2,h3,h4,h5⟩ | ⟨k,rfl,h1,h2⟩ | ⟨s,rfl,h1⟩ | ⟨k,e,rfl,hk,h1⟩ | ⟨s,n,rfl,h1,h2,h3⟩
  ·have e:zkj NN (zu6 k v n)=some (.inl (zu6 k v n)):=rfl;simp only[e,zjb];rw[y06 (by omega) _ (by simp)];simp only;rw[y06 (by omega) _ (by simp[z8];omega)];simp only;rw[n4 _ _ (by simp[z8];omega)];simp[z3f,y10]
  ·have e:zkj NN (y4a k)=some (.inr (.inl (y4a k))):=rfl;simp only[e,zje];rw[y06 (by omega) _ (by simp)];rfl
  ·have e:zkj NN (zen s)=some (.inr (.inr (.inl (zen s)))):=rfl;have:=zwu h1;simp only[e,z8b];rw[y06 (by omega) _ (by simp)];simp only;rw[y06 (by omega) _ (by simp[z8];omega)];simp only[aU];rfl
  ·have:=zti h1;rcases hk with rfl | rfl
   ·have e':zkj NN (mv 4 e)=some (.inr (.inr (.inr (.inl (mv 4 e))))):=rfl;simp only[e',z8a];rw[y06 (by omega) _ (by simp)];simp only;rw[y06 (by omega) _ (by simp[z8];omega)];simp only[aU];rfl
   ·have e':zkj NN (mv 5 e)=some (.inr (.inr (.inr (.inr (.inl (mv 5 e)))))):=rfl;simp only[e',zes,z8a];rw[y06 (by omega) _ (by simp)];simp only;rw[y06 (by omega) _ (by simp[z8];omega)];simp only[aU];rfl
  ·have e:zkj NN (zo9 s n)=some (.inr (.inr (.inr (.inr (.inr (.inl (zo9 s n))))))):=rfl;have:=zwu h1;simp only[e,zer,z8b];rw[y06 (by omega) _ (by simp)];simp only;rw[y06 (by omega) _ (by simp[z8];omega)];simp only;rw[n4 _ _ (by simp[z8];omega)];show some _=some (_::(z6l s.1++z6l s.2++bytes n 4));simp
theorem UI(s:B):z2j (U2 s)=s:=by
 unfold U2 z2j;rw[dp]
 conv=>rhs;rw[<-List.map_id s]
 refine List.map_congr_left fun x hx=> ?_;simp only[Function.comp,id,cG];exact UInt8.ofNat_toNat
theorem look{α R:Type}{xs:List α}{L:Nat->Int->Option R}(p:α->Bool)(yes no:R)
  (hend:∀n,L (n+1) (xs.length:Int)=some yes)
  (hstep:∀n pre x post,xs=pre++x::post->L (n+1) (pre.length:Int)=bif p x then L n ((pre++[x]).length:Int)else some no):
  ∀post pre n,xs=pre++post->post.length<n->L n (pre.length:Int)=some (bif post.all p then yes else no)
 | _,_,0,_,h=>absurd h (ae _)
 | [],pre,n+1,hx,_=>by
  have:xs=pre:=by simpa using hx
  subst this;exact hend n
 | x::post,pre,n+1,hx,hn=>by
  rw[hstep n pre x post hx];cases hp:p x
  ·simp[hp]
  ·rw[cond_true,look p yes no hend hstep post (pre++[x]) n (by rw[hx];simp) (by simpa using hn)];simp[hp]
theorem x39{α R:Type}{xs:List α}{L:Nat->Int->Option R}(p:α->Bool)(yes no:R)
  (hend:∀n,L (n+1) (xs.length:Int)=some yes)
  (hstep:∀n pre x post,xs=pre++x::post->L (n+1) (pre.length:Int)=bif p x then L n ((pre++[x]).length:Int)else some no)
  {n:Nat} (hn:xs.length<n):L n 0=some (bif xs.all p then yes else no):=look p yes no hend hstep xs [] n rfl hn
theorem x38{α R:Type}{xs:List α}{L:Nat->Int->Option R}(p:α->Bool)(fin:R->Bool)
  (hend:∀n,∃r,L (n+1) (xs.length:Int)=some r/\fin r=true)
  (hstep:∀n pre x post,xs=pre++x::post->(p x=true->L (n+1) (pre.length:Int)=L n ((pre++[x]).length:Int))/\(p x=false->∃r,L (n+1) (pre.length:Int)=some r/\fin r=false)):
  ∀post pre n,xs=pre++post->post.length<n->∃r,L n (pre.length:Int)=some r/\fin r=post.all p
 | _,_,0,_,h=>absurd h (ae _)
 | [],pre,n+1,hx,_=>by
  have:xs=pre:=by simpa using hx
  subst this;exact hend n
 | x::post,pre,n+1,hx,hn=>by
  obtain⟨h1,h2⟩:=hstep n pre x post hx;cases hp:p x
  ·obtain⟨r,h,hf⟩:=h2 hp;exact⟨r,h,by simp[hp,hf]⟩
  ·rw[h1 hp];obtain⟨r,h,hf⟩:=x38 p fin hend hstep post (pre++[x]) n (by rw[hx];simp) (by simpa using hn);exact⟨r,h,by simp[hp,hf]⟩
theorem zia{α:Type}(pre:List α)(x:α)(h:(pre++[x]).length<1000000000):aa .i64 ((pre.length:Int)+(1:Int))=((pre++[x]).length:Int):=U1 (q:=x) (by simp at h;omega)
def storB(p:Pr):Bool:=inR p.1.length 1 65535&&(decide ((p.2.1.length:Int)<=64)&&inR p.2.2 0 1000000000)
theorem x0m(N:Nat)(p:Pr):zhw N p=some (storB p):=by
 have h1:inR (p.1.length:Int) 1 65535=(decide ((1:Int)<=(p.1.length:Int))&&decide ((p.1.length:Int)<=65535)):=by rw[cf,zkc];simp
 have h2:inR p.2.2 0 1000000000=(decide ((0:Int)<=p.2.2)&&decide (p.2.2<=1000000000)):=by rw[cf,zkc];simp
 simp only[zhw,storB,h1,h2];cases decide ((1:Int)<=(p.1.length:Int))<;>cases decide ((p.1.length:Int)<=65535)<;>cases decide ((p.2.1.length:Int)<=64)<;>cases decide ((0:Int)<=p.2.2)<;>simp
def upB:List Pr->Bool
 | []=>true
 | p::r=>match r with | []=>true | q::_=>lts p.1 q.1&&upB r
theorem x0h(p q:Pr)(r:List Pr):upB (p::q::r)=(lts p.1 q.1&&upB (q::r)):=rfl
theorem yy9(N:Nat):∀(post pre:List Pr) (p:Pr) (n:Nat),post.length<n->Big (pre++p::post).length->z8e N n (pre++p::post) ((pre.length:Int)+1)=some (bif upB (p::post)then .inr ((),())else .inl (false,()))
 | [],pre,p,n+1,_,hb=>by rw[zc3,z3t,X5 (by simp)];rfl
 | q::post,pre,p,n+1,hn,hb=>by
  have hb':pre.length+(post.length+1+1)<1000000000:=by simpa[Big] using hb
  have e:aa .i64 ((pre.length:Int)+1-1)=(pre.length:Int):=by rw[w64 (by omega) (by omega)];omega
  have e2:((pre.length:Int)+1)=((pre++[p]).length:Int):=by simp
  have e3:pre++p::q::post=(pre++[p])++q::post:=by simp
  have hl:(pre++p::q::post).length=pre.length+(post.length+1+1):=by simp
  rw[zc3,z3t,W8 (by simp;omega),e,gd_t (V7 (by omega) (by omega)),V5];simp only;rw[gd_t (V7 (by omega) (by omega)),e2,e3,V5,x0h,zia (pre++[p]) q (by simp;omega)];cases h:lts p.1 q.1
  ·rfl
  ·have ih:=yy9 N post (pre++[p]) q n (by simpa using hn) (by rw[<-e3];exact hb);simp only[aG,cond_false,aR];rw[<-ih];congr 1;simp;omega
theorem x4h{t:List Pr}(h:t.length<100000):zov NN t=some (upB t):=by
 unfold zov;cases t with
 | nil=>obtain⟨n,hn⟩:∃n,NN=n+1:=⟨NN-1,by have:=W3;omega⟩;rw[show z8e NN NN=z8e NN (n+1)from congrArg _ hn,zc3];rfl
 | cons p r=>have:=yy9 NN r [] p NN (by simp at h;have:=W3;omega) (by simp only[Big];simp at h|-;omega);simp only[ah,aJ]at this;rw[show(((0:Nat):Int)+1)=1 from rfl]at this;rw[this];cases upB (p::r)<;>rfl
def yh6(s:Sp)(p:Pr):Bool:=storB p&&hasB s p.1
theorem x5x(N:Nat)(s:Sp)(p:Pr):zhz N p s.1 s.2=some (!(yh6 s p)):=by simp only[zhz,x0m,yh6];rw[yzc];cases storB p<;>cases hasB s p.1<;>rfl
theorem idxF{α:Type}{xs:List α}{L:Nat->Int->Option ((Int×Unit)⊕(Unit×Unit))}(p:α->Bool)
  (hend:∀n,L (n+1) (xs.length:Int)=some (.inr ((),())))
  (hstep:∀n pre x post,xs=pre++x::post->L (n+1) (pre.length:Int)=bif p x then some (.inl ((pre.length:Int),()))else L n ((pre++[x]).length:Int))
  {n:Nat} (hn:xs.length<n):
  (∃j:Int,L n 0=some (.inl (j,()))/\decide (0<=j)=true/\xs.any p=true)\/L n 0=some (.inr ((),()))/\xs.any p=false:=by
 have H:=x38 (xs:=xs) (L:=L) (fun x=> !(p x)) (fun r=>match r with | .inl q=> !(decide (0<=q.1)) | .inr _=>true)
  (fun n=>⟨_,hend n,rfl⟩) (fun n pre x post hx=>⟨fun h=>by rw[hstep n pre x post hx,show p x=false by simpa using h];rfl,fun h=>⟨_,by rw[hstep n pre x post hx,show p x=true by simpa using h];rfl,by simp⟩⟩) xs [] n rfl hn
 obtain⟨r,h1,h2⟩:=H;have e:xs.any p= !(xs.all fun x=> !(p x)):=by rw[dG];simp
 simp only[aJ]at h1;rw[show((0:Nat):Int)=0 from rfl]at h1;rw[e,<-h2];cases r with
 | inl q=>
  cases hq:decide (0<=q.1)
  ·exfalso;have:∀post pre n,xs=pre++post->∀k,L n (pre.length:Int)=some (.inl (k,()))->post.length<n->0<=k:=by
    intro post;induction post with
    | nil=>
     intro pre n hx k hk hn;cases n with
     | zero=>exact absurd hn (ae _)
     | succ n=>
      have:xs=pre:=by simpa using hx
      subst this;rw[hend n]at hk;cases hk
    | cons x post ih=>
     intro pre n hx k hk hn;cases n with
     | zero=>exact absurd hn (ae _)
     | succ n=>
      rw[hstep n pre x post hx]at hk;cases hp:p x
      ·rw[hp]at hk;exact ih (pre++[x]) n (by rw[hx];simp) k hk (by simpa using hn)
      ·rw[hp]at hk;cases hk;omega
   have h0:=this xs [] n rfl q.1 (by rw[<-h1];rfl) hn;simp at hq;omega
  ·exact .inl ⟨q.1,h1,hq,by simp[hq]⟩
 | inr q=>exact .inr ⟨h1,rfl⟩
theorem ywo(s:Sp){t:List Pr}(h:t.length<100000):U6 NN t s.1 s.2=some (t.any fun p=> !(yh6 s p)):=by
 have H:=idxF (xs:=t) (L:=fun n i=>U5 NN n t s.1 s.2 (t.length:Int) i) (fun p=> !(yh6 s p)) (fun n=>by
   simp only[G5,X9];rw[X5 (by simp)])
  (fun n pre x post hx=>by
   have hl:t.length=pre.length+(post.length+1):=by rw[hx];simp
   simp only[G5,X9];rw[W8 (by simp;omega),gd_t (V7 (by omega) (by omega)),zia pre x (by simp;omega),show rdL t (pre.length:Int) X6=x by rw[hx];exact V5,x5x])
  (n:=NN) (by have:=W3;omega)
 unfold U6 J2;rcases H with⟨j,h1,h2,h3⟩ | ⟨h1,h3⟩<;>rw[h1]<;>simp only[h3]
 ·rw[h2]
 ·rfl
def upR:List UInt8->List UInt8
 | []=>[]
 | b::r=>bif b==255 then upR r else(b+1)::r
def preS(p:B):Sp:=(p,(upR p.reverse).reverse)
theorem yyj:∀(r:List UInt8) (n:Nat) (a:B),r.length<n->r.length<1000000->∃m,zet NN n a (U2 r.reverse)=some ((a,((),())),((),(U2 m.reverse,())))/\m.length<=r.length/\upR r=upR m/\(∀b q,m=b::q->b≠255)
 | [],n+1,a,_,_=>⟨[],by rw[zjn];rfl,ai _,rfl,fun _ _ h=>by cases h⟩
 | b::r,n+1,a,hn,hl=>by
  have hn':r.length<n:=by simpa using hn
  have hl':r.length+1<1000000:=by simpa using hl
  have e0:U2 (b::r).reverse=U2 r.reverse++[(b.toNat:Int)]:=by simp[U2]
  have e1:(U2 (b::r).reverse).length=r.length+1:=by rw[e0];simp[U2]
  have e2:aa .i64 (((U2 (b::r).reverse).length:Int)-1)=((U2 r.reverse).length:Int):=by rw[e1,w64 (by omega) (by omega)];simp[U2]
  have e3:(U2 r.reverse).length=r.length:=by simp[U2]
  rw[zjn,z7u];simp only;rw[W8 (by rw[e1];simp),e2,gd_t (V7 (by omega) (by omega)),e0,V5];by_cases hb:b=255
  ·subst hb;rw[W8 (by rfl),gd_t (by rw[<-e0,e1,e3];simp;omega)];obtain⟨m,h1,h2,h3,h4⟩:=yyj r n a hn' (by omega);refine⟨m, ?_,by simp;omega,by rw[<-h3];rfl,h4⟩;rw[<-h1];congr 1;simp
  ·rw[X5 (G6 fun h=>hb (by apply UInt8.toNat_inj.1;simp;omega))];exact⟨b::r,by rw[e0],ai _,rfl,fun c q h=>by cases h;exact hb⟩
theorem ytf(q:B)(b:UInt8):z2j (U2 q++[aa .u8 ((b.toNat:Int)+1)])=q++[b+1]:=by
 have h1:z2j (U2 q++[aa .u8 ((b.toNat:Int)+1)])=z2j (U2 q)++z2j [aa .u8 ((b.toNat:Int)+1)]:=by simp[z2j]
 rw[h1,UI];congr 1;simp only[z2j,aC,List.map_nil];congr 1;apply UInt8.toNat_inj.1;rw[IntKind.wrap_u8];have:=b.toNat_lt;simp;omega
theorem yiw(p:B)(hp:p.length<100000):z91 NN p=some (preS p):=by
 obtain⟨m,h1,h2,h3,h4⟩:=yyj p.reverse NN p (by have:=W3;simp only[cx];omega) (by simp only[cx];omega);rw[di]at h1;unfold z91 preS;rw[gd_p (by simp only[maxB];omega),h1,h3];simp only;cases m with
 | nil=>rfl
 | cons b q=>
  have hb:=h4 b q rfl;have e0:U2 (b::q).reverse=U2 q.reverse++[(b.toNat:Int)]:=by simp[U2]
  have e1:(U2 q.reverse).length=q.length:=by simp[U2]
  have hq:q.length+1<=p.length:=by simpa using h2
  have e2:aa .i64 (((U2 q.reverse++[(b.toNat:Int)]).length:Int)-1)=((U2 q.reverse).length:Int):=by rw[w64 (by simp[e1];try omega) (by simp[e1];try omega)];simp
  rw[e0,W8 (by simp;try omega),e2,gd_t (V7 (by omega) (by simp;try omega)),V5,gd_t (V7 (by omega) (by simp;try omega)),yjr,ytf];simp only[upR];rw[X5 (by simpa using hb)];simp
theorem ykz{pre post:B}{b:UInt8}:bt (pre++b::post) (pre.length:Int)=(b.toNat:Int):=by simp[bt]
theorem yrx:∀(r tl:B) (n:Nat),r.length<n->r.length<1000000->∃m t,z07 NN n (r.reverse++tl) (r.length:Int)=some (((r.reverse++tl),((),(m.length:Int))),((),()))/\r.reverse++tl=m.reverse++t/\m.length<=r.length/\upR r=upR m/\(∀b q,m=b::q->b≠255)
 | [],tl,n+1,_,_=>⟨[],tl,by rw[z71];rfl,rfl,ai _,rfl,fun _ _ h=>by cases h⟩
 | b::r,tl,n+1,hn,hl=>by
  have hn':r.length<n:=by simpa using hn
  have hl':r.length+1<1000000:=by simpa using hl
  have e0:(b::r).reverse++tl=r.reverse++b::tl:=by simp
  have e1:((b::r).length:Int)=(r.length:Int)+1:=by simp
  have e2:aa .i64 (((b::r).length:Int)-1)=(r.reverse.length:Int):=by rw[e1,w64 (by omega) (by omega)];simp
  rw[z71,z38,W8 (by simp;try omega),e2,e0,gd_t (V7 (by omega) (by simp;try omega)),ykz];simp only;by_cases hb:b=255
  ·subst hb;rw[W8 (by rfl)];obtain⟨m,t,h1,h2,h2',h3,h4⟩:=yrx r (255::tl) n hn' (by omega);refine⟨m,t, ?_,h2,by simp;omega,by rw[<-h3];rfl,h4⟩;rw[<-h1];simp
  ·rw[X5 (G6 fun h=>hb (by apply UInt8.toNat_inj.1;simp;omega))];exact⟨b::r,tl,rfl,by simp,ai _,rfl,fun c q h=>by cases h;exact hb⟩
theorem ycq(p:B)(hp:p.length<100000):Q5 NN p=some (preS p):=by
 obtain⟨m,t,h1,h2,h2',h3,h4⟩:=yrx p.reverse [] NN (by have:=W3;simp only[cx];omega) (by simp only[cx];omega);rw[di,aj,cx]at h1;rw[di,aj]at h2;unfold Q5 preS;rw[h1,h3];simp only;cases m with
 | nil=>rfl
 | cons b q=>
  have hb:=h4 b q rfl;have hq:q.length+1<=p.length:=by simpa using h2'
  have e2:aa .i64 (((b::q).length:Int)-1)=(q.reverse.length:Int):=by rw[w64 (by simp;try omega) (by simp;try omega)];simp
  have hp':p=q.reverse++b::t:=by rw[h2];simp
  have hc:cut2 p 0 (q.reverse.length:Int)=q.reverse:=by rw[y7a,hp'];simp
  have hbt:bt p (q.reverse.length:Int)=(b.toNat:Int):=by rw[hp'];exact ykz
  rw[X5 (G6 (by simp;try omega)),e2,gd_t (by simp;try omega),hc,hbt,gd_t (V7 (by omega) (by simp;try omega))];rw[gd_p (by simp[z2j,maxS];omega)];have:=ytf q.reverse b;have h5:z2j (U2 q.reverse++[aa .u8 ((b.toNat:Int)+1)])=q.reverse++z2j [aa .u8 ((b.toNat:Int)+1)]:=by
   have:z2j (U2 q.reverse++[aa .u8 ((b.toNat:Int)+1)])=z2j (U2 q.reverse)++z2j [aa .u8 ((b.toNat:Int)+1)]:=by simp[z2j]
   rw[this,UI]
  rw[h5]at this;simp only[upR];rw[X5 (by simpa using hb),this];simp
def wrS(m:Mg):List Sp:=bif eqi m.1 1 || eqi m.1 2 then[(m.2.1,m.2.1++[0])]else bif eqi m.1 4 then[preS m.2.2.2.2.1,preS m.2.2.2.2.2.1]else bif eqi m.1 5 then[preS m.2.2.2.2.2.1]else[m.2.2.2.1]
def rdsS(m:Mg):List Sp:=bif eqi m.1 4 || eqi m.1 5 then[preS m.2.2.2.2.1]else bif eqi m.1 6 then[m.2.2.2.1]else[]
abbrev LenM(m:Mg):Prop:=m.2.1.length<100000/\m.2.2.2.2.1.length<100000/\m.2.2.2.2.2.1.length<100000
theorem x50(k:B)(h:k.length<100000):zvs NN k=some (k,k++[0])/\z8q NN k=some (k,k++[0]):=by
 constructor
 ·unfold zvs;rw[gd_p (by simp[maxS];omega)]
 ·unfold z8q;rw[gd_p (by simp[maxS];omega)]
theorem kind_cases{m:Mg}(h:vldB m=true):m.1=1\/m.1=2\/m.1=3\/m.1=4\/m.1=5\/m.1=6:=by
 unfold vldB at h;by_cases h1:m.1=1
 ·exact .inl h1
 rw[X5 (G6 h1)]at h;by_cases h2:m.1=2
 ·exact .inr (.inl h2)
 rw[X5 (G6 h2)]at h;by_cases h3:m.1=3
 ·exact .inr (.inr (.inl h3))
 rw[X5 (G6 h3)]at h;by_cases h4:m.1=4
 ·exact .inr (.inr (.inr (.inl h4)))
 by_cases h5:m.1=5
 ·exact .inr (.inr (.inr (.inr (.inl h5))))
 by_cases h6:m.1=6
 ·exact .inr (.inr (.inr (.inr (.inr h6))))
 simp[G6 h4,G6 h5,G6 h6]at h
theorem ywl{m:Mg}(h:vldB m=true)(hl:LenM m):zx7 NN m=some (rdsS m)/\z57 NN m=some (rdsS m)/\zt3 NN m=some (wrS m)/\G3 NN m=some (wrS m):=by
 obtain⟨k,a1,a2,a3,a4,a5,a6⟩:=m;obtain⟨l1,l2,l3⟩:=hl;have o:=x50 a1 l1;have p4:=yiw a4 l2;have p5:=yiw a5 l3;have r4:=ycq a4 l2;have r5:=ycq a5 l3
 rcases kind_cases h with e | e | e | e | e | e<;>(simp only at e;subst e)<;>
  simp[zx7,zkj,z57,zt3,G3,rdsS,wrS,eqi,zq2,zq6,zmn,zml,zjg,zja,zmj,zmo,zjd,zjc,zga,zg9,o,p4,p5,r4,r5]
theorem zem{s:B}(h:nol s=true):s.length=0:=by rw[y6.1 (show eqs s []=true from h)];rfl
theorem x0g{m:Mg}(h:vldB m=true):LenM m:=by
 obtain⟨k,a1,a2,a3,a4,a5,a6⟩:=m;have hk:=kind_cases h;simp only[vldB]at h;rcases hk with e | e | e | e | e | e<;>(simp only at e;subst e)<;>simp[eqi,zkc]at h
 ·have:=zem h.2.2.2.1;have:=zem h.2.2.2.2;exact⟨by simp only;omega,by simp only;omega,by simp only;omega⟩
 ·have:=zem h.2.2.2.2.1;have:=zem h.2.2.2.2.2.1;exact⟨by simp only;omega,by simp only;omega,by simp only;omega⟩
 ·have:=zem h.2.1;have:=zem h.2.2.2.1;have:=zem h.2.2.2.2.1;exact⟨by simp only;omega,by simp only;omega,by simp only;omega⟩
 ·have:=zti h.1;have:=zem h.2.1;exact⟨by simp only;omega,by simp only;omega,by simp only;omega⟩
 ·have:=zti h.1;have:=zem h.2.1;exact⟨by simp only;omega,by simp only;omega,by simp only;omega⟩
 ·have:=zem h.2.1;have:=zem h.2.2.2.1;have:=zem h.2.2.2.2;exact⟨by simp only;omega,by simp only;omega,by simp only;omega⟩
def covB(a b:Sp):Bool:=emptyB b || (hasB a b.1&& !(lessB a.2 b.2))
theorem x5c(N:Nat)(a b:Sp):zow N a b=some (covB a b):=by
 obtain⟨r,h1,h2⟩:=ylz N a.2 b.2;have h3:decide ((0:Int)<=r)= !(lessB a.2 b.2):=by rw[<-h2];by_cases h:r<0<;>simp[h]<;>omega
 simp only[zow,yo7,yzc,h1,covB,h3];cases emptyB b<;>cases hasB a b.1<;>rfl
theorem x5w(N:Nat)(s x:Sp):zhy N x s.1 s.2=some (!(covB s x)):=by simp only[zhy];rw[x5c]
theorem ymj(s:Sp){t:List Sp}(h:t.length<100000):V0 NN t s.1 s.2=some (t.any fun p=> !(covB s p)):=by
 have H:=idxF (xs:=t) (L:=fun n i=>U4 NN n t s.1 s.2 (t.length:Int) i) (fun p=> !(covB s p)) (fun n=>by
   simp only[G4,X8];rw[X5 (by simp)])
  (fun n pre x post hx=>by
   have hl:t.length=pre.length+(post.length+1):=by rw[hx];simp
   simp only[G4,X8];rw[W8 (by simp;omega),gd_t (V7 (by omega) (by omega)),zia pre x (by simp;omega),show rdL t (pre.length:Int) Y7=x by rw[hx];exact V5,x5w])
  (n:=NN) (by have:=W3;omega)
 unfold V0 J1;rcases H with⟨j,h1,h2,h3⟩ | ⟨h1,h3⟩<;>rw[h1]<;>simp only[h3]
 ·rw[h2]
 ·rfl
def insB(s:Sp)(m:Mg):Bool:=(rdsS m++wrS m).all (covB s)
def msgB(s:Sp)(m:Mg):Bool:=vldB m&&insB s m
theorem x0o(m:Mg):(rdsS m).length<=1/\(wrS m).length<=2:=by
 simp only[rdsS,wrS];constructor
 ·cases (eqi m.1 4 || eqi m.1 5)<;>cases eqi m.1 6<;>simp
 ·cases (eqi m.1 1 || eqi m.1 2)<;>cases eqi m.1 4<;>cases eqi m.1 5<;>simp
theorem ye0{α:Type}(l:List α)(f:α->Bool):(l.any fun x=> !(f x))= !(l.all f):=by rw[dG]
theorem x5v(s:Sp)(m:Mg):z0o NN m s.1 s.2=some (!(msgB s m)):=by
 unfold z0o msgB insB;rw[yoy];simp only;cases hv:vldB m
 ·rfl
 ·obtain⟨h1,_,h2,_⟩:=ywl hv (x0g hv);have hl:=x0o m;rw[h1,h2];simp only[aG,cond_false];rw[ymj s (by omega)];simp only;rw[ymj s (by omega),ye0,ye0,List.all_append];cases (rdsS m).all (covB s)<;>simp
theorem x0y(s:Sp){t:List Mg}(h:t.length<100000000):W7 NN t s.1 s.2=some (t.any fun p=> !(msgB s p)):=by
 have H:=idxF (xs:=t) (L:=fun n i=>W6 NN n t s.1 s.2 (t.length:Int) i) (fun p=> !(msgB s p)) (fun n=>by
   simp only[K5,X2];rw[X5 (by simp)])
  (fun n pre x post hx=>by
   have hl:t.length=pre.length+(post.length+1):=by rw[hx];simp
   simp only[K5,X2];rw[W8 (by simp;omega),gd_t (V7 (by omega) (by omega)),zia pre x (by simp;omega),show rdL t (pre.length:Int) K3=x by rw[hx];exact V5,x5v])
  (n:=NN) (by have:=W3;omega)
 unfold W7 Q0;rcases H with⟨j,h1,h2,h3⟩ | ⟨h1,h3⟩<;>rw[h1]<;>simp only[h3]
 ·rw[h2]
 ·rfl
abbrev Nd:=Z6
def pivB(lo hi:B):List B->Bool
 | []=>true
 | p::r=>lts lo p&&((eqs hi [] || lts p hi)&&pivB p hi r)
theorem ysg(hi:B)(b4:Nd)(b9:B):∀(post pre:List B) (last:B) (n:Nat),post.length<n->Big (pre++post).length->
  zhx NN n last (pre++post) ((pre++post).length:Int) (pre.length:Int) b4 (b9,hi)=some (bif pivB last hi post then .inr (((),()),(b4,((b9,hi),())))else .inl (false,()))
 | [],pre,last,n+1,_,_=>by rw[zm4,z61,y48];rfl
 | p::post,pre,last,n+1,hn,hb=>by
  have hb':pre.length+(post.length+1)<1000000000:=by simpa[Big] using hb
  rw[zm4,z61,Q7,cond_true,gd_t U0,V5];simp only[yzp];rw[zia pre p (by simp;omega),Q3];have ih:=ysg hi b4 b9 post (pre++[p]) p n (by simpa using hn) (by rw[<-Q3];exact hb);rw[ih];simp only[pivB];cases lts last p<;>cases eqs hi []<;>cases lts p hi<;>simp
def rngB(r:z00):Bool:=decide (0<=r.1)&&(decide (r.1<=r.2)&&decide (r.2<=1000000000000000))
def sumB(s:X0):Bool:=rngB s.1&&rngB s.2
theorem ypv(a b:Int):decide (a<b)= !(decide (b<=a)):=by by_cases h:a<b<;>simp[h]<;>omega
theorem x0f(s:X0):zhv NN s=some (sumB s):=by
 have H:=x39 (xs:=[s.1,s.2]) (L:=fun n i=>zbl NN n (([s.1,s.2]:List z00).length:Int) i [s.1,s.2]) rngB (.inr ((),())) (.inl (false,())) (fun n=>by
   simp only[zg1,z27];rw[X5 (by simp)])
  (fun n pre x post hx=>by
   have hl:([s.1,s.2]:List z00).length=pre.length+(post.length+1):=by rw[hx];simp
   have hl2:([s.1,s.2]:List z00).length=2:=rfl;simp only[zg1,z27];rw[W8 (by rw[hl];simp;omega),gd_t (V7 (by omega) (by omega)),zia pre x (by simp;omega),show rdL ([s.1,s.2]:List z00) (pre.length:Int) zb4=x by rw[hx];exact V5];simp only[ypv,rngB];cases decide (0<=x.1)<;>cases decide (x.1<=x.2)<;>cases decide (x.2<=1000000000000000)<;>rfl)
  (n:=NN) (by have:=W3;simp only[ag,aJ];omega)
 unfold zhv;simp only;rw[H];simp only[bc,List.all_nil,bv,sumB];cases rngB s.1<;>cases rngB s.2<;>rfl
def kidB(x:Int×X0):Bool:=inR x.1 0 4095&&sumB x.2
def innB(n:Nd)(s:Sp):Bool:=pivB s.1 s.2 n.2.1&&((n.2.2.1.zip n.2.2.2.1).all kidB&&n.2.2.2.2.all (msgB s))
def yvn(n:Nd)(s:Sp):Bool:=(n.2.1.isEmpty&&(n.2.2.2.1.isEmpty&&n.2.2.2.2.isEmpty))&&(upB n.1&&n.1.all (yh6 s))
def valB(n:Nd)(s:Sp):Bool:=
 bif n.2.2.1.isEmpty then yvn n s else
 (n.1.isEmpty&&(eqi (n.2.2.2.1.length:Int) (n.2.2.1.length:Int)&&eqi (n.2.1.length:Int) ((n.2.2.1.length:Int)-1)))&&innB n s
abbrev SmallN(n:Nd):Prop:=n.1.length<50000/\n.2.1.length<50000/\n.2.2.1.length<50000/\n.2.2.2.1.length<50000/\n.2.2.2.2.length<30000000
theorem x1i(s:Sp)(nd:Nd){kids:List Int}{sums:List X0}(hK:nd.2.2.1=kids)(hS:nd.2.2.2.1=sums)(he:sums.length=kids.length)(hl:kids.length<50000):
  zcv NN NN kids (kids.length:Int) 0 nd s=some (bif (kids.zip sums).all kidB then .inr (((),()),(nd,(s,())))else .inl (false,())):=by
 have hz:(kids.zip sums).length=kids.length:=by rw[List.length_zip,he,Nat.min_self]
 have hk:∀pre x post,kids.zip sums=pre++x::post->rdL kids (pre.length:Int) 0=x.1/\rdL sums (pre.length:Int) z0u=x.2:=fun pre x post hx=>by
  have e1:kids=pre.map (·.1)++x.1::post.map (·.1):=by have:=List.map_fst_zip (l₁:=kids) (l₂:=sums) (by omega);rw[hx]at this;rw[<-this];simp
  have e2:sums=pre.map (·.2)++x.2::post.map (·.2):=by have:=List.map_snd_zip (l₁:=kids) (l₂:=sums) (by omega);rw[hx]at this;rw[<-this];simp
  constructor
  ·have:rdL (pre.map (·.1)++x.1::post.map (·.1)) ((pre.map (·.1)).length:Int) 0=x.1:=V5;rw[ci]at this;rw[e1];exact this
  ·have:rdL (pre.map (·.2)++x.2::post.map (·.2)) ((pre.map (·.2)).length:Int) z0u=x.2:=V5;rw[ci]at this;rw[e2];exact this
 refine x39 (xs:=kids.zip sums) (L:=fun n i=>zcv NN n kids (kids.length:Int) i nd s) kidB _ _ (fun n=>by
  simp only[zm3,z60,hz];rw[X5 (by simp)])
  (fun n pre x post hx=> ?_) (by rw[hz];have:=W3;omega)
 have hl2:kids.length=pre.length+(post.length+1):=by rw[<-hz,hx];simp
 obtain⟨r1,r2⟩:=hk pre x post hx;have h2:inR x.1 0 4095=(!(decide (x.1<0))&& !(decide (4096<=x.1))):=by rw[cf,zkc];simp;omega
 simp only[zm3,z60,hS];rw[W8 (by simp;omega),gd_t (V7 (by omega) (by omega)),r1,gd_t (V7 (by omega) (by omega)),r2,x0f,zia pre x (by simp;omega)];simp only[kidB,h2];cases decide (x.1<0)<;>cases decide (4096<=x.1)<;>cases sumB x.2<;>rfl
theorem isE{α:Type}(l:List α):eqi (l.length:Int) 0=l.isEmpty:=by
 cases l with
 | nil=>rfl
 | cons x r=>simp[eqi];omega
theorem posE{α:Type}(l:List α):decide ((0:Int)<(l.length:Int))= !(l.isEmpty):=by cases l<;>simp
theorem yue{n:Nd}(h:SmallN n)(s:Sp):zt2 NN n s=some (valB n s):=by
 obtain⟨a,b,c,d,e⟩:=n;obtain⟨h1,h2,h3,h4,h5⟩:=h;simp only at h1 h2 h3 h4 h5;unfold zt2 valB;simp only[isE,posE];cases hc:c.isEmpty
 ·simp only[cond_false];cases ha:a.isEmpty
  ·rfl
  ·simp only[aG,cond_false,aR];cases hd:eqi (d.length:Int) (c.length:Int)
   ·rfl
   ·simp only[aG,cond_false,aR]
    have hcl:c.length≠0:=by cases c with
     | nil=>simp at hc
     | cons _ _=>simp
    rw[w64 (by omega) (by omega)];cases hb:eqi (b.length:Int) ((c.length:Int)-1)
    ·rfl
    ·simp only[aG,cond_false,aR];have hd':d.length=c.length:=by have:=za7.1 hd;omega
     unfold zpz;have hp:=ysg s.2 (a,(b,(c,(d,e)))) s.1 b [] s.1 NN (by have:=W3;omega) (by simp only[Big,ah];omega);simp only[ah,aJ]at hp;rw[show((0:Nat):Int)=0 from rfl]at hp;rw[hp];simp only[innB];cases pivB s.1 s.2 b
     ·rfl
     ·simp only[cond_true,aR];rw[x1i s (a,(b,(c,(d,e)))) rfl rfl hd' h3];cases (c.zip d).all kidB
      ·rfl
      ·simp only[cond_true,aR];rw[x0y s (by omega),ye0];simp
 ·simp only[cond_true];have w1:aa .i64 ((b.length:Int)+(d.length:Int))=(b.length:Int)+(d.length:Int):=w64 (by omega) (by omega);have w2:aa .i64 ((b.length:Int)+(d.length:Int)+(e.length:Int))=(b.length:Int)+(d.length:Int)+(e.length:Int):=w64 (by omega) (by omega);simp only[w1,w2,yvn];have e0:eqi ((b.length:Int)+(d.length:Int)+(e.length:Int)) 0=(b.isEmpty&&(d.isEmpty&&e.isEmpty)):=by
   rw[<-isE,<-isE,<-isE,cf];simp only[ab,za7];omega
  rw[e0];cases (b.isEmpty&&(d.isEmpty&&e.isEmpty))
  ·rfl
  ·simp only[cond_true,aR];rw[x4h (by omega)];simp only;cases upB a
   ·rfl
   ·simp only[cond_true,aR];rw[ywo s (by omega),ye0];simp
abbrev allS:Sp:=([],[])
abbrev Huge(n:Nat):Prop:=n<4000000000000
theorem yku{n:Nat}(h:Huge n):fits n 1=true:=ygx (by simp only[maxB];omega) (by simp only[maxB];omega)
theorem ysj(N:Nat)(v:Int):∀(w n:Nat) (out:List Int),w<n->w<=8->Huge (out.length+w)->zbm N n v ((w:Int)-1) out=some ((),(out++bytes v w,()))
 | _,0,_,h,_,_=>absurd h (ae _)
 | 0,n+1,out,_,_,_=>by rw[zg2];simp only[z29];rw[X5 (by decide)];simp[bytes]
 | w+1,n+1,out,hn,hw,hl=>by
  have e0:((w+1:Nat):Int)-1=(w:Int):=by omega
  have e1:aa .i64 ((w:Int)-(1:Int))=(w:Int)-1:=w64 (by omega) (by omega);have e2:aa .i64 ((8:Int)*(w:Int))=((8*w:Nat):Int):=by rw[w64 (by omega) (by omega)];omega
  have hl':out.length+(w+1)<4000000000000:=hl;rw[zg2];simp only[z29];rw[e0,W8 (by simp),gd_t (by rw[e2];simp;omega),yrd v w (by omega),gd_t (yku (by show out.length+1<4000000000000;omega)),e1];have ih:=ysj N v w n (out++[byt v w]) (by omega) (by omega) (by show(out++[byt v w]).length+w<_;simp;omega);rw[ih];simp[bytes]
theorem nnum(v:Int)(w:Nat)(hw:w<=8)(out:List Int)(hl:Huge (out.length+8)):z0b NN v (w:Int) out=some ((),(out++bytes v w,())):=by have hl':out.length+8<4000000000000:=hl;have e1:aa .i64 ((w:Int)-(1:Int))=(w:Int)-1:=w64 (by omega) (by omega);simp only[z0b,e1,ysj NN v w NN out (by have:=W3;omega) hw (by show out.length+w<_;omega)]
theorem ypw(v:Int)(out:List Int)(hl:Huge (out.length+8)):z0b NN v 4 out=some ((),(out++bytes v 4,())):=nnum v 4 (by omega) out hl
theorem x5o(v:Int)(out:List Int)(hl:Huge (out.length+8)):z0b NN v 8 out=some ((),(out++bytes v 8,())):=nnum v 8 (by omega) out hl
theorem yzm{s:B}(out:List Int)(hl:Huge (out.length+s.length+8)):zec NN s out=some ((),(out++z6l s,())):=by have hl':out.length+s.length+8<4000000000000:=hl;have h:=nnum (s.length:Int) 2 (by omega) out (by show out.length+8<_;omega);simp only[zec,show((2:Nat):Int)=2 from rfl]at h|-;simp only[h];rw[gd_t (yku (by show(out++bytes (s.length:Int) 2).length+(U2 s).length<_;simp[K2,ztg];omega))];simp[z6l]
def ycv(p:Pr):List Int:=z6l p.1++(z6l p.2.1++bytes p.2.2 4)
def sumE(s:X0):List Int:=bytes s.1.1 8++(bytes s.1.2 8++(bytes s.2.1 8++bytes s.2.2 8))
abbrev kidE(k:Int):List Int:=bytes k 4
theorem yhv(p:Pr):(ycv p).length=p.1.length+p.2.1.length+8:=by simp[ycv,z8,K2];omega
theorem yef(s:X0):(sumE s).length=32:=by simp[sumE,K2]
theorem yol:∀(post pre:List Pr) (n:Nat) (out:List Int),post.length<n->(pre++post).length<50000->(∀p∈post,storB p=true)->out.length+70000*post.length<3900000000000->
  zi3 NN n (pre++post) ((pre++post).length:Int) (pre.length:Int) out=some ((),(out++post.flatMap ycv,()))
 | [],pre,n+1,out,_,_,_,_=>by rw[zm9,z66,y48];simp
 | p::post,pre,n+1,out,hn,hb,hs,ho=>by
  have hb':pre.length+(post.length+1)<50000:=by simpa using hb
  have ho':out.length+70000*(post.length+1)<3900000000000:=by simpa using ho
  have hp:=hs p (by simp);simp only[storB,ab,zkc,decide_eq_true_eq]at hp;have hpe:=yhv p;have ih:=yol post (pre++[p]) n (out++ycv p) (by simpa using hn) (by rw[<-Q3];exact hb) (fun q hq=>hs q (by simp[hq])) (by rw[aq,hpe];omega);rw[<-Q3]at ih;rw[zm9,z66,Q7,cond_true,gd_t U0,V5,yzm out (by show _<_;omega)];simp only;rw[yzm _ (by show _<_;simp only[aq,z8];omega)];simp only;rw[ypw _ _ (by show _<_;simp only[aq,z8];omega)];simp only;rw[zia pre p (by simp;omega)];have e:out++z6l p.1++z6l p.2.1++bytes p.2.2 4=out++ycv p:=by simp[ycv]
  rw[e,ih];simp
section inner
variable (b3:Nd)
theorem yon:∀(post pre:List Int) (n:Nat) (out:List Int),post.length<n->(pre++post).length<50000->out.length+70000*post.length<3900000000000->
  zi5 NN n (pre++post) ((pre++post).length:Int) (pre.length:Int) b3 out=some (((),()),(b3,(out++post.flatMap kidE,())))
 | [],pre,n+1,out,_,_,_=>by rw[zmb,z68,y48];simp
 | k::post,pre,n+1,out,hn,hb,ho=>by
  have hb':pre.length+(post.length+1)<50000:=by simpa using hb
  have ho':out.length+70000*(post.length+1)<3900000000000:=by simpa using ho
  have ih:=yon post (pre++[k]) n (out++kidE k) (by simpa using hn) (by rw[<-Q3];exact hb) (by rw[aq,K2];omega);rw[<-Q3]at ih;rw[zmb,z68,Q7,cond_true,gd_t U0,V5,ypw _ _ (by show _<_;omega)];simp only;rw[U1 (q:=k) (by omega),ih];simp
theorem yom:∀(post pre:List B) (n:Nat) (out:List Int),post.length<n->(pre++post).length<50000->(∀p∈post,p.length<65536)->out.length+70000*post.length<3900000000000->
  zi4 NN n (pre++post) ((pre++post).length:Int) (pre.length:Int) b3 out=some (((),()),(b3,(out++post.flatMap z6l,())))
 | [],pre,n+1,out,_,_,_,_=>by rw[zma,z67,y48];simp
 | k::post,pre,n+1,out,hn,hb,hs,ho=>by
  have hb':pre.length+(post.length+1)<50000:=by simpa using hb
  have ho':out.length+70000*(post.length+1)<3900000000000:=by simpa using ho
  have hk:=hs k (by simp);have ih:=yom post (pre++[k]) n (out++z6l k) (by simpa using hn) (by rw[<-Q3];exact hb) (fun q hq=>hs q (by simp[hq])) (by rw[aq,z8];omega);rw[<-Q3]at ih;rw[zma,z67,Q7,cond_true,gd_t U0,V5,yzm _ (by show _<_;omega)];simp only;rw[zia pre k (by simp;omega),ih];simp
theorem yoi(b0:List X0)(b1 b2:Int):∀(post pre:List Int) (n:Nat) (out:List Int),post.length<n->(pre++post).length<=4->out.length+8*post.length<3900000000000->
  zi1 NN n b0 b1 b2 ((pre++post).length:Int) (pre.length:Int) b3 out (pre++post)=some (((),((),(b0,(b1,b2)))),(b3,(out++post.flatMap (fun x=>bytes x 8),())))
 | [],pre,n+1,out,_,_,_=>by rw[zm6,z63,y48];simp
 | k::post,pre,n+1,out,hn,hb,ho=>by
  have hb':pre.length+(post.length+1)<=4:=by simpa using hb
  have ho':out.length+8*(post.length+1)<3900000000000:=by simpa using ho
  have ih:=yoi b0 b1 b2 post (pre++[k]) n (out++bytes k 8) (by simpa using hn) (by rw[<-Q3];exact hb) (by rw[aq,K2];omega);rw[<-Q3]at ih;rw[zm6,z63,Q7,cond_true,gd_t U0,V5,x5o _ _ (by show _<_;omega)];simp only;rw[U1 (q:=k) (by omega),ih];simp
theorem yok:∀(post pre:List X0) (n:Nat) (out:List Int),post.length<n->(pre++post).length<50000->out.length+70000*post.length<3900000000000->
  zi2 NN n (pre++post) ((pre++post).length:Int) (pre.length:Int) b3 out=some (((),()),(b3,(out++post.flatMap sumE,())))
 | [],pre,n+1,out,_,_,_=>by rw[zm8,z65,y48];simp
 | k::post,pre,n+1,out,hn,hb,ho=>by
  have hb':pre.length+(post.length+1)<50000:=by simpa using hb
  have ho':out.length+70000*(post.length+1)<3900000000000:=by simpa using ho
  have ih:=yok post (pre++[k]) n (out++sumE k) (by simpa using hn) (by rw[<-Q3];exact hb) (by rw[aq,yef];omega);rw[<-Q3]at ih;rw[zm8,z65,Q7,cond_true,gd_t U0,V5];simp only;have h5:=yoi b3 (pre++k::post) ((pre++k::post).length:Int) (pre.length:Int) [k.1.1,k.1.2,k.2.1,k.2.2] [] NN out (by have:=W3;simp only[ag,aJ];omega) (by simp) (by simp;omega);simp only[ah,aJ]at h5;rw[show((0:Nat):Int)=0 from rfl]at h5;rw[h5];simp only;rw[zia pre k (by simp;omega)];have e:out++([k.1.1,k.1.2,k.2.1,k.2.2]:List Int).flatMap (fun x=>bytes x 8)=out++sumE k:=by simp[sumE]
  rw[e,ih];simp
end inner
theorem yqi{m:Mg}(h:vldB m=true):(z3f m).length<300000:=by
 rcases vld_cases h with⟨k,v,n,rfl,h1,h2,h3,h4,h5⟩ | ⟨k,rfl,h1,h2⟩ | ⟨s,rfl,h1⟩ | ⟨k,e,rfl,hk,h1⟩ | ⟨s,n,rfl,h1,h2,h3⟩
 ·have e:z3f (zu6 k v n)=aa .u8 1::(z6l k++z6l v++bytes n 4):=rfl;rw[e];simp only[ag,aq,z8,K2];omega
 ·have e:z3f (y4a k)=aa .u8 2::z6l k:=rfl;rw[e];simp only[ag,z8];omega
 ·have l:=zwu h1;have e:(z3f (zen s)).length<=s.1.length+s.2.length+20:=by
   simp only[z3f,y10,eqi];simp[z8,K2];omega
  omega
 ·have l:=zti h1;have e:(z3f (mv k e)).length<=e.1.length+e.2.length+20:=by
   rcases hk with rfl | rfl<;>simp only[z3f,y10,eqi]<;>simp[z8,K2]<;>omega
  omega
 ·have l:=zwu h1;have e:(z3f (zo9 s n)).length<=s.1.length+s.2.length+20:=by
   simp only[z3f,y10,eqi];simp[z8,K2];omega
  omega
theorem yoj:∀(post pre:List Mg) (n:Nat) (out:List Int),post.length<n->(pre++post).length<30000000->(∀m∈post,vldB m=true/\(z3f m).length<=12000)->out.length+12000*post.length<3900000000000->
  zcw NN n (pre++post) ((pre++post).length:Int) (pre.length:Int) out=some ((),(out++post.flatMap z3f,()))
 | [],pre,n+1,out,_,_,_,_=>by rw[zm7,z64,y48];simp
 | m::post,pre,n+1,out,hn,hb,hs,ho=>by
  have hb':pre.length+(post.length+1)<30000000:=by simpa using hb
  have ho':out.length+12000*(post.length+1)<3900000000000:=by simpa using ho
  obtain⟨hm,hml⟩:=hs m (by simp);have ih:=yoj post (pre++[m]) n (out++z3f m) (by simpa using hn) (by rw[<-Q3];exact hb) (fun q hq=>hs q (by simp[hq])) (by rw[aq];omega);rw[<-Q3]at ih;rw[zm7,z64,Q7,cond_true,gd_t U0,V5,yp6];simp only[zub,hm,cond_true];rw[gd_t (yku (by show _<_;omega)),zia pre m (by simp;omega)];show zcw NN n (pre++m::post) _ _ (out++z3f m)=_;rw[ih];simp
def yb2(n:Nd):List Int:=
 bif n.2.2.1.isEmpty then 76::(bytes (n.1.length:Int) 4++n.1.flatMap ycv)else
 78::(bytes (n.2.2.1.length:Int) 4++(n.2.2.1.flatMap kidE++(n.2.1.flatMap z6l++(n.2.2.2.1.flatMap sumE++(bytes (n.2.2.2.2.length:Int) 4++n.2.2.2.2.flatMap z3f)))))
theorem flat_len{α:Type}(f:α->List Int)(k:Nat):∀(l:List α),(∀x∈l,(f x).length<=k)->(l.flatMap f).length<=k*l.length
 | [],_=>by simp
 | x::l,h=>by have h1:=h x (by simp);have h2:=flat_len f k l (fun y hy=>h y (by simp[hy]));rw[cH,aq,ag,Nat.mul_succ];omega
abbrev PivS(n:Nd):Prop:=∀p∈n.2.1,p.length<65536
theorem yqz{n:Nd}(h:SmallN n)(hp:PivS n)(hb:∀m∈n.2.2.2.2,(z3f m).length<=12000):znt NN n=some (bif valB n allS then yb2 n else[]):=by
 unfold znt;rw[yue h allS];simp only;cases hv:valB n allS
 ·rfl
 ·simp only[aG,cond_false,cond_true];unfold valB at hv;unfold yb2;rw[isE];cases hk:n.2.2.1.isEmpty
  ·rw[hk]at hv;simp only[cond_false,innB,ab]at hv|-;obtain⟨_,_,_,hm⟩:=hv;have hm:∀m∈n.2.2.2.2,vldB m=true/\(z3f m).length<=12000:=fun m hmm=>by
    have:=aE.1 hm m hmm;simp only[msgB,ab]at this;exact⟨this.1,hb m hmm⟩
   obtain⟨s1,s2,s3,s4,s5⟩:=h;have l0:=flat_len kidE 4 n.2.2.1 (fun x _=>by rw[K2];omega);have l1:=flat_len z6l 65538 n.2.1 (fun x hx=>by have:=hp x hx;rw[z8];omega);have l3:=flat_len sumE 32 n.2.2.2.1 (fun x _=>by rw[yef];omega);rw[ypw _ _ (by show _<_;simp)];simp only;have a0:=yon n n.2.2.1 [] NN ([78]++bytes (n.2.2.1.length:Int) 4) (by have:=W3;omega) (by simpa using s3) (by simp[K2];omega);simp only[ah,aJ]at a0;rw[show((0:Nat):Int)=0 from rfl]at a0;rw[a0];simp only;have a1:=yom n n.2.1 [] NN ([78]++bytes (n.2.2.1.length:Int) 4++n.2.2.1.flatMap kidE) (by have:=W3;omega) (by simpa using s2) hp (by rw[aq,aq,K2];simp only[ag,aJ];omega);simp only[ah,aJ]at a1;rw[show((0:Nat):Int)=0 from rfl]at a1;rw[a1];simp only;have a3:=yok n n.2.2.2.1 [] NN ([78]++bytes (n.2.2.1.length:Int) 4++n.2.2.1.flatMap kidE++n.2.1.flatMap z6l) (by have:=W3;omega) (by simpa using s4) (by rw[aq,aq,aq,K2];simp only[ag,aJ];omega);simp only[ah,aJ]at a3;rw[show((0:Nat):Int)=0 from rfl]at a3;rw[a3];simp only;rw[ypw _ _ (by show _<_;simp only[aq,K2,ag,aJ];omega)];simp only;have a4:=yoj n.2.2.2.2 [] NN ([78]++bytes (n.2.2.1.length:Int) 4++n.2.2.1.flatMap kidE++n.2.1.flatMap z6l++n.2.2.2.1.flatMap sumE++bytes (n.2.2.2.2.length:Int) 4) (by have:=W3;omega) (by simpa using s5) hm (by simp only[aq,K2,ag,aJ];omega);simp only[ah,aJ]at a4;rw[show((0:Nat):Int)=0 from rfl]at a4;rw[a4];simp
  ·rw[hk]at hv;simp only[cond_true,yvn,ab]at hv|-;have hs:∀p∈n.1,storB p=true:=fun p hpp=>by
    have:=aE.1 hv.2.2 p hpp;simp only[yh6,ab]at this;exact this.1
   have s1:=h.1;rw[ypw _ _ (by show _<_;simp)];simp only;have a:=yol n.1 [] NN ([76]++bytes (n.1.length:Int) 4) (by have:=W3;omega) (by simpa using s1) hs (by simp[K2];omega);simp only[ah,aJ]at a;rw[show((0:Nat):Int)=0 from rfl]at a;rw[a];simp
theorem yqh{n:Nd}(h:SmallN n)(hp:PivS n)(hb:∀m∈n.2.2.2.2,(z3f m).length<=12000):(bif valB n allS then yb2 n else[]).length<500000000000:=by
 cases hv:valB n allS
 ·simp
 ·unfold valB at hv;rw[cond_true];unfold yb2;obtain⟨s1,s2,s3,s4,s5⟩:=h;cases hk:n.2.2.1.isEmpty
  ·have l0:=flat_len kidE 4 n.2.2.1 (fun x _=>by rw[K2];omega);have l1:=flat_len z6l 65538 n.2.1 (fun x hx=>by have:=hp x hx;rw[z8];omega);have l3:=flat_len sumE 32 n.2.2.2.1 (fun x _=>by rw[yef];omega);have l4:=flat_len z3f 12000 n.2.2.2.2 hb;simp only[cond_false,ag,aq,K2];omega
  ·rw[hk]at hv;simp only[cond_true,yvn,ab]at hv|-;have l2:=flat_len ycv 70000 n.1 fun p hpp=>by
    have:=aE.1 hv.2.2 p hpp;simp only[yh6,storB,ab,zkc,decide_eq_true_eq]at this;rw[yhv];omega
   simp only[ag,aq,K2];omega
end Ds.Nv
namespace Ds
open Go Go.Dv
set_option maxRecDepth 100000
variable [Fuel]
theorem full_iff{s:Sp}:emptyB s=false↔s.2=[]\/lts s.1 s.2=true:=by grind[emptyB,yzp,y6]
structure Sep (l:List Sp):Prop where
 ord:l.Pairwise fun a b=>a.2≠[]/\lts a.2 b.1=true
 full:∀s∈l,emptyB s=false
def Ends(r l:List Sp):Prop:=∀s∈r,(∃x∈l,s.1=x.1)/\∃x∈l,s.2=x.2
theorem sIns_mem(s:Sp){l:List Sp}(h:Nrm l):∀x∈sIns s l,(x=s/\emptyB s=false)\/x∈l:=by
 cases e:emptyB s
 ·obtain⟨_,i2⟩:=y0a s l h e;have e1:sIns s l=(sMid s false l++bif sDone s false l then[]else[s]):=by grind[sIns]
  grind
 grind[sIns,zmv]
theorem yo1(l0:List Sp):∀(l s:List Sp),Nrm s->(∀x∈l,emptyB x=false->x∈l0)->(∀x∈s,x∈l0)->Nrm (l.foldl (fun o x=>sIns x o) s)/\∀x∈l.foldl (fun o x=>sIns x o) s,x∈l0
 | [],s,h,_,hs=>⟨h,hs⟩
 | x::l,s,h,hl,hs=>by
  rw[bh];refine yo1 l0 l _ (yck x h).1 (fun y hy=>hl y (by grind)) fun y hy=> ?_;rcases sIns_mem x h y hy with⟨rfl,he⟩ | hy
  all_goals grind
theorem yuf{l0 out:List Sp}{s:Sp}(h:Sep out)(he:Ends out l0)(hs:emptyB s=false)(hm:s∈l0)(ho:∀o,out.getLast? =some o->lts s.1 o.1=false):
  Sep (zj8 out s)/\Ends (zj8 out s) l0/\∀o,(zj8 out s).getLast? =some o->lts s.1 o.1=false:=by
 unfold zj8;cases e:out.getLast? with
 | none=>
  simp only;refine⟨⟨by simp,fun x hx=> ?_⟩,fun x hx=> ?_,fun o ho=> ?_⟩
  all_goals grind[z12]
 | some o=>
  obtain⟨ini,rfl⟩:∃ini,out=ini++[o]:=cM.1 e;have hos:=ho o e;obtain⟨p1,p2,p3⟩:=bz.1 h.ord;have ein:∀x∈ini,(∃y∈l0,x.1=y.1)/\∃y∈l0,x.2=y.2:=fun x hx=>he x (by grind);have eo:=he o (by simp);simp only;cases e1:(!(eqs o.2 [])&&lts o.2 s.1)
  ·simp only[cond_false];cases e2:lessB o.2 s.2
   ·grind
   ·simp only[cond_true];rw[List.dropLast_concat];have hfull:emptyB (o.1,s.2)=false:=by grind[full_iff,ykr]
    refine⟨⟨bz.2 ⟨p1,by simp,fun a ha b hb=> ?_⟩,fun x hx=> ?_⟩,fun x hx=> ?_,fun o' h'=> ?_⟩
    ·grind
    ·rcases am.1 hx with hx | hx
     ·exact h.full x (by grind)
     grind
    all_goals grind
  ·simp only[cond_true];simp only[ab,au]at e1;have hne:o.2≠[]:=fun h=>by simp_all
   refine⟨⟨bz.2 ⟨h.ord,by simp,fun a ha b hb=> ?_⟩,fun x hx=> ?_⟩,fun x hx=> ?_,fun o' h'=> ?_⟩
   ·simp at hb;rw[hb];rcases am.1 ha with ha | ha
    ·obtain⟨q1,q2⟩:=p3 a ha o (by simp)
     grind[zrh]
    grind
   ·rcases am.1 hx with hx | hx
    ·exact h.full x hx
    grind
   ·rcases am.1 hx with hx | hx
    all_goals grind
   grind[z12]
theorem yo0{l0:List Sp}:∀(l out:List Sp),Nrm l->(∀x∈l,x∈l0)->Sep out->Ends out l0->(∀o,out.getLast? =some o->∀s∈l,lts s.1 o.1=false)->Sep (l.foldl zj8 out)/\Ends (l.foldl zj8 out) l0
 | [],out,_,_,h,he,_=>⟨h,he⟩
 | s::l,out,hn,hl,h,he,ho=>by obtain⟨o1,o2⟩:=aD.1 hn.ord;obtain⟨k1,k2,k3⟩:=yuf h he (hn.full s (by simp)) (hl s (by simp)) fun o h'=>ho o h' s (by simp);rw[bh];exact yo0 l _ ⟨o2,fun x hx=>hn.full x (by simp[hx])⟩ (fun x hx=>hl x (by simp[hx])) k1 k2 fun o h' x hx=>y4o (k3 o h') (o1 x hx)
theorem zik(N:Nat){l:List Sp}(hN:l.length<N)(hl:l.length<40000000):∃r,z4l N l=some r/\(∀k,inS r k=inS l k)/\r.length<=l.length/\Sep r/\Ends r (l.filter fun s=> !(emptyB s)):=by
 have h0:=walk (xs:=l) (L:=fun n i (s:List Sp)=>zcu N n l i s []) (fun o x=>sIns x o) (fun s=>(((),()),(s,([],())))) (fun s post=>Nrm s/\s.length+post.length<=l.length)
  (fun n s _=>by simp[z0t,z8t])
  (fun n pre x post s hx hi=>by
   obtain⟨h1,h2⟩:=hi;simp only[ag]at h2;have hb:pre.length<9223372036854775807:=by grind
   have hbl:=congrArg ak hx;obtain⟨i1,_,i3⟩:=yck x h1;rw[z8t];rw[hx];simp only[z0t,Q7,U0,cond_true,V5,yib N s x (by omega) (by omega)]
   grind[gd_t,U1])
  l [] N [] rfl hN ⟨⟨aX.nil,fun s h=>by cases h⟩,by simp⟩
 have hz:(([]:List Sp).length:Int)=0:=rfl;simp only[hz]at h0;obtain⟨e0,n1,n2⟩:=h0;obtain⟨r,r1,r2,r3⟩:=x2e N hN hl;have f1:=yo1 (l.filter fun s=> !(emptyB s)) l [] ⟨aX.nil,fun s h=>by cases h⟩ (fun x h he=>aV.2 ⟨h,by grind⟩) (fun _ h=>by cases h);generalize l.foldl (fun o x=>sIns x o) []=sorted at e0 n1 n2 f1;simp only[aJ,bD]at n2;have e1:=ysh N (sorted:=sorted) (by omega) (by omega);have f2:=yo0 (l0:=l.filter fun s=> !(emptyB s)) sorted [] f1.1 f1.2 ⟨aX.nil,fun s h=>by cases h⟩ (fun s h=>by cases h) (fun o h=>by grind)
 grind[z4l]
theorem yeu(a b:Sp)(h:emptyB (z17 a b)=false):((z17 a b).1=a.1\/(z17 a b).1=b.1)/\((z17 a b).2=a.2\/(z17 a b).2=b.2):=by
 unfold z17 at h|-;cases e:emptyB (yd7 a b)
 ·simp only[cond_false]
  grind[yd7,ypy]
 ·rw[e]at h;cases h
theorem y0r(m0:List Sp)(E:List B)(hE:∀q∈m0,q.1∈E/\q.2∈E)(h0:([]:B)∈E):∀(post pre:List Sp) (n:Nat) (left:List Sp),(∀q∈post,q∈m0)->post.length<n->(pre++post).length<1000->left.length*2^post.length<=10000000->
  Sep left->(∀s∈left,s.1∈E/\s.2∈E)->∃r,zat NN n (pre++post) (pre.length:Int) left=some ((),(r,()))/\(∀k,inS r k=(inS left k&& !(inS post k)))/\r.length<=left.length*2^post.length/\Sep r/\∀s∈r,s.1∈E/\s.2∈E
 | _,_,0,_,_,h,_,_,_,_=>absurd h (ae _)
 | [],pre,n+1,left,_,_,_,_,hs,he=>by refine⟨left, ?_,fun k=>by simp[inS],by simp,hs,he⟩;simp[G9,z1j]
 | q::post,pre,n+1,left,hm0,hn,hl,hp,hs,he=>by
  simp only[ag]at hn hp;have hb:pre.length<9223372036854775807:=by grind
  have e2:(2:Nat)^(post.length+1)=2*2^post.length:=by omega
  have hpos:0<(2:Nat)^post.length:=ez (by omega);have h2:left.length*2*2^post.length=left.length*2^(post.length+1):=by grind
  have h1:left.length*1<=left.length*2^(post.length+1):=aY _ (by omega);have hq:=hE q (hm0 q (by simp));have hm0':∀x∈post,x∈m0:=fun x hx=>hm0 x (by grind);cases e:emptyB q
  ·have hm:=ynk NN (pm:=pre) (post':=post) (q:=q) left (by grind[W3]) (by omega);have sem:∀(l out:List Sp),(∀k,inS (l.foldl (z4y q) out) k=(inS out k || (inS l k&& !(hasB q k))))/\(l.foldl (z4y q) out).length<=out.length+2*l.length:=by
    intro l;induction l with
    | nil=>simp[inS]
    | cons x l ih=>
     intro out;obtain⟨i1,i2⟩:=ih (z4y q out x);have hlen:(z4y q out x).length<=out.length+2:=by grind[z4y]
     grind[z4y,inS,yd4]
   have ends:∀(l out:List Sp),(∀s∈l,s.1∈E/\s.2∈E)->(∀s∈out,emptyB s=false->s.1∈E/\s.2∈E)->∀s∈l.foldl (z4y q) out,emptyB s=false->s.1∈E/\s.2∈E:=by
    intro l;induction l with
    | nil=>simp
    | cons x l ih=>
     intro out hl ho;rw[bh];refine ih _ (fun s hs=>hl s (by grind)) fun s hs hfull=> ?_;have hx:=hl x (by simp);unfold z4y at hs
     grind[yeu]
   obtain⟨s1,s2⟩:=sem left [];simp only[aJ,Nat.zero_add]at s2;obtain⟨r,r1,r2,r3,r4,r5⟩:=zik NN (l:=left.foldl (z4y q) []) (by grind[W3]) (by omega);have hr:r.length*2^post.length<=left.length*2*2^post.length:=bn _ (by omega);have r6:∀s∈r,s.1∈E/\s.2∈E:=by
    intro s hs;have e0:=ends left [] he (fun s h=>by cases h);obtain⟨⟨x,hx,ex⟩,y,hy,ey⟩:=r5 s hs
    grind
   obtain⟨r',i1,i2,i3,i4,i5⟩:=y0r m0 E hE h0 post (pre++[q]) n r hm0' (by omega) (by grind) (by omega) r4 r6;refine⟨r', ?_,fun k=> ?_,by grind,i4,i5⟩
   ·rw[z1j];simp only[G9,Q7,U0,cond_true,V5,z56,e,cond_false,hm,r1]
    grind[gd_t,U1]
   ·rw[i2,r2,s1];have:inS (q::post) k=(hasB q k || inS post k):=by simp[inS]
    rw[this];have z:inS [] k=false:=rfl
    grind
  ·have hr:left.length*2^post.length<=left.length*2*2^post.length:=bn _ (by omega);obtain⟨r',i1,i2,i3,i4,i5⟩:=y0r m0 E hE h0 post (pre++[q]) n left hm0' (by omega) (by grind) (by omega) hs he;refine⟨r', ?_,fun k=> ?_,by grind,i4,i5⟩
   ·rw[z1j];simp only[G9,Q7,U0,cond_true,V5,z56,e]
    grind[gd_t,U1]
   ·rw[i2];have:inS (q::post) k=(hasB q k || inS post k):=by simp[inS]
    simp_all[zod]
theorem ye4{l m:List Sp}{E:List B}(hE:∀q∈m,q.1∈E/\q.2∈E)(h0:([]:B)∈E)(hL:∀s∈l,emptyB s=false->s.1∈E/\s.2∈E)(hm:m.length<1000)(hl:l.length*2^m.length<=10000000):
  ∃r,y7 NN l m=some r/\(∀k,inS r k=(inS l k&& !(inS m k)))/\r.length<=l.length*2^m.length/\Sep r/\∀s∈r,s.1∈E/\s.2∈E:=by
 have hpos:0<(2:Nat)^m.length:=ez (by omega);have h1:l.length*1<=l.length*2^m.length:=aY _ hpos;obtain⟨r,r1,r2,r3,r4,r5⟩:=zik NN (l:=l) (by grind[W3]) (by omega);have h2:r.length*2^m.length<=l.length*2^m.length:=bn _ r3;have r6:∀s∈r,s.1∈E/\s.2∈E:=fun s hs=>by
  obtain⟨⟨x,hx,ex⟩,y,hy,ey⟩:=r5 s hs
  grind
 obtain⟨r',i1,i2,i3,i4,i5⟩:=y0r m E hE h0 m [] NN r (fun _ h=>h) (by grind[W3]) (by grind) (by omega) r4 r6;have hz:(([]:List Sp).length:Int)=0:=rfl
 grind[y7]
theorem Sep.nodup{l:List Sp}(h:Sep l):(l.map (·.1)).Nodup:=by
 rw[eJ,db];refine aX.imp_of_mem ?_ h.ord;rintro a b ha hb ⟨h1,h2⟩ e;rcases full_iff.1 (h.full a ha)with h3 | h3
 all_goals grind[k8,z12]
theorem zka{α:Type} [DecidableEq α]:∀{l L:List α},l.Nodup->(∀x∈l,x∈L)->l.length<=L.length
 | [],_,_,_=>aZ _
 | x::l,L,h,hs=>by
  obtain⟨h1,h2⟩:=bH.1 h;have hx:=hs x (by simp);have:=zka (L:=L.erase x) h2 fun y hy=>(List.mem_erase_of_ne (fun(e:y=x)=>h1 (by grind))).2 (hs y (by grind))
  grind
theorem Sep.len{l:List Sp}{E:List B}(h:Sep l)(he:∀s∈l,s.1∈E):l.length<=E.length:=by
 have:=zka h.nodup (L:=E) (by grind)
 grind
def xs4:List B:=[[97,47],[98,47],[99,47],[100,47]]
def bs:Nat->B
 | 0=>[]
 | j+1=>98::47::bs j
theorem yz9:∀j,(bs j).length=2*j
 | 0=>rfl
 | j+1=>by simp[bs,yz9 j];omega
def tB:List B:=tails++(tails.map (·++[0])++[[],[98,48]])
def tops:List B:=[[],[97,48],[98,48],[99,48],[100,48]]
def gen(ts:List B)(g:Nat):List B:=xs4.flatMap fun x=>(List.range (g+1)).flatMap fun j=>ts.map fun t=>x++(bs j++t)
def KU(g:Nat):List B:=gen tails g
def UU(g:Nat):List B:=tops++gen tB g
theorem zqu{ts:List B}{g:Nat}{u:B}:u∈gen ts g↔∃x∈xs4,∃j,j<=g/\∃t∈ts,u=x++(bs j++t):=by
 unfold gen;simp only[dh,List.mem_range,aH]
 grind
theorem yf1{ts ts':List B}{g g':Nat}(h:g<=g')(ht:∀t∈ts,t∈ts'){u:B}(hu:u∈gen ts g):u∈gen ts' g':=by grind[zqu]
theorem KU.mono{g g':Nat}(h:g<=g'){u:B}(hu:u∈KU g):u∈KU g':=yf1 h (fun _ h=>h) hu
theorem UU.mono{g g':Nat}(h:g<=g'){u:B}(hu:u∈UU g):u∈UU g':=by
 rcases am.1 hu with hu | hu
 ·exact bo _ hu
 ·exact bB _ (yf1 h (fun _ h=>h) hu)
theorem UU.of{g:Nat}{u:B}(hu:u∈KU g):u∈UU g:=bB _ (yf1 (ai g) (fun t h=>bo _ h) hu)
theorem UU.succ{g:Nat}{u:B}(hu:u∈KU g):u++[0]∈UU g:=by obtain⟨x,hx,j,hj,t,ht,rfl⟩:=zqu.1 hu;exact bB _ (zqu.2 ⟨x,hx,j,hj,t++[0],bB _ (bo _ (aH.2 ⟨t,ht,rfl⟩)),by simp⟩)
theorem UU.nil(g:Nat):([]:B)∈UU g:=bo _ (by simp[tops])
theorem KU.ne{g:Nat}{u:B}(hu:u∈KU g):u≠[]:=by
 obtain⟨x,hx,j,hj,t,ht,rfl⟩:=zqu.1 hu;have:x≠[]:=by rintro rfl;simp_all[xs4]
 simp_all
theorem ywb{t:B}(ht:t∈tB):t.length<=4:=by
 have h:(tB.all fun t=>bG t.length 4)=true:=by decide
 simp_all
theorem yr2{x:B}(hx:x∈xs4):x.length=2:=by
 have h:(xs4.all fun t=>Nat.beq t.length 2)=true:=by decide
 simp_all
theorem UU.len{g:Nat}{u:B}(hu:u∈UU g):u.length<=2*g+6:=by
 rcases am.1 hu with hu | hu
 ·have h:(tops.all fun t=>bG t.length 2)=true:=by decide
  have:=ck (aE.1 h u hu);omega
 grind[zqu,ywb,yr2,yz9]
theorem flat_len{α β:Type}{f:α->List β}{n:Nat}:∀{l:List α},(∀x∈l,(f x).length=n)->(l.flatMap f).length=l.length*n
 | [],_=>by simp
 | x::l,h=>by rw[cH,aq,h x (by simp),flat_len fun y hy=>h y (by simp[hy])];simp only[ag,Nat.add_mul];omega
theorem ysv(ts:List B)(g:Nat):(gen ts g).length=4*((g+1)*ts.length):=by
 unfold gen;rw[flat_len (n:=(g+1)*ts.length)]
 ·rfl
 ·intro x _;rw[flat_len (n:=ts.length)]
  all_goals simp
theorem KU.length(g:Nat):(KU g).length=20*(g+1):=by simp[KU,tails,ysv];omega
theorem UU.length(g:Nat):(UU g).length=5+48*(g+1):=by simp[UU,tB,tails,tops,ysv];omega
theorem path_cases{p:B}(hp:p∈paths):p∈xs4\/p=[97,47,98,47]:=by
 have h:(paths.all fun p=>xs4.contains p || eqs p [97,47,98,47])=true:=by decide
 simp_all[y6]
theorem yn6{ts:List B}{q:B}(hq:q∈paths){j g:Nat}(hj:j<=g){t:B}(ht:t∈ts):q++(bs j++t)∈gen ts (g+1):=by
 rcases path_cases hq with h | rfl
 ·grind[zqu]
 ·exact zqu.2 ⟨[97,47],by simp[xs4],j+1,by omega,t,ht,by simp[bs]⟩
theorem yo8{ts:List B}(hts:∀t∈ts,[98,47].isPrefixOf t=false){p q:B}(hp:p∈paths)(hq:q∈paths){g:Nat}{u:B}(hu:u∈gen ts g)(h:p.isPrefixOf u=true):q++u.drop p.length∈gen ts (g+1):=by
 obtain⟨x,hx,j,hj,t,ht,rfl⟩:=zqu.1 hu;have hxl:=yr2 hx;rcases path_cases hp with h4 | rfl
 ·grind[yr2,yn6]
 ·obtain⟨r,hr⟩:=be.1 h;have e1:([97,47,98,47]:B)++r=[97,47]++([98,47]++r):=rfl;rw[e1]at hr;obtain⟨rfl,h2⟩:=List.append_inj hr (by grind);cases j with
  | zero=>
   have h3:[98,47]++r=t:=h2
   grind
  | succ j=>
   have h3:(98::47::r:B)=98::47::(bs j++t):=h2
   grind[yn6]
theorem KU.move{p q:B}(hp:p∈paths)(hq:q∈paths){g:Nat}{u:B}(hu:u∈KU g)(h:p.isPrefixOf u=true):q++u.drop p.length∈KU (g+1):=
 yo8 (fun t ht=>by
   have h:(tails.all fun t=> !([98,47].isPrefixOf t))=true:=by decide
   grind) hp hq hu h
theorem UU.move{p q:B}(hp:p∈paths)(hq:q∈paths){g:Nat}{u:B}(hu:u∈UU g)(h:p.isPrefixOf u=true):q++u.drop p.length∈UU (g+1):=by
 rcases am.1 hu with hu | hu
 ·have hh:(tops.all fun t=>paths.all fun p=> !(p.isPrefixOf t))=true:=by decide
  grind
 ·exact bB _ (yo8 (fun t ht=>by
   have h:(tB.all fun t=> !([98,47].isPrefixOf t))=true:=by decide
   grind) hp hq hu h)
theorem UU.path{p:B}(hp:p∈paths):p∈UU 1/\(preB p).2∈UU 1:=by
 have h:(paths.all fun p=>(UU 1).contains p&&(UU 1).contains (preB p).2)=true:=by decide+kernel
 grind
def dd:List B->List B
 | []=>[]
 | x::l=>if x∈dd l then dd l else x::dd l
theorem ygu{x:B}:∀{l:List B},x∈dd l↔x∈l
 | []=>Iff.rfl
 | y::l=>by
  unfold dd;by_cases h:y∈dd l
  ·rw[if_pos h,ygu,ar];constructor
   ·exact .inr
   ·rintro(rfl | h')
    ·exact ygu.1 h
    ·exact h'
  ·rw[if_neg h,ar,ar,ygu]
theorem yep:∀l:List B,(dd l).Nodup
 | []=>aX.nil
 | y::l=>by
  unfold dd;by_cases h:y∈dd l
  ·rw[if_pos h];exact yep l
  ·rw[if_neg h];exact bH.2 ⟨h,yep l⟩
theorem yz5:∀l:List B,(dd l).length<=l.length
 | []=>ai _
 | y::l=>by
  unfold dd;have:=yz5 l
  grind
def wt(g:Nat)(P:B->Bool):Nat:=((dd (UU g)).filter P).length
theorem yzi(g:Nat)(P:B->Bool):wt g P<=5+48*(g+1):=by have h1:=yz5 (UU g);rw[UU.length]at h1;exact aP (bP _ _) h1
theorem yy7{g g':Nat}{P Q:B->Bool}(f:B->B)(h:∀a,a∈UU g->P a=true->f a∈UU g'/\Q (f a)=true)(hi:∀a b,P a=true->P b=true->f a=f b->a=b):wt g P<=wt g' Q:=by
 unfold wt;have hn:(((dd (UU g)).filter P).map f).Nodup:=by grind[aX.imp_of_mem,yep]
 have:=zka (L:=(dd (UU g')).filter Q) hn fun x hx=>by grind[ygu]
 grind
theorem zqn{g:Nat}{P Q:B->Bool}(h:∀a,P a=true->Q a=true):wt g P<=wt g Q:=yy7 id (fun a ha hp=>⟨ha,h a hp⟩) fun _ _ _ _ e=>e
theorem ykf{g:Nat}{P:B->Bool}{a:B}(ha:a∈UU g)(hp:P a=true):1<=wt g P:=
 List.length_pos_of_mem (aV.2 ⟨ygu.2 ha,hp⟩)
theorem yea{g:Nat}(P Q:B->Bool):wt g P=wt g (fun a=>P a&&Q a)+wt g (fun a=>P a&& !(Q a)):=by
 unfold wt;generalize dd (UU g)=l;induction l with
 | nil=>rfl
 | cons x l ih=>
  grind
def wts(g:Nat)(l:List Sp):Nat:=(l.map fun s=>wt g (hasB s)).sum
theorem yp8(g:Nat)(a b:List Sp):wts g (a++b)=wts g a+wts g b:=by simp[wts]
theorem zy6{s:Sp}(h:emptyB s=false):hasB s s.1=true:=by rw[Q8,z12];rcases full_iff.1 h with e | e<;>simp[K1,e]
theorem y50{g:Nat}:∀{l:List Sp},(∀s∈l,emptyB s=false/\s.1∈UU g)->l.length<=wts g l
 | [],_=>aZ _
 | s::l,h=>by have:=y50 (g:=g) (l:=l) fun x hx=>h x (by simp[hx]);obtain⟨h1,h2⟩:=h s (by simp);have:=ykf h2 (zy6 h1);simp only[wts,aC,List.sum_cons,ag]at*;omega
theorem x4o{s:Sp}{l:List Sp}(h:Sep (s::l)){k:B}(hk:hasB s k=true):inS l k=false:=by
 cases e:inS l k
 ·rfl
 ·obtain⟨x,hx,hxk⟩:=cO.1 e;obtain⟨h1,h2⟩:=(aD.1 h.ord).1 x hx;rw[Q8]at hk hxk;simp only[K1,ab,au,aA]at hk hxk
  grind[y6,k8]
theorem Sep.tail{s:Sp}{l:List Sp}(h:Sep (s::l)):Sep l:=⟨(aD.1 h.ord).2,fun x hx=>h.full x (by grind)⟩
theorem yjm{g:Nat}:∀{l:List Sp},Sep l->wts g l<=wt g (inS l)
 | [],_=>by simp[wts]
 | s::l,h=>by
  have ih:=yjm (g:=g) h.tail;have e:wt g (inS (s::l))=wt g (fun a=>inS (s::l) a&&hasB s a)+wt g (fun a=>inS (s::l) a&& !(hasB s a)):=yea _ _;have h1:wt g (hasB s)<=wt g (fun a=>inS (s::l) a&&hasB s a):=zqn fun a ha=>by simp[inS,ha]
  have h2:wt g (inS l)<=wt g (fun a=>inS (s::l) a&& !(hasB s a)):=zqn fun a ha=>by
   have:hasB s a=false:=by
    cases e:hasB s a
    ·rfl
    ·have:=x4o h e;rw[ha]at this;cases this
   have e2:inS (s::l) a=(hasB s a || inS l a):=by simp[inS]
   rw[e2,ha,this];rfl
  have e3:wts g (s::l)=wt g (hasB s)+wts g l:=by simp[wts]
  omega
def SpG(g:Nat)(s:Sp):Prop:=emptyB s=false/\s.1∈UU g/\s.2∈UU g
theorem SpG.mono{g g':Nat}(h:g<=g'){s:Sp}(hs:SpG g s):SpG g' s:=⟨hs.1,UU.mono h hs.2.1,UU.mono h hs.2.2⟩
def yh3(s:Sp):Bool:= !(emptyB s)&&((UU 1).contains s.1&&(UU 1).contains s.2)
theorem zwv{s:Sp}:yh3 s=true↔SpG 1 s:=by simp[yh3,SpG]
inductive GM (g:Nat):Mg->Prop where
 | put (k v:B) (n:Int):k∈KU g->v∈values->GM g (zu6 k v n)
 | del (k:B):k∈KU g->GM g (y4a k)
 | drop (s:Sp):SpG g s->GM g (zen s)
 | move (e:B×B):e∈ends->GM g (mv 4 e)
 | clone (e:B×B):e∈ends->GM g (mv 5 e)
 | stamp (s:Sp) (n:Int):SpG g s->GM g (zo9 s n)
theorem GM.mono{g g':Nat}(h:g<=g'){m:Mg}(hm:GM g m):GM g' m:=by
 cases hm with
 | put k v n hk hv=>exact .put k v n (KU.mono h hk) hv
 | del k hk=>exact .del k (KU.mono h hk)
 | drop s hs=>exact .drop s (hs.mono h)
 | move e he=>exact .move e he
 | clone e he=>exact .clone e he
 | stamp s n hs=>exact .stamp s n (hs.mono h)
theorem ykz{pre post:B}{b:UInt8}:bt (pre++b::post) (pre.length:Int)=(b.toNat:Int):=by simp[bt]
theorem z94{p:B}(hp:p∈paths):Q5 NN p=some (preB p):=by
 obtain⟨h1,h2⟩:=zcb hp;generalize hq:p.dropLast=q at h1;subst h1;have hl:q.length<=4:=by grind
 obtain⟨k,hk⟩:∃k,NN=k+1:=⟨NN-1,by grind[W3]⟩;have e1:(((q++[47]).length:Nat):Int)=(q.length:Int)+1:=by simp
 have e2:aa .i64 ((((q++[47]).length:Nat):Int)-1)=(q.length:Int):=by grind[w64]
 have e3:bt (q++[47]) (q.length:Int)=47:=by simp[ykz]
 have h0:z07 NN NN (q++[47]) ((q++[47]).length:Int)=some ((q++[47],((),((q++[47]).length:Int))),((),())):=by rw[show z07 NN NN=z07 NN (k+1)from congrArg _ hk,z71];simp only[z38,e2,e3];rw[W8 (by simp),gd_t (V7 (by omega) (by omega)),X5 (by decide)]
 simp only[Q5,h0,e2,e3];rw[X5 (G6 (by omega)),gd_t (by grind),y7a,gd_t (V7 (by omega) (by omega))];have e4:z2j [aa .u8 ((47:Int)+1)]=[48]:=by decide
 grind[maxS,preB,gd_p]
theorem zxw{g:Nat}(hg:g<1000000){k:B}(hk:k∈KU g):z8q NN k=some (k,k++[0]):=by
 have:=UU.len (UU.of hk)
 grind[z8q,maxS,gd_p]
theorem ywm{p:B}(hp:p∈paths):emptyB (preB p)=false:=by
 have h:(paths.all fun p=> !(emptyB (preB p)))=true:=by decide
 grind
theorem SpG.pre{p:B}(hp:p∈paths):SpG 1 (preB p):=by refine⟨ywm hp, ?_⟩;have:=UU.path hp;exact this
theorem yem(k:B):emptyB (k,k++[0])=false:=full_iff.2 (.inr (by
 have:=zqv k [] [0];rw[aj]at this;rw[this];rfl))
theorem SpG.one{g:Nat}{k:B}(hk:k∈KU g):SpG g (k,k++[0]):=⟨yem _,UU.of hk,UU.succ hk⟩
theorem ydc{k:B}(hk:k∈keys):k∈KU 1:=by
 have h:(keys.all fun k=>(KU 1).contains k)=true:=by decide+kernel
 grind
theorem x5m{k a b:B}{x:y9}{s:Z0}(hk:k∈keys)(he:(a,b)∈ends)(hs:yh3 s=true)
  (h2:0<=x.2.2.1/\x.2.2.1<256) (h5:0<=x.2.2.2.2.2/\x.2.2.2.2.2<256) (h0:0<=x.1/\x.1<256):
  ∃r,z34 NN k a b x s=some r/\GM 1 r.2.1/\(aB x.1 6=3->r.2.1.1=(4:Int)):=by
 obtain⟨v,hv,hvm⟩:=yw8 h2.1 h2.2;have hn:=x4k h5.1 (show(0:Int)<8 by decide);have hw:aa .i64 (aB x.2.2.2.2.2 (8:Int))=aB x.2.2.2.2.2 8:=w64 (by omega) (by omega);simp only[z34,hv,hw];have no:∀{a:Int},a≠3->eqi (aB x.1 6) a=true->aB x.1 6=3->False:=fun h1 h2 h3=>h1 ((za7.1 h2).symm.trans h3);cases q0:eqi (aB x.1 6) 0
 case true=>exact⟨_,rfl, .put k v _ (ydc hk) hvm,fun h=>(no (by decide) q0 h).elim⟩
 cases q1:eqi (aB x.1 6) 1
 case true=>exact⟨_,rfl, .del k (ydc hk),fun h=>(no (by decide) q1 h).elim⟩
 cases q2:eqi (aB x.1 6) 2
 case true=>exact⟨_,rfl, .drop s (zwv.1 hs),fun h=>(no (by decide) q2 h).elim⟩
 cases q3:eqi (aB x.1 6) 3
 case true=>exact⟨_,rfl, .move (a,b) he,fun _=>rfl⟩
 cases q4:eqi (aB x.1 6) 4
 case true=>exact⟨_,rfl, .clone (a,b) he,fun h=>(no (by decide) q4 h).elim⟩
 exact⟨_,rfl, .stamp s _ (zwv.1 hs),fun h=>by simp_all⟩
theorem x5n{k:B}{x:y9}{s:Z0}(hk:k∈keys)(hs:yh3 s=true)
  (h0:0<=x.1/\x.1<256) (h1:0<=x.2.1/\x.2.1<256) (h2:0<=x.2.2.1/\x.2.2.1<256) (h3:0<=x.2.2.2.1/\x.2.2.2.1<256) (h5:0<=x.2.2.2.2.2/\x.2.2.2.2.2<256):
  ∃r,z35 NN k x s=some r/\GM 1 r.2.1/\(aB x.1 6=3->r.2.1.1=(4:Int)):=by
 obtain⟨p,hp,hpm⟩:=yjv h1.1 h1.2;obtain⟨q,hq,hqm⟩:=yjv h3.1 h3.2
 have hb:(paths.all fun p=>paths.all fun q=>okO (z1n NN p q) fun b=>okO (z1n NN q p) fun c=>
   bif b || c then ends.contains (p,bif eqs p [100,47]then[99,47]else[100,47])else ends.contains (p,q))=true:=by kernel_rfl
 obtain⟨b,hb1,hb⟩:=yeo (aE.1 (aE.1 hb p hpm) q hqm);obtain⟨c,hc1,hb⟩:=yeo hb
 have go:∀e:B,(p,e)∈ends->∃r,(match z34 NN k p e x s with
   | some r11=>(some ((),(r11.2.1,())))
   | none=>none)=some r/\GM 1 r.2.1/\(aB x.1 6=3->r.2.1.1=(4:Int)):=by grind[x5m]
 simp only[z35,hp,hq,hb1,hc1]
 grind
theorem ywy{x0 x1 x2 x3 x4 x5:Int}(h0:0<=x0/\x0<256)(h1:0<=x1/\x1<256)(h2:0<=x2/\x2<256)(h3:0<=x3/\x3<256)(h4:0<=x4/\x4<256)(h5:0<=x5/\x5<256):
  ∃m,zhi NN ((x0,x1,x2,x3,x4,x5):Int×Int×Int×Int×Int×Int)=some m/\GM 1 m/\(aB x0 6=3->m.1=(4:Int)):=by
 obtain⟨k,hk,hkm⟩:=yyz h1.1 h1.2;obtain⟨l,hl,hlm⟩:=yyz h3.1 h3.2;obtain⟨p,hp,hpm⟩:=yjv h1.1 h1.2;have hkey:(keys.all fun k=>yh3 (k,[]))=true:=by decide+kernel
 have hmm:(keys.all fun k=>keys.all fun l=>bif eqs k l then true else yh3 (bif lts k l || eqs k l then k else l,bif !(lts k l)then k else l))=true:=by decide+kernel
 have hs:=z94 hpm;have hso:=zwv.2 (SpG.pre hpm);have ho:=zxw (g:=1) (by omega) (ydc hkm);have hoo:=zwv.2 (SpG.one (ydc hkm));have hke:=aE.1 hkey k hkm;have hml:=aE.1 (aE.1 hmm k hkm) l hlm
 have go:∀s:B×B,yh3 s=true->∃m,(match z35 NN k (x0,x1,x2,x3,x4,x5) s with
   | some r17=>(some r17.2.1)
   | none=>none)=some m/\GM 1 m/\(aB x0 6=3->m.1=(4:Int)):=by
  intro s h;obtain⟨r,e1,e2⟩:=x5n (x:=(x0,x1,x2,x3,x4,x5)) (s:=s) hkm h h0 h1 h2 h3 h5
  grind
 simp only[zhi,hk,hl,hp,hs,ho];cases eqi (aB x4 4) 0
 case true=>grind
 cases eqi (aB x4 16) 1
 case true=>grind
 cases eqi (aB x4 16) 5
 case true=>exact go _ (by decide)
 grind
theorem ywx{x:y9}(hx:okT z14 x):∃m,zhi NN x=some m/\GM 1 m/\(aB x.1 6=3->m.1=(4:Int)):=
 ywy (z8w hx.1) (z8w hx.2.1) (z8w hx.2.2.1) (z8w hx.2.2.2.1) (z8w hx.2.2.2.2.1) (z8w hx.2.2.2.2.2)
theorem x1d{x:y9}(hx:okT z14 x):∃m,zhi NN x=some m/\GM 1 m:=by grind[ywx]
theorem x1f{xs:List (y9)}(hx:okT (.list z14) xs){k:Int}(hk:0<=k/\k<=24):
  ∃buf,zl1 NN xs k=some buf/\(buf.length:Int)<=k/\∀m∈buf,GM 1 m:=by
 have hmem:∀i:Int,0<=i->i<(xs.length:Int)->okT z14 (rdL (α:=y9) xs i y9d):=by intro i h0 h1;obtain⟨h,e⟩:=yzk xs i _ h0 h1;rw[e];exact hx.2 i.toNat _ (List.getElem?_eq_getElem h)
 have hl:(xs.length:Int)<=140737488351232:=by have:xs.length*6<=0x7ffffffff000:=hx.1;omega
 have loop:=ynt (A:=((((List (y9))×(Int×(Unit×Int)))×((List (Z1))×Unit)))) (R:=(Unit×((List (Z1))×Unit)))
  (f:=fun rec v=>z0z NN (fun b0 b1 b2 b3=>rec ((b0,(b1,((),b2))),(b3,()))) v.1.1 v.1.2.1 v.1.2.2.2 v.2.1)
  (fun v=>v.1.1=xs/\v.1.2.1=k/\0<=v.1.2.2.2/\v.1.2.2.2<=k/\(v.2.1.length:Int)=v.1.2.2.2/\∀m∈v.2.1,GM 1 m)
  (fun r=>(r.2.1.length:Int)<=k/\∀m∈r.2.1,GM 1 m) (fun v=>(k-v.1.2.2.2).toNat)
  (by
   rintro rec ⟨⟨b0,b1,u,i⟩,out,_⟩ ⟨rfl,rfl,h3,h4,h5,h6⟩ ih;simp only at h3 h4 h5 h6 hl hk hmem;simp only[z0z];cases e1:decide (i<(b0.length:Int))
   ·grind
   cases e2:decide (i<b1)
   ·grind
   have e1:=of_decide_eq_true e1;have e2:=of_decide_eq_true e2;obtain⟨m,hm,gm⟩:=x1d (hmem i h3 e1);simp only[cond_true];rw[gd_t (V7 h3 e1),hm];simp only;rw[gd_t (ygx (by constructor<;>grind) (by constructor<;>grind)),w64 (by omega) (by omega)];exact ih ((b0,b1,(),i+1),out++[m],()) ⟨rfl,rfl,by grind,by grind,by grind,fun m' hm'=>by grind⟩ (by grind))
  NN ((xs,k,(),0),[],()) ⟨rfl,rfl,Int.le_refl _,hk.1,rfl,fun m h=>by grind⟩ (by grind[W3])
 obtain⟨r,h1,h2⟩:=loop
 have h1:zdf NN NN xs k 0 []=some r:=(congrFun (yey (A:=((List y9)×(Int×(Unit×Int)))×((List Z1)×Unit)) (T:=Unit×((List Z1)×Unit)) (Φ:=List y9->Int->Int->List Z1->Option (Unit×((List Z1)×Unit))) (G:=z0z NN) (app:=fun f v=>f v.1.1 v.1.2.1 v.1.2.2.2 v.2.1)
  (cur:=fun r b0 b1 b2 b3=>r ((b0,(b1,((),b2))),(b3,()))) (fun _=>rfl) (fun _ _=>rfl) NN) ((xs,k,(),0),[],())).symm.trans h1
 grind[zl1]
def wr(m:Mg):List Sp:=bif eqi m.1 1 || eqi m.1 2 then[(m.2.1,m.2.1++[0])]else bif eqi m.1 4 then[preB m.2.2.2.2.1,preB m.2.2.2.2.2.1]else bif eqi m.1 5 then[preB m.2.2.2.2.2.1]else[m.2.2.2.1]
def rds(m:Mg):List Sp:=bif eqi m.1 4 || eqi m.1 5 then[preB m.2.2.2.2.1]else bif eqi m.1 6 then[m.2.2.2.1]else[]
def kls(m:Mg):List Sp:=bif eqi m.1 6 then[]else wr m
def touchB(l m:List Sp):Bool:=l.any fun a=>m.any fun b=> !(emptyB (z17 a b))
theorem z9n{g:Nat}(hg:g<1000000){m:Mg}(hm:GM g m):G3 NN m=some (wr m):=by
 cases hm with
 | put k v n hk hv=>simp only[G3,z09,cond_true,zxw hg hk];rfl
 | del k hk=>simp only[G3,show eqi (2:Int) 1=false by decide,z09,cond_true,cond_false,zxw hg hk];rfl
 | drop s hs=>rfl
 | move e he=>simp only[G3,show eqi (4:Int) 1=false by decide,show eqi (4:Int) 2=false by decide,z09,cond_true,cond_false,z94 (G0 he).1,z94 (G0 he).2];rfl
 | clone e he=>simp only[G3,show eqi (5:Int) 1=false by decide,show eqi (5:Int) 2=false by decide,show eqi (5:Int) 4=false by decide,z09,cond_true,cond_false,z94 (G0 he).2];rfl
 | stamp s n hs=>rfl
theorem zx2{g:Nat}{m:Mg}(hm:GM g m):z57 NN m=some (rds m):=by
 cases hm with
 | put k v n hk hv=>rfl
 | del k hk=>rfl
 | drop s hs=>rfl
 | move e he=>simp only[z57,z09,cond_true,z94 (G0 he).1];rfl
 | clone e he=>simp only[z57,show eqi (5:Int) 4=false by decide,z09,cond_true,cond_false,z94 (G0 he).1];rfl
 | stamp s n hs=>rfl
theorem yu2{g:Nat}(hg:g<1000000){m:Mg}(hm:GM g m):zp4 NN m=some (kls m):=by grind[zp4,kls,z9n]
theorem ycb(m:Mg):(wr m).length<=2/\(rds m).length<=1/\(kls m).length<=2:=by grind[kls,wr,rds]
theorem wr_G{g:Nat}{m:Mg}(hm:GM g m)(h1:1<=g):(∀s∈wr m,SpG g s)/\∀s∈rds m,SpG g s:=by
 have one:∀{k:B},k∈KU g->SpG g (k,k++[0]):=fun hk=>⟨yem _,UU.of hk,UU.succ hk⟩;have pr:∀{p:B},p∈paths->SpG g (preB p):=fun hp=>(SpG.pre hp).mono h1;cases hm with
 | put k v n hk hv=>grind[wr,eqi,rds]
 | del k hk=>grind[wr,eqi,rds]
 | drop s hs=>grind[wr,eqi,rds]
 | move e he=>exact⟨fun s hs=>by simp[wr,eqi]at hs;grind[G0],fun s hs=>by grind[rds,eqi,G0]⟩
 | clone e he=>grind[wr,eqi,rds,G0]
 | stamp s n hs=>grind[wr,eqi,rds]
theorem ym8{l m:List Sp}{i:Int}{q:Sp}(hi:inB i l.length=true)(hq:rdL l i Y7=q)(hl:l.length<100000000):∀(post pre:List Sp) (n:Nat),m=pre++post->post.length<n->m.length<100000000->
  zf6 NN n l m i (pre.length:Int)=some (bif post.any fun b=> !(emptyB (z17 q b))then .inl (true,())else .inr ((l,(m,i)),()))
 | _,_,0,_,h,_=>absurd h (ae _)
 | [],pre,n+1,hm,_,_=>by
  have e:decide ((pre.length:Int)<(m.length:Int))=false:=by rw[hm];simp
  rw[zk0];simp only[z45,e,cond_false,List.any_nil]
 | r::post,pre,n+1,hm,hn,hl'=>by
  simp only[ag]at hn;have hb:pre.length<9223372036854775807:=by rw[hm]at hl';simp at hl';omega
  have ih:=ym8 (m:=m) hi hq hl post (pre++[r]) n (by rw[hm];simp) (by omega) hl';rw[zk0];simp only[z45];have e1:decide ((pre.length:Int)<(m.length:Int))=true:=by rw[hm];exact Q7
  have e2:inB (pre.length:Int) m.length=true:=by rw[hm];exact U0
  have e3:rdL m (pre.length:Int) Y7=r:=by rw[hm];exact V5
  simp only[e1,e2,e3,hq,cond_true,zrg,z56];rw[gd_t hi,gd_t rfl,U1 (q:=r) hb,ih];cases e:emptyB (z17 q r)<;>simp[e]
theorem ym9{m:List Sp}(hm:m.length<100000000):∀(post pre:List Sp) (n:Nat),post.length<n->(pre++post).length<100000000->
  zf7 NN n (pre++post) m (pre.length:Int)=some (bif touchB post m then .inl (true,())else .inr ((),()))
 | _,_,0,h,_=>absurd h (ae _)
 | [],pre,n+1,_,_=>by rw[zk1];simp only[z47,aj,bj,decide_false,cond_false];rfl
 | q::post,pre,n+1,hn,hl=>by
  simp only[ag]at hn;have hb:pre.length<9223372036854775807:=by grind
  have et:touchB (q::post) m=((m.any fun b=> !(emptyB (z17 q b))) || touchB post m):=by simp[touchB]
  have h1:=ym8 (l:=pre++q::post) (m:=m) (i:=(pre.length:Int)) (q:=q) U0 V5 (by omega) m [] NN rfl (by grind[W3]) (by omega);have hz:(([]:List Sp).length:Int)=0:=rfl;rw[hz]at h1;rw[zk1];simp only[z47,Q7,cond_true,h1,et];cases e:(m.any fun b=> !(emptyB (z17 q b)))
  ·simp only[cond_false,dF];rw[U1 (q:=q) hb,Q3 (pre:=pre) (q:=q) (post:=post)];exact ym9 hm post (pre++[q]) n (by omega) (by simpa using hl)
  ·rfl
theorem zwo{l m:List Sp}(hl:l.length<100000000)(hm:m.length<100000000):zb0 NN l m=some (touchB l m):=by
 have h:=ym9 hm l [] NN (by grind[W3]) (by grind);have hz:(([]:List Sp).length:Int)=0:=rfl
 grind[zb0]
theorem yhm{m:Mg}{e:B×B}(hm1:m.2.2.2.2.1=e.1)(hm2:m.2.2.2.2.2.1=e.2)(he:e∈ends){out src:List Pr}(ho:Srt out)(hn:out.length+src.length<90000000)(hs:∀x∈src,x.1.length<1000000000/\e.1.isPrefixOf x.1=true):
  z8i NN NN (0:Int) m out src=some ((),(uniT out (src.map fun x=>(e.2++x.1.drop e.1.length,x.2)),())):=by
 have e2:=(zcb (G0 he).2).2
 have h:=ykg (xs:=src) (L:=fun n i s=>z8i NN n i m s src) (fun t x=>insT (e.2++x.1.drop e.1.length,x.2) t) (fun s=>((),(s,()))) (fun s post=>Srt s/\s.length+post.length<=out.length+src.length/\∀x∈post,x.1.length<1000000000/\e.1.isPrefixOf x.1=true)
  (fun n s _=>by simp[z49,zk3])
  (fun n pre x post s hx hi=>by
   have hb:pre.length<9223372036854775807:=by grind
   obtain⟨h1,h2,h3⟩:=hi;simp only[ag]at h2;obtain⟨x1,x2⟩:=h3 x (by simp);have hin:=ynu (e.2++x.1.drop e.1.length,x.2) s;have hbl:=congrArg ak hx;have hm:=yu1 NN x.1 e.1 e.2 (by omega) (by omega);rw[x2,cond_true]at hm;rw[zk3];rw[hx];simp only[z49,Q7,U0,cond_true,V5,hm1,hm2,hm,yj0 NN (e.2++x.1.drop e.1.length,x.2) h1 (show s.length<NN by grind[W3]) (by omega)];rw[gd_t rfl,gd_t rfl,gd_t rfl,U1 (q:=x) hb];exact⟨rfl,h1.insT _,by omega,fun y hy=>h3 y (by grind)⟩)
  (by grind[W3]) (show Srt out/\out.length+src.length<=out.length+src.length/\_ from⟨ho,ai _,hs⟩) (n:=NN)
 grind[uniT,List.foldl_map]
structure Tb (g:Nat) (t:List Pr):Prop where
 srt:Srt t
 key:∀p∈t,p.1∈KU g/\p.2.1∈values
theorem Srt.nodup{t:List Pr}(h:Srt t):(t.map (·.1)).Nodup:=by rw[eJ,db];exact h.imp fun h=>zn1 h
theorem Tb.len{g:Nat}{t:List Pr}(h:Tb g t):t.length<=20*(g+1):=by
 have:=zka h.srt.nodup (L:=KU g) (fun x hx=>by obtain⟨p,hp,rfl⟩:=aH.1 hx;exact(h.key p hp).1)
 grind[KU.length]
theorem Tb.mono{g g':Nat}(h:g<=g'){t:List Pr}(ht:Tb g t):Tb g' t:=⟨ht.srt,fun p hp=>⟨KU.mono h (ht.key p hp).1,(ht.key p hp).2⟩⟩
theorem Tb.filter{g:Nat}{t:List Pr}(h:Tb g t)(f:Pr->Bool):Tb g (t.filter f):=⟨h.srt.filter f,fun p hp=>h.key p (aV.1 hp).1⟩
theorem Tb.uni{g:Nat}{a b:List Pr}(h:Tb g a)(hb:∀p∈b,p.1∈KU g/\p.2.1∈values):Tb g (uniT a b):=by
 unfold uniT;induction b generalizing a with
 | nil=>exact h
 | cons p b ih=>
  rw[bh];refine ih ⟨h.srt.insT p,fun x hx=> ?_⟩ fun x hx=>hb x (by grind);rcases insT_mem hx with rfl | hx
  ·grind
  ·exact h.key x hx
def mvs(m:Mg):Nat:=if m.1=4\/m.1=5 then 1 else 0
theorem x2z{g:Nat}{t:List Pr}(h:Tb g t){e:B×B}(he:e∈ends):∀p∈mvd e.1 e.2 t,p.1∈KU (g+1)/\p.2.1∈values:=by intro p hp;unfold mvd at hp;obtain⟨x,hx,rfl⟩:=aH.1 hp;obtain⟨h1,h2⟩:=aV.1 hx;exact⟨KU.move (G0 he).1 (G0 he).2 (h.key x h1).1 h2,(h.key x h1).2⟩
theorem yrg{g:Nat}{t:List Pr}(h:Tb g t){m:Mg}(hm:GM g m):Tb (g+mvs m) (app m t):=by
 cases hm with
 | put k v n hk hv=>
  refine Tb.mono (bO _ _) (⟨h.srt.insT (k,v,n),fun x hx=> ?_⟩:Tb g (insT (k,v,n) t));rcases insT_mem hx with rfl | hx
  ·grind
  ·exact h.key x hx
 | del k hk=>exact(h.filter _).mono (bO _ _)
 | drop s hs=>exact(h.filter _).mono (bO _ _)
 | move e he=>exact(((h.filter fun p=> !(hasB (preB e.2) p.1)).mono (eA g)).uni (x2z h he)).filter _
 | clone e he=>exact((h.filter fun p=> !(hasB (preB e.2) p.1)).mono (eA g)).uni (x2z h he)
 | stamp s n hs=>
  refine Tb.mono (bO _ _) (⟨h.srt.map (fun p=>by grind[stp]),fun x hx=> ?_⟩:Tb g (t.map (stp s n)));obtain⟨y,hy,rfl⟩:=aH.1 hx;have:=h.key y hy
  grind[stp]
theorem yhq{g:Nat}(hg:g<1000000){t:List Pr}(h:Tb g t){m:Mg}(hm:GM g m):z58 NN t m=some (app m t):=by
 have hl:=h.len;have hN:=W3;have wo:=fun(t:List Pr) (ht:t.length<100000000) (s:Sp)=>yqo NN t [s] (by omega) (by grind) (by omega) (by simp);have wi:=fun s:Sp=>yv9 NN t [s] (by omega) (by grind) (by omega) (by simp);simp only[in1]at wo wi;cases hm with
 | put k v x hk hv=>simp only[z58,z09,cond_true,yj0 NN (k,v,x) h.srt (by omega) (by omega)];rfl
 | del k hk=>simp only[z58,show eqi (2:Int) 1=false by decide,z09,cond_true,cond_false,zxw hg hk,wo t (by omega)];rfl
 | drop s hs=>simp only[z58,show eqi (3:Int) 1=false by decide,show eqi (3:Int) 2=false by decide,z09,cond_true,cond_false,wo t (by omega)];rfl
 | stamp s x hs=>have hp:=yhk NN (zo9 s x) t [] NN (by omega) (by grind);have hz:(([]:List Pr).length:Int)=0:=rfl;simp only[ah,hz]at hp;simp only[z58,show eqi (6:Int) 1=false by decide,show eqi (6:Int) 2=false by decide,show eqi (6:Int) 3=false by decide,z09,cond_true,cond_false];rw[gd_t (Y9 (by omega) (by omega))];simp only[ah,hp];rfl
 | move e he=>
  obtain⟨h1,h2⟩:=G0 he;have a1:=h.filter fun p=> !(hasB (preB e.2) p.1);have a2:=a1.filter fun p=> !(hasB (preB e.1) p.1);have l1:=a1.len;have l2:=a2.len;have es:t.filter (fun p=>hasB (preB e.1) p.1)=t.filter (fun x=>e.1.isPrefixOf x.1):=dD fun x _=>z8z h1 x.1;have hsl:(t.filter (fun x=>e.1.isPrefixOf x.1)).length<=t.length:=bP _ _;have hm:=yhm (m:=mv 4 e) rfl rfl he a2.srt (src:=t.filter (fun x=>e.1.isPrefixOf x.1)) (by omega) (fun x hx=>⟨by have:=UU.len (UU.of (h.key x (aV.1 hx).1).1);omega,(aV.1 hx).2⟩);simp only[z58,show eqi (4:Int) 1=false by decide,show eqi (4:Int) 2=false by decide,show eqi (4:Int) 3=false by decide,show eqi (4:Int) 6=false by decide,z09,cond_true,cond_false,z94 h2,z94 h1,wo t (by omega),wi,wo (t.filter fun p=> !(hasB (preB e.2) p.1)) (by omega),es,hm];refine congrArg some (Srt.ext (ym6 _ a2.srt) ((ym6 _ a1.srt).filter _) fun k=> ?_);have hms:=h.srt.mvd e.1 e.2;show fnd (uniT ((t.filter fun p=> !(hasB (preB e.2) p.1)).filter fun p=> !(hasB (preB e.1) p.1)) (mvd e.1 e.2 t)) k=fnd ((uniT (t.filter fun p=> !(hasB (preB e.2) p.1)) (mvd e.1 e.2 t)).filter (fun p=> !(hasB (preB e.1) p.1))) k;rw[ym7 hms,zt7 (fun x=> !(hasB (preB e.1) x)),zt7 (fun x=> !(hasB (preB e.1) x)),ym7 hms,x1n,z8z h1];cases q1:e.1.isPrefixOf k
  all_goals simp_all[yq6]
 | clone e he=>obtain⟨h1,h2⟩:=G0 he;have a1:=h.filter fun p=> !(hasB (preB e.2) p.1);have l1:=a1.len;have es:t.filter (fun p=>hasB (preB e.1) p.1)=t.filter (fun x=>e.1.isPrefixOf x.1):=dD fun x _=>z8z h1 x.1;have hsl:(t.filter (fun x=>e.1.isPrefixOf x.1)).length<=t.length:=bP _ _;have hm:=yhm (m:=mv 5 e) rfl rfl he a1.srt (src:=t.filter (fun x=>e.1.isPrefixOf x.1)) (by omega) (fun x hx=>⟨by have:=UU.len (UU.of (h.key x (aV.1 hx).1).1);omega,(aV.1 hx).2⟩);simp only[z58,show eqi (5:Int) 1=false by decide,show eqi (5:Int) 2=false by decide,show eqi (5:Int) 3=false by decide,show eqi (5:Int) 6=false by decide,show eqi (5:Int) 4=false by decide,cond_false,z94 h2,z94 h1,wo t (by omega),wi,es,hm];rfl
def mvN(l:List Mg):Nat:=(l.map mvs).sum
theorem ze0(a b:List Mg):mvN (a++b)=mvN a+mvN b:=by simp[mvN]
theorem ykb:∀{ms:List Mg} {g:Nat} {t:List Pr},Tb g t->(∀m∈ms,GM g m)->Tb (g+mvN ms) (apps ms t)
 | [],_,_,h,_=>h
 | m::ms,g,t,h,hm=>by
  have:=ykb (ms:=ms) (yrg h (hm m (by simp))) (fun x hx=>(hm x (by simp[hx])).mono (bO _ _));have e:g+mvs m+mvN ms=g+mvN (m::ms):=by simp[mvN];omega
  rw[e]at this;exact this
theorem ys8:∀(post pre:List Mg) (n g:Nat) (t:List Pr),post.length<n->Big (pre++post).length->(∀m∈post,GM g m)->Tb g t->g+mvN post<1000000->
  zl2 NN n t (pre++post) (pre.length:Int)=some (apps post t,())
 | _,_,0,_,_,h,_,_,_,_=>absurd h (ae _)
 | [],pre,n+1,g,t,_,_,_,_,_=>by rw[zoq];simp only[z7j,aj,bj,decide_false,cond_false];rfl
 | m::post,pre,n+1,g,t,hn,hl,hg,ho,hb=>by
  simp only[ag]at hn;have hl':pre.length<9223372036854775807:=by grind
  have e:mvN (m::post)=mvs m+mvN post:=by simp[mvN]
  have a1:=yhq (by omega) ho (hg m (by simp));rw[zoq];simp only[z7j,Q7,U0,cond_true,V5,a1];rw[gd_t rfl,U1 (q:=m) hl',Q3,ys8 post (pre++[m]) n (g+mvs m) _ (by omega) (by grind) (fun x hx=>(hg x (by grind)).mono (bO _ _)) (yrg ho (hg m (by simp))) (by omega)];rfl
theorem ys7{ms:List Mg}{g:Nat}{t:List Pr}(hn:Big ms.length)(hm:∀m∈ms,GM g m)(ho:Tb g t)(hb:g+mvN ms<1000000):zr7 NN t ms=some (apps ms t):=by
 have h:=ys8 ms [] NN g t (by grind[W3]) (by grind) hm ho hb;have hz:(([]:List Mg).length:Int)=0:=rfl
 grind[zr7]
theorem yyx(p r:B):lts (p++r) p=false:=by
 have:=zqv p r []
 grind[ztu]
def zy3(s:Sp)(p q:B):Sp:=(q++s.1.drop p.length,bif p.isPrefixOf s.2 then q++s.2.drop p.length else(preB q).2)
theorem yjw{p:B}(hp:p∈paths):p≠[]:=by rintro rfl;simp_all[paths]
theorem yvg{s:Sp}{p q:B}(hp:p∈paths)(hq:q∈paths)(h1:p.isPrefixOf s.1=true)(l1:s.1.length<1000000)(l2:s.2.length<1000000):zp2 NN s p q=some (zy3 s p q):=by
 have hl:=(be.1 h1).length_le;have hq4:=(zcb hq).2;have hz:∀b:Bool,(bif b then(bif !(eqs s.2 [])then some 1 else none)else none:Option Nat)=none\/True:=fun _=> .inr trivial
 grind[zp2,maxS,zy3,z94,y0l,y4s,gd_p,zn4,yjw]
theorem yuh{s:Sp}{p q:B}(hp:p∈paths)(hq:q∈paths)(hs:emptyB s=false)(h1:p.isPrefixOf s.1=true){k:B}(hk:hasB (zy3 s p q) k=true):q.isPrefixOf k=true/\hasB s (p++k.drop q.length)=true:=by
 obtain⟨r,hr⟩:=be.1 h1;have hd:s.1.drop p.length=r:=by grind
 unfold zy3 at hk;rw[hd,Q8]at hk;simp only[K1,ab,au,aA]at hk;obtain⟨k1,k2⟩:=hk;have hqk:lts k q=false:=y4o (yyx q r) k1;have hpre:q.isPrefixOf k=true:=by
  rw[<-z8z hq,Q8,show(preB q).1=q from rfl,hqk];simp only[aN,aR,K1,aA];refine .inr ?_;cases e:p.isPrefixOf s.2
  ·simp_all[eqs,preB]
  ·rw[e,cond_true]at k2;have hb:hasB (preB q) (q++s.2.drop p.length)=true:=by grind[z8z]
   rw[Q8]at hb;simp only[K1,ab,aA]at hb
   grind[preB,y6,da,yjw,k8]
 refine⟨hpre, ?_⟩;obtain⟨t,rfl⟩:=be.1 hpre;rw[dt];rw[zqv]at k1;rw[Q8,<-hr,zqv,k1];simp only[aN,aR,K1,aA];cases e:p.isPrefixOf s.2
 ·rcases full_iff.1 hs with h | h
  ·simp_all
  ·refine .inr ?_;have h2:lts s.2 p=false:=by grind[z3h,ykr,yyx]
   have h3:hasB (preB p) s.2=false:=by grind[z8z]
   rw[Q8,show(preB p).1=p from rfl,h2]at h3;simp only[aN,aR,K1,cL]at h3;have hb:hasB (preB p) (p++t)=true:=by grind[z8z]
   rw[Q8]at hb;simp only[K1,ab,aA]at hb
   grind[zrh]
 ·obtain⟨r2,hr2⟩:=be.1 e;rw[e,cond_true,<-hr2,dt,zqv]at k2
  grind[zqv,y6,da,yjw]
theorem x0z{s:Sp}{p q:B}{e:Nat}(hp:p∈paths)(hq:q∈paths)(hs:SpG e s)(h1:p.isPrefixOf s.1=true):(zy3 s p q).1∈UU (e+1)/\(zy3 s p q).2∈UU (e+1):=by
 refine⟨UU.move hp hq hs.2.1 h1, ?_⟩;unfold zy3;cases h:p.isPrefixOf s.2
 ·exact UU.mono (by omega) (UU.path hq).2
 ·exact UU.move hp hq hs.2.2 h
def zq0(l:List Sp)(p q:B):List Sp:=(l.filter fun s=> !(emptyB (z17 s (preB p)))).map fun s=>zy3 (z17 s (preB p)) p q
theorem yet{s:Sp}{p:B}(hp:p∈paths)(h:emptyB (z17 s (preB p))=false):p.isPrefixOf (z17 s (preB p)).1=true:=by have:=zy6 h;simp_all[zkb,z8z]
theorem ygv{s x:Sp}{e:Nat}(hs:SpG e s)(hx:SpG e x)(h:emptyB (z17 s x)=false):SpG e (z17 s x):=by obtain⟨h1,h2⟩:=yeu s x h;exact⟨h,by rcases h1 with h1 | h1<;>rw[h1]<;>first | exact hs.2.1 | exact hx.2.1,by rcases h2 with h2 | h2<;>rw[h2]<;>first | exact hs.2.2 | exact hx.2.2⟩
theorem yya{m:Mg}{p q:B}(hp:p∈paths)(hq:q∈paths)(hm1:m.2.2.2.2.2.1=p)(hm2:m.2.2.2.2.1=q){e:Nat}(he:e<50000)(h1:1<=e):∀(post pre out:List Sp) (n:Nat),post.length<n->(pre++post).length<100000000->out.length+post.length<100000000->(∀s∈post,SpG e s)->
  z4v NN n (pre++post) (pre.length:Int) m (preB p) out=some ((),(out++zq0 post p q,()))
 | _,_,_,0,h,_,_,_=>absurd h (ae _)
 | [],pre,out,n+1,_,_,_,_=>by simp[z21,zq0,zfx]
 | s::post,pre,out,n+1,hn,hl,ho,hs=>by
  simp only[ag]at hn ho;have hb:pre.length<9223372036854775807:=by grind
  have ih:=fun out (h:out.length+post.length<100000000)=>yya hp hq hm1 hm2 he h1 post (pre++[s]) out n (by omega) (by grind) h fun x hx=>hs x (by grind);rw[zfx];simp only[z21,Q7,U0,cond_true,V5,zrg,z56,ac];rw[gd_t rfl];cases e1:emptyB (z17 s (preB p))
  ·have hG:=ygv (hs s (by simp)) ((SpG.pre hp).mono h1) e1;have l1:=UU.len hG.2.1;have l2:=UU.len hG.2.2;rw[W8 (by rfl),hm1,hm2,yvg hp hq (yet hp e1) (by omega) (by omega)];simp only[ac];rw[gd_t (Y9 (by omega) (by omega)),U1 (q:=s) hb,Q3 (pre:=pre) (q:=s) (post:=post),ih _ (by grind)]
   grind[zq0]
  ·rw[X5 (by rfl),U1 (q:=s) hb,Q3 (pre:=pre) (q:=s) (post:=post),ih _ (by omega)]
   grind[zq0]
structure Thr (e h:Nat) (l r:List Sp) (c:Nat):Prop where
 sep:Sep r
 g:∀s∈r,SpG (e+c) s
 wt:wt (h-c) (inS r)<=wt h (inS l)
theorem SpG.len{l:List Sp}{e:Nat}(hs:Sep l)(hg:∀s∈l,SpG e s):l.length<=5+48*(e+1):=by
 have:=hs.len (E:=UU e) fun s h=>(hg s h).2.1
 grind[UU.length]
theorem yi3{e h:Nat}{l x:List Sp}(he:e<40000)(hx:x.length<=2)(hs:Sep l)(hg:∀s∈l,SpG e s)(hxg:∀s∈x,SpG e s):∃r,y7 NN l x=some r/\(∀k,inS r k=(inS l k&& !(inS x k)))/\r.length<=l.length*2^x.length/\Sep r/\∀s∈r,SpG e s:=by
 have hl:=SpG.len hs hg;have hp:2^x.length<=4:=by
  have:x.length=0\/x.length=1\/x.length=2:=by omega
  grind
 have hm:l.length*2^x.length<=l.length*4:=aY _ hp;obtain⟨r,r1,r2,r3,r4,r5⟩:=ye4 (l:=l) (m:=x) (E:=UU e) (fun s h=>(hxg s h).2) (UU.nil e) (fun s h _=>(hg s h).2) (by omega) (by omega);exact⟨r,r1,r2,r3,r4,fun s h=>⟨r4.full s h,r5 s h⟩⟩
theorem ypb{e h g:Nat}(he:e<40000)(h1:1<=g)(hge:g<=e){l:List Sp}{m:Mg}(hm:GM g m)(hs:Sep l)(hg:∀s∈l,SpG e s)(hh:1<=h):∃r,z4w NN l m=some r/\Thr e h l r (mvs m):=by
 have one:∀x:List Sp,x.length<=2->(∀s∈x,SpG e s)->∃r,y7 NN l x=some r/\Thr e h l r 0:=fun x hx hxg=>by obtain⟨r,r1,r2,r3,r4,r5⟩:=yi3 he hx hs hg hxg (h:=h);exact⟨r,r1,r4,r5,zqn fun a ha=>by grind⟩
 have big:∀(x:List Sp) (ed:B×B),ed∈ends->mvs m=1->m.2.2.2.2.1=ed.1->m.2.2.2.2.2.1=ed.2->x.length<=2->(∀s∈x,SpG e s)->(∀k,ed.2.isPrefixOf k=true->inS x k=true)->
   ∃r1 r2 r3,y7 NN l x=some r1/\z4v NN NN l (0:Int) m (preB ed.2) r1=some ((),(r2,()))/\z4l NN r2=some r3/\Thr e h l r3 (mvs m):=fun x ed hed hmv em1 em2 hx hxg hto=>by
  obtain⟨p1,p2⟩:=G0 hed;obtain⟨r,r1,r2,r3,r4,r5⟩:=yi3 he hx hs hg hxg (h:=h);have hl:=SpG.len hs hg;have hrl:=SpG.len r4 r5;have h0:=yya p2 p1 em2 em1 (e:=e) (by omega) (by omega) l [] r NN (by grind[W3]) (by grind) (by omega) hg;have hz:(([]:List Sp).length:Int)=0:=rfl;simp only[ah,hz]at h0;have hml:(zq0 l ed.2 ed.1).length<=l.length:=by simp[zq0,bP]
  obtain⟨t,t1,t2,t3,t4,t5⟩:=zik NN (l:=r++zq0 l ed.2 ed.1) (by grind[W3]) (by grind);have mg:∀s∈zq0 l ed.2 ed.1,s.1∈UU (e+1)/\s.2∈UU (e+1):=fun s hs'=>by
   unfold zq0 at hs';obtain⟨y,hy,rfl⟩:=aH.1 hs';obtain⟨y1,y2⟩:=aV.1 hy;have y2:emptyB (z17 y (preB ed.2))=false:=by grind
   exact x0z p2 p1 (ygv (hg y y1) ((SpG.pre p2).mono (by omega)) y2) (yet p2 y2)
  have all:∀s∈r++zq0 l ed.2 ed.1,s.1∈UU (e+1)/\s.2∈UU (e+1):=fun s hs'=>by
   rcases am.1 hs' with hs' | hs'
   ·exact⟨UU.mono (by omega) (r5 s hs').2.1,UU.mono (by omega) (r5 s hs').2.2⟩
   grind
  refine⟨r,_,t,r1,h0,t1,t4,fun s hs'=> ?_, ?_⟩
  ·rw[hmv];obtain⟨⟨a,ha,ea⟩,b,hb,eb⟩:=t5 s hs';exact⟨t4.full s hs',by grind,by grind⟩
  ·rw[hmv];have src:∀a,inS t a=true->inS x a=false/\inS l a=true\/ed.1.isPrefixOf a=true/\inS l (ed.2++a.drop ed.1.length)=true:=fun a ha=>by
    rw[t2,znv,aA]at ha;rcases ha with ha | ha
    ·grind
    ·obtain⟨s,hs',ha⟩:=cO.1 ha;unfold zq0 at hs';obtain⟨y,hy,rfl⟩:=aH.1 hs';obtain⟨y1,y2⟩:=aV.1 hy;have y2:emptyB (z17 y (preB ed.2))=false:=by grind
     obtain⟨k1,k2⟩:=yuh p2 p1 y2 (yet p2 y2) ha;rw[zkb,ab]at k2;exact .inr ⟨k1,cO.2 ⟨y,y1,k2.1⟩⟩
   have hto':∀a,inS x a=false->ed.2.isPrefixOf a=false:=fun a ha=>by grind
   refine yy7 (fun a=>if inS x a=false/\inS l a=true then a else ed.2++a.drop ed.1.length) (fun a ha hp=> ?_) fun a b ha hb hab=> ?_
   ·by_cases c:inS x a=false/\inS l a=true
    ·rw[if_pos c];exact⟨UU.mono (by omega) ha,c.2⟩
    ·rw[if_neg c];rcases src a hp with h | ⟨k1,k2⟩
     ·grind
     ·have:=UU.move p1 p2 ha k1
      grind
   ·by_cases c:inS x a=false/\inS l a=true
    ·grind
    ·rw[if_neg c]at hab;rcases src a ha with h | ⟨k1,_⟩
     ·grind
     by_cases d:inS x b=false/\inS l b=true
     ·grind
     ·rw[if_neg d]at hab
      grind[List.append_cancel_left,zfr]
 cases hm with
 | put k v n hk hv=>obtain⟨r,r1,r2⟩:=one [(k,k++[0])] (by simp) (fun s hs'=>by simp at hs';rw[hs'];exact(SpG.one hk).mono hge);exact⟨r,by simp only[z4w,z09,cond_true,zxw (by omega) hk,ac,r1],r2⟩
 | del k hk=>obtain⟨r,r1,r2⟩:=one [(k,k++[0])] (by simp) (fun s hs'=>by simp at hs';rw[hs'];exact(SpG.one hk).mono hge);exact⟨r,by simp only[z4w,show eqi (2:Int) 1=false by decide,z09,cond_true,cond_false,zxw (by omega) hk,ac,r1],r2⟩
 | drop s hs'=>obtain⟨r,r1,r2⟩:=one [s] (by simp) (fun x hx=>by simp at hx;rw[hx];exact hs'.mono hge);exact⟨r,by simp_all[z4w,eqi],r2⟩
 | stamp s n hs'=>exact⟨l,rfl,hs,hg,ai _⟩
 | move ed hed=>
  obtain⟨p1,p2⟩:=G0 hed;obtain⟨r1,r2,r3,e1,e2,e3,e4⟩:=big [preB ed.2,preB ed.1] ed hed rfl rfl rfl (by simp) (fun s hs'=>by
   simp at hs';rcases hs' with rfl | rfl
   ·exact(SpG.pre p2).mono (by omega)
   ·exact(SpG.pre p1).mono (by omega)) (fun k hk=>by grind[inS,z8z])
  simp_all[z4w,eqi,z94,gd_t,Y9]
 | clone ed hed=>
  obtain⟨p1,p2⟩:=G0 hed;obtain⟨r1,r2,r3,e1,e2,e3,e4⟩:=big [preB ed.2] ed hed rfl rfl rfl (by simp) (fun s hs'=>by
   simp at hs';rw[hs'];exact(SpG.pre p2).mono (by omega)) (fun k hk=>by grind[inS,z8z])
  simp_all[z4w,eqi,z94]
end Ds
namespace Ds
open Go Go.Dv
set_option maxRecDepth 100000
abbrev Sl:Type:=Z8
abbrev Nd:Type:=Z6
abbrev D0:Sl:=X1
def z1m(s:Sl):List Int:=s.2.2.2.2.2.1
def z6t(s:Sl):Int:=s.2.2.1
def z74(s:Sl):Nd:=s.2.2.2
def slA(p:List Sl)(i:Int):Sl:=rdL p i D0
def W5(p:List Sl)(i:Int):Bool:=decide (0<=i)&&(decide (i<(p.length:Int))&&(slA p i).1)
def kidsU(s:Sl):List Int:=if s.1=true then z1m s else[]
def V2(p:List Sl):List Int:=p.flatMap kidsU
theorem U8{p:List Sl}{i:Int}:W5 p i=true↔0<=i/\i<(p.length:Int)/\(slA p i).1=true:=by simp[W5]
theorem zix{α:Type}{p:List α}{i:Int}{y d:α}(h0:0<=i)(h1:i<(p.length:Int)):rdL (setL p i y) i d=y:=by grind[rdL,setL]
theorem z4t{α:Type}{p:List α}{i j:Int}{y d:α}(h0:0<=i)(h1:0<=j)(h:j≠i):rdL (setL p i y) j d=rdL p j d:=by grind[rdL,setL]
@[simp] theorem za8{α:Type}(p:List α)(i:Int)(y:α):(setL p i y).length=p.length:=by simp[setL]
theorem z8x{α:Type}{p:List α}{i:Int}{d:α}(h0:0<=i)(h1:i<(p.length:Int)):rdL p i d∈p:=by grind[rdL]
theorem ygt{α:Type}{p:List α}{x:α}(d:α)(h:x∈p):∃i:Int,0<=i/\i<(p.length:Int)/\rdL p i d=x:=by obtain⟨n,hn,rfl⟩:=List.mem_iff_getElem.1 h;exact⟨(n:Int),by omega,by omega,by grind[rdL]⟩
theorem yt3(j:Int):∀(p:List Sl) (n:Nat) (y:Sl) (h:n<p.length),(V2 (p.set n y)).count j+(kidsU p[n]).count j=(V2 p).count j+(kidsU y).count j
 | [],_,_,h=>absurd h (ae _)
 | s::p,0,y,_=>by grind[V2]
 | s::p,n+1,y,h=>by have ih:=yt3 j p n y (by simpa using h);simp only[V2,dX,cH,d7,dK]at ih|-;omega
theorem y6f{p:List Sl}{i:Int}(h1:i.toNat<p.length):slA p i=p[i.toNat]:=by grind[slA,rdL]
theorem yf8(p:List Sl)(i:Int)(y:Sl)(j:Int)(h0:0<=i)(h1:i<(p.length:Int)):(V2 (setL p i y)).count j+(kidsU (slA p i)).count j=(V2 p).count j+(kidsU y).count j:=by
 have h:i.toNat<p.length:=by omega
 rw[y6f h];exact yt3 j p i.toNat y h
theorem ydb{p:List Sl}{i k:Int}(hu:W5 p i=true)(hk:k∈z1m (slA p i)):k∈V2 p:=by obtain⟨h0,h1,h2⟩:=U8.1 hu;refine dh.2 ⟨slA p i,z8x h0 h1, ?_⟩;simp_all[kidsU]
theorem x56{p:List Sl}{k:Int}(h:k∈V2 p):∃i,W5 p i=true/\k∈z1m (slA p i):=by
 obtain⟨s,hs,hk⟩:=dh.1 h;obtain⟨i,h0,h1,h2⟩:=ygt D0 hs;unfold kidsU at hk;split at hk
 ·rename_i hu;exact⟨i,U8.2 ⟨h0,h1,by grind[slA]⟩,by grind[slA]⟩
 grind
structure Bal (p:List Sl) (L:List Int):Prop where
 z:∀s∈p,s.1=false->s=D0
 lost:∀s∈p,s.2.1=false
 refs:∀i,W5 p i=true->z6t (slA p i)=((L.count i+(V2 p).count i:Nat):Int)
 mem:∀k∈L,W5 p k=true
 kid:∀k∈V2 p,W5 p k=true
 pos:∀i,W5 p i=true->0<L.count i+(V2 p).count i
 rank:∃r:Int->Nat,∀i,W5 p i=true->∀k∈z1m (slA p i),r k<r i
theorem Bal.congr{p:List Sl}{L L':List Int}(h:Bal p L)(hc:∀i,L'.count i=L.count i):Bal p L':=by refine⟨h.z,h.lost,fun i hi=>by rw[hc];exact h.refs i hi,fun k hk=> ?_,h.kid,fun i hi=>by rw[hc];exact h.pos i hi,h.rank⟩;apply h.mem;rw[<-bp,<-hc,bp];omega
structure Shr (p q:List Sl):Prop where
 len:q.length=p.length
 node:∀i,W5 q i=true->W5 p i=true/\z74 (slA q i)=z74 (slA p i)
theorem Shr.refl(p:List Sl):Shr p p:=⟨rfl,fun i h=>⟨h,rfl⟩⟩
theorem Shr.trans{p q r:List Sl}(h:Shr p q)(k:Shr q r):Shr p r:=
 ⟨k.len.trans h.len,fun i hi=>⟨(h.node i (k.node i hi).1).1,(k.node i hi).2.trans (h.node i (k.node i hi).1).2⟩⟩
theorem zn3(s:Sl):z1m s=(z74 s).2.2.1:=rfl
theorem ycp(p:List Sl)(r:Int->Nat):∃B,∀i,W5 p i=true->r i<B:=by
 have:∀n:Nat,∃B,∀i:Int,0<=i->i<(n:Int)->r i<B:=by
  intro n;induction n with
  | zero=>exact⟨0,fun i h0 h1=>by omega⟩
  | succ n ih=>
   obtain⟨B,hB⟩:=ih;refine⟨B+r n+1,fun i h0 h1=> ?_⟩
   grind
 obtain⟨B,hB⟩:=this p.length;exact⟨B,fun i hi=>by grind[U8]⟩
theorem x4f{p:List Sl}{L:List Int}(h:Bal p L)(Q:Int->Prop)(hr:∀k∈L,Q k)(hk:∀i k,W5 p i=true->Q i->k∈z1m (slA p i)->Q k):∀i,W5 p i=true->Q i:=by
 obtain⟨r,hrk⟩:=h.rank;obtain⟨B,hB⟩:=ycp p r;have:∀n i,W5 p i=true->B-r i<=n->Q i:=by
  intro n;induction n with
  | zero=>grind
  | succ n ih=>
   intro i hi hn;have hp:=h.pos i hi
   grind[bp,x56]
 exact fun i hi=>this _ i hi (ai _)
theorem zhu{p:List Sl}{L:List Int}(h:Bal p L){i:Int}(h0:0<=i)(h1:i<(p.length:Int))(hu:¬W5 p i=true):slA p i=D0:=by
 refine h.z _ (z8x h0 h1) ?_
 grind[U8]
theorem z99{p:List Sl}{i:Int}{y:Sl}(h0:0<=i)(h1:i<(p.length:Int)):slA (setL p i y) i=y:=zix h0 h1
theorem z2q{p:List Sl}{i j:Int}{y:Sl}(h0:0<=i)(h1:0<=j)(h:j≠i):slA (setL p i y) j=slA p j:=z4t h0 h1 h
theorem yec{p:List Sl}{i j:Int}{y:Sl}(h0:0<=i)(h1:i<(p.length:Int)):W5 (setL p i y) j=if j=i then y.1 else W5 p j:=by
 by_cases e:j=i
 ·subst e;rw[if_pos rfl,W5,z99 h0 h1,za8]
  grind
 ·rw[if_neg e]
  grind[W5,z2q,za8]
theorem mem_setL{p:List Sl}{i:Int}{y s:Sl}(h:s∈setL p i y):s∈p\/s=y:=List.mem_or_eq_of_mem_set h
def w7(s:Sl)(n:Int):Sl:=(s.1,(s.2.1,(n,s.2.2.2)))
theorem yop{p:List Sl}{L L':List Int}{k:Int}{n:Int}(h:Bal p L)(hk:W5 p k=true)
  (hc:∀i,i≠k->L'.count i=L.count i) (hn:n=((L'.count k+(V2 p).count k:Nat):Int)) (hp:0<L'.count k+(V2 p).count k):
  Bal (setL p k (w7 (slA p k) n)) L'/\Shr p (setL p k (w7 (slA p k) n)):=by
 obtain⟨h0,h1,h2⟩:=U8.1 hk;have hu:∀j,W5 (setL p k (w7 (slA p k) n)) j=W5 p j:=by
  intro j;rw[yec h0 h1];by_cases e:j=k
  ·subst e;rw[if_pos rfl,hk];exact h2
  grind
 have hcn:∀j,(V2 (setL p k (w7 (slA p k) n))).count j=(V2 p).count j:=by
  intro j;have:=yf8 p k (w7 (slA p k) n) j h0 h1;have e:kidsU (w7 (slA p k) n)=kidsU (slA p k):=rfl
  grind
 have hmk:∀j,j∈V2 (setL p k (w7 (slA p k) n))↔j∈V2 p:=fun j=>by rw[<-bp,hcn,bp]
 have hkd:∀j,0<=j->z1m (slA (setL p k (w7 (slA p k) n)) j)=z1m (slA p j)/\z74 (slA (setL p k (w7 (slA p k) n)) j)=z74 (slA p j):=by
  intro j hj;by_cases e:j=k
  ·subst e;rw[z99 h0 h1];exact⟨rfl,rfl⟩
  grind[z2q]
 refine⟨⟨fun s hs he=> ?_,fun s hs=> ?_,fun i hi=> ?_,fun j hj=> ?_,fun j hj=> ?_,fun i hi=> ?_, ?_⟩,⟨za8 _ _ _,fun i hi=> ?_⟩⟩
 ·rcases mem_setL hs with hs | rfl
  ·exact h.z s hs he
  ·rw[show(w7 (slA p k) n).1=(slA p k).1 from rfl,h2]at he;grind
 ·rcases mem_setL hs with hs | rfl
  ·exact h.lost s hs
  ·exact h.lost (slA p k) (z8x h0 h1)
 ·rw[hu]at hi;rw[hcn];by_cases e:i=k
  ·subst e;rw[z99 h0 h1];exact hn
  ·rw[z2q h0 (U8.1 hi).1 e,hc i e];exact h.refs i hi
 ·rw[hu];by_cases e:j=k
  ·grind
  ·apply h.mem;rw[<-bp,<-hc j e,bp];omega
 ·rw[hu];exact h.kid j ((hmk j).1 hj)
 ·rw[hu]at hi;rw[hcn];by_cases e:i=k
  ·grind
  ·rw[hc i e];exact h.pos i hi
 ·obtain⟨r,hr⟩:=h.rank;refine⟨r,fun i hi j hj=> ?_⟩
  grind[U8]
 grind[U8]
theorem yxu{p:List Sl}{L L':List Int}{k:Int}(h:Bal p L)(hk:W5 p k=true)
  (hc:∀i,i≠k->L'.count i=L.count i) (h0c:L'.count k=0) (hak:(V2 p).count k=0):
  Bal (setL p k D0) (L'++z1m (slA p k))/\Shr p (setL p k D0):=by
 obtain⟨h0,h1,h2⟩:=U8.1 hk;have hu:∀j,W5 (setL p k D0) j=if j=k then false else W5 p j:=fun j=>yec h0 h1;have hcn:∀j,(V2 (setL p k D0)).count j+(z1m (slA p k)).count j=(V2 p).count j:=by intro j;have:=yf8 p k D0 j h0 h1;have e:kidsU D0=[]:=rfl;simp_all[kidsU]
 have hne:∀j,j∈V2 p->j≠k:=fun j hj e=>by grind
 have hkne:∀j,j∈z1m (slA p k)->j≠k:=fun j hj=>hne j (ydb hk hj);have hsub:∀j,j∈V2 (setL p k D0)->j∈V2 p:=fun j hj=>by
  have:=bp.2 hj
  grind
 have hun:∀i,W5 (setL p k D0) i=true->i≠k/\W5 p i=true:=by grind
 refine⟨⟨fun s hs he=> ?_,fun s hs=> ?_,fun i hi=> ?_,fun j hj=> ?_,fun j hj=> ?_,fun i hi=> ?_, ?_⟩,⟨za8 _ _ _,fun i hi=> ?_⟩⟩
 ·rcases mem_setL hs with hs | rfl
  ·exact h.z s hs he
  ·rfl
 ·rcases mem_setL hs with hs | rfl
  ·exact h.lost s hs
  ·rfl
 ·obtain⟨e,hi⟩:=hun i hi;rw[z2q h0 (U8.1 hi).1 e,h.refs i hi,d7,hc i e]
  grind
 ·rw[hu];rcases am.1 hj with hj1 | hj
  ·have e:j≠k:=fun e=>by grind
   rw[if_neg e];apply h.mem;rw[<-bp,<-hc j e,bp];omega
  ·rw[if_neg (hkne j hj)];exact h.kid j (ydb hk hj)
 ·rw[hu,if_neg (hne j (hsub j hj))];exact h.kid j (hsub j hj)
 ·obtain⟨e,hi⟩:=hun i hi;have:=h.pos i hi
  grind
 ·obtain⟨r,hr⟩:=h.rank;refine⟨r,fun i hi j hj=> ?_⟩
  grind[z2q,U8]
 grind[z2q,U8]
theorem ziq(N:Nat)(p:List Sl)(i:Int):zbc N p i=some (W5 p i):=by
 unfold zbc W5 slA;by_cases h0:0<=i
 ·by_cases h1:i<(p.length:Int)
  ·simp_all[gd_t,V7]
  grind
 grind
theorem y88(N:Nat)(p:List Sl)(h:p.length<=100000):zby N p=some p:=by grind[zby,gd_t,Y9]
theorem yi7:∀(p:List Sl) (n:Nat) (y:Sl) (h:n<p.length),(V2 (p.set n y)).length+(kidsU p[n]).length=(V2 p).length+(kidsU y).length
 | [],_,_,h=>absurd h (ae _)
 | s::p,0,y,_=>by grind[V2]
 | s::p,n+1,y,h=>by have ih:=yi7 p n y (by simpa using h);simp only[V2,dX,cH,aq,dK]at ih|-;omega
theorem zt4(p:List Sl)(i:Int)(y:Sl)(h0:0<=i)(h1:i<(p.length:Int)):(V2 (setL p i y)).length+(kidsU (slA p i)).length=(V2 p).length+(kidsU y).length:=by
 have h:i.toNat<p.length:=by omega
 rw[y6f h];exact yi7 p i.toNat y h
theorem ytu(p:List Sl)(i:Int)(x y:Sl):setL (setL p i x) i y=setL p i y:=by simp[setL]
theorem yus{p:List Sl}{rest R:List Int}{k:Int}(h:Bal p (k::(rest++R)))(hb:rest.length+1+R.length+(V2 p).length<1000000000):
  ∃c:Int,aa .i64 (z6t (slA p k)-1)=c/\0<=c/\
   (0<c->Bal (setL p k (w7 (slA p k) c)) (rest++R)/\Shr p (setL p k (w7 (slA p k) c))/\(V2 (setL p k (w7 (slA p k) c))).length=(V2 p).length)/\
   (c=0->Bal (setL p k D0) ((rest++z1m (slA p k))++R)/\Shr p (setL p k D0)/\(V2 (setL p k D0)).length+(z1m (slA p k)).length=(V2 p).length):=by
 have hk:=h.mem k (by simp);obtain⟨h0,h1,h2⟩:=U8.1 hk;have hr:=h.refs k hk;rw[List.count_cons_self]at hr;have l1:=bA (a:=k) (l:=rest++R);have l2:=bA (a:=k) (l:=V2 p);rw[aq]at l1;have hw:aa .i64 (z6t (slA p k)-1)=(((rest++R).count k+(V2 p).count k:Nat):Int):=by grind[w64]
 have hc:∀i,i≠k->(rest++R).count i=(k::(rest++R)).count i:=fun i e=>by grind
 refine⟨_,hw,by omega,fun hpos=> ?_,fun hz=> ?_⟩
 ·obtain⟨a,b⟩:=yop h hk hc rfl (by omega);refine⟨a,b, ?_⟩;have:=zt4 p k (w7 (slA p k) (((rest++R).count k+(V2 p).count k:Nat):Int)) h0 h1;have e:kidsU (w7 (slA p k) (((rest++R).count k+(V2 p).count k:Nat):Int))=kidsU (slA p k):=rfl
  grind
 ·obtain⟨a,b⟩:=yxu h hk hc (by omega) (by omega);refine⟨a.congr fun i=>by grind,b, ?_⟩;have:=zt4 p k D0 h0 h1;have e:kidsU D0=[]:=rfl;simp_all[kidsU]
theorem yuu(k:Int)(rest:List Int):cut2 (k::rest) 1 ((k::rest).length:Int)=rest:=by simp[cut2]
theorem y0e(N:Nat)(R:List Int):∀(n:Nat) (todo:List Int) (p:List Sl),Bal p (todo++R)->todo.length+R.length+(V2 p).length<1000000000->todo.length+(V2 p).length<n->
  ∃q,zh9 N n todo p=some (((),()),((),((),(q,()))))/\Bal q R/\Shr p q
 | 0,_,_,_,_,hn=>absurd hn (ae _)
 | n+1,[],p,h,hb,hn=>by refine⟨p, ?_,by simpa using h,Shr.refl p⟩;rw[zlt];simp[z5n]
 | n+1,k::rest,p,h,hb,hn=>by
  simp only[ag]at hb hn;have hk:=h.mem k (by simp);obtain⟨h0,h1,h2⟩:=U8.1 hk;obtain⟨c,hc,hc0,hc1,hc2⟩:=yus (rest:=rest) (R:=R) h (by omega);have hrd:rdL (k::rest) (0:Int) (0:Int)=k:=rfl;rw[zlt];simp only[z5n,hrd,yuu,ziq,hk];rw[W8 (by simp),gd_t (V7 (by omega) (by simp)),gd_t (by grind)];simp only[aG,cond_false];rw[gd_t (V7 h0 h1),gd_t (V7 h0 h1)];have hx7:setL p k ((rdL p k X1).1,(((rdL p k X1).2).1,((aa .i64 ((((rdL p k X1).2).2).1-(1:Int))),((((rdL p k X1).2).2).2))))=setL p k (w7 (slA p k) c):=by rw[<-hc];rfl
  rw[hx7];have hr7:rdL (setL p k (w7 (slA p k) c)) k X1=w7 (slA p k) c:=z99 h0 h1;rw[hr7];have hc8:(((w7 (slA p k) c).2).2).1=c:=rfl;have hk8:((((((w7 (slA p k) c).2).2).2).2).2).1=z1m (slA p k):=rfl;rw[hc8,hk8,ytu,gd_t (V7 h0 (by simp_all))];by_cases hcz:c=0
  ·obtain⟨a,b,d⟩:=hc2 hcz;obtain⟨q,q1,q2,q3⟩:=y0e N R n (rest++z1m (slA p k)) _ a (by grind) (by grind);refine⟨q, ?_,q2,b.trans q3⟩;rw[W8 (za7.2 hcz),gd_t (Y9 (by omega) (by omega)),gd_t (V7 h0 (by simp_all)),gd_t (Y9 (by grind) (by omega)),gd_t (V7 h0 (by simp_all))]
   grind
  ·obtain⟨a,b,d⟩:=hc1 (by omega);obtain⟨q,q1,q2,q3⟩:=y0e N R n rest _ a (by omega) (by omega);refine⟨q, ?_,q2,b.trans q3⟩;simp_all[G6]
theorem ylp{N:Nat}(hN:2000000000<=N){p:List Sl}{id:Int}{R:List Int}(h:Bal p (id::R))(hl:p.length<=100000)(hb:R.length+(V2 p).length<500000000):
  ∃q,z4k N p id=some (q,0)/\Bal q R/\Shr p q:=by
 have hk:=h.mem id (by simp);obtain⟨q,q1,q2,q3⟩:=y0e N R N [id] p h (by grind) (by grind);refine⟨q, ?_,q2,q3⟩;unfold z4k;simp_all[ziq,y88]
def y0u(p:List Sl)(id:Int):List Sl:=setL p id (w7 (slA p id) (aa .i64 (z6t (slA p id)+1)))
theorem ylo{N:Nat}{p:List Sl}{id:Int}(hl:p.length<=100000):zbd N p id=some (if W5 p id=true then(y0u p id,0)else(p,110)):=by
 unfold zbd;rw[ziq,y88 N p hl];cases hu:W5 p id with
 | false=>rfl
 | true=>obtain⟨h0,h1,h2⟩:=U8.1 hu;simp only[aG,cond_false];rw[gd_t (V7 h0 h1),gd_t (V7 h0 h1)];rfl
theorem yx7{p:List Sl}{id:Int}{L:List Int}(h:Bal p L)(hu:W5 p id=true)(hb:L.length+(V2 p).length<1000000000):Bal (y0u p id) (id::L)/\Shr p (y0u p id)/\Shr (y0u p id) p/\(V2 (y0u p id)).length=(V2 p).length:=by
 obtain⟨h0,h1,h2⟩:=U8.1 hu;have hr:=h.refs id hu;have l1:=bA (a:=id) (l:=L);have l2:=bA (a:=id) (l:=V2 p);have hw:aa .i64 (z6t (slA p id)+1)=(((id::L).count id+(V2 p).count id:Nat):Int):=by grind[w64]
 have hb':=yop (L':=id::L) h hu (fun i e=>by grind) hw (by grind);refine⟨hb'.1,hb'.2,⟨(za8 _ _ _).symm,fun i hi=> ?_⟩, ?_⟩
 ·have hu':W5 (y0u p id) i=W5 p i:=by
   unfold y0u;rw[yec h0 h1];by_cases e:i=id
   ·subst e;rw[if_pos rfl,hu];exact h2
   grind
  exact⟨by grind,((hb'.2.node i (by grind[y0u])).2).symm⟩
 ·have:=zt4 p id (w7 (slA p id) (aa .i64 (z6t (slA p id)+1))) h0 h1;have e:kidsU (w7 (slA p id) (aa .i64 (z6t (slA p id)+1)))=kidsU (slA p id):=rfl
  grind[y0u]
theorem x57{α R:Type}(p:List α)(b:Int)(h:p.length<=100000)(hb:0<=b)(hb2:b<=1000)(k:Option R):gd ((decide (0<=(ak p:Int))&&decide ((ak p:Int)<=(ak p:Int)))&&(decide ((ak p:Int)<maxB)&&decide ((ak p:Int)*b<maxB))) k=k:=by have hmx:(maxB:Int)=4398046511104:=rfl;refine gd_t ?_ k;simp only[ab,decide_eq_true_eq,hmx];refine⟨⟨by omega,by omega⟩,by omega, ?_⟩;have:(p.length:Int)*b<=100000*1000:=Int.mul_le_mul (by omega) hb2 hb (by omega);omega
def rem:List Sl->List Bool->Nat
 | s::p,b::ks=>(if b=true then 0 else(kidsU s).length)+rem p ks
 | _,_=>0
structure SmallN (n:Nd):Prop where
 pairs:n.1.length<1000
 pivots:n.2.1=[]
 kids:n.2.2.1.length<1000
 sums:n.2.2.2.1=[]
 buf:n.2.2.2.2=[]
def z02(p:List Sl):Nat:=(p.takeWhile (fun s=>s.1)).length
def ext(p:List Sl):List Sl:=if z02 p=p.length then p++[D0]else p
def zo1(q:List Sl)(k:Int):List Sl:=setL q k (w7 (slA q k) (aa .i64 (z6t (slA q k)+1)))
def bump(q:List Sl)(ks:List Int):List Sl:=ks.foldl zo1 q
def zpc(n:Nd):Sl:=(true,(false,((1:Int),n)))
def addP(p:List Sl)(n:Nd):List Sl:=bump (setL (ext p) (z02 p:Int) (zpc n)) n.2.2.1
def addF(p:List Sl)(n:Nd):List Sl×(Int×Int):=
 if n.2.2.1.all (W5 p)=true then(if 4096<=(z02 p:Int)then(p,((0:Int),(111:Int)))else(addP p n,((z02 p:Int),(0:Int))))else(p,((0:Int),(110:Int)))
theorem yeq(p:List Sl):z02 p<=p.length:=(List.takeWhile_prefix _).length_le
theorem yrk:∀(p:List Sl) (h:(p.takeWhile (fun s=>s.1)).length<p.length),(p[(p.takeWhile (fun s=>s.1)).length]).1=false
 | [],h=>absurd h (ae _)
 | s::p,h=>by
  cases hs:s.1 with
  | false=>simp[hs]
  | true=>
   have h':(p.takeWhile (fun s=>s.1)).length<p.length:=by simpa[hs] using h
   have:=yrk p h';simpa[hs] using this
theorem y0q(p:List Sl):W5 p (z02 p:Int)=false:=by grind[z02,U8,yrk,y6f,cG]
theorem z3s{p:List Sl}{k:Int}(h:W5 p k=true):0<=k:=(U8.1 h).1
theorem zn9{p:List Sl}{k:Int}(h:W5 p k=true):k<(p.length:Int):=(U8.1 h).2.1
theorem zlc{p:List Sl}{l:List Int}:l.all (W5 p)=true↔∀k∈l,W5 p k=true:=by simp
theorem ylb{p q:List Sl}{k:Int}(h:W5 p k=true)(hq:p.length<=q.length):inB k q.length=true:=V7 (z3s h) (by have:=zn9 h;omega)
theorem zvn(q:List Sl)(k:Int):(zo1 q k).length=q.length:=za8 _ _ _
theorem yju(N:Nat)(p:List Sl)(id:Int){nd:Nd}:∀(post pre:List Int) (m:Nat) (q:List Sl),nd.2.2.1=pre++post->post.length<m->(pre++post).length<1000000000->post.all (W5 p)=true->p.length<=q.length->
  z9d N m id (pre.length:Int) nd q=some (((),(id,())),((),((),(bump q post,()))))
 | [],_,0,_,_,h,_,_,_=>absurd h (ae _)
 | _::_,_,0,_,_,h,_,_,_=>absurd h (ae _)
 | [],pre,m+1,q,hk,_,_,_,_=>by rw[zol];simp only[z7e,hk,aj,bj,decide_false,cond_false];rfl
 | k::post,pre,m+1,q,hk,hm,hb,hu,hq=>by simp only[aq,ag]at hb hm;simp only[bc,ab]at hu;have hi:=ylb hu.1 hq;rw[zol];simp only[z7e,hk,Q7,U0,V5,cond_true];rw[gd_t rfl,gd_t hi,gd_t hi,U1 (q:=k) (by omega)];exact yju N p id post (pre++[k]) m (zo1 q k) (by grind) (by omega) (by grind) hu.2 (by grind[zvn])
theorem ys5(N:Nat)(p:List Sl){nd:Nd}:∀(post pre:List Int) (m:Nat),nd.2.2.1=pre++post->post.length<m->(pre++post).length<1000000000->
  zfo N m (pre.length:Int) p nd=some (bif post.all (W5 p)then .inr (((),((),())),(p,(nd,((),()))))else .inl ((),((p,((0:Int),(110:Int))),())))
 | [],_,0,_,h,_=>absurd h (ae _)
 | _::_,_,0,_,h,_=>absurd h (ae _)
 | [],pre,m+1,hk,_,_=>by rw[zon];simp only[z7g,hk,aj,bj,decide_false,cond_false];rfl
 | k::post,pre,m+1,hk,hm,hb=>by
  simp only[aq,ag]at hb hm;have ih:=ys5 N p (nd:=nd) post (pre++[k]) m (by rw[hk];simp) (by omega) (by simp only[aq,ag,aJ];omega);rw[zon];simp only[z7g,hk,Q7,U0,V5,cond_true,ziq,bc];rw[gd_t rfl,U1 (q:=k) (by omega)];cases hu:W5 p k with
  | false=>rfl
  | true=>simp only[aG,cond_false,aR];exact ih
theorem ys4(N:Nat){nd:Nd}:∀(post pre:List Sl) (m:Nat),post.length<m->(pre++post).length<1000000000->
  zfn N m (pre.length:Int) (pre++post) nd=some (((),((),((),((pre.length+z02 post:Nat):Int)))),(pre++post,(nd,((),()))))
 | [],_,0,h,_=>absurd h (ae _)
 | _::_,_,0,h,_=>absurd h (ae _)
 | [],pre,m+1,_,_=>by rw[zom];simp only[z7f,aj,bj,decide_false,cond_false];rfl
 | s::post,pre,m+1,hm,hb=>by
  simp only[aq,ag]at hb hm;have h:=ys4 N (nd:=nd) post (pre++[s]) m (by omega) (by grind);rw[zom];simp only[z7f,Q7,U0,V5,cond_true];rw[gd_t rfl,U1 (q:=s) (by omega)];cases hs:s.1 with
  | false=>simp_all[z02]
  | true=>
   have:z02 (s::post)=z02 post+1:=by simp[z02,hs]
   grind
theorem ycl{N:Nat}(hN:2000000000<=N){p:List Sl}{n:Nd}(hl:p.length<=50000)(hk:n.2.2.1.length<1000000000):z8p N p n=some (addF p n):=by
 unfold z8p addF;have h0:=ys5 N p (nd:=n) n.2.2.1 [] N rfl (by omega) (by grind);have h0':zfo N N (0:Int) p n=_:=h0;simp only[h0'];cases hu:n.2.2.1.all (W5 p)with
 | false=>rfl
 | true=>
  simp only[cond_true,if_true,ah];have hle:=yeq p;have h1:=ys4 N (nd:=n) p [] N (by omega) (by grind);have h1':zfn N N (0:Int) p n=some (((),((),((),(z02 p:Int)))),(p,(n,((),())))):=by grind
  rw[h1']
  try simp only
  by_cases hbig:(4096:Int)<=(z02 p:Int)
  ·grind
  ·rw[X5 (by grind),if_neg hbig,y88 N p (by omega)]
   try simp only
   by_cases e:z02 p=p.length
   ·rw[W8 (za7.2 (by omega)),gd_t (Y9 (by grind) (by omega)),gd_t (V7 (by omega) (by grind))];have hx:setL (p++[D0]) (z02 p:Int) (zpc n)=setL (ext p) (z02 p:Int) (zpc n):=by simp_all[ext]
    have h2:=yju N p (z02 p:Int) (nd:=n) n.2.2.1 [] N (setL (p++[D0]) (z02 p:Int) (zpc n)) rfl (by omega) (by grind) hu (by simp);have h3:z9d N N (z02 p:Int) (0:Int) n (setL (p++[(false,(false,((0:Int),(([]:List Z7),(([]:List (List UInt8)),(([]:List Int),(([]:List X0),([]:List Z1))))))))]) (z02 p:Int) (true,(false,((1:Int),n))))=_:=h2;rw[h3,hx];rfl
   ·have hlt:z02 p<p.length:=by omega
    rw[X5 (G6 (by omega)),gd_t (V7 (by omega) (by omega))];have hx:setL p (z02 p:Int) (zpc n)=setL (ext p) (z02 p:Int) (zpc n):=by simp_all[ext]
    have h2:=yju N p (z02 p:Int) (nd:=n) n.2.2.1 [] N (setL p (z02 p:Int) (zpc n)) rfl (by omega) (by grind) hu (by simp);have h3:z9d N N (z02 p:Int) (0:Int) n (setL p (z02 p:Int) (true,(false,((1:Int),n))))=_:=h2;rw[h3,hx];rfl
theorem zqq{p:List Sl}{i:Int}(h0:0<=i)(h:(p.length:Int)<=i):slA p i=D0:=by grind[slA,rdL]
theorem yjq{p:List Sl}{i:Int}(h0:0<=i):slA (ext p) i=slA p i:=by
 unfold ext
 grind[y6f,zqq]
theorem yk8(p:List Sl):(z02 p:Int)<((ext p).length:Int)/\p.length<=(ext p).length/\(ext p).length<=p.length+1:=by
 have hle:=yeq p;unfold ext
 grind
theorem y40(p:List Sl):V2 (ext p)=V2 p:=by
 unfold ext;split
 ·simp only[V2,List.flatMap_append,cH,List.flatMap_nil];have:kidsU D0=[]:=rfl
  grind
 ·rfl
theorem yh2{p q:List Sl}(hl:p.length=q.length)(h:∀i:Int,0<=i->i<(p.length:Int)->kidsU (slA p i)=kidsU (slA q i)):V2 p=V2 q:=by
 have:p.map kidsU=q.map kidsU:=by
  apply List.ext_getElem (by grind);intro n h1 h2;simp only[ci]at h1 h2;have:=h (n:Int) (by omega) (by omega)
  grind[y6f]
 grind[V2]
theorem yoo:∀(ks:List Int) (q:List Sl),(bump q ks).length=q.length
 | [],_=>rfl
 | k::ks,q=>by have:=yoo ks (zo1 q k);rw[zvn]at this;exact this
theorem yt6:∀(ks:List Int) (q:List Sl),(∀k∈ks,0<=k/\k<(q.length:Int))->(∀i:Int,0<=i->0<=z6t (slA q i)/\z6t (slA q i)+(ks.length:Int)<1000000000000)->∀i:Int,0<=i->slA (bump q ks) i=w7 (slA q i) (z6t (slA q i)+(ks.count i:Int))
 | [],q,_,_,i,_=>by
  show slA q i=_;rw[List.count_nil];have:z6t (slA q i)+((0:Nat):Int)=z6t (slA q i):=by omega
  rw[this];rfl
 | k::ks,q,hk,hr,i,hi=>by
  obtain⟨k0,k1⟩:=hk k (by simp);have hrk:=hr k k0;simp only[ag]at hrk;have hw:aa .i64 (z6t (slA q k)+1)=z6t (slA q k)+1:=w64 (by omega) (by omega);have h1:∀j:Int,0<=j->slA (zo1 q k) j=if j=k then w7 (slA q k) (z6t (slA q k)+1)else slA q j:=by
   intro j hj;unfold zo1;rw[hw];by_cases e:j=k
   ·subst e;rw[z99 k0 k1,if_pos rfl]
   ·rw[z2q k0 hj e,if_neg e]
  have hrr:∀j:Int,0<=j->z6t (slA (zo1 q k) j)=z6t (slA q j)+(if j=k then 1 else 0):=by
   intro j hj;rw[h1 j hj];by_cases e:j=k
   ·subst e;rw[if_pos rfl,if_pos rfl];rfl
   ·rw[if_neg e,if_neg e];omega
  have ih:=yt6 ks (zo1 q k) (fun j hj=>by rw[zvn];exact hk j (by simp[hj])) (fun j hj=>by
   have:=hr j hj;simp only[ag]at this;rw[hrr j hj];split<;>omega) i hi
  show slA (bump (zo1 q k) ks) i=_;rw[ih,hrr i hi,h1 i hi,List.count_cons];by_cases e:i=k
  ·subst e;rw[if_pos rfl,if_pos rfl];simp only[beq_self_eq_true,if_true];have:z6t (slA q i)+1+(ks.count i:Int)=z6t (slA q i)+((ks.count i+1:Nat):Int):=by omega
   rw[this];rfl
  ·have e':¬k=i:=fun h=>e h.symm;rw[if_neg e,if_neg e];simp[e']
theorem ytd{p:List Sl}{n:Nd}(hu:n.2.2.1.all (W5 p)=true)(hr:∀i:Int,0<=i->0<=z6t (slA p i)/\z6t (slA p i)+(n.2.2.1.length:Int)<500000000000):
  (addP p n).length=(ext p).length/\∀i:Int,0<=i->slA (addP p n) i=if i=(z02 p:Int)then zpc n else w7 (slA p i) (z6t (slA p i)+(n.2.2.1.count i:Int)):=by
 have hlen:=yk8 p;have hs:∀i:Int,0<=i->slA (setL (ext p) (z02 p:Int) (zpc n)) i=if i=(z02 p:Int)then zpc n else slA p i:=by intro i hi;split<;>simp_all[z99,z2q,yjq]
 have hrn:z6t (zpc n)=1:=rfl;have hl0:=hr 0 (by omega);have hb:=yt6 n.2.2.1 (setL (ext p) (z02 p:Int) (zpc n)) (fun k hk=>by
  have:=zlc.1 hu k hk;have:=zn9 this;have:=z3s (zlc.1 hu k hk);simp;omega) (fun i hi=>by grind)
 refine⟨by simp[addP,yoo],fun i hi=> ?_⟩;have h:=hb i hi;unfold addP;rw[h,hs i hi];by_cases e:i=(z02 p:Int)
 ·rw[if_pos e,if_pos e];have hc:n.2.2.1.count i=0:=cU.2 fun hm=>by grind[y0q]
  rw[hc];rfl
 grind
theorem x1x{p:List Sl}{n:Nd}{R:List Int}(h:Bal p R)(hu:n.2.2.1.all (W5 p)=true)(hb:R.length+(V2 p).length+n.2.2.1.length<1000000000):
  Bal (addP p n) (R++[(z02 p:Int)])/\(V2 (addP p n)).length=(V2 p).length+n.2.2.1.length:=by
 have hrefs:∀i:Int,0<=i->0<=z6t (slA p i)/\z6t (slA p i)+(n.2.2.1.length:Int)<500000000000:=by
  intro i hi;by_cases hui:W5 p i=true
  ·rw[h.refs i hui]
   grind
  ·by_cases hi1:i<(p.length:Int)
   ·rw[zhu h hi hi1 hui];have:z6t D0=0:=rfl;omega
   ·rw[zqq hi (by omega)];have:z6t D0=0:=rfl;omega
 obtain⟨hl,hat⟩:=ytd hu hrefs;have hlen:=yk8 p;have hid:=y0q p;have hused:∀i:Int,W5 (addP p n) i=true↔i=(z02 p:Int)\/W5 p i=true:=by
  intro i;constructor
  ·intro hi;obtain⟨h0,h1,h2⟩:=U8.1 hi;by_cases e:i=(z02 p:Int)
   ·omega
   ·rw[hat i h0,if_neg e]at h2;have h2:(slA p i).1=true:=h2
    grind[U8,zqq]
  ·rintro(rfl | hi)
   ·refine U8.2 ⟨by omega,by omega, ?_⟩;rw[hat _ (by omega),if_pos rfl];rfl
   ·obtain⟨h0,h1,h2⟩:=U8.1 hi;have e:i≠(z02 p:Int):=fun e=>by grind
    refine U8.2 ⟨h0,by omega, ?_⟩;rw[hat i h0,if_neg e];exact h2
 have hak:V2 (addP p n)=V2 (setL (ext p) (z02 p:Int) (zpc n)):=by
  refine yh2 (by simp_all) fun i h0 h1=> ?_;rw[hat i h0];by_cases e:i=(z02 p:Int)
  ·simp_all[z99]
  ·rw[if_neg e,z2q (by omega) h0 e,yjq h0];rfl
 have hkD:kidsU (slA (ext p) (z02 p:Int))=[]:=by
  rw[yjq (by omega)];by_cases hlt:(z02 p:Int)<(p.length:Int)
  ·rw[zhu h (by omega) hlt (by grind)];rfl
  ·rw[zqq (by omega) (by omega)];rfl
 have hkn:kidsU (zpc n)=n.2.2.1:=rfl;have hcnt:∀j,(V2 (addP p n)).count j=(V2 p).count j+n.2.2.1.count j:=by grind[yf8,y40]
 have hmem:∀j,j∈V2 (addP p n)->W5 p j=true:=by
  intro j hj;have h1:=bp.2 hj;rw[hcnt]at h1;by_cases hc:0<(V2 p).count j
  ·exact h.kid j (bp.1 hc)
  grind
 have hc0:R.count (z02 p:Int)=0/\(V2 (addP p n)).count (z02 p:Int)=0:=by
  refine⟨cU.2 fun hm=> ?_,cU.2 fun hm=> ?_⟩
  ·have:=h.mem _ hm;grind
  grind
 have hR:∀i:Int,(R++[(z02 p:Int)]).count i=R.count i+(if i=(z02 p:Int)then 1 else 0):=by grind
 refine⟨⟨fun s hs he=> ?_,fun s hs=> ?_,fun i hi=> ?_,fun k hk=> ?_,fun k hk=>(hused k).2 (.inr (hmem k hk)),fun i hi=> ?_, ?_⟩, ?_⟩
 ·obtain⟨i,h0,h1,h2⟩:=ygt D0 hs;have h2:slA (addP p n) i=s:=h2;rw[hat i h0]at h2;by_cases e:i=(z02 p:Int)
  ·rw[if_pos e]at h2;subst h2;cases he
  ·rw[if_neg e]at h2;subst h2;have he:(slA p i).1=false:=he;have hnu:¬W5 p i=true:=fun hh=>by grind[U8]
   have hc:n.2.2.1.count i=0:=cU.2 fun hm=>hnu (zlc.1 hu i hm);have hz:slA p i=D0:=by grind[zhu,zqq]
   rw[hz,hc];rfl
 ·obtain⟨i,h0,h1,h2⟩:=ygt D0 hs;have h2:slA (addP p n) i=s:=h2;rw[hat i h0]at h2;by_cases e:i=(z02 p:Int)
  ·rw[if_pos e]at h2;subst h2;rfl
  ·rw[if_neg e]at h2;subst h2;show(slA p i).2.1=false;by_cases hlt:i<(p.length:Int)
   ·exact h.lost _ (z8x h0 hlt)
   grind[zqq]
 ·rw[hR,hcnt];rcases(hused i).1 hi with rfl | hip
  ·have:=hcnt (z02 p:Int);rw[hat _ (by omega),if_pos rfl,if_pos rfl,hc0.1];have:z6t (zpc n)=1:=rfl;omega
  ·have e:i≠(z02 p:Int):=fun e=>by grind
   rw[hat i (z3s hip),if_neg e,if_neg e];have:∀x,z6t (w7 (slA p i) x)=x:=fun _=>rfl;rw[this,h.refs i hip];omega
 ·rcases am.1 hk with hk | hk
  ·exact(hused k).2 (.inr (h.mem k hk))
  grind
 ·rw[hR,hcnt];rcases(hused i).1 hi with rfl | hip
  ·grind
  ·have:=h.pos i hip;omega
 ·obtain⟨r,hr⟩:=h.rank;obtain⟨B,hB⟩:=ycp p r;refine⟨fun j=>if j=(z02 p:Int)then B else r j,fun i hi k hk=> ?_⟩;have kne:∀k,W5 p k=true->k≠(z02 p:Int):=fun k hk e=>by grind
  rcases(hused i).1 hi with rfl | hip
  ·rw[hat _ (by omega),if_pos rfl]at hk;have hk:k∈n.2.2.1:=hk
   grind
  ·have e:=kne i hip;rw[hat i (z3s hip),if_neg e]at hk;have hk:k∈z1m (slA p i):=hk;have hku:=h.kid k (ydb hip hk)
   grind
 grind[zt4,y40]
end Ds
namespace Ds
open Go Go.Dv
set_option maxRecDepth 100000
variable [Fuel]
theorem Thr.comp{e h c c':Nat}{l r t:List Sp}(a:Thr e h l r c)(b:Thr (e+c) (h-c) r t c'):Thr e h l t (c+c'):=
 ⟨b.sep,by rw[<-cI];exact b.g,by rw[<-Nat.sub_sub];exact aP b.wt a.wt⟩
theorem yyu(m:Mg):mvs m<=1:=by grind[mvs]
theorem ymi(buf:List Mg){g:Nat}(hg1:1<=g)(hm:∀m∈buf,GM g m)(hbl:buf.length<100000000):∀(j:Nat) (l:List Sp) (n e h:Nat),j<=buf.length->j<n->g<=e->e+mvN (buf.take j)<40000->mvN (buf.take j)<h->Sep l->(∀s∈l,SpG e s)->
  ∃r,zf5 NN n buf l ((j:Int)-1)=some (r,())/\Thr e h l r (mvN (buf.take j))
 | _,_,0,_,_,_,h,_,_,_,_,_=>absurd h (ae _)
 | 0,l,n+1,e,h,_,_,_,_,_,hs,hg=>by refine⟨l, ?_,hs,hg,ai _⟩;constructor<;>grind
 | j+1,l,n+1,e,h,hj,hn,hge,he,hh,hs,hg=>by
  have ht:buf.take (j+1)=buf.take j++[buf[j]]:=by simp
  have hmv:mvN (buf.take (j+1))=mvN (buf.take j)+mvs buf[j]:=by grind[mvN]
  obtain⟨r,r1,r2⟩:=ypb (e:=e) (h:=h) (by omega) hg1 hge (hm buf[j] (List.getElem_mem _)) hs hg (by omega);obtain⟨t,t1,t2⟩:=ymi buf hg1 hm hbl j r n (e+mvs buf[j]) (h-mvs buf[j]) (by omega) (by omega) (by omega) (by omega) (by omega) r2.sep r2.g;refine⟨t, ?_,by rw[hmv,Nat.add_comm];exact r2.comp t2⟩;rw[zwb];simp only[z7y];have e1:((j+1:Nat):Int)-1=(j:Int):=by omega
  have e2:rdL buf (j:Int) K3=buf[j]:=by rw[yyh (x:=buf[j]) (by omega) (by simp)]
  rw[e1,W8 (by simp),gd_t (V7 (by omega) (by omega)),e2,r1]
  grind[w64]
theorem yvb{buf:List Mg}{g:Nat}(hg1:1<=g)(hm:∀m∈buf,GM g m)(hbl:buf.length<100000000){e h:Nat}(hge:g<=e)(he:e+mvN buf<40000)(hh:mvN buf<h){s:Sp}(hs:SpG e s):
  ∃r,zp1 NN s buf=some r/\Sep r/\(∀x∈r,SpG (e+mvN buf) x)/\wt (h-mvN buf) (inS r)<=wt h (hasB s):=by
 obtain⟨r,r1,r2,r3,r4,r5⟩:=zik NN (l:=[s]) (by grind[W3]) (by simp);have hr:∀x∈r,SpG e x:=fun x hx=>by
  obtain⟨⟨a,ha,ea⟩,b,hb,eb⟩:=r5 x hx
  grind
 have htk:buf.take buf.length=buf:=List.take_length;obtain⟨t,t1,t2⟩:=ymi buf hg1 hm hbl buf.length r NN e h (ai _) (by grind[W3]) hge (by grind) (by grind) r4 hr;rw[htk]at t2;refine⟨t, ?_,t2.sep,t2.g,aP t2.wt (zqn fun a ha=>by grind[inS])⟩
 grind[zp1,w64]
theorem x1j(N:Nat)(s:Sp)(k:B):zx0 N s k=some (hasB s k):=by grind[zx0,hasB]
theorem yha{t:List Pr}{i:Int}{x:Pr}(hi:inB i t.length=true)(hx:rdL t i X6=x)(out:List Pr):∀(post pre:List Sp) (b:Bool) (n:Nat),post.length<n->(pre++post).length<100000000->
  zdb NN n t (pre++post) i b (pre.length:Int) out=some ((t,(pre++post,((),(i,b || inS post x.1)))),(out,()))
 | _,_,_,0,h,_=>absurd h (ae _)
 | [],pre,b,n+1,_,_=>by rw[zh5];simp only[z2y,aj,bj,decide_false,cond_false];simp[inS]
 | s::post,pre,b,n+1,hn,hl=>by
  simp only[ag]at hn;have hb:pre.length<9223372036854775807:=by simp at hl;omega
  have ih:=fun b=>yha hi hx out post (pre++[s]) b n (by omega) (by simpa using hl);rw[zh5];simp only[z2y,Q7,U0,cond_true,V5,hx,x1j,ac];cases b
  ·rw[cond_false,gd_t rfl,gd_t hi,U1 (q:=s) hb,Q3 (pre:=pre) (q:=s) (post:=post),ih];simp[inS]
  ·rw[cond_true,U1 (q:=s) hb,Q3 (pre:=pre) (q:=s) (post:=post),ih];simp
theorem yh9{t:List Pr}{l:List Sp}(ht:t.length<100000000)(hl:l.length<100000000):zfm NN t l=some (t.filter fun p=>inS l p.1):=by
 have h:=ykg (xs:=t) (L:=fun n i s=>zdc NN n t l i s) (fun o x=>bif inS l x.1 then o++[x]else o) (fun s=>((),(s,()))) (fun s post=>s.length+post.length<100000000)
  (fun n s _=>by simp[z2z,zh6])
  (fun n pre x post s hx hi=>by
   simp only[ag]at hi;have hb:pre.length<9223372036854775807:=by grind
   have h1:=yha (t:=pre++x::post) (i:=(pre.length:Int)) (x:=x) U0 V5 s l [] false NN (by grind[W3]) (by grind);have hz:(([]:List Sp).length:Int)=0:=rfl;simp only[ah,hz,dF]at h1;rw[zh6];rw[hx];simp only[z2z,Q7,cond_true,h1,ac,U0,V5];rw[U1 (q:=x) hb];cases inS l x.1
   ·grind
   ·rw[cond_true,gd_t rfl,gd_t (Y9 (by grind) (by omega))]
    grind) (n:=NN) (s:=[]) (by grind[W3]) (by grind)
 grind[zfm,yf2]
mutual
inductive Tr where
 | leaf (ps:List Pr)
 | node (ks:Trs) (piv:List B) (buf:List Mg)
inductive Trs where
 | nil
 | cons (t:Tr) (ts:Trs)
end
def Trs.len:Trs->Nat
 | .nil=>0
 | .cons _ ts=>ts.len+1
mutual
def Tr.mv:Tr->Nat
 | .leaf _=>0
 | .node ks _ buf=>ks.mv+mvN buf
def Trs.mv:Trs->Nat
 | .nil=>0
 | .cons t ts=>t.mv+ts.mv
end
mutual
def Tr.ht:Tr->Nat
 | .leaf _=>0
 | .node ks _ _=>ks.ht+1
def Trs.ht:Trs->Nat
 | .nil=>0
 | .cons t ts=>max t.ht ts.ht
end
mutual
def Unf(p:List Sl):Int->Tr->Prop
 | i, .leaf ps=>W5 p i=true/\(slA p i).2.1=false/\z74 (slA p i)=(ps,([],([],([],[]))))
 | i, .node ks piv buf=>W5 p i=true/\(slA p i).2.1=false/\∃kids sums,z74 (slA p i)=([],(piv,(kids,(sums,buf))))/\sums.length=kids.length/\kids≠[]/\UnfL p kids ks
def UnfL(p:List Sl):List Int->Trs->Prop
 | [], .nil=>True
 | k::kids, .cons t ts=>Unf p k t/\UnfL p kids ts
 | _,_=>False
end
theorem UnfL.len{p:List Sl}:∀{ks:Trs} {kids:List Int},UnfL p kids ks->kids.length=ks.len
 | .nil,[],_=>rfl
 | .nil,_::_,h=>by grind[UnfL]
 | .cons _ _,[],h=>by grind[UnfL]
 | .cons t ts,k::kids,h=>by simp only[UnfL]at h;simp only[ag,Trs.len,UnfL.len h.2]
def LiesIn(s:Sp)(m:Mg):Prop:=∀x∈wr m++rds m,∀k,hasB x k=true->hasB s k=true
mutual
def VT(g:Nat):B->B->Tr->Prop
 | lo,hi, .leaf ps=>Tb g ps/\∀p∈ps,hasB (lo,hi) p.1=true
 | lo,hi, .node ks piv buf=>VTs g lo hi ks piv/\∀m∈buf,GM g m/\LiesIn (lo,hi) m
def VTs(g:Nat):B->B->Trs->List B->Prop
 | lo,hi, .cons t .nil,[]=>VT g lo hi t
 | lo,hi, .cons t (.cons u ts),q::piv=>q∈KU g/\lts lo q=true/\K1 q hi=true/\VT g lo q t/\VTs g q hi (.cons u ts) piv
 | _,_,_,_=>False
end
def z73(s:Sp)(lo:B):List B->List Sp
 | []=>[z17 s (lo,[])]
 | p::r=>z17 s (lo,p)::z73 s p r
theorem zx4(s:Sp):∀(l:List B) (lo:B),(z73 s lo l).length=l.length+1
 | [],_=>rfl
 | p::r,_=>by simp[z73,zx4 s r p]
theorem yhl(s:Sp):∀(post pre:List B) (lo:B) (n:Nat) (out:List Sp),post.length<n->(pre++post).length<100000000->out.length<=pre.length->
  ∃q last,zfb NN n (pre++post) lo (pre.length:Int) s out=some (((),((),last)),(s,(q,())))/\q++[z17 s (last,[])]=out++z73 s lo post/\q.length<=(pre++post).length
 | _,_,_,0,_,h,_,_=>absurd h (ae _)
 | [],pre,lo,n+1,out,_,_,ho=>⟨out,lo,by simp[z4b,zk5],rfl,by grind⟩
 | p::post,pre,lo,n+1,out,hn,hb,ho=>by
  have hb':pre.length+(post.length+1)<100000000:=by grind
  obtain⟨q,last,h1,h2,h3⟩:=yhl s post (pre++[p]) p n (out++[z17 s (lo,p)]) (by grind) (by grind) (by grind);rw[<-Q3]at h1 h3;refine⟨q,last, ?_,by grind[z73],h3⟩;rw[zk5,z4b,Q7,cond_true,gd_t U0,V5,zrg]
  grind[gd_t,Y9,U0,U1]
theorem y7n(s:Sp){l:List B}(h:l.length<100000000):ziv NN s l=some (z73 s [] l):=by
 obtain⟨q,last,h1,h2,h3⟩:=yhl s l [] [] NN [] (by grind[W3]) (by grind) (ai _);simp only[ah,aJ]at h1 h2 h3;rw[show((0:Nat):Int)=0 from rfl]at h1
 grind[ziv,zrg,gd_t,Y9]
theorem yx3{s:Sp}{g:Nat}{m:Mg}(hm:GM g m)(h:LiesIn s m){t:List Pr}(ht:∀p∈t,hasB s p.1=true):∀p∈app m t,hasB s p.1=true:=by
 have hw:∀x∈wr m,∀k,hasB x k=true->hasB s k=true:=fun x hx=>h x (bo _ hx);have mvd_in:∀{e:B×B},e∈ends->preB e.2∈wr m->∀p∈mvd e.1 e.2 t,hasB s p.1=true:=fun {e} he hp p hp'=>by unfold mvd at hp';obtain⟨x,hx,rfl⟩:=aH.1 hp';exact hw _ hp _ (by grind[z8z,G0])
 have uni_in:∀{a b:List Pr},(∀p∈a,hasB s p.1=true)->(∀p∈b,hasB s p.1=true)->∀p∈uniT a b,hasB s p.1=true:=by
  intro a b ha hb;unfold uniT;induction b generalizing a with
  | nil=>grind
  | cons q b ih=>
   rw[bh];refine ih (fun p hp=> ?_) fun p hp=>hb p (by grind)
   grind[insT_mem]
 have fl:∀f:Pr->Bool,∀p∈t.filter f,hasB s p.1=true:=fun f p hp=>ht p (aV.1 hp).1;cases hm with
 | put k v n hk hv=>
  intro p hp;rcases insT_mem (p:=(k,v,n)) hp with rfl | hp
  ·exact hw (k,k++[0]) (by simp[wr]) k (zy6 (yem k))
  grind
 | del k hk=>exact fl _
 | drop x hx=>exact fl _
 | move e he=>exact fun p hp=>uni_in (fl _) (mvd_in he (by simp[wr,eqi])) p (aV.1 hp).1
 | clone e he=>exact uni_in (fl _) (mvd_in he (by simp[wr,eqi]))
 | stamp x n hx=>
  intro p hp;obtain⟨y,hy,rfl⟩:=aH.1 (show p∈t.map (stp x n)from hp)
  grind[stp]
theorem y7t{s:Sp}{g:Nat}:∀{ms:List Mg} {t:List Pr},(∀m∈ms,GM g m/\LiesIn s m)->(∀p∈t,hasB s p.1=true)->∀p∈apps ms t,hasB s p.1=true
 | [],_,_,ht=>ht
 | m::ms,t,h,ht=>y7t (ms:=ms) (fun x hx=>h x (by grind)) (yx3 (h m (by simp)).1 (h m (by simp)).2 ht)
theorem ysk{buf:List Mg}{g:Nat}(hg1:1<=g)(hm:∀m∈buf,GM g m)(hbl:buf.length<100000000){e h:Nat}(hge:g<=e)(he:e+mvN buf<40000)(hh:mvN buf<h)(heh:e+mvN buf<=h-mvN buf)
  (self:List Sl->Int->Sp->List Sp->Option (List Pr×Int)) (p:List Sl) (s0:Sp) {nd:Nd} (hnd:nd.2.2.2.2=buf):∀(post pre out:List Sp) (n:Nat),post.length<n->(pre++post).length<100000000->out.length+wts h post<100000000->(∀s∈post,SpG e s)->
  ∃r,zh7 NN self n (pre++post) (pre.length:Int) p s0 nd out=some ((pre++post,((),((),((),())))),(p,(s0,(nd,(out++r,())))))/\(∀x∈r,SpG (e+mvN buf) x)/\wts (h-mvN buf) r<=wts h post
 | _,_,_,0,h,_,_,_=>absurd h (ae _)
 | [],pre,out,n+1,_,_,_,_=>by simp[wts,z5m,zls]
 | s::post,pre,out,n+1,hn,hl,ho,hs=>by
  simp only[ag]at hn;have hb:pre.length<9223372036854775807:=by grind
  have ew:wts h (s::post)=wt h (hasB s)+wts h post:=by simp[wts]
  obtain⟨r,r1,r2,r3,r4⟩:=yvb hg1 hm hbl hge he hh (hs s (by simp));have hsp:=yjm (g:=h-mvN buf) r2;have hrl:r.length<=wts (h-mvN buf) r:=y50 fun x hx=>⟨(r3 x hx).1,UU.mono heh (r3 x hx).2.1⟩;obtain⟨t,t1,t2,t3⟩:=ysk hg1 hm hbl hge he hh heh self p s0 hnd post (pre++[s]) (out++r) n (by omega) (by grind) (by grind) fun x hx=>hs x (by grind);refine⟨r++t, ?_,fun x hx=> ?_,by grind[yp8]⟩
  ·rw[zls];simp only[z5m,Q7,U0,cond_true,V5,hnd,r1,ac]
   grind[gd_t,Y9,U1]
  grind
theorem ycg{a b:List Pr}(ha:Srt a)(hb:Srt b)(h:∀x∈a,∀y∈b,lts x.1 y.1=true):Srt (a++b):=bz.2 ⟨ha,hb,h⟩
theorem yr8{p:List Sl}{i:Int}(hu:W5 p i=true)(hl:(slA p i).2.1=false):zce NN p i=some (z74 (slA p i),0):=by obtain⟨h0,h1,_⟩:=U8.1 hu;unfold zce;rw[ziq,hu];simp only[aG,cond_false];have hl':((rdL p i X1).2).1=false:=hl;rw[gd_t (V7 h0 h1),X5 hl',gd_t (V7 h0 h1)];rfl
def x5g(p:List Sl)(n:Nat)(T:Tr):Prop:=∀(id:Int) (s:Sp) (l:List Sp) (e h g:Nat) (lo hi:B),Unf p id T->VT g lo hi T->1<=g->g<=e->e+T.mv<40000->e+2*T.mv<=h->(∀x∈l,SpG e x)->wts h l<10000000->
  ∃out,z1t NN n p id s l=some (out,0)/\Tb (g+T.mv) out/\∀x∈out,hasB (lo,hi) x.1=true/\inS l x.1=true
mutual
def FitT:Tr->Prop
 | .leaf _=>True
 | .node ks _ buf=>buf.length<100000000/\FitTs ks
def FitTs:Trs->Prop
 | .nil=>True
 | .cons t ts=>FitT t/\FitTs ts
end
def Trs.has(t:Tr):Trs->Prop
 | .nil=>False
 | .cons u us=>t=u\/us.has t
theorem Trs.has_ht{t:Tr}:∀{ks:Trs},ks.has t->t.ht<=ks.ht/\t.mv<=ks.mv/\sizeOf t<sizeOf ks
 | .nil,h=>h.elim
 | .cons u us,h=>by
  rcases h with rfl | h
  ·grind[Trs.ht,Trs.mv]
  ·have:=Trs.has_ht (ks:=us) h
   grind[Trs.ht,Trs.mv]
theorem FitTs.has{t:Tr}:∀{ks:Trs},FitTs ks->ks.has t->FitT t
 | .nil,_,h=>h.elim
 | .cons u us,hf,h=>by
  simp only[FitTs]at hf;rcases h with rfl | h
  ·exact hf.1
  ·exact FitTs.has hf.2 h
theorem VTs.piv{g:Nat}{hi:B}:∀{ks:Trs} {piv:List B} {lo:B},VTs g lo hi ks piv->piv.Pairwise (fun a b=>lts a b=true)/\(∀q∈piv,q∈KU g/\lts lo q=true)/\ks.len=piv.length+1
 | .nil,_,_,h=>by grind[VTs]
 | .cons t .nil,[],_,h=>⟨aX.nil,(fun q h=>by cases h),rfl⟩
 | .cons t .nil,_::_,_,h=>by grind[VTs]
 | .cons t (.cons u us),[],_,h=>by grind[VTs]
 | .cons t (.cons u us),q::piv,lo,h=>by
  simp only[VTs]at h;obtain⟨i1,i2,i3⟩:=VTs.piv h.2.2.2.2;refine⟨aD.2 ⟨fun x hx=>(i2 x hx).2,i1⟩,fun x hx=> ?_, ?_⟩
  ·rcases ar.1 hx with rfl | hx
   ·exact⟨h.1,h.2.1⟩
   ·exact⟨(i2 x hx).1,k8 h.2.1 (i2 x hx).2⟩
  ·simp only[Trs.len,ag]at i3|-;omega
theorem VTs.plen{g:Nat}{lo hi:B}{ks:Trs}{piv:List B}(h:VTs g lo hi ks piv):piv.length<=20*(g+1):=by
 obtain⟨h1,h2,_⟩:=VTs.piv h;have:=zka (L:=KU g) (h1.imp fun h=>zn1 h) fun q hq=>(h2 q hq).1
 grind[KU.length]
theorem zij{x q hi:B}(h:lts x q=true)(hb:K1 q hi=true):K1 x hi=true:=by
 simp only[K1,aA]at hb|-
 grind[k8]
theorem yhh{p:List Sl}{n:Nat}{l need:List Sp}{e h g G:Nat}(hg1:1<=g)(hge:g<=e)(hG:G<40000){hi:B}{nd:Nd}{sp:List Sp}(hneed:∀x∈need,SpG e x)(hw:wts h need<10000000)(heh:e<=h)(hks:nd.2.2.1.length<10000001)(hsp:sp.length=nd.2.2.1.length):
  ∀(ks:Trs) (post pre:List Int) (piv:List B) (lo:B) (m:Nat) (all:List Pr),nd.2.2.1=pre++post->post.length<m->UnfL p post ks->VTs g lo hi ks piv->e+ks.mv<40000->e+2*ks.mv<=h->g+ks.mv<=G->
   (∀(k:Int) (t:Tr) (s:Sp) (a b:B),ks.has t->Unf p k t->VT g a b t->∃out,z1t NN n p k s need=some (out,0)/\Tb (g+t.mv) out/\∀x∈out,hasB (a,b) x.1=true/\inS need x.1=true)->
   Tb G all->(∀x∈all,lts x.1 lo=true)->
   ∃r,zcr NN (z1t NN n) m l need sp (pre.length:Int) p nd all=some (.inr ((l,((),())),(nd,(all++r,()))))/\Tb G (all++r)/\∀x∈r,hasB (lo,hi) x.1=true
 | _,_,_,_,_,0,_,_,h,_,_,_,_,_,_,_,_=>absurd h (ae _)
 | .nil,post,pre,piv,lo,m+1,all,hk,hm,hu,hv,_,_,_,_,_,_=>by grind[VTs]
 | .cons t ts,[],pre,piv,lo,m+1,all,hk,hm,hu,hv,_,_,_,_,_,_=>by grind[UnfL]
 | .cons t ts,k::post,pre,piv,lo,m+1,all,hk,hm,hu,hv,he,heh2,hgG,ih,hall,hlo=>by
  simp only[ag]at hm;have hlen:nd.2.2.1.length=pre.length+(post.length+1):=by grind
  have hb:pre.length<9223372036854775807:=by omega
  simp only[UnfL]at hu;simp only[Trs.mv]at he heh2 hgG ih;have hnl:need.length<10000000:=bE (y50 fun x hx=>⟨(hneed x hx).1,UU.mono heh (hneed x hx).2.1⟩) hw;obtain⟨q,hvt,hqhi,hqq⟩:∃q,VT g lo q t/\(∀x,hasB (lo,q) x=true->hasB (lo,hi) x=true)/\∀q' r,piv=q'::r->q=q':=by
   cases ts with
   | nil=>
    cases piv with
    | nil=>grind[VTs]
    | cons _ _=>grind[VTs]
   | cons u us=>
    cases piv with
    | nil=>grind[VTs]
    | cons q piv=>
     simp only[VTs]at hv;refine⟨q,hv.2.2.2.1,fun x hx=> ?_,fun q' r h=>by grind⟩;rw[Q8]at hx|-;simp only[K1,ab,aA]at hx|-;refine⟨hx.1, ?_⟩;rcases hx.2 with h' | h'
     ·grind[y6,KU.ne]
     ·have:=zij h' hv.2.2.1
      grind[K1]
  have hcut:cut2 sp (pre.length:Int) ((pre++[k]).length:Int)=(sp.drop pre.length).take 1:=by simp[cut2]
  have hcl:((sp.drop pre.length).take 1).length<=1:=by grind
  have ht:=zwo (l:=need) (m:=(sp.drop pre.length).take 1) (by omega) (by omega);have next:∀all',Tb G all'->(∀x∈all',(lts x.1 lo=true\/hasB (lo,q) x.1=true))->∃r,zcr NN (z1t NN n) m l need sp ((pre++[k]).length:Int) p nd all'=some (.inr ((l,((),())),(nd,(all'++r,()))))/\Tb G (all'++r)/\∀x∈r,hasB (lo,hi) x.1=true:=by
   intro all' h1 h2;cases ts with
   | nil=>
    cases piv with
    | cons _ _=>grind[VTs]
    | nil=>
     have hpost:post=[]:=by grind[UnfL]
     subst hpost;refine⟨[], ?_,by grind,fun x hx=>by grind⟩;cases m with
     | zero=>omega
     | succ m=>simp_all[z5l,zlr]
   | cons u us=>
    cases piv with
    | nil=>grind[VTs]
    | cons q' piv=>
     simp only[VTs]at hv;obtain⟨v1,v2,v3,v4,v5⟩:=hv;have hle:∀x∈all',lts x.1 q'=true:=by
      intro x hx;have eq:=hqq q' piv rfl;subst eq;rcases h2 x hx with h | h
      ·grind[k8]
      ·rw[Q8]at h;simp only[K1,ab,aA]at h
       grind[y6,KU.ne]
     obtain⟨r,r1,r2,r3⟩:=yhh hg1 hge hG hneed hw heh hks hsp (.cons u us) post (pre++[k]) piv q' m all' (by grind) (by omega) hu.2 v5 (by omega) (by omega) (by omega)
      (fun k' t' s a b ht=>ih k' t' s a b (.inr ht)) h1 hle
     refine⟨r,r1,r2,fun x hx=> ?_⟩;have:=r3 x hx;rw[Q8]at this|-;simp only[ab,au]at this|-
     grind[y4o,z3h]
  rw[zlr];have hlt:decide ((pre.length:Int)<(nd.2.2.1.length:Int))=true:=by grind
  have hin:inB (pre.length:Int) nd.2.2.1.length=true:=by grind[U0]
  have hrd:rdL nd.2.2.1 (pre.length:Int) (0:Int)=k:=by grind[V5]
  simp only[z5l,hlt,cond_true,hin,hrd,U1 (q:=k) hb,hcut,ht,ac];rw[gd_t (by simp;omega)];cases touchB need ((sp.drop pre.length).take 1)
  ·grind
  ·obtain⟨out,o1,o2,o3⟩:=ih k t (rdL sp (pre.length:Int) Y7) lo q (.inl rfl) hu.1 hvt;have hsa:Tb G (all++out):=⟨ycg hall.srt o2.srt fun x hx y hy=>by
     have h1:=hlo x hx;have h2:=(o3 y hy).1;rw[Q8]at h2;simp only[ab,au]at h2
     grind[zrh],fun x hx=>(am.1 hx).elim (hall.key x) fun h=>(o2.mono (by omega)).key x h⟩
   have hsl:=hsa.len;rw[aq]at hsl;obtain⟨r,r1,r2,r3⟩:=next (all++out) hsa fun x hx=>(am.1 hx).elim (fun h=> .inl (hlo x h)) fun h=> .inr (o3 x h).1
   refine⟨out++r, ?_,by grind,fun x hx=> ?_⟩
   ·rw[X5 (by rfl),gd_t rfl,gd_t (by grind),o1];simp only[ac];rw[X5 (by rfl),gd_t (Y9 (by omega) (by omega)),r1,aU]
   grind
theorem yru(p:List Sl):∀(sz:Nat) (T:Tr) (n:Nat),sizeOf T<=sz->T.ht<n->FitT T->x5g p n T
 | _,_,0,_,h,_=>absurd h (ae _)
 | 0,T,_,h,_,_=>by cases T<;>simp at h
 | sz+1, .leaf ps,n+1,_,_,_=>by
  intro id s l e h g lo hi hu hv hg1 hge he heh hl hw;simp only[Unf]at hu;simp only[VT]at hv;obtain⟨u1,u2,u3⟩:=hu;simp only[Tr.mv,bD,Nat.mul_zero]at he heh|-;have hpl:=hv.1.len;have hll:l.length<10000000:=bE (y50 fun x hx=>⟨(hl x hx).1,UU.mono heh (hl x hx).2.1⟩) hw;refine⟨ps.filter fun x=>inS l x.1, ?_,hv.1.filter _,fun x hx=> ?_⟩
  ·rw[zh8];simp only[z6y,yr8 u1 u2,u3,ac];rw[X5 (by rfl),W8 (by rfl),yh9 (by omega) (by omega)];rfl
  grind
 | sz+1, .node ks piv buf,n+1,hsz,hn,hf=>by
  intro id s l e h g lo hi hu hv hg1 hge he heh hl hw;simp only[Unf]at hu;simp only[VT]at hv;simp only[FitT]at hf;simp only[Tr.mv,Tr.ht]at he heh hn|-;obtain⟨u1,u2,kids,sums,u3,u4,u5,u6⟩:=hu;have hpl:=VTs.plen hv.1;obtain⟨_,_,hkl⟩:=VTs.piv hv.1;have hkl':=u6.len;have hll:l.length<10000000:=bE (y50 fun x hx=>⟨(hl x hx).1,UU.mono (by omega) (hl x hx).2.1⟩) hw;have hG:∀m∈buf,GM g m:=fun m hm=>(hv.2 m hm).1;obtain⟨need,n1,n2,n3⟩:=ysk hg1 hG hf.1 hge (e:=e) (h:=h) (by omega) (by omega) (by omega) (z1t NN n) p s (nd:=([],(piv,(kids,(sums,buf))))) rfl l [] [] NN (by grind[W3]) (by grind) (by grind) hl;have hz:(([]:List Sp).length:Int)=0:=rfl;simp only[ah,hz]at n1;have hkne:eqi (kids.length:Int) 0=false:=G6 (by omega);have hsp:zay NN ([],(piv,(kids,(sums,buf)))) s=some (z73 s [] piv):=by simp only[zay,hkne,cond_false,y7n s (show piv.length<100000000 by omega)]
  obtain⟨r,r1,r2,r3⟩:=yhh (p:=p) (n:=n) (l:=l) (need:=need) (e:=e+mvN buf) (h:=h-mvN buf) (g:=g) (G:=g+ks.mv) hg1 (by omega) (by omega) (nd:=([],(piv,(kids,(sums,buf))))) (sp:=z73 s [] piv)
   n2 (by omega) (by omega) (by grind) (by grind[zx4]) ks kids [] piv lo NN [] rfl (by grind[W3]) u6 hv.1 (by omega) (by omega) (ai _)
   (fun k t s' a b ht hu' hv'=>by
    obtain⟨q1,q2,q3⟩:=Trs.has_ht ht;simp only[Tr.node.sizeOf_spec]at hsz;exact yru p sz t n (by omega) (by omega) (FitTs.has hf.2 ht) k s' need (e+mvN buf) (h-mvN buf) g a b hu' hv' hg1 (by omega) (by omega) (by omega) n2 (by omega))
   ⟨aX.nil,fun x h=>by cases h⟩ (fun x h=>by cases h)
  simp only[ah]at r1 r2;have hz':(([]:List Int).length:Int)=0:=rfl;rw[hz']at r1;have ha:=ys7 (ms:=buf) (g:=g+ks.mv) (by omega) (fun m hm=>(hG m hm).mono (by omega)) r2 (by omega);have hT:=ykb r2 fun m hm=>(hG m hm).mono (show g<=g+ks.mv by omega);have hTl:=hT.len;have hreg:=y7t (s:=(lo,hi)) hv.2 r3;refine⟨(apps buf r).filter fun x=>inS l x.1, ?_, ?_,fun x hx=> ?_⟩
  ·rw[zh8];simp only[z6y,yr8 u1 u2,u3,ac,hkne];rw[X5 (by rfl),X5 (by rfl),n1]
   grind[yh9]
  ·rw[<-cI];exact hT.filter _
  grind
theorem x2a{p:List Sl}{sh:Q4}{id:Int}{T:Tr}{g:Nat}{lo hi:B}(hu:Unf p id T)(hv:VT g lo hi T)(hg1:1<=g)(hg:g+T.mv<30000)(hf:FitT T)(hh:T.ht<NN){s:Sp}(hs:SpG g s):
  ∃out,zss NN (p,(id,sh)) s=some (out,0)/\Tb (g+T.mv) out/\∀x∈out,hasB (lo,hi) x.1=true/\hasB s x.1=true:=by
 have hw:=yzi (g+2*T.mv) (hasB s);obtain⟨out,o1,o2,o3⟩:=yru p (sizeOf T) T NN (ai _) hh hf id ([],[]) [s] g (g+2*T.mv) g lo hi hu hv hg1 (ai _) (by omega) (ai _) (fun x hx=>by grind) (by grind[wts]);refine⟨out, ?_,o2,fun x hx=>⟨(o3 x hx).1,by grind[in1]⟩⟩;have o1':yco NN p id ([],[]) [s]=some (out,0):=o1
 grind[zss]
def wm(G:Nat)(m:Mg):Nat:=bif eqi m.1 3 || eqi m.1 6 then wt G (hasB m.2.2.2.1)else 1
def wb(G:Nat)(l:List Mg):Nat:=(l.map (wm G)).sum
def pts(m:Mg):Nat:=if m.1=1 then 1 else 0
def ptN(l:List Mg):Nat:=(l.map pts).sum
theorem zcd(G:Nat)(a b:List Mg):wb G (a++b)=wb G a+wb G b:=by simp[wb]
theorem zno(a b:List Mg):ptN (a++b)=ptN a+ptN b:=by simp[ptN]
theorem zxh(G:Nat)(m:Mg)(a:List Mg):wb G (m::a)=wm G m+wb G a:=by simp[wb]
theorem yfe(G:Nat)(m:Mg):wb G [m]=wm G m:=by simp[wb]
theorem yjn(G:Nat)(s:Sp):wm G (zen s)=wt G (hasB s):=by unfold wm;simp
theorem yeb(G:Nat)(s:Sp)(n:Int):wm G (zo9 s n)=wt G (hasB s):=by unfold wm;simp
theorem x0d(G:Nat){m:Mg}(h3:eqi m.1 3=false)(h6:eqi m.1 6=false):wm G m=1:=by grind[wm]
theorem yr3{g G:Nat}(h:g<=G){m:Mg}(hm:GM g m):1<=wm G m:=by
 cases hm with
 | drop s hs=>rw[yjn];exact ykf (UU.mono h hs.2.1) (zy6 hs.1)
 | stamp s n hs=>rw[yeb];exact ykf (UU.mono h hs.2.1) (zy6 hs.1)
 | _=>constructor<;>grind
theorem yzj(G:Nat)(m:Mg):wm G m<=5+48*(G+1):=by
 unfold wm;cases eqi m.1 3 || eqi m.1 6
 ·grind
 simp[yzi]
theorem zft{g G:Nat}(h:g<=G):∀{l:List Mg},(∀m∈l,GM g m)->l.length<=wb G l
 | [],_=>aZ _
 | m::l,hl=>by have:=zft h (l:=l) fun x hx=>hl x (by simp[hx]);have:=yr3 h (hl m (by simp));rw[zxh,ag];omega
def covB(s x:Sp):Bool:=emptyB x || (!(emptyB s)&&((lts s.1 x.1 || eqs s.1 x.1)&& !(lessB s.2 x.2)))
theorem yz6(N:Nat)(s x:Sp):zfq N s x=some (covB s x):=by
 simp only[zfq,z56,yk3,covB]
 grind
theorem x1p{s x:Sp}(h:covB s x=true){k:B}(hk:hasB x k=true):hasB s k=true:=by
 simp only[covB,aA,ab,au]at h;rcases h with h | ⟨_,h1,h2⟩
 ·grind[zod]
 ·rw[Q8]at hk|-;simp only[ab,au]at hk|-
  grind[zs7,k8,y6]
theorem yso(s:Sp):∀(post pre:List Sp) (n:Nat),post.length<n->(pre++post).length<100000000->
  zhf NN n (pre.length:Int) s (pre++post)=some (bif post.all (covB s)then .inr ((),())else .inl (false,()))
 | _,_,0,h,_=>absurd h (ae _)
 | [],pre,n+1,_,_=>by simp[z5q,zlw]
 | q::post,pre,n+1,hn,hl=>by
  simp only[ag]at hn;have hb:pre.length<9223372036854775807:=by grind
  rw[zlw];simp only[z5q,Q7,cond_true,V5,yz6,ac];rw[gd_t U0];cases e:covB s q
  ·grind
  ·rw[aG,cond_false,U1 (q:=q) hb,Q3 (pre:=pre) (q:=q) (post:=post),yso s post (pre++[q]) n (by omega) (by grind)]
   grind
theorem x2f{g:Nat}(hg:g<1000000){m:Mg}(hm:GM g m)(s:Sp):zsy NN m s=some ((rds m++wr m).all (covB s)):=by
 obtain⟨h1,h2,_⟩:=ycb m;have h:=yso s (rds m++wr m) [] NN (by grind[W3]) (by grind);have hz:(([]:List Sp).length:Int)=0:=rfl
 grind[zsy,zx2,z9n,gd_t,Y9]
theorem x1h{s:Sp}{m:Mg}(h:(rds m++wr m).all (covB s)=true):LiesIn s m:=by
 intro x hx k hk
 grind[x1p]
theorem ynq:∀(j k:B),lts j (k++[0])=(lts j k || eqs j k)
 | [],[]=>rfl
 | [],b::k=>by simp only[ba];rfl
 | a::j,[]=>by simp[zg8,ztu,zn4]
 | a::j,b::k=>by simp only[ba,zg8,ynq j k];have e:eqs (a::j) (b::k)=(a==b&&eqs j k):=rfl;rw[e];cases decide (a<b)<;>cases (a==b)<;>cases lts j k<;>cases eqs j k<;>rfl
theorem yjy(k j:B):hasB (k,k++[0]) j=eqs k j:=by
 rw[Q8];have e:eqs (k++[0]) []=false:=zn4 (by simp);have s:eqs k j=eqs j k:=yo6 k j;simp only[K1,e,dF,ynq,s]
 grind[y6,z12]
structure Rd (g G:Nat) (reg s:Sp) (pre go stay:List Mg):Prop where
 gg:∀m∈go,GM g m/\LiesIn s m/\LiesIn reg m
 ss:∀m∈stay,GM g m/\LiesIn reg m
 mvq:mvN go+mvN stay=mvN pre
 ptq:ptN go+ptN stay=ptN pre
 wgt:wb G go+wb G stay<=wb G pre
theorem Rd.nil(g G:Nat)(reg s:Sp):Rd g G reg s [] [] []:=⟨fun _ h=>(by cases h),fun _ h=>(by cases h),rfl,rfl,ai _⟩
theorem Rd.append{g G:Nat}{reg s:Sp}{p a b p' a' b':List Mg}(h:Rd g G reg s p a b)(k:Rd g G reg s p' a' b'):Rd g G reg s (p++p') (a++a') (b++b'):=by
 refine⟨fun m hm=> ?_,fun m hm=> ?_, ?_, ?_, ?_⟩
 ·rcases am.1 hm with hm | hm
  ·exact h.gg m hm
  ·exact k.gg m hm
 ·rcases am.1 hm with hm | hm
  ·exact h.ss m hm
  ·exact k.ss m hm
 ·have:=h.mvq;have:=k.mvq;grind[ze0]
 ·have:=h.ptq;have:=k.ptq;grind[zno]
 ·have:=h.wgt;have:=k.wgt;grind[zcd]
theorem Rd.stays{g G:Nat}{reg s:Sp}{m:Mg}(hm:GM g m)(hr:LiesIn reg m):Rd g G reg s [m] [] [m]:=
 ⟨fun _ h=>(by cases h),fun x h=>(by grind),by simp[mvN],by simp[ptN],by simp[wb]⟩
theorem Rd.goes{g G:Nat}{reg s:Sp}{m:Mg}(hm:GM g m)(hr:LiesIn reg m)(hs:LiesIn s m):Rd g G reg s [m] [m] []:=
 ⟨fun x h=>(by grind),fun _ h=>(by cases h),by simp[mvN],by simp[ptN],by simp[wb]⟩
def spd(m:Mg)(s:Sp):Mg:=(m.1,(m.2.1,(m.2.2.1,(s,m.2.2.2.2))))
theorem yrs(go:List Mg)(held:List Sp)(m0:Mg):∀(post pre:List Sp) (n:Nat) (stay:List Mg) (m:Mg),spd m=spd m0->post.length<n->(pre++post).length<100000000->stay.length+post.length<200000000->
  z9m NN n (pre.length:Int) go stay held m (pre++post)=some (((),()),(((),((),())),(go,(stay++post.map (spd m0),(held,((),()))))))
 | _,_,0,_,_,_,h,_,_=>absurd h (ae _)
 | [],pre,n+1,stay,m,_,_,_,_=>by simp[z32,zhe]
 | q::post,pre,n+1,stay,m,hm,hn,hl,hs=>by
  simp only[ag]at hn hs;have hb:pre.length<9223372036854775807:=by grind
  have e:((m.1,(m.2.1,(m.2.2.1,(q,m.2.2.2.2)))):Mg)=spd m0 q:=congrFun hm q;rw[zhe];simp only[z32,Q7,cond_true,V5,e];rw[gd_t U0,gd_t (Y9 (by grind) (by omega)),U1 (q:=q) hb,Q3 (pre:=pre) (q:=q) (post:=post),yrs go held m0 post (pre++[q]) n (stay++[spd m0 q]) (spd m0 q) rfl (by omega) (by grind) (by grind)];simp
theorem yhd{x s:Sp}:touchB [x] [s]= !(emptyB (z17 x s)):=by simp[touchB]
theorem x4z{k:B}{s:Sp}(h:emptyB (z17 (k,k++[0]) s)=false):∀j,hasB (k,k++[0]) j=true->hasB s j=true:=by
 intro j hj;have h1:=zy6 h;rw[zkb,ab,yjy]at h1
 grind[yjy,y6]
theorem Rd.split{g G:Nat}{reg s:Sp}{m:Mg}{x:Sp}(hx:SpG g x)(mk:∀y,SpG g y->GM g (spd m y))(hk:wm G m=wt G (hasB x)/\∀y,wm G (spd m y)=wt G (hasB y))(h0:m.1=3\/m.1=6)
  (hw:∀y z,z∈wr (spd m y)++rds (spd m y)->z=y) (hr:∀k,hasB x k=true->hasB reg k=true) (hs:SpG g s) (he:emptyB (z17 x s)=false) {r:List Sp} (r2:∀k,inS r k=(inS [x] k&& !(inS [s] k))) (r4:Sep r) (r5:∀s∈r,SpG g s):
  Rd g G reg s [m] [spd m (z17 x s)] (r.map (spd m)):=by
 have hmeet:∀k,hasB (z17 x s) k=true->hasB x k=true/\hasB s k=true:=fun k hk=>by simp_all[zkb]
 have nomv:∀y,mvs (spd m y)=mvs m:=fun y=>rfl;have nopt:∀y,pts (spd m y)=pts m:=fun y=>rfl;have m0:mvs m=0:=by grind[mvs]
 have p0:pts m=0:=by grind[pts]
 have smv:∀l:List Sp,mvN (l.map (spd m))=0:=fun l=>by
  induction l with
  | nil=>rfl
  | cons y l ih=>grind[mvN]
 have spt:∀l:List Sp,ptN (l.map (spd m))=0:=fun l=>by
  induction l with
  | nil=>rfl
  | cons y l ih=>grind[ptN]
 have swt:∀l:List Sp,wb G (l.map (spd m))=wts G l:=fun l=>by
  induction l with
  | nil=>rfl
  | cons y l ih=>grind[wts,zxh]
 refine⟨fun y hy=> ?_,fun y hy=> ?_, ?_, ?_, ?_⟩
 ·simp only[bq]at hy;subst hy;refine⟨mk _ (ygv hx hs he),fun z hz k hk=> ?_,fun z hz k hk=> ?_⟩
  all_goals grind
 ·obtain⟨z,hz,rfl⟩:=aH.1 hy;refine⟨mk z (r5 z hz),fun w hwm k hk=> ?_⟩;rw[hw _ w hwm]at hk;have:inS r k=true:=cO.2 ⟨z,hz,hk⟩;rw[r2,ab,in1]at this
  grind
 ·grind[mvN]
 ·grind[ptN]
 ·rw[swt,yfe,yfe,hk.1,hk.2];have h1:=yjm (g:=G) r4;have h2:wt G (inS r)<=wt G (fun a=>hasB x a&& !(hasB s a)):=zqn fun a ha=>by grind[in1]
  have h3:wt G (hasB (z17 x s))<=wt G (fun a=>hasB x a&&hasB s a):=zqn fun a ha=>by grind
  have:=yea (g:=G) (hasB x) (hasB s);omega
theorem ytr{g G:Nat}(hg1:1<=g)(hg:g<40000){reg s:Sp}(hs:SpG g s){m:Mg}(hm:GM g m)(hr:LiesIn reg m){go stay:List Mg}{held:List Sp}(hl:go.length+stay.length<100000000)(hh:held.length<90000000):
  ∃a b c,z4s NN m s go stay held=some (((),((),())),(go++a,(stay++b,(held++c,()))))/\c.length<=3/\Rd g G reg s [m] a b:=by
 obtain⟨l1,l2,_⟩:=ycb m;have hN:=W3;have mover:(eqi m.1 4 || eqi m.1 5)=true->∃a b c,z4s NN m s go stay held=some (((),((),())),(go++a,(stay++b,(held++c,()))))/\c.length<=3/\Rd g G reg s [m] a b:=fun hmm=>by
  have e1:ze7 NN m=some true:=by
   simp only[ze7]
   grind
  have ht:=zwo (l:=rds m++wr m) (m:=held) (by grind) (by omega);simp only[z4s,e1,ac,cond_true,zx2 hm,z9n (g:=g) (by omega) hm,x2f (g:=g) (by omega) hm,ah,ht];rw[gd_t (Y9 (by omega) (by omega)),gd_t (Y9 (by omega) (by omega))];have no:∃a b c,(gd (fits (stay.length+1) 112) (gd (fits (held.length+(rds m++wr m).length) 32) (some ((((),((),())),(go,(stay++[m],(held++(rds m++wr m),())))):((Unit×(Unit×Unit))×((List Z1)×((List Z1)×((List Z0)×Unit))))))))=some (((),((),())),(go++a,(stay++b,(held++c,()))))/\c.length<=3/\Rd g G reg s [m] a b:=by
   refine⟨[],[m],rds m++wr m, ?_,by grind,Rd.stays hm hr⟩
   grind[gd_t,Y9]
  cases e2:(rds m++wr m).all (covB s)
  ·grind
  ·cases e3:touchB (rds m++wr m) held
   ·refine⟨[m],[],[], ?_,by simp,Rd.goes hm hr (x1h e2)⟩;simp only[cond_true,aN]
    grind[gd_t,Y9]
   grind
 have part:∀p,eqi m.1 4=false->eqi m.1 5=false->znm NN m s=some p->(p=[]\/∃q x,p=[q]/\G3 NN q=some [x]/\((eqi m.1 3=false/\eqi m.1 6=false/\Rd g G reg s [m] [q] [])\/
   ((eqi m.1 3=true\/eqi m.1 6=true)/\∃r,y7 NN [m.2.2.2.1] [s]=some r/\r.length<=2/\Rd g G reg s [m] [q] (r.map (spd m)))))->
   ∃a b c,z4s NN m s go stay held=some (((),((),())),(go++a,(stay++b,(held++c,()))))/\c.length<=3/\Rd g G reg s [m] a b:=fun p h4 h5 hp hc=>by
  have e1:ze7 NN m=some false:=by simp_all[ze7]
  simp only[z4s,e1,ac,cond_false,hp];rcases hc with rfl | ⟨q,x,rfl,hq,hc⟩
  ·refine⟨[],[m],[], ?_,by simp,Rd.stays hm hr⟩;simp only[aJ,Int.natCast_zero,z09,cond_true]
   grind[gd_t,Y9]
  ·have e0:eqi ((([q]:List Mg).length:Nat):Int) 0=false:=rfl;have e2:inB 0 ([q]:List Mg).length=true:=rfl;have e3:rdL ([q]:List Mg) 0 K3=q:=rfl;have ht:=zwo (l:=[x]) (m:=held) (by simp) (by omega);simp only[e0,cond_false,e2,e3,hq,ac,ht];rw[gd_t rfl];cases et:touchB [x] held
   ·simp only[cond_false];rw[gd_t rfl,gd_t (Y9 (by grind) (by omega))];rcases hc with⟨h3,h6,hR⟩ | ⟨h36,r,r1,r2,hR⟩
    ·refine⟨[q],[],[], ?_,by simp,hR⟩
     grind
    ·have hz:(([]:List Sp).length:Int)=0:=rfl;have lp:=yrs (go++[q]) held m r [] NN stay m rfl (by omega) (by grind) (by omega)
     grind
   ·refine⟨[],[m],[x], ?_,by simp,Rd.stays hm hr⟩;simp only[cond_true]
    grind[gd_t,Y9]
 have one:∀k,wr m=[(k,k++[0])]->rds m=[]->eqi m.1 3=false->eqi m.1 6=false->eqi m.1 4=false->eqi m.1 5=false->∃a b c,z4s NN m s go stay held=some (((),((),())),(go++a,(stay++b,(held++c,()))))/\c.length<=3/\Rd g G reg s [m] a b:=fun k hw hrd h3 h6 h4 h5=>by
  have ht:=zwo (l:=wr m) (m:=[s]) (by omega) (by simp);refine part (bif touchB (wr m) [s]then[m]else[]) h4 h5 ?_ ?_
  ·simp only[znm,z9n (g:=g) (by omega) hm,ac,ht,h3,h6,cond_false]
   grind
  ·cases et:touchB (wr m) [s]
   ·simp
   ·refine .inr ⟨m,(k,k++[0]),rfl,by rw[z9n (g:=g) (by omega) hm,hw], .inl ⟨h3,h6,Rd.goes hm hr ?_⟩⟩;rw[hw,yhd,au]at et;intro x hx j hj
    grind[x4z]
 have spn:∀x,m.2.2.2.1=x->SpG g x->wr m=[x]->(∀y,SpG g y->GM g (spd m y))->(wm G m=wt G (hasB x)/\∀y,wm G (spd m y)=wt G (hasB y))->(m.1=3\/m.1=6)->(∀y,wr (spd m y)=[y])->(∀y,∀z∈rds (spd m y),z=y)->∃a b c,z4s NN m s go stay held=some (((),((),())),(go++a,(stay++b,(held++c,()))))/\c.length<=3/\Rd g G reg s [m] a b:=fun x hx hG hw mk hk h36 hwy hry=>by
  have h4:eqi m.1 4=false:=by rcases h36 with h | h<;>rw[h]<;>rfl
  have h5:eqi m.1 5=false:=by rcases h36 with h | h<;>rw[h]<;>rfl
  have h36':eqi m.1 3=true\/eqi m.1 6=true:=by grind[eqi]
  have ht:=zwo (l:=[x]) (m:=[s]) (by simp) (by simp);refine part (bif touchB [x] [s]then[spd m (z17 x s)]else[]) h4 h5 ?_ ?_
  ·simp only[znm,z9n (g:=g) (by omega) hm,hw,ac,ht,hx,zrg];cases et:touchB [x] [s]
   ·rfl
   ·rcases h36' with h | h
    ·rw[h];rfl
    ·cases e3:eqi m.1 3
     ·rw[h];rfl
     ·rfl
  ·cases et:touchB [x] [s]
   ·simp
   ·rw[yhd,au]at et;obtain⟨r,r1,r2,r3,r4,r5⟩:=ye4 (l:=[x]) (m:=[s]) (E:=UU g) (fun y hy=>by simp at hy;subst hy;exact hs.2) (UU.nil g) (fun y hy _=>by simp at hy;subst hy;exact hG.2) (by simp) (by simp);refine .inr ⟨spd m (z17 x s),z17 x s,rfl,by rw[z9n (g:=g) (by omega) (mk _ (ygv hG hs et)),hwy], .inr ⟨h36',r,by grind,by grind, ?_⟩⟩;refine Rd.split hG mk hk h36 (fun y z hz=> ?_) (fun k hk=>hr x (by grind) k hk) hs et r2 r4 fun y hy=>⟨r4.full y hy,r5 y hy⟩
    grind
 cases hm with
 | put k v n hk hv=>exact one k rfl rfl rfl rfl rfl rfl
 | del k hk=>exact one k rfl rfl rfl rfl rfl rfl
 | drop x hx=>exact spn x rfl hx rfl (fun y hy=> .drop y hy) ⟨yjn G x,fun y=>yjn G y⟩ (.inl rfl) (fun _=>rfl) (fun y z hz=>by cases hz)
 | move e he=>simp_all
 | clone e he=>simp_all
 | stamp x n hx=>exact spn x rfl hx rfl (fun y hy=> .stamp y n hy) ⟨yeb G x n,fun y=>yeb G y n⟩ (.inr rfl) (fun _=>rfl) (fun y z hz=>bq.1 hz)
theorem ymw{g G:Nat}(hg1:1<=g)(hgG:g<=G)(hg:g<40000){reg s:Sp}(hs:SpG g s):∀(post pre go stay:List Mg) (held:List Sp) (n:Nat),post.length<n->(pre++post).length<20000000->(∀m∈post,GM g m/\LiesIn reg m)->held.length<=3*pre.length->
  go.length+stay.length+wb G post<100000000->
  ∃a b c,zf4 NN n (pre++post) (pre.length:Int) go stay held s=some (((),()),((),(((),((),())),(go++a,(stay++b,(c,()))))))/\Rd g G reg s post a b
 | _,_,_,_,_,0,h,_,_,_,_=>absurd h (ae _)
 | [],pre,go,stay,held,n+1,_,_,_,_,_=>by refine⟨[],[],held, ?_,Rd.nil _ _ _ _⟩;simp[z44,zjz]
 | m::post,pre,go,stay,held,n+1,hn,hl,hm,hh,hw=>by
  simp only[ag]at hn;have hb:pre.length<9223372036854775807:=by grind
  have hpl:pre.length<20000000:=by grind
  obtain⟨m1,m2⟩:=hm m (by simp);have hp:=yr3 hgG m1;rw[zxh]at hw;obtain⟨a,b,c,h1,h2,h3⟩:=ytr (G:=G) hg1 hg hs m1 m2 (go:=go) (stay:=stay) (held:=held) (by omega) (by omega);have la:=zft hgG fun x hx=>(h3.gg x hx).1;have lb:=zft hgG fun x hx=>(h3.ss x hx).1;have hwt:=h3.wgt;rw[yfe]at hwt;obtain⟨a',b',c',k1,k2⟩:=ymw hg1 hgG hg hs post (pre++[m]) (go++a) (stay++b) (held++c) n (by omega) (by grind) (fun x hx=>hm x (by grind)) (by grind) (by grind);refine⟨a++a',b++b',c', ?_,h3.append k2⟩;rw[zjz];simp only[z44,Q7,cond_true,V5,h1,ac]
  grind[gd_t,U0,U1]
theorem yp3{g G:Nat}(hg1:1<=g)(hgG:g<=G)(hg:g<40000){reg s:Sp}(hs:SpG g s){buf:List Mg}{piv:List B}{i:Int}(hp:piv.length<100000000)(hi:inB i (piv.length+1)=true)(hsi:rdL (z73 ([],[]) [] piv) i Y7=s)
  (hm:∀m∈buf,GM g m/\LiesIn reg m) (hw:wb G buf<20000000):∃go stay x,z93 NN buf piv i=some (go,(stay,x))/\Rd g G reg s buf go stay:=by
 have hl:=zft hgG fun m h=>(hm m h).1;obtain⟨a,b,c,h1,h2⟩:=ymw hg1 hgG hg hs buf [] [] [] [] NN (by grind[W3]) (by grind) hm (aZ _) (by grind);have hz:(([]:List Mg).length:Int)=0:=rfl;simp only[ah,hz]at h1;refine⟨a,b,c, ?_,h2⟩;simp only[z93,zvg,y7n ([],[]) hp,ac,hsi,h1,zx4,hi];rfl
def ykn(m:Mg)(p:Pr):Mg:=zu6 (m.2.2.2.2.2.1++p.1.drop m.2.2.2.2.1.length) p.2.1 p.2.2
theorem ynr(m:Mg)(hto:m.2.2.2.2.2.1.length<1000000):∀(post pre:List Pr) (n:Nat) (out:List Mg),post.length<n->(pre++post).length<100000000->out.length+post.length<200000000->(∀p∈post,p.1.length<1000000/\m.2.2.2.2.1.length<=p.1.length)->
  zhd NN n (pre++post) (pre.length:Int) m out=some (((),()),(m,(out++post.map (ykn m),())))
 | _,_,0,_,h,_,_,_=>absurd h (ae _)
 | [],pre,n+1,out,_,_,_,_=>by simp[z5p,zlv]
 | p::post,pre,n+1,out,hn,hl,ho,hp=>by
  simp only[ag]at hn ho;have hb:pre.length<9223372036854775807:=by grind
  obtain⟨p1,p2⟩:=hp p (by simp);rw[zlv];simp only[z5p,Q7,cond_true,V5];rw[gd_t U0,gd_t (by grind),y4s,gd_p (by constructor<;>grind),gd_t (Y9 (by grind) (by omega)),U1 (q:=p) hb,Q3 (pre:=pre) (q:=p) (post:=post),ynr m hto post (pre++[p]) n _ (by omega) (by grind) (by grind) fun x hx=>hp x (by grind)];simp[ykn]
def zeh(m:Mg)(src:List Pr):List Mg:=zen (preB m.2.2.2.2.2.1)::(src.map (ykn m)++bif eqi m.1 4 then[zen (preB m.2.2.2.2.1)]else[])
theorem yy2{m:Mg}{e:B×B}(he:e∈ends)(h1:m.2.2.2.2.1=e.1)(h2:m.2.2.2.2.2.1=e.2)(hk:eqi m.1 4=true\/eqi m.1 5=true){src:List Pr}(hl:src.length<90000000)(hs:∀p∈src,p.1.length<1000000/\e.1.length<=p.1.length):
  zsx NN m src=some (zeh m src):=by
 obtain⟨p1,p2⟩:=G0 he;have l2:=(zcb p2).2;have em:z92 NN m=some true:=by grind[z92]
 have h:=ynr m (by grind) src [] NN [zen (preB m.2.2.2.2.2.1)] (by grind[W3]) (by grind) (by grind) (fun p hp=>by grind);have hz:(([]:List Pr).length:Int)=0:=rfl;simp only[ah,hz]at h;simp only[zsx,em,ac,aG,cond_false,h2,z94 p2];rw[h2]at h;rw[h];simp only[ac,zeh,h2,h1];cases e4:eqi m.1 4
 ·simp
 ·simp only[cond_true,z94 p1,ac]
  grind[gd_t,Y9]
theorem ywe{α:Type}(f:α->Nat)(l:List α)(h:∀x∈l,f x=0):(l.map f).sum=0:=by
 induction l with
 | nil=>rfl
 | cons x l ih=>grind
theorem x0l{α:Type}(f:α->Nat)(l:List α)(h:∀x∈l,f x=1):(l.map f).sum=l.length:=by
 induction l with
 | nil=>rfl
 | cons x l ih=>grind
theorem ypk{g G c:Nat}(hg1:1<=g){m:Mg}{e:B×B}(he:e∈ends)(hm:(m.1=4\/m.1=5)/\m.2.2.2.2.1=e.1/\m.2.2.2.2.2.1=e.2){reg:Sp}(hr:LiesIn reg m){src:List Pr}(hs:Tb c src)(hp:∀p∈src,e.1.isPrefixOf p.1=true)(hc:g<=c+1):
  (∀x∈zeh m src,GM (c+1) x/\LiesIn reg x)/\mvN (zeh m src)=0/\wb G (zeh m src)<=20*(c+1)+2*(5+48*(G+1)):=by
 obtain⟨h0,h1,h2⟩:=hm;obtain⟨p1,p2⟩:=G0 he;have hw2:preB e.2∈wr m:=by grind[wr,eqi]
 have hw1:m.1=4->preB e.1∈wr m:=fun h=>by grind[wr,eqi]
 have l2:∀k,hasB (preB e.2) k=true->hasB reg k=true:=hr _ (bo _ hw2);have ld:∀q:B,(∀k,hasB (preB q) k=true->hasB reg k=true)->LiesIn reg (zen (preB q)):=fun q h x hx k hk=>by grind[wr,rds,eqi]
 refine⟨fun x hx=> ?_, ?_, ?_⟩
 ·unfold zeh at hx;rw[h1,h2]at hx;rcases ar.1 hx with rfl | hx
  ·exact⟨.drop _ ((SpG.pre p2).mono (by omega)),ld _ l2⟩
  rcases am.1 hx with hx | hx
  ·obtain⟨p,hp',rfl⟩:=aH.1 hx;have hk:=hs.key p hp';refine⟨?_,fun y hy k hk'=> ?_⟩
   ·unfold ykn;rw[h1,h2];exact .put _ _ _ (KU.move p1 p2 hk.1 (hp p hp')) hk.2
   grind[ykn,wr,rds,eqi,yjy,y6,z8z]
  ·cases e4:eqi m.1 4
   ·grind
   ·rw[e4]at hx;simp only[cond_true,bq]at hx;subst hx;exact⟨.drop _ ((SpG.pre p1).mono (by omega)),ld _ (hr _ (bo _ (hw1 (za7.1 e4))))⟩
 ·unfold zeh mvN;refine ywe mvs _ fun x hx=> ?_;rcases ar.1 hx with rfl | hx
  ·rfl
  rcases am.1 hx with hx | hx
  ·obtain⟨p,hp',rfl⟩:=aH.1 hx;rfl
  ·cases e4:eqi m.1 4
   ·grind
   ·rw[e4]at hx;simp only[cond_true,bq]at hx;subst hx;rfl
 ·unfold zeh;rw[zxh,zcd];have a1:wb G (src.map (ykn m))=src.length:=by
   unfold wb;rw[dp,x0l];intro x _;exact x0d G rfl rfl
  have a2:wb G (bif eqi m.1 4 then[zen (preB m.2.2.2.2.1)]else[])<=5+48*(G+1):=by
   cases eqi m.1 4
   ·exact aZ _
   simp[yfe,yzj]
  have a3:=yzj G (zen (preB m.2.2.2.2.2.1));have:=hs.len;omega
theorem yhc{p:List Sl}{root:Int}{sh:Q4}{nd:Nd}{m0:Mg}{rest:List Mg}(hbuf:nd.2.2.2.2=m0::rest){s:Sp}(hpre:Q5 NN m0.2.2.2.2.1=some s){g G:Nat}(hs:SpG g s)(hg1:1<=g)(hG:G<30000){hi:B}:
  ∀(ks:Trs) (post pre:List Int) (piv:List B) (lo:B) (m:Nat) (all:List Pr),nd.2.2.1=pre++post->nd.2.2.1.length<10000001->post.length<m->UnfL p post ks->VTs g lo hi ks piv->g+ks.mv<=G->FitTs ks->ks.ht<NN->Tb G all->(∀x∈all,lts x.1 lo=true/\hasB s x.1=true)->
   ∃r,z6x NN m (pre.length:Int) (p,(root,sh)) nd all=some (.inr (((),((),())),(nd,((),(all++r,())))))/\Tb G (all++r)/\∀x∈r,hasB (lo,hi) x.1=true/\hasB s x.1=true
 | _,_,_,_,_,0,_,_,_,h,_,_,_,_,_,_,_=>absurd h (ae _)
 | .nil,post,pre,piv,lo,m+1,all,hk,hkl,hm,hu,hv,_,_,_,_,_=>by grind[VTs]
 | .cons t ts,[],pre,piv,lo,m+1,all,hk,hkl,hm,hu,hv,_,_,_,_,_=>by grind[UnfL]
 | .cons t ts,k::post,pre,piv,lo,m+1,all,hk,hkl,hm,hu,hv,hgG,hfit,hht,hall,hlo=>by
  simp only[ag]at hm;have hlen:nd.2.2.1.length=pre.length+(post.length+1):=by grind
  have hb:pre.length<9223372036854775807:=by omega
  simp only[UnfL]at hu;simp only[Trs.mv]at hgG;simp only[FitTs]at hfit;simp only[Trs.ht]at hht;obtain⟨q,hvt,hqhi,hqq⟩:∃q,VT g lo q t/\(∀x,hasB (lo,q) x=true->hasB (lo,hi) x=true)/\∀q' r,piv=q'::r->q=q':=by
   cases ts with
   | nil=>
    cases piv with
    | nil=>grind[VTs]
    | cons _ _=>grind[VTs]
   | cons u us=>
    cases piv with
    | nil=>grind[VTs]
    | cons q piv=>
     simp only[VTs]at hv;refine⟨q,hv.2.2.2.1,fun x hx=> ?_,fun q' r h=>by grind⟩;rw[Q8]at hx|-;simp only[K1,ab,aA]at hx|-;refine⟨hx.1, ?_⟩;rcases hx.2 with h' | h'
     ·grind[y6,KU.ne]
     ·have:=zij h' hv.2.2.1
      grind[K1]
  have next:∀all',Tb G all'->(∀x∈all',(lts x.1 lo=true\/hasB (lo,q) x.1=true)/\hasB s x.1=true)->∃r,z6x NN m ((pre++[k]).length:Int) (p,(root,sh)) nd all'=some (.inr (((),((),())),(nd,((),(all'++r,())))))/\Tb G (all'++r)/\∀x∈r,hasB (lo,hi) x.1=true/\hasB s x.1=true:=by
   intro all' h1 h2;cases ts with
   | nil=>
    cases piv with
    | cons _ _=>grind[VTs]
    | nil=>
     have hpost:post=[]:=by grind[UnfL]
     subst hpost;refine⟨[], ?_,by grind,fun x hx=>by grind⟩;cases m with
     | zero=>omega
     | succ m=>simp_all[z2w,zgy]
   | cons u us=>
    cases piv with
    | nil=>grind[VTs]
    | cons q' piv=>
     simp only[VTs]at hv;obtain⟨v1,v2,v3,v4,v5⟩:=hv;have hle:∀x∈all',lts x.1 q'=true/\hasB s x.1=true:=by
      intro x hx;have eq:=hqq q' piv rfl;subst eq;refine⟨?_,(h2 x hx).2⟩;rcases(h2 x hx).1 with h | h
      ·grind[k8]
      ·rw[Q8]at h;simp only[K1,ab,aA]at h
       grind[y6,KU.ne]
     obtain⟨r,r1,r2,r3⟩:=yhc hbuf hpre hs hg1 hG (.cons u us) post (pre++[k]) piv q' m all' (by grind) hkl (by omega) hu.2 v5 (by omega) hfit.2 (by omega) h1 hle;refine⟨r,r1,r2,fun x hx=> ?_⟩;have:=r3 x hx;refine⟨?_,this.2⟩;have:=this.1;rw[Q8]at this|-;simp only[ab,au]at this|-
     grind[y4o,z3h]
  rw[zgy];have hlt:decide ((pre.length:Int)<(nd.2.2.1.length:Int))=true:=by grind
  have hin:inB (pre.length:Int) nd.2.2.1.length=true:=by grind[U0]
  have hrd:rdL nd.2.2.1 (pre.length:Int) (0:Int)=k:=by grind[V5]
  have hb0:inB (0:Int) nd.2.2.2.2.length=true:=by grind[V7]
  have hr0:rdL nd.2.2.2.2 (0:Int) K3=m0:=by rw[hbuf];rfl
  obtain⟨out,o1,o2,o3⟩:=x2a (sh:=sh) hu.1 hvt hg1 (by omega) hfit.1 (by omega) hs;simp only[z2w,hlt,cond_true,hin,hrd,hr0,U1 (q:=k) hb,hpre,o1,ac];have hsa:Tb G (all++out):=⟨ycg hall.srt o2.srt fun x hx y hy=>by
    have h1:=(hlo x hx).1;have h2:=(o3 y hy).1;rw[Q8]at h2;simp only[ab,au]at h2
    grind[zrh],fun x hx=>(am.1 hx).elim (hall.key x) fun h=>(o2.mono (by omega)).key x h⟩
  have hsl:=hsa.len;rw[aq]at hsl;obtain⟨r,r1,r2,r3⟩:=next (all++out) hsa fun x hx=>(am.1 hx).elim (fun h=>⟨.inl (hlo x h).1,(hlo x h).2⟩) fun h=>⟨.inr (o3 x h).1,(o3 x h).2⟩
  refine⟨out++r, ?_,by grind,fun x hx=> ?_⟩
  ·rw[gd_t rfl,gd_t hb0,X5 (by rfl),gd_t (Y9 (by omega) (by omega)),r1,aU]
  grind
theorem ytn{p:List Sl}{root:Int}{sh:Q4}{piv:List B}{kids:List Int}{sums:List X0}{m0:Mg}{rest:List Mg}{ks:Trs}{g Γ:Nat}{lo hi:B}(hg1:1<=g)(hG:g+ks.mv+1<30000)
  (hu:UnfL p kids ks) (hv:VTs g lo hi ks piv) (hf:FitTs ks) (hh:ks.ht<NN) (hm:∀m∈m0::rest,GM g m/\LiesIn (lo,hi) m) (hl:rest.length<90000000):
  ∃nd e,z9b NN (p,(root,sh)) (([]:List Pr),(piv,(kids,(sums,m0::rest))))=some (nd,e)/\(e≠0\/(e=0/\∃new,nd=([],(piv,(kids,(sums,new++rest))))/\(∀m∈new,GM (g+ks.mv+1) m/\LiesIn (lo,hi) m)/\mvN new=0/\mvs m0=1/\
   wb Γ new<=20*(g+ks.mv+1)+2*(5+48*(Γ+1)))):=by
 have hpl:=VTs.plen hv;obtain⟨_,_,hkl⟩:=VTs.piv hv;have hkl':=hu.len;have go:∀s,Q5 NN m0.2.2.2.2.1=some s->SpG g s->∃src,z6x NN NN (0:Int) (p,(root,sh)) (([]:List Pr),(piv,(kids,(sums,m0::rest)))) []=some (.inr (((),((),())),((([]:List Pr),(piv,(kids,(sums,m0::rest)))),((),(src,())))))/\Tb (g+ks.mv) src/\∀x∈src,hasB s x.1=true:=fun s h1 h2=>by
  obtain⟨r,r1,r2,r3⟩:=yhc (p:=p) (root:=root) (sh:=sh) (nd:=([],(piv,(kids,(sums,m0::rest))))) (m0:=m0) (rest:=rest) rfl h1 (G:=g+ks.mv) h2 hg1 (by omega) ks kids [] piv lo NN [] rfl (by grind) (by grind[W3]) hu hv (ai _) hf hh ⟨aX.nil,fun x h=>by cases h⟩ fun x h=>by cases h
  grind
 obtain⟨hm0,hr0⟩:=hm m0 (by simp)
 have nomove:mvs m0=0->m0.2.2.2.2.1=[]->eqi m0.1 4=false->eqi m0.1 5=false->∃nd e,z9b NN (p,(root,sh)) (([]:List Pr),(piv,(kids,(sums,m0::rest))))=some (nd,e)/\(e≠0\/(e=0/\∃new,nd=([],(piv,(kids,(sums,new++rest))))/\(∀m∈new,GM (g+ks.mv+1) m/\LiesIn (lo,hi) m)/\mvN new=0/\mvs m0=1/\
   wb Γ new<=20*(g+ks.mv+1)+2*(5+48*(Γ+1)))):=fun h0 hfr h4 h5=>by
  have hp0:Q5 NN ([]:B)=some ([],[]):=by
   obtain⟨k,hk⟩:∃k,NN=k+1:=⟨NN-1,by omega⟩;have h0:z07 NN NN ([]:B) (([]:B).length:Int)=some (([],((),0)),((),())):=by rw[show z07 NN NN=z07 NN (k+1)from congrArg _ hk,z71];rfl
   simp_all[Q5]
  obtain⟨src,s1,_⟩:=go ([],[]) (by grind) ⟨rfl,UU.nil g,UU.nil g⟩;refine⟨_,_,by
   simp only[z9b,s1,ac,zsw];rw[X5 (by grind[eqi]),gd_t (by simp[inB])];have e0:rdL (m0::rest) (0:Int) K3=m0:=rfl;simp only[e0,z92,h4,h5,cond_false,ac,aN,cond_true];rfl, .inl (by decide)⟩
 have mover:∀e,e∈ends->mvs m0=1->(m0.1=4\/m0.1=5)->m0.2.2.2.2.1=e.1->m0.2.2.2.2.2.1=e.2->∃nd e,z9b NN (p,(root,sh)) (([]:List Pr),(piv,(kids,(sums,m0::rest))))=some (nd,e)/\(e≠0\/(e=0/\∃new,nd=([],(piv,(kids,(sums,new++rest))))/\(∀m∈new,GM (g+ks.mv+1) m/\LiesIn (lo,hi) m)/\mvN new=0/\mvs m0=1/\
   wb Γ new<=20*(g+ks.mv+1)+2*(5+48*(Γ+1)))):=fun e he hmv h45 e1 e2=>by
  obtain⟨p1,p2⟩:=G0 he;have hk:eqi m0.1 4=true\/eqi m0.1 5=true:=by grind[eqi]
  obtain⟨src,s1,s2,s3⟩:=go (preB e.1) (by grind[z94]) ((SpG.pre p1).mono hg1);have hpre:∀x∈src,e.1.isPrefixOf x.1=true:=fun x hx=>by grind[z8z]
  have hsl:=s2.len;obtain⟨k1,k2,k3⟩:=ypk (G:=Γ) (reg:=(lo,hi)) hg1 he ⟨h45,e1,e2⟩ hr0 s2 hpre (by omega);have h9:=yy2 (m:=m0) he e1 e2 hk (src:=src) (by omega) fun x hx=>⟨by have:=UU.len (UU.of (s2.key x hx).1);omega,(be.1 (hpre x hx)).length_le⟩;have em:z92 NN m0=some true:=by grind[z92]
  have hset:(zeh m0 src).length<=src.length+2:=by grind[zeh]
  refine⟨([],(piv,(kids,(sums,zeh m0 src++rest)))),0, ?_, .inr ⟨rfl,zeh m0 src,rfl,k1,k2,hmv,k3⟩⟩;simp only[z9b,s1,ac,zsw];have e0:rdL (m0::rest) (0:Int) K3=m0:=rfl;rw[X5 (by grind[eqi]),gd_t (by simp[inB])];simp only[e0,em,ac,aG,cond_false,h9]
  grind[inB,gd_t,yxg,Y9]
 cases hm0 with
 | put k v n hk hv=>exact nomove rfl rfl rfl rfl
 | del k hk=>exact nomove rfl rfl rfl rfl
 | drop x hx=>exact nomove rfl rfl rfl rfl
 | move e he=>exact mover e he rfl (.inl rfl) rfl rfl
 | clone e he=>exact mover e he rfl (.inr rfl) rfl rfl
 | stamp x n hx=>exact nomove rfl rfl rfl rfl
end Ds
