/- What is reached in a pool: both packages give the same ids, in order. -/
import Derived.Test.YtljffhpbdmkplaaGreatDsC
import Derived.Test.YtljffhpbdmkplaaGreatDvD
import Derived.Laws.BitsLemmas
set_option linter.all false
open Bool renaming and_false->cZ,not_false->aO,not_true->aS
open Int renaming emod_lt_of_pos->dg,emod_nonneg->dI,lt_irrefl->aA,sub_zero->fy,tmod->aJ,tmod_eq_emod_of_nonneg->bg
open Go.IntKind renaming bits->be,wrap->aa,wrap_u64->d8,wrap_u8->eH
open List renaming append_assoc->au,append_eq_append_iff->dV,append_nil->ai,append_of_mem->dS,cons->cg,cons_append->aY,count_le_length->bJ,filter_cons_of_neg->bn,filter_cons_of_pos->bq,filter_eq_nil_iff->dj,filter_eq_self->cn,filter_nil->fh,foldl_append->dZ,foldl_cons->aU,foldl_nil->dW,getD_eq_getElem?_getD->aM,getElem?_eq_none->cR,getElem?_replicate->dh,length->ap,length_append->ae,length_cons->af,length_nil->aq,length_singleton->aL,map_cons->ax,map_nil->bO,mem_append->ak,mem_cons->am,mem_map->aH,mem_singleton->aE,mergeSort_perm->dJ,nil_append->aj,nodup_append->cf,nodup_nil->dU,pairwise_cons->aI,replicate->ar
open Nat renaming beq_refl->cM,le_refl->al,le_trans->aX,lt_of_le_of_lt->bN,not_lt_zero->ag
open Option renaming bind_some->ab,some->aR
namespace Ds
open Go Go.Dv
set_option maxRecDepth 100000
theorem y86(N:Nat)(p:List Sl)(i:Int):zp1 N p i=some (W2 p i):=by
 unfold zp1 W2 slA
 by_cases h0:0<=i
 ·by_cases h1:i<(p.length:Int)
  ·simp only[h0,h1,decide_true,cond_true,Bool.true_and]
   rw[gd_t (V7 h0 h1)]
  ·simp[h0,h1]
 ·simp[h0]
inductive Rch (p:List Sl) (R:List Int):Int->Prop
 | root {k:Int}:k∈R->W2 p k=true->Rch p R k
 | kid {i k:Int}:Rch p R i->k∈G6 (slA p i)->W2 p k=true->Rch p R k
theorem Rch.used{p:List Sl}{R:List Int}{i:Int}(h:Rch p R i):W2 p i=true:=by cases h<;>assumption
theorem Rch.mono{p:List Sl}{R R':List Int}(hR:∀k∈R,k∈R'){i:Int}(h:Rch p R i):Rch p R' i:=by
 induction h with
 | root h u=>exact .root (hR _ h) u
 | kid _ h u ih=>exact .kid ih h u
theorem Rch.up{p:List Sl}{id:Int}(hu:W2 p id=true){i:Int}(h:Rch p (G6 (slA p id)) i):Rch p [id] i:=by
 induction h with
 | root h u=>exact .kid (.root (by simp) hu) h u
 | kid _ h u ih=>exact .kid ih h u
theorem ygz:∀{a b:List Int},a.Pairwise (·<·)->b.Pairwise (·<·)->(∀x,x∈a↔x∈b)->a=b
 | [],[],_,_,_=>rfl
 | [],y::b,_,_,h=>absurd ((h y).2 (by simp)) (by simp)
 | x::a,[],_,_,h=>absurd ((h x).1 (by simp)) (by simp)
 | x::a,y::b,ha,hb,h=>by
  obtain⟨a1,a2⟩:=aI.1 ha
  obtain⟨b1,b2⟩:=aI.1 hb
  have hxy:x=y:=by
   rcases am.1 ((h x).1 (by simp))with e | e
   ·exact e
   ·rcases am.1 ((h y).2 (by simp))with e' | e'
    ·exact e'.symm
    ·have:=b1 x e;have:=a1 y e';omega
  subst hxy
  congr 1
  refine ygz a2 b2 fun z=>⟨fun hz=> ?_,fun hz=> ?_⟩
  ·rcases am.1 ((h z).1 (by simp[hz]))with e | e
   ·have:=a1 z hz;omega
   ·exact e
  ·rcases am.1 ((h z).2 (by simp[hz]))with e | e
   ·have:=b1 z hz;omega
   ·exact e
def IsReach(p:List Sl)(R:List Int)(out:List Int):Prop:=out.Pairwise (·<·)/\∀i,i∈out↔Rch p R i
theorem IsReach.unique{p:List Sl}{R a b:List Int}(h:IsReach p R a)(k:IsReach p R b):a=b:=ygz h.1 k.1 fun x=>(h.2 x).trans (k.2 x).symm
structure DS where
 st:List Int
 fine:Bool
 out:List Int
def dfs(p:List Sl):Nat->Int->DS->DS
 | 0,_,s=>s
 | n+1,id,s=>
  if W2 p id=false\/rdL s.st id 0=2 then s
  else if rdL s.st id 0=1 then⟨s.st,false,s.out⟩
  else
   let s':=(G6 (slA p id)).foldl (fun s k=>dfs p n k s) ⟨setL s.st id 1,s.fine,s.out⟩
   ⟨setL s'.st id 2,s'.fine,s'.out++[id]⟩
abbrev DS.c(s:DS)(i:Int):Int:=rdL s.st i 0
def DS.white(s:DS):Nat:=s.st.count 0
def V3(s:DS):Prop:=∀i,s.c i=0\/s.c i=1\/s.c i=2
structure Post (p:List Sl) (R:List Int) (s s':DS):Prop where
 len:s'.st.length=s.st.length
 wh:s'.white<=s.white
 ol:s'.out.length+s'.white<=s.out.length+s.white
 v3:V3 s'
 one:∀i,0<=i->(s'.c i=1↔s.c i=1)
 two:∀i,0<=i->s.c i=2->s'.c i=2
 self:∀k∈R,W2 p k=true->s'.c k≠0
 new:∀i,0<=i->s.c i≠2->s'.c i=2->Rch p R i
 clo:∀i,0<=i->s.c i≠2->s'.c i=2->∀k∈G6 (slA p i),W2 p k=true->s'.c k≠0
 out:∃l,s'.out=s.out++l/\(∀i,i∈l↔0<=i/\i<(s.st.length:Int)/\s.c i=0/\s'.c i=2)/\l.Nodup/\
  (s'.fine=true->∀A i B,l=A++i::B->∀k∈G6 (slA p i),W2 p k=true->s.c k=2\/k∈A)
 fine1:s'.fine=true->s.fine=true
 fine2:s'.fine=true->∀k∈R,W2 p k=true->s'.c k=2
 fine4:s.fine=true->s'.fine=false->(∃x,s.c x=1/\Rch p R x)\/∃x,Rch p R x/\Rch p (G6 (slA p x)) x
theorem zxp{p:List Sl}{R:List Int}{s:DS}(hv:V3 s)(h:∀k∈R,W2 p k=true->s.c k=2):Post p R s s:=
 ⟨rfl,al _,al _,hv,fun _ _=>Iff.rfl,fun _ _ h=>h,fun k hk hu e=>(by rw[h k hk hu]at e;cases e),fun i _ a b=>absurd b a,fun i _ a b=>absurd b a,
  ⟨[],by simp,fun i=>(by simp;omega),dU,fun _ A i B e=>(by cases A<;>cases e)⟩,fun h=>h,fun _=>h,fun a b=>(by rw[a]at b;cases b)⟩
theorem yhu{p:List Sl}{k:Int}{R:List Int}{s s1 s2:DS}(hv:V3 s)(h:Post p [k] s s1)(g:Post p R s1 s2):Post p (k::R) s s2:=by
 have keep:∀i,0<=i->s1.c i≠0->s2.c i≠0:=by
  intro i hi h0
  rcases h.v3 i with e | e | e
  ·exact absurd e h0
  ·have:=(g.one i hi).2 e;omega
  ·have:=g.two i hi e;omega
 have m1:∀{i},Rch p [k] i->Rch p (k::R) i:=fun r=>r.mono (by simp)
 have m2:∀{i},Rch p R i->Rch p (k::R) i:=fun r=>r.mono (fun x hx=>by simp[hx])
 refine⟨g.len.trans h.len,aX g.wh h.wh,aX g.ol h.ol,g.v3,fun i hi=>(g.one i hi).trans (h.one i hi),fun i hi e=>g.two i hi (h.two i hi e), ?_, ?_, ?_, ?_,fun e=>h.fine1 (g.fine1 e), ?_, ?_⟩
 ·intro j hj hu
  rcases am.1 hj with rfl | hj
  ·exact keep j (y0 hu) (h.self j (by simp) hu)
  ·exact g.self j hj hu
 ·intro i hi h0 h2
  by_cases e:s1.c i=2
  ·exact m1 (h.new i hi h0 e)
  ·exact m2 (g.new i hi e h2)
 ·intro i hi h0 h2 j hj hu
  by_cases e:s1.c i=2
  ·exact keep j (y0 hu) (h.clo i hi h0 e j hj hu)
  ·exact g.clo i hi e h2 j hj hu
 ·obtain⟨l1,a1,a2,a3,a4⟩:=h.out
  obtain⟨l2,b1,b2,b3,b4⟩:=g.out
  refine⟨l1++l2,by rw[b1,a1,au],fun i=> ?_, ?_,fun hf A i B e j hj hu=> ?_⟩
  ·rw[ak,a2,b2,h.len]
   constructor
   ·rintro(⟨x1,x2,x3,x4⟩ | ⟨x1,x2,x3,x4⟩)
    ·exact⟨x1,x2,x3,g.two i x1 x4⟩
    ·refine⟨x1,x2, ?_,x4⟩
     rcases hv i with e | e | e
     ·exact e
     ·have:=(h.one i x1).2 e;omega
     ·have:=h.two i x1 e;omega
   ·rintro⟨x1,x2,x3,x4⟩
    rcases h.v3 i with e | e | e
    ·exact .inr ⟨x1,x2,e,x4⟩
    ·have:=(h.one i x1).1 e;omega
    ·exact .inl ⟨x1,x2,x3,e⟩
  ·refine cf.2 ⟨a3,b3,fun i hi j hj e=> ?_⟩
   subst e
   have:=((a2 i).1 hi).2.2.2
   have:=((b2 i).1 hj).2.2.1
   omega
  ·have hf1:=g.fine1 hf
   rcases dV.1 e with⟨zs,e1,e2⟩ | ⟨bs,e1,e2⟩
   ·rcases b4 hf zs i B e2 j hj hu with h1 | h1
    ·have hjn:=y0 hu
     by_cases hc:s.c j=2
     ·exact .inl hc
     ·refine .inr ?_
      rw[e1,ak]
      refine .inl ((a2 j).2 ⟨hjn, ?_, ?_,h1⟩)
      ·by_cases hlt:j<(s.st.length:Int)
       ·exact hlt
       ·exfalso
        have:s1.c j=0:=by
         have hl:=h.len
         simp only[DS.c,rdL]
         rw[aM,cR (by omega)];rfl
        omega
      ·rcases hv j with e | e | e
       ·exact e
       ·have:=(h.one j hjn).2 e;omega
       ·exact absurd e hc
    ·exact .inr (by rw[e1,ak];exact .inr h1)
   ·cases bs with
    | nil=>
     simp only[ai,aj]at e1 e2
     rcases b4 hf [] i B e2.symm j hj hu with h1 | h1
     ·have hjn:=y0 hu
      by_cases hc:s.c j=2
      ·exact .inl hc
      ·refine .inr ?_
       rw[<-e1]
       refine(a2 j).2 ⟨hjn, ?_, ?_,h1⟩
       ·by_cases hlt:j<(s.st.length:Int)
        ·exact hlt
        ·exfalso
         have:s1.c j=0:=by
          have hl:=h.len
          simp only[DS.c,rdL]
          rw[aM,cR (by omega)];rfl
         omega
       ·rcases hv j with e | e | e
        ·exact e
        ·have:=(h.one j hjn).2 e;omega
        ·exact absurd e hc
     ·cases h1
    | cons b bs=>
     simp only[aY,cg.injEq]at e2
     obtain⟨rfl,e2⟩:=e2
     exact a4 hf1 A i bs e1 j hj hu
 ·intro hf j hj hu
  rcases am.1 hj with rfl | hj
  ·exact g.two j (y0 hu) (h.fine2 (g.fine1 hf) j (by simp) hu)
  ·exact g.fine2 hf j hj hu
 ·intro hs hf
  cases e:s1.fine with
  | false=>
   rcases h.fine4 hs e with⟨x,x1,x2⟩ | ⟨x,x1,x2⟩
   ·exact .inl ⟨x,x1,m1 x2⟩
   ·exact .inr ⟨x,m1 x1,x2⟩
  | true=>
   rcases g.fine4 e hf with⟨x,x1,x2⟩ | ⟨x,x1,x2⟩
   ·exact .inl ⟨x,(h.one x (y0 x2.used)).1 x1,m2 x2⟩
   ·exact .inr ⟨x,m2 x1,x2⟩
theorem zm2{l:List Int}{i:Int}{y:Int}(h0:0<=i)(h1:i<(l.length:Int))(hy:y≠0):(setL l i y).count 0+(if rdL l i 0=0 then 1 else 0)=l.count 0:=by
 have h:i.toNat<l.length:=by omega
 have hr:rdL l i 0=l[i.toNat]:=by simp[rdL,h]
 unfold setL
 rw[List.count_set h,hr]
 have hle:(if(l[i.toNat]==0)=true then 1 else 0)<=l.count 0:=by
  split
  ·rename_i e
   have:l[i.toNat]=0:=by simpa using e
   exact List.count_pos_iff.2 (by rw[<-this];exact List.getElem_mem h)
  ·omega
 have hy':(if(y==0)=true then 1 else 0)=0:=by simp[hy]
 rw[hy']
 by_cases e:l[i.toNat]=0
 ·simp only[e,beq_self_eq_true,if_true]at hle|-;omega
 ·simp only[beq_iff_eq,e,if_false]at hle|-;omega
theorem yn8{s:DS}{id i:Int}{y:Int}{f:Bool}{o:List Int}(h0:0<=id)(h1:id<(s.st.length:Int))(hi:0<=i):(DS.mk (setL s.st id y) f o).c i=if i=id then y else s.c i:=by
 by_cases e:i=id
 ·subst e;rw[if_pos rfl];exact z32 h0 h1
 ·rw[if_neg e];exact z1d h0 hi e
theorem yrc{s:DS}{i:Int}(h:i<0):s.c i=s.c 0:=by
 simp only[DS.c,rdL];congr 1;omega
theorem yj6{s:DS}(h:∀i,0<=i->s.c i=0\/s.c i=1\/s.c i=2):V3 s:=fun i=>by
 by_cases hi:0<=i
 ·exact h i hi
 ·rw[yrc (by omega)];exact h 0 (by omega)
theorem yht{p:List Sl}{id:Int}{s s2:DS}(hv:V3 s)(hl:s.st.length=p.length)(hu:W2 p id=true)(hc:s.c id=0)
  (g:Post p (G6 (slA p id)) ⟨setL s.st id 1,s.fine,s.out⟩ s2):Post p [id] s ⟨setL s2.st id 2,s2.fine,s2.out++[id]⟩:=by
 have h0:=y0 hu
 have h1:id<(s.st.length:Int):=by rw[hl];exact z7q hu
 have hl2:s2.st.length=s.st.length:=by rw[g.len];simp
 have h2:id<(s2.st.length:Int):=by rw[hl2];exact h1
 obtain⟨s1,hs1⟩:∃s1:DS,s1=⟨setL s.st id 1,s.fine,s.out⟩:=⟨_,rfl⟩
 have c1:∀i,0<=i->s1.c i=if i=id then 1 else s.c i:=fun i hi=>by rw[hs1];exact yn8 h0 h1 hi
 rw[<-hs1]at g
 have c3:∀i,0<=i->(DS.mk (setL s2.st id 2) s2.fine (s2.out++[id])).c i=if i=id then 2 else s2.c i:=fun i hi=>yn8 h0 h2 hi
 have w1:s1.white+1=s.white:=by
  have:=zm2 (y:=1) h0 h1 (by decide)
  rw[if_pos hc]at this
  rw[hs1];exact this
 have w3:(DS.mk (setL s2.st id 2) s2.fine (s2.out++[id])).white<=s2.white:=by
  have:=zm2 (y:=2) h0 h2 (by decide)
  show(setL s2.st id 2).count 0<=s2.st.count 0
  omega
 have c2id:s2.c id=1:=(g.one id h0).2 (by rw[c1 id h0,if_pos rfl])
 have hlen1:s1.st.length=s.st.length:=by rw[hs1];simp
 have hout1:s1.out=s.out:=by rw[hs1]
 have hfine1:s1.fine=s.fine:=by rw[hs1]
 have gwh:=g.wh
 have gol:=g.ol
 rw[hout1]at gol
 have up:∀{i},Rch p (G6 (slA p id)) i->Rch p [id] i:=fun r=>r.up hu
 have nz:∀i,0<=i->s2.c i≠0->(DS.mk (setL s2.st id 2) s2.fine (s2.out++[id])).c i≠0:=by
  intro i hi h
  rw[c3 i hi]
  by_cases e:i=id
  ·rw[if_pos e];decide
  ·rw[if_neg e];exact h
 refine⟨by simpa using hl2,by omega, ?_, ?_, ?_, ?_, ?_, ?_, ?_, ?_, ?_, ?_, ?_⟩
 ·simp only[ae,aL];omega
 ·refine yj6 fun i hi=> ?_
  rw[c3 i hi]
  by_cases e:i=id
  ·rw[if_pos e];exact .inr (.inr rfl)
  ·rw[if_neg e];exact g.v3 i
 ·intro i hi
  rw[c3 i hi]
  by_cases e:i=id
  ·subst e;rw[if_pos rfl,hc];decide
  ·rw[if_neg e,g.one i hi,c1 i hi,if_neg e]
 ·intro i hi h
  rw[c3 i hi]
  by_cases e:i=id
  ·rw[if_pos e]
  ·rw[if_neg e];exact g.two i hi (by rw[c1 i hi,if_neg e];exact h)
 ·intro k hk _
  simp only[aE]at hk
  subst hk
  rw[c3 k h0,if_pos rfl];decide
 ·intro i hi ha hb
  rw[c3 i hi]at hb
  by_cases e:i=id
  ·subst e;exact .root (by simp) hu
  ·rw[if_neg e]at hb
   exact up (g.new i hi (by rw[c1 i hi,if_neg e];exact ha) hb)
 ·intro i hi ha hb k hk hku
  apply nz k (y0 hku)
  rw[c3 i hi]at hb
  by_cases e:i=id
  ·subst e;exact g.self k hk hku
  ·rw[if_neg e]at hb
   exact g.clo i hi (by rw[c1 i hi,if_neg e];exact ha) hb k hk hku
 ·obtain⟨l,a1,a2,a3,a4⟩:=g.out
  refine⟨l++[id],by show s2.out++[id]=_;rw[a1,hout1,au],fun i=> ?_, ?_,fun hf A i B e k hk hku=> ?_⟩
  ·rw[ak,a2,hlen1]
   constructor
   ·rintro(⟨x1,x2,x3,x4⟩ | h)
    ·have e:i≠id:=fun e=>by rw[c1 i x1,if_pos e]at x3;cases x3
     rw[c1 i x1,if_neg e]at x3
     exact⟨x1,x2,x3,by rw[c3 i x1,if_neg e];exact x4⟩
    ·simp only[aE]at h
     subst h
     exact⟨h0,h1,hc,by rw[c3 i h0,if_pos rfl]⟩
   ·rintro⟨x1,x2,x3,x4⟩
    by_cases e:i=id
    ·exact .inr (by simp[e])
    ·rw[c3 i x1,if_neg e]at x4
     exact .inl ⟨x1,x2,by rw[c1 i x1,if_neg e];exact x3,x4⟩
  ·refine cf.2 ⟨a3,by simp,fun i hi j hj e=> ?_⟩
   simp only[aE]at hj
   subst hj;subst e
   have:=((a2 i).1 hi).2.2.1
   rw[c1 i h0,if_pos rfl]at this;cases this
  ·have hf:s2.fine=true:=hf
   have hkn:=y0 hku
   have conv:s1.c k=2->s.c k=2:=fun h=>by
    rw[c1 k hkn]at h
    by_cases e:k=id
    ·rw[if_pos e]at h;cases h
    ·rw[if_neg e]at h;exact h
   rcases dV.1 e with⟨zs,e1,e2⟩ | ⟨bs,e1,e2⟩
   ·have hcase:zs=[]/\i=id:=by
     cases zs with
     | nil=>simp only[aj,cg.injEq]at e2;exact⟨rfl,e2.1.symm⟩
     | cons x xs=>simp at e2
    obtain⟨rfl,rfl⟩:=hcase
    rw[ai]at e1
    subst e1
    have h2k:=g.fine2 hf k hk hku
    by_cases hc2:s1.c k=2
    ·exact .inl (conv hc2)
    ·refine .inr ((a2 k).2 ⟨hkn, ?_, ?_,h2k⟩)
     ·rw[hlen1,hl];exact z7q hku
     ·have hv1:V3 s1:=yj6 fun i hi=>by
       rw[c1 i hi]
       by_cases e:i=i
       ·split
        ·exact .inr (.inl rfl)
        ·exact hv i
       ·exact absurd rfl e
      rcases hv1 k with e | e | e
      ·exact e
      ·have:=(g.one k hkn).2 e;omega
      ·exact absurd e hc2
   ·cases bs with
    | nil=>
     simp only[aj,ai,cg.injEq]at e2 e1
     obtain⟨rfl,_⟩:=e2
     subst e1
     have h2k:=g.fine2 hf k hk hku
     by_cases hc2:s1.c k=2
     ·exact .inl (conv hc2)
     ·refine .inr ((a2 k).2 ⟨hkn, ?_, ?_,h2k⟩)
      ·rw[hlen1,hl];exact z7q hku
      ·have hv1:V3 s1:=yj6 fun j hj=>by
        rw[c1 j hj]
        split
        ·exact .inr (.inl rfl)
        ·exact hv j
       rcases hv1 k with e | e | e
       ·exact e
       ·have:=(g.one k hkn).2 e;omega
       ·exact absurd e hc2
    | cons b bs=>
     simp only[aY,cg.injEq]at e2
     obtain⟨rfl,e2⟩:=e2
     rcases a4 hf A i bs e1 k hk hku with h | h
     ·exact .inl (conv h)
     ·exact .inr h
 ·intro hf
  have:=g.fine1 hf
  rw[hfine1]at this;exact this
 ·intro hf k hk _
  simp only[aE]at hk
  subst hk
  rw[c3 k h0,if_pos rfl]
 ·intro hs hf
  rcases g.fine4 (by rw[hfine1];exact hs) hf with⟨x,x1,x2⟩ | ⟨x,x1,x2⟩
  ·rw[c1 x (y0 x2.used)]at x1
   by_cases e:x=id
   ·subst e;exact .inr ⟨x, .root (by simp) hu,x2⟩
   ·rw[if_neg e]at x1;exact .inl ⟨x,x1,up x2⟩
  ·exact .inr ⟨x,up x1,x2⟩
def dfsL(p:List Sl)(n:Nat)(R:List Int)(s:DS):DS:=R.foldl (fun s k=>dfs p n k s) s
theorem ylq{s:DS}(hv:V3 s){id:Int}(h0:0<=id)(h1:id<(s.st.length:Int)){y:Int}(hy:y=1\/y=2){f:Bool}{o:List Int}:V3 ⟨setL s.st id y,f,o⟩:=yj6 fun i hi=>by
 rw[yn8 h0 h1 hi]
 split
 ·rcases hy with rfl | rfl
  ·exact .inr (.inl rfl)
  ·exact .inr (.inr rfl)
 ·exact hv i
theorem zp9{p:List Sl}{n:Nat}(ih:∀(id:Int) (s:DS),V3 s->s.st.length=p.length->s.white<n->Post p [id] s (dfs p n id s)):
  ∀(R:List Int) (s:DS),V3 s->s.st.length=p.length->s.white<n->Post p R s (dfsL p n R s)
 | [],s,hv,hl,hw=>zxp hv (fun k hk=>(by cases hk))
 | k::R,s,hv,hl,hw=>by
  have a:=ih k s hv hl hw
  exact yhu hv a (zp9 ih R _ a.v3 (a.len.trans hl) (bN a.wh hw))
theorem zok(p:List Sl):∀(n:Nat) (id:Int) (s:DS),V3 s->s.st.length=p.length->s.white<n->Post p [id] s (dfs p n id s)
 | 0,_,_,_,_,hw=>absurd hw (ag _)
 | n+1,id,s,hv,hl,hw=>by
  unfold dfs
  by_cases hu:W2 p id=true
  ·have h0:=y0 hu
   have h1:id<(s.st.length:Int):=by rw[hl];exact z7q hu
   rcases hv id with e | e | e
   ·have e':rdL s.st id 0=0:=e
    rw[if_neg (by simp[hu,e']),if_neg (by simp[e'])]
    refine yht hv hl hu e (zp9 (zok p n) (G6 (slA p id)) ⟨setL s.st id 1,s.fine,s.out⟩ (ylq hv h0 h1 (.inl rfl)) (by simpa using hl) ?_)
    have:=zm2 (y:=1) h0 h1 (by decide)
    rw[if_pos e']at this
    show(setL s.st id 1).count 0<n
    have:s.white=s.st.count 0:=rfl
    omega
   ·have e':rdL s.st id 0=1:=e
    rw[if_neg (by simp[hu,e']),if_pos e']
    have hr:∀i,(DS.mk s.st false s.out).c i=s.c i:=fun _=>rfl
    refine⟨rfl,al _,al _,hv,fun _ _=>Iff.rfl,fun _ _ h=>h,fun k hk _=> ?_,fun i _ a b=>absurd b a,fun i _ a b=>absurd b a,⟨[],by simp,fun i=> ?_,dU,fun h=>(by cases h)⟩,fun h=>(by cases h),fun h=>(by cases h),fun _ _=> .inl ⟨id,e, .root (by simp) hu⟩⟩
    ·simp only[aE]at hk
     subst hk
     show s.c k≠0
     omega
    ·simp only[List.not_mem_nil,hr,false_iff];omega
   ·have e':rdL s.st id 0=2:=e
    rw[if_pos (.inr e')]
    exact zxp hv fun k hk _=>by simp only[aE]at hk;subst hk;exact e
  ·rw[if_pos (.inl (by simpa using hu))]
   exact zxp hv fun k hk hku=>by simp only[aE]at hk;subst hk;exact absurd hku hu
theorem ynn{p:List Sl}{n:Nat}(hn:p.length<n)(R:List Int):∃s,dfsL p n R ⟨ar p.length 0,true,[]⟩=s/\
  s.out.Nodup/\(∀i,i∈s.out↔Rch p R i)/\s.out.length<=p.length/\(s.fine=false->∃x,Rch p R x/\Rch p (G6 (slA p x)) x)/\
  (s.fine=true->∀i,Rch p R i->¬Rch p (G6 (slA p i)) i):=by
 obtain⟨s0,hs0⟩:∃s0:DS,s0=⟨ar p.length 0,true,[]⟩:=⟨_,rfl⟩
 have c0:∀i,s0.c i=0:=fun i=>by rw[hs0];simp only[DS.c,rdL,aM,dh];split<;>rfl
 have hv:V3 s0:=fun i=> .inl (c0 i)
 have hl:s0.st.length=p.length:=by rw[hs0];simp
 have hw:s0.white<=p.length:=by rw[hs0];exact aX bJ (by simp)
 rw[<-hs0]
 have h:=zp9 (zok p n) R s0 hv hl (by omega)
 obtain⟨s,hs⟩:∃s,dfsL p n R s0=s:=⟨_,rfl⟩
 rw[hs]at h
 refine⟨s,hs, ?_⟩
 obtain⟨l,a1,a2,a3,a4⟩:=h.out
 have ho:s0.out=[]:=by rw[hs0]
 rw[ho,aj]at a1
 subst a1
 have no1:∀i,0<=i->s.c i≠1:=fun i hi e=>by have:=(h.one i hi).1 e;rw[c0]at this;cases this
 have two_of:∀i,0<=i->s.c i≠0->s.c i=2:=fun i hi hz=>by
  rcases h.v3 i with e | e | e
  ·exact absurd e hz
  ·exact absurd e (no1 i hi)
  ·exact e
 have r2:∀i,Rch p R i->s.c i=2:=by
  intro i hi
  induction hi with
  | root hk hu=>exact two_of _ (y0 hu) (h.self _ hk hu)
  | kid hr hk hu ih=>exact two_of _ (y0 hu) (h.clo _ (y0 hr.used) (by rw[c0];decide) ih _ hk hu)
 have hmem:∀i,i∈s.out↔Rch p R i:=by
  intro i
  rw[a2]
  constructor
  ·rintro⟨x1,x2,x3,x4⟩
   exact h.new i x1 (by rw[c0];decide) x4
  ·intro hr
   exact⟨y0 hr.used,by rw[hl];exact z7q hr.used,c0 i,r2 i hr⟩
 refine⟨a3,hmem, ?_, ?_, ?_⟩
 ·have:=h.ol
  rw[ho]at this
  simp only[aq]at this
  omega
 ·intro hf
  rcases h.fine4 (by rw[hs0]) hf with⟨x,x1,_⟩ | h
  ·rw[c0]at x1;cases x1
  ·exact h
 ·intro hf i hi hcyc
  have key:∀A i B,s.out=A++i::B->∀k,Rch p (G6 (slA p i)) k->k∈A:=by
   intro A i B e k hk
   induction hk with
   | root hk hu=>
    rcases a4 hf A i B e _ hk hu with h | h
    ·rw[c0]at h;cases h
    ·exact h
   | @kid j k hr hk hu ih=>
    obtain⟨A1,B1,e1⟩:=dS ih
    rcases a4 hf A1 j (B1++i::B) (by rw[e,e1];simp) k hk hu with h | h
    ·rw[c0]at h;cases h
    ·rw[e1];exact ak.2 (.inl h)
  obtain⟨A,B,e⟩:=dS ((hmem i).2 hi)
  have hA:=key A i B e i hcyc
  rw[e]at a3
  exact(cf.1 a3).2.2 i hA i (by simp) rfl
abbrev tupB(p:List Sl)(s:DS):(Unit×((List Z7)×(Unit×((List Int)×(Bool×((Unit×(Unit×(Unit×(Unit×Unit))))×(Unit×(Unit×((List Int)×Unit))))))))):=((),(p,((),(s.st,(s.fine,(((),((),((),((),())))),((),((),(s.out,())))))))))
theorem ymc(N n:Nat)(p:List Sl)(id:Int)(K:Nat)(hK:K<1000000)
  (ih:∀(id:Int) (s:DS),V3 s->s.st.length=p.length->s.white<n->s.out.length+s.white<=K->J5 N n id p s.st s.fine s.out=some (tupB p (dfs p n id s))):
  ∀(post pre:List Int) (m:Nat) (s:DS),post.length<m->(pre++post).length<1000000->V3 s->s.st.length=p.length->s.white<n->s.out.length+s.white<=K->
   z0m N (J5 N n) m id (pre++post) ((pre++post).length:Int) (pre.length:Int) s.st p s.fine s.out=
    some ((id,((),())),((),((dfsL p n post s).st,((),((),((dfsL p n post s).out,(p,((dfsL p n post s).fine,(((),((),((),((),())))),())))))))))
 | [],pre,0,s,h,_,_,_,_,_=>absurd h (ag _)
 | k::post,pre,0,s,h,_,_,_,_,_=>absurd h (ag _)
 | [],pre,m+1,s,_,_,_,_,_,_=>by
  rw[zau]
  simp only[y7,ai,aA,decide_false,cond_false]
  rfl
 | k::post,pre,m+1,s,hm,hl,hv,hs,hw,ho=>by
  have a:=zok p n k s hv hs hw
  have ih2:=ymc N n p id K hK ih post (pre++[k]) m (dfs p n k s) (by simp at hm;omega) (by simpa using hl) a.v3 (a.len.trans hs) (bN a.wh hw) (aX a.ol ho)
  rw[zau]
  simp only[y7,U3,V4,U0,cond_true]
  rw[gd_t rfl,ih k s hv hs hw ho]
  simp only[tupB]
  rw[W7 (q:=k) (by simp at hl;omega),V9]
  exact ih2
theorem yfh(N:Nat)(p:List Sl)(K:Nat)(hK:K<1000000)(hk:∀s∈p,(G6 s).length<1000000)(hN:1000000<=N):∀(n:Nat) (id:Int) (s:DS),V3 s->s.st.length=p.length->s.white<n->s.out.length+s.white<=K->
  J5 N n id p s.st s.fine s.out=some (tupB p (dfs p n id s))
 | 0,_,_,_,_,hw,_=>absurd hw (ag _)
 | n+1,id,s,hv,hl,hw,ho=>by
  rw[zhi]
  unfold z18 dfs
  simp only[y86]
  by_cases hu:W2 p id=true
  ·have h0:=y0 hu
   have h1:=z7q hu
   have h1s:id<(s.st.length:Int):=by rw[hl];exact h1
   rw[hu]
   simp only[aS,cond_false]
   rw[gd_t (V7 h0 h1s)]
   rcases hv id with e | e | e
   ·have e':rdL s.st id 0=0:=e
    rw[Y3 (by rw[e'];rfl),gd_t (V7 h0 h1s),Y3 (by rw[e'];rfl),gd_t (V7 h0 h1s),gd_t (V7 h0 h1)]
    rw[if_neg (by simp[e']),if_neg (by simp[e'])]
    have hw0:=zm2 (y:=1) h0 h1s (by decide)
    rw[if_pos e']at hw0
    have hww:s.white=s.st.count 0:=rfl
    have hv1:V3 ⟨setL s.st id 1,s.fine,s.out⟩:=ylq hv h0 h1s (.inl rfl)
    have hl1:(DS.mk (setL s.st id 1) s.fine s.out).st.length=p.length:=by simpa using hl
    have hw1:(DS.mk (setL s.st id 1) s.fine s.out).white<n:=by show(setL s.st id 1).count 0<n;omega
    have hk':(G6 (slA p id)).length<1000000:=hk _ (z62 h0 h1)
    have hlp:=ymc N n p id K hK (yfh N p K hK hk hN n) (G6 (slA p id)) [] N ⟨setL s.st id 1,s.fine,s.out⟩ (by omega) (by simpa using hk') hv1 hl1 hw1 (by show s.out.length+(setL s.st id 1).count 0<=K;omega)
    have hpost:=zp9 (zok p n) (G6 (slA p id)) ⟨setL s.st id 1,s.fine,s.out⟩ hv1 hl1 hw1
    have hlp':z0m N (J5 N n) N id (((((((rdL p id X2).2).2).2).2).2).1) (ap (((((((rdL p id X2).2).2).2).2).2).1):Int) (0:Int) (setL s.st id (1:Int)) p s.fine s.out=_:=hlp
    rw[hlp']
    simp only
    have hgl:id<((dfsL p n (G6 (slA p id)) ⟨setL s.st id 1,s.fine,s.out⟩).st.length:Int):=by rw[hpost.len];simpa using h1s
    rw[gd_t (V7 h0 hgl)]
    have hol:=hpost.ol
    have hol2:(dfsL p n (G6 (slA p id)) ⟨setL s.st id 1,s.fine,s.out⟩).out.length<1000000:=by
     have:(DS.mk (setL s.st id 1) s.fine s.out).out.length+(DS.mk (setL s.st id 1) s.fine s.out).white=s.out.length+(setL s.st id 1).count 0:=rfl
     omega
    have hr:∀o:List Int,o.length<1000000->zar N id o=some ((),((),(o++[id],()))):=by
     intro o hoo
     unfold zar
     rw[gd_t (Y4 (by omega) (by omega))]
    rw[hr _ hol2]
    rfl
   ·have e':rdL s.st id 0=1:=e
    rw[Y3 (by rw[e'];rfl),gd_t (V7 h0 h1s),X4 (by rw[e'];rfl)]
    rw[if_neg (by simp[e']),if_pos e']
   ·have e':rdL s.st id 0=2:=e
    rw[X4 (by rw[e'];rfl),if_pos (.inr e')]
  ·have hu':W2 p id=false:=by simpa using hu
   rw[hu',if_pos (.inl rfl)]
   rfl
theorem yfu(N:Nat)(p:List Sl)(K:Nat)(hK:K<1000000)(hk:∀s∈p,(G6 s).length<1000000)(hN:1000000<=N):
  ∀(post pre:List Int) (m:Nat) (s:DS),post.length<m->(pre++post).length<1000000->V3 s->s.st.length=p.length->s.white<N->s.out.length+s.white<=K->
   U8 N m (pre++post) ((pre++post).length:Int) (pre.length:Int) s.fine p s.st s.out=
    some ((),((dfsL p N post s).fine,((),((dfsL p N post s).out,()))))
 | [],pre,0,s,h,_,_,_,_,_=>absurd h (ag _)
 | k::post,pre,0,s,h,_,_,_,_,_=>absurd h (ag _)
 | [],pre,m+1,s,_,_,_,_,_,_=>by
  rw[z2o]
  simp only[U5,ai,aA,decide_false,cond_false]
  rfl
 | k::post,pre,m+1,s,hm,hl,hv,hs,hw,ho=>by
  have a:=zok p N k s hv hs hw
  have ih2:=yfu N p K hK hk hN post (pre++[k]) m (dfs p N k s) (by simp at hm;omega) (by simpa using hl) a.v3 (a.len.trans hs) (bN a.wh hw) (aX a.ol ho)
  rw[z2o]
  simp only[U5,U3,V4,U0,cond_true]
  have hvv:zlq N k p s.st s.fine s.out=some (tupB p (dfs p N k s)):=yfh N p K hK hk hN N k s hv hs hw ho
  rw[gd_t rfl,hvv]
  simp only[tupB]
  rw[W7 (q:=k) (by simp at hl;omega),V9]
  exact ih2
theorem ymq:∀{l:List Int},l.Pairwise (fun a b=>decide (a<=b)=true)->l.Nodup->l.Pairwise (·<·)
 | [],_,_=>List.Pairwise.nil
 | x::l,h,g=>by
  obtain⟨h1,h2⟩:=aI.1 h
  obtain⟨g1,g2⟩:=List.nodup_cons.1 g
  refine aI.2 ⟨fun y hy=> ?_,ymq h2 g2⟩
  have:x<=y:=by simpa using h1 y hy
  have:x≠y:=fun e=>g1 (e▸hy)
  omega
theorem yhf{l:List Int}(h:l.Nodup):(z7m l).Pairwise (·<·):=by
 refine ymq ?_ ?_
 ·refine List.pairwise_mergeSort (fun a b c x y=> ?_) (fun a b=> ?_) l
  ·simp only[decide_eq_true_eq]at x y|-;omega
  ·simp only[Bool.or_eq_true,decide_eq_true_eq];omega
 ·exact(dJ l _).nodup_iff.2 h
theorem mem_sortI{l:List Int}{x:Int}:x∈z7m l↔x∈l:=(dJ l _).mem_iff
theorem y5t{N:Nat}(hN:2000000000<=N){p:List Sl}{R:List Int}(hl:p.length<=100000)(hk:∀s∈p,(G6 s).length<1000000)(hR:R.length<1000000):∃out,zb1 N p R=some out/\IsReach p R out:=by
 obtain⟨s,hs,h1,h2,h3,h4,h5⟩:=ynn (p:=p) (n:=N) (by omega) R
 obtain⟨s0,hs0⟩:∃s0:DS,s0=⟨ar p.length 0,true,[]⟩:=⟨_,rfl⟩
 have c0:∀i,s0.c i=0:=fun i=>by rw[hs0];simp only[DS.c,rdL,aM,dh];split<;>rfl
 have hw:s0.white<=p.length:=by rw[hs0];exact aX bJ (by simp)
 have hr:=yfu N p p.length (by omega) hk (by omega) R [] N s0 (by omega) (by simpa using hR) (fun i=> .inl (c0 i)) (by rw[hs0];simp) (by omega) (by rw[hs0]at hw|-;simpa using hw)
 refine⟨z7m s.out, ?_,yhf h1,fun i=>mem_sortI.trans (h2 i)⟩
 unfold zb1 pool_visit_m__pool_Reach_c1
 rw[ymh p 8 hl (by omega) (by omega)]
 have hr':U8 N N R (ap R:Int) (0:Int) true p (ar (Int.toNat (ap p:Int)) (0:Int)) ([]:List Int)=some ((),(s.fine,((),(s.out,())))):=by
  rw[<-hs,<-hs0]
  rw[hs0]at hr|-
  exact hr
 dsimp only
 rw[hr']
 simp only[z1g]
 rw[gd_t (by simp only[Nat.blt_eq];omega)]
theorem bfs(N:Nat)(p:List Sl)(R:List Int):∀(n:Nat) (todo:List Int) (known:List Bool),known.length=p.length->todo.length+rem p known<n->todo.length+rem p known<1000000000->
  (∀i,0<=i->i<(p.length:Int)->rdL known i false=true->Rch p R i)->(∀k∈todo,W2 p k=true->Rch p R k)->(∀k∈R,W2 p k=true->rdL known k false=true\/k∈todo)->
  (∀i,0<=i->i<(p.length:Int)->rdL known i false=true->∀k∈G6 (slA p i),W2 p k=true->rdL known k false=true\/k∈todo)->
  ∃known',z5r N n todo p known=some ((),(known',()))/\known'.length=p.length/\∀i,0<=i->i<(p.length:Int)->(rdL known' i false=true↔Rch p R i)
 | 0,_,_,_,h,_,_,_,_,_=>absurd h (ag _)
 | n+1,[],known,hl,_,_,hA,hB,hC,hD=>by
  refine⟨known, ?_,hl,fun i h0 h1=>⟨hA i h0 h1,fun h=> ?_⟩⟩
  ·rw[zep];simp[z21]
  ·clear h0 h1
   induction h with
   | root hk hu=>
    rcases hC _ hk hu with h | h
    ·exact h
    ·cases h
   | kid hr hk hu ih=>
    rcases hD _ (y0 hr.used) (z7q hr.used) ih _ hk hu with h | h
    ·exact h
    ·cases h
 | n+1,k::rest,known,hl,hn,hb,hA,hB,hC,hD=>by
  simp only[af]at hn hb
  have hrd:rdL (k::rest) (0:Int) (0:Int)=k:=rfl
  rw[zep]
  simp only[z21,hrd,y7j,zb5]
  rw[X4 (by simp<;>omega),gd_t (V7 (by omega) (by simp<;>omega)),gd_t (by simp<;>omega)]
  have skip:(W2 p k=true->rdL known k false=true)->∃known',z5r N n rest p known=some ((),(known',()))/\known'.length=p.length/\∀i,0<=i->i<(p.length:Int)->(rdL known' i false=true↔Rch p R i):=by
   intro hsk
   refine bfs N p R n rest known hl (by omega) (by omega) hA (fun j hj=>hB j (by simp[hj])) (fun j hj hu=> ?_) (fun i h0 h1 hi j hj hu=> ?_)
   ·rcases hC j hj hu with h | h
    ·exact .inl h
    ·rcases am.1 h with rfl | h
     ·exact .inl (hsk hu)
     ·exact .inr h
   ·rcases hD i h0 h1 hi j hj hu with h | h
    ·exact .inl h
    ·rcases am.1 h with rfl | h
     ·exact .inl (hsk hu)
     ·exact .inr h
  cases hu:W2 p k with
  | false=>
   simp only[cond_false]
   exact skip (fun h=>by rw[hu]at h;cases h)
  | true=>
   have h0:=y0 hu
   have h1:=z7q hu
   have h1k:k<(known.length:Int):=by rw[hl];exact h1
   simp only[cond_true]
   rw[gd_t (V7 h0 h1k)]
   cases hkn:rdL known k false with
   | true=>
    simp only[aS,cond_false]
    exact skip (fun _=>hkn)
   | false=>
    simp only[aO,cond_true]
    rw[gd_t (V7 h0 h1k)]
    have hr:=zx4 p known k.toNat (by omega) (by omega) (by
     have:=hkn
     simp only[rdL]at this
     rw[aM,List.getElem?_eq_getElem (by omega)]at this
     exact this)
    rw[<-zha (by omega),kidsU,if_pos (V2.1 hu).2.2]at hr
    have hr:rem p (setL known k true)+(G6 (slA p k)).length=rem p known:=hr
    rw[gd_t (Y4 (by omega) (by omega)),gd_t (V7 h0 h1)]
    have hx:(rdL p k X2).2.2.2.2.2.1=G6 (slA p k):=rfl
    rw[hx,gd_t (Y4 (by simp;omega) (by omega))]
    have hset:∀i,0<=i->i<(p.length:Int)->(rdL (setL known k true) i false=true↔i=k\/rdL known i false=true):=by
     intro i hi hi1
     by_cases e:i=k
     ·subst e;rw[z32 h0 h1k];simp
     ·rw[z1d h0 hi e];simp[e]
    refine bfs N p R n (rest++G6 (slA p k)) (setL known k true) (by simpa using hl) (by rw[ae];omega) (by rw[ae];omega) ?_ ?_ ?_ ?_
    ·intro i hi hi1 h
     rcases(hset i hi hi1).1 h with rfl | h
     ·exact hB i (by simp) hu
     ·exact hA i hi hi1 h
    ·intro j hj hju
     rcases ak.1 hj with h | h
     ·exact hB j (by simp[h]) hju
     ·exact .kid (hB k (by simp) hu) h hju
    ·intro j hj hju
     have hj0:=y0 hju
     have hj1:=z7q hju
     rw[hset j hj0 hj1]
     rcases hC j hj hju with h | h
     ·exact .inl (.inr h)
     ·rcases am.1 h with rfl | h
      ·exact .inl (.inl rfl)
      ·exact .inr (ak.2 (.inl h))
    ·intro i hi hi1 h j hj hju
     have hj0:=y0 hju
     have hj1:=z7q hju
     rw[hset j hj0 hj1]
     rcases(hset i hi hi1).1 h with rfl | h
     ·exact .inr (ak.2 (.inr hj))
     ·rcases hD i hi hi1 h j hj hju with h | h
      ·exact .inl (.inr h)
      ·rcases am.1 h with rfl | h
       ·exact .inl (.inl rfl)
       ·exact .inr (ak.2 (.inl h))
theorem y3s(N:Nat):∀(post pre:List Bool) (m:Nat) (out:List Int),post.length<m->(pre++post).length+post.length+out.length<1000000->
  z5q N m (pre.length:Int) (pre++post) out=some ((),(out++zk1 (pre.length:Int) post,()))
 | [],_,0,_,h,_=>absurd h (ag _)
 | _::_,_,0,_,h,_=>absurd h (ag _)
 | [],pre,m+1,out,_,_=>by
  rw[zeo]
  simp only[z20,ai,aA,decide_false,cond_false,zk1]
 | b::post,pre,m+1,out,hm,hb=>by
  simp only[ae,af]at hb
  rw[zeo]
  simp only[z20,U3,V4,U0,cond_true]
  rw[gd_t rfl,W7 (q:=b) (by omega),V9 (pre:=pre) (q:=b) (post:=post)]
  have e:(pre.length:Int)+1=((pre++[b]).length:Int):=by simp
  cases b with
  | true=>
   simp only[cond_true]
   rw[gd_t (Y4 (by omega) (by omega)),y3s N post (pre++[true]) m (out++[(pre.length:Int)]) (by simp only[af]at hm;omega) (by simp only[ae,af,aq];omega)]
   simp only[zk1,if_true,e,au,List.singleton_append]
  | false=>
   simp only[cond_false]
   rw[y3s N post (pre++[false]) m out (by simp only[af]at hm;omega) (by simp only[ae,af,aq];omega)]
   simp only[zk1,e]
   rfl
theorem y85{N:Nat}(hN:2000000000<=N){p:List Sl}{R:List Int}(hl:p.length<=100000)(hk:(X8 p).length<400000000)(hR:R.length<300000):∃out,zdx N p R=some out/\IsReach p R out:=by
 have hr0:∀i,rdL (ar p.length false) i false=false:=fun i=>by simp only[rdL,aM,dh];split<;>rfl
 obtain⟨known,h1,h2,h3⟩:=bfs N p R N R (ar p.length false) (by simp) (by rw[zxk];omega) (by rw[zxk];omega) (fun i _ _ h=>by rw[hr0]at h;cases h) (fun k hk hu=> .root hk hu) (fun k hk _=> .inr hk) (fun i _ _ h=>by rw[hr0]at h;cases h)
 have h4:=y3s N known [] N [] (by omega) (by simp;omega)
 refine⟨zk1 0 known, ?_,zy8 _ _,fun i=> ?_⟩
 ·unfold zdx
  rw[ymh p 1 hl (by omega) (by omega),gd_t (Y4 (by omega) (by omega))]
  simp only[aj,Int.toNat_natCast]
  rw[h1]
  simp only
  have h4':z5q N N (0:Int) known ([]:List Int)=_:=h4
  rw[h4']
  simp
 ·rw[zxs]
  constructor
  ·rintro⟨a,b,c⟩
   have b':i<(p.length:Int):=by omega
   rw[fy]at c
   exact(h3 i a b').1 c
  ·intro h
   have a:=y0 h.used
   have b:=z7q h.used
   exact⟨a,by omega,by rw[fy];exact(h3 i a b).2 h⟩
end Ds
namespace Ds
open Go Go.Dv
set_option maxRecDepth 100000
variable [Fuel]
def kstp(h b:Int):Int:=aa .u64 (aa .u64 (((BitVec.ofInt (be .u64) h^^^BitVec.ofInt (be .u64) (aa .u64 b)).toNat:Int))*(1099511628211:Int))
def chk(xs:List Int):Int:=xs.foldl kstp 14695981039346656037
theorem yga:∀(q p:List Int) (n:Nat),q.length<n->(p++q).length<1000000000000->∀h,zah NN n h (p++q) ((p++q).length:Int) (p.length:Int)=some (q.foldl kstp h,())
 | _,_,0,h,_,_=>absurd h (ag _)
 | [],p,n+1,_,_,h=>by
  rw[zgl]
  simp only[z3p,ai,aA,decide_false,cond_false,dW]
 | b::q,p,n+1,hn,hl,h=>by
  simp only[af]at hn
  have hb:p.length<9223372036854775807:=by simp at hl;omega
  have ih:=yga q (p++[b]) n (by omega) (by simpa using hl) (kstp h b)
  rw[zgl]
  simp only[z3p,U3,cond_true,U0,W7 (q:=b) hb]
  rw[gd_t V4,V9 (pre:=p) (q:=b) (post:=q),aU,<-ih]
  rfl
theorem yo1{l:List Int}(hl:l.length<1000000000000):zlr NN l=some (chk l):=by
 have h:=yga l [] NN (by have:=ya2;omega) (by simpa using hl) 14695981039346656037
 rw[show(([]:List Int).length:Int)=0 from rfl,aj]at h
 simp only[zlr,h,ab]
 rfl
theorem yfw:∀(q p:List Int) (n:Nat),q.length<n->(p++q).length<1000000000000->∀h,z5t NN n (p++q) h (p.length:Int)=some (q.foldl kstp h,())
 | _,_,0,h,_,_=>absurd h (ag _)
 | [],p,n+1,_,_,h=>by
  rw[z5a]
  simp only[G5,ai,aA,decide_false,cond_false,dW]
 | b::q,p,n+1,hn,hl,h=>by
  simp only[af]at hn
  have hb:p.length<9223372036854775807:=by simp at hl;omega
  have ih:=yfw q (p++[b]) n (by omega) (by simpa using hl) (kstp h b)
  rw[z5a]
  simp only[G5,U3,cond_true,U0,W7 (q:=b) hb]
  rw[gd_t V4,V9 (pre:=p) (q:=b) (post:=q),aU,<-ih]
  rfl
theorem ynv{l:List Int}(hl:l.length<1000000000000):v7 NN l=some (chk l):=by
 have h:=yfw l [] NN (by have:=ya2;omega) (by simpa using hl) 14695981039346656037
 rw[show(([]:List Int).length:Int)=0 from rfl,aj]at h
 simp only[v7,h]
 rfl
abbrev mapS(st:Z6):List Int:=st.2.2.2.2.2.1
abbrev chkS(st:Z6):List Int:=st.2.2.2.2.2.2.1
abbrev celS(st:Z6):List (List Int):=st.1.2.1
structure StL (st:Z6):Prop where
 qu:st.1.2.2=[]
 nc:(celS st).length<100000
 cl:∀c∈celS st,c.length<1000000000
 ml:(mapS st).length<100000
 kl:(chkS st).length<100000
def z3q(st:Z6)(id:Int):Option Int:=if 0<=id/\id<((mapS st).length:Int)/\0<=rdL (mapS st) id 0 then some (rdL (mapS st) id 0)else none
def zmi(st:Z6)(id c:Int):Bool:=(decide (0<=c)&&decide (c<((celS st).length:Int)))&&(decide (id<((chkS st).length:Int))&&eqi (chk (rdL (celS st) c [])) (rdL (chkS st) id 0))
theorem ybf(st:Z6)(id:Int):∃c,zcp NN st id=some (c,(z3q st id).isSome)/\∀x,z3q st id=some x->c=x:=by
 simp only[zcp]
 by_cases h0:id<0
 ·rw[X4 (decide_eq_true h0)]
  have:z3q st id=none:=if_neg (by omega)
  exact⟨0,by rw[this];rfl,fun x h=>by rw[this]at h;cases h⟩
 ·rw[Y3 (decide_eq_false h0)]
  by_cases h1:((mapS st).length:Int)<=id
  ·rw[X4 (decide_eq_true h1)]
   have:z3q st id=none:=if_neg (by omega)
   exact⟨0,by rw[this];rfl,fun x h=>by rw[this]at h;cases h⟩
  ·have hin:inB id (mapS st).length=true:=V7 (by omega) (by omega)
   rw[Y3 (decide_eq_false h1),gd_t hin]
   by_cases h2:rdL (mapS st) id 0<0
   ·rw[X4 (decide_eq_true h2)]
    have:z3q st id=none:=if_neg (by omega)
    exact⟨0,by rw[this];rfl,fun x h=>by rw[this]at h;cases h⟩
   ·rw[Y3 (decide_eq_false h2),gd_t hin]
    have:z3q st id=some (rdL (mapS st) id 0):=if_pos ⟨by omega,by omega,by omega⟩
    exact⟨_,by rw[this];rfl,fun x h=>by rw[this]at h;cases h;rfl⟩
theorem yog{d:W8}(hq:d.2.2=[])(c:Int):zvj NN d c=some (if 0<=c/\c<(d.2.1.length:Int)then(rdL d.2.1 c [],0)else([],230)):=by
 obtain⟨n,hn⟩:∃n,NN=n+1:=⟨NN-1,by have:=W9;omega⟩
 have hb:U4 NN [] c [] 0=some (.inr ((),(((),((),())),(c,((),(([]:List Int),((0:Int),()))))))):=by
  have h:X6 NN NN [] (-1) c [] 0=some (.inr ((),(((),((),())),(c,((),(([]:List Int),((0:Int),()))))))):=by
   rw[show X6 NN NN=X6 NN (n+1)from congrArg _ hn,z2q]
   simp only[V6]
   rw[Y3 (by rfl)]
  have w:aa .i64 ((([]:List Y9).length:Int)-1)= -1:=by decide
  simp only[U4,w,h,ab]
 simp only[zvj,zoj,znx,J6,hq,hb,ab]
 by_cases h0:0<=c
 ·rw[decide_eq_true h0,cond_true]
  by_cases h1:c<(d.2.1.length:Int)
  ·rw[decide_eq_true h1]
   simp only[ab]
   rw[Y3 (by rfl),gd_t (V7 h0 h1),if_pos ⟨h0,h1⟩]
  ·rw[decide_eq_false h1]
   simp only[ab]
   rw[X4 (by rfl),if_neg (by omega)]
 ·rw[decide_eq_false h0,cond_false]
  simp only[ab]
  rw[X4 (by rfl),if_neg (by omega)]
theorem zx5{l:List (List Int)}{i:Int}{P:List Int->Prop}(h:∀c∈l,P c)(h0:P []):P (rdL l i []):=by
 unfold rdL
 rw[aM]
 cases e:l[i.toNat]? with
 | none=>exact h0
 | some x=>exact h x (List.mem_of_getElem? e)
theorem yod{st:Z6}(hS:StL st)(a0 a1:List Int)(a2:Int)(u:List Bool)(la:List Int)(ke lo ge se:Int)(ca:List Int){id:Int}(h0:0<=id)(c:Int):
  zan NN a0 a1 a2 st.1.1 (celS st) st.1.2.2 u la ke lo ge se (mapS st) (chkS st) ca id c=some (zmi st id c):=by
 have hg:=yog (d:=(st.1.1,(celS st,st.1.2.2))) hS.qu c
 simp only[zan,hg,ab,zmi]
 by_cases hc:0<=c/\c<((celS st).length:Int)
 ·rw[if_pos hc,decide_eq_true hc.1,decide_eq_true hc.2]
  have hl:(rdL (celS st) c []).length<1000000000:=zx5 (P:=fun l=>l.length<1000000000) hS.cl (by decide)
  rw[X4 (by rfl)]
  by_cases hi:id<((chkS st).length:Int)
  ·rw[decide_eq_true hi,cond_true,yo1 (l:=rdL (celS st) c []) (by omega)]
   simp only[ab]
   rw[gd_t (V7 h0 hi)]
   rfl
  ·rw[decide_eq_false hi];rfl
 ·rw[if_neg hc,Y3 (by decide)]
  by_cases h1:0<=c
  ·rw[decide_eq_true h1,decide_eq_false (show ¬c<((celS st).length:Int) by omega)];rfl
  ·rw[decide_eq_false h1];rfl
def zam(st:Z6):List Int->Nat->Int->List Int->z7
 | [],_,g,b=>([],(b,g))
 | id::t,0,g,b=>(id::t,(b,g))
 | id::t,k+1,g,b=>match z3q st id with
  | none=>zam st t k g b
  | some c=>if zmi st id c=true then zam st t k (aa .i64 (g+1)) b else zam st t k g (b++[id])
section
variable {st:Z6} (hS:StL st)
abbrev wkT(st:Z6)(rem:Int)(w:z7):(Unit×((Unit×Unit)×(Int×(Unit×(((List Int)×(Unit×(Int×(Int×((List (List Int))×((List Y9)×((List Bool)×((List Int)×(Int×(Int×(Int×(Int×((List Int)×((List Int)×(List Int)))))))))))))))×((List Int)×(Unit×Unit))))))):=
 ((),(((),()),(rem,((),((w.1,((),(w.2.2,(st.1.1,(st.1.2.1,(st.1.2.2,(st.2.1.1,(st.2.1.2.1,(st.2.1.2.2,(st.2.2.1,(st.2.2.2.1,(st.2.2.2.2.1,(mapS st,(chkS st,st.2.2.2.2.2.2.2)))))))))))))),(w.2.1,((),())))))))
include hS in
theorem y1t:∀(todo:List Int) (k n:Nat) (g:Int) (b:List Int),todo.length<n->k<9000000000000000000->b.length+todo.length<100000000->
  ∃rem,K1 NN n todo g st.1.1 st.1.2.1 st.1.2.2 st.2.1.1 st.2.1.2.1 st.2.1.2.2 st.2.2.1 st.2.2.2.1 st.2.2.2.2.1 (mapS st) (chkS st) st.2.2.2.2.2.2.2 b (k:Int)=some (.inl (wkT st rem (zam st todo k g b)))\/
   K1 NN n todo g st.1.1 st.1.2.1 st.1.2.2 st.2.1.1 st.2.1.2.1 st.2.1.2.2 st.2.2.1 st.2.2.2.1 st.2.2.2.2.1 (mapS st) (chkS st) st.2.2.2.2.2.2.2 b (k:Int)=some (.inr (wkT st rem (zam st todo k g b)))
 | _,_,0,_,_,h,_,_=>absurd h (ag _)
 | [],k,n+1,g,b,_,_,_=>by
  refine⟨(k:Int), .inr ?_⟩
  rw[z4w]
  simp only[Q4]
  rw[Y3 (by rfl)]
  rw[zam]
 | id::t,k,n+1,g,b,hn,hk,hb=>by
  simp only[af]at hn hb
  obtain⟨c,h1,h2⟩:=ybf st id
  have h1':zcp NN ((st.1.1,(st.1.2.1,st.1.2.2)),((st.2.1.1,(st.2.1.2.1,st.2.1.2.2)),(st.2.2.1,(st.2.2.2.1,(st.2.2.2.2.1,(mapS st,(chkS st,st.2.2.2.2.2.2.2))))))) id=some (c,(z3q st id).isSome):=h1
  have hrd:rdL (id::t) (0:Int) (0:Int)=id:=rfl
  have hcut:cut2 (id::t) (1:Int) ((id::t).length:Int)=t:=by simp[cut2]
  have hpos:decide ((0:Int)<((id::t).length:Int))=true:=by simp<;>omega
  have hg1:∀{R:Type} (x:Option R),gd (decide (0<=(1:Int))&&(decide ((1:Int)<=((id::t).length:Int))&&decide (((id::t).length:Int)<=((id::t).length:Int)))) x=x:=fun x=>gd_t (by simp;omega) x
  rw[z4w]
  simp only[Q4,hrd,h1',ab,z7n]
  rw[X4 hpos,gd_t (V7 (by omega) (by simp<;>omega))]
  match k,hk with
  | 0,hk=>
   refine⟨((0:Nat):Int), .inl ?_⟩
   have hw:zam st (id::t) 0 g b=(id::t,(b,g)):=by rw[zam]
   rw[hw]
   cases (z3q st id).isSome
   ·rfl
   ·rfl
  | k+1,hk=>
   have hz:eqi ((k+1:Nat):Int) 0=false:=J3 (by omega)
   have hw1:aa .i64 (((k+1:Nat):Int)-1)=(k:Int):=by rw[w64 (by omega) (by omega)];omega
   simp only[hz,cond_false,hw1]
   cases hc:z3q st id with
   | none=>
    have hw:zam st (id::t) (k+1) g b=zam st t k g b:=by rw[zam,hc]
    rw[hw]
    simp only[Option.isSome_none,aO,cond_true]
    rw[X4 (by decide)]
    simp only[ab,hcut,hg1]
    exact y1t t k n g b (by omega) (by omega) (by omega)
   | some x=>
    have hx:=h2 x hc
    subst hx
    have hcs:0<=id/\id<((mapS st).length:Int)/\0<=rdL (mapS st) id 0:=by
     unfold z3q at hc
     split at hc
     ·assumption
     ·cases hc
    have hc0:c=rdL (mapS st) id 0:=by
     unfold z3q at hc
     rw[if_pos hcs]at hc
     exact(aR.inj hc).symm
    have hgd:=yod hS (id::t) b g st.2.1.1 st.2.1.2.1 st.2.1.2.2 st.2.2.1 st.2.2.2.1 st.2.2.2.2.1 st.2.2.2.2.2.2.2 hcs.1 c
    simp only[Option.isSome_some,aS,cond_false]
    rw[Y3 (decide_eq_false (by omega)),hgd]
    simp only[ab]
    cases hgo:zmi st id c
    ·have hw:zam st (id::t) (k+1) g b=zam st t k g (b++[id]):=by rw[zam,hc];simp only[hgo];rfl
     rw[hw,cond_false,gd_t (Y4 (by omega) (by omega))]
     simp only[ab,hcut,hg1]
     exact y1t t k n g (b++[id]) (by omega) (by omega) (by rw[ae,aL];omega)
    ·have hw:zam st (id::t) (k+1) g b=zam st t k (aa .i64 (g+1)) b:=by rw[zam,hc];simp only[hgo];rfl
     rw[hw,cond_true]
     simp only[ab,hcut,hg1]
     exact y1t t k n _ b (by omega) (by omega) (by omega)
include hS in
theorem ydd{s:z7}(hl:s.2.1.length+s.1.length<100000000){n:Nat}(hn:n<9000000000000000000):z42 NN s st (n:Int)=some (zam st s.1 n s.2.2 s.2.1,0):=by
 obtain⟨rem,h⟩:=y1t hS s.1 n NN s.2.2 s.2.1 (by have:=W9;omega) hn hl
 simp only[z42,zrm,zat,z64,zj5,z5e]
 rw[Y3 (decide_eq_false (by omega)),gd_t (Y4 (by omega) (by omega))]
 simp only[ab]
 rcases h with h | h
 ·rw[h];rfl
 ·rw[h];rfl
end
theorem y6g{st:Z6}{f:Z4}:∀(post pre:List W5) (n:Nat) (out:List Int),post.length<n->(pre++post).length<1000000->out.length+post.length<1000000->
  z7y NN n (pre++post) ((pre++post).length:Int) (pre.length:Int) st f out=some (((),((),((),()))),(st,(f,((),(out++post.map epR,())))))
 | _,_,0,_,h,_,_=>absurd h (ag _)
 | [],pre,n+1,out,_,_,_=>by
  rw[zeg]
  simp only[z1r,ai,aA,decide_false,cond_false,bO]
 | e::post,pre,n+1,out,hn,hl,ho=>by
  simp only[af]at hn ho
  have hb:pre.length<9223372036854775807:=by simp at hl;omega
  have ih:=y6g (st:=st) (f:=f) post (pre++[e]) n (out++[epR e]) (by omega) (by simpa using hl) (by rw[ae,aL];omega)
  rw[zeg]
  simp only[z1r,U3,cond_true,U0,W7 (q:=e) hb]
  rw[gd_t V4,gd_t (Y4 (by simp only[af,aq];omega) (by omega)),V9 (pre:=pre) (q:=e) (post:=post),ax]
  have e1:out++epR e::post.map epR=(out++[epR e])++post.map epR:=by simp
  rw[e1]
  exact ih
theorem zxh{st:Z6}(b3:Int)(b5:List Int):∀(post pre:List Int) (n:Nat) (out:List Int),post.length<n->(pre++post).length<1000000->out.length+post.length<1000000->
  z7x NN n ((pre++post).length:Int) (pre.length:Int) st b3 out b5 (pre++post)=some (((),()),((),(((),((),b3)),(out++post.filter fun id=>(z3q st id).isSome,(b5,())))))
 | _,_,0,_,h,_,_=>absurd h (ag _)
 | [],pre,n+1,out,_,_,_=>by
  rw[zef]
  simp only[z1q,ai,aA,decide_false,cond_false,fh]
 | e::post,pre,n+1,out,hn,hl,ho=>by
  simp only[af]at hn ho
  have hb:pre.length<9223372036854775807:=by simp at hl;omega
  obtain⟨c,c1,_⟩:=ybf st e
  rw[zef]
  simp only[z1q,U3,cond_true,U0,W7 (q:=e) hb,c1,ab]
  rw[gd_t V4,V9 (pre:=pre) (q:=e) (post:=post)]
  cases hc:(z3q st e).isSome
  ·rw[cond_false,zxh b3 b5 post (pre++[e]) n out (by omega) (by simpa using hl) (by omega),bn (by simp[hc])]
  ·rw[cond_true,gd_t (Y4 (by omega) (by omega)),zxh b3 b5 post (pre++[e]) n (out++[e]) (by omega) (by simpa using hl) (by rw[ae,aL];omega),bq (by simp[hc])]
   simp
def todoS(st:Z6)(R:List Int):List Int:=R.filter fun id=>(z3q st id).isSome
abbrev y5s(f:Z4):List Int:=f.2.2.2.2.1::f.2.2.1.map epR
theorem IsReach.short{p:List Sl}{R out:List Int}(h:IsReach p R out):out.length<=p.length:=by
 have:=zf4 (l:=out) (L:=(List.range p.length).map fun n:Nat=>(n:Int)) (h.1.imp fun hlt e=>by omega) (fun x hx=>by
  have hu:=((h.2 x).1 hx).used
  have h0:=y0 hu
  have h1:=z7q hu
  exact aH.2 ⟨x.toNat,List.mem_range.2 (by omega),by omega⟩)
 simpa using this
theorem yiw(st:Z6){f:Z4}(hl:f.1.length<=4096)(hk:∀s∈f.1,(G6 s).length<=40000)(he:f.2.2.1.length<=16):∃R,IsReach f.1 (y5s f) R/\zb4 NN st f=some (todoS st R,([],0)):=by
 obtain⟨R,r1,r2⟩:=y5t (N:=NN) (by have:=W9;omega) (p:=f.1) (R:=y5s f) (by omega) (fun s hs=>by have:=hk s hs;omega) (by simp;omega)
 have hs:=r2.short
 have h0:=y6g (st:=st) (f:=f) f.2.2.1 [] NN [f.2.2.2.2.1] (by have:=W9;omega) (by simp;omega) (by simp;omega)
 have h1:=zxh (st:=st) 0 [] R [] NN [] (by have:=W9;omega) (by simp;omega) (by simp;omega)
 have hz:(([]:List W5).length:Int)=0:=rfl
 have hz2:(([]:List Int).length:Int)=0:=rfl
 rw[hz,aj]at h0
 rw[hz2,aj]at h1
 refine⟨R,r2, ?_⟩
 have r1':zb1 NN f.1 ([f.2.2.2.2.1]++f.2.2.1.map epR)=some R:=r1
 simp only[zb4,h0,ab,r1',h1]
 rfl
theorem yjr(st:Z6)(k:Nat)(g:Int)(b:List Int):zam st [] k g b=([],(b,g)):=by rw[zam]
theorem ylv(N:Nat):∀(post pre:List Int) (m:Nat),post.length<m->(pre++post).length<1000000000->za9 N m (pre++post) (pre++post) (pre.length:Int)=some (.inr ((),()))
 | [],_,0,h,_=>absurd h (ag _)
 | _::_,_,0,h,_=>absurd h (ag _)
 | [],pre,m+1,_,_=>by
  rw[zgc]
  simp only[z3g,ai,aA,decide_false,cond_false]
 | b::post,pre,m+1,hm,hl=>by
  simp only[af]at hm
  have ih:=ylv N post (pre++[b]) m (by omega) (by simpa using hl)
  rw[zgc]
  simp only[z3g,U3,V4,U0,cond_true,K0,aS,cond_false]
  rw[gd_t rfl,gd_t rfl,W7 (q:=b) (by simp at hl;omega),V9]
  exact ih
theorem yj3{l:List Int}(hl:l.length<1000000000):z8w NN l l=some true:=by
 have h:=ylv NN l [] NN (by have:=W9;omega) (by simpa using hl)
 rw[show(([]:List Int).length:Int)=0 from rfl,aj]at h
 simp only[z8w,h,K0,aS,cond_false]
theorem StOk.stl{f:Z4}{st:Z6}(h:StOk f st)(hf:f.1.length<=4096):StL st:=
 ⟨h.qu,by have:=h.nc;show st.1.2.1.length<_;omega,fun c hc=>by have:=h.cl c hc;have:=h.sz.2;omega,by have:=h.ml;show st.2.2.2.2.2.1.length<_;omega,by have:=h.kl;show st.2.2.2.2.2.2.1.length<_;omega⟩
theorem y3t(st:Z6)(id:Int):z8u NN st id=some (match z3q st id with | some c=>c | none=> -1):=by
 simp only[z8u]
 by_cases h0:id<0
 ·rw[X4 (decide_eq_true h0)]
  have:z3q st id=none:=if_neg (by omega)
  rw[this]
 ·rw[Y3 (decide_eq_false h0)]
  by_cases h1:((mapS st).length:Int)<=id
  ·rw[X4 (decide_eq_true h1)]
   have:z3q st id=none:=if_neg (by omega)
   rw[this]
  ·have hin:inB id (mapS st).length=true:=V7 (by omega) (by omega)
   rw[Y3 (decide_eq_false h1),gd_t hin]
   by_cases h2:rdL (mapS st) id 0<0
   ·rw[X4 (decide_eq_true h2)]
    have:z3q st id=none:=if_neg (by omega)
    rw[this]
   ·rw[Y3 (decide_eq_false h2),gd_t hin]
    have:z3q st id=some (rdL (mapS st) id 0):=if_pos ⟨by omega,by omega,by omega⟩
    rw[this]
theorem y4j{st:Z6}{id c:Int}(h:z3q st id=some c):0<=c/\0<=id/\id<((mapS st).length:Int)/\c=rdL (mapS st) id 0:=by
 unfold z3q at h
 split at h
 ·rename_i hc
  cases h
  exact⟨hc.2.2,hc.1,hc.2.1,rfl⟩
 ·cases h
theorem yfv{d:W8}(hq:d.2.2=[])(c:Int):zgw NN d c=some (if 0<=c/\c<(d.2.1.length:Int)then(rdL d.2.1 c [],0)else([],230)):=by
 obtain⟨n,hn⟩:∃n,NN=n+1:=⟨NN-1,by have:=W9;omega⟩
 have hl:∀b:List Int,z6n NN NN c b 0 d=some (b,()):=fun b=>by
  rw[show z6n NN NN=z6n NN (n+1)from congrArg _ hn,ztu]
  simp only[z7p,hq]
  rw[Y3 (by rfl)]
 simp only[zgw,y95,hl,ab]
 by_cases h:0<=c/\c<(d.2.1.length:Int)
 ·rw[decide_eq_true h.1,decide_eq_true h.2,Y3 (by rfl),gd_t (V7 h.1 h.2),if_pos h]
 ·have:(decide (0<=c)&&decide (c<(d.2.1.length:Int)))=false:=by
   by_cases h0:0<=c
   ·rw[decide_eq_true h0,decide_eq_false (fun h1=>h ⟨h0,h1⟩)];rfl
   ·rw[decide_eq_false h0];rfl
  rw[this,X4 (by rfl),if_neg h]
def xorB(a b:Int):Int:=aa .u8 (((BitVec.ofInt (be .u8) a^^^BitVec.ofInt (be .u8) b).toNat:Int))
def rotS(st:Z6)(c i by':Int):Z6:=((st.1.1,(setL (celS st) c (setL (rdL (celS st) c []) i (xorB (rdL (rdL (celS st) c []) i 0) by')),st.1.2.2)),st.2)
theorem ynt{st:Z6}(hS:StL st){c i by':Int}(hc:0<=c/\c<((celS st).length:Int))(hi:0<=i/\i<((rdL (celS st) c []).length:Int)):zox NN st.1 (c,(i,by'))=some ((rotS st c i by').1,0):=by
 have hin:inB c (celS st).length=true:=V7 hc.1 hc.2
 have hii:inB i (rdL (celS st) c []).length=true:=V7 hi.1 hi.2
 have hcl:(rdL (celS st) c []).length<1000000000:=zx5 (P:=fun l=>l.length<1000000000) hS.cl (by decide)
 have hcp:z1c NN st.1=some st.1:=zya hS.nc (by rw[hS.qu];decide)
 simp only[zox,y95,hcp,ab,aj]
 rw[decide_eq_true hc.1,decide_eq_true hc.2,Y3 (by rfl),Y3 (decide_eq_false (by omega)),gd_t hin,Y3 (decide_eq_false (show ¬(((rdL (celS st) c []).length:Int)<=i) by omega)),gd_t hin,gd_t (zmk (n:=0+(rdL (celS st) c []).length) (by omega)),gd_t hin,gd_t hin,gd_t (cM _),gd_t hii,gd_t hii]
 rfl
theorem yk4{st:Z6}(hS:StL st)(c i by':Int):StL (rotS st c i by'):=by
 refine⟨hS.qu,by show(setL _ _ _).length<_;rw[G0];exact hS.nc,fun x hx=> ?_,hS.ml,hS.kl⟩
 rcases mem_setL2 (show x∈setL _ _ _ from hx)with h | rfl
 ·exact hS.cl x h
 ·rw[G0]
  exact zx5 (P:=fun l=>l.length<1000000000) hS.cl (by decide)
theorem Rotten_ok{st:Z6}(hS:StL st){T:List Int}(hT:T.length<100000){x:zbc}(h1:0<=x.1/\x.1<256)(h2:0<=x.2.1/\x.2.1<65536):z6m NN st T x=some (st,-1)\/
  ∃id c i:Int,id∈T/\z3q st id=some c/\c<((celS st).length:Int)/\i=aJ x.2.1 ((rdL (celS st) c []).length:Int)/\0<=i/\i<((rdL (celS st) c []).length:Int)/\
   z6m NN st T x=some (rotS st c i (bif decide (x.2.2<1)then 1 else x.2.2),id):=by
 have w1:aa .i64 x.1=x.1:=w64 (by omega) (by omega)
 have w2:aa .i64 x.2.1=x.2.1:=w64 (by omega) (by omega)
 by_cases h0:T.length=0
 ·left
  simp only[z6m]
  rw[X4 (by rw[h0];rfl)]
 have hz:eqi (T.length:Int) 0=false:=J3 (by omega)
 have hk:0<=aJ x.1 (T.length:Int)/\aJ x.1 (T.length:Int)<(T.length:Int):=by
  rw[bg h1.1]
  exact⟨dI _ (by omega),dg _ (by omega)⟩
 have hmem:rdL T (aJ x.1 (T.length:Int)) 0∈T:=z62 hk.1 hk.2
 simp only[z6m,w1,w2,y3t,yfv hS.qu,ab]
 rw[Y3 hz,gd_t (by rw[hz];rfl),gd_t (V7 hk.1 hk.2)]
 generalize rdL T (aJ x.1 (T.length:Int)) 0=id at hmem
 cases hc:z3q st id with
 | none=>
  simp only[]
  rw[if_neg (by omega),X4 (by rfl)]
  exact .inl rfl
 | some c=>
  simp only[]
  by_cases hcn:0<=c/\c<(st.1.2.1.length:Int)
  ·rw[if_pos hcn]
   simp only[]
   by_cases hb:(rdL (celS st) c []).length=0
   ·rw[X4 (by rw[hb];rfl)]
    exact .inl rfl
   ·have hbz:eqi ((rdL (celS st) c []).length:Int) 0=false:=J3 (by omega)
    have hi:0<=aJ x.2.1 ((rdL (celS st) c []).length:Int)/\aJ x.2.1 ((rdL (celS st) c []).length:Int)<((rdL (celS st) c []).length:Int):=by
     rw[bg h2.1]
     exact⟨dI _ (by omega),dg _ (by omega)⟩
    rw[Y3 hbz,gd_t (by rw[hbz];rfl),ynt hS hcn hi]
    simp only[ab]
    rw[Y3 (by rfl)]
    exact .inr ⟨id,c,_,hmem,hc,hcn.2,rfl,hi.1,hi.2,rfl⟩
  ·rw[if_neg hcn]
   simp only[]
   rw[X4 (by rfl)]
   exact .inl rfl
theorem y6j{f:Z4}:∀(post pre:List W5) (n:Nat) (out:List Int),f.2.2.1=pre++post->post.length<n->(pre++post).length<1000000->out.length+post.length<1000000->
  z82 NN n (pre.length:Int) f out=some ((),(out++post.map epR,()))
 | _,_,0,_,_,h,_,_=>absurd h (ag _)
 | [],pre,n+1,out,hk,_,_,_=>by
  rw[zel]
  simp only[z1w,hk,ai,aA,decide_false,cond_false,bO]
 | e::post,pre,n+1,out,hk,hn,hl,ho=>by
  simp only[af]at hn ho
  have hb:pre.length<9223372036854775807:=by simp at hl;omega
  have ih:=y6j (f:=f) post (pre++[e]) n (out++[epR e]) (by rw[hk];simp) (by omega) (by simpa using hl) (by rw[ae,aL];omega)
  rw[zel]
  simp only[z1w,hk,U3,cond_true,U0,W7 (q:=e) hb]
  rw[gd_t V4,gd_t (Y4 (by simp only[af,aq];omega) (by omega)),ax]
  have e1:out++epR e::post.map epR=(out++[epR e])++post.map epR:=by simp
  rw[e1]
  exact ih
theorem zxm{st:Z6}(b3:Int)(b5:List Int):∀(post pre:List Int) (n:Nat) (out:List Int),post.length<n->(pre++post).length<1000000->out.length+post.length<1000000->
  z80 NN n (pre.length:Int) st b3 out b5 (pre++post)=some (((),()),((),(((),((),b3)),(out++post.filter fun id=>(z3q st id).isSome,(b5,())))))
 | _,_,0,_,h,_,_=>absurd h (ag _)
 | [],pre,n+1,out,_,_,_=>by
  rw[zeh]
  simp only[z1s,ai,aA,decide_false,cond_false,fh]
 | e::post,pre,n+1,out,hn,hl,ho=>by
  simp only[af]at hn ho
  have hb:pre.length<9223372036854775807:=by simp at hl;omega
  rw[zeh]
  simp only[z1s,U3,cond_true,U0,W7 (q:=e) hb,y3t,ab]
  rw[gd_t V4,V9 (pre:=pre) (q:=e) (post:=post)]
  cases hc:z3q st e with
  | none=>
   simp only[]
   rw[Y3 (by rfl),zxm b3 b5 post (pre++[e]) n out (by omega) (by simpa using hl) (by omega),bn (by simp[hc])]
  | some c=>
   simp only[]
   rw[X4 (decide_eq_true (y4j hc).1),gd_t (by rw[<-V9 (pre:=pre) (q:=e) (post:=post)];exact V4),gd_t (Y4 (by omega) (by omega)),zxm b3 b5 post (pre++[e]) n (out++[e]) (by omega) (by simpa using hl) (by rw[ae,aL];omega),bq (by simp[hc])]
   simp
theorem yix(st:Z6){f:Z4}(hl:f.1.length<=4096)(hk:∀s∈f.1,(G6 s).length<=40000)(he:f.2.2.1.length<=16){R:List Int}(hR:IsReach f.1 (y5s f) R):zie NN st f=some (todoS st R,([],0)):=by
 have hak:(X8 f.1).length<=f.1.length*40000:=y91 kidsU 40000 f.1 fun s hs=>by
  unfold kidsU
  split
  ·exact hk s hs
  ·simp
 obtain⟨R',r1,r2⟩:=y85 (N:=NN) (by have:=W9;omega) (p:=f.1) (R:=y5s f) (by omega) (by omega) (by simp;omega)
 have hs:=hR.short
 have hRR:R'=R:=r2.unique hR
 subst hRR
 have h0:=y6j (f:=f) f.2.2.1 [] NN [f.2.2.2.2.1] rfl (by have:=W9;omega) (by simp;omega) (by simp;omega)
 have h1:=zxm (st:=st) 0 [] R' [] NN [] (by have:=W9;omega) (by simp;omega) (by simp;omega)
 have hz:(([]:List W5).length:Int)=0:=rfl
 have hz2:(([]:List Int).length:Int)=0:=rfl
 rw[hz]at h0
 rw[hz2,aj]at h1
 have r1':zdx NN f.1 ([f.2.2.2.2.1]++f.2.2.1.map epR)=some R':=r1
 simp only[zie,znp,h0,ab,r1',h1]
 rfl
theorem FS.kids{k leaf fan bl:Nat}{f:Z4}(h:FS k leaf fan bl f):f.1.length<=4096/\(∀s∈f.1,(G6 s).length<=40000)/\f.2.2.1.length<=16:=⟨h.pi.len,h.pi.kb,h.ne⟩
theorem yel{st st':Z6}(h:st'.2=st.2)(id:Int):z3q st' id=z3q st id:=by
 unfold z3q mapS
 rw[h]
theorem yh9{n:Int}(h:(Lit.int .u16 n).wf=true):0<=n/\n<65536:=by
 simp[Lit.wf,IntKind.min,IntKind.max,IntKind.signed,be]at h
 omega
end Ds
namespace Ds
open Go Go.Dv
set_option maxRecDepth 100000
abbrev isB(b:Int):Prop:=0<=b/\b<256
abbrev isBs(l:List Int):Prop:=∀b∈l,isB b
def Yl{A:Type}(o:Option A)(P:A->Prop):Prop:=∀r,o=some r->P r
theorem Yl.gd{A:Type}{P:A->Prop}{c:Bool}{x:Option A}(h:Yl x P):Yl (Go.Dv.gd c x) P:=by
 cases c
 ·exact fun _ e=>by cases e
 ·exact h
theorem Yl.si{A:Type}{P:A->Prop}{a:A}(h:P a):Yl (some a) P:=fun _ e=>by cases e;exact h
theorem Yl.no{A:Type}{P:A->Prop}:Yl (none:Option A) P:=fun _ e=>by cases e
theorem Yl.bf{A:Type}{P:A->Prop}{c:Bool}{x y:Option A}(h:Yl x P)(k:Yl y P):Yl (bif c then x else y) P:=by
 cases c
 ·exact k
 ·exact h
theorem z2j{a b:List Int}(h:isBs a)(k:isBs b):isBs (a++b):=fun x hx=>(ak.1 hx).elim (h x) (k x)
theorem ygv(x:Int):isBs [aa .u8 x]:=fun b hb=>by
 rw[aE.1 hb,eH]
 constructor<;>omega
theorem ymo(k:B):isBs (w5 k):=fun b hb=>by
 unfold w5 at hb
 obtain⟨x,_,rfl⟩:=aH.1 hb
 have:=x.toNat_lt
 constructor<;>omega
section
variable {N:Nat}
theorem yg6:∀(n:Nat) (b0 b1:Int) (out:List Int),isBs out->Yl (z4c N n b0 b1 out) fun r=>isBs r.2.1
 | 0,_,_,_,_=>Yl.no
 | n+1,b0,b1,out,h=>by
  rw[z7u]
  simp only[y8]
  exact Yl.bf (Yl.gd (Yl.gd (yg6 n _ _ _ (z2j h (ygv _))))) (Yl.si h)
theorem zvf:isBs []:=fun b hb=>absurd hb (by simp)
theorem zpq(x d:Int):Yl (V5 N x d) isBs:=by
 simp only[V5]
 split
 ·next r h=>exact Yl.si (yg6 N x _ [] zvf _ h)
 ·exact Yl.no
theorem y8r(x d:Int):Yl (z52 N x d) isBs:=zpq x d
theorem y8g(k:B):Yl (z8y N k) isBs:=by
 simp only[z8y]
 split
 ·next r h=>exact Yl.gd (Yl.si (z2j (zpq _ _ _ h) (ymo k)))
 ·exact Yl.no
theorem y6d:∀(n:Nat) (b0:List B) (b1:Int) (out:List Int),isBs out->Yl (z5z N n b0 b1 out) fun r=>isBs r.2.1
 | 0,_,_,_,_=>Yl.no
 | n+1,b0,b1,out,h=>by
  rw[z9n]
  simp only[g8]
  refine Yl.bf (Yl.gd ?_) (Yl.si h)
  split
  ·next r k=>exact Yl.gd (Yl.gd (Yl.gd (y6d n _ _ _ (z2j (z2j h (y8r _ _ _ k)) (ymo _)))))
  ·exact Yl.no
theorem yjt(l:List B):Yl (Q6 N l) isBs:=by
 simp only[Q6]
 split
 ·next r h=>exact Yl.si (y6d N l 0 [] zvf _ h)
 ·exact Yl.no
theorem yqs(m:Mg)(out:List Int)(h:isBs out):Yl (J8 N m out) fun r=>isBs r.2.1:=by
 simp only[J8]
 refine Yl.bf ?_ (Yl.bf ?_ (Yl.si h))
 ·split
  ·next r k=>exact Yl.gd (Yl.si (z2j h (y8r _ _ _ k)))
  ·exact Yl.no
 ·split
  ·next r k=>exact Yl.gd (Yl.si (z2j h (y8r _ _ _ k)))
  ·exact Yl.no
theorem mby(m:Mg):Yl (z8q N m) isBs:=by
 have g:=fun(l:List B) (r:List Int) (h:Q6 N l=some r)=>yqs (N:=N) m ([aa .u8 m.1]++r) (z2j (ygv _) (yjt l _ h))
 simp only[z8q]
 split
 ·refine Yl.bf (Yl.si zvf) (Yl.bf ?_ (Yl.bf ?_ (Yl.bf ?_ (Yl.bf ?_ ?_))))
  all_goals
   split
   ·next r h=>
    refine Yl.gd ?_
    split
    ·next r2 h2=>exact Yl.si (g _ r h r2 h2)
    ·exact Yl.no
   ·exact Yl.no
 ·exact Yl.no
theorem yma:∀(n:Nat) (j:Int) (nd:Nd) (out:List Int),isBs out->Yl (z5y N n j nd out) fun r=>isBs r.2.2.1
 | 0,_,_,_,_=>Yl.no
 | n+1,j,nd,out,h=>by
  rw[z9m]
  simp only[j9]
  refine Yl.bf (Yl.gd ?_) (Yl.si h)
  split
  ·next r k=>exact Yl.gd (yma n _ _ _ (z2j h (zpq _ _ _ k)))
  ·exact Yl.no
theorem ym9:∀(n:Nat) (j:Int) (nd:Nd) (out:List Int),isBs out->Yl (z5x N n j nd out) fun r=>isBs r.2.2.1
 | 0,_,_,_,_=>Yl.no
 | n+1,j,nd,out,h=>by
  rw[z9l]
  simp only[j8]
  refine Yl.bf (Yl.gd ?_) (Yl.si h)
  split
  ·next r k=>exact Yl.gd (ym9 n _ _ _ (z2j h (y8g _ _ k)))
  ·exact Yl.no
theorem ym8:∀(n:Nat) (j:Int) (nd:Nd) (out:List Int),isBs out->Yl (z5w N n j nd out) fun r=>isBs r.2.1
 | 0,_,_,_,_=>Yl.no
 | n+1,j,nd,out,h=>by
  rw[z9k]
  simp only[j7]
  refine Yl.bf (Yl.gd ?_) (Yl.si h)
  split
  ·next r k=>
   refine Yl.gd (Yl.gd ?_)
   split
   ·next r k2=>
    refine Yl.gd (Yl.gd ?_)
    split
    ·next r k3=>exact Yl.gd (ym8 n _ _ _ (z2j (z2j (z2j h (y8g _ _ k)) (y8g _ _ k2)) (zpq _ _ _ k3)))
    ·exact Yl.no
   ·exact Yl.no
  ·exact Yl.no
theorem ym6:∀(n:Nat) (j:Int) (nd:Nd) (out:List Int),isBs out->Yl (z5u N n j nd out) fun r=>isBs r.2.1
 | 0,_,_,_,_=>Yl.no
 | n+1,j,nd,out,h=>by
  rw[z9i]
  simp only[k9]
  refine Yl.bf (Yl.gd ?_) (Yl.si h)
  split
  ·next r k=>exact Yl.gd (ym6 n _ _ _ (z2j h (mby _ _ k)))
  ·exact Yl.no
theorem ym5:∀(n:Nat) (i j:Int) (nd:Nd) (out:List Int) (a:zom),isBs out->Yl (z01 N n i j nd out a) fun r=>isBs r.2.2.1
 | 0,_,_,_,_,_,_=>Yl.no
 | n+1,i,j,nd,out,a,h=>by
  rw[k8]
  simp only[Q8]
  refine Yl.bf (Yl.bf ?_ (Yl.bf ?_ (Yl.bf ?_ (Yl.bf ?_ Yl.no)))) (Yl.si h)
  all_goals
   split
   ·next r k=>exact Yl.gd (ym5 n _ _ _ _ _ (z2j h (zpq _ _ _ k)))
   ·exact Yl.no
theorem ym7:∀(n:Nat) (j:Int) (nd:Nd) (out:List Int),isBs out->Yl (z5v N n j nd out) fun r=>isBs r.2.2.1
 | 0,_,_,_,_=>Yl.no
 | n+1,j,nd,out,h=>by
  rw[z9j]
  simp only[j0]
  refine Yl.bf (Yl.gd (Yl.gd (Yl.gd (Yl.gd ?_)))) (Yl.si h)
  split
  ·next r k=>exact ym7 n _ _ _ (ym5 N _ _ _ _ _ h _ k)
  ·exact Yl.no
theorem nby(nd:Nd):Yl (z1i N nd) isBs:=by
 have c1:isBs [(76:Int)]:=by decide
 have c2:isBs [(78:Int)]:=by decide
 simp only[z1i]
 split
 ·refine Yl.bf (Yl.si zvf) (Yl.bf ?_ ?_)
  ·split
   ·next r k=>
    refine Yl.gd ?_
    split
    ·next r k2=>exact Yl.si (ym8 N _ _ _ (z2j c1 (zpq _ _ _ k)) _ k2)
    ·exact Yl.no
   ·exact Yl.no
  ·split
   ·next r k=>
    refine Yl.gd ?_
    split
    ·next r k2=>
     split
     ·next r k3=>
      split
      ·next r k4=>
       split
       ·next r k5=>
        refine Yl.gd ?_
        split
        ·next r k6=>exact Yl.si (ym6 N _ _ _ (z2j (ym7 N _ _ _ (ym9 N _ _ _ (yma N _ _ _ (z2j c2 (zpq _ _ _ k)) _ k2) _ k3) _ k4) (zpq _ _ _ k5)) _ k6)
        ·exact Yl.no
       ·exact Yl.no
      ·exact Yl.no
     ·exact Yl.no
    ·exact Yl.no
   ·exact Yl.no
 ·exact Yl.no
end
theorem zx7(h b:Int):kstp h b=(((BitVec.ofInt 64 h^^^BitVec.ofInt 64 (aa .u64 b))*1099511628211#64).toNat:Int):=by
 unfold kstp
 have e2:be .u64=64:=rfl
 rw[e2]
 generalize BitVec.ofInt 64 h^^^BitVec.ofInt 64 (aa .u64 b)=v
 have hv:=v.isLt
 rw[d8,d8,BitVec.toNat_mul]
 have:(1099511628211#64).toNat=1099511628211:=rfl
 rw[this]
 omega
theorem zlv(h b:Int):0<=kstp h b/\kstp h b<18446744073709551616:=by
 rw[zx7]
 have:=((BitVec.ofInt 64 h^^^BitVec.ofInt 64 (aa .u64 b))*1099511628211#64).isLt
 omega
theorem ygd{x y:BitVec 64}(h:x*1099511628211#64=y*1099511628211#64):x=y:=by
 have hp:1099511628211#64*14886173955864302971#64=1#64:=by decide
 have:=congrArg (·*14886173955864302971#64) h
 simp only[BitVec.mul_assoc,hp,BitVec.mul_one]at this
 exact this
theorem y6t{a b:Int}(ha:0<=a/\a<18446744073709551616)(hb:0<=b/\b<18446744073709551616)(h:BitVec.ofInt 64 a=BitVec.ofInt 64 b):a=b:=by
 have:=congrArg BitVec.toNat h
 simp only[BitVec.toNat_ofInt]at this
 omega
theorem ymx{n:Nat}{x y z:BitVec n}(h:x^^^z=y^^^z):x=y:=by
 have:=congrArg (·^^^z) h
 simpa[BitVec.xor_assoc] using this
theorem yi7{h h' b:Int}(r:0<=h/\h<18446744073709551616)(r':0<=h'/\h'<18446744073709551616)(e:kstp h b=kstp h' b):h=h':=by
 rw[zx7,zx7]at e
 exact y6t r r' (ymx (ygd (BitVec.eq_of_toNat_eq (Int.ofNat.inj e))))
theorem ye6{h b b':Int}(hb:isB b)(hb':isB b')(e:kstp h b=kstp h b'):b=b':=by
 have w:∀x:Int,isB x->aa .u64 x=x:=fun x hx=>by rw[d8];omega
 rw[zx7,zx7,w b hb,w b' hb']at e
 have:=ygd (BitVec.eq_of_toNat_eq (Int.ofNat.inj e))
 rw[BitVec.xor_comm,BitVec.xor_comm (BitVec.ofInt 64 h)]at this
 exact y6t (by omega) (by omega) (ymx this)
theorem y74:∀{xs:List Int} {h h':Int},(0<=h/\h<18446744073709551616)->(0<=h'/\h'<18446744073709551616)->xs.foldl kstp h=xs.foldl kstp h'->h=h'
 | [],_,_,_,_,e=>e
 | b::xs,h,h',r,r',e=>yi7 r r' (y74 (xs:=xs) (zlv h b) (zlv h' b) e)
theorem yon{l:List Int}{i x:Int}(h0:0<=i)(h1:i<(l.length:Int))(hx:isB x)(hb:isB (rdL l i 0))(e:chk (setL l i x)=chk l):x=rdL l i 0:=by
 obtain⟨n,rfl⟩:∃n:Nat,i=(n:Int):=⟨i.toNat,by omega⟩
 have hn:n<l.length:=by omega
 obtain⟨p,b,q,e1,e2⟩:∃p b q,l=p++b::q/\p.length=n:=⟨l.take n,l[n],l.drop (n+1),(by rw[<-List.drop_eq_getElem_cons hn,List.take_append_drop]),(by rw[List.length_take];omega)⟩
 subst e1;subst e2
 rw[U0]at hb|-
 rw[y8j]at e
 unfold chk at e
 rw[dZ,dZ,aU,aU]at e
 exact ye6 hx hb (y74 (zlv _ _) (zlv _ _) e)
theorem yq8(a b:Int):isB (xorB a b):=by
 unfold xorB
 rw[eH]
 constructor<;>omega
theorem y8d(a b:Int):xorB a b=((BitVec.ofInt 8 a^^^BitVec.ofInt 8 b).toNat:Int):=by
 unfold xorB
 have e2:be .u8=8:=rfl
 rw[e2]
 generalize BitVec.ofInt 8 a^^^BitVec.ofInt 8 b=v
 have hv:=v.isLt
 rw[eH]
 omega
theorem ye1{a b:Int}(ha:isB a)(hb:isB b)(h:BitVec.ofInt 8 a=BitVec.ofInt 8 b):a=b:=by
 have:=congrArg BitVec.toNat h
 simp only[BitVec.toNat_ofInt]at this
 omega
theorem y2g(v:BitVec 8):BitVec.ofInt 8 (v.toNat:Int)=v:=by
 apply BitVec.eq_of_toNat_eq
 have:=v.isLt
 simp only[BitVec.toNat_ofInt]
 omega
theorem ydh{a:Int}(ha:isB a)(b:Int):xorB (xorB a b) b=a:=by
 rw[y8d a b,y8d,y2g,BitVec.xor_assoc,BitVec.xor_self,BitVec.xor_zero,BitVec.toNat_ofInt]
 omega
theorem ynm{a b:Int}(ha:isB a)(hb:1<=b/\b<256):xorB a b≠a:=fun e=>by
 have h2:isB b:=⟨by omega,hb.2⟩
 have e1:BitVec.ofInt 8 a^^^BitVec.ofInt 8 b=BitVec.ofInt 8 a:=by
  rw[<-y2g (BitVec.ofInt 8 a^^^BitVec.ofInt 8 b),<-y8d,e]
 have e2:BitVec.ofInt 8 b=BitVec.ofInt 8 0:=by
  have h3:BitVec.ofInt 8 b^^^BitVec.ofInt 8 a=BitVec.ofInt 8 0^^^BitVec.ofInt 8 a:=by
   rw[BitVec.xor_comm,e1]
   simp
  exact ymx h3
 have:=ye1 h2 (by decide) e2
 omega
section
variable [Fuel]
def gdS(st:Z6)(id:Int):Bool:=match z3q st id with | some c=>zmi st id c | none=>true
theorem zv5(st:Z6):∀(t:List Int) (k:Nat) (g:Nat) (b:List Int),t.length<=k->g+t.length<1000000000->(∀id∈t,(z3q st id).isSome=true)->
  zam st t k (g:Int) b=([],(b++t.filter (fun id=> !gdS st id),((g+(t.filter (gdS st)).length:Nat):Int)))
 | [],k,g,b,_,_,_=>by rw[yjr];simp
 | id::t,0,g,b,h,_,_=>absurd h (by simp)
 | id::t,k+1,g,b,h,hg,hs=>by
  simp only[af]at h hg
  have h1:=hs id (by simp)
  have h2:∀x∈t,(z3q st x).isSome=true:=fun x hx=>hs x (by simp[hx])
  obtain⟨c,hc⟩:=Option.isSome_iff_exists.1 h1
  have hgd:gdS st id=zmi st id c:=by unfold gdS;rw[hc]
  rw[zam,hc]
  simp only[]
  cases hgo:zmi st id c
  ·rw[if_neg (by decide),zv5 st t k g _ (by omega) (by omega) h2,bq (by rw[hgd,hgo];rfl),bn (by rw[hgd,hgo];decide)]
   simp
  ·have hw:aa .i64 ((g:Int)+1)=((g+1:Nat):Int):=by rw[w64 (by omega) (by omega)];rfl
   rw[if_pos rfl,hw,zv5 st t k (g+1) _ (by omega) (by omega) h2,bn (by rw[hgd,hgo];decide),bq (by rw[hgd,hgo]),af]
   rw[show g+1+(t.filter (gdS st)).length=g+((t.filter (gdS st)).length+1) by omega]
theorem y2v{P:Int->Bool}{id:Int}:∀{t:List Int},t.Pairwise (·<·)->id∈t->(∀x∈t,P x=false↔x=id)->t.filter (fun x=> !P x)=[id]/\(t.filter P).length+1=t.length
 | [],_,h,_=>absurd h (by simp)
 | x::t,hp,h,hP=>by
  obtain⟨p1,p2⟩:=aI.1 hp
  by_cases hx:x=id
  ·have hf:P x=false:=(hP x (by simp)).2 hx
   have ht:∀y∈t,P y=true:=fun y hy=>by
    cases e:P y
    ·have:=(hP y (by simp[hy])).1 e
     have:=p1 y hy
     omega
    ·rfl
   rw[bq (by simp[hf]),bn (by simp[hf]),cn.2 ht,dj.2 (fun y hy=>by simp[ht y hy]),hx]
   exact⟨rfl,rfl⟩
  ·have hf:P x=true:=by
    cases e:P x
    ·exact absurd ((hP x (by simp)).1 e) hx
    ·rfl
   obtain⟨h1,h2⟩:=y2v (P:=P) p2 ((am.1 h).resolve_left (fun e=>hx e.symm)) fun y hy=>hP y (by simp[hy])
   rw[bn (by simp[hf]),bq hf,af,af]
   exact⟨h1,by omega⟩
theorem yof{st:Z6}(hS:StL st){c i by':Int}(hc:0<=c/\c<((celS st).length:Int))(hi:0<=i/\i<((rdL (celS st) c []).length:Int)):zvi NN st.1 c i by'=some ((rotS st c i by').1,0):=by
 have hin:inB c (celS st).length=true:=V7 hc.1 hc.2
 have hii:inB i (rdL (celS st) c []).length=true:=V7 hi.1 hi.2
 have hcl:(rdL (celS st) c []).length<1000000000:=zx5 (P:=fun l=>l.length<1000000000) hS.cl (by decide)
 have hnc:=hS.nc
 have f1:fits (celS st).length 24=true:=y9q (by simp only[maxB];omega) (by simp only[maxB];omega)
 simp only[zvi,zoj,z0l,zny]
 rw[decide_eq_true hc.1,cond_true,decide_eq_true hc.2]
 simp only[ab]
 rw[Y3 (by rfl),Y3 (decide_eq_false (by omega)),gd_t hin,Y3 (decide_eq_false (show ¬(((rdL (celS st) c []).length:Int)<=i) by omega)),gd_t f1]
 simp only[ab]
 rw[gd_t hin,gd_t (zmk (n:=(rdL (celS st) c []).length) (by omega))]
 simp only[ab]
 rw[gd_t hin,gd_t hin,gd_t (cM _),gd_t hii,gd_t hii]
 rfl
theorem yk3{st:Z6}{c i by':Int}(hc:0<=c/\c<((celS st).length:Int))(hi:0<=i/\i<((rdL (celS st) c []).length:Int))(hb:isB (rdL (rdL (celS st) c []) i 0)):rotS (rotS st c i by') c i by'=st:=by
 have self:∀{α:Type} (l:List α) (j:Int) (d:α),0<=j->j<(l.length:Int)->setL l j (rdL l j d)=l:=fun l j d h0 h1=>by
  refine yqk d (G0 _ _ _) fun k k0 k1=> ?_
  rw[G0]at k1
  by_cases e:k=j
  ·subst e;rw[z32 h0 h1]
  ·rw[z1d h0 k0 e]
 have twice:∀{α:Type} (l:List α) (j:Int) (x y:α),setL (setL l j x) j y=setL l j y:=fun l j x y=>by simp[setL]
 obtain⟨⟨s1,s2,s3⟩,s4⟩:=st
 have hc:0<=c/\c<(s2.length:Int):=hc
 have hi:0<=i/\i<((rdL s2 c []).length:Int):=hi
 have hb:isB (rdL (rdL s2 c []) i 0):=hb
 have e1:rdL (setL s2 c (setL (rdL s2 c []) i (xorB (rdL (rdL s2 c []) i 0) by'))) c []=setL (rdL s2 c []) i (xorB (rdL (rdL s2 c []) i 0) by'):=z32 hc.1 hc.2
 have e2:rdL (setL (rdL s2 c []) i (xorB (rdL (rdL s2 c []) i 0) by')) i 0=xorB (rdL (rdL s2 c []) i 0) by':=z32 hi.1 hi.2
 show((s1,(setL (setL s2 c _) c (setL (rdL (setL s2 c _) c []) i (xorB (rdL (rdL (setL s2 c _) c []) i 0) by')),s3)),s4)=_
 rw[e1,e2,ydh hb,twice,twice,self _ _ _ hi.1 hi.2,self _ _ _ hc.1 hc.2]
theorem yhc{f:Z4}{st:Z6}(h:StOk f st)(hf:f.1.length<=4096){R:List Int}(hR:IsReach f.1 (y5s f) R){id:Int}(hid:id∈todoS st R):
  ∃j:Nat,id=(j:Int)/\j<f.1.length/\W2 f.1 (j:Int)=true/\z3q st id=some (rdL (mapS st) (j:Int) 0)/\zmi st id (rdL (mapS st) (j:Int) 0)=true/\isBs (rdL (celS st) (rdL (mapS st) (j:Int) 0) []):=by
 obtain⟨h1,h2⟩:=List.mem_filter.1 hid
 have hu:=((hR.2 id).1 h1).used
 have h0:=y0 hu
 have hl:=z7q hu
 obtain⟨j,rfl⟩:∃j:Nat,id=(j:Int):=⟨id.toNat,by omega⟩
 have hj:j<f.1.length:=by omega
 obtain⟨b,b1,b2,b3,b4,b5⟩:=h.us j hj hu
 have hml:=h.ml
 have hkl:=h.kl
 have hS:=h.stl hf
 have hcl:(rdL (celS st) (rdL (mapS st) (j:Int) 0) []).length<1000000000:=zx5 (P:=fun l=>l.length<1000000000) hS.cl (by decide)
 have hck:=ynv (l:=rdL (celS st) (rdL (mapS st) (j:Int) 0) []) (by omega)
 rw[show rdL (celS st) (rdL (mapS st) (j:Int) 0) []=b from b4]at hck
 rw[b5]at hck
 have hck:rdL (chkS st) (j:Int) 0=chk b:=aR.inj hck
 have c1:(j:Int)<((mapS st).length:Int):=by
  show(j:Int)<(st.2.2.2.2.2.1.length:Int)
  omega
 have c2:0<=rdL (mapS st) (j:Int) 0:=by
  show 0<=rdL st.2.2.2.2.2.1 (j:Int) 0
  omega
 refine⟨j,rfl,hj,hu,if_pos ⟨h0,c1,c2⟩, ?_, ?_⟩
 ·unfold zmi
  rw[decide_eq_true (show 0<=rdL (mapS st) (j:Int) 0 from by show 0<=rdL st.2.2.2.2.2.1 (j:Int) 0;omega),decide_eq_true (show rdL (mapS st) (j:Int) 0<((celS st).length:Int)from b3),decide_eq_true (show(j:Int)<((chkS st).length:Int) by show(j:Int)<(st.2.2.2.2.2.2.1.length:Int);omega),hck,show rdL (celS st) (rdL (mapS st) (j:Int) 0) []=b from b4]
  simp[K0]
 ·rw[show rdL (celS st) (rdL (mapS st) (j:Int) 0) []=b from b4]
  exact nby _ _ b1
theorem ylk(l:List Int)(id:Int)(h:l=[id]):z8w NN l [id]=some true:=by
 subst h
 exact yj3 (by simp)
theorem yk8(hsan:zc7 NN=some true){x:zbd}{w:zbc}(hx:okT zbe x)(hw:okT ze5 w):zbr NN x w=some true:=by
 obtain⟨m,leaf,fan,bl,m1,m2,m3⟩:=yj1 hx
 simp only[zbr,hsan,m1,ab]
 rcases m3 with m3 | ⟨m3,m4⟩
 ·rw[X4 (by rw[J3 m3];rfl)]
 ·rw[Y3 (by rw[m3];rfl)]
  obtain⟨k1,k2,k3⟩:=m2.kids
  have hS:=m4.stl k1
  obtain⟨R,r1,r2⟩:=yiw m.1 k1 k2 k3
  have r3:=yix m.1 k1 k2 k3 r1
  have hR:=r1.short
  have hT:(todoS m.1 R).length<=4096:=aX (List.length_filter_le _ _) (by omega)
  have hTs:(todoS m.1 R).Pairwise (·<·):=r1.1.filter _
  have tg:=fun id (h:id∈todoS m.1 R)=>yhc m4 k1 r1 h
  have hw:(Lit.int .u8 w.1).wf=true/\(Lit.int .u16 w.2.1).wf=true/\(Lit.int .u8 w.2.2).wf=true:=hw
  have w3:=z6a hw.2.2
  have w2:=yh9 hw.2.1
  generalize todoS m.1 R=T at r2 r3 hT hTs tg
  obtain⟨f,hf⟩:∃f,f=m.2.1:=⟨_,rfl⟩
  obtain⟨st,hst⟩:∃st,st=m.1:=⟨_,rfl⟩
  rw[<-hst]at m4 hS r2 r3 tg
  simp only[<-hst,r2,r3,ab]
  have hsome:∀id∈T,(z3q st id).isSome=true:=fun id h=>by
   obtain⟨j,_,_,_,e,_⟩:=tg id h
   rw[e];rfl
  rcases Rotten_ok hS (T:=T) (by omega) (x:=w) (z6a hw.1) w2 with h | ⟨id,c,i,i1,i2,i3,i4,i5,i6,h⟩
  ·rw[h]
   simp only[ab]
   rw[X4 (by rfl)]
  ·obtain⟨c0,id0,_,_⟩:=y4j i2
   obtain⟨by',hby,by1⟩:∃by':Int,by'=(bif decide (w.2.2<1)then 1 else w.2.2)/\1<=by'/\by'<256:=by
    refine⟨_,rfl, ?_⟩
    by_cases h:w.2.2<1
    ·rw[decide_eq_true h,cond_true];omega
    ·rw[decide_eq_false h,cond_false];omega
   obtain⟨jj,j1,j2,j3,j4,j5,j6⟩:=tg id i1
   have hcj:c=rdL (mapS st) (jj:Int) 0:=by rw[i2]at j4;exact aR.inj j4
   rw[<-hcj]at j4 j5 j6
   have hbi:isB (rdL (rdL (celS st) c []) i 0):=j6 _ (z62 i5 i6)
   have w1:aa .i64 w.2.1=w.2.1:=w64 (by omega) (by omega)
   rw[h,<-hby]
   have hS2:=yk4 hS c i by'
   have hlen2:(rdL (celS (rotS st c i by')) c []).length=(rdL (celS st) c []).length:=by
    show(rdL (setL (celS st) c _) c []).length=_
    rw[z32 c0 i3,G0]
   have hd:=yof hS2 (c:=c) (i:=i) (by':=by') ⟨c0,by show c<((setL (celS st) c _).length:Int);rw[G0];exact i3⟩ ⟨i5,by rw[hlen2];exact i6⟩
   rw[yk3 ⟨c0,i3⟩ ⟨i5,i6⟩ hbi]at hd
   have hb0:eqi ((rdL (celS st) c []).length:Int) 0=false:=J3 (by omega)
   have s6:z42 NN (T,([],0)) (rotS st c i by') (4096:Int)=some (zam (rotS st c i by') T 4096 0 [],0):=ydd hS2 (s:=(T,([],0))) (by simp;omega) (n:=4096) (by omega)
   have s13:z42 NN (T,([],0)) st (4096:Int)=some (zam st T 4096 0 [],0):=ydd hS (s:=(T,([],0))) (by simp;omega) (n:=4096) (by omega)
   simp only[ab,y3t,i2,yfv hS.qu,s6]
   rw[Y3 (decide_eq_false (by omega)),if_pos ⟨c0,i3⟩]
   simp only[]
   rw[gd_t (by show(!(eqi ((rdL (celS st) c []).length:Int) 0))=true;rw[hb0];rfl)]
   rw[w1,<-i4,hd]
   simp only[ab]
   have hst2:(st.1,(rotS st c i by').2)=st:=rfl
   rw[Y3 (by rfl),hst2,s13]
   simp only[ab]
   have cs2:∀x,z3q (rotS st c i by') x=z3q st x:=fun x=>yel rfl x
   have q1:=zv5 (rotS st c i by') T 4096 0 [] hT (by omega) fun x hx=>by rw[cs2];exact hsome x hx
   have q2:=zv5 st T 4096 0 [] hT (by omega) hsome
   have hgood:∀x∈T,gdS st x=true:=fun x hx=>by
    obtain⟨j,_,_,_,e1,e2,_⟩:=tg x hx
    unfold gdS
    rw[e1]
    exact e2
   have hbad:∀x∈T,gdS (rotS st c i by') x=false↔x=id:=fun x hx=>by
    obtain⟨j,g1,g2,g3,g4,g5,_⟩:=tg x hx
    unfold gdS
    rw[cs2,g4]
    simp only[]
    by_cases hxi:x=id
    ·have hj:j=jj:=by omega
     subst hj
     rw[<-hcj]at g5|-
     refine⟨fun _=>hxi,fun _=> ?_⟩
     rw[hxi]at g5|-
     unfold zmi at g5|-
     simp only[Bool.and_eq_true]at g5
     have hk:=zpw.1 g5.2.2
     have hne:chk (rdL (celS (rotS st c i by')) c [])≠rdL (chkS (rotS st c i by')) id 0:=fun e=>by
      have e1:rdL (celS (rotS st c i by')) c []=setL (rdL (celS st) c []) i (xorB (rdL (rdL (celS st) c []) i 0) by'):=z32 c0 i3
      rw[e1,show rdL (chkS (rotS st c i by')) id 0=rdL (chkS st) id 0 from rfl,<-hk]at e
      exact ynm hbi by1 (yon i5 i6 (yq8 _ _) hbi e)
     rw[J3 hne,cZ,cZ]
    ·refine⟨fun e=> ?_,fun e=>absurd e hxi⟩
     have hcne:rdL (mapS st) (j:Int) 0≠c:=fun e2=>by
      have:j=jj:=m4.ne j jj g2 j2 g3 j3 (by rw[hcj]at e2;exact e2)
      omega
     have hc0':0<=rdL (mapS st) (j:Int) 0:=(y4j g4).1
     have e1:rdL (celS (rotS st c i by')) (rdL (mapS st) (j:Int) 0) []=rdL (celS st) (rdL (mapS st) (j:Int) 0) []:=z1d c0 hc0' hcne
     have e3:zmi (rotS st c i by') x (rdL (mapS st) (j:Int) 0)=zmi st x (rdL (mapS st) (j:Int) 0):=by
      unfold zmi
      rw[e1,show(celS (rotS st c i by')).length=(celS st).length from G0 _ _ _]
      rfl
     rw[e3,g5]at e
     cases e
   obtain⟨f1,f2⟩:=y2v hTs i1 hbad
   have hz:((0:Nat):Int)=0:=rfl
   rw[hz]at q1 q2
   have e4:T.filter (fun id=> !gdS st id)=[]:=dj.2 fun y hy=>by rw[hgood y hy];decide
   rw[q1,q2,f1,e4,cn.2 hgood]
   simp only[aj]
   rw[ylk [id] id rfl]
   simp only[ab]
   have hw':aa .i64 ((T.length:Int)-1)=((0+(T.filter (gdS (rotS st c i by'))).length:Nat):Int):=by
    rw[w64 (by omega) (by omega)];omega
   rw[cond_true,hw',K0,cond_true,X4 (by rfl),X4 (by rw[Nat.zero_add];exact K0 _)]
end
end Ds
