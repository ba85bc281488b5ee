/- What is reached in a pool: both packages give the same ids, in order. -/
import Derived.Test.YtljffhpbdmkplaaGreatDsC
import Derived.Test.YtljffhpbdmkplaaGreatDvD
set_option linter.all false
open Bool renaming not_false->aO,not_true->aN
open Int renaming emod_lt_of_pos->de,emod_nonneg->dF,lt_irrefl->aA,sub_zero->fp,tmod->aJ,tmod_eq_emod_of_nonneg->be
open Go.IntKind renaming bits->bi,wrap->aa
open List renaming append_assoc->au,append_eq_append_iff->dT,append_nil->ai,append_of_mem->dP,cons->cf,cons_append->aY,count_le_length->bF,filter_cons_of_neg->bM,filter_cons_of_pos->bT,filter_nil->e8,foldl_cons->aX,foldl_nil->dU,getD_eq_getElem?_getD->aM,getElem?_eq_none->cO,getElem?_replicate->df,length->ap,length_append->ae,length_cons->af,length_nil->aq,length_singleton->aF,map_cons->ax,map_nil->bK,mem_append->ak,mem_cons->am,mem_singleton->aL,mergeSort_perm->dG,nil_append->aj,nodup_append->cd,nodup_nil->dS,pairwise_cons->aK,replicate->ar
open Nat renaming le_refl->al,le_trans->aW,lt_of_le_of_lt->bJ,not_lt_zero->ag
open Option renaming bind_some->ab
namespace Ds
open Go Go.Dv
set_option maxRecDepth 100000
theorem y8h(N:Nat)(p:List Sl)(i:Int):zpj N p i=some (W5 p i):=by
 unfold zpj W5 slA
 by_cases h0:0<=i
 ·by_cases h1:i<(p.length:Int)
  ·simp only[h0,h1,decide_true,cond_true,Bool.true_and]
   rw[gd_t (V8 h0 h1)]
  ·simp[h0,h1]
 ·simp[h0]
inductive Rch (p:List Sl) (R:List Int):Int->Prop
 | root {k:Int}:k∈R->W5 p k=true->Rch p R k
 | kid {i k:Int}:Rch p R i->k∈y8 (slA p i)->W5 p k=true->Rch p R k
theorem Rch.used{p:List Sl}{R:List Int}{i:Int}(h:Rch p R i):W5 p i=true:=by cases h<;>assumption
theorem Rch.mono{p:List Sl}{R R':List Int}(hR:∀k∈R,k∈R'){i:Int}(h:Rch p R i):Rch p R' i:=by
 induction h with
 | root h u=>exact .root (hR _ h) u
 | kid _ h u ih=>exact .kid ih h u
theorem Rch.up{p:List Sl}{id:Int}(hu:W5 p id=true){i:Int}(h:Rch p (y8 (slA p id)) i):Rch p [id] i:=by
 induction h with
 | root h u=>exact .kid (.root (by simp) hu) h u
 | kid _ h u ih=>exact .kid ih h u
theorem yh5:∀{a b:List Int},a.Pairwise (·<·)->b.Pairwise (·<·)->(∀x,x∈a↔x∈b)->a=b
 | [],[],_,_,_=>rfl
 | [],y::b,_,_,h=>absurd ((h y).2 (by simp)) (by simp)
 | x::a,[],_,_,h=>absurd ((h x).1 (by simp)) (by simp)
 | x::a,y::b,ha,hb,h=>by
  obtain⟨a1,a2⟩:=aK.1 ha
  obtain⟨b1,b2⟩:=aK.1 hb
  have hxy:x=y:=by
   rcases am.1 ((h x).1 (by simp))with e | e
   ·exact e
   ·rcases am.1 ((h y).2 (by simp))with e' | e'
    ·exact e'.symm
    ·have:=b1 x e;have:=a1 y e';omega
  subst hxy
  congr 1
  refine yh5 a2 b2 fun z=>⟨fun hz=> ?_,fun hz=> ?_⟩
  ·rcases am.1 ((h z).1 (by simp[hz]))with e | e
   ·have:=a1 z hz;omega
   ·exact e
  ·rcases am.1 ((h z).2 (by simp[hz]))with e | e
   ·have:=b1 z hz;omega
   ·exact e
def IsReach(p:List Sl)(R:List Int)(out:List Int):Prop:=out.Pairwise (·<·)/\∀i,i∈out↔Rch p R i
theorem IsReach.unique{p:List Sl}{R a b:List Int}(h:IsReach p R a)(k:IsReach p R b):a=b:=yh5 h.1 k.1 fun x=>(h.2 x).trans (k.2 x).symm
structure DS where
 st:List Int
 fine:Bool
 out:List Int
def dfs(p:List Sl):Nat->Int->DS->DS
 | 0,_,s=>s
 | n+1,id,s=>
  if W5 p id=false\/rdL s.st id 0=2 then s
  else if rdL s.st id 0=1 then⟨s.st,false,s.out⟩
  else
   let s':=(y8 (slA p id)).foldl (fun s k=>dfs p n k s) ⟨setL s.st id 1,s.fine,s.out⟩
   ⟨setL s'.st id 2,s'.fine,s'.out++[id]⟩
abbrev DS.c(s:DS)(i:Int):Int:=rdL s.st i 0
def DS.white(s:DS):Nat:=s.st.count 0
def V3(s:DS):Prop:=∀i,s.c i=0\/s.c i=1\/s.c i=2
structure Post (p:List Sl) (R:List Int) (s s':DS):Prop where
 len:s'.st.length=s.st.length
 wh:s'.white<=s.white
 ol:s'.out.length+s'.white<=s.out.length+s.white
 v3:V3 s'
 one:∀i,0<=i->(s'.c i=1↔s.c i=1)
 two:∀i,0<=i->s.c i=2->s'.c i=2
 self:∀k∈R,W5 p k=true->s'.c k≠0
 new:∀i,0<=i->s.c i≠2->s'.c i=2->Rch p R i
 clo:∀i,0<=i->s.c i≠2->s'.c i=2->∀k∈y8 (slA p i),W5 p k=true->s'.c k≠0
 out:∃l,s'.out=s.out++l/\(∀i,i∈l↔0<=i/\i<(s.st.length:Int)/\s.c i=0/\s'.c i=2)/\l.Nodup/\
  (s'.fine=true->∀A i B,l=A++i::B->∀k∈y8 (slA p i),W5 p k=true->s.c k=2\/k∈A)
 fine1:s'.fine=true->s.fine=true
 fine2:s'.fine=true->∀k∈R,W5 p k=true->s'.c k=2
 fine4:s.fine=true->s'.fine=false->(∃x,s.c x=1/\Rch p R x)\/∃x,Rch p R x/\Rch p (y8 (slA p x)) x
theorem zy6{p:List Sl}{R:List Int}{s:DS}(hv:V3 s)(h:∀k∈R,W5 p k=true->s.c k=2):Post p R s s:=
 ⟨rfl,al _,al _,hv,fun _ _=>Iff.rfl,fun _ _ h=>h,fun k hk hu e=>(by rw[h k hk hu]at e;cases e),fun i _ a b=>absurd b a,fun i _ a b=>absurd b a,
  ⟨[],by simp,fun i=>(by simp;omega),dS,fun _ A i B e=>(by cases A<;>cases e)⟩,fun h=>h,fun _=>h,fun a b=>(by rw[a]at b;cases b)⟩
theorem yhz{p:List Sl}{k:Int}{R:List Int}{s s1 s2:DS}(hv:V3 s)(h:Post p [k] s s1)(g:Post p R s1 s2):Post p (k::R) s s2:=by
 have keep:∀i,0<=i->s1.c i≠0->s2.c i≠0:=by
  intro i hi h0
  rcases h.v3 i with e | e | e
  ·exact absurd e h0
  ·have:=(g.one i hi).2 e;omega
  ·have:=g.two i hi e;omega
 have m1:∀{i},Rch p [k] i->Rch p (k::R) i:=fun r=>r.mono (by simp)
 have m2:∀{i},Rch p R i->Rch p (k::R) i:=fun r=>r.mono (fun x hx=>by simp[hx])
 refine⟨g.len.trans h.len,aW g.wh h.wh,aW g.ol h.ol,g.v3,fun i hi=>(g.one i hi).trans (h.one i hi),fun i hi e=>g.two i hi (h.two i hi e), ?_, ?_, ?_, ?_,fun e=>h.fine1 (g.fine1 e), ?_, ?_⟩
 ·intro j hj hu
  rcases am.1 hj with rfl | hj
  ·exact keep j (k9 hu) (h.self j (by simp) hu)
  ·exact g.self j hj hu
 ·intro i hi h0 h2
  by_cases e:s1.c i=2
  ·exact m1 (h.new i hi h0 e)
  ·exact m2 (g.new i hi e h2)
 ·intro i hi h0 h2 j hj hu
  by_cases e:s1.c i=2
  ·exact keep j (k9 hu) (h.clo i hi h0 e j hj hu)
  ·exact g.clo i hi e h2 j hj hu
 ·obtain⟨l1,a1,a2,a3,a4⟩:=h.out
  obtain⟨l2,b1,b2,b3,b4⟩:=g.out
  refine⟨l1++l2,by rw[b1,a1,au],fun i=> ?_, ?_,fun hf A i B e j hj hu=> ?_⟩
  ·rw[ak,a2,b2,h.len]
   constructor
   ·rintro(⟨x1,x2,x3,x4⟩ | ⟨x1,x2,x3,x4⟩)
    ·exact⟨x1,x2,x3,g.two i x1 x4⟩
    ·refine⟨x1,x2, ?_,x4⟩
     rcases hv i with e | e | e
     ·exact e
     ·have:=(h.one i x1).2 e;omega
     ·have:=h.two i x1 e;omega
   ·rintro⟨x1,x2,x3,x4⟩
    rcases h.v3 i with e | e | e
    ·exact .inr ⟨x1,x2,e,x4⟩
    ·have:=(h.one i x1).1 e;omega
    ·exact .inl ⟨x1,x2,x3,e⟩
  ·refine cd.2 ⟨a3,b3,fun i hi j hj e=> ?_⟩
   subst e
   have:=((a2 i).1 hi).2.2.2
   have:=((b2 i).1 hj).2.2.1
   omega
  ·have hf1:=g.fine1 hf
   rcases dT.1 e with⟨zs,e1,e2⟩ | ⟨bs,e1,e2⟩
   ·rcases b4 hf zs i B e2 j hj hu with h1 | h1
    ·have hjn:=k9 hu
     by_cases hc:s.c j=2
     ·exact .inl hc
     ·refine .inr ?_
      rw[e1,ak]
      refine .inl ((a2 j).2 ⟨hjn, ?_, ?_,h1⟩)
      ·by_cases hlt:j<(s.st.length:Int)
       ·exact hlt
       ·exfalso
        have:s1.c j=0:=by
         have hl:=h.len
         simp only[DS.c,rdL]
         rw[aM,cO (by omega)];rfl
        omega
      ·rcases hv j with e | e | e
       ·exact e
       ·have:=(h.one j hjn).2 e;omega
       ·exact absurd e hc
    ·exact .inr (by rw[e1,ak];exact .inr h1)
   ·cases bs with
    | nil=>
     simp only[ai,aj]at e1 e2
     rcases b4 hf [] i B e2.symm j hj hu with h1 | h1
     ·have hjn:=k9 hu
      by_cases hc:s.c j=2
      ·exact .inl hc
      ·refine .inr ?_
       rw[<-e1]
       refine(a2 j).2 ⟨hjn, ?_, ?_,h1⟩
       ·by_cases hlt:j<(s.st.length:Int)
        ·exact hlt
        ·exfalso
         have:s1.c j=0:=by
          have hl:=h.len
          simp only[DS.c,rdL]
          rw[aM,cO (by omega)];rfl
         omega
       ·rcases hv j with e | e | e
        ·exact e
        ·have:=(h.one j hjn).2 e;omega
        ·exact absurd e hc
     ·cases h1
    | cons b bs=>
     simp only[aY,cf.injEq]at e2
     obtain⟨rfl,e2⟩:=e2
     exact a4 hf1 A i bs e1 j hj hu
 ·intro hf j hj hu
  rcases am.1 hj with rfl | hj
  ·exact g.two j (k9 hu) (h.fine2 (g.fine1 hf) j (by simp) hu)
  ·exact g.fine2 hf j hj hu
 ·intro hs hf
  cases e:s1.fine with
  | false=>
   rcases h.fine4 hs e with⟨x,x1,x2⟩ | ⟨x,x1,x2⟩
   ·exact .inl ⟨x,x1,m1 x2⟩
   ·exact .inr ⟨x,m1 x1,x2⟩
  | true=>
   rcases g.fine4 e hf with⟨x,x1,x2⟩ | ⟨x,x1,x2⟩
   ·exact .inl ⟨x,(h.one x (k9 x2.used)).1 x1,m2 x2⟩
   ·exact .inr ⟨x,m2 x1,x2⟩
theorem zmq{l:List Int}{i:Int}{y:Int}(h0:0<=i)(h1:i<(l.length:Int))(hy:y≠0):(setL l i y).count 0+(if rdL l i 0=0 then 1 else 0)=l.count 0:=by
 have h:i.toNat<l.length:=by omega
 have hr:rdL l i 0=l[i.toNat]:=by simp[rdL,h]
 unfold setL
 rw[List.count_set h,hr]
 have hle:(if(l[i.toNat]==0)=true then 1 else 0)<=l.count 0:=by
  split
  ·rename_i e
   have:l[i.toNat]=0:=by simpa using e
   exact List.count_pos_iff.2 (by rw[<-this];exact List.getElem_mem h)
  ·omega
 have hy':(if(y==0)=true then 1 else 0)=0:=by simp[hy]
 rw[hy']
 by_cases e:l[i.toNat]=0
 ·simp only[e,beq_self_eq_true,if_true]at hle|-;omega
 ·simp only[beq_iff_eq,e,if_false]at hle|-;omega
theorem yn7{s:DS}{id i:Int}{y:Int}{f:Bool}{o:List Int}(h0:0<=id)(h1:id<(s.st.length:Int))(hi:0<=i):(DS.mk (setL s.st id y) f o).c i=if i=id then y else s.c i:=by
 by_cases e:i=id
 ·subst e;rw[if_pos rfl];exact zem h0 h1
 ·rw[if_neg e];exact z5h h0 hi e
theorem yr9{s:DS}{i:Int}(h:i<0):s.c i=s.c 0:=by
 simp only[DS.c,rdL];congr 1;omega
theorem yj8{s:DS}(h:∀i,0<=i->s.c i=0\/s.c i=1\/s.c i=2):V3 s:=fun i=>by
 by_cases hi:0<=i
 ·exact h i hi
 ·rw[yr9 (by omega)];exact h 0 (by omega)
theorem yhy{p:List Sl}{id:Int}{s s2:DS}(hv:V3 s)(hl:s.st.length=p.length)(hu:W5 p id=true)(hc:s.c id=0)
  (g:Post p (y8 (slA p id)) ⟨setL s.st id 1,s.fine,s.out⟩ s2):Post p [id] s ⟨setL s2.st id 2,s2.fine,s2.out++[id]⟩:=by
 have h0:=k9 hu
 have h1:id<(s.st.length:Int):=by rw[hl];exact z9b hu
 have hl2:s2.st.length=s.st.length:=by rw[g.len];simp
 have h2:id<(s2.st.length:Int):=by rw[hl2];exact h1
 obtain⟨s1,hs1⟩:∃s1:DS,s1=⟨setL s.st id 1,s.fine,s.out⟩:=⟨_,rfl⟩
 have c1:∀i,0<=i->s1.c i=if i=id then 1 else s.c i:=fun i hi=>by rw[hs1];exact yn7 h0 h1 hi
 rw[<-hs1]at g
 have c3:∀i,0<=i->(DS.mk (setL s2.st id 2) s2.fine (s2.out++[id])).c i=if i=id then 2 else s2.c i:=fun i hi=>yn7 h0 h2 hi
 have w1:s1.white+1=s.white:=by
  have:=zmq (y:=1) h0 h1 (by decide)
  rw[if_pos hc]at this
  rw[hs1];exact this
 have w3:(DS.mk (setL s2.st id 2) s2.fine (s2.out++[id])).white<=s2.white:=by
  have:=zmq (y:=2) h0 h2 (by decide)
  show(setL s2.st id 2).count 0<=s2.st.count 0
  omega
 have c2id:s2.c id=1:=(g.one id h0).2 (by rw[c1 id h0,if_pos rfl])
 have hlen1:s1.st.length=s.st.length:=by rw[hs1];simp
 have hout1:s1.out=s.out:=by rw[hs1]
 have hfine1:s1.fine=s.fine:=by rw[hs1]
 have gwh:=g.wh
 have gol:=g.ol
 rw[hout1]at gol
 have up:∀{i},Rch p (y8 (slA p id)) i->Rch p [id] i:=fun r=>r.up hu
 have nz:∀i,0<=i->s2.c i≠0->(DS.mk (setL s2.st id 2) s2.fine (s2.out++[id])).c i≠0:=by
  intro i hi h
  rw[c3 i hi]
  by_cases e:i=id
  ·rw[if_pos e];decide
  ·rw[if_neg e];exact h
 refine⟨by simpa using hl2,by omega, ?_, ?_, ?_, ?_, ?_, ?_, ?_, ?_, ?_, ?_, ?_⟩
 ·simp only[ae,aF];omega
 ·refine yj8 fun i hi=> ?_
  rw[c3 i hi]
  by_cases e:i=id
  ·rw[if_pos e];exact .inr (.inr rfl)
  ·rw[if_neg e];exact g.v3 i
 ·intro i hi
  rw[c3 i hi]
  by_cases e:i=id
  ·subst e;rw[if_pos rfl,hc];decide
  ·rw[if_neg e,g.one i hi,c1 i hi,if_neg e]
 ·intro i hi h
  rw[c3 i hi]
  by_cases e:i=id
  ·rw[if_pos e]
  ·rw[if_neg e];exact g.two i hi (by rw[c1 i hi,if_neg e];exact h)
 ·intro k hk _
  simp only[aL]at hk
  subst hk
  rw[c3 k h0,if_pos rfl];decide
 ·intro i hi ha hb
  rw[c3 i hi]at hb
  by_cases e:i=id
  ·subst e;exact .root (by simp) hu
  ·rw[if_neg e]at hb
   exact up (g.new i hi (by rw[c1 i hi,if_neg e];exact ha) hb)
 ·intro i hi ha hb k hk hku
  apply nz k (k9 hku)
  rw[c3 i hi]at hb
  by_cases e:i=id
  ·subst e;exact g.self k hk hku
  ·rw[if_neg e]at hb
   exact g.clo i hi (by rw[c1 i hi,if_neg e];exact ha) hb k hk hku
 ·obtain⟨l,a1,a2,a3,a4⟩:=g.out
  refine⟨l++[id],by show s2.out++[id]=_;rw[a1,hout1,au],fun i=> ?_, ?_,fun hf A i B e k hk hku=> ?_⟩
  ·rw[ak,a2,hlen1]
   constructor
   ·rintro(⟨x1,x2,x3,x4⟩ | h)
    ·have e:i≠id:=fun e=>by rw[c1 i x1,if_pos e]at x3;cases x3
     rw[c1 i x1,if_neg e]at x3
     exact⟨x1,x2,x3,by rw[c3 i x1,if_neg e];exact x4⟩
    ·simp only[aL]at h
     subst h
     exact⟨h0,h1,hc,by rw[c3 i h0,if_pos rfl]⟩
   ·rintro⟨x1,x2,x3,x4⟩
    by_cases e:i=id
    ·exact .inr (by simp[e])
    ·rw[c3 i x1,if_neg e]at x4
     exact .inl ⟨x1,x2,by rw[c1 i x1,if_neg e];exact x3,x4⟩
  ·refine cd.2 ⟨a3,by simp,fun i hi j hj e=> ?_⟩
   simp only[aL]at hj
   subst hj;subst e
   have:=((a2 i).1 hi).2.2.1
   rw[c1 i h0,if_pos rfl]at this;cases this
  ·have hf:s2.fine=true:=hf
   have hkn:=k9 hku
   have conv:s1.c k=2->s.c k=2:=fun h=>by
    rw[c1 k hkn]at h
    by_cases e:k=id
    ·rw[if_pos e]at h;cases h
    ·rw[if_neg e]at h;exact h
   rcases dT.1 e with⟨zs,e1,e2⟩ | ⟨bs,e1,e2⟩
   ·have hcase:zs=[]/\i=id:=by
     cases zs with
     | nil=>simp only[aj,cf.injEq]at e2;exact⟨rfl,e2.1.symm⟩
     | cons x xs=>simp at e2
    obtain⟨rfl,rfl⟩:=hcase
    rw[ai]at e1
    subst e1
    have h2k:=g.fine2 hf k hk hku
    by_cases hc2:s1.c k=2
    ·exact .inl (conv hc2)
    ·refine .inr ((a2 k).2 ⟨hkn, ?_, ?_,h2k⟩)
     ·rw[hlen1,hl];exact z9b hku
     ·have hv1:V3 s1:=yj8 fun i hi=>by
       rw[c1 i hi]
       by_cases e:i=i
       ·split
        ·exact .inr (.inl rfl)
        ·exact hv i
       ·exact absurd rfl e
      rcases hv1 k with e | e | e
      ·exact e
      ·have:=(g.one k hkn).2 e;omega
      ·exact absurd e hc2
   ·cases bs with
    | nil=>
     simp only[aj,ai,cf.injEq]at e2 e1
     obtain⟨rfl,_⟩:=e2
     subst e1
     have h2k:=g.fine2 hf k hk hku
     by_cases hc2:s1.c k=2
     ·exact .inl (conv hc2)
     ·refine .inr ((a2 k).2 ⟨hkn, ?_, ?_,h2k⟩)
      ·rw[hlen1,hl];exact z9b hku
      ·have hv1:V3 s1:=yj8 fun j hj=>by
        rw[c1 j hj]
        split
        ·exact .inr (.inl rfl)
        ·exact hv j
       rcases hv1 k with e | e | e
       ·exact e
       ·have:=(g.one k hkn).2 e;omega
       ·exact absurd e hc2
    | cons b bs=>
     simp only[aY,cf.injEq]at e2
     obtain⟨rfl,e2⟩:=e2
     rcases a4 hf A i bs e1 k hk hku with h | h
     ·exact .inl (conv h)
     ·exact .inr h
 ·intro hf
  have:=g.fine1 hf
  rw[hfine1]at this;exact this
 ·intro hf k hk _
  simp only[aL]at hk
  subst hk
  rw[c3 k h0,if_pos rfl]
 ·intro hs hf
  rcases g.fine4 (by rw[hfine1];exact hs) hf with⟨x,x1,x2⟩ | ⟨x,x1,x2⟩
  ·rw[c1 x (k9 x2.used)]at x1
   by_cases e:x=id
   ·subst e;exact .inr ⟨x, .root (by simp) hu,x2⟩
   ·rw[if_neg e]at x1;exact .inl ⟨x,x1,up x2⟩
  ·exact .inr ⟨x,up x1,x2⟩
def dfsL(p:List Sl)(n:Nat)(R:List Int)(s:DS):DS:=R.foldl (fun s k=>dfs p n k s) s
theorem ylx{s:DS}(hv:V3 s){id:Int}(h0:0<=id)(h1:id<(s.st.length:Int)){y:Int}(hy:y=1\/y=2){f:Bool}{o:List Int}:V3 ⟨setL s.st id y,f,o⟩:=yj8 fun i hi=>by
 rw[yn7 h0 h1 hi]
 split
 ·rcases hy with rfl | rfl
  ·exact .inr (.inl rfl)
  ·exact .inr (.inr rfl)
 ·exact hv i
theorem zps{p:List Sl}{n:Nat}(ih:∀(id:Int) (s:DS),V3 s->s.st.length=p.length->s.white<n->Post p [id] s (dfs p n id s)):
  ∀(R:List Int) (s:DS),V3 s->s.st.length=p.length->s.white<n->Post p R s (dfsL p n R s)
 | [],s,hv,hl,hw=>zy6 hv (fun k hk=>(by cases hk))
 | k::R,s,hv,hl,hw=>by
  have a:=ih k s hv hl hw
  exact yhz hv a (zps ih R _ a.v3 (a.len.trans hl) (bJ a.wh hw))
theorem zp3(p:List Sl):∀(n:Nat) (id:Int) (s:DS),V3 s->s.st.length=p.length->s.white<n->Post p [id] s (dfs p n id s)
 | 0,_,_,_,_,hw=>absurd hw (ag _)
 | n+1,id,s,hv,hl,hw=>by
  unfold dfs
  by_cases hu:W5 p id=true
  ·have h0:=k9 hu
   have h1:id<(s.st.length:Int):=by rw[hl];exact z9b hu
   rcases hv id with e | e | e
   ·have e':rdL s.st id 0=0:=e
    rw[if_neg (by simp[hu,e']),if_neg (by simp[e'])]
    refine yhy hv hl hu e (zps (zp3 p n) (y8 (slA p id)) ⟨setL s.st id 1,s.fine,s.out⟩ (ylx hv h0 h1 (.inl rfl)) (by simpa using hl) ?_)
    have:=zmq (y:=1) h0 h1 (by decide)
    rw[if_pos e']at this
    show(setL s.st id 1).count 0<n
    have:s.white=s.st.count 0:=rfl
    omega
   ·have e':rdL s.st id 0=1:=e
    rw[if_neg (by simp[hu,e']),if_pos e']
    have hr:∀i,(DS.mk s.st false s.out).c i=s.c i:=fun _=>rfl
    refine⟨rfl,al _,al _,hv,fun _ _=>Iff.rfl,fun _ _ h=>h,fun k hk _=> ?_,fun i _ a b=>absurd b a,fun i _ a b=>absurd b a,⟨[],by simp,fun i=> ?_,dS,fun h=>(by cases h)⟩,fun h=>(by cases h),fun h=>(by cases h),fun _ _=> .inl ⟨id,e, .root (by simp) hu⟩⟩
    ·simp only[aL]at hk
     subst hk
     show s.c k≠0
     omega
    ·simp only[List.not_mem_nil,hr,false_iff];omega
   ·have e':rdL s.st id 0=2:=e
    rw[if_pos (.inr e')]
    exact zy6 hv fun k hk _=>by simp only[aL]at hk;subst hk;exact e
  ·rw[if_pos (.inl (by simpa using hu))]
   exact zy6 hv fun k hk hku=>by simp only[aL]at hk;subst hk;exact absurd hku hu
theorem ynm{p:List Sl}{n:Nat}(hn:p.length<n)(R:List Int):∃s,dfsL p n R ⟨ar p.length 0,true,[]⟩=s/\
  s.out.Nodup/\(∀i,i∈s.out↔Rch p R i)/\s.out.length<=p.length/\(s.fine=false->∃x,Rch p R x/\Rch p (y8 (slA p x)) x)/\
  (s.fine=true->∀i,Rch p R i->¬Rch p (y8 (slA p i)) i):=by
 obtain⟨s0,hs0⟩:∃s0:DS,s0=⟨ar p.length 0,true,[]⟩:=⟨_,rfl⟩
 have c0:∀i,s0.c i=0:=fun i=>by rw[hs0];simp only[DS.c,rdL,aM,df];split<;>rfl
 have hv:V3 s0:=fun i=> .inl (c0 i)
 have hl:s0.st.length=p.length:=by rw[hs0];simp
 have hw:s0.white<=p.length:=by rw[hs0];exact aW bF (by simp)
 rw[<-hs0]
 have h:=zps (zp3 p n) R s0 hv hl (by omega)
 obtain⟨s,hs⟩:∃s,dfsL p n R s0=s:=⟨_,rfl⟩
 rw[hs]at h
 refine⟨s,hs, ?_⟩
 obtain⟨l,a1,a2,a3,a4⟩:=h.out
 have ho:s0.out=[]:=by rw[hs0]
 rw[ho,aj]at a1
 subst a1
 have no1:∀i,0<=i->s.c i≠1:=fun i hi e=>by have:=(h.one i hi).1 e;rw[c0]at this;cases this
 have two_of:∀i,0<=i->s.c i≠0->s.c i=2:=fun i hi hz=>by
  rcases h.v3 i with e | e | e
  ·exact absurd e hz
  ·exact absurd e (no1 i hi)
  ·exact e
 have r2:∀i,Rch p R i->s.c i=2:=by
  intro i hi
  induction hi with
  | root hk hu=>exact two_of _ (k9 hu) (h.self _ hk hu)
  | kid hr hk hu ih=>exact two_of _ (k9 hu) (h.clo _ (k9 hr.used) (by rw[c0];decide) ih _ hk hu)
 have hmem:∀i,i∈s.out↔Rch p R i:=by
  intro i
  rw[a2]
  constructor
  ·rintro⟨x1,x2,x3,x4⟩
   exact h.new i x1 (by rw[c0];decide) x4
  ·intro hr
   exact⟨k9 hr.used,by rw[hl];exact z9b hr.used,c0 i,r2 i hr⟩
 refine⟨a3,hmem, ?_, ?_, ?_⟩
 ·have:=h.ol
  rw[ho]at this
  simp only[aq]at this
  omega
 ·intro hf
  rcases h.fine4 (by rw[hs0]) hf with⟨x,x1,_⟩ | h
  ·rw[c0]at x1;cases x1
  ·exact h
 ·intro hf i hi hcyc
  have key:∀A i B,s.out=A++i::B->∀k,Rch p (y8 (slA p i)) k->k∈A:=by
   intro A i B e k hk
   induction hk with
   | root hk hu=>
    rcases a4 hf A i B e _ hk hu with h | h
    ·rw[c0]at h;cases h
    ·exact h
   | @kid j k hr hk hu ih=>
    obtain⟨A1,B1,e1⟩:=dP ih
    rcases a4 hf A1 j (B1++i::B) (by rw[e,e1];simp) k hk hu with h | h
    ·rw[c0]at h;cases h
    ·rw[e1];exact ak.2 (.inl h)
  obtain⟨A,B,e⟩:=dP ((hmem i).2 hi)
  have hA:=key A i B e i hcyc
  rw[e]at a3
  exact(cd.1 a3).2.2 i hA i (by simp) rfl
abbrev tupB(p:List Sl)(s:DS):(Unit×((List Z7)×(Unit×((List Int)×(Bool×((Unit×(Unit×(Unit×(Unit×Unit))))×(Unit×(Unit×((List Int)×Unit))))))))):=((),(p,((),(s.st,(s.fine,(((),((),((),((),())))),((),((),(s.out,())))))))))
theorem ymd(N n:Nat)(p:List Sl)(id:Int)(K:Nat)(hK:K<1000000)
  (ih:∀(id:Int) (s:DS),V3 s->s.st.length=p.length->s.white<n->s.out.length+s.white<=K->G5 N n id p s.st s.fine s.out=some (tupB p (dfs p n id s))):
  ∀(post pre:List Int) (m:Nat) (s:DS),post.length<m->(pre++post).length<1000000->V3 s->s.st.length=p.length->s.white<n->s.out.length+s.white<=K->
   z0t N (G5 N n) m id (pre++post) ((pre++post).length:Int) (pre.length:Int) s.st p s.fine s.out=
    some ((id,((),())),((),((dfsL p n post s).st,((),((),((dfsL p n post s).out,(p,((dfsL p n post s).fine,(((),((),((),((),())))),())))))))))
 | [],pre,0,s,h,_,_,_,_,_=>absurd h (ag _)
 | k::post,pre,0,s,h,_,_,_,_,_=>absurd h (ag _)
 | [],pre,m+1,s,_,_,_,_,_,_=>by
  rw[zb4]
  simp only[u9,ai,aA,decide_false,cond_false]
  rfl
 | k::post,pre,m+1,s,hm,hl,hv,hs,hw,ho=>by
  have a:=zp3 p n k s hv hs hw
  have ih2:=ymd N n p id K hK ih post (pre++[k]) m (dfs p n k s) (by simp at hm;omega) (by simpa using hl) a.v3 (a.len.trans hs) (bJ a.wh hw) (aW a.ol ho)
  rw[zb4]
  simp only[u9,Q1,V6,U4,cond_true]
  rw[gd_t rfl,ih k s hv hs hw ho]
  simp only[tupB]
  rw[V1 (q:=k) (by simp at hl;omega),U1]
  exact ih2
theorem yfo(N:Nat)(p:List Sl)(K:Nat)(hK:K<1000000)(hk:∀s∈p,(y8 s).length<1000000)(hN:1000000<=N):∀(n:Nat) (id:Int) (s:DS),V3 s->s.st.length=p.length->s.white<n->s.out.length+s.white<=K->
  G5 N n id p s.st s.fine s.out=some (tupB p (dfs p n id s))
 | 0,_,_,_,_,hw,_=>absurd hw (ag _)
 | n+1,id,s,hv,hl,hw,ho=>by
  rw[zi8]
  unfold z1g dfs
  simp only[y8h]
  by_cases hu:W5 p id=true
  ·have h0:=k9 hu
   have h1:=z9b hu
   have h1s:id<(s.st.length:Int):=by rw[hl];exact h1
   rw[hu]
   simp only[aN,cond_false]
   rw[gd_t (V8 h0 h1s)]
   rcases hv id with e | e | e
   ·have e':rdL s.st id 0=0:=e
    rw[Y3 (by rw[e'];rfl),gd_t (V8 h0 h1s),Y3 (by rw[e'];rfl),gd_t (V8 h0 h1s),gd_t (V8 h0 h1)]
    rw[if_neg (by simp[e']),if_neg (by simp[e'])]
    have hw0:=zmq (y:=1) h0 h1s (by decide)
    rw[if_pos e']at hw0
    have hww:s.white=s.st.count 0:=rfl
    have hv1:V3 ⟨setL s.st id 1,s.fine,s.out⟩:=ylx hv h0 h1s (.inl rfl)
    have hl1:(DS.mk (setL s.st id 1) s.fine s.out).st.length=p.length:=by simpa using hl
    have hw1:(DS.mk (setL s.st id 1) s.fine s.out).white<n:=by show(setL s.st id 1).count 0<n;omega
    have hk':(y8 (slA p id)).length<1000000:=hk _ (z6m h0 h1)
    have hlp:=ymd N n p id K hK (yfo N p K hK hk hN n) (y8 (slA p id)) [] N ⟨setL s.st id 1,s.fine,s.out⟩ (by omega) (by simpa using hk') hv1 hl1 hw1 (by show s.out.length+(setL s.st id 1).count 0<=K;omega)
    have hpost:=zps (zp3 p n) (y8 (slA p id)) ⟨setL s.st id 1,s.fine,s.out⟩ hv1 hl1 hw1
    have hlp':z0t N (G5 N n) N id (((((((rdL p id X4).2).2).2).2).2).1) (ap (((((((rdL p id X4).2).2).2).2).2).1):Int) (0:Int) (setL s.st id (1:Int)) p s.fine s.out=_:=hlp
    rw[hlp']
    simp only
    have hgl:id<((dfsL p n (y8 (slA p id)) ⟨setL s.st id 1,s.fine,s.out⟩).st.length:Int):=by rw[hpost.len];simpa using h1s
    rw[gd_t (V8 h0 hgl)]
    have hol:=hpost.ol
    have hol2:(dfsL p n (y8 (slA p id)) ⟨setL s.st id 1,s.fine,s.out⟩).out.length<1000000:=by
     have:(DS.mk (setL s.st id 1) s.fine s.out).out.length+(DS.mk (setL s.st id 1) s.fine s.out).white=s.out.length+(setL s.st id 1).count 0:=rfl
     omega
    have hr:∀o:List Int,o.length<1000000->zb1 N id o=some ((),((),(o++[id],()))):=by
     intro o hoo
     unfold zb1
     rw[gd_t (Y4 (by omega) (by omega))]
    rw[hr _ hol2]
    rfl
   ·have e':rdL s.st id 0=1:=e
    rw[Y3 (by rw[e'];rfl),gd_t (V8 h0 h1s),X2 (by rw[e'];rfl)]
    rw[if_neg (by simp[e']),if_pos e']
   ·have e':rdL s.st id 0=2:=e
    rw[X2 (by rw[e'];rfl),if_pos (.inr e')]
  ·have hu':W5 p id=false:=by simpa using hu
   rw[hu',if_pos (.inl rfl)]
   rfl
theorem yg2(N:Nat)(p:List Sl)(K:Nat)(hK:K<1000000)(hk:∀s∈p,(y8 s).length<1000000)(hN:1000000<=N):
  ∀(post pre:List Int) (m:Nat) (s:DS),post.length<m->(pre++post).length<1000000->V3 s->s.st.length=p.length->s.white<N->s.out.length+s.white<=K->
   Q8 N m (pre++post) ((pre++post).length:Int) (pre.length:Int) s.fine p s.st s.out=
    some ((),((dfsL p N post s).fine,((),((dfsL p N post s).out,()))))
 | [],pre,0,s,h,_,_,_,_,_=>absurd h (ag _)
 | k::post,pre,0,s,h,_,_,_,_,_=>absurd h (ag _)
 | [],pre,m+1,s,_,_,_,_,_,_=>by
  rw[z33]
  simp only[Q3,ai,aA,decide_false,cond_false]
  rfl
 | k::post,pre,m+1,s,hm,hl,hv,hs,hw,ho=>by
  have a:=zp3 p N k s hv hs hw
  have ih2:=yg2 N p K hK hk hN post (pre++[k]) m (dfs p N k s) (by simp at hm;omega) (by simpa using hl) a.v3 (a.len.trans hs) (bJ a.wh hw) (aW a.ol ho)
  rw[z33]
  simp only[Q3,Q1,V6,U4,cond_true]
  have hvv:zmf N k p s.st s.fine s.out=some (tupB p (dfs p N k s)):=yfo N p K hK hk hN N k s hv hs hw ho
  rw[gd_t rfl,hvv]
  simp only[tupB]
  rw[V1 (q:=k) (by simp at hl;omega),U1]
  exact ih2
theorem ymq:∀{l:List Int},l.Pairwise (fun a b=>decide (a<=b)=true)->l.Nodup->l.Pairwise (·<·)
 | [],_,_=>List.Pairwise.nil
 | x::l,h,g=>by
  obtain⟨h1,h2⟩:=aK.1 h
  obtain⟨g1,g2⟩:=List.nodup_cons.1 g
  refine aK.2 ⟨fun y hy=> ?_,ymq h2 g2⟩
  have:x<=y:=by simpa using h1 y hy
  have:x≠y:=fun e=>g1 (e▸hy)
  omega
theorem yhj{l:List Int}(h:l.Nodup):(z81 l).Pairwise (·<·):=by
 refine ymq ?_ ?_
 ·refine List.pairwise_mergeSort (fun a b c x y=> ?_) (fun a b=> ?_) l
  ·simp only[decide_eq_true_eq]at x y|-;omega
  ·simp only[Bool.or_eq_true,decide_eq_true_eq];omega
 ·exact(dG l _).nodup_iff.2 h
theorem mem_sortI{l:List Int}{x:Int}:x∈z81 l↔x∈l:=(dG l _).mem_iff
theorem y64{N:Nat}(hN:2000000000<=N){p:List Sl}{R:List Int}(hl:p.length<=100000)(hk:∀s∈p,(y8 s).length<1000000)(hR:R.length<1000000):∃out,zbi N p R=some out/\IsReach p R out:=by
 obtain⟨s,hs,h1,h2,h3,h4,h5⟩:=ynm (p:=p) (n:=N) (by omega) R
 obtain⟨s0,hs0⟩:∃s0:DS,s0=⟨ar p.length 0,true,[]⟩:=⟨_,rfl⟩
 have c0:∀i,s0.c i=0:=fun i=>by rw[hs0];simp only[DS.c,rdL,aM,df];split<;>rfl
 have hw:s0.white<=p.length:=by rw[hs0];exact aW bF (by simp)
 have hr:=yg2 N p p.length (by omega) hk (by omega) R [] N s0 (by omega) (by simpa using hR) (fun i=> .inl (c0 i)) (by rw[hs0];simp) (by omega) (by rw[hs0]at hw|-;simpa using hw)
 refine⟨z81 s.out, ?_,yhj h1,fun i=>mem_sortI.trans (h2 i)⟩
 unfold zbi pool_visit_m__pool_Reach_c1
 rw[ymi p 8 hl (by omega) (by omega)]
 have hr':Q8 N N R (ap R:Int) (0:Int) true p (ar (Int.toNat (ap p:Int)) (0:Int)) ([]:List Int)=some ((),(s.fine,((),(s.out,())))):=by
  rw[<-hs,<-hs0]
  rw[hs0]at hr|-
  exact hr
 dsimp only
 rw[hr']
 simp only[z1q]
 rw[gd_t (by simp only[Nat.blt_eq];omega)]
theorem bfs(N:Nat)(p:List Sl)(R:List Int):∀(n:Nat) (todo:List Int) (known:List Bool),known.length=p.length->todo.length+rem p known<n->todo.length+rem p known<1000000000->
  (∀i,0<=i->i<(p.length:Int)->rdL known i false=true->Rch p R i)->(∀k∈todo,W5 p k=true->Rch p R k)->(∀k∈R,W5 p k=true->rdL known k false=true\/k∈todo)->
  (∀i,0<=i->i<(p.length:Int)->rdL known i false=true->∀k∈y8 (slA p i),W5 p k=true->rdL known k false=true\/k∈todo)->
  ∃known',z68 N n todo p known=some ((),(known',()))/\known'.length=p.length/\∀i,0<=i->i<(p.length:Int)->(rdL known' i false=true↔Rch p R i)
 | 0,_,_,_,h,_,_,_,_,_=>absurd h (ag _)
 | n+1,[],known,hl,_,_,hA,hB,hC,hD=>by
  refine⟨known, ?_,hl,fun i h0 h1=>⟨hA i h0 h1,fun h=> ?_⟩⟩
  ·rw[zf8];simp[z2d]
  ·clear h0 h1
   induction h with
   | root hk hu=>
    rcases hC _ hk hu with h | h
    ·exact h
    ·cases h
   | kid hr hk hu ih=>
    rcases hD _ (k9 hr.used) (z9b hr.used) ih _ hk hu with h | h
    ·exact h
    ·cases h
 | n+1,k::rest,known,hl,hn,hb,hA,hB,hC,hD=>by
  simp only[af]at hn hb
  have hrd:rdL (k::rest) (0:Int) (0:Int)=k:=rfl
  rw[zf8]
  simp only[z2d,hrd,y7r,zbm]
  rw[X2 (by simp<;>omega),gd_t (V8 (by omega) (by simp<;>omega)),gd_t (by simp<;>omega)]
  have skip:(W5 p k=true->rdL known k false=true)->∃known',z68 N n rest p known=some ((),(known',()))/\known'.length=p.length/\∀i,0<=i->i<(p.length:Int)->(rdL known' i false=true↔Rch p R i):=by
   intro hsk
   refine bfs N p R n rest known hl (by omega) (by omega) hA (fun j hj=>hB j (by simp[hj])) (fun j hj hu=> ?_) (fun i h0 h1 hi j hj hu=> ?_)
   ·rcases hC j hj hu with h | h
    ·exact .inl h
    ·rcases am.1 h with rfl | h
     ·exact .inl (hsk hu)
     ·exact .inr h
   ·rcases hD i h0 h1 hi j hj hu with h | h
    ·exact .inl h
    ·rcases am.1 h with rfl | h
     ·exact .inl (hsk hu)
     ·exact .inr h
  cases hu:W5 p k with
  | false=>
   simp only[cond_false]
   exact skip (fun h=>by rw[hu]at h;cases h)
  | true=>
   have h0:=k9 hu
   have h1:=z9b hu
   have h1k:k<(known.length:Int):=by rw[hl];exact h1
   simp only[cond_true]
   rw[gd_t (V8 h0 h1k)]
   cases hkn:rdL known k false with
   | true=>
    simp only[aN,cond_false]
    exact skip (fun _=>hkn)
   | false=>
    simp only[aO,cond_true]
    rw[gd_t (V8 h0 h1k)]
    have hr:=zxl p known k.toNat (by omega) (by omega) (by
     have:=hkn
     simp only[rdL]at this
     rw[aM,List.getElem?_eq_getElem (by omega)]at this
     exact this)
    rw[<-zi0 (by omega),kidsU,if_pos (V5.1 hu).2.2]at hr
    have hr:rem p (setL known k true)+(y8 (slA p k)).length=rem p known:=hr
    rw[gd_t (Y4 (by omega) (by omega)),gd_t (V8 h0 h1)]
    have hx:(rdL p k X4).2.2.2.2.2.1=y8 (slA p k):=rfl
    rw[hx,gd_t (Y4 (by simp;omega) (by omega))]
    have hset:∀i,0<=i->i<(p.length:Int)->(rdL (setL known k true) i false=true↔i=k\/rdL known i false=true):=by
     intro i hi hi1
     by_cases e:i=k
     ·subst e;rw[zem h0 h1k];simp
     ·rw[z5h h0 hi e];simp[e]
    refine bfs N p R n (rest++y8 (slA p k)) (setL known k true) (by simpa using hl) (by rw[ae];omega) (by rw[ae];omega) ?_ ?_ ?_ ?_
    ·intro i hi hi1 h
     rcases(hset i hi hi1).1 h with rfl | h
     ·exact hB i (by simp) hu
     ·exact hA i hi hi1 h
    ·intro j hj hju
     rcases ak.1 hj with h | h
     ·exact hB j (by simp[h]) hju
     ·exact .kid (hB k (by simp) hu) h hju
    ·intro j hj hju
     have hj0:=k9 hju
     have hj1:=z9b hju
     rw[hset j hj0 hj1]
     rcases hC j hj hju with h | h
     ·exact .inl (.inr h)
     ·rcases am.1 h with rfl | h
      ·exact .inl (.inl rfl)
      ·exact .inr (ak.2 (.inl h))
    ·intro i hi hi1 h j hj hju
     have hj0:=k9 hju
     have hj1:=z9b hju
     rw[hset j hj0 hj1]
     rcases(hset i hi hi1).1 h with rfl | h
     ·exact .inr (ak.2 (.inr hj))
     ·rcases hD i hi hi1 h j hj hju with h | h
      ·exact .inl (.inr h)
      ·rcases am.1 h with rfl | h
       ·exact .inl (.inl rfl)
       ·exact .inr (ak.2 (.inl h))
theorem y43(N:Nat):∀(post pre:List Bool) (m:Nat) (out:List Int),post.length<m->(pre++post).length+post.length+out.length<1000000->
  z67 N m (pre.length:Int) (pre++post) out=some ((),(out++zkn (pre.length:Int) post,()))
 | [],_,0,_,h,_=>absurd h (ag _)
 | _::_,_,0,_,h,_=>absurd h (ag _)
 | [],pre,m+1,out,_,_=>by
  rw[zf7]
  simp only[z2c,ai,aA,decide_false,cond_false,zkn]
 | b::post,pre,m+1,out,hm,hb=>by
  simp only[ae,af]at hb
  rw[zf7]
  simp only[z2c,Q1,V6,U4,cond_true]
  rw[gd_t rfl,V1 (q:=b) (by omega),U1 (pre:=pre) (q:=b) (post:=post)]
  have e:(pre.length:Int)+1=((pre++[b]).length:Int):=by simp
  cases b with
  | true=>
   simp only[cond_true]
   rw[gd_t (Y4 (by omega) (by omega)),y43 N post (pre++[true]) m (out++[(pre.length:Int)]) (by simp only[af]at hm;omega) (by simp only[ae,af,aq];omega)]
   simp only[zkn,if_true,e,au,List.singleton_append]
  | false=>
   simp only[cond_false]
   rw[y43 N post (pre++[false]) m out (by simp only[af]at hm;omega) (by simp only[ae,af,aq];omega)]
   simp only[zkn,e]
   rfl
theorem y8g{N:Nat}(hN:2000000000<=N){p:List Sl}{R:List Int}(hl:p.length<=100000)(hk:(X9 p).length<400000000)(hR:R.length<300000):∃out,zef N p R=some out/\IsReach p R out:=by
 have hr0:∀i,rdL (ar p.length false) i false=false:=fun i=>by simp only[rdL,aM,df];split<;>rfl
 obtain⟨known,h1,h2,h3⟩:=bfs N p R N R (ar p.length false) (by simp) (by rw[zy1];omega) (by rw[zy1];omega) (fun i _ _ h=>by rw[hr0]at h;cases h) (fun k hk hu=> .root hk hu) (fun k hk _=> .inr hk) (fun i _ _ h=>by rw[hr0]at h;cases h)
 have h4:=y43 N known [] N [] (by omega) (by simp;omega)
 refine⟨zkn 0 known, ?_,zyp _ _,fun i=> ?_⟩
 ·unfold zef
  rw[ymi p 1 hl (by omega) (by omega),gd_t (Y4 (by omega) (by omega))]
  simp only[aj,Int.toNat_natCast]
  rw[h1]
  simp only
  have h4':z67 N N (0:Int) known ([]:List Int)=_:=h4
  rw[h4']
  simp
 ·rw[zy9]
  constructor
  ·rintro⟨a,b,c⟩
   have b':i<(p.length:Int):=by omega
   rw[fp]at c
   exact(h3 i a b').1 c
  ·intro h
   have a:=k9 h.used
   have b:=z9b h.used
   exact⟨a,by omega,by rw[fp];exact(h3 i a b).2 h⟩
end Ds
namespace Ds
open Go Go.Dv
set_option maxRecDepth 100000
variable [Fuel]
def kstp(h b:Int):Int:=aa .u64 (aa .u64 (((BitVec.ofInt (bi .u64) h^^^BitVec.ofInt (bi .u64) (aa .u64 b)).toNat:Int))*(1099511628211:Int))
def chk(xs:List Int):Int:=xs.foldl kstp 14695981039346656037
theorem ygh:∀(q p:List Int) (n:Nat),q.length<n->(p++q).length<1000000000000->∀h,zas NN n h (p++q) ((p++q).length:Int) (p.length:Int)=some (q.foldl kstp h,())
 | _,_,0,h,_,_=>absurd h (ag _)
 | [],p,n+1,_,_,h=>by
  rw[zhb]
  simp only[z45,ai,aA,decide_false,cond_false,dU]
 | b::q,p,n+1,hn,hl,h=>by
  simp only[af]at hn
  have hb:p.length<9223372036854775807:=by simp at hl;omega
  have ih:=ygh q (p++[b]) n (by omega) (by simpa using hl) (kstp h b)
  rw[zhb]
  simp only[z45,Q1,cond_true,U4,V1 (q:=b) hb]
  rw[gd_t V6,U1 (pre:=p) (q:=b) (post:=q),aX,<-ih]
  rfl
theorem yo1{l:List Int}(hl:l.length<1000000000000):zmg NN l=some (chk l):=by
 have h:=ygh l [] NN (by have:=ya8;omega) (by simpa using hl) 14695981039346656037
 rw[show(([]:List Int).length:Int)=0 from rfl,aj]at h
 simp only[zmg,h,ab]
 rfl
theorem yg4:∀(q p:List Int) (n:Nat),q.length<n->(p++q).length<1000000000000->∀h,z6a NN n (p++q) h (p.length:Int)=some (q.foldl kstp h,())
 | _,_,0,h,_,_=>absurd h (ag _)
 | [],p,n+1,_,_,h=>by
  rw[z5r]
  simp only[y6,ai,aA,decide_false,cond_false,dU]
 | b::q,p,n+1,hn,hl,h=>by
  simp only[af]at hn
  have hb:p.length<9223372036854775807:=by simp at hl;omega
  have ih:=yg4 q (p++[b]) n (by omega) (by simpa using hl) (kstp h b)
  rw[z5r]
  simp only[y6,Q1,cond_true,U4,V1 (q:=b) hb]
  rw[gd_t V6,U1 (pre:=p) (q:=b) (post:=q),aX,<-ih]
  rfl
theorem ynv{l:List Int}(hl:l.length<1000000000000):y9 NN l=some (chk l):=by
 have h:=yg4 l [] NN (by have:=ya8;omega) (by simpa using hl) 14695981039346656037
 rw[show(([]:List Int).length:Int)=0 from rfl,aj]at h
 simp only[y9,h]
 rfl
abbrev mapS(st:Z4):List Int:=st.2.2.2.2.2.1
abbrev chkS(st:Z4):List Int:=st.2.2.2.2.2.2.1
abbrev celS(st:Z4):List (List Int):=st.1.2.1
structure StL (st:Z4):Prop where
 qu:st.1.2.2=[]
 nc:(celS st).length<100000
 cl:∀c∈celS st,c.length<1000000000
 ml:(mapS st).length<100000
 kl:(chkS st).length<100000
def z6d(st:Z4)(id:Int):Option Int:=if 0<=id/\id<((mapS st).length:Int)/\0<=rdL (mapS st) id 0 then some (rdL (mapS st) id 0)else none
def y6g(st:Z4)(id c:Int):Bool:=(decide (0<=c)&&decide (c<((celS st).length:Int)))&&(decide (id<((chkS st).length:Int))&&eqi (chk (rdL (celS st) c [])) (rdL (chkS st) id 0))
theorem ybm(st:Z4)(id:Int):∃c,zd2 NN st id=some (c,(z6d st id).isSome)/\∀x,z6d st id=some x->c=x:=by
 simp only[zd2]
 by_cases h0:id<0
 ·rw[X2 (decide_eq_true h0)]
  have:z6d st id=none:=if_neg (by omega)
  exact⟨0,by rw[this];rfl,fun x h=>by rw[this]at h;cases h⟩
 ·rw[Y3 (decide_eq_false h0)]
  by_cases h1:((mapS st).length:Int)<=id
  ·rw[X2 (decide_eq_true h1)]
   have:z6d st id=none:=if_neg (by omega)
   exact⟨0,by rw[this];rfl,fun x h=>by rw[this]at h;cases h⟩
  ·have hin:inB id (mapS st).length=true:=V8 (by omega) (by omega)
   rw[Y3 (decide_eq_false h1),gd_t hin]
   by_cases h2:rdL (mapS st) id 0<0
   ·rw[X2 (decide_eq_true h2)]
    have:z6d st id=none:=if_neg (by omega)
    exact⟨0,by rw[this];rfl,fun x h=>by rw[this]at h;cases h⟩
   ·rw[Y3 (decide_eq_false h2),gd_t hin]
    have:z6d st id=some (rdL (mapS st) id 0):=if_pos ⟨by omega,by omega,by omega⟩
    exact⟨_,by rw[this];rfl,fun x h=>by rw[this]at h;cases h;rfl⟩
theorem yof{d:V7}(hq:d.2.2=[])(c:Int):zvy NN d c=some (if 0<=c/\c<(d.2.1.length:Int)then(rdL d.2.1 c [],0)else([],230)):=by
 obtain⟨n,hn⟩:∃n,NN=n+1:=⟨NN-1,by have:=V0;omega⟩
 have hb:Q2 NN [] c [] 0=some (.inr ((),(((),((),())),(c,((),(([]:List Int),((0:Int),()))))))):=by
  have h:X7 NN NN [] (-1) c [] 0=some (.inr ((),(((),((),())),(c,((),(([]:List Int),((0:Int),()))))))):=by
   rw[show X7 NN NN=X7 NN (n+1)from congrArg _ hn,z37]
   simp only[V9]
   rw[Y3 (by rfl)]
  have w:aa .i64 ((([]:List X0).length:Int)-1)= -1:=by decide
  simp only[Q2,w,h,ab]
 simp only[zvy,y4o,zoj,G7,hq,hb,ab]
 by_cases h0:0<=c
 ·rw[decide_eq_true h0,cond_true]
  by_cases h1:c<(d.2.1.length:Int)
  ·rw[decide_eq_true h1]
   simp only[ab]
   rw[Y3 (by rfl),gd_t (V8 h0 h1),if_pos ⟨h0,h1⟩]
  ·rw[decide_eq_false h1]
   simp only[ab]
   rw[X2 (by rfl),if_neg (by omega)]
 ·rw[decide_eq_false h0,cond_false]
  simp only[ab]
  rw[X2 (by rfl),if_neg (by omega)]
theorem y2k{l:List (List Int)}{i:Int}{P:List Int->Prop}(h:∀c∈l,P c)(h0:P []):P (rdL l i []):=by
 unfold rdL
 rw[aM]
 cases e:l[i.toNat]? with
 | none=>exact h0
 | some x=>exact h x (List.mem_of_getElem? e)
theorem yod{st:Z4}(hS:StL st)(a0 a1:List Int)(a2:Int)(u:List Bool)(la:List Int)(ke lo ge se:Int)(ca:List Int){id:Int}(h0:0<=id)(c:Int):
  zax NN a0 a1 a2 st.1.1 (celS st) st.1.2.2 u la ke lo ge se (mapS st) (chkS st) ca id c=some (y6g st id c):=by
 have hg:=yof (d:=(st.1.1,(celS st,st.1.2.2))) hS.qu c
 simp only[zax,hg,ab,y6g]
 by_cases hc:0<=c/\c<((celS st).length:Int)
 ·rw[if_pos hc,decide_eq_true hc.1,decide_eq_true hc.2]
  have hl:(rdL (celS st) c []).length<1000000000:=y2k (P:=fun l=>l.length<1000000000) hS.cl (by decide)
  rw[X2 (by rfl)]
  by_cases hi:id<((chkS st).length:Int)
  ·rw[decide_eq_true hi,cond_true,yo1 (l:=rdL (celS st) c []) (by omega)]
   simp only[ab]
   rw[gd_t (V8 h0 hi)]
   rfl
  ·rw[decide_eq_false hi];rfl
 ·rw[if_neg hc,Y3 (by decide)]
  by_cases h1:0<=c
  ·rw[decide_eq_true h1,decide_eq_false (show ¬c<((celS st).length:Int) by omega)];rfl
  ·rw[decide_eq_false h1];rfl
def z1p(st:Z4):List Int->Nat->Int->List Int->X5
 | [],_,g,b=>([],(b,g))
 | id::t,0,g,b=>(id::t,(b,g))
 | id::t,k+1,g,b=>match z6d st id with
  | none=>z1p st t k g b
  | some c=>if y6g st id c=true then z1p st t k (aa .i64 (g+1)) b else z1p st t k g (b++[id])
section
variable {st:Z4} (hS:StL st)
abbrev wkT(st:Z4)(rem:Int)(w:X5):(Unit×((Unit×Unit)×(Int×(Unit×(((List Int)×(Unit×(Int×(Int×((List (List Int))×((List X0)×((List Bool)×((List Int)×(Int×(Int×(Int×(Int×((List Int)×((List Int)×(List Int)))))))))))))))×((List Int)×(Unit×Unit))))))):=
 ((),(((),()),(rem,((),((w.1,((),(w.2.2,(st.1.1,(st.1.2.1,(st.1.2.2,(st.2.1.1,(st.2.1.2.1,(st.2.1.2.2,(st.2.2.1,(st.2.2.2.1,(st.2.2.2.2.1,(mapS st,(chkS st,st.2.2.2.2.2.2.2)))))))))))))),(w.2.1,((),())))))))
include hS in
theorem y27:∀(todo:List Int) (k n:Nat) (g:Int) (b:List Int),todo.length<n->k<9000000000000000000->b.length+todo.length<100000000->
  ∃rem,J0 NN n todo g st.1.1 st.1.2.1 st.1.2.2 st.2.1.1 st.2.1.2.1 st.2.1.2.2 st.2.2.1 st.2.2.2.1 st.2.2.2.2.1 (mapS st) (chkS st) st.2.2.2.2.2.2.2 b (k:Int)=some (.inl (wkT st rem (z1p st todo k g b)))\/
   J0 NN n todo g st.1.1 st.1.2.1 st.1.2.2 st.2.1.1 st.2.1.2.1 st.2.1.2.2 st.2.2.1 st.2.2.2.1 st.2.2.2.2.1 (mapS st) (chkS st) st.2.2.2.2.2.2.2 b (k:Int)=some (.inr (wkT st rem (z1p st todo k g b)))
 | _,_,0,_,_,h,_,_=>absurd h (ag _)
 | [],k,n+1,g,b,_,_,_=>by
  refine⟨(k:Int), .inr ?_⟩
  rw[z5b]
  simp only[K4]
  rw[Y3 (by rfl)]
  rw[z1p]
 | id::t,k,n+1,g,b,hn,hk,hb=>by
  simp only[af]at hn hb
  obtain⟨c,h1,h2⟩:=ybm st id
  have h1':zd2 NN ((st.1.1,(st.1.2.1,st.1.2.2)),((st.2.1.1,(st.2.1.2.1,st.2.1.2.2)),(st.2.2.1,(st.2.2.2.1,(st.2.2.2.2.1,(mapS st,(chkS st,st.2.2.2.2.2.2.2))))))) id=some (c,(z6d st id).isSome):=h1
  have hrd:rdL (id::t) (0:Int) (0:Int)=id:=rfl
  have hcut:cut2 (id::t) (1:Int) ((id::t).length:Int)=t:=by simp[cut2]
  have hpos:decide ((0:Int)<((id::t).length:Int))=true:=by simp<;>omega
  have hg1:∀{R:Type} (x:Option R),gd (decide (0<=(1:Int))&&(decide ((1:Int)<=((id::t).length:Int))&&decide (((id::t).length:Int)<=((id::t).length:Int)))) x=x:=fun x=>gd_t (by simp;omega) x
  rw[z5b]
  simp only[K4,hrd,h1',ab,z82]
  rw[X2 hpos,gd_t (V8 (by omega) (by simp<;>omega))]
  match k,hk with
  | 0,hk=>
   refine⟨((0:Nat):Int), .inl ?_⟩
   have hw:z1p st (id::t) 0 g b=(id::t,(b,g)):=by rw[z1p]
   rw[hw]
   cases (z6d st id).isSome
   ·rfl
   ·rfl
  | k+1,hk=>
   have hz:eqi ((k+1:Nat):Int) 0=false:=G6 (by omega)
   have hw1:aa .i64 (((k+1:Nat):Int)-1)=(k:Int):=by rw[w64 (by omega) (by omega)];omega
   simp only[hz,cond_false,hw1]
   cases hc:z6d st id with
   | none=>
    have hw:z1p st (id::t) (k+1) g b=z1p st t k g b:=by rw[z1p,hc]
    rw[hw]
    simp only[Option.isSome_none,aO,cond_true]
    rw[X2 (by decide)]
    simp only[ab,hcut,hg1]
    exact y27 t k n g b (by omega) (by omega) (by omega)
   | some x=>
    have hx:=h2 x hc
    subst hx
    have hcs:0<=id/\id<((mapS st).length:Int)/\0<=rdL (mapS st) id 0:=by
     unfold z6d at hc
     split at hc
     ·assumption
     ·cases hc
    have hc0:c=rdL (mapS st) id 0:=by
     unfold z6d at hc
     rw[if_pos hcs]at hc
     exact(Option.some.inj hc).symm
    have hgd:=yod hS (id::t) b g st.2.1.1 st.2.1.2.1 st.2.1.2.2 st.2.2.1 st.2.2.2.1 st.2.2.2.2.1 st.2.2.2.2.2.2.2 hcs.1 c
    simp only[Option.isSome_some,aN,cond_false]
    rw[Y3 (decide_eq_false (by omega)),hgd]
    simp only[ab]
    cases hgo:y6g st id c
    ·have hw:z1p st (id::t) (k+1) g b=z1p st t k g (b++[id]):=by rw[z1p,hc];simp only[hgo];rfl
     rw[hw,cond_false,gd_t (Y4 (by omega) (by omega))]
     simp only[ab,hcut,hg1]
     exact y27 t k n g (b++[id]) (by omega) (by omega) (by rw[ae,aF];omega)
    ·have hw:z1p st (id::t) (k+1) g b=z1p st t k (aa .i64 (g+1)) b:=by rw[z1p,hc];simp only[hgo];rfl
     rw[hw,cond_true]
     simp only[ab,hcut,hg1]
     exact y27 t k n _ b (by omega) (by omega) (by omega)
include hS in
theorem yll{s:X5}(hl:s.2.1.length+s.1.length<100000000){n:Nat}(hn:n<9000000000000000000):z34 NN s st (n:Int)=some (z1p st s.1 n s.2.2 s.2.1,0):=by
 obtain⟨rem,h⟩:=y27 hS s.1 n NN s.2.2 s.2.1 (by have:=V0;omega) hn hl
 simp only[z34,zlq,zb3,z6f,zjt,z5v]
 rw[Y3 (decide_eq_false (by omega)),gd_t (Y4 (by omega) (by omega))]
 simp only[ab]
 rcases h with h | h
 ·rw[h];rfl
 ·rw[h];rfl
end
theorem y6q{st:Z4}{f:Z5}:∀(post pre:List W7) (n:Nat) (out:List Int),post.length<n->(pre++post).length<1000000->out.length+post.length<1000000->
  z8b NN n (pre++post) ((pre++post).length:Int) (pre.length:Int) st f out=some (((),((),((),()))),(st,(f,((),(out++post.map epR,())))))
 | _,_,0,_,h,_,_=>absurd h (ag _)
 | [],pre,n+1,out,_,_,_=>by
  rw[zez]
  simp only[z20,ai,aA,decide_false,cond_false,bK]
 | e::post,pre,n+1,out,hn,hl,ho=>by
  simp only[af]at hn ho
  have hb:pre.length<9223372036854775807:=by simp at hl;omega
  have ih:=y6q (st:=st) (f:=f) post (pre++[e]) n (out++[epR e]) (by omega) (by simpa using hl) (by rw[ae,aF];omega)
  rw[zez]
  simp only[z20,Q1,cond_true,U4,V1 (q:=e) hb]
  rw[gd_t V6,gd_t (Y4 (by simp only[af,aq];omega) (by omega)),U1 (pre:=pre) (q:=e) (post:=post),ax]
  have e1:out++epR e::post.map epR=(out++[epR e])++post.map epR:=by simp
  rw[e1]
  exact ih
theorem zxy{st:Z4}(b3:Int)(b5:List Int):∀(post pre:List Int) (n:Nat) (out:List Int),post.length<n->(pre++post).length<1000000->out.length+post.length<1000000->
  z8a NN n ((pre++post).length:Int) (pre.length:Int) st b3 out b5 (pre++post)=some (((),()),((),(((),((),b3)),(out++post.filter fun id=>(z6d st id).isSome,(b5,())))))
 | _,_,0,_,h,_,_=>absurd h (ag _)
 | [],pre,n+1,out,_,_,_=>by
  rw[zey]
  simp only[z1z,ai,aA,decide_false,cond_false,e8]
 | e::post,pre,n+1,out,hn,hl,ho=>by
  simp only[af]at hn ho
  have hb:pre.length<9223372036854775807:=by simp at hl;omega
  obtain⟨c,c1,_⟩:=ybm st e
  rw[zey]
  simp only[z1z,Q1,cond_true,U4,V1 (q:=e) hb,c1,ab]
  rw[gd_t V6,U1 (pre:=pre) (q:=e) (post:=post)]
  cases hc:(z6d st e).isSome
  ·rw[cond_false,zxy b3 b5 post (pre++[e]) n out (by omega) (by simpa using hl) (by omega),bM (by simp[hc])]
  ·rw[cond_true,gd_t (Y4 (by omega) (by omega)),zxy b3 b5 post (pre++[e]) n (out++[e]) (by omega) (by simpa using hl) (by rw[ae,aF];omega),bT (by simp[hc])]
   simp
def zp8(st:Z4)(R:List Int):List Int:=R.filter fun id=>(z6d st id).isSome
abbrev y9l(f:Z5):List Int:=f.2.2.2.2.1::f.2.2.1.map epR
theorem IsReach.short{p:List Sl}{R out:List Int}(h:IsReach p R out):out.length<=p.length:=by
 have:=zft (l:=out) (L:=(List.range p.length).map fun n:Nat=>(n:Int)) (h.1.imp fun hlt e=>by omega) (fun x hx=>by
  have hu:=((h.2 x).1 hx).used
  have h0:=k9 hu
  have h1:=z9b hu
  exact List.mem_map.2 ⟨x.toNat,List.mem_range.2 (by omega),by omega⟩)
 simpa using this
theorem y7x(st:Z4){f:Z5}(hl:f.1.length<=4096)(hk:∀s∈f.1,(y8 s).length<=40000)(he:f.2.2.1.length<=16):∃R,IsReach f.1 (y9l f) R/\zbl NN st f=some (zp8 st R,([],0)):=by
 obtain⟨R,r1,r2⟩:=y64 (N:=NN) (by have:=V0;omega) (p:=f.1) (R:=y9l f) (by omega) (fun s hs=>by have:=hk s hs;omega) (by simp;omega)
 have hs:=r2.short
 have h0:=y6q (st:=st) (f:=f) f.2.2.1 [] NN [f.2.2.2.2.1] (by have:=V0;omega) (by simp;omega) (by simp;omega)
 have h1:=zxy (st:=st) 0 [] R [] NN [] (by have:=V0;omega) (by simp;omega) (by simp;omega)
 have hz:(([]:List W7).length:Int)=0:=rfl
 have hz2:(([]:List Int).length:Int)=0:=rfl
 rw[hz,aj]at h0
 rw[hz2,aj]at h1
 refine⟨R,r2, ?_⟩
 have r1':zbi NN f.1 ([f.2.2.2.2.1]++f.2.2.1.map epR)=some R:=r1
 simp only[zbl,h0,ab,r1',h1]
 rfl
theorem zxv(st:Z4):∀(t:List Int) (g:Int) (b:List Int),z1p st t 0 g b=(t,(b,g))
 | [],_,_=>by rw[z1p]
 | _::_,_,_=>by rw[z1p]
theorem yb5(st:Z4)(k:Nat)(g:Int)(b:List Int):z1p st [] k g b=([],(b,g)):=by rw[z1p]
theorem zvl(st:Z4):∀(t:List Int) (k:Nat) (g:Int) (b:List Int),(z1p st t k g b).1.length<=t.length/\(z1p st t k g b).2.1.length+(z1p st t k g b).1.length<=b.length+t.length
 | [],k,g,b=>by rw[yb5];exact⟨al _,al _⟩
 | id::t,0,g,b=>by rw[zxv];exact⟨al _,al _⟩
 | id::t,k+1,g,b=>by
  rw[z1p]
  have h1:=zvl st t k g b
  have h2:=zvl st t k (aa .i64 (g+1)) b
  have h3:=zvl st t k g (b++[id])
  simp only[af,ae,aq]at h3|-
  split
  ·omega
  ·split<;>omega
theorem ym2(N:Nat):∀(post pre:List Int) (m:Nat),post.length<m->(pre++post).length<1000000000->zak N m (pre++post) (pre++post) (pre.length:Int)=some (.inr ((),()))
 | [],_,0,h,_=>absurd h (ag _)
 | _::_,_,0,h,_=>absurd h (ag _)
 | [],pre,m+1,_,_=>by
  rw[zh2]
  simp only[z3w,ai,aA,decide_false,cond_false]
 | b::post,pre,m+1,hm,hl=>by
  simp only[af]at hm
  have ih:=ym2 N post (pre++[b]) m (by omega) (by simpa using hl)
  rw[zh2]
  simp only[z3w,Q1,V6,U4,cond_true,K9,aN,cond_false]
  rw[gd_t rfl,gd_t rfl,V1 (q:=b) (by simp at hl;omega),U1]
  exact ih
theorem y83{l:List Int}(hl:l.length<1000000000):zdm NN l l=some true:=by
 have h:=ym2 NN l [] NN (by have:=V0;omega) (by simpa using hl)
 rw[show(([]:List Int).length:Int)=0 from rfl,aj]at h
 simp only[zdm,h,K9,aN,cond_false]
theorem zyq{s:X5}(h:s.2.1.length+s.1.length<100000000):z76 NN s s=some true:=by
 simp only[z76,y83 (show s.1.length<1000000000 by omega),y83 (show s.2.1.length<1000000000 by omega),ab,cond_true,K9]
theorem StOk.stl{f:Z5}{st:Z4}(h:StOk f st)(hf:f.1.length<=4096):StL st:=
 ⟨h.qu,by have:=h.nc;show st.1.2.1.length<_;omega,fun c hc=>by have:=h.cl c hc;have:=h.sz.2;omega,by have:=h.ml;show st.2.2.2.2.2.1.length<_;omega,by have:=h.kl;show st.2.2.2.2.2.2.1.length<_;omega⟩
theorem zvp(st:Z4)(id:Int):z9d NN st id=some (match z6d st id with | some c=>c | none=> -1):=by
 simp only[z9d]
 by_cases h0:id<0
 ·rw[X2 (decide_eq_true h0)]
  have:z6d st id=none:=if_neg (by omega)
  rw[this]
 ·rw[Y3 (decide_eq_false h0)]
  by_cases h1:((mapS st).length:Int)<=id
  ·rw[X2 (decide_eq_true h1)]
   have:z6d st id=none:=if_neg (by omega)
   rw[this]
  ·have hin:inB id (mapS st).length=true:=V8 (by omega) (by omega)
   rw[Y3 (decide_eq_false h1),gd_t hin]
   by_cases h2:rdL (mapS st) id 0<0
   ·rw[X2 (decide_eq_true h2)]
    have:z6d st id=none:=if_neg (by omega)
    rw[this]
   ·rw[Y3 (decide_eq_false h2),gd_t hin]
    have:z6d st id=some (rdL (mapS st) id 0):=if_pos ⟨by omega,by omega,by omega⟩
    rw[this]
theorem y4v{st:Z4}{id c:Int}(h:z6d st id=some c):0<=c/\0<=id/\id<((mapS st).length:Int)/\c=rdL (mapS st) id 0:=by
 unfold z6d at h
 split at h
 ·rename_i hc
  cases h
  exact⟨hc.2.2,hc.1,hc.2.1,rfl⟩
 ·cases h
theorem yg3{d:V7}(hq:d.2.2=[])(c:Int):zhm NN d c=some (if 0<=c/\c<(d.2.1.length:Int)then(rdL d.2.1 c [],0)else([],230)):=by
 obtain⟨n,hn⟩:∃n,NN=n+1:=⟨NN-1,by have:=V0;omega⟩
 have hl:∀b:List Int,z6z NN NN c b 0 d=some (b,()):=fun b=>by
  rw[show z6z NN NN=z6z NN (n+1)from congrArg _ hn,zub]
  simp only[z84,hq]
  rw[Y3 (by rfl)]
 simp only[zhm,y9b,hl,ab]
 by_cases h:0<=c/\c<(d.2.1.length:Int)
 ·rw[decide_eq_true h.1,decide_eq_true h.2,Y3 (by rfl),gd_t (V8 h.1 h.2),if_pos h]
 ·have:(decide (0<=c)&&decide (c<(d.2.1.length:Int)))=false:=by
   by_cases h0:0<=c
   ·rw[decide_eq_true h0,decide_eq_false (fun h1=>h ⟨h0,h1⟩)];rfl
   ·rw[decide_eq_false h0];rfl
  rw[this,X2 (by rfl),if_neg h]
def xorB(a b:Int):Int:=aa .u8 (((BitVec.ofInt (bi .u8) a^^^BitVec.ofInt (bi .u8) b).toNat:Int))
def rotS(st:Z4)(c i by':Int):Z4:=((st.1.1,(setL (celS st) c (setL (rdL (celS st) c []) i (xorB (rdL (rdL (celS st) c []) i 0) by')),st.1.2.2)),st.2)
theorem yns{st:Z4}(hS:StL st){c i by':Int}(hc:0<=c/\c<((celS st).length:Int))(hi:0<=i/\i<((rdL (celS st) c []).length:Int)):zpf NN st.1 (c,(i,by'))=some ((rotS st c i by').1,0):=by
 have hin:inB c (celS st).length=true:=V8 hc.1 hc.2
 have hii:inB i (rdL (celS st) c []).length=true:=V8 hi.1 hi.2
 have hcl:(rdL (celS st) c []).length<1000000000:=y2k (P:=fun l=>l.length<1000000000) hS.cl (by decide)
 have hcp:z1k NN st.1=some st.1:=zys hS.nc (by rw[hS.qu];decide)
 simp only[zpf,y9b,hcp,ab,aj]
 rw[decide_eq_true hc.1,decide_eq_true hc.2,Y3 (by rfl),Y3 (decide_eq_false (by omega)),gd_t hin,Y3 (decide_eq_false (show ¬(((rdL (celS st) c []).length:Int)<=i) by omega)),gd_t hin,gd_t (zpq (n:=0+(rdL (celS st) c []).length) (by omega)),gd_t hin,gd_t hin,gd_t (Nat.beq_refl _),gd_t hii,gd_t hii]
 rfl
theorem yka{st:Z4}(hS:StL st)(c i by':Int):StL (rotS st c i by'):=by
 refine⟨hS.qu,by show(setL _ _ _).length<_;rw[z0r];exact hS.nc,fun x hx=> ?_,hS.ml,hS.kl⟩
 rcases mem_setL2 (show x∈setL _ _ _ from hx)with h | rfl
 ·exact hS.cl x h
 ·rw[z0r]
  exact y2k (P:=fun l=>l.length<1000000000) hS.cl (by decide)
theorem Rotten_ok{st:Z4}(hS:StL st){T:List Int}(hT:T.length<100000){x:U9}(h1:0<=x.1/\x.1<256)(h2:0<=x.2.1/\x.2.1<65536):z5c NN st T x=some (st,-1)\/
  ∃id c i:Int,id∈T/\z6d st id=some c/\c<((celS st).length:Int)/\i=aJ x.2.1 ((rdL (celS st) c []).length:Int)/\0<=i/\i<((rdL (celS st) c []).length:Int)/\
   z5c NN st T x=some (rotS st c i (bif decide (x.2.2<1)then 1 else x.2.2),id):=by
 have w1:aa .i64 x.1=x.1:=w64 (by omega) (by omega)
 have w2:aa .i64 x.2.1=x.2.1:=w64 (by omega) (by omega)
 by_cases h0:T.length=0
 ·left
  simp only[z5c]
  rw[X2 (by rw[h0];rfl)]
 have hz:eqi (T.length:Int) 0=false:=G6 (by omega)
 have hk:0<=aJ x.1 (T.length:Int)/\aJ x.1 (T.length:Int)<(T.length:Int):=by
  rw[be h1.1]
  exact⟨dF _ (by omega),de _ (by omega)⟩
 have hmem:rdL T (aJ x.1 (T.length:Int)) 0∈T:=z6m hk.1 hk.2
 simp only[z5c,w1,w2,zvp,yg3 hS.qu,ab]
 rw[Y3 hz,gd_t (by rw[hz];rfl),gd_t (V8 hk.1 hk.2)]
 generalize rdL T (aJ x.1 (T.length:Int)) 0=id at hmem
 cases hc:z6d st id with
 | none=>
  simp only[]
  rw[if_neg (by omega),X2 (by rfl)]
  exact .inl rfl
 | some c=>
  simp only[]
  by_cases hcn:0<=c/\c<(st.1.2.1.length:Int)
  ·rw[if_pos hcn]
   simp only[]
   by_cases hb:(rdL (celS st) c []).length=0
   ·rw[X2 (by rw[hb];rfl)]
    exact .inl rfl
   ·have hbz:eqi ((rdL (celS st) c []).length:Int) 0=false:=G6 (by omega)
    have hi:0<=aJ x.2.1 ((rdL (celS st) c []).length:Int)/\aJ x.2.1 ((rdL (celS st) c []).length:Int)<((rdL (celS st) c []).length:Int):=by
     rw[be h2.1]
     exact⟨dF _ (by omega),de _ (by omega)⟩
    rw[Y3 hbz,gd_t (by rw[hbz];rfl),yns hS hcn hi]
    simp only[ab]
    rw[Y3 (by rfl)]
    exact .inr ⟨id,c,_,hmem,hc,hcn.2,rfl,hi.1,hi.2,rfl⟩
  ·rw[if_neg hcn]
   simp only[]
   rw[X2 (by rfl)]
   exact .inl rfl
theorem yj0{st:Z4}(hS:StL st){T:List Int}(hT:T.length<100000){x:U9}(h1:0<=x.1/\x.1<256)(h2:0<=x.2.1/\x.2.1<65536):∃st' r,z5c NN st T x=some (st',r)/\StL st'/\st'.2=st.2:=by
 rcases Rotten_ok hS hT h1 h2 with h | ⟨id,c,i,_,_,_,_,_,_,h⟩
 ·exact⟨st,-1,h,hS,rfl⟩
 ·exact⟨_,id,h,yka hS _ _ _,rfl⟩
theorem y6t{f:Z5}:∀(post pre:List W7) (n:Nat) (out:List Int),f.2.2.1=pre++post->post.length<n->(pre++post).length<1000000->out.length+post.length<1000000->
  z8f NN n (pre.length:Int) f out=some ((),(out++post.map epR,()))
 | _,_,0,_,_,h,_,_=>absurd h (ag _)
 | [],pre,n+1,out,hk,_,_,_=>by
  rw[zf4]
  simp only[z27,hk,ai,aA,decide_false,cond_false,bK]
 | e::post,pre,n+1,out,hk,hn,hl,ho=>by
  simp only[af]at hn ho
  have hb:pre.length<9223372036854775807:=by simp at hl;omega
  have ih:=y6t (f:=f) post (pre++[e]) n (out++[epR e]) (by rw[hk];simp) (by omega) (by simpa using hl) (by rw[ae,aF];omega)
  rw[zf4]
  simp only[z27,hk,Q1,cond_true,U4,V1 (q:=e) hb]
  rw[gd_t V6,gd_t (Y4 (by simp only[af,aq];omega) (by omega)),ax]
  have e1:out++epR e::post.map epR=(out++[epR e])++post.map epR:=by simp
  rw[e1]
  exact ih
theorem zy3{st:Z4}(b3:Int)(b5:List Int):∀(post pre:List Int) (n:Nat) (out:List Int),post.length<n->(pre++post).length<1000000->out.length+post.length<1000000->
  z8d NN n (pre.length:Int) st b3 out b5 (pre++post)=some (((),()),((),(((),((),b3)),(out++post.filter fun id=>(z6d st id).isSome,(b5,())))))
 | _,_,0,_,h,_,_=>absurd h (ag _)
 | [],pre,n+1,out,_,_,_=>by
  rw[zf0]
  simp only[z21,ai,aA,decide_false,cond_false,e8]
 | e::post,pre,n+1,out,hn,hl,ho=>by
  simp only[af]at hn ho
  have hb:pre.length<9223372036854775807:=by simp at hl;omega
  rw[zf0]
  simp only[z21,Q1,cond_true,U4,V1 (q:=e) hb,zvp,ab]
  rw[gd_t V6,U1 (pre:=pre) (q:=e) (post:=post)]
  cases hc:z6d st e with
  | none=>
   simp only[]
   rw[Y3 (by rfl),zy3 b3 b5 post (pre++[e]) n out (by omega) (by simpa using hl) (by omega),bM (by simp[hc])]
  | some c=>
   simp only[]
   rw[X2 (decide_eq_true (y4v hc).1),gd_t (by rw[<-U1 (pre:=pre) (q:=e) (post:=post)];exact V6),gd_t (Y4 (by omega) (by omega)),zy3 b3 b5 post (pre++[e]) n (out++[e]) (by omega) (by simpa using hl) (by rw[ae,aF];omega),bT (by simp[hc])]
   simp
theorem y7z(st:Z4){f:Z5}(hl:f.1.length<=4096)(hk:∀s∈f.1,(y8 s).length<=40000)(he:f.2.2.1.length<=16){R:List Int}(hR:IsReach f.1 (y9l f) R):zec NN st f=some (zp8 st R,([],0)):=by
 have hak:(X9 f.1).length<=f.1.length*40000:=y97 kidsU 40000 f.1 fun s hs=>by
  unfold kidsU
  split
  ·exact hk s hs
  ·simp
 obtain⟨R',r1,r2⟩:=y8g (N:=NN) (by have:=V0;omega) (p:=f.1) (R:=y9l f) (by omega) (by omega) (by simp;omega)
 have hs:=hR.short
 have hRR:R'=R:=r2.unique hR
 subst hRR
 have h0:=y6t (f:=f) f.2.2.1 [] NN [f.2.2.2.2.1] rfl (by have:=V0;omega) (by simp;omega) (by simp;omega)
 have h1:=zy3 (st:=st) 0 [] R' [] NN [] (by have:=V0;omega) (by simp;omega) (by simp;omega)
 have hz:(([]:List W7).length:Int)=0:=rfl
 have hz2:(([]:List Int).length:Int)=0:=rfl
 rw[hz]at h0
 rw[hz2,aj]at h1
 have r1':zef NN f.1 ([f.2.2.2.2.1]++f.2.2.1.map epR)=some R':=r1
 simp only[zec,zob,h0,ab,r1',h1]
 rfl
theorem yk5{s:X5}{st:Z4}{n:Int}(h:n<0):z34 NN s st n=some (s,280):=by
 simp only[z34,zlq]
 rw[X2 (decide_eq_true h)]
 rfl
theorem FS.kids{k leaf fan bl:Nat}{f:Z5}(h:FS k leaf fan bl f):f.1.length<=4096/\(∀s∈f.1,(y8 s).length<=40000)/\f.2.2.1.length<=16:=⟨h.pi.len,h.pi.kb,h.ne⟩
theorem yet{st st':Z4}(h:st'.2=st.2)(id:Int):z6d st' id=z6d st id:=by
 unfold z6d mapS
 rw[h]
theorem yds{st st':Z4}(h:st'.2=st.2)(R:List Int):zp8 st' R=zp8 st R:=by
 unfold zp8
 congr 1
 funext id
 rw[yet h]
theorem yhe{n:Int}(h:(Lit.int .u16 n).wf=true):0<=n/\n<65536:=by
 simp[Lit.wf,IntKind.min,IntKind.max,IntKind.signed,bi]at h
 omega
theorem ynt{m:Z4}{rots:List U9}(hr:okT (.list T_ref28_Rot) rots){j:Nat}(hj:j<rots.length):(0<=(rdL rots (j:Int) z0q).1/\(rdL rots (j:Int) z0q).1<256)/\(0<=(rdL rots (j:Int) z0q).2.1/\(rdL rots (j:Int) z0q).2.1<65536)/\(0<=(rdL rots (j:Int) z0q).2.2/\(rdL rots (j:Int) z0q).2.2<256):=by
 obtain⟨_,h2⟩:=hr
 have h3:getq (α:=U9) rots j=some (rdL rots (j:Int) z0q):=by simp[getq,rdL,hj]
 have h4:(Lit.int .u8 (rdL rots (j:Int) z0q).1).wf=true/\(Lit.int .u16 (rdL rots (j:Int) z0q).2.1).wf=true/\(Lit.int .u8 (rdL rots (j:Int) z0q).2.2).wf=true:=h2 j _ h3
 exact⟨z6l h4.1,yhe h4.2.1,z6l h4.2.2⟩
theorem ykc{st:Z4}(hS:StL st){id c:Int}(hc:z6d st id=some c):zlx NN st id=some (y6g st id c):=by
 obtain⟨c0,i0,i1,_⟩:=y4v hc
 have hcl:(rdL (celS st) c []).length<1000000000:=y2k (P:=fun l=>l.length<1000000000) hS.cl (by decide)
 simp only[zlx,zvp,hc,yg3 hS.qu,ab,y6g]
 by_cases h:0<=c/\c<(st.1.2.1.length:Int)
 ·rw[if_pos h,decide_eq_true h.1,decide_eq_true h.2,X2 (by rfl)]
  by_cases hi:id<((chkS st).length:Int)
  ·rw[decide_eq_true hi,cond_true,ynv (l:=rdL (celS st) c []) (by omega)]
   simp only[ab]
   rw[gd_t (V8 i0 hi)]
   rfl
  ·rw[decide_eq_false hi];rfl
 ·rw[if_neg h,Y3 (by decide),decide_eq_true c0,decide_eq_false (show ¬c<(st.1.2.1.length:Int) by omega)];rfl
theorem ybr{st:Z4}(hS:StL st){s:X5}(n:Nat)(hn:n<1000000000000000)(b7:List Int):∀(post pre:List Int) (m:Nat) (out:List Int) (g:Int) (b:List Int),s.1=pre++post->post.length<m->(pre++post).length<1000000->out.length+post.length<1000000->b.length+post.length<1000000->
  za8 NN m (n:Int) (pre.length:Int) s st b g out b7=some (((),((),())),((),((z1p st post (n-pre.length) g b).2.1,(((),((),(z1p st post (n-pre.length) g b).2.2)),(out++(z1p st post (n-pre.length) g b).1,(b7,()))))))
 | _,_,0,_,_,_,_,h,_,_,_=>absurd h (ag _)
 | [],pre,m+1,out,g,b,hk,_,_,_,_=>by
  rw[zgq]
  simp only[z3k,hk,ai,aA,decide_false,cond_false,yb5]
 | e::post,pre,m+1,out,g,b,hk,hm,hl,ho,hb=>by
  simp only[af]at hm ho hb
  have hpb:pre.length<9223372036854775807:=by simp at hl;omega
  have hlen:s.1.length=pre.length+(post.length+1):=by rw[hk];simp
  have hin:inB (pre.length:Int) s.1.length=true:=V8 (by omega) (by omega)
  have hrd:rdL s.1 (pre.length:Int) 0=e:=by rw[hk];exact U4
  have hk':s.1=(pre++[e])++post:=by rw[hk];simp
  have hpl:(pre++[e]).length=pre.length+1:=by simp
  have ih:=fun out g b (h1:out.length+post.length<1000000) (h2:b.length+post.length<1000000)=>ybr hS n hn b7 post (pre++[e]) m out g b hk' (by omega) (by simpa using hl) h1 h2
  rw[zgq]
  simp only[z3k,hrd,V1 (q:=e) hpb]
  rw[X2 (decide_eq_true (by omega)),gd_t hin]
  by_cases hnp:n<=pre.length
  ·have z1:n-pre.length=0:=by omega
   have z2:n-(pre++[e]).length=0:=by rw[hpl];omega
   rw[X2 (decide_eq_true (by omega)),gd_t (Y4 (by omega) (by omega)),ih _ g b (by rw[ae,aF];omega) (by omega),z1,z2,zxv,zxv]
   simp
  ·obtain⟨k,hkk⟩:∃k,n-pre.length=k+1:=⟨n-pre.length-1,by omega⟩
   have z2:n-(pre++[e]).length=k:=by rw[hpl];omega
   rw[Y3 (decide_eq_false (by omega)),zvp,hkk]
   simp only[ab]
   cases hc:z6d st e with
   | none=>
    have hw:z1p st (e::post) (k+1) g b=z1p st post k g b:=by rw[z1p,hc]
    simp only[]
    rw[X2 (by decide),ih out g b (by omega) (by omega),z2,hw]
   | some c=>
    obtain⟨c0,_⟩:=y4v hc
    simp only[]
    rw[Y3 (decide_eq_false (by omega)),ykc hS hc]
    simp only[ab]
    cases hgo:y6g st e c
    ·have hw:z1p st (e::post) (k+1) g b=z1p st post k g (b++[e]):=by rw[z1p,hc];simp only[hgo];rfl
     rw[cond_false,gd_t (Y4 (by omega) (by omega)),ih out g (b++[e]) (by omega) (by rw[ae,aF];omega),z2,hw]
    ·have hw:z1p st (e::post) (k+1) g b=z1p st post k (aa .i64 (g+1)) b:=by rw[z1p,hc];simp only[hgo];rfl
     rw[cond_true,ih out _ b (by omega) (by omega),z2,hw]
theorem ylm{st:Z4}(hS:StL st){s:X5}(hl:s.2.1.length+s.1.length<100000){n:Nat}(hn:n<1000000000000000):z5p NN s st (n:Int)=some (z1p st s.1 n s.2.2 s.2.1,0):=by
 have h:=ybr hS (s:=s) n hn [] s.1 [] NN [] s.2.2 s.2.1 rfl (by have:=V0;omega) (by simp;omega) (by simp;omega) (by omega)
 rw[show(([]:List Int).length:Int)=0 from rfl]at h
 simp only[z5p,aj]
 rw[Y3 (decide_eq_false (by omega)),gd_t (Y4 (by omega) (by omega)),h]
 rfl
theorem yho{s:X5}{st:Z4}{n:Int}(h:n<0):z5p NN s st n=some (s,280):=by
 simp only[z5p]
 rw[X2 (decide_eq_true h)]
theorem yh2{st:Z4}(hS:StL st){s:X5}(hl:s.2.1.length+s.1.length<100000){n:Int}(hn: -10<=n/\n<1000000000000000):∃w e,z34 NN s st n=some (w,e)/\z5p NN s st n=some (w,e)/\z76 NN w w=some true:=by
 by_cases h0:n<0
 ·exact⟨s,280,yk5 h0,yho h0,zyq (by omega)⟩
 ·obtain⟨k,rfl⟩:∃k:Nat,n=(k:Int):=⟨n.toNat,by omega⟩
  refine⟨_,0,yll hS (by omega) (by omega),ylm hS hl (by omega),zyq ?_⟩
  have:=(zvl st s.1 k s.2.2 s.2.1).2
  omega
theorem ycl{rots:List U9}(hr:okT (.list T_ref28_Rot) rots)(b1:Bool){raw s:X5}{m:z09}(hT:s.1.length<100000):∀(d j:Nat) (n:Nat) (st:Z4),j+d=3->d<n->StL st->
  ∃st',K8 NN n rots b1 (j:Int) raw m s st=some ((rots,((),(b1,((),((),()))))),(raw,(m,(s,(st',())))))/\StL st'/\st'.2=st.2
 | _,_,0,_,_,h,_=>absurd h (ag _)
 | 0,j,n+1,st,hj,_,hS=>by
  rw[z35]
  simp only[Q5]
  refine⟨st, ?_,hS,rfl⟩
  cases decide ((j:Int)<(rots.length:Int))
  ·rfl
  ·rw[cond_true,Y3 (decide_eq_false (by omega))]
 | d+1,j,n+1,st,hj,hd,hS=>by
  rw[z35]
  simp only[Q5,zc3 (show j<1000000000 by omega)]
  by_cases hl:j<rots.length
  ·rw[X2 (decide_eq_true (by omega)),X2 (decide_eq_true (by omega)),gd_t (V8 (by omega) (by omega))]
   obtain⟨x1,x2,_⟩:=ynt (m:=st) hr hl
   obtain⟨st1,e1,t1,t2,t3⟩:=yj0 hS (T:=s.1) (by omega) (x:=rdL rots (j:Int) z0q) x1 x2
   rw[t1]
   simp only[ab]
   obtain⟨st2,u1,u2,u3⟩:=ycl hr b1 (raw:=raw) (s:=s) (m:=m) hT d (j+1) n st1 (by omega) (by omega) t2
   exact⟨st2,u1,u2,u3.trans t3⟩
  ·rw[Y3 (decide_eq_false (by omega))]
   exact⟨st,rfl,hS,rfl⟩
theorem ykm{rots:List U9}(hl:rots.length<1000000000000000)(b1:Bool){st:Z4}(hS:StL st){s raw:X5}(h1:s.2.1.length+s.1.length<100000)(h2:raw.2.1.length+raw.1.length<100000):
  W0 NN NN rots b1 0 st (s,raw)=some (.inr (b1,())):=by
 obtain⟨k,hk⟩:∃k,NN=k+3:=⟨NN-3,by have:=V0;omega⟩
 have hw:aa .i64 ((rots.length:Int)-1)=(rots.length:Int)-1:=w64 (by omega) (by omega)
 obtain⟨w,e,a1,a2,a3⟩:=yh2 hS h1 (n:=(rots.length:Int)-1) (by omega)
 obtain⟨v,f,c1,c2,c3⟩:=yh2 hS h2 (n:=(rots.length:Int)-1) (by omega)
 have e01:eqi (0:Int) 1=false:=rfl
 have e00:eqi (0:Int) 0=true:=rfl
 have e11:eqi (1:Int) 1=true:=rfl
 have s0:∀n,W0 NN (n+1) rots b1 0 st (s,raw)=W0 NN n rots b1 1 st (s,raw):=fun n=>by
  rw[y7]
  simp only[Q4,hw,e01,e00,cond_false,cond_true,a1,a2,ab,W8,z00,a3,aN,K9,zbf,U6,U7]
  rw[X2 (by decide)]
  cases eqi (s.1.length:Int) 0<;>rfl
 have s1:∀n,W0 NN (n+1) rots b1 1 st (s,raw)=W0 NN n rots b1 2 st (s,raw):=fun n=>by
  rw[y7]
  simp only[Q4,hw,e11,cond_false,cond_true,c1,c2,ab,W8,g9,c3,aN,K9,zbf,U6,U7]
  rw[X2 (by decide)]
  cases eqi (raw.1.length:Int) 0<;>rfl
 rw[show W0 NN NN=W0 NN (k+3)from congrArg _ hk,s0,s1,y7]
 rfl
theorem zmw(hsan:zck NN=some true){x:zbt}{rots:List U9}{raw:X5}(hx:okT zbu x)(hr:okT (.list T_ref28_Rot) rots)(hraw:okT U2 raw):k8 NN x rots raw=some true:=by
 obtain⟨m,leaf,fan,bl,m1,m2,m3⟩:=yj4 hx
 simp only[k8,hsan,m1,ab]
 rcases m3 with m3 | ⟨m3,m4⟩
 ·rw[X2 (by rw[G6 m3];rfl)]
 ·rw[Y3 (by rw[m3];rfl)]
  by_cases g1:(20:Int)<(raw.1.length:Int)
  ·rw[X2 (decide_eq_true g1)]
  rw[Y3 (decide_eq_false g1)]
  by_cases g2:(20:Int)<(raw.2.1.length:Int)
  ·rw[X2 (decide_eq_true g2)]
  rw[Y3 (decide_eq_false g2)]
  have hrl:rots.length<1000000000000000:=by
   have h0:rots.length*T_ref28_Rot.bytes<=reachBytes:=hr.1
   have h1:T_ref28_Rot.bytes=4:=rfl
   have h2:reachBytes=140737488351232:=rfl
   rw[h1]at h0
   omega
  obtain⟨k1,k2,k3⟩:=m2.kids
  have hS:=m4.stl k1
  obtain⟨R,r1,r2⟩:=y7x m.1 k1 k2 k3
  have r3:=y7z m.1 k1 k2 k3 r1
  have hR:=r1.short
  have hT:(zp8 m.1 R).length<=4096:=aW (List.length_filter_le _ _) (by omega)
  obtain⟨st,u1,u2,u3⟩:=ycl hr true (raw:=raw) (s:=(zp8 m.1 R,([],0))) (m:=m) (show(zp8 m.1 R).length<100000 by omega) 3 0 NN m.1 rfl (by have:=V0;omega) hS
  rw[show((0:Nat):Int)=0 from rfl]at u1
  obtain⟨R',v1,v2⟩:=y7x st k1 k2 k3
  have v3:=y7z st k1 k2 k3 v1
  have hRR:R'=R:=v1.unique r1
  subst hRR
  rw[yds u3]at v2 v3
  have l2:=ykm hrl true u2 (s:=(zp8 m.1 R',([],0))) (raw:=raw) (by simp;omega) (by omega)
  have hsm:z76 NN (zp8 m.1 R',(([]:List Int),(0:Int))) (zp8 m.1 R',([],0))=some true:=zyq (s:=(zp8 m.1 R',([],0))) (by simp;omega)
  simp only[z0s,r3,u1,v2,v3,l2,hsm,ab,aN,cond_false]
end Ds
