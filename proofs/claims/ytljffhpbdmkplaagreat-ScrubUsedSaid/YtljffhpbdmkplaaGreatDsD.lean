/- What is reached in a pool: both packages give the same ids, in order. -/
import Derived.Test.YtljffhpbdmkplaaGreatDsC
import Derived.Test.YtljffhpbdmkplaaGreatDvD
import Derived.Test.YtljffhpbdmkplaaGreatDsA
set_option linter.all false
open Bool renaming not_false->aN,not_true->aG
open Int renaming lt_irrefl->bj,tmod->aB,toNat_natCast->cG
open Go.IntKind renaming bits->aM,wrap->aa
open List renaming append_eq_append_iff->dA,append_nil->aj,append_of_mem->dq,count_le_length->bA,foldl_cons->bh,getD_eq_getElem?_getD->bg,getElem?_replicate->dH,length_append->aq,length_cons->ag,mem_append->am,mem_cons->ar,mem_map->aH,mergeSort_perm->dl,nil_append->ah,nodup_nil->dz,pairwise_cons->aD,replicate->az
open Nat renaming le_refl->ai,le_trans->aP,lt_of_le_of_lt->bE,not_lt_zero->ae,zero_le->aZ
open Option renaming bind_some->ac,some->aL
namespace Ds
open Go Go.Dv
set_option maxRecDepth 100000
theorem yje(N:Nat)(p:List Sl)(i:Int):zx3 N p i=some (W5 p i):=by
 unfold zx3 W5 slA;by_cases h0:0<=i
 ·by_cases h1:i<(p.length:Int)
  ·simp_all[gd_t,V7]
  grind
 grind
inductive Rch (p:List Sl) (R:List Int):Int->Prop
 | root {k:Int}:k∈R->W5 p k=true->Rch p R k
 | kid {i k:Int}:Rch p R i->k∈z1m (slA p i)->W5 p k=true->Rch p R k
theorem Rch.used{p:List Sl}{R:List Int}{i:Int}(h:Rch p R i):W5 p i=true:=by cases h<;>assumption
theorem Rch.mono{p:List Sl}{R R':List Int}(hR:∀k∈R,k∈R'){i:Int}(h:Rch p R i):Rch p R' i:=by
 induction h with
 | root h u=>exact .root (hR _ h) u
 | kid _ h u ih=>exact .kid ih h u
theorem Rch.up{p:List Sl}{id:Int}(hu:W5 p id=true){i:Int}(h:Rch p (z1m (slA p id)) i):Rch p [id] i:=by
 induction h with
 | root h u=>exact .kid (.root (by simp) hu) h u
 | kid _ h u ih=>exact .kid ih h u
def IsReach(p:List Sl)(R:List Int)(out:List Int):Prop:=out.Pairwise (·<·)/\∀i,i∈out↔Rch p R i
structure DS where
 st:List Int
 fine:Bool
 out:List Int
def dfs(p:List Sl):Nat->Int->DS->DS
 | 0,_,s=>s
 | n+1,id,s=>
  if W5 p id=false\/rdL s.st id 0=2 then s
  else if rdL s.st id 0=1 then⟨s.st,false,s.out⟩
  else
   let s':=(z1m (slA p id)).foldl (fun s k=>dfs p n k s) ⟨setL s.st id 1,s.fine,s.out⟩
   ⟨setL s'.st id 2,s'.fine,s'.out++[id]⟩
abbrev DS.c(s:DS)(i:Int):Int:=rdL s.st i 0
def DS.white(s:DS):Nat:=s.st.count 0
def V3(s:DS):Prop:=∀i,s.c i=0\/s.c i=1\/s.c i=2
structure Post (p:List Sl) (R:List Int) (s s':DS):Prop where
 len:s'.st.length=s.st.length
 wh:s'.white<=s.white
 ol:s'.out.length+s'.white<=s.out.length+s.white
 v3:V3 s'
 one:∀i,0<=i->(s'.c i=1↔s.c i=1)
 two:∀i,0<=i->s.c i=2->s'.c i=2
 self:∀k∈R,W5 p k=true->s'.c k≠0
 new:∀i,0<=i->s.c i≠2->s'.c i=2->Rch p R i
 clo:∀i,0<=i->s.c i≠2->s'.c i=2->∀k∈z1m (slA p i),W5 p k=true->s'.c k≠0
 out:∃l,s'.out=s.out++l/\(∀i,i∈l↔0<=i/\i<(s.st.length:Int)/\s.c i=0/\s'.c i=2)/\l.Nodup/\
  (s'.fine=true->∀A i B,l=A++i::B->∀k∈z1m (slA p i),W5 p k=true->s.c k=2\/k∈A)
 fine1:s'.fine=true->s.fine=true
 fine2:s'.fine=true->∀k∈R,W5 p k=true->s'.c k=2
 fine4:s.fine=true->s'.fine=false->(∃x,s.c x=1/\Rch p R x)\/∃x,Rch p R x/\Rch p (z1m (slA p x)) x
theorem y7o{p:List Sl}{R:List Int}{s:DS}(hv:V3 s)(h:∀k∈R,W5 p k=true->s.c k=2):Post p R s s:=
 ⟨rfl,ai _,ai _,hv,fun _ _=>Iff.rfl,fun _ _ h=>h,fun k hk hu e=>(by grind),fun i _ a b=>absurd b a,fun i _ a b=>absurd b a,
  ⟨[],by simp,fun i=>(by grind),dz,fun _ A i B e=>(by simp_all)⟩,fun h=>h,fun _=>h,fun a b=>(by grind)⟩
theorem yu7{p:List Sl}{k:Int}{R:List Int}{s s1 s2:DS}(hv:V3 s)(h:Post p [k] s s1)(g:Post p R s1 s2):Post p (k::R) s s2:=by
 have keep:∀i,0<=i->s1.c i≠0->s2.c i≠0:=by
  intro i hi h0;rcases h.v3 i with e | e | e
  ·omega
  ·have:=(g.one i hi).2 e;omega
  ·have:=g.two i hi e;omega
 have m1:∀{i},Rch p [k] i->Rch p (k::R) i:=fun r=>r.mono (by simp);have m2:∀{i},Rch p R i->Rch p (k::R) i:=fun r=>r.mono (fun x hx=>by grind);refine⟨g.len.trans h.len,aP g.wh h.wh,aP g.ol h.ol,g.v3,fun i hi=>(g.one i hi).trans (h.one i hi),fun i hi e=>g.two i hi (h.two i hi e), ?_, ?_, ?_, ?_,fun e=>h.fine1 (g.fine1 e), ?_, ?_⟩
 ·intro j hj hu;rcases ar.1 hj with rfl | hj
  ·exact keep j (z3s hu) (h.self j (by simp) hu)
  ·exact g.self j hj hu
 ·intro i hi h0 h2;by_cases e:s1.c i=2
  ·exact m1 (h.new i hi h0 e)
  ·exact m2 (g.new i hi e h2)
 ·intro i hi h0 h2 j hj hu;by_cases e:s1.c i=2
  ·exact keep j (z3s hu) (h.clo i hi h0 e j hj hu)
  ·exact g.clo i hi e h2 j hj hu
 ·obtain⟨l1,a1,a2,a3,a4⟩:=h.out;obtain⟨l2,b1,b2,b3,b4⟩:=g.out;refine⟨l1++l2,by grind,fun i=> ?_, ?_,fun hf A i B e j hj hu=> ?_⟩
  ·rw[am,a2,b2,h.len];constructor
   ·rintro(⟨x1,x2,x3,x4⟩ | ⟨x1,x2,x3,x4⟩)
    ·exact⟨x1,x2,x3,g.two i x1 x4⟩
    ·refine⟨x1,x2, ?_,x4⟩;rcases hv i with e | e | e
     ·exact e
     ·have:=(h.one i x1).2 e;omega
     ·have:=h.two i x1 e;omega
   ·rintro⟨x1,x2,x3,x4⟩;rcases h.v3 i with e | e | e
    ·omega
    ·have:=(h.one i x1).1 e;omega
    omega
  ·grind
  ·have hf1:=g.fine1 hf;rcases dA.1 e with⟨zs,e1,e2⟩ | ⟨bs,e1,e2⟩
   ·rcases b4 hf zs i B e2 j hj hu with h1 | h1
    ·have hjn:=z3s hu;by_cases hc:s.c j=2
     ·omega
     ·refine .inr ?_;rw[e1,am];refine .inl ((a2 j).2 ⟨hjn, ?_, ?_,h1⟩)
      ·by_cases hlt:j<(s.st.length:Int)
       ·omega
       ·exfalso;have:s1.c j=0:=by
         have hl:=h.len;simp_all[rdL]
        omega
      ·rcases hv j with e | e | e
       ·exact e
       ·have:=(h.one j hjn).2 e;omega
       omega
    grind
   ·cases bs with
    | nil=>
     simp only[aj,ah]at e1 e2;rcases b4 hf [] i B e2.symm j hj hu with h1 | h1
     ·have hjn:=z3s hu;by_cases hc:s.c j=2
      ·omega
      ·refine .inr ?_;rw[<-e1];refine(a2 j).2 ⟨hjn, ?_, ?_,h1⟩
       ·by_cases hlt:j<(s.st.length:Int)
        ·omega
        ·exfalso;have:s1.c j=0:=by
          have hl:=h.len;simp_all[rdL]
         omega
       ·rcases hv j with e | e | e
        ·exact e
        ·have:=(h.one j hjn).2 e;omega
        omega
     grind
    | cons b bs=>
     grind
 ·intro hf j hj hu;rcases ar.1 hj with rfl | hj
  ·exact g.two j (z3s hu) (h.fine2 (g.fine1 hf) j (by simp) hu)
  ·exact g.fine2 hf j hj hu
 ·intro hs hf;cases e:s1.fine with
  | false=>
   rcases h.fine4 hs e with⟨x,x1,x2⟩ | ⟨x,x1,x2⟩
   all_goals grind
  | true=>
   rcases g.fine4 e hf with⟨x,x1,x2⟩ | ⟨x,x1,x2⟩
   ·exact .inl ⟨x,(h.one x (z3s x2.used)).1 x1,m2 x2⟩
   grind
theorem ztf{l:List Int}{i:Int}{y:Int}(h0:0<=i)(h1:i<(l.length:Int))(hy:y≠0):(setL l i y).count 0+(if rdL l i 0=0 then 1 else 0)=l.count 0:=by
 have h:i.toNat<l.length:=by omega
 have hr:rdL l i 0=l[i.toNat]:=by grind[rdL]
 split<;>simp_all[setL,List.count_set]
theorem yzv{s:DS}{id i:Int}{y:Int}{f:Bool}{o:List Int}(h0:0<=id)(h1:id<(s.st.length:Int))(hi:0<=i):(DS.mk (setL s.st id y) f o).c i=if i=id then y else s.c i:=by
 by_cases e:i=id
 ·subst e;rw[if_pos rfl];grind[zix]
 ·rw[if_neg e];grind[z4t]
theorem x5u{s:DS}{i:Int}(h:i<0):s.c i=s.c 0:=by simp only[DS.c,rdL];grind
theorem yvk{s:DS}(h:∀i,0<=i->s.c i=0\/s.c i=1\/s.c i=2):V3 s:=fun i=>by grind[x5u]
theorem yu6{p:List Sl}{id:Int}{s s2:DS}(hv:V3 s)(hl:s.st.length=p.length)(hu:W5 p id=true)(hc:s.c id=0)
  (g:Post p (z1m (slA p id)) ⟨setL s.st id 1,s.fine,s.out⟩ s2):Post p [id] s ⟨setL s2.st id 2,s2.fine,s2.out++[id]⟩:=by
 have h0:=z3s hu;have h1:id<(s.st.length:Int):=by simp_all[zn9]
 have hl2:s2.st.length=s.st.length:=by rw[g.len];simp
 have h2:id<(s2.st.length:Int):=by omega
 obtain⟨s1,hs1⟩:∃s1:DS,s1=⟨setL s.st id 1,s.fine,s.out⟩:=⟨_,rfl⟩;have c1:∀i,0<=i->s1.c i=if i=id then 1 else s.c i:=fun i hi=>by simp_all[yzv]
 rw[<-hs1]at g;have c3:∀i,0<=i->(DS.mk (setL s2.st id 2) s2.fine (s2.out++[id])).c i=if i=id then 2 else s2.c i:=fun i hi=>yzv h0 h2 hi;have w1:s1.white+1=s.white:=by have:=ztf (y:=1) h0 h1 (by decide);rw[if_pos hc]at this;rw[hs1];exact this
 have w3:(DS.mk (setL s2.st id 2) s2.fine (s2.out++[id])).white<=s2.white:=by have:=ztf (y:=2) h0 h2 (by decide);show(setL s2.st id 2).count 0<=s2.st.count 0;omega
 have c2id:s2.c id=1:=(g.one id h0).2 (by grind);have hlen1:s1.st.length=s.st.length:=by simp_all
 have hout1:s1.out=s.out:=by grind
 have hfine1:s1.fine=s.fine:=by grind
 have gwh:=g.wh;have gol:=g.ol;rw[hout1]at gol;have up:∀{i},Rch p (z1m (slA p id)) i->Rch p [id] i:=fun r=>r.up hu;have nz:∀i,0<=i->s2.c i≠0->(DS.mk (setL s2.st id 2) s2.fine (s2.out++[id])).c i≠0:=by grind
 refine⟨by simp_all,by omega, ?_, ?_, ?_, ?_, ?_, ?_, ?_, ?_, ?_, ?_, ?_⟩
 ·grind
 ·refine yvk fun i hi=> ?_;rw[c3 i hi];by_cases e:i=id
  ·omega
  ·rw[if_neg e];exact g.v3 i
 ·intro i hi;rw[c3 i hi];by_cases e:i=id
  ·grind
  ·rw[if_neg e,g.one i hi,c1 i hi,if_neg e]
 ·intro i hi h;rw[c3 i hi];by_cases e:i=id
  ·omega
  ·rw[if_neg e];exact g.two i hi (by grind)
 ·grind
 ·intro i hi ha hb;rw[c3 i hi]at hb;by_cases e:i=id
  ·constructor<;>grind
  ·rw[if_neg e]at hb;exact up (g.new i hi (by grind) hb)
 ·intro i hi ha hb k hk hku;apply nz k (z3s hku);rw[c3 i hi]at hb;by_cases e:i=id
  ·subst e;exact g.self k hk hku
  ·rw[if_neg e]at hb;exact g.clo i hi (by grind) hb k hk hku
 ·obtain⟨l,a1,a2,a3,a4⟩:=g.out;refine⟨l++[id],by grind,fun i=> ?_, ?_,fun hf A i B e k hk hku=> ?_⟩
  ·grind
  ·grind
  ·have hf:s2.fine=true:=hf;have hkn:=z3s hku;have conv:s1.c k=2->s.c k=2:=fun h=>by grind
   rcases dA.1 e with⟨zs,e1,e2⟩ | ⟨bs,e1,e2⟩
   ·have hcase:zs=[]/\i=id:=by
     cases zs with
     | nil=>grind
     | cons x xs=>simp_all
    obtain⟨rfl,rfl⟩:=hcase;rw[aj]at e1;subst e1;have h2k:=g.fine2 hf k hk hku;by_cases hc2:s1.c k=2
    ·omega
    ·refine .inr ((a2 k).2 ⟨hkn, ?_, ?_,h2k⟩)
     ·grind[zn9]
     ·have hv1:V3 s1:=yvk fun i hi=>by
       rw[c1 i hi];by_cases e:i=i
       ·split
        ·simp
        ·exact hv i
       omega
      rcases hv1 k with e | e | e
      ·exact e
      ·have:=(g.one k hkn).2 e;omega
      omega
   ·cases bs with
    | nil=>
     simp only[ah,aj,List.cons.injEq]at e2 e1;obtain⟨rfl,_⟩:=e2;subst e1;have h2k:=g.fine2 hf k hk hku;by_cases hc2:s1.c k=2
     ·omega
     ·refine .inr ((a2 k).2 ⟨hkn, ?_, ?_,h2k⟩)
      ·grind[zn9]
      ·have hv1:V3 s1:=yvk fun j hj=>by
        rw[c1 j hj];split
        ·simp
        ·exact hv j
       rcases hv1 k with e | e | e
       ·exact e
       ·have:=(g.one k hkn).2 e;omega
       omega
    | cons b bs=>
     grind
 ·intro hf;have:=g.fine1 hf
  grind
 ·grind
 ·intro hs hf;rcases g.fine4 (by grind) hf with⟨x,x1,x2⟩ | ⟨x,x1,x2⟩
  ·rw[c1 x (z3s x2.used)]at x1
   grind
  grind
def dfsL(p:List Sl)(n:Nat)(R:List Int)(s:DS):DS:=R.foldl (fun s k=>dfs p n k s) s
theorem yy8{s:DS}(hv:V3 s){id:Int}(h0:0<=id)(h1:id<(s.st.length:Int)){y:Int}(hy:y=1\/y=2){f:Bool}{o:List Int}:V3 ⟨setL s.st id y,f,o⟩:=yvk fun i hi=>by
 rw[yzv h0 h1 hi];split
 ·omega
 ·exact hv i
theorem zxd{p:List Sl}{n:Nat}(ih:∀(id:Int) (s:DS),V3 s->s.st.length=p.length->s.white<n->Post p [id] s (dfs p n id s)):
  ∀(R:List Int) (s:DS),V3 s->s.st.length=p.length->s.white<n->Post p R s (dfsL p n R s)
 | [],s,hv,hl,hw=>y7o hv (fun k hk=>(by grind))
 | k::R,s,hv,hl,hw=>by have a:=ih k s hv hl hw;exact yu7 hv a (zxd ih R _ a.v3 (a.len.trans hl) (bE a.wh hw))
theorem zwm(p:List Sl):∀(n:Nat) (id:Int) (s:DS),V3 s->s.st.length=p.length->s.white<n->Post p [id] s (dfs p n id s)
 | 0,_,_,_,_,hw=>absurd hw (ae _)
 | n+1,id,s,hv,hl,hw=>by
  unfold dfs;by_cases hu:W5 p id=true
  ·have h0:=z3s hu;have h1:id<(s.st.length:Int):=by simp_all[zn9]
   rcases hv id with e | e | e
   ·have e':rdL s.st id 0=0:=e;rw[if_neg (by grind),if_neg (by omega)];refine yu6 hv hl hu e (zxd (zwm p n) (z1m (slA p id)) ⟨setL s.st id 1,s.fine,s.out⟩ (yy8 hv h0 h1 (.inl rfl)) (by simp_all) ?_);have:=ztf (y:=1) h0 h1 (by decide);rw[if_pos e']at this;show(setL s.st id 1).count 0<n;have:s.white=s.st.count 0:=rfl;omega
   ·have e':rdL s.st id 0=1:=e;rw[if_neg (by grind),if_pos e'];have hr:∀i,(DS.mk s.st false s.out).c i=s.c i:=fun _=>rfl;refine⟨rfl,ai _,ai _,hv,fun _ _=>Iff.rfl,fun _ _ h=>h,fun k hk _=> ?_,fun i _ a b=>absurd b a,fun i _ a b=>absurd b a,⟨[],by simp,fun i=> ?_,dz,fun h=>(by cases h)⟩,fun h=>(by cases h),fun h=>(by cases h),fun _ _=> .inl ⟨id,e, .root (by simp) hu⟩⟩
    all_goals grind
   simp_all[y7o]
  simp_all[y7o]
theorem x0e{p:List Sl}{n:Nat}(hn:p.length<n)(R:List Int):∃s,dfsL p n R ⟨az p.length 0,true,[]⟩=s/\
  s.out.Nodup/\(∀i,i∈s.out↔Rch p R i)/\s.out.length<=p.length/\(s.fine=false->∃x,Rch p R x/\Rch p (z1m (slA p x)) x)/\
  (s.fine=true->∀i,Rch p R i->¬Rch p (z1m (slA p i)) i):=by
 obtain⟨s0,hs0⟩:∃s0:DS,s0=⟨az p.length 0,true,[]⟩:=⟨_,rfl⟩;have c0:∀i,s0.c i=0:=fun i=>by rw[hs0];simp only[DS.c,rdL,bg,dH];grind
 have hv:V3 s0:=fun i=> .inl (c0 i);have hl:s0.st.length=p.length:=by grind
 have hw:s0.white<=p.length:=by rw[hs0];exact aP bA (by simp)
 rw[<-hs0];have h:=zxd (zwm p n) R s0 hv hl (by omega);obtain⟨s,hs⟩:∃s,dfsL p n R s0=s:=⟨_,rfl⟩;rw[hs]at h;refine⟨s,hs, ?_⟩;obtain⟨l,a1,a2,a3,a4⟩:=h.out;have ho:s0.out=[]:=by grind
 rw[ho,ah]at a1;subst a1;have no1:∀i,0<=i->s.c i≠1:=fun i hi e=>by have:=(h.one i hi).1 e;grind
 have two_of:∀i,0<=i->s.c i≠0->s.c i=2:=fun i hi hz=>by
  rcases h.v3 i with e | e | e
  all_goals grind
 have r2:∀i,Rch p R i->s.c i=2:=by
  intro i hi;induction hi with
  | root hk hu=>exact two_of _ (z3s hu) (h.self _ hk hu)
  | kid hr hk hu ih=>exact two_of _ (z3s hu) (h.clo _ (z3s hr.used) (by grind) ih _ hk hu)
 have hmem:∀i,i∈s.out↔Rch p R i:=by
  intro i;rw[a2];constructor
  ·rintro⟨x1,x2,x3,x4⟩;exact h.new i x1 (by omega) x4
  ·intro hr;exact⟨z3s hr.used,by rw[hl];exact zn9 hr.used,c0 i,r2 i hr⟩
 refine⟨a3,hmem, ?_, ?_, ?_⟩
 ·have:=h.ol
  grind
 ·intro hf;rcases h.fine4 (by grind) hf with⟨x,x1,_⟩ | h
  all_goals grind
 ·intro hf i hi hcyc;have key:∀A i B,s.out=A++i::B->∀k,Rch p (z1m (slA p i)) k->k∈A:=by
   intro A i B e k hk;induction hk with
   | root hk hu=>
    grind
   | @kid j k hr hk hu ih=>
    obtain⟨A1,B1,e1⟩:=dq ih
    grind
  obtain⟨A,B,e⟩:=dq ((hmem i).2 hi)
  grind
abbrev tupB(p:List Sl)(s:DS):(Unit×((List Z8)×(Unit×((List Int)×(Bool×((Unit×(Unit×(Unit×(Unit×Unit))))×(Unit×(Unit×((List Int)×Unit))))))))):=((),(p,((),(s.st,(s.fine,(((),((),((),((),())))),((),((),(s.out,())))))))))
theorem yyv(N n:Nat)(p:List Sl)(id:Int)(K:Nat)(hK:K<1000000)
  (ih:∀(id:Int) (s:DS),V3 s->s.st.length=p.length->s.white<n->s.out.length+s.white<=K->z04 N n id p s.st s.fine s.out=some (tupB p (dfs p n id s))):
  ∀(post pre:List Int) (m:Nat) (s:DS),post.length<m->(pre++post).length<1000000->V3 s->s.st.length=p.length->s.white<n->s.out.length+s.white<=K->
   z5v N (z04 N n) m id (pre++post) ((pre++post).length:Int) (pre.length:Int) s.st p s.fine s.out=
    some ((id,((),())),((),((dfsL p n post s).st,((),((),((dfsL p n post s).out,(p,((dfsL p n post s).fine,(((),((),((),((),())))),())))))))))
 | [],pre,0,s,h,_,_,_,_,_=>absurd h (ae _)
 | k::post,pre,0,s,h,_,_,_,_,_=>absurd h (ae _)
 | [],pre,m+1,s,_,_,_,_,_,_=>by rw[zdn];simp only[z0v,aj,bj,decide_false,cond_false];rfl
 | k::post,pre,m+1,s,hm,hl,hv,hs,hw,ho=>by have a:=zwm p n k s hv hs hw;have ih2:=yyv N n p id K hK ih post (pre++[k]) m (dfs p n k s) (by grind) (by grind) a.v3 (a.len.trans hs) (bE a.wh hw) (aP a.ol ho);rw[zdn];simp only[z0v,Q7,U0,V5,cond_true];rw[gd_t rfl,ih k s hv hs hw ho];simp only[tupB];rw[U1 (q:=k) (by grind),Q3];exact ih2
theorem yrj(N:Nat)(p:List Sl)(K:Nat)(hK:K<1000000)(hk:∀s∈p,(z1m s).length<1000000)(hN:1000000<=N):∀(n:Nat) (id:Int) (s:DS),V3 s->s.st.length=p.length->s.white<n->s.out.length+s.white<=K->
  z04 N n id p s.st s.fine s.out=some (tupB p (dfs p n id s))
 | 0,_,_,_,_,hw,_=>absurd hw (ae _)
 | n+1,id,s,hv,hl,hw,ho=>by
  rw[znp];unfold z3a dfs;simp only[yje];by_cases hu:W5 p id=true
  ·have h0:=z3s hu;have h1:=zn9 hu;have h1s:id<(s.st.length:Int):=by omega
   rw[hu];simp only[aG,cond_false];rw[gd_t (V7 h0 h1s)];rcases hv id with e | e | e
   ·have e':rdL s.st id 0=0:=e;rw[X5 (by rw[e'];rfl),gd_t (V7 h0 h1s),X5 (by rw[e'];rfl),gd_t (V7 h0 h1s),gd_t (V7 h0 h1)];rw[if_neg (by grind),if_neg (by omega)];have hw0:=ztf (y:=1) h0 h1s (by decide);rw[if_pos e']at hw0;have hww:s.white=s.st.count 0:=rfl;have hv1:V3 ⟨setL s.st id 1,s.fine,s.out⟩:=yy8 hv h0 h1s (.inl rfl);have hl1:(DS.mk (setL s.st id 1) s.fine s.out).st.length=p.length:=by simp_all
    have hw1:(DS.mk (setL s.st id 1) s.fine s.out).white<n:=by show(setL s.st id 1).count 0<n;omega
    have hk':(z1m (slA p id)).length<1000000:=hk _ (z8x h0 h1);have hlp:=yyv N n p id K hK (yrj N p K hK hk hN n) (z1m (slA p id)) [] N ⟨setL s.st id 1,s.fine,s.out⟩ (by omega) (by grind) hv1 hl1 hw1 (by show s.out.length+(setL s.st id 1).count 0<=K;omega);have hpost:=zxd (zwm p n) (z1m (slA p id)) ⟨setL s.st id 1,s.fine,s.out⟩ hv1 hl1 hw1;have hlp':z5v N (z04 N n) N id (((((((rdL p id X1).2).2).2).2).2).1) (List.length (((((((rdL p id X1).2).2).2).2).2).1):Int) (0:Int) (setL s.st id (1:Int)) p s.fine s.out=_:=hlp;rw[hlp'];simp only;have hgl:id<((dfsL p n (z1m (slA p id)) ⟨setL s.st id 1,s.fine,s.out⟩).st.length:Int):=by rw[hpost.len];omega
    rw[gd_t (V7 h0 hgl)];have hol:=hpost.ol;have hol2:(dfsL p n (z1m (slA p id)) ⟨setL s.st id 1,s.fine,s.out⟩).out.length<1000000:=by have:(DS.mk (setL s.st id 1) s.fine s.out).out.length+(DS.mk (setL s.st id 1) s.fine s.out).white=s.out.length+(setL s.st id 1).count 0:=rfl;omega
    have hr:∀o:List Int,o.length<1000000->zdi N id o=some ((),((),(o++[id],()))):=by grind[zdi,gd_t,Y9]
    rw[hr _ hol2];rfl
   ·have e':rdL s.st id 0=1:=e;rw[X5 (by rw[e'];rfl),gd_t (V7 h0 h1s),W8 (by simp_all)]
    grind
   simp_all
  grind
theorem yry(N:Nat)(p:List Sl)(K:Nat)(hK:K<1000000)(hk:∀s∈p,(z1m s).length<1000000)(hN:1000000<=N):
  ∀(post pre:List Int) (m:Nat) (s:DS),post.length<m->(pre++post).length<1000000->V3 s->s.st.length=p.length->s.white<N->s.out.length+s.white<=K->
   z08 N m (pre++post) ((pre++post).length:Int) (pre.length:Int) s.fine p s.st s.out=
    some ((),((dfsL p N post s).fine,((),((dfsL p N post s).out,()))))
 | [],pre,0,s,h,_,_,_,_,_=>absurd h (ae _)
 | k::post,pre,0,s,h,_,_,_,_,_=>absurd h (ae _)
 | [],pre,m+1,s,_,_,_,_,_,_=>by rw[z4n];simp only[K9,aj,bj,decide_false,cond_false];rfl
 | k::post,pre,m+1,s,hm,hl,hv,hs,hw,ho=>by have a:=zwm p N k s hv hs hw;have ih2:=yry N p K hK hk hN post (pre++[k]) m (dfs p N k s) (by grind) (by grind) a.v3 (a.len.trans hs) (bE a.wh hw) (aP a.ol ho);rw[z4n];simp only[K9,Q7,U0,V5,cond_true];have hvv:zt1 N k p s.st s.fine s.out=some (tupB p (dfs p N k s)):=yrj N p K hK hk hN N k s hv hs hw ho;rw[gd_t rfl,hvv];simp only[tupB];rw[U1 (q:=k) (by grind),Q3];exact ih2
theorem yza:∀{l:List Int},l.Pairwise (fun a b=>decide (a<=b)=true)->l.Nodup->l.Pairwise (·<·)
 | [],_,_=>List.Pairwise.nil
 | x::l,h,g=>by
  obtain⟨h1,h2⟩:=aD.1 h;obtain⟨g1,g2⟩:=List.nodup_cons.1 g;refine aD.2 ⟨fun y hy=> ?_,yza h2 g2⟩;have:x<=y:=by simpa using h1 y hy
  have:x≠y:=fun e=>g1 (e▸hy);omega
theorem yts{l:List Int}(h:l.Nodup):(za1 l).Pairwise (·<·):=by
 refine yza ?_ ?_
 ·refine List.pairwise_mergeSort (fun a b c x y=> ?_) (fun a b=> ?_) l
  all_goals grind
 ·exact(dl l _).nodup_iff.2 h
theorem mem_sortI{l:List Int}{x:Int}:x∈za1 l↔x∈l:=(dl l _).mem_iff
theorem ygr{N:Nat}(hN:2000000000<=N){p:List Sl}{R:List Int}(hl:p.length<=100000)(hk:∀s∈p,(z1m s).length<1000000)(hR:R.length<1000000):∃out,zdz N p R=some out/\IsReach p R out:=by
 obtain⟨s,hs,h1,h2,h3,h4,h5⟩:=x0e (p:=p) (n:=N) (by omega) R;obtain⟨s0,hs0⟩:∃s0:DS,s0=⟨az p.length 0,true,[]⟩:=⟨_,rfl⟩;have c0:∀i,s0.c i=0:=fun i=>by rw[hs0];simp only[DS.c,rdL,bg,dH];grind
 have hw:s0.white<=p.length:=by rw[hs0];exact aP bA (by simp)
 have hr:=yry N p p.length (by omega) hk (by omega) R [] N s0 (by omega) (by grind) (fun i=> .inl (c0 i)) (by grind) (by omega) (by grind);refine⟨za1 s.out, ?_,yts h1,fun i=>mem_sortI.trans (h2 i)⟩;unfold zdz pool_visit_m__pool_Reach_c1;rw[x57 p 8 hl (by omega) (by omega)]
 grind[z3m,gd_t,Nat.blt_eq]
end Ds
namespace Ds
open Go Go.Dv
set_option maxRecDepth 100000
variable [Fuel]
theorem yit{l:List Bool}(hl:l.length<100000):∀(d j:Nat) (n:Nat) (c:Int),j+d=l.length->d<n->∃r,z0i NN n c l (l.length:Int) (j:Int)=some (r,())/\((∀i:Nat,j<=i->i<l.length->rdL l (i:Int) false=true)->r=c)
 | _,_,0,_,_,h=>absurd h (ae _)
 | 0,j,n+1,c,hj,_=>by
  rw[z50];simp only[J7]
  grind
 | d+1,j,n+1,c,hj,hn=>by
  have ih:=fun c=>yit hl d (j+1) n c (by omega) (by omega);rw[z50];simp only[J7,zqe,ac,z8k (show j<1000000000 by omega)];rw[W8 (by grind),gd_t (V7 (by omega) (by omega))];cases h:rdL l (j:Int) false
  ·obtain⟨r,h1,_⟩:=ih (aa .i64 (c+1))
   grind
  ·obtain⟨r,h1,h2⟩:=ih c
   grind
theorem ytc{l:List Bool}(hl:l.length<100000):∀(d j:Nat) (n:Nat),j+d=l.length->d<n->
  (∃i:Nat,i<l.length/\rdL l (i:Int) false=false/\j7 NN n l false (l.length:Int) (j:Int)=some (.inl ((i:Int),())))\/
  ((∀i:Nat,j<=i->i<l.length->rdL l (i:Int) false=true)/\j7 NN n l false (l.length:Int) (j:Int)=some (.inr ((),())))
 | _,_,0,_,h=>absurd h (ae _)
 | 0,j,n+1,hj,_=>by
  rw[z6o];simp only[J8]
  grind
 | d+1,j,n+1,hj,hn=>by
  have ih:=ytc hl d (j+1) n (by omega) (by omega);rw[z6o];simp only[J8,z8k (show j<1000000000 by omega)];rw[W8 (by grind),gd_t (V7 (by omega) (by omega))];cases h:rdL l (j:Int) false
  ·exact .inl ⟨j,by omega,h,rfl⟩
  ·rcases ih with ih | ⟨h1,h2⟩
   ·exact .inl ih
   ·refine .inr ⟨fun i h3 h4=> ?_,h2⟩
    grind
theorem yv1{α:Type}(l:List α)(x:α):zxe (az l.length x) l=l:=by simp[zxe]
def yfg(v:Bool):List Int->List Bool->List Bool
 | [],u=>u
 | i::r,u=>yfg v r (setL u i v)
theorem yoq{a:X3}(v:Bool):∀(post pre:List Int) (n:Nat) (u:List Bool),post.length<n->(pre++post).length<1000000->(∀i∈post,0<=i/\i<(u.length:Int))->
  zib NN n v (pre++post) ((pre++post).length:Int) (pre.length:Int) a u=some (((),((),())),(a,((),(yfg v post u,()))))
 | _,_,0,_,h,_,_=>absurd h (ae _)
 | [],pre,n+1,u,_,_,_=>by simp[z69,yfg,zmc]
 | i::post,pre,n+1,u,hn,hb,hi=>by
  have hb':pre.length+(post.length+1)<1000000:=by grind
  obtain⟨i1,i2⟩:=hi i (by simp);have ih:=yoq (a:=a) v post (pre++[i]) n (setL u i v) (by grind) (by grind) fun x hx=>by simp_all
  rw[<-Q3,show(pre++[i]).length=pre.length+1 by simp]at ih;rw[zmc];simp only[z69,Q7,cond_true,V5,z8k (show pre.length<1000000000 by omega)]
  grind[yfg,gd_t,V7]
theorem x3c{a:X3}(hl:a.1.length<1000000){l:List Int}(h2:l.length<1000000)(hi:∀i∈l,0<=i/\i<(a.1.length:Int))(v:Bool):zo2 NN a l v=some (yfg v l a.1,a.2):=by
 have h:=yoq (a:=a) v l [] NN a.1 (by grind[W3]) (by grind) hi;rw[ah,show(([]:List Int).length:Int)=0 from rfl]at h
 grind[zo2,maxB,cG,yv1,gd_t]
theorem atake{a:X3}(hl:a.1.length<100000)(hk:a.2.2=0):zo3 NN a=some (a,(0,250))\/∃i:Nat,i<a.1.length/\rdL a.1 (i:Int) false=false/\zo3 NN a=some ((setL a.1 (i:Int) true,a.2),((i:Int),0)):=by
 obtain⟨r,h,hr⟩:=yit (l:=a.1) hl a.1.length 0 NN 0 (by omega) (by grind[W3]);have hi:=ytc (l:=a.1) hl a.1.length 0 NN (by omega) (by grind[W3]);rw[show((0:Nat):Int)=0 from rfl]at h hi;simp only[zo3,y12,y11,z55,h,ac,hk];rcases hi with⟨i,i1,i2,i3⟩ | ⟨h1,_⟩
 ·cases decide (aa .i64 (r-0)<1)
  ·refine .inr ⟨i,i1,i2, ?_⟩;simp only[cond_false,z7k,i3,ac];rw[x3c (by omega) (by simp) (by grind)];rfl
  simp
 ·have:r=0:=hr h1;subst this;exact .inl rfl
theorem yz2{d:W0}(hl:d.2.2.length<100000)(w:Wt):znx NN d w=some (d.1,(d.2.1,d.2.2++[w])):=by grind[znx,z0r,gd_t,Y9]
theorem dhas(d:W0)(c:Int):zwk NN d c=some (decide (0<=c)&&decide (c<(d.2.1.length:Int))):=by grind[zwk]
theorem dput{d:W0}(hl:d.2.2.length<100000)(c:Int){b:List Int}(hb:b.length<1000000000000):zrj NN d c b=some (d,230)\/
  (0<=c/\c<(d.2.1.length:Int)/\(b.length:Int)<=d.1/\zrj NN d c b=some ((d.1,(d.2.1,d.2.2++[(false,(c,b))])),0)):=by
 simp only[zrj,dhas,ac,zvm];by_cases h:0<=c/\c<(d.2.1.length:Int)
 ·rw[decide_eq_true h.1,decide_eq_true h.2,X5 (by rfl)];by_cases hs:d.1<(b.length:Int)
  ·grind
  ·rw[X5 (decide_eq_false hs),gd_t (zxb (by omega))];simp_all[yz2]
 grind
theorem yz3{d:W0}(hl:d.2.2.length<100000):zny NN d=some (d.1,(d.2.1,d.2.2++[(true,(0,[]))])):=by grind[zny,yz2]
def fndQ(c:Int)(q:List Wt):Option (List Int):=q.foldl (fun a w=>bif !w.1&&eqi w.2.1 c then some w.2.2 else a) none
theorem y80(c:Int)(q:List Wt)(w:Wt):fndQ c (q++[w])=bif !w.1&&eqi w.2.1 c then some w.2.2 else fndQ c q:=by simp[fndQ]
def gF(d:W0)(c:Int):List Int:=(fndQ c d.2.2).getD (rdL d.2.1 c [])
theorem ys0{l:List (List Int)}{i:Int}{P:List Int->Prop}(h:∀c∈l,P c)(h0:P []):P (rdL l i []):=by grind[rdL]
theorem fndQ_foldl{c:Int}{b:List Int}:∀{q:List Wt} {a:Option (List Int)},q.foldl (fun a w=>bif !w.1&&eqi w.2.1 c then some w.2.2 else a) a=some b->a=some b\/∃w∈q,w.1=false/\w.2.1=c/\w.2.2=b
 | [],_,h=> .inl h
 | w::q,a,h=>by
  rcases fndQ_foldl (q:=q) h with h | ⟨v,v1,v2⟩
  all_goals grind[za7]
theorem yxd{c:Int}{b:List Int}{q:List Wt}(h:fndQ c q=some b):∃w∈q,w.1=false/\w.2.1=c/\w.2.2=b:=(fndQ_foldl h).elim (fun h=>by cases h) id
theorem x58{d:W0}{P:List Int->Prop}(h0:P [])(hc:∀c∈d.2.1,P c)(hq:∀w∈d.2.2,P w.2.2)(c:Int):P (gF d c):=by
 unfold gF;cases h:fndQ c d.2.2 with
 | none=>simp_all[ys0]
 | some b=>
  grind[yxd]
theorem yt8{q:List Wt}(hl:q.length<100000)(c:Int):∀(j n:Nat),j<n->j<=q.length->
  Q9 NN n q ((j:Int)-1) c [] 0=some (match fndQ c (q.take j)with
   | some b=> .inl ((),(((),((),())),(c,(b,((),([],()))))))
   | none=> .inr ((),(((),((),())),(c,((),([],(0,())))))))
 | _,0,h,_=>absurd h (ae _)
 | 0,n+1,_,_=>by rw[g9];rfl
 | j+1,n+1,hn,hj=>by
  have ih:=yt8 hl c j n (by omega) (by omega);have e1:((j+1:Nat):Int)-1=(j:Int):=by omega
  have e2:aa .i64 ((j:Int)-1)=(j:Int)-1:=w64 (by omega) (by omega);have e3:q.take (j+1)=q.take j++[rdL q (j:Int) z2d]:=by grind[rdL,List.take_succ_eq_append_getElem]
  rw[g9,e3,y80];simp only[Q2,e1,e2,zjj];rw[W8 (decide_eq_true (by omega)),gd_t (V7 (by omega) (by omega))]
  grind
theorem x3b{d:W0}(hl:d.2.2.length<100000)(c:Int):zwl NN d c=some (if 0<=c/\c<(d.2.1.length:Int)then(gF d c,0)else([],230)):=by
 have h:=yt8 hl c d.2.2.length NN (by grind[W3]) (ai _);rw[List.take_length]at h;have w:aa .i64 ((d.2.2.length:Int)-1)=(d.2.2.length:Int)-1:=w64 (by omega) (by omega);simp only[zwl,dhas,zvl,z05,y5,w,h,ac,gF];by_cases h:0<=c/\c<(d.2.1.length:Int)
 ·rw[decide_eq_true h.1,decide_eq_true h.2,X5 (by rfl),if_pos h]
  grind[gd_t,V7]
 grind
def kstp(h b:Int):Int:=aa .u64 (aa .u64 (((BitVec.ofInt (aM .u64) h^^^BitVec.ofInt (aM .u64) (aa .u64 b)).toNat:Int))*(1099511628211:Int))
def chk(xs:List Int):Int:=xs.foldl kstp 14695981039346656037
theorem ysl:∀(q p:List Int) (n:Nat),q.length<n->(p++q).length<1000000000000->∀h,zi0 NN n h (p++q) ((p++q).length:Int) (p.length:Int)=some (q.foldl kstp h,())
 | _,_,0,h,_,_=>absurd h (ae _)
 | [],p,n+1,_,_,h=>by simp[z62,zm5]
 | b::q,p,n+1,hn,hl,h=>by
  simp only[ag]at hn;have hb:p.length<9223372036854775807:=by grind
  have ih:=ysl q (p++[b]) n (by omega) (by grind) (kstp h b);rw[zm5];simp only[z62,Q7,cond_true,V5,U1 (q:=b) hb];rw[gd_t U0,Q3 (pre:=p) (q:=b) (post:=q),bh,<-ih];rfl
theorem yd3{l:List Int}(hl:l.length<1000000000000):z82 NN l=some (chk l):=by have h:=ysl l [] NN (by grind[yb3]) (by grind) 14695981039346656037;rw[show(([]:List Int).length:Int)=0 from rfl,ah]at h;simp only[z82,h,ac];rfl
theorem ys3:∀(q p:List Int) (n:Nat),q.length<n->(p++q).length<1000000000000->∀h,zak NN n (p++q) h (p.length:Int)=some (q.foldl kstp h,())
 | _,_,0,h,_,_=>absurd h (ae _)
 | [],p,n+1,_,_,h=>by simp[z0j,z7x]
 | b::q,p,n+1,hn,hl,h=>by
  simp only[ag]at hn;have hb:p.length<9223372036854775807:=by grind
  have ih:=ys3 q (p++[b]) n (by omega) (by grind) (kstp h b);rw[z7x];simp only[z0j,Q7,cond_true,V5,U1 (q:=b) hb];rw[gd_t U0,Q3 (pre:=p) (q:=b) (post:=q),bh,<-ih];rfl
theorem x0q{l:List Int}(hl:l.length<1000000000000):z2a NN l=some (chk l):=by have h:=ys3 l [] NN (by grind[yb3]) (by grind) 14695981039346656037;rw[show(([]:List Int).length:Int)=0 from rfl,ah]at h;simp only[z2a,h];rfl
abbrev mapS(st:Z4):List Int:=st.2.2.2.2.2.1
abbrev chkS(st:Z4):List Int:=st.2.2.2.2.2.2.1
abbrev celS(st:Z4):List (List Int):=st.1.2.1
structure StL (st:Z4):Prop where
 qu:st.1.2.2=[]
 nc:(celS st).length<100000
 cl:∀c∈celS st,c.length<1000000000
 ml:(mapS st).length<100000
 kl:(chkS st).length<100000
structure StW (st:Z4):Prop where
 ql:st.1.2.2.length<100000
 gl:∀c,(gF st.1 c).length<1000000000
 nc:(celS st).length<100000
 ml:(mapS st).length<100000
 kl:(chkS st).length<100000
theorem yz0{d:W0}(h:d.2.2=[])(c:Int):gF d c=rdL d.2.1 c []:=by unfold gF;rw[h];rfl
theorem StL.w{st:Z4}(h:StL st):StW st:=⟨by rw[h.qu];simp,fun c=>by rw[yz0 h.qu];exact ys0 (P:=fun l=>l.length<1000000000) h.cl (by decide),h.nc,h.ml,h.kl⟩
def zfh(st:Z4)(id:Int):Option Int:=if 0<=id/\id<((mapS st).length:Int)/\0<=rdL (mapS st) id 0 then some (rdL (mapS st) id 0)else none
def yaq(st:Z4)(id c:Int):Bool:=(decide (0<=c)&&decide (c<((celS st).length:Int)))&&(decide (id<((chkS st).length:Int))&&eqi (chk (gF st.1 c)) (rdL (chkS st) id 0))
theorem ymm(st:Z4)(id:Int):∃c,zgh NN st id=some (c,(zfh st id).isSome)/\∀x,zfh st id=some x->c=x:=by
 simp only[zgh];by_cases h0:id<0
 ·rw[W8 (decide_eq_true h0)];have:zfh st id=none:=if_neg (by omega);simp_all
 ·rw[X5 (decide_eq_false h0)];by_cases h1:((mapS st).length:Int)<=id
  ·rw[W8 (decide_eq_true h1)];have:zfh st id=none:=if_neg (by omega);simp_all
  ·have hin:inB id (mapS st).length=true:=V7 (by omega) (by omega);rw[X5 (decide_eq_false h1),gd_t hin];by_cases h2:rdL (mapS st) id 0<0
   ·rw[W8 (decide_eq_true h2)];have:zfh st id=none:=if_neg (by omega);simp_all
   ·rw[X5 (decide_eq_false h2),gd_t hin];have:zfh st id=some (rdL (mapS st) id 0):=if_pos ⟨by omega,by omega,by omega⟩;simp_all
theorem x1l{st:Z4}(hS:StW st)(a0 a1:List Int)(a2:Int)(u:List Bool)(la:List Int)(ke lo ge se:Int)(ca:List Int){id:Int}(h0:0<=id)(c:Int):
  zd3 NN a0 a1 a2 st.1.1 (celS st) st.1.2.2 u la ke lo ge se (mapS st) (chkS st) ca id c=some (yaq st id c):=by
 have hg:=x3b (d:=(st.1.1,(celS st,st.1.2.2))) hS.ql c;simp only[zd3,hg,ac,yaq];by_cases hc:0<=c/\c<((celS st).length:Int)
 ·rw[if_pos hc,decide_eq_true hc.1,decide_eq_true hc.2];have hl:=hS.gl c;rw[W8 (by rfl)];by_cases hi:id<((chkS st).length:Int)
  ·rw[decide_eq_true hi,cond_true,yd3 (l:=gF (st.1.1,(celS st,st.1.2.2)) c) (Nat.lt_trans hl (by decide))]
   grind[gd_t,V7]
  grind
 ·rw[if_neg hc,X5 (by decide)]
  grind
def zb5(st:Z4):List Int->Nat->Int->List Int->v8
 | [],_,g,b=>([],(b,g))
 | id::t,0,g,b=>(id::t,(b,g))
 | id::t,k+1,g,b=>match zfh st id with
  | none=>zb5 st t k g b
  | some c=>if yaq st id c=true then zb5 st t k (aa .i64 (g+1)) b else zb5 st t k g (b++[id])
section
variable {st:Z4} (hS:StW st)
abbrev wkT(st:Z4)(rem:Int)(w:v8):(Unit×((Unit×Unit)×(Int×(Unit×(((List Int)×(Unit×(Int×(Int×((List (List Int))×((List Y5)×((List Bool)×((List Int)×(Int×(Int×(Int×(Int×((List Int)×((List Int)×(List Int)))))))))))))))×((List Int)×(Unit×Unit))))))):=
 ((),(((),()),(rem,((),((w.1,((),(w.2.2,(st.1.1,(st.1.2.1,(st.1.2.2,(st.2.1.1,(st.2.1.2.1,(st.2.1.2.2,(st.2.2.1,(st.2.2.2.1,(st.2.2.2.2.1,(mapS st,(chkS st,st.2.2.2.2.2.2.2)))))))))))))),(w.2.1,((),())))))))
include hS in
theorem ycc:∀(todo:List Int) (k n:Nat) (g:Int) (b:List Int),todo.length<n->k<9000000000000000000->b.length+todo.length<100000000->
  ∃rem,z03 NN n todo g st.1.1 st.1.2.1 st.1.2.2 st.2.1.1 st.2.1.2.1 st.2.1.2.2 st.2.2.1 st.2.2.2.1 st.2.2.2.2.1 (mapS st) (chkS st) st.2.2.2.2.2.2.2 b (k:Int)=some (.inl (wkT st rem (zb5 st todo k g b)))\/
   z03 NN n todo g st.1.1 st.1.2.1 st.1.2.2 st.2.1.1 st.2.1.2.1 st.2.1.2.2 st.2.2.1 st.2.2.2.1 st.2.2.2.2.1 (mapS st) (chkS st) st.2.2.2.2.2.2.2 b (k:Int)=some (.inr (wkT st rem (zb5 st todo k g b)))
 | _,_,0,_,_,h,_,_=>absurd h (ae _)
 | [],k,n+1,g,b,_,_,_=>by refine⟨(k:Int), .inr ?_⟩;rw[z7l];simp only[G2];rw[X5 (by rfl)];rw[zb5]
 | id::t,k,n+1,g,b,hn,hk,hb=>by
  simp only[ag]at hn hb;obtain⟨c,h1,h2⟩:=ymm st id;have h1':zgh NN ((st.1.1,(st.1.2.1,st.1.2.2)),((st.2.1.1,(st.2.1.2.1,st.2.1.2.2)),(st.2.2.1,(st.2.2.2.1,(st.2.2.2.2.1,(mapS st,(chkS st,st.2.2.2.2.2.2.2))))))) id=some (c,(zfh st id).isSome):=h1;have hrd:rdL (id::t) (0:Int) (0:Int)=id:=rfl;have hcut:cut2 (id::t) (1:Int) ((id::t).length:Int)=t:=by simp[cut2]
  have hpos:decide ((0:Int)<((id::t).length:Int))=true:=by simp<;>omega
  have hg1:∀{R:Type} (x:Option R),gd (decide (0<=(1:Int))&&(decide ((1:Int)<=((id::t).length:Int))&&decide (((id::t).length:Int)<=((id::t).length:Int)))) x=x:=fun x=>gd_t (by simp;omega) x;rw[z7l];simp only[G2,hrd,h1',ac,za2];rw[W8 hpos,gd_t (V7 (by omega) (by simp<;>omega))]
  match k,hk with
  | 0,hk=>
   refine⟨((0:Nat):Int), .inl ?_⟩;have hw:zb5 st (id::t) 0 g b=(id::t,(b,g)):=by rw[zb5]
   rw[hw];cases (zfh st id).isSome
   ·rfl
   ·rfl
  | k+1,hk=>
   have hz:eqi ((k+1:Nat):Int) 0=false:=G6 (by omega);have hw1:aa .i64 (((k+1:Nat):Int)-1)=(k:Int):=by rw[w64 (by omega) (by omega)];omega
   simp only[hz,cond_false,hw1];cases hc:zfh st id with
   | none=>
    have hw:zb5 st (id::t) (k+1) g b=zb5 st t k g b:=by rw[zb5,hc]
    rw[hw];simp only[Option.isSome_none,aN,cond_true];rw[W8 (by decide)];simp only[ac,hcut,hg1];exact ycc t k n g b (by omega) (by omega) (by omega)
   | some x=>
    have hx:=h2 x hc;subst hx;have hcs:0<=id/\id<((mapS st).length:Int)/\0<=rdL (mapS st) id 0:=by
     unfold zfh at hc;split at hc
     ·assumption
     ·cases hc
    have hc0:c=rdL (mapS st) id 0:=by unfold zfh at hc;rw[if_pos hcs]at hc;exact(aL.inj hc).symm
    have hgd:=x1l hS (id::t) b g st.2.1.1 st.2.1.2.1 st.2.1.2.2 st.2.2.1 st.2.2.2.1 st.2.2.2.2.1 st.2.2.2.2.2.2.2 hcs.1 c;simp only[Option.isSome_some,aG,cond_false];rw[X5 (decide_eq_false (by omega)),hgd];simp only[ac];cases hgo:yaq st id c
    ·have hw:zb5 st (id::t) (k+1) g b=zb5 st t k g (b++[id]):=by rw[zb5,hc];simp only[hgo];rfl
     rw[hw,cond_false,gd_t (Y9 (by omega) (by omega))];simp only[ac,hcut,hg1];exact ycc t k n g (b++[id]) (by omega) (by omega) (by rw[aq,List.length_singleton];omega)
    ·have hw:zb5 st (id::t) (k+1) g b=zb5 st t k (aa .i64 (g+1)) b:=by rw[zb5,hc];simp only[hgo];rfl
     rw[hw,cond_true];simp only[ac,hcut,hg1];exact ycc t k n _ b (by omega) (by omega) (by omega)
include hS in
theorem yp2{s:v8}(hl:s.2.1.length+s.1.length<100000000){n:Nat}(hn:n<9000000000000000000):z83 NN s st (n:Int)=some (zb5 st s.1 n s.2.2 s.2.1,0):=by
 obtain⟨rem,h⟩:=ycc hS s.1 n NN s.2.2 s.2.1 (by have:=W3;omega) hn hl;simp only[z83,y09,zdj,z18,zpo,z86];rw[X5 (decide_eq_false (by omega)),gd_t (Y9 (by omega) (by omega))];simp only[ac];rcases h with h | h
 ·rw[h];rfl
 ·rw[h];rfl
end
theorem yhi{st:Z4}{f:Z3}:∀(post pre:List V6) (n:Nat) (out:List Int),post.length<n->(pre++post).length<1000000->out.length+post.length<1000000->
  zev NN n (pre++post) ((pre++post).length:Int) (pre.length:Int) st f out=some (((),((),((),()))),(st,(f,((),(out++post.map epR,())))))
 | _,_,0,_,h,_,_=>absurd h (ae _)
 | [],pre,n+1,out,_,_,_=>by simp[z3v,zjr]
 | e::post,pre,n+1,out,hn,hl,ho=>by
  simp only[ag]at hn ho;have hb:pre.length<9223372036854775807:=by grind
  have ih:=yhi (st:=st) (f:=f) post (pre++[e]) n (out++[epR e]) (by omega) (by grind) (by grind);rw[zjr];simp only[z3v,Q7,cond_true,V5,U1 (q:=e) hb]
  grind[epR,gd_t,U0,Y9]
theorem y7h{st:Z4}(b3:Int)(b5:List Int):∀(post pre:List Int) (n:Nat) (out:List Int),post.length<n->(pre++post).length<1000000->out.length+post.length<1000000->
  zeu NN n ((pre++post).length:Int) (pre.length:Int) st b3 out b5 (pre++post)=some (((),()),((),(((),((),b3)),(out++post.filter fun id=>(zfh st id).isSome,(b5,())))))
 | _,_,0,_,h,_,_=>absurd h (ae _)
 | [],pre,n+1,out,_,_,_=>by simp[z3u,zjq]
 | e::post,pre,n+1,out,hn,hl,ho=>by
  simp only[ag]at hn ho;have hb:pre.length<9223372036854775807:=by grind
  obtain⟨c,c1,_⟩:=ymm st e;rw[zjq];simp only[z3u,Q7,cond_true,V5,U1 (q:=e) hb,c1,ac];rw[gd_t U0,Q3 (pre:=pre) (q:=e) (post:=post)];cases hc:(zfh st e).isSome
  ·rw[cond_false,y7h b3 b5 post (pre++[e]) n out (by omega) (by grind) (by omega),List.filter_cons_of_neg (by grind)]
  ·rw[cond_true,gd_t (Y9 (by omega) (by omega)),y7h b3 b5 post (pre++[e]) n (out++[e]) (by omega) (by grind) (by grind),List.filter_cons_of_pos (by omega)];simp
def todoS(st:Z4)(R:List Int):List Int:=R.filter fun id=>(zfh st id).isSome
abbrev yye(f:Z3):List Int:=f.2.2.2.2.1::f.2.2.1.map epR
theorem IsReach.short{p:List Sl}{R out:List Int}(h:IsReach p R out):out.length<=p.length:=by
 have:=zka (l:=out) (L:=(List.range p.length).map fun n:Nat=>(n:Int)) (h.1.imp fun hlt e=>by omega) (fun x hx=>by
  have hu:=((h.2 x).1 hx).used;have h0:=z3s hu;have h1:=zn9 hu;exact aH.2 ⟨x.toNat,List.mem_range.2 (by omega),by omega⟩)
 grind
theorem yvd(st:Z4){f:Z3}(hl:f.1.length<=4096)(hk:∀s∈f.1,(z1m s).length<=80000)(he:f.2.2.1.length<=16):∃R,IsReach f.1 (yye f) R/\ze5 NN st f=some (todoS st R,([],0)):=by obtain⟨R,r1,r2⟩:=ygr (N:=NN) (by grind[W3]) (p:=f.1) (R:=yye f) (by omega) (fun s hs=>by grind) (by grind);have hs:=r2.short;have h0:=yhi (st:=st) (f:=f) f.2.2.1 [] NN [f.2.2.2.2.1] (by grind[W3]) (by grind) (by grind);have h1:=y7h (st:=st) 0 [] R [] NN [] (by grind[W3]) (by grind) (by grind);have hz:(([]:List V6).length:Int)=0:=rfl;have hz2:(([]:List Int).length:Int)=0:=rfl;rw[hz,ah]at h0;rw[hz2,ah]at h1;refine⟨R,r2, ?_⟩;have r1':zdz NN f.1 ([f.2.2.2.2.1]++f.2.2.1.map epR)=some R:=r1;simp only[ze5,h0,ac,r1',h1];rfl
theorem ytl(st:Z4):∀(t:List Int) (g:Int) (b:List Int),zb5 st t 0 g b=(t,(b,g))
 | [],_,_=>by rw[zb5]
 | _::_,_,_=>by rw[zb5]
theorem yw7(st:Z4)(k:Nat)(g:Int)(b:List Int):zb5 st [] k g b=([],(b,g)):=by rw[zb5]
theorem StOk.stl{f:Z3}{st:Z4}(h:StOk f st)(hf:f.1.length<=4096):StL st:=
 ⟨h.qu,by have:=h.nc;grind,fun c hc=>by have:=h.cl c hc;have:=h.sz.2;omega,by have:=h.ml;grind,by have:=h.kl;grind⟩
end Ds
namespace Ds
open Go Go.Dv
set_option maxRecDepth 100000
abbrev isB(b:Int):Prop:=0<=b/\b<256
abbrev isBs(l:List Int):Prop:=∀b∈l,isB b
def Yl{A:Type}(o:Option A)(P:A->Prop):Prop:=∀r,o=some r->P r
theorem Yl.gd{A:Type}{P:A->Prop}{c:Bool}{x:Option A}(h:Yl x P):Yl (Go.Dv.gd c x) P:=by
 cases c
 ·exact fun _ e=>by cases e
 ·exact h
theorem Yl.si{A:Type}{P:A->Prop}{a:A}(h:P a):Yl (some a) P:=fun _ e=>by grind
theorem Yl.no{A:Type}{P:A->Prop}:Yl (none:Option A) P:=fun _ e=>by cases e
theorem Yl.bf{A:Type}{P:A->Prop}{c:Bool}{x y:Option A}(h:Yl x P)(k:Yl y P):Yl (bif c then x else y) P:=by grind
theorem J4{a b:List Int}(h:isBs a)(k:isBs b):isBs (a++b):=fun x hx=>(am.1 hx).elim (h x) (k x)
theorem yds(x:Int):isBs [aa .u8 x]:=fun b hb=>by grind[IntKind.wrap_u8]
theorem yrc(k:B):isBs (U2 k):=fun b hb=>by unfold U2 at hb;obtain⟨x,_,rfl⟩:=aH.1 hb;have:=x.toNat_lt;omega
section
variable {N:Nat}
theorem ysf:∀(n:Nat) (b0 b1:Int) (out:List Int),isBs out->Yl (z9l N n b0 b1 out) fun r=>isBs r.2.1
 | 0,_,_,_,_=>Yl.no
 | n+1,b0,b1,out,h=>by rw[zad];simp only[z0y];exact Yl.bf (Yl.gd (Yl.gd (ysf n _ _ _ (J4 h (yds _))))) (Yl.si h)
theorem zwg:isBs []:=fun b hb=>absurd hb (by simp)
theorem zy1(x d:Int):Yl (U9 N x d) isBs:=by
 simp only[U9];split
 ·next r h=>exact Yl.si (ysf N x _ [] zwg _ h)
 simp[Yl.no]
theorem yjz(x d:Int):Yl (z7n N x d) isBs:=zy1 x d
theorem yjo(k:B):Yl (zbe N k) isBs:=by
 simp only[zbe];split
 ·next r h=>exact Yl.gd (Yl.si (J4 (zy1 _ _ _ h) (yrc k)))
 simp[Yl.no]
theorem yhe:∀(n:Nat) (b0:List B) (b1:Int) (out:List Int),isBs out->Yl (zaq N n b0 b1 out) fun r=>isBs r.2.1
 | 0,_,_,_,_=>Yl.no
 | n+1,b0,b1,out,h=>by
  rw[zca];simp only[z1i];refine Yl.bf (Yl.gd ?_) (Yl.si h);split
  ·next r k=>exact Yl.gd (Yl.gd (Yl.gd (yhe n _ _ _ (J4 (J4 h (yjz _ _ _ k)) (yrc _)))))
  simp[Yl.no]
theorem yw9(l:List B):Yl (z0c N l) isBs:=by
 simp only[z0c];split
 ·next r h=>exact Yl.si (yhe N l 0 [] zwg _ h)
 simp[Yl.no]
theorem x54(m:Mg)(out:List Int)(h:isBs out):Yl (z06 N m out) fun r=>isBs r.2.1:=by
 simp only[z06];refine Yl.bf ?_ (Yl.bf ?_ (Yl.si h))
 ·split
  ·next r k=>exact Yl.gd (Yl.si (J4 h (yjz _ _ _ k)))
  simp[Yl.no]
 ·split
  ·next r k=>exact Yl.gd (Yl.si (J4 h (yjz _ _ _ k)))
  simp[Yl.no]
theorem mby(m:Mg):Yl (zb1 N m) isBs:=by
 have g:=fun(l:List B) (r:List Int) (h:z0c N l=some r)=>x54 (N:=N) m ([aa .u8 m.1]++r) (J4 (yds _) (yw9 l _ h));simp only[zb1];split
 ·refine Yl.bf (Yl.si zwg) (Yl.bf ?_ (Yl.bf ?_ (Yl.bf ?_ (Yl.bf ?_ ?_))))
  all_goals
   split
   ·next r h=>
    refine Yl.gd ?_;split
    ·next r2 h2=>exact Yl.si (g _ r h r2 h2)
    simp[Yl.no]
   simp[Yl.no]
 simp[Yl.no]
theorem yyt:∀(n:Nat) (j:Int) (nd:Nd) (out:List Int),isBs out->Yl (zap N n j nd out) fun r=>isBs r.2.2.1
 | 0,_,_,_,_=>Yl.no
 | n+1,j,nd,out,h=>by
  rw[zc9];simp only[z1h];refine Yl.bf (Yl.gd ?_) (Yl.si h);split
  ·next r k=>exact Yl.gd (yyt n _ _ _ (J4 h (zy1 _ _ _ k)))
  simp[Yl.no]
theorem yys:∀(n:Nat) (j:Int) (nd:Nd) (out:List Int),isBs out->Yl (zao N n j nd out) fun r=>isBs r.2.2.1
 | 0,_,_,_,_=>Yl.no
 | n+1,j,nd,out,h=>by
  rw[zc8];simp only[z1g];refine Yl.bf (Yl.gd ?_) (Yl.si h);split
  ·next r k=>exact Yl.gd (yys n _ _ _ (J4 h (yjo _ _ k)))
  simp[Yl.no]
theorem yyr:∀(n:Nat) (j:Int) (nd:Nd) (out:List Int),isBs out->Yl (zan N n j nd out) fun r=>isBs r.2.1
 | 0,_,_,_,_=>Yl.no
 | n+1,j,nd,out,h=>by
  rw[zc7];simp only[z1f];refine Yl.bf (Yl.gd ?_) (Yl.si h);split
  ·next r k=>
   refine Yl.gd (Yl.gd ?_);split
   ·next r k2=>
    refine Yl.gd (Yl.gd ?_);split
    ·next r k3=>exact Yl.gd (yyr n _ _ _ (J4 (J4 (J4 h (yjo _ _ k)) (yjo _ _ k2)) (zy1 _ _ _ k3)))
    simp[Yl.no]
   simp[Yl.no]
  simp[Yl.no]
theorem yyp:∀(n:Nat) (j:Int) (nd:Nd) (out:List Int),isBs out->Yl (zal N n j nd out) fun r=>isBs r.2.1
 | 0,_,_,_,_=>Yl.no
 | n+1,j,nd,out,h=>by
  rw[zc5];simp only[z1d];refine Yl.bf (Yl.gd ?_) (Yl.si h);split
  ·next r k=>exact Yl.gd (yyp n _ _ _ (J4 h (mby _ _ k)))
  simp[Yl.no]
theorem yyo:∀(n:Nat) (i j:Int) (nd:Nd) (out:List Int) (a:zwn),isBs out->Yl (z8h N n i j nd out a) fun r=>isBs r.2.2.1
 | 0,_,_,_,_,_,_=>Yl.no
 | n+1,i,j,nd,out,a,h=>by
  rw[z1c];simp only[j0];refine Yl.bf (Yl.bf ?_ (Yl.bf ?_ (Yl.bf ?_ (Yl.bf ?_ Yl.no)))) (Yl.si h)
  all_goals
   split
   ·next r k=>exact Yl.gd (yyo n _ _ _ _ _ (J4 h (zy1 _ _ _ k)))
   simp[Yl.no]
theorem yyq:∀(n:Nat) (j:Int) (nd:Nd) (out:List Int),isBs out->Yl (zam N n j nd out) fun r=>isBs r.2.2.1
 | 0,_,_,_,_=>Yl.no
 | n+1,j,nd,out,h=>by
  rw[zc6];simp only[z1e];refine Yl.bf (Yl.gd (Yl.gd (Yl.gd (Yl.gd ?_)))) (Yl.si h);split
  ·next r k=>exact yyq n _ _ _ (yyo N _ _ _ _ _ h _ k)
  simp[Yl.no]
theorem nby(nd:Nd):Yl (z3p N nd) isBs:=by
 have c1:isBs [(76:Int)]:=by decide
 have c2:isBs [(78:Int)]:=by decide
 simp only[z3p];split
 ·refine Yl.bf (Yl.si zwg) (Yl.bf ?_ ?_)
  ·split
   ·next r k=>
    refine Yl.gd ?_;split
    ·next r k2=>exact Yl.si (yyr N _ _ _ (J4 c1 (zy1 _ _ _ k)) _ k2)
    simp[Yl.no]
   simp[Yl.no]
  ·split
   ·next r k=>
    refine Yl.gd ?_;split
    ·next r k2=>
     split
     ·next r k3=>
      split
      ·next r k4=>
       split
       ·next r k5=>
        refine Yl.gd ?_;split
        ·next r k6=>exact Yl.si (yyp N _ _ _ (J4 (yyq N _ _ _ (yys N _ _ _ (yyt N _ _ _ (J4 c2 (zy1 _ _ _ k)) _ k2) _ k3) _ k4) (zy1 _ _ _ k5)) _ k6)
        simp[Yl.no]
       simp[Yl.no]
      simp[Yl.no]
     simp[Yl.no]
    simp[Yl.no]
   simp[Yl.no]
 simp[Yl.no]
end
end Ds
namespace Ds
open Go Go.Dv Nv
set_option maxRecDepth 100000
variable [Fuel]
theorem ysa(v:Int):∀(w n:Nat) (out:List Int),w<n->w<=8->Huge (out.length+w)->z2n NN n v ((w:Int)-1) out=some ((),((),(out++bytes v w,())))
 | _,0,_,h,_,_=>absurd h (ae _)
 | 0,n+1,out,_,_,_=>by simp[v7,bytes,z8l]
 | w+1,n+1,out,hn,hw,hl=>by
  have e0:((w+1:Nat):Int)-1=(w:Int):=by omega
  have e1:aa .i64 ((w:Int)-(1:Int))=(w:Int)-1:=w64 (by omega) (by omega);have e2:aa .i64 ((8:Int)*(w:Int))=((8*w:Nat):Int):=by grind[w64]
  have hl':out.length+(w+1)<4000000000000:=hl;have e3:=yrd v w (by omega);rw[z8l];simp only[v7];rw[e0,W8 (by simp),gd_t (by grind),show aM .u64=aM .i64 from rfl,e3,gd_t (yku (by omega)),e1];rw[ysa v w n (out++[byt v w]) (by omega) (by omega) (by show(out++[byt v w]).length+w<_;simp;omega)];simp[bytes]
theorem pnum(v:Int)(w:Nat)(hw:w<=8){out:List Int}(hl:Huge (out.length+8)):K7 NN v (w:Int) out=some ((),((),(out++bytes v w,()))):=by have hl':out.length+8<4000000000000:=hl;have e1:aa .i64 ((w:Int)-(1:Int))=(w:Int)-1:=w64 (by omega) (by omega);simp only[K7,e1,ysa v w NN out (by grind[W3]) hw (by omega),ac]
def z0l(w:Nat)(l:List Int):List Int:=l.flatMap fun v=>bytes (aa .u64 v) w
theorem z1b(w:Nat)(l:List Int):(z0l w l).length=w*l.length:=by
 induction l with
 | nil=>rfl
 | cons a l ih=>grind[z0l,K2]
theorem yn2(w:Nat)(hw:w<=8):∀(post pre:List Int) (n:Nat) (out:List Int),post.length<n->(pre++post).length<1000000000->Huge (out.length+8*post.length+8)->
  z1w NN n (w:Int) ((pre++post).length:Int) (pre.length:Int) out (pre++post)=some ((),((),(out++z0l w post,(pre++post,()))))
 | _,_,0,_,h,_,_=>absurd h (ae _)
 | [],pre,n+1,out,_,_,_=>by simp[z7,z0l,z80]
 | v::post,pre,n+1,out,hn,hb,hl=>by
  have hl':out.length+8*(post.length+1)+8<4000000000000:=hl;have hb':pre.length+(post.length+1)<1000000000:=by grind
  have ih:=yn2 w hw post (pre++[v]) n (out++bytes (aa .u64 v) w) (by grind) (by grind) (by grind[K2]);rw[<-Q3]at ih;rw[z80];simp only[z7,Q7,cond_true,V5,zia pre v (by grind)];rw[gd_t U0,pnum _ w hw (by omega)]
  grind[z0l]
theorem yh5(w:Nat)(hw:w<=8){l:List Int}{out:List Int}(hb:l.length<1000000000)(hl:Huge (out.length+8*l.length+8)):Y2 NN (w:Int) out l=some ((),((),(out++z0l w l,(l,())))):=by
 have h:=yn2 w hw l [] NN out (by grind[W3]) (by grind) hl;rw[ah,show(([]:List Int).length:Int)=0 from rfl]at h
 grind[Y2]
theorem yhr(w:Nat)(hw:w<=8):∀(post pre:List Int) (n:Nat) (out:List Int),post.length<n->(pre++post).length<1000000000->Huge (out.length+8*post.length+8)->
  z10 NN n (w:Int) (pre++post) ((pre++post).length:Int) (pre.length:Int) out=some ((),((),(out++z0l w post,())))
 | _,_,0,_,h,_,_=>absurd h (ae _)
 | [],pre,n+1,out,_,_,_=>by simp[J9,z0l,z6p]
 | v::post,pre,n+1,out,hn,hb,hl=>by
  have hl':out.length+8*(post.length+1)+8<4000000000000:=hl;have hb':pre.length+(post.length+1)<1000000000:=by grind
  have ih:=yhr w hw post (pre++[v]) n (out++bytes (aa .u64 v) w) (by grind) (by grind) (by grind[K2]);rw[<-Q3]at ih;rw[z6p];simp only[J9,Q7,cond_true,V5,zia pre v (by grind)];rw[gd_t U0,pnum _ w hw (by omega)]
  grind[z0l]
theorem x4v(w:Nat)(hw:w<=8){l:List Int}{out:List Int}(hb:l.length<1000000000)(hl:Huge (out.length+8*l.length+8)):z2m NN (w:Int) l out=some ((),((),(out++z0l w l,()))):=by
 have h:=yhr w hw l [] NN out (by grind[W3]) (by grind) hl;rw[ah,show(([]:List Int).length:Int)=0 from rfl]at h
 grind[z2m]
def yda(l:List Mg):List Int:=z0l 4 [(l.length:Int)]++l.flatMap zub
theorem ydt(m:Mg):(zub m).length<300000:=by grind[zub,yqi]
theorem yug(l:List Mg):(l.flatMap zub).length<=300000*l.length:=Nv.flat_len _ _ _ fun m _=>Nat.le_of_lt (ydt m)
theorem y7s(l:List Mg):(yda l).length<=4+300000*l.length:=by grind[yda,yug,z1b]
theorem yn3:∀(post pre:List Mg) (n:Nat) (out:List Int),post.length<n->(pre++post).length<1000000->Huge (out.length+300000*post.length)->
  z4o NN n (pre++post) ((pre++post).length:Int) (pre.length:Int) out=some ((),((),(out++post.flatMap zub,())))
 | _,_,0,_,h,_,_=>absurd h (ae _)
 | [],pre,n+1,out,_,_,_=>by simp[j8,z9t]
 | v::post,pre,n+1,out,hn,hb,hl=>by
  have hl':out.length+300000*(post.length+1)<4000000000000:=hl;have hb':pre.length+(post.length+1)<1000000:=by grind
  have hv:=ydt v;have ih:=yn3 post (pre++[v]) n (out++zub v) (by grind) (by grind) (by grind);rw[<-Q3]at ih;rw[z9t];simp only[j8,Q7,cond_true,V5,zia pre v (by grind),yp6,ac]
  grind[gd_t,U0,yku]
theorem x2r{l:List Mg}{out:List Int}(hb:l.length<1000000)(hl:Huge (out.length+300000*l.length+100)):z4g NN l out=some ((),((),(out++yda l,()))):=by
 have hl':out.length+300000*l.length+100<4000000000000:=hl;have h:=yn3 l [] NN (out++z0l 4 [(l.length:Int)]) (by grind[W3]) (by grind) (by grind[z1b]);rw[ah,show(([]:List Mg).length:Int)=0 from rfl]at h;have h4:=yh5 4 (by omega) (l:=[(l.length:Int)]) (out:=out) (by simp) (by grind);rw[show((4:Nat):Int)=4 from rfl]at h4
 grind[z4g,yda]
def ze3(gen:Int)(cat:List Int)(cells:List Int):List Int:=
 z0l 1 [83]++z0l 4 [gen,(cat.length:Int)]++bytes (chk cat) 8++z0l 2 [(cells.length:Int)]++z0l 2 cells
theorem x4t{gen:Int}{cat cells:List Int}(h1:cat.length<100000000000)(h2:cells.length<1000000):zhp NN gen cat cells=some (ze3 gen cat cells++bytes (chk (ze3 gen cat cells)) 8):=by
 have a1:=yh5 1 (by omega) (l:=[83]) (out:=[]) (by simp) (by simp);have a2:=yh5 4 (by omega) (l:=[gen,(cat.length:Int)]) (out:=[]++z0l 1 [83]) (by simp) (by simp[z1b]);have a3:=pnum (chk cat) 8 (by omega) (out:=[]++z0l 1 [83]++z0l 4 [gen,(cat.length:Int)]) (by simp[z1b]);have a4:=yh5 2 (by omega) (l:=[(cells.length:Int)]) (out:=[]++z0l 1 [83]++z0l 4 [gen,(cat.length:Int)]++bytes (chk cat) 8) (by simp) (by simp[z1b,K2]);have a5:=x4v 2 (by omega) (l:=cells) (out:=[]++z0l 1 [83]++z0l 4 [gen,(cat.length:Int)]++bytes (chk cat) 8++z0l 2 [(cells.length:Int)]) (by omega) (by grind[z1b,K2]);have hs:(ze3 gen cat cells).length<1000000000000:=by grind[ze3,z1b,K2]
 have a6:=pnum (chk (ze3 gen cat cells)) 8 (by omega) (out:=ze3 gen cat cells) (by omega);simp only[show((1:Nat):Int)=1 from rfl,show((2:Nat):Int)=2 from rfl,show((4:Nat):Int)=4 from rfl,show((8:Nat):Int)=8 from rfl,ah]at a1 a2 a3 a4 a5 a6;have hc:=yd3 (l:=cat) (by omega);simp_all[ze3,zhp,yd3]
def yr7(x:Int):Int:=aa .i64 (((BitVec.ofInt (aM .i64) x&&&BitVec.ofInt (aM .i64) (65535:Int)).toNat:Int))
def yh4(M K:List Int)(i:Nat)(s:Z8):List Int:=
 if s.1=false then z0l 1 [0]else z0l 1 [if s.2.1=true then 2 else 1]++(z0l 4 [s.2.2.1]++(z0l 2 [yr7 (rdL M (i:Int) 0)]++bytes (rdL K (i:Int) 0) 8))
def y46(M K:List Int):Nat->List Z8->List Int
 | _,[]=>[]
 | i,s::r=>yh4 M K i s++y46 M K (i+1) r
def zri(e:V6):List Int:=z0l 4 [e.1,e.2.1]++(z0l 2 [e.2.2.1]++(z0l 1 [(e.2.2.2.1.length:Int)]++(U2 e.2.2.2.1++yda e.2.2.2.2)))
def catB(f:Z3)(M K:List Int):List Int:=
 z0l 1 [67,f.2.1.1,f.2.1.2.1,f.2.1.2.2]++(z0l 4 [f.2.2.2.1,f.2.2.2.2.2.1]++(z0l 2 [f.2.2.2.2.1]++(yda f.2.2.2.2.2.2++(z0l 1 [(f.2.2.1.length:Int)]++(f.2.2.1.flatMap zri++(z0l 2 [(f.1.length:Int)]++y46 M K 0 f.1))))))
theorem yhg(M K:List Int)(i:Nat)(s:Z8):(yh4 M K i s).length<=15:=by grind[yh4,z1b,K2]
theorem yci(M K:List Int):∀(l:List Z8) (i:Nat),(y46 M K i l).length<=15*l.length
 | [],_=>ai _
 | s::r,i=>by have:=yhg M K i s;have:=yci M K r (i+1);simp only[y46,aq,ag];omega
theorem y0y(e:V6):(zri e).length<=20+e.2.2.2.1.length+300000*e.2.2.2.2.length:=by grind[zri,y7s,z1b,ztg]
theorem n1{l out:List Int}(h:l.length<=4)(hl:Huge (out.length+100)):Y2 NN 1 out l=some ((),((),(out++z0l 1 l,(l,())))):=yh5 1 (by omega) (by omega) (by omega)
theorem n2{l out:List Int}(h:l.length<=4)(hl:Huge (out.length+100)):Y2 NN 2 out l=some ((),((),(out++z0l 2 l,(l,())))):=yh5 2 (by omega) (by omega) (by omega)
theorem n4{l out:List Int}(h:l.length<=4)(hl:Huge (out.length+100)):Y2 NN 4 out l=some ((),((),(out++z0l 4 l,(l,())))):=yh5 4 (by omega) (by omega) (by omega)
theorem n8{v:Int}{out:List Int}(hl:Huge (out.length+100)):K7 NN v 8 out=some ((),((),(out++bytes v 8,()))):=pnum v 8 (by omega) (by omega)
theorem ysb{M K:List Int}:∀(post pre:List Z8) (n:Nat) (out:List Int),post.length<n->(pre++post).length<1000000->(pre++post).length<=M.length->(pre++post).length<=K.length->Huge (out.length+15*post.length+200)->
  zbj NN n M K (pre++post) ((pre++post).length:Int) (pre.length:Int) out=some ((),((),(out++y46 M K pre.length post,())))
 | _,_,0,_,h,_,_,_,_=>absurd h (ae _)
 | [],pre,n+1,out,_,_,_,_,_=>by simp[z25,y46,zfz]
 | s::post,pre,n+1,out,hn,hb,hM,hK,hl=>by
  have hl':out.length+15*(post.length+1)+200<4000000000000:=hl;have hb':pre.length+(post.length+1)<1000000:=by grind
  have hs:=yhg M K pre.length s;have ih:=ysb (M:=M) (K:=K) post (pre++[s]) n (out++yh4 M K pre.length s) (by grind) (by grind) (by grind) (by grind) (by grind);rw[<-Q3,show(pre++[s]).length=pre.length+1 by simp]at ih;rw[zfz];simp only[z25,Q7,cond_true,V5,z8k (show pre.length<1000000000 by omega)];have hpm:inB (pre.length:Int) M.length=true:=V7 (by omega) (by grind);have hpk:inB (pre.length:Int) K.length=true:=V7 (by omega) (by grind);rw[gd_t U0,y46,<-List.append_assoc];cases h1:s.1
  ·rw[aN,cond_true,n1 (by simp) (by omega)]
   grind[yh4]
  ·have e:yh4 M K pre.length s=z0l 1 [if s.2.1=true then 2 else 1]++(z0l 4 [s.2.2.1]++(z0l 2 [yr7 (rdL M (pre.length:Int) 0)]++bytes (rdL K (pre.length:Int) 0) 8)):=by grind[yh4]
   rw[e]at ih|-;simp only[aG,cond_false,gd_t hpm,gd_t hpk];cases h2:s.2.1<;>simp only[h2,cond_true,cond_false,if_true,Bool.false_eq_true,if_false]at ih|-
   all_goals grind[yr7,n1,n4,n2,n8]
theorem ysc{M K:List Int}{f:Z3}:∀(post pre:List V6) (n:Nat) (out:List Int),post.length<n->(pre++post).length<1000000->(∀e∈post,e.2.2.2.1.length<1000/\e.2.2.2.2.length<10000)->Huge (out.length+3100000000*post.length+9000000000)->
  zbk NN n M K (pre++post) ((pre++post).length:Int) (pre.length:Int) f out=some ((M,(K,((),()))),(f,((),(out++post.flatMap zri,()))))
 | _,_,0,_,h,_,_,_=>absurd h (ae _)
 | [],pre,n+1,out,_,_,_,_=>by simp[z26,zg0]
 | s::post,pre,n+1,out,hn,hb,hE,hl=>by
  have hl':out.length+3100000000*(post.length+1)+9000000000<4000000000000:=hl;have hb':pre.length+(post.length+1)<1000000:=by grind
  obtain⟨e1,e2⟩:=hE s (by simp);have hs:=y0y s;have hp:(zri s).length<=3100000000:=by omega
  have ih:=ysc (M:=M) (K:=K) (f:=f) post (pre++[s]) n (out++zri s) (by grind) (by grind) (fun e he=>hE e (by grind)) (by grind);rw[<-Q3,show(pre++[s]).length=pre.length+1 by simp]at ih;rw[zg0];simp only[z26,Q7,cond_true,V5,z8k (show pre.length<1000000000 by omega)];rw[gd_t U0,n4 (by simp) (by omega)]
  grind[zri,n2,n1,gd_t,yku,x2r]
theorem yxn{f:Z3}{M K:List Int}(hs:f.1.length<100000)(he:f.2.2.1.length<=16)(hE:∀e∈f.2.2.1,e.2.2.2.1.length<1000/\e.2.2.2.2.length<10000)(hm:f.2.2.2.2.2.2.length<10000):(catB f M K).length<60000000000:=by
 have h1:=yci M K f.1 0;have h2:=y7s f.2.2.2.2.2.2;have h3:=Nv.flat_len zri 3100000000 f.2.2.1 fun e he=>by grind[y0y]
 grind[catB,z1b]
theorem pcat{f:Z3}{M K:List Int}(hs:f.1.length<100000)(hM:f.1.length<=M.length)(hK:f.1.length<=K.length)(he:f.2.2.1.length<=16)(hE:∀e∈f.2.2.1,e.2.2.2.1.length<1000/\e.2.2.2.2.length<10000)(hm:f.2.2.2.2.2.2.length<10000):
  zhq NN f M K=some (catB f M K):=by
 have h2:=y7s f.2.2.2.2.2.2;have h3:=Nv.flat_len zri 3100000000 f.2.2.1 fun e he=>by grind[y0y]
 have c0:=ysc (M:=M) (K:=K) (f:=f) f.2.2.1 [] NN (z0l 1 [67,f.2.1.1,f.2.1.2.1,f.2.1.2.2]++z0l 4 [f.2.2.2.1,f.2.2.2.2.2.1]++z0l 2 [f.2.2.2.2.1]++yda f.2.2.2.2.2.2++z0l 1 [(f.2.2.1.length:Int)]) (by grind[W3]) (by grind) hE (by grind[z1b]);have c1:=ysb (M:=M) (K:=K) f.1 [] NN (z0l 1 [67,f.2.1.1,f.2.1.2.1,f.2.1.2.2]++z0l 4 [f.2.2.2.1,f.2.2.2.2.2.1]++z0l 2 [f.2.2.2.2.1]++yda f.2.2.2.2.2.2++z0l 1 [(f.2.2.1.length:Int)]++f.2.2.1.flatMap zri++z0l 2 [(f.1.length:Int)]) (by grind[W3]) (by grind) (by grind) (by grind) (by grind[z1b]);rw[ah,show(([]:List V6).length:Int)=0 from rfl]at c0;rw[ah,show(([]:List Z8).length:Int)=0 from rfl]at c1;simp only[zhq];rw[n1 (by simp) (by simp)];simp only[ac];rw[n4 (by simp) (by simp[z1b])];simp only[ac];rw[n2 (by simp) (by simp[z1b])];simp only[ac];rw[x2r (by omega) (by grind[z1b])]
 grind[catB,n1,z1b,n2]
def zkf(k:Nat):Nat->List Int->List (List Int)
 | 0,_=>[]
 | n+1,l=>if l=[]then[]else l.take k::zkf k n (l.drop k)
theorem y99(k:Nat):∀(n:Nat) (l:List Int),(zkf k n l).length<=n
 | 0,_=>ai _
 | n+1,l=>by have:=y99 k n (l.drop k);unfold zkf;split<;>simp;omega
theorem y98(k:Nat):∀(n:Nat) (l p:List Int),p∈zkf k n l->p.length<=k
 | 0,_,_,h=>by cases h
 | n+1,l,p,h=>by
  unfold zkf at h;split at h
  ·cases h
  ·rcases ar.1 h with rfl | h
   ·grind
   ·exact y98 k n _ p h
theorem yhu{b:List Int}{k:Nat}(hk:1<=k)(hb:b.length<100000000000)(hk2:k<1000000):∀(d n j:Nat) (acc:List (List Int)),b.length<=j+d->d<n->j<=b.length+k->acc.length+d<150000000000->
  u7 NN n b (k:Int) (j:Int) acc=some ((),((),((),(acc++zkf k d (b.drop j),()))))
 | _,0,_,_,_,h,_,_=>absurd h (ae _)
 | 0,n+1,j,acc,hd,_,_,_=>by simp_all[K4,zkf,z2o,decide_eq_false]
 | d+1,n+1,j,acc,hd,hn,hj,ha=>by
  rw[z2o];simp only[K4];by_cases h:j<b.length
  ·have hx:((cut2 b (j:Int) (b.length:Int)).length:Int)=((b.length-j:Nat):Int):=by simp[cut2]
   have hm:(bif decide (((b.length-j:Nat):Int)<(k:Int))then((b.length-j:Nat):Int)else(k:Int))=((min (b.length-j) k:Nat):Int):=by grind
   have hw:aa .i64 ((j:Int)+((min (b.length-j) k:Nat):Int))=((j+min (b.length-j) k:Nat):Int):=by grind[w64]
   have hw2:aa .i64 ((j:Int)+(k:Int))=((j+k:Nat):Int):=by grind[w64]
   have hc:cut2 b (j:Int) ((j+min (b.length-j) k:Nat):Int)=(b.drop j).take k:=by simp only[cut2,cG];simp;omega
   have hne:b.drop j≠[]:=by simp_all
   have ih:=yhu hk hb hk2 d n (j+k) (acc++[(b.drop j).take k]) (by omega) (by omega) (by omega) (by grind);rw[W8 (decide_eq_true (by omega)),hx,hm,hw,hw2,gd_t (by grind),gd_t (by simp;omega),hc];simp only[V8];rw[gd_t (ygx (by constructor<;>grind) (by constructor<;>grind))];simp only[ac];have e:(@HAppend.hAppend (List (List Int)) (List (List Int)) (List (List Int)) _ acc [(b.drop j).take k])=acc++[(b.drop j).take k]:=rfl;simp_all[zkf]
  simp_all[zkf,decide_eq_false]
def zxy(b:List Int)(k:Nat):List (List Int):=zkf k b.length b
theorem x0r{b:List Int}{k:Nat}(hk:1<=k)(hb:b.length<100000000000)(hk2:k<1000000):zl5 NN b (k:Int)=some (zxy b k):=by have h:=yhu hk hb hk2 b.length NN 0 [] (by omega) (by grind[yb3]) (by omega) (by grind);rw[show((0:Nat):Int)=0 from rfl,List.drop_zero,ah]at h;have h1:decide ((k:Int)<1)=false:=decide_eq_false (by omega);simp only[zl5,z54,h1,cond_false,ac,K8,Q1,U3,z2e,h,zxy]
theorem yps(b:List Int)(k:Nat):(zxy b k).length<=b.length:=y99 k _ _
theorem ypr{b p:List Int}{k:Nat}(h:p∈zxy b k):p.length<=k:=y98 k _ _ _ h
theorem x1m{m:Mg}(h:GM 1831 m):(z3f m).length<=12000:=by
 have ul:∀u∈UU 1831,u.length<=4000:=fun u hu=>by have:=UU.len hu;omega
 have el:∀e∈ends,e.1.length+e.2.length<=1000:=fun e he=>by
  have h:(ends.all fun e=>Nat.ble (e.1.length+e.2.length) 1000)=true:=by decide+kernel
  simp_all
 have hl:∀s:Sp,SpG 1831 s->s.1.length+s.2.length<=8000:=fun s hs=>by have:=ul _ hs.2.1;have:=ul _ hs.2.2;omega
 cases h with
 | put k v n hk hv=>
  have:=ul _ (UU.of hk);have:=y07 hv;have e:z3f (zu6 k v n)=aa .u8 1::(z6l k++z6l v++bytes n 4):=rfl
  grind[z8,K2]
 | del k hk=>
  have:=ul _ (UU.of hk);have e:z3f (y4a k)=aa .u8 2::z6l k:=rfl
  grind[z8]
 | drop s hs=>have:=hl s hs;simp[z3f,y10,eqi,z8];omega
 | move e he=>have:=el e he;simp[z3f,y10,eqi,z8];omega
 | clone e he=>have:=el e he;simp[z3f,y10,eqi,z8];omega
 | stamp s n hs=>have:=hl s hs;simp[z3f,y10,eqi,z8,K2];omega
def znu(nd:Z6):List Int:=bif valB nd allS then yb2 nd else[]
theorem x5l{nd:Z6}(h:NodeF nd):znt NN nd=some (znu nd)/\(znu nd).length<500000000000:=by
 have h1:=h.ps.len;have h2:Nv.SmallN nd:=⟨by omega,by have:=h.piv.1;omega,by have:=h.kids.1;omega,by rw[h.sums];have:=h.kids.1;omega,by have:=h.buf.1;omega⟩;have h3:Nv.PivS nd:=fun p hp=>by have:=UU.len (UU.of (h.piv.2 p hp));omega
 have h4:∀m∈nd.2.2.2.2,(z3f m).length<=12000:=fun m hm=>x1m (h.buf.2 m hm);exact⟨yqz h2 h3 h4,yqh h2 h3 h4⟩
theorem bs_n(v:Int):∀w,isBs (bytes v w)
 | 0=>zwg
 | w+1=>J4 (yds _) (bs_n v w)
theorem bs_t(k:B):isBs (z6l k):=J4 (bs_n _ _) (yrc k)
theorem y7c{α:Type}{f:α->List Int}{l:List α}(h:∀x,isBs (f x)):isBs (l.flatMap f):=fun b hb=>by grind
theorem bs_m(m:Mg):isBs (z3f m):=by
 have:isBs (y10 m):=by
  unfold y10
  cases eqi m.1 1<;>cases eqi m.1 2<;>cases eqi m.1 3<;>cases eqi m.1 6<;>first
   | exact bs_t _
   | exact J4 (bs_t _) (bs_t _)
   | exact J4 (J4 (bs_t _) (bs_t _)) (bs_n _ _)
 exact J4 (yds m.1) this
theorem bs_c{x:Int}(h:isB x){l:List Int}(hl:isBs l):isBs (x::l):=fun b hb=>by grind
theorem ywu(nd:Z6):isBs (znu nd):=by
 unfold znu yb2;cases valB nd allS
 ·grind
 ·cases nd.2.2.1.isEmpty
  ·exact bs_c (by decide) (J4 (bs_n _ _) (J4 (y7c fun _=>bs_n _ _) (J4 (y7c bs_t) (J4 (y7c fun _=>J4 (bs_n _ _) (J4 (bs_n _ _) (J4 (bs_n _ _) (bs_n _ _)))) (J4 (bs_n _ _) (y7c bs_m))))))
  ·exact bs_c (by decide) (J4 (bs_n _ _) (y7c fun _=>J4 (bs_t _) (J4 (bs_t _) (bs_n _ _))))
theorem IU2{l:List Int}(h:isBs l):U2 (z2j l)=l:=by
 unfold U2 z2j;rw[List.map_map]
 conv=>rhs;rw[<-List.map_id l]
 refine List.map_congr_left fun x hx=> ?_;have:=h x hx;simp;omega
theorem x4w{a b:List Int}(ha:isBs a)(hb:isBs b):zpj NN a b=some (decide (a=b)):=by
 simp only[zpj];congr 1;rw[Bool.eq_iff_iff,y6,decide_eq_true_iff]
 grind[IU2]
end Ds
namespace Ds
open Go Go.Dv
set_option maxRecDepth 100000
variable [Fuel]
abbrev T9(sz:Int)(C:List (List Int))(q:List Wt)(u:List Bool)(la:List Int)(ke lo ge se:Int):(Int×((List (List Int))×((List Y5)×((List Bool)×((List Int)×(Int×(Int×(Int×(Int×(Unit×(Unit×Unit))))))))))):=
 (sz,(C,(q,(u,(la,(ke,(lo,(ge,(se,((),((),())))))))))))
theorem pput{sz:Int}{C:List (List Int)}{q:List Wt}{u:List Bool}{b:List Int}(hq:q.length<100000)(hu:u.length<100000)(hb:b.length<1000000000000)(la:List Int)(lo ge se:Int)(M K ca:List Int):
  z7r NN b sz C q u la 0 lo ge se M K ca=some (.inl ((),(T9 sz C q u la 0 lo ge se,(M,(K,(ca,()))))))\/
  ∃i:Nat,i<u.length/\rdL u (i:Int) false=false/\(i:Int)<(C.length:Int)/\(b.length:Int)<=sz/\
   z7r NN b sz C q u la 0 lo ge se M K ca=some (.inr ((i:Int),(T9 sz C (q++[(false,((i:Int),b))]) (setL u (i:Int) true) la 0 lo ge se,(M,(K,(ca,())))))):=by
 simp only[z7r,zc1];rcases atake (a:=(u,(la,0))) hu rfl with h | ⟨i,i1,i2,h⟩
 ·rw[h];exact .inl rfl
 ·rw[h];rcases dput (d:=(sz,(C,q))) hq (i:Int) hb with h2 | ⟨c1,c2,c3,h2⟩
  ·simp only[ac,h2];exact .inl rfl
  grind
def yks(old:Z4)(i:Nat)(nd:Z6):Prop:=i<(mapS old).length/\0<=rdL (mapS old) (i:Int) 0/\gF old.1 (rdL (mapS old) (i:Int) 0)=znu nd
structure StI (st:Z4):Prop where
 sz:1<=st.1.1/\st.1.1<=65536
 nc:st.1.2.1.length<=4096
 ql:st.1.2.2.length<=30000
 cb:∀c∈st.1.2.1,(c.length:Int)<=st.1.1
 qb:∀w∈st.1.2.2,(w.2.2.length:Int)<=st.1.1
 gb:∀j:Nat,j<(mapS st).length->0<=rdL (mapS st) (j:Int) 0->isBs (gF st.1 (rdL (mapS st) (j:Int) 0))
 ul:st.2.1.1.length=st.1.2.1.length
 la:st.2.1.2=([],0)
 u0:rdL st.2.1.1 0 false=true
 u1:rdL st.2.1.1 1 false=true
 ml:(mapS st).length<=50000
 kl:(chkS st).length=(mapS st).length
 mp:∀j:Nat,j<(mapS st).length->rdL (mapS st) (j:Int) 0= -1\/2<=rdL (mapS st) (j:Int) 0/\rdL (mapS st) (j:Int) 0<(st.1.2.1.length:Int)/\rdL st.2.1.1 (rdL (mapS st) (j:Int) 0) false=true
 mn:∀j k:Nat,j<(mapS st).length->k<(mapS st).length->0<=rdL (mapS st) (j:Int) 0->rdL (mapS st) (j:Int) 0=rdL (mapS st) (k:Int) 0->j=k
 ca:st.2.2.2.2.2.2.2.length<=50000
theorem x2s(st:Z4)(hm:(mapS st).length<1000000000)(i:Nat):znq NN st (i:Int)=some (if i<(mapS st).length then rdL (mapS st) (i:Int) 0 else-1):=by simp only[znq];split<;>simp_all[decide_eq_false,gd_t,V7]
theorem ydh(sz:Int)(C:List (List Int))(q:List Wt)(i c:Int)(b:List Int):gF (sz,(C,q++[(false,(i,b))])) c=if i=c then b else gF (sz,(C,q)) c:=by unfold gF;split<;>simp_all[y80,G6]
theorem ynz(sz:Int)(C:List (List Int))(q:List Wt)(c:Int)(z:Int×List Int):gF (sz,(C,q++[(true,z)])) c=gF (sz,(C,q)) c:=by simp[gF,y80]
section place
variable {old:Z4} (hO:StI old) {i:Nat} {s:Z8} (hs:s.1=true->s.2.1=false/\NodeF s.2.2.2)
 {sz:Int} {C:List (List Int)} {q:List Wt} {u:List Bool} (hq:q.length<100000) (hu:u.length<100000) (la:List Int) (lo ge se:Int) (M K ca:List Int)
include hO hs hq hu in
theorem pplace:
  (s.1=false/\z7s NN old (i:Int) s sz C q u la 0 lo ge se M K ca=some (.inl ((-1,0),(T9 sz C q u la 0 lo ge se,(M,(K,(ca,())))))))\/
  (s.1=true/\yks old i s.2.2.2/\z7s NN old (i:Int) s sz C q u la 0 lo ge se M K ca=some (.inl ((rdL (mapS old) (i:Int) 0,chk (znu s.2.2.2)),(T9 sz C q u la 0 lo ge se,(M,(K,(ca,())))))))\/
  (s.1=true/\¬yks old i s.2.2.2/\(z7s NN old (i:Int) s sz C q u la 0 lo ge se M K ca=some (.inr ((),(T9 sz C q u la 0 lo ge se,(M,(K,(ca,()))))))\/
   ∃k:Nat,k<u.length/\rdL u (k:Int) false=false/\(k:Int)<(C.length:Int)/\((znu s.2.2.2).length:Int)<=sz/\
    z7s NN old (i:Int) s sz C q u la 0 lo ge se M K ca=some (.inl (((k:Int),chk (znu s.2.2.2)),(T9 sz C (q++[(false,((k:Int),znu s.2.2.2))]) (setL u (k:Int) true) la 0 lo ge se,(M,(K,(ca,())))))))):=by
 have hcell:=x2s old (by have:=hO.ml;omega) i;simp only[z7s,hcell,ac];cases h1:s.1
 ·exact .inl ⟨rfl,rfl⟩
 ·obtain⟨h2,h3⟩:=hs h1;obtain⟨n1,n2⟩:=x5l h3;have hk:z82 NN (znu s.2.2.2)=some (chk (znu s.2.2.2)):=yd3 (by omega);have hp:=pput (b:=znu s.2.2.2) (sz:=sz) (C:=C) hq hu (by omega) la lo ge se M K ca;refine .inr ?_;rw[h2];simp only[aG,cond_false,zbi,h2,n1,ac];by_cases h0:0<=(if i<(mapS old).length then rdL (mapS old) (i:Int) 0 else-1)
  ·have hi:i<(mapS old).length:=by
    by_cases hi:i<(mapS old).length
    ·exact hi
    ·rw[if_neg hi]at h0;omega
   rw[if_pos hi]at h0|-;have hg:=x3b (d:=old.1) (by have:=hO.ql;omega) (rdL (mapS old) (i:Int) 0);have hr:rdL (mapS old) (i:Int) 0<(old.1.2.1.length:Int):=by rcases hO.mp i hi with h | h<;>omega
   rw[if_pos ⟨h0,hr⟩]at hg;rw[decide_eq_true h0,cond_true,hg];simp only[ac];rw[x4w (hO.gb i hi h0) (ywu _)];simp only[ac];by_cases hkp:gF old.1 (rdL (mapS old) (i:Int) 0)=znu s.2.2.2
   ·rw[decide_eq_true hkp,cond_true,hk];exact .inl ⟨trivial,⟨hi,h0,hkp⟩,rfl⟩
   ·rw[decide_eq_false hkp,cond_false];refine .inr ⟨trivial,fun h=>hkp h.2.2, ?_⟩;rcases hp with hp | ⟨k,k1,k2,k3,k4,hp⟩
    ·rw[hp];exact .inl rfl
    ·rw[hp];simp only[ac,hk];exact .inr ⟨k,k1,k2,k3,k4,rfl⟩
  ·rw[decide_eq_false h0,cond_false];refine .inr ⟨trivial,fun h=>h0 (by rw[if_pos h.1];exact h.2.1), ?_⟩;rcases hp with hp | ⟨k,k1,k2,k3,k4,hp⟩
   ·rw[hp];exact .inl rfl
   ·rw[hp];simp only[ac,hk];exact .inr ⟨k,k1,k2,k3,k4,rfl⟩
end place
structure PI2 (old:Z4) (p:List Sl) (i:Nat) (q:List Wt) (u:List Bool) (M K:List Int):Prop where
 ml:M.length=i
 kl:K.length=i
 un:∀j:Nat,j<i->W5 p (j:Int)=false->rdL M (j:Int) 0= -1
 us:∀j:Nat,j<i->W5 p (j:Int)=true->2<=rdL M (j:Int) 0/\rdL M (j:Int) 0<(old.1.2.1.length:Int)/\rdL u (rdL M (j:Int) 0) false=true/\
  gF (old.1.1,(old.1.2.1,q)) (rdL M (j:Int) 0)=znu (z74 (slA p (j:Int)))/\rdL K (j:Int) 0=chk (znu (z74 (slA p (j:Int))))
 ne:∀j k:Nat,j<i->k<i->W5 p (j:Int)=true->W5 p (k:Int)=true->rdL M (j:Int) 0=rdL M (k:Int) 0->j=k
 ol:∀c:Int,0<=c->rdL old.2.1.1 c false=true->rdL u c false=true
 kept:∀j:Nat,j<i->W5 p (j:Int)=true->yks old j (z74 (slA p (j:Int)))->rdL M (j:Int) 0=rdL (mapS old) (j:Int) 0
 gk:∀c:Int,0<=c->rdL old.2.1.1 c false=true->gF (old.1.1,(old.1.2.1,q)) c=gF old.1 c
 frsh:∀j:Nat,j<i->W5 p (j:Int)=true->rdL old.2.1.1 (rdL M (j:Int) 0) false=true->yks old j (z74 (slA p (j:Int)))
structure QI (old:Z4) (q:List Wt) (u:List Bool):Prop where
 ul:u.length=old.2.1.1.length
 ql:q.length+u.count false<=old.1.2.2.length+old.2.1.1.count false
 qb:∀w∈q,(w.2.2.length:Int)<=old.1.1
theorem QI.short{old:Z4}(hO:StI old){q:List Wt}{u:List Bool}(h:QI old q u):q.length<100000/\u.length<100000:=by have h1:=h.ql;have h2:=hO.ql;have h3:old.2.1.1.count false<=old.2.1.1.length:=bA;have h4:=hO.ul;have h5:=hO.nc;have h6:=h.ul;omega
theorem QI.add{old:Z4}{q:List Wt}{u:List Bool}(h:QI old q u){k:Nat}(hk:k<u.length)(hf:rdL u (k:Int) false=false){b:List Int}(hl:(b.length:Int)<=old.1.1):
  QI old (q++[(false,((k:Int),b))]) (setL u (k:Int) true):=by
 obtain⟨h1,h2,h3⟩:=h;refine⟨by simp_all, ?_,fun w hw=> ?_⟩
 all_goals grind[rdL,setL]
section step
variable {old:Z4} {p:List Sl} {j:Nat} {q q2:List Wt} {u u2:List Bool} {M K:List Int}
theorem PI2.step(h:PI2 old p j q u M K){c k:Int}(hu:W5 p (j:Int)=false->c= -1)
  (hs:W5 p (j:Int)=true->(2<=c/\c<(old.1.2.1.length:Int)/\rdL u2 c false=true/\gF (old.1.1,(old.1.2.1,q2)) c=znu (z74 (slA p (j:Int)))/\k=chk (znu (z74 (slA p (j:Int)))))/\
   (∀i:Nat,i<j->W5 p (i:Int)=true->rdL M (i:Int) 0≠c)/\(yks old j (z74 (slA p (j:Int)))->c=rdL (mapS old) (j:Int) 0)/\(rdL old.2.1.1 c false=true->yks old j (z74 (slA p (j:Int)))))
  (hm:∀c:Int,0<=c->rdL u c false=true->rdL u2 c false=true) (hg:∀c:Int,0<=c->rdL u c false=true->gF (old.1.1,(old.1.2.1,q2)) c=gF (old.1.1,(old.1.2.1,q)) c):
  PI2 old p (j+1) q2 u2 (M++[c]) (K++[k]):=by
 obtain⟨h1,h2,h3,h4,h5,h6,h7,h8,h9⟩:=h;have rm:rdL (M++[c]) (j:Int) 0=c:=by grind[ykm]
 have rc:rdL (K++[k]) (j:Int) 0=k:=by grind[ykm]
 have om:∀i:Nat,i<j->rdL (M++[c]) (i:Int) 0=rdL M (i:Int) 0:=fun i hi=>ykl (by omega) c;have oc:∀i:Nat,i<j->rdL (K++[k]) (i:Int) 0=rdL K (i:Int) 0:=fun i hi=>ykl (by omega) k;refine⟨by grind,by grind,fun i hi hf=> ?_,fun i hi ht=> ?_,fun i l hi hl hit hlt he=> ?_,fun c h0 hc=>hm c h0 (h6 c h0 hc),fun i hi ht hk=> ?_,fun c h0 hc=>(hg c h0 (h6 c h0 hc)).trans (h8 c h0 hc),fun i hi ht hk=> ?_⟩
 ·grind
 ·grind
 ·grind
 ·grind
 grind
end step
section l0
variable {f:Z3} {old:Z4} (hO:StI old) (hl:f.1.length<=50000) (hN:∀i,W5 f.1 i=true->(slA f.1 i).2.1=false/\NodeF (z74 (slA f.1 i)))
include hO hl hN in
theorem yn0(la:List Int)(lo ge se:Int)(ca:List Int):∀(d j:Nat) (n:Nat) (q:List Wt) (u:List Bool) (M K:List Int),j+d=f.1.length->d<n->QI old q u->PI2 old f.1 j q u M K->
  (∃z m k c,z5z NN n f.1 (f.1.length:Int) (j:Int) f old.1.1 old.1.2.1 q u la 0 lo ge se M K ca old=some (.inl ((),(f,(z,(m,(k,(c,(old,())))))))))\/
  ∃q' u' M' K',z5z NN n f.1 (f.1.length:Int) (j:Int) f old.1.1 old.1.2.1 q u la 0 lo ge se M K ca old=some (.inr (((),((),())),(f,(T9 old.1.1 old.1.2.1 q' u' la 0 lo ge se,(M',(K',(ca,(old,()))))))))/\
   QI old q' u'/\PI2 old f.1 f.1.length q' u' M' K'
 | _,_,0,_,_,_,_,_,h,_,_=>absurd h (ae _)
 | 0,j,n+1,q,u,M,K,hj,_,hq,hi=>by
  have e:j=f.1.length:=by omega
  rw[zdp];simp only[z0x];rw[X5 (decide_eq_false (by omega))];exact .inr ⟨q,u,M,K,rfl,hq,e▸hi⟩
 | d+1,j,n+1,q,u,M,K,hj,hd,hq,hi=>by
  have hin:inB (j:Int) f.1.length=true:=V7 (by omega) (by omega);obtain⟨q1,q2⟩:=hq.short hO;have hub:W5 f.1 (j:Int)=(rdL f.1 (j:Int) X1).1:=by unfold W5 slA;rw[decide_eq_true (show(0:Int)<=(j:Int) by omega),decide_eq_true (show(j:Int)<(f.1.length:Int) by omega)];rfl
  have hml:=hi.ml;have hkl:=hi.kl;rw[zdp];simp only[z0x,z8k (show j<1000000000 by omega)];rw[W8 (decide_eq_true (by omega)),gd_t hin];have go:∀(c k:Int) (q2:List Wt) (u2:List Bool),QI old q2 u2->PI2 old f.1 (j+1) q2 u2 (M++[c]) (K++[k])->_:=fun c k q2 u2 h1 h2=>yn0 la lo ge se ca d (j+1) n q2 u2 (M++[c]) (K++[k]) (by omega) (by omega) h1 h2;rcases pplace hO (i:=j) (s:=rdL f.1 (j:Int) X1) (fun h=>hN (j:Int) (hub.trans h)) (sz:=old.1.1) (C:=old.1.2.1) q1 q2 la lo ge se M K ca with⟨h1,h⟩ | ⟨h1,h2,h⟩ | ⟨h1,h2,h | ⟨k,k1,k2,k3,k4,h⟩⟩
  ·rw[h];simp only[ac];rw[gd_t (Y9 (by omega) (by omega)),gd_t (Y9 (by omega) (by omega))];exact go (-1) 0 q u hq (hi.step (fun _=>rfl) (fun h=>by rw[hub,h1]at h;cases h) (fun _ _ h=>h) fun _ _ _=>rfl)
  ·rw[h];simp only[ac];rw[gd_t (Y9 (by omega) (by omega)),gd_t (Y9 (by omega) (by omega))];obtain⟨p1,p2,p3⟩:=h2;have hmp:2<=rdL (mapS old) (j:Int) 0/\rdL (mapS old) (j:Int) 0<(old.1.2.1.length:Int)/\rdL old.2.1.1 (rdL (mapS old) (j:Int) 0) false=true:=by
    rcases hO.mp j p1 with h | h
    ·omega
    ·exact h
   refine go _ _ q u hq (hi.step (fun h=>by rw[hub,h1]at h;cases h) (fun _=>⟨⟨hmp.1,hmp.2.1,hi.ol _ p2 hmp.2.2,(hi.gk _ p2 hmp.2.2).trans p3,rfl⟩,fun i hij hiu e=> ?_,fun _=>rfl,fun _=>⟨p1,p2,p3⟩⟩) (fun _ _ h=>h) fun _ _ _=>rfl);have hk:=hi.frsh i hij hiu (by rw[e];exact hmp.2.2);have:=hi.kept i hij hiu hk;have:=hO.mn i j hk.1 p1 (by omega) (by omega);omega
  ·rw[h];exact .inl ⟨_,_,_,_,rfl⟩
  ·rw[h];simp only[ac];rw[gd_t (Y9 (by omega) (by omega)),gd_t (Y9 (by omega) (by omega))];have hne:∀c:Int,rdL u c false=true->c≠(k:Int):=fun c hc e=>by rw[e,k2]at hc;cases hc
   have hset:∀c:Int,0<=c->rdL u c false=true->rdL (setL u (k:Int) true) c false=true:=fun c h0 hc=>by rw[z4t (by omega) h0 (hne c hc)];exact hc
   have h0:=hne 0 (hi.ol 0 (by omega) hO.u0);have h1':=hne 1 (hi.ol 1 (by omega) hO.u1);refine go _ _ _ _ (hq.add k1 k2 k4) (hi.step (fun h=>by rw[hub,h1]at h;cases h) (fun _=>⟨⟨by omega,k3,zix (by omega) (by omega),by rw[ydh,if_pos rfl];rfl,rfl⟩,fun i hij hiu e=>hne _ (hi.us i hij hiu).2.2.1 e,fun hk=>(h2 hk).elim,fun h=>absurd rfl (hne _ (hi.ol _ (by omega) h))⟩) hset fun c h0 hc=>by rw[ydh,if_neg (hne c hc).symm])
end l0
theorem PI2.mono{old:Z4}{p:List Sl}{j:Nat}{q q2:List Wt}{u u2:List Bool}{M K:List Int}(h:PI2 old p j q u M K)
  (hm:∀c:Int,0<=c->rdL u c false=true->rdL u2 c false=true) (hg:∀c:Int,0<=c->rdL u c false=true->gF (old.1.1,(old.1.2.1,q2)) c=gF (old.1.1,(old.1.2.1,q)) c):PI2 old p j q2 u2 M K:=by
 obtain⟨h1,h2,h3,h4,h5,h6,h7,h8,h9⟩:=h;refine⟨h1,h2,h3,fun i hi ht=> ?_,h5,fun c h0 hc=>hm c h0 (h6 c h0 hc),h7,fun c h0 hc=>(hg c h0 (h6 c h0 hc)).trans (h8 c h0 hc),h9⟩
 grind
section l1
variable {f:Z3} {old:Z4} (hO:StI old) {cat:List Int} {ps:List (List Int)} (hp:ps.length<1000000000000) (hps:∀p∈ps,p.length<1000000000000)
include hO hp hps in
theorem ymz(la:List Int)(lo ge se:Int)(M K:List Int):∀(d j:Nat) (n:Nat) (q:List Wt) (u:List Bool) (ca:List Int),j+d=ps.length->d<n->QI old q u->PI2 old f.1 f.1.length q u M K->ca.length<=q.length->
  (∃z m k c,z5y NN n cat (ps.length:Int) (j:Int) old.1.1 old.1.2.1 q u la 0 lo ge se M K ca old ps f=some (.inl ((),(f,(z,(m,(k,(c,(old,())))))))))\/
  ∃q' u' ca',z5y NN n cat (ps.length:Int) (j:Int) old.1.1 old.1.2.1 q u la 0 lo ge se M K ca old ps f=some (.inr (((),((),cat)),(T9 old.1.1 old.1.2.1 q' u' la 0 lo ge se,(M,(K,(ca',(old,(f,()))))))))/\
   QI old q' u'/\PI2 old f.1 f.1.length q' u' M K/\ca'.length<=q'.length
 | _,_,0,_,_,_,_,h,_,_,_=>absurd h (ae _)
 | 0,j,n+1,q,u,ca,hj,_,hq,hi,hc=>by rw[zdo];simp only[z0w];rw[X5 (decide_eq_false (by omega))];exact .inr ⟨q,u,ca,rfl,hq,hi,hc⟩
 | d+1,j,n+1,q,u,ca,hj,hd,hq,hi,hc=>by
  have hin:inB (j:Int) ps.length=true:=V7 (by omega) (by omega);obtain⟨q1,q2⟩:=hq.short hO;have b2:=hps _ (z8x (p:=ps) (d:=[]) (i:=(j:Int)) (by omega) (by omega));have hw:aa .i64 ((j:Int)+1)=((j+1:Nat):Int):=by rw[w64 (by omega) (by omega)];rfl
  rw[zdo];simp only[z0w,zdm,hw];rw[W8 (decide_eq_true (by omega)),gd_t hin];rcases pput (sz:=old.1.1) (C:=old.1.2.1) q1 q2 b2 la lo ge se M K ca with h | ⟨k,k1,k2,k3,k4,h⟩
  ·rw[h];exact .inl ⟨_,_,_,_,rfl⟩
  ·rw[h];simp only[ac];rw[gd_t (Y9 (by omega) (by omega))];simp only[ac,hw];have hne:∀c:Int,rdL u c false=true->c≠(k:Int):=fun c hc e=>by rw[e,k2]at hc;cases hc
   exact ymz la lo ge se M K d (j+1) n _ _ _ (by omega) (by omega) (hq.add k1 k2 k4) (hi.mono (fun c h0 hc=>by rw[z4t (by omega) h0 (hne c hc)];exact hc) fun c h0 hc=>by rw[ydh,if_neg (hne c hc).symm]) (by rw[aq,aq];simp;omega)
end l1
theorem yis{l:List Int}(hl:l.length<1000000)(x:Int):∀(d j n:Nat),j+d=l.length->d<n->∃r,z1q NN n l x (l.length:Int) (j:Int)=some r
 | _,_,0,_,h=>absurd h (ae _)
 | 0,j,n+1,hj,_=>by rw[z7v];simp only[G8];simp_all
 | d+1,j,n+1,hj,hn=>by
  have ih:=yis hl x d (j+1) n (by omega) (by omega);rw[z7v];simp only[G8,z8k (show j<1000000000 by omega)];rw[W8 (decide_eq_true (by omega)),gd_t (V7 (by omega) (by omega))]
  grind
theorem x3d{u:List Bool}{la:List Int}(ke at':Int)(hl:la.length<1000000):∃l e,zo4 NN (u,(la,ke)) at'=some ((u,(l,ke)),e)/\(l=la\/l=la++[at']/\0<=at'/\at'<(u.length:Int)):=by
 obtain⟨r,hr⟩:=yis hl at' la.length 0 NN (by omega) (by grind[W3]);rw[show((0:Nat):Int)=0 from rfl]at hr;obtain⟨c,hc⟩:∃c,z1r NN la at'=some c:=by simp only[z1r,z8o,hr,ac];split<;>simp_all
 simp only[zo4,z9y,z9z,z18,hc,ac,cond_true];by_cases h0:at'<0
 ·simp_all
 ·rw[X5 (decide_eq_false h0)];by_cases h1:(u.length:Int)<=at'
  ·simp_all
  ·rw[X5 (decide_eq_false h1),gd_t (V7 (by omega) (by omega))];cases rdL u at' false
   ·simp
   ·cases c
    ·simp only[aG,cond_false,ac];rw[gd_t (Y9 (by omega) (by omega))];simp only[ac];rw[gd_t (Y9 (by omega) (by omega))];simp_all
    simp
abbrev LaOk(u:List Bool)(n:Nat)(la:List Int):Prop:=la.length<=n/\∀i∈la,0<=i/\i<(u.length:Int)
theorem LaOk.add{u:List Bool}{n:Nat}{la l:List Int}{a:Int}(h:LaOk u n la)(hl:l=la\/l=la++[a]/\0<=a/\a<(u.length:Int)):LaOk u (n+1) l:=by grind
abbrev T9c(sz:Int)(C:List (List Int))(q:List Wt)(u:List Bool)(la:List Int)(ke lo ge se:Int)(ca:List Int):(Int×((List (List Int))×((List Y5)×((List Bool)×((List Int)×(Int×(Int×(Int×(Int×(Unit×(Unit×(List Int)))))))))))):=
 (sz,(C,(q,(u,(la,(ke,(lo,(ge,(se,((),((),ca)))))))))))
theorem y4i{old:Z4}{M0:List Int}(hm:M0.length<=50000)(sz:Int)(C:List (List Int))(q:List Wt){u:List Bool}(ke lo ge se:Int)(ca M K:List Int)(hM:M.length<=50000):∀(d j n:Nat) (la:List Int),j+d=M0.length->d<n->LaOk u j la->
  ∃l,zhs NN n M0 (M0.length:Int) (j:Int) old sz C q u la ke lo ge se ca M K=some (((),((),())),(old,((),(T9c sz C q u l ke lo ge se ca,(M,(K,()))))))/\LaOk u M0.length l
 | _,_,0,_,_,h,_=>absurd h (ae _)
 | 0,j,n+1,la,hj,_,hL=>by
  have e:j=M0.length:=by omega
  rw[zm2];simp only[z5x]
  grind
 | d+1,j,n+1,la,hj,hn,hL=>by
  have hw:=z8k (show j<1000000000 by omega);rw[zm2];simp only[z5x,hw];rw[W8 (decide_eq_true (by omega)),gd_t (V7 (by omega) (by omega))];have hc:=x2s ((sz,(C,q)),((u,(la,ke)),(lo,(ge,(se,(M,(K,ca))))))) (by grind) j;have hL':LaOk u (j+1) la:=hL.add (a:=0) (.inl rfl);cases decide (0<=rdL M0 (j:Int) 0)
  ·exact y4i hm sz C q ke lo ge se ca M K hM d (j+1) n la (by omega) (by omega) hL'
  ·simp only[cond_true,hc,ac];generalize(if j<(mapS ((sz,(C,q)),((u,(la,ke)),(lo,(ge,(se,(M,(K,ca)))))))).length then rdL (mapS ((sz,(C,q)),((u,(la,ke)),(lo,(ge,(se,(M,(K,ca)))))))) (j:Int) 0 else-1)=x;cases eqi x (rdL M0 (j:Int) 0)
   ·obtain⟨l,e,h1,h2⟩:=x3d (u:=u) (la:=la) ke (rdL M0 (j:Int) 0) (by omega);simp only[aN,cond_true,h1,ac];exact y4i hm sz C q ke lo ge se ca M K hM d (j+1) n l (by omega) (by omega) (hL.add h2)
   ·exact y4i hm sz C q ke lo ge se ca M K hM d (j+1) n la (by omega) (by omega) hL'
theorem yn5{c0:List Int}(hm:c0.length<=50000)(sz:Int)(C:List (List Int))(q:List Wt){u:List Bool}(ke lo ge se:Int)(ca M K:List Int)(k:Nat)(hk:k<=50000):∀(d j n:Nat) (la:List Int),j+d=c0.length->d<n->LaOk u (k+j) la->
  ∃l,zhr NN n c0 (c0.length:Int) (j:Int) sz C q u la ke lo ge se ca M K=some (((),()),((),(T9c sz C q u l ke lo ge se ca,(M,(K,())))))/\LaOk u (k+c0.length) l
 | _,_,0,_,_,h,_=>absurd h (ae _)
 | 0,j,n+1,la,hj,_,hL=>by
  have e:j=c0.length:=by omega
  rw[zm1];simp only[z5w]
  grind
 | d+1,j,n+1,la,hj,hn,hL=>by have hw:=z8k (show j<1000000000 by omega);obtain⟨l,e,h1,h2⟩:=x3d (u:=u) (la:=la) ke (rdL c0 (j:Int) 0) (by omega);rw[zm1];simp only[z5w,hw];rw[W8 (decide_eq_true (by omega)),gd_t (V7 (by omega) (by omega)),h1];exact yn5 hm sz C q ke lo ge se ca M K k hk d (j+1) n l (by omega) (by omega) (hL.add h2)
def supB(gen:Int)(cat cells:List Int):List Int:=ze3 gen cat cells++bytes (chk (ze3 gen cat cells)) 8
theorem ywd(gen:Int)(cat cells:List Int):(supB gen cat cells).length=27+2*cells.length:=by grind[supB,ze3,z1b,K2]
theorem PI2.nil{old:Z4}(hO:StI old)(p:List Sl):PI2 old p 0 old.1.2.2 old.2.1.1 [] []:=
 ⟨rfl,rfl,fun j h=>absurd h (ae _),fun j h=>absurd h (ae _),fun j k h=>absurd h (ae _),fun _ _ h=>h,fun j h=>absurd h (ae _),fun _ _ _=>rfl,fun j h=>absurd h (ae _)⟩
theorem QI.nil{old:Z4}(hO:StI old):QI old old.1.2.2 old.2.1.1:=⟨rfl,ai _,hO.qb⟩
structure FP (f:Z3):Prop where
 pl:f.1.length<=50000
 nd:∀i,W5 f.1 i=true->(slA f.1 i).2.1=false/\NodeF (z74 (slA f.1 i))
 el:f.2.2.1.length<=16
 es:∀e∈f.2.2.1,e.2.2.2.1.length<1000/\e.2.2.2.2.length<10000
 ms:f.2.2.2.2.2.2.length<10000
theorem psave{old:Z4}(hO:StI old){f:Z3}(hF:FP f):znr NN old f=some (old,250)\/
  ∃q u M K ca u2,znr NN old f=some (((old.1.1,(old.1.2.1,q++[(true,(0,[]))]++[(false,(aB (aa .i64 (old.2.2.2.1+1)) 2,supB (aa .i64 (old.2.2.2.1+1)) (catB f M K) ca))]++[(true,(0,[]))])),((u2,([],0)),(old.2.2.1,(aa .i64 (old.2.2.2.1+1),(0,(M,(K,ca))))))),0)/\
   QI old q u/\PI2 old f.1 f.1.length q u M K/\ca.length<=q.length/\0<=aB (aa .i64 (old.2.2.2.1+1)) 2/\((supB (aa .i64 (old.2.2.2.1+1)) (catB f M K) ca).length:Int)<=old.1.1:=by
 have hla:old.2.1.2.1=[]:=by rw[hO.la]
 have hke:old.2.1.2.2=0:=by rw[hO.la]
 have h0:=yn0 hO hF.pl hF.nd [] old.2.2.1 old.2.2.2.1 old.2.2.2.2.1 [] f.1.length 0 NN old.1.2.2 old.2.1.1 [] [] (by omega) (by have:=hF.pl;grind[W3]) (QI.nil hO) (PI2.nil hO f.1);rw[show((0:Nat):Int)=0 from rfl]at h0;simp only[znr,zj7,hla,hke];rcases h0 with⟨z,m,k,c,h⟩ | ⟨q,u,M,K,h,hq,hi⟩
 ·grind
 ·rw[h];obtain⟨q1,q2⟩:=hq.short hO;have hcl:=yxn (f:=f) (M:=M) (K:=K) (by have:=hF.pl;omega) hF.el hF.es hF.ms;have hcat:=pcat (f:=f) (M:=M) (K:=K) (by have:=hF.pl;omega) (by rw[hi.ml];simp) (by rw[hi.kl];simp) hF.el hF.es hF.ms;obtain⟨sz,hsz⟩:∃k:Nat,old.1.1=(k:Int):=⟨old.1.1.toNat,by have:=hO.sz;omega⟩;have hs:=hO.sz;have hpc:=x0r (b:=catB f M K) (k:=sz) (by omega) (by omega) (by omega);rw[<-hsz]at hpc;have hpl:=yps (catB f M K) sz;have h1:=ymz (f:=f) hO (cat:=catB f M K) (ps:=zxy (catB f M K) sz) (by omega) (fun p hp=>by have:=ypr hp;omega) [] old.2.2.1 old.2.2.2.1 old.2.2.2.2.1 M K (zxy (catB f M K) sz).length 0 NN q u [] (by omega) (by grind[yb3]) hq hi (aZ _);rw[show((0:Nat):Int)=0 from rfl]at h1;simp only[ac,hcat,hpc];rcases h1 with⟨z,m,k,c,h⟩ | ⟨q',u',ca,h,hq',hi',hc'⟩
  ·grind
  ·rw[h];obtain⟨q1',q2'⟩:=hq'.short hO;have hf1:=yz3 (d:=(old.1.1,(old.1.2.1,q'))) q1';have hsu:=x4t (gen:=aa .i64 (old.2.2.2.1+1)) (cat:=catB f M K) (cells:=ca) (by omega) (by omega);have hsl:=ywd (aa .i64 (old.2.2.2.1+1)) (catB f M K) ca;have hq3:(q'++[(true,((0:Int),([]:List Int)))]).length<100000:=by
    have h1:=hq'.ql;have h3:old.2.1.1.count false<=old.2.1.1.length:=bA;have:=hO.ql;have:=hO.ul;have:=hO.nc
    grind
   have hpu:=dput (d:=(old.1.1,(old.1.2.1,q'++[(true,((0:Int),([]:List Int)))]))) hq3 (aB (aa .i64 (old.2.2.2.1+1)) 2) (b:=supB (aa .i64 (old.2.2.2.1+1)) (catB f M K) ca) (by omega);simp only[ac,hf1,hsu,zc1];rcases hpu with hpu | ⟨g1,g2,g3,hpu⟩
   ·simp only[supB]at hpu;rw[hpu];exact .inl rfl
   ·have hpu':=hpu;simp only[supB]at hpu';have hf2:=yz3 (d:=(old.1.1,(old.1.2.1,q'++[(true,((0:Int),([]:List Int)))]++[(false,(aB (aa .i64 (old.2.2.2.1+1)) 2,ze3 (aa .i64 (old.2.2.2.1+1)) (catB f M K) ca++bytes (chk (ze3 (aa .i64 (old.2.2.2.1+1)) (catB f M K) ca)) 8))]))) (by
     have h1:=hq'.ql;have h3:old.2.1.1.count false<=old.2.1.1.length:=bA;have:=hO.ql;have:=hO.ul;have:=hO.nc
     grind)
    rw[hpu'];simp only[ac,show eqi (0:Int) 0=true from rfl,aG,cond_false,hf2];obtain⟨l1,e1,w1⟩:=y4i (old:=old) (M0:=mapS old) hO.ml old.1.1 old.1.2.1 (q'++[(true,((0:Int),([]:List Int)))]++[(false,(aB (aa .i64 (old.2.2.2.1+1)) 2,ze3 (aa .i64 (old.2.2.2.1+1)) (catB f M K) ca++bytes (chk (ze3 (aa .i64 (old.2.2.2.1+1)) (catB f M K) ca)) 8))]++[(true,((0:Int),([]:List Int)))]) (u:=u') 0 old.2.2.1 (aa .i64 (old.2.2.2.1+1)) 0 ca M K (by rw[hi.ml];exact hF.pl) (mapS old).length 0 NN [] (by omega) (by have:=hO.ml;grind[W3]) ⟨ai _,fun i hi=>by grind⟩;obtain⟨l2,e2,w2⟩:=yn5 (c0:=old.2.2.2.2.2.2.2) hO.ca old.1.1 old.1.2.1 (q'++[(true,((0:Int),([]:List Int)))]++[(false,(aB (aa .i64 (old.2.2.2.1+1)) 2,ze3 (aa .i64 (old.2.2.2.1+1)) (catB f M K) ca++bytes (chk (ze3 (aa .i64 (old.2.2.2.1+1)) (catB f M K) ca)) 8))]++[(true,((0:Int),([]:List Int)))]) (u:=u') 0 old.2.2.1 (aa .i64 (old.2.2.2.1+1)) 0 ca M K (mapS old).length hO.ml old.2.2.2.2.2.2.2.length 0 NN l1 (by omega) (by have:=hO.ca;grind[W3]) w1;rw[show((0:Nat):Int)=0 from rfl]at e1 e2;have hcm:=x3c (a:=(u',(l2,0))) (by grind) (l:=l2) (by have:=w2.1;have:=hO.ml;have:=hO.ca;omega) w2.2 false;simp only[e1,e2,ac,zs8,hcm];exact .inr ⟨q',u',M,K,ca,_,rfl,hq',hi',hc',g1,g3⟩
theorem zwq{st:Z4}:∀(t:List Int) (k g:Nat) (b:List Int),(∀id∈t,∀c,zfh st id=some c->yaq st id c=true)->g+t.length<1000000->
  ∃n:Nat,zb5 st t k (g:Int) b=(t.drop k,(b,((g+n:Nat):Int)))/\n<=(t.take k).length
 | [],k,g,b,_,_=>⟨0,by simp[yw7],aZ _⟩
 | id::t,0,g,b,_,_=>⟨0,by simp[ytl],aZ _⟩
 | id::t,k+1,g,b,h,hl=>by
  simp only[ag]at hl;have ht:∀id∈t,∀c,zfh st id=some c->yaq st id c=true:=fun x hx=>h x (List.mem_cons_of_mem _ hx);rw[zb5];cases hc:zfh st id with
  | none=>
   obtain⟨n,n1,n2⟩:=zwq t k g b ht (by omega)
   grind
  | some c=>
   have hw:aa .i64 ((g:Int)+1)=((g+1:Nat):Int):=by grind[w64]
   obtain⟨n,n1,n2⟩:=zwq t k (g+1) b ht (by omega);simp only[h id (by simp) c hc,if_true,hw];exact⟨1+n,by grind,by grind⟩
theorem StOk.good{f:Z3}{st:Z4}(h:StOk f st)(hf:f.1.length<=4096)(id c:Int)(hc:zfh st id=some c):yaq st id c=true/\isBs (gF st.1 c):=by
 unfold zfh at hc;split at hc
 case isFalse=>grind
 rename_i h0;obtain rfl:=aL.inj hc;obtain⟨h1,h2,h3⟩:=h0;obtain⟨j,rfl⟩:∃j:Nat,id=(j:Int):=⟨id.toNat,by omega⟩;have hml:(mapS st).length=f.1.length:=h.ml;have hkl:(chkS st).length=f.1.length:=h.kl;have hj:j<f.1.length:=by omega
 have hu:W5 f.1 (j:Int)=true:=by
  cases hu:W5 f.1 (j:Int)
  ·have:rdL (mapS st) (j:Int) 0= -1:=h.un j hj hu;omega
  ·rfl
 obtain⟨b,b1,b2,b3,b4,b5⟩:=h.us j hj hu;have b2:2<=rdL (mapS st) (j:Int) 0:=b2;have b3:rdL (mapS st) (j:Int) 0<((celS st).length:Int):=b3;have hS:=(h.stl hf).w;have hg:=yz0 h.qu (rdL (mapS st) (j:Int) 0);have b4:rdL st.1.2.1 (rdL (mapS st) (j:Int) 0) []=b:=b4;rw[b4]at hg;have hck:=x0q (l:=b) (by rw[<-hg];have:=hS.gl (rdL (mapS st) (j:Int) 0);omega);rw[b5]at hck;have hck:rdL (chkS st) (j:Int) 0=chk b:=aL.inj hck;refine⟨?_,by rw[hg];exact nby _ _ b1⟩
 grind[yaq,eqi]
theorem StOk.sti{f:Z3}{st:Z4}(h:StOk f st)(hf:f.1.length<=4096):StI st:=by
 have hml:(mapS st).length=f.1.length:=h.ml;have hkl:(chkS st).length=f.1.length:=h.kl;have hu:∀j:Nat,j<(mapS st).length->0<=rdL (mapS st) (j:Int) 0->W5 f.1 (j:Int)=true:=fun j hj h0=>by
  cases hu:W5 f.1 (j:Int)
  ·have:rdL (mapS st) (j:Int) 0= -1:=h.un j (by omega) hu;omega
  ·rfl
 refine⟨by have:=h.sz;omega,by have:=h.nc;omega,by rw[h.qu];simp,h.cl,fun w hw=>(by rw[h.qu]at hw;grind),fun j hj h0=> ?_,h.ul,h.al,h.u0.1,h.u0.2,by omega,by omega,fun j hj=> ?_,fun j k hj hk h0 e=>h.ne j k (by omega) (by omega) (hu j hj h0) (hu k hk (by omega)) e,by have:=h.ca;omega⟩
 ·exact(h.good hf (j:Int) _ (if_pos ⟨by omega,by omega,h0⟩)).2
 ·cases hu:W5 f.1 (j:Int)
  ·exact .inl (h.un j (by omega) hu)
  ·obtain⟨b,b1,b2,b3,_⟩:=h.us j (by omega) hu;exact .inr ⟨b2,b3,h.mu j (by omega) hu⟩
theorem FS.fp{k leaf fan bl:Nat}{f:Z3}(hk:k<=10)(h:FS k leaf fan bl f):FP f:=by
 have h:=h.up hk (ai _);refine⟨by have:=h.pi.len;omega,yne h,h.ne,fun e he=> ?_, ?_⟩
 ·obtain⟨h1,h2,h3⟩:=h.es e he
  grind[epM]
 ·obtain⟨h1,h2⟩:=h.ms;omega
theorem ynp{leaf fan bl:Nat}(hl1:1<=leaf)(hl2:leaf<1000000)(hf1:2<=fan)(hf2:fan<1000000){l:List K6}(hx:okT (.list w5) l)(b1:Bool)(m:z3j)(s:v8):∀(d j n:Nat) (f:Z3),j+d=3->d<n->FS (7+j) leaf fan bl f->
  ∃f',z8u NN n l b1 (j:Int) m s f=some ((b1,((),((),()))),(m,(s,(f',()))))/\FS 10 leaf fan bl f'
 | _,_,0,_,_,h,_=>absurd h (ae _)
 | d,j,n+1,f,hj,hn,hF=>by
  rw[zqm];simp only[z3n,z8k (show j<1000000000 by omega)];by_cases h1:(j:Int)<(l.length:Int)
  ·rw[W8 (decide_eq_true h1)];cases d with
   | zero=>grind
   | succ d=>
    obtain⟨hlt,e⟩:=yzk l (j:Int) z98 (by omega) h1;have hmem:okT w5 (rdL (α:=K6) l (j:Int) z98):=by rw[e];exact hx.2 _ _ (List.getElem?_eq_getElem hlt)
    obtain⟨f',s1,s2⟩:=yiu (x:=rdL (α:=K6) l (j:Int) z98) (by omega) hl1 hl2 hf1 hf2 hF (z8w hmem.2.1) hmem.2.2;rw[W8 (decide_eq_true (by omega)),gd_t (V7 (by omega) h1),s1];exact ynp hl1 hl2 hf1 hf2 hx b1 m s d (j+1) n f' (by omega) (by omega) s2
  ·rw[X5 (decide_eq_false h1)];exact⟨f,rfl,hF.up (by omega) (by omega)⟩
theorem ypm{old:Z4}(hO:StI old){f:Z3}(hf:f.1.length<=4096){q:List Wt}{u:List Bool}{M K:List Int}(hi:PI2 old f.1 f.1.length q u M K){g2:Int}(h0:0<=g2)(h1:g2<2)(sup:List Int)(A:X3)(lo ge se:Int)(ca:List Int)(id c:Int)
  (hc:zfh ((old.1.1,(old.1.2.1,q++[(true,(0,[]))]++[(false,(g2,sup))]++[(true,(0,[]))])),(A,(lo,(ge,(se,(M,(K,ca))))))) id=some c):
  yaq ((old.1.1,(old.1.2.1,q++[(true,(0,[]))]++[(false,(g2,sup))]++[(true,(0,[]))])),(A,(lo,(ge,(se,(M,(K,ca))))))) id c=true:=by
 unfold zfh at hc;split at hc
 case isFalse=>grind
 rename_i hh;obtain rfl:=aL.inj hc;obtain⟨k1,k2,k3⟩:=hh;have k2:id<(M.length:Int):=k2;have k3:0<=rdL M id 0:=k3;obtain⟨j,rfl⟩:∃j:Nat,id=(j:Int):=⟨id.toNat,by omega⟩;have hml:=hi.ml;have hkl:=hi.kl;have hu:W5 f.1 (j:Int)=true:=by
  cases hu:W5 f.1 (j:Int)
  ·have:=hi.un j (by omega) hu;omega
  ·rfl
 obtain⟨a1,a2,a3,a4,a5⟩:=hi.us j (by omega) hu;have hg:gF (old.1.1,(old.1.2.1,q++[(true,(0,[]))]++[(false,(g2,sup))]++[(true,(0,[]))])) (rdL M (j:Int) 0)=gF (old.1.1,(old.1.2.1,q)) (rdL M (j:Int) 0):=by rw[ynz,ydh,if_neg (by omega),ynz]
 show((decide (0<=rdL M (j:Int) 0)&&decide (rdL M (j:Int) 0<(old.1.2.1.length:Int)))&&(decide ((j:Int)<(K.length:Int))&&eqi (chk (gF (old.1.1,(old.1.2.1,q++[(true,(0,[]))]++[(false,(g2,sup))]++[(true,(0,[]))])) (rdL M (j:Int) 0))) (rdL K (j:Int) 0)))=true;simp_all
theorem yu8(hsan:zfs NN=some true){x:zed}{n:Int}{more:List K6}(hx:okT zee x)(hn:0<=n/\n<256)(hm:okT (.list w5) more):z9p NN x n more=some true:=by
 obtain⟨m,leaf,fan,bl,m1,⟨m2,z1,z2,z3,z4⟩,m3⟩:=yqu hx;simp only[z9p,hsan,m1,ac];rcases m3 with m3 | ⟨m3,m4⟩
 ·simp_all[G6]
 ·rw[X5 (by simp_all)];have k1:=m2.pi.len;obtain⟨R,r1,r2⟩:=yvd m.1 k1 m2.pi.kb m2.ne;have hR:=r1.short;have hT:(todoS m.1 R).length<=4096:=aP (List.length_filter_le _ _) (by omega);generalize todoS m.1 R=T at r2 hT;have hS:=(m4.stl k1).w;obtain⟨k,hk⟩:∃k:Nat,aB (aa .i64 n) 8=(k:Int):=by
   rw[w64 (by omega) (by omega),Int.tmod_eq_emod_of_nonneg hn.1];exact⟨(n%8).toNat,by omega⟩
  have hk8:k<100:=by grind
  have s1:=yp2 hS (s:=(T,([],0))) (by grind) (n:=k) (by omega);obtain⟨c1,w1,w2⟩:=zwq (st:=m.1) T k 0 [] (fun id _ c hc=>(m4.good k1 id c hc).1) (by omega);have w1:zb5 m.1 T k 0 []=(T.drop k,([],((0+c1:Nat):Int))):=w1;obtain⟨f,u1,u2⟩:=ynp (by omega) (by omega) (by omega) (by omega) hm true m (T.drop k,([],((0+c1:Nat):Int))) 3 0 NN m.2.1 rfl (by grind[W3]) m2;rw[show((0:Nat):Int)=0 from rfl]at u1;have hO:=m4.sti k1;have hF:=u2.fp (ai _);have hfl:=u2.pi.len;simp only[r2,ac,hk,s1];rw[w1];simp only[u1,ac];rcases psave hO hF with h | ⟨q,u,M,K,ca,u2,h,hq,hi,hca,g0,hsl⟩
  ·rw[h];rfl
  ·rw[h];have hts:(T.drop k).length<=T.length:=by simp
   have hg2:aB (aa .i64 (m.1.2.2.2.1+1)) 2<2:=Int.tmod_lt_of_pos _ (by omega);generalize aB (aa .i64 (m.1.2.2.2.1+1)) 2=g2 at*;generalize supB (aa .i64 (m.1.2.2.2.1+1)) (catB f M K) ca=sup at*;generalize aa .i64 (m.1.2.2.2.1+1)=gen at*;have hgood:=ypm hO hfl hi g0 hg2 sup (u2,([],0)) m.1.2.2.1 gen 0 ca;have hW:StW ((m.1.1.1,(m.1.1.2.1,q++[(true,(0,[]))]++[(false,(g2,sup))]++[(true,(0,[]))])),((u2,([],0)),(m.1.2.2.1,(gen,(0,(M,(K,ca))))))):=by
    have q1:=hq.ql;have q2:m.1.2.1.1.count false<=m.1.2.1.1.length:=bA;have o1:=hO.ql;have o2:=hO.ul;have o3:=hO.nc;have o4:=hO.sz;refine⟨?_,fun c=> ?_,by grind,by show M.length<_;rw[hi.ml];omega,by show K.length<_;rw[hi.kl];omega⟩
    ·grind
    ·have:=x58 (d:=(m.1.1.1,(m.1.1.2.1,q++[(true,((0:Int),([]:List Int)))]++[(false,(g2,sup))]++[(true,(0,[]))]))) (P:=fun b=>(b.length:Int)<=m.1.1.1) (by grind) hO.cb (fun w hw=>by
      simp only[am,List.mem_singleton]at hw;rcases hw with((hw | rfl) | rfl) | rfl
      ·exact hq.qb w hw
      all_goals grind) c
     grind
   have s2:=yp2 hW (s:=(T.drop k,([],((0+c1:Nat):Int)))) (by grind) (n:=4096) (by omega);have hc1:c1<=T.length:=by grind
   obtain⟨c2,x1,x2⟩:=zwq (T.drop k) 4096 (0+c1) [] (fun id _ c hc=>hgood id c hc) (by omega);have x2:c2<=(T.drop k).length:=aP x2 (by grind);have s2:z83 NN (T.drop k,([],((0+c1:Nat):Int))) ((m.1.1.1,(m.1.1.2.1,q++[(true,(0,[]))]++[(false,(g2,sup))]++[(true,(0,[]))])),((u2,([],0)),(m.1.2.2.1,(gen,(0,(M,(K,ca))))))) 4096=_:=s2;simp only[show eqi (0:Int) 0=true from rfl,aG,cond_false,s2,ac];rw[x1];have hd:(T.drop k).drop 4096=[]:=by simp;omega
   have hw:aa .i64 (((0+c1:Nat):Int)+((T.drop k).length:Int))=((0+c1:Nat):Int)+((T.drop k).length:Int):=w64 (by omega) (by omega);simp_all[znf]
end Ds
