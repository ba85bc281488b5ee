/- What is reached in a pool: both packages give the same ids, in order. -/
import Derived.Test.YtljffhpbdmkplaaGreatDsC
import Derived.Test.YtljffhpbdmkplaaGreatDvD
set_option linter.all false
namespace Ds
open Go Go.Dv
set_option maxRecDepth 100000
theorem y6j(N:Nat)(p:List Sl)(i:Int):znz N p i=some (W3 p i):=by
 unfold znz W3 slA
 by_cases h0:0<=i
 ·by_cases h1:i<(p.length:Int)
  ·simp only[h0,h1,decide_true,cond_true,Bool.true_and]
   rw[gd_t (U1 h0 h1)]
  ·simp[h0,h1]
 ·simp[h0]
inductive Rch (p:List Sl) (R:List Int):Int->Prop
 | root {k:Int}:k∈R->W3 p k=true->Rch p R k
 | kid {i k:Int}:Rch p R i->k∈w6 (slA p i)->W3 p k=true->Rch p R k
theorem Rch.used{p:List Sl}{R:List Int}{i:Int}(h:Rch p R i):W3 p i=true:=by cases h<;>assumption
theorem Rch.mono{p:List Sl}{R R':List Int}(hR:∀k∈R,k∈R'){i:Int}(h:Rch p R i):Rch p R' i:=by
 induction h with
 | root h u=>exact .root (hR _ h) u
 | kid _ h u ih=>exact .kid ih h u
theorem Rch.up{p:List Sl}{id:Int}(hu:W3 p id=true){i:Int}(h:Rch p (w6 (slA p id)) i):Rch p [id] i:=by
 induction h with
 | root h u=>exact .kid (.root (by simp) hu) h u
 | kid _ h u ih=>exact .kid ih h u
def IsReach(p:List Sl)(R:List Int)(out:List Int):Prop:=out.Pairwise (·<·)∧∀i,i∈out↔Rch p R i
structure DS where
 st:List Int
 fine:Bool
 out:List Int
def dfs(p:List Sl):Nat->Int->DS->DS
 | 0,_,s=>s
 | n+1,id,s=>
  if W3 p id=false∨rdL s.st id 0=2 then s
  else if rdL s.st id 0=1 then⟨s.st,false,s.out⟩
  else
   let s':=(w6 (slA p id)).foldl (fun s k=>dfs p n k s) ⟨setL s.st id 1,s.fine,s.out⟩
   ⟨setL s'.st id 2,s'.fine,s'.out++[id]⟩
abbrev DS.c(s:DS)(i:Int):Int:=rdL s.st i 0
def DS.white(s:DS):Nat:=s.st.count 0
def V3(s:DS):Prop:=∀i,s.c i=0∨s.c i=1∨s.c i=2
structure Post (p:List Sl) (R:List Int) (s s':DS):Prop where
 len:s'.st.length=s.st.length
 wh:s'.white<=s.white
 ol:s'.out.length+s'.white<=s.out.length+s.white
 v3:V3 s'
 one:∀i,0<=i->(s'.c i=1↔s.c i=1)
 two:∀i,0<=i->s.c i=2->s'.c i=2
 self:∀k∈R,W3 p k=true->s'.c k≠0
 new:∀i,0<=i->s.c i≠2->s'.c i=2->Rch p R i
 clo:∀i,0<=i->s.c i≠2->s'.c i=2->∀k∈w6 (slA p i),W3 p k=true->s'.c k≠0
 out:∃l,s'.out=s.out++l∧(∀i,i∈l↔0<=i∧i<(s.st.length:Int)∧s.c i=0∧s'.c i=2)∧l.Nodup∧
  (s'.fine=true->∀A i B,l=A++i::B->∀k∈w6 (slA p i),W3 p k=true->s.c k=2∨k∈A)
 fine1:s'.fine=true->s.fine=true
 fine2:s'.fine=true->∀k∈R,W3 p k=true->s'.c k=2
 fine4:s.fine=true->s'.fine=false->(∃x,s.c x=1∧Rch p R x)∨∃x,Rch p R x∧Rch p (w6 (slA p x)) x
theorem zwh{p:List Sl}{R:List Int}{s:DS}(hv:V3 s)(h:∀k∈R,W3 p k=true->s.c k=2):Post p R s s:=
 ⟨rfl,Nat.le_refl _,Nat.le_refl _,hv,fun _ _=>Iff.rfl,fun _ _ h=>h,fun k hk hu e=>(by rw[h k hk hu]at e;cases e),fun i _ a b=>absurd b a,fun i _ a b=>absurd b a,
  ⟨[],by simp,fun i=>(by simp;omega),List.nodup_nil,fun _ A i B e=>(by cases A<;>cases e)⟩,fun h=>h,fun _=>h,fun a b=>(by rw[a]at b;cases b)⟩
theorem yfr{p:List Sl}{k:Int}{R:List Int}{s s1 s2:DS}(hv:V3 s)(h:Post p [k] s s1)(g:Post p R s1 s2):Post p (k::R) s s2:=by
 have keep:∀i,0<=i->s1.c i≠0->s2.c i≠0:=by
  intro i hi h0
  rcases h.v3 i with e | e | e
  ·exact absurd e h0
  ·have:=(g.one i hi).2 e;omega
  ·have:=g.two i hi e;omega
 have m1:∀{i},Rch p [k] i->Rch p (k::R) i:=fun r=>r.mono (by simp)
 have m2:∀{i},Rch p R i->Rch p (k::R) i:=fun r=>r.mono (fun x hx=>by simp[hx])
 refine⟨g.len.trans h.len,Nat.le_trans g.wh h.wh,Nat.le_trans g.ol h.ol,g.v3,fun i hi=>(g.one i hi).trans (h.one i hi),fun i hi e=>g.two i hi (h.two i hi e), ?_, ?_, ?_, ?_,fun e=>h.fine1 (g.fine1 e), ?_, ?_⟩
 ·intro j hj hu
  rcases List.mem_cons.1 hj with rfl | hj
  ·exact keep j (z1e hu) (h.self j (by simp) hu)
  ·exact g.self j hj hu
 ·intro i hi h0 h2
  by_cases e:s1.c i=2
  ·exact m1 (h.new i hi h0 e)
  ·exact m2 (g.new i hi e h2)
 ·intro i hi h0 h2 j hj hu
  by_cases e:s1.c i=2
  ·exact keep j (z1e hu) (h.clo i hi h0 e j hj hu)
  ·exact g.clo i hi e h2 j hj hu
 ·obtain⟨l1,a1,a2,a3,a4⟩:=h.out
  obtain⟨l2,b1,b2,b3,b4⟩:=g.out
  refine⟨l1++l2,by rw[b1,a1,List.append_assoc],fun i=> ?_, ?_,fun hf A i B e j hj hu=> ?_⟩
  ·rw[List.mem_append,a2,b2,h.len]
   constructor
   ·rintro(⟨x1,x2,x3,x4⟩ | ⟨x1,x2,x3,x4⟩)
    ·exact⟨x1,x2,x3,g.two i x1 x4⟩
    ·refine⟨x1,x2, ?_,x4⟩
     rcases hv i with e | e | e
     ·exact e
     ·have:=(h.one i x1).2 e;omega
     ·have:=h.two i x1 e;omega
   ·rintro⟨x1,x2,x3,x4⟩
    rcases h.v3 i with e | e | e
    ·exact .inr ⟨x1,x2,e,x4⟩
    ·have:=(h.one i x1).1 e;omega
    ·exact .inl ⟨x1,x2,x3,e⟩
  ·refine List.nodup_append.2 ⟨a3,b3,fun i hi j hj e=> ?_⟩
   subst e
   have:=((a2 i).1 hi).2.2.2
   have:=((b2 i).1 hj).2.2.1
   omega
  ·have hf1:=g.fine1 hf
   rcases List.append_eq_append_iff.1 e with⟨zs,e1,e2⟩ | ⟨bs,e1,e2⟩
   ·rcases b4 hf zs i B e2 j hj hu with h1 | h1
    ·have hjn:=z1e hu
     by_cases hc:s.c j=2
     ·exact .inl hc
     ·refine .inr ?_
      rw[e1,List.mem_append]
      refine .inl ((a2 j).2 ⟨hjn, ?_, ?_,h1⟩)
      ·by_cases hlt:j<(s.st.length:Int)
       ·exact hlt
       ·exfalso
        have:s1.c j=0:=by
         have hl:=h.len
         simp only[DS.c,rdL]
         rw[List.getD_eq_getElem?_getD,List.getElem?_eq_none (by omega)];rfl
        omega
      ·rcases hv j with e | e | e
       ·exact e
       ·have:=(h.one j hjn).2 e;omega
       ·exact absurd e hc
    ·exact .inr (by rw[e1,List.mem_append];exact .inr h1)
   ·cases bs with
    | nil=>
     simp only[List.append_nil,List.nil_append]at e1 e2
     rcases b4 hf [] i B e2.symm j hj hu with h1 | h1
     ·have hjn:=z1e hu
      by_cases hc:s.c j=2
      ·exact .inl hc
      ·refine .inr ?_
       rw[←e1]
       refine(a2 j).2 ⟨hjn, ?_, ?_,h1⟩
       ·by_cases hlt:j<(s.st.length:Int)
        ·exact hlt
        ·exfalso
         have:s1.c j=0:=by
          have hl:=h.len
          simp only[DS.c,rdL]
          rw[List.getD_eq_getElem?_getD,List.getElem?_eq_none (by omega)];rfl
         omega
       ·rcases hv j with e | e | e
        ·exact e
        ·have:=(h.one j hjn).2 e;omega
        ·exact absurd e hc
     ·cases h1
    | cons b bs=>
     simp only[List.cons_append,List.cons.injEq]at e2
     obtain⟨rfl,e2⟩:=e2
     exact a4 hf1 A i bs e1 j hj hu
 ·intro hf j hj hu
  rcases List.mem_cons.1 hj with rfl | hj
  ·exact g.two j (z1e hu) (h.fine2 (g.fine1 hf) j (by simp) hu)
  ·exact g.fine2 hf j hj hu
 ·intro hs hf
  cases e:s1.fine with
  | false=>
   rcases h.fine4 hs e with⟨x,x1,x2⟩ | ⟨x,x1,x2⟩
   ·exact .inl ⟨x,x1,m1 x2⟩
   ·exact .inr ⟨x,m1 x1,x2⟩
  | true=>
   rcases g.fine4 e hf with⟨x,x1,x2⟩ | ⟨x,x1,x2⟩
   ·exact .inl ⟨x,(h.one x (z1e x2.used)).1 x1,m2 x2⟩
   ·exact .inr ⟨x,m2 x1,x2⟩
theorem zl9{l:List Int}{i:Int}{y:Int}(h0:0<=i)(h1:i<(l.length:Int))(hy:y≠0):(setL l i y).count 0+(if rdL l i 0=0 then 1 else 0)=l.count 0:=by
 have h:i.toNat<l.length:=by omega
 have hr:rdL l i 0=l[i.toNat]:=by simp[rdL,h]
 unfold setL
 rw[List.count_set h,hr]
 have hle:(if(l[i.toNat]==0)=true then 1 else 0)<=l.count 0:=by
  split
  ·rename_i e
   have:l[i.toNat]=0:=by simpa using e
   exact List.count_pos_iff.2 (by rw[←this];exact List.getElem_mem h)
  ·omega
 have hy':(if(y==0)=true then 1 else 0)=0:=by simp[hy]
 rw[hy']
 by_cases e:l[i.toNat]=0
 ·simp only[e,beq_self_eq_true,if_true]at hle⊢;omega
 ·simp only[beq_iff_eq,e,if_false]at hle⊢;omega
theorem ykp{s:DS}{id i:Int}{y:Int}{f:Bool}{o:List Int}(h0:0<=id)(h1:id<(s.st.length:Int))(hi:0<=i):(DS.mk (setL s.st id y) f o).c i=if i=id then y else s.c i:=by
 by_cases e:i=id
 ·subst e;rw[if_pos rfl];exact zi3 h0 h1
 ·rw[if_neg e];exact z64 h0 hi e
theorem yor{s:DS}{i:Int}(h:i<0):s.c i=s.c 0:=by
 simp only[DS.c,rdL];congr 1;omega
theorem yh2{s:DS}(h:∀i,0<=i->s.c i=0∨s.c i=1∨s.c i=2):V3 s:=fun i=>by
 by_cases hi:0<=i
 ·exact h i hi
 ·rw[yor (by omega)];exact h 0 (by omega)
theorem yfq{p:List Sl}{id:Int}{s s2:DS}(hv:V3 s)(hl:s.st.length=p.length)(hu:W3 p id=true)(hc:s.c id=0)
  (g:Post p (w6 (slA p id)) ⟨setL s.st id 1,s.fine,s.out⟩ s2):Post p [id] s ⟨setL s2.st id 2,s2.fine,s2.out++[id]⟩:=by
 have h0:=z1e hu
 have h1:id<(s.st.length:Int):=by rw[hl];exact zgi hu
 have hl2:s2.st.length=s.st.length:=by rw[g.len];simp
 have h2:id<(s2.st.length:Int):=by rw[hl2];exact h1
 obtain⟨s1,hs1⟩:∃s1:DS,s1=⟨setL s.st id 1,s.fine,s.out⟩:=⟨_,rfl⟩
 have c1:∀i,0<=i->s1.c i=if i=id then 1 else s.c i:=fun i hi=>by rw[hs1];exact ykp h0 h1 hi
 rw[←hs1]at g
 have c3:∀i,0<=i->(DS.mk (setL s2.st id 2) s2.fine (s2.out++[id])).c i=if i=id then 2 else s2.c i:=fun i hi=>ykp h0 h2 hi
 have w1:s1.white+1=s.white:=by
  have:=zl9 (y:=1) h0 h1 (by decide)
  rw[if_pos hc]at this
  rw[hs1];exact this
 have w3:(DS.mk (setL s2.st id 2) s2.fine (s2.out++[id])).white<=s2.white:=by
  have:=zl9 (y:=2) h0 h2 (by decide)
  show(setL s2.st id 2).count 0<=s2.st.count 0
  omega
 have c2id:s2.c id=1:=(g.one id h0).2 (by rw[c1 id h0,if_pos rfl])
 have hlen1:s1.st.length=s.st.length:=by rw[hs1];simp
 have hout1:s1.out=s.out:=by rw[hs1]
 have hfine1:s1.fine=s.fine:=by rw[hs1]
 have gwh:=g.wh
 have gol:=g.ol
 rw[hout1]at gol
 have up:∀{i},Rch p (w6 (slA p id)) i->Rch p [id] i:=fun r=>r.up hu
 have nz:∀i,0<=i->s2.c i≠0->(DS.mk (setL s2.st id 2) s2.fine (s2.out++[id])).c i≠0:=by
  intro i hi h
  rw[c3 i hi]
  by_cases e:i=id
  ·rw[if_pos e];decide
  ·rw[if_neg e];exact h
 refine⟨by simpa using hl2,by omega, ?_, ?_, ?_, ?_, ?_, ?_, ?_, ?_, ?_, ?_, ?_⟩
 ·simp only[List.length_append,List.length_singleton];omega
 ·refine yh2 fun i hi=> ?_
  rw[c3 i hi]
  by_cases e:i=id
  ·rw[if_pos e];exact .inr (.inr rfl)
  ·rw[if_neg e];exact g.v3 i
 ·intro i hi
  rw[c3 i hi]
  by_cases e:i=id
  ·subst e;rw[if_pos rfl,hc];decide
  ·rw[if_neg e,g.one i hi,c1 i hi,if_neg e]
 ·intro i hi h
  rw[c3 i hi]
  by_cases e:i=id
  ·rw[if_pos e]
  ·rw[if_neg e];exact g.two i hi (by rw[c1 i hi,if_neg e];exact h)
 ·intro k hk _
  simp only[List.mem_singleton]at hk
  subst hk
  rw[c3 k h0,if_pos rfl];decide
 ·intro i hi ha hb
  rw[c3 i hi]at hb
  by_cases e:i=id
  ·subst e;exact .root (by simp) hu
  ·rw[if_neg e]at hb
   exact up (g.new i hi (by rw[c1 i hi,if_neg e];exact ha) hb)
 ·intro i hi ha hb k hk hku
  apply nz k (z1e hku)
  rw[c3 i hi]at hb
  by_cases e:i=id
  ·subst e;exact g.self k hk hku
  ·rw[if_neg e]at hb
   exact g.clo i hi (by rw[c1 i hi,if_neg e];exact ha) hb k hk hku
 ·obtain⟨l,a1,a2,a3,a4⟩:=g.out
  refine⟨l++[id],by show s2.out++[id]=_;rw[a1,hout1,List.append_assoc],fun i=> ?_, ?_,fun hf A i B e k hk hku=> ?_⟩
  ·rw[List.mem_append,a2,hlen1]
   constructor
   ·rintro(⟨x1,x2,x3,x4⟩ | h)
    ·have e:i≠id:=fun e=>by rw[c1 i x1,if_pos e]at x3;cases x3
     rw[c1 i x1,if_neg e]at x3
     exact⟨x1,x2,x3,by rw[c3 i x1,if_neg e];exact x4⟩
    ·simp only[List.mem_singleton]at h
     subst h
     exact⟨h0,h1,hc,by rw[c3 i h0,if_pos rfl]⟩
   ·rintro⟨x1,x2,x3,x4⟩
    by_cases e:i=id
    ·exact .inr (by simp[e])
    ·rw[c3 i x1,if_neg e]at x4
     exact .inl ⟨x1,x2,by rw[c1 i x1,if_neg e];exact x3,x4⟩
  ·refine List.nodup_append.2 ⟨a3,by simp,fun i hi j hj e=> ?_⟩
   simp only[List.mem_singleton]at hj
   subst hj;subst e
   have:=((a2 i).1 hi).2.2.1
   rw[c1 i h0,if_pos rfl]at this;cases this
  ·have hf:s2.fine=true:=hf
   have hkn:=z1e hku
   have conv:s1.c k=2->s.c k=2:=fun h=>by
    rw[c1 k hkn]at h
    by_cases e:k=id
    ·rw[if_pos e]at h;cases h
    ·rw[if_neg e]at h;exact h
   rcases List.append_eq_append_iff.1 e with⟨zs,e1,e2⟩ | ⟨bs,e1,e2⟩
   ·have hcase:zs=[]∧i=id:=by
     cases zs with
     | nil=>simp only[List.nil_append,List.cons.injEq]at e2;exact⟨rfl,e2.1.symm⟩
     | cons x xs=>simp at e2
    obtain⟨rfl,rfl⟩:=hcase
    rw[List.append_nil]at e1
    subst e1
    have h2k:=g.fine2 hf k hk hku
    by_cases hc2:s1.c k=2
    ·exact .inl (conv hc2)
    ·refine .inr ((a2 k).2 ⟨hkn, ?_, ?_,h2k⟩)
     ·rw[hlen1,hl];exact zgi hku
     ·have hv1:V3 s1:=yh2 fun i hi=>by
       rw[c1 i hi]
       by_cases e:i=i
       ·split
        ·exact .inr (.inl rfl)
        ·exact hv i
       ·exact absurd rfl e
      rcases hv1 k with e | e | e
      ·exact e
      ·have:=(g.one k hkn).2 e;omega
      ·exact absurd e hc2
   ·cases bs with
    | nil=>
     simp only[List.nil_append,List.append_nil,List.cons.injEq]at e2 e1
     obtain⟨rfl,_⟩:=e2
     subst e1
     have h2k:=g.fine2 hf k hk hku
     by_cases hc2:s1.c k=2
     ·exact .inl (conv hc2)
     ·refine .inr ((a2 k).2 ⟨hkn, ?_, ?_,h2k⟩)
      ·rw[hlen1,hl];exact zgi hku
      ·have hv1:V3 s1:=yh2 fun j hj=>by
        rw[c1 j hj]
        split
        ·exact .inr (.inl rfl)
        ·exact hv j
       rcases hv1 k with e | e | e
       ·exact e
       ·have:=(g.one k hkn).2 e;omega
       ·exact absurd e hc2
    | cons b bs=>
     simp only[List.cons_append,List.cons.injEq]at e2
     obtain⟨rfl,e2⟩:=e2
     rcases a4 hf A i bs e1 k hk hku with h | h
     ·exact .inl (conv h)
     ·exact .inr h
 ·intro hf
  have:=g.fine1 hf
  rw[hfine1]at this;exact this
 ·intro hf k hk _
  simp only[List.mem_singleton]at hk
  subst hk
  rw[c3 k h0,if_pos rfl]
 ·intro hs hf
  rcases g.fine4 (by rw[hfine1];exact hs) hf with⟨x,x1,x2⟩ | ⟨x,x1,x2⟩
  ·rw[c1 x (z1e x2.used)]at x1
   by_cases e:x=id
   ·subst e;exact .inr ⟨x, .root (by simp) hu,x2⟩
   ·rw[if_neg e]at x1;exact .inl ⟨x,x1,up x2⟩
  ·exact .inr ⟨x,up x1,x2⟩
def dfsL(p:List Sl)(n:Nat)(R:List Int)(s:DS):DS:=R.foldl (fun s k=>dfs p n k s) s
theorem yjf{s:DS}(hv:V3 s){id:Int}(h0:0<=id)(h1:id<(s.st.length:Int)){y:Int}(hy:y=1∨y=2){f:Bool}{o:List Int}:V3 ⟨setL s.st id y,f,o⟩:=yh2 fun i hi=>by
 rw[ykp h0 h1 hi]
 split
 ·rcases hy with rfl | rfl
  ·exact .inr (.inl rfl)
  ·exact .inr (.inr rfl)
 ·exact hv i
theorem zo7{p:List Sl}{n:Nat}(ih:∀(id:Int) (s:DS),V3 s->s.st.length=p.length->s.white<n->Post p [id] s (dfs p n id s)):
  ∀(R:List Int) (s:DS),V3 s->s.st.length=p.length->s.white<n->Post p R s (dfsL p n R s)
 | [],s,hv,hl,hw=>zwh hv (fun k hk=>(by cases hk))
 | k::R,s,hv,hl,hw=>by
  have a:=ih k s hv hl hw
  exact yfr hv a (zo7 ih R _ a.v3 (a.len.trans hl) (Nat.lt_of_le_of_lt a.wh hw))
theorem znl(p:List Sl):∀(n:Nat) (id:Int) (s:DS),V3 s->s.st.length=p.length->s.white<n->Post p [id] s (dfs p n id s)
 | 0,_,_,_,_,hw=>absurd hw (Nat.not_lt_zero _)
 | n+1,id,s,hv,hl,hw=>by
  unfold dfs
  by_cases hu:W3 p id=true
  ·have h0:=z1e hu
   have h1:id<(s.st.length:Int):=by rw[hl];exact zgi hu
   rcases hv id with e | e | e
   ·have e':rdL s.st id 0=0:=e
    rw[if_neg (by simp[hu,e']),if_neg (by simp[e'])]
    refine yfq hv hl hu e (zo7 (znl p n) (w6 (slA p id)) ⟨setL s.st id 1,s.fine,s.out⟩ (yjf hv h0 h1 (.inl rfl)) (by simpa using hl) ?_)
    have:=zl9 (y:=1) h0 h1 (by decide)
    rw[if_pos e']at this
    show(setL s.st id 1).count 0<n
    have:s.white=s.st.count 0:=rfl
    omega
   ·have e':rdL s.st id 0=1:=e
    rw[if_neg (by simp[hu,e']),if_pos e']
    have hr:∀i,(DS.mk s.st false s.out).c i=s.c i:=fun _=>rfl
    refine⟨rfl,Nat.le_refl _,Nat.le_refl _,hv,fun _ _=>Iff.rfl,fun _ _ h=>h,fun k hk _=> ?_,fun i _ a b=>absurd b a,fun i _ a b=>absurd b a,⟨[],by simp,fun i=> ?_,List.nodup_nil,fun h=>(by cases h)⟩,fun h=>(by cases h),fun h=>(by cases h),fun _ _=> .inl ⟨id,e, .root (by simp) hu⟩⟩
    ·simp only[List.mem_singleton]at hk
     subst hk
     show s.c k≠0
     omega
    ·simp only[List.not_mem_nil,hr,false_iff];omega
   ·have e':rdL s.st id 0=2:=e
    rw[if_pos (.inr e')]
    exact zwh hv fun k hk _=>by simp only[List.mem_singleton]at hk;subst hk;exact e
  ·rw[if_pos (.inl (by simpa using hu))]
   exact zwh hv fun k hk hku=>by simp only[List.mem_singleton]at hk;subst hk;exact absurd hku hu
theorem yl4{p:List Sl}{n:Nat}(hn:p.length<n)(R:List Int):∃s,dfsL p n R ⟨List.replicate p.length 0,true,[]⟩=s∧
  s.out.Nodup∧(∀i,i∈s.out↔Rch p R i)∧s.out.length<=p.length∧(s.fine=false->∃x,Rch p R x∧Rch p (w6 (slA p x)) x)∧
  (s.fine=true->∀i,Rch p R i->¬Rch p (w6 (slA p i)) i):=by
 obtain⟨s0,hs0⟩:∃s0:DS,s0=⟨List.replicate p.length 0,true,[]⟩:=⟨_,rfl⟩
 have c0:∀i,s0.c i=0:=fun i=>by rw[hs0];simp only[DS.c,rdL,List.getD_eq_getElem?_getD,List.getElem?_replicate];split<;>rfl
 have hv:V3 s0:=fun i=> .inl (c0 i)
 have hl:s0.st.length=p.length:=by rw[hs0];simp
 have hw:s0.white<=p.length:=by rw[hs0];exact Nat.le_trans List.count_le_length (by simp)
 rw[←hs0]
 have h:=zo7 (znl p n) R s0 hv hl (by omega)
 obtain⟨s,hs⟩:∃s,dfsL p n R s0=s:=⟨_,rfl⟩
 rw[hs]at h
 refine⟨s,hs, ?_⟩
 obtain⟨l,a1,a2,a3,a4⟩:=h.out
 have ho:s0.out=[]:=by rw[hs0]
 rw[ho,List.nil_append]at a1
 subst a1
 have no1:∀i,0<=i->s.c i≠1:=fun i hi e=>by have:=(h.one i hi).1 e;rw[c0]at this;cases this
 have two_of:∀i,0<=i->s.c i≠0->s.c i=2:=fun i hi hz=>by
  rcases h.v3 i with e | e | e
  ·exact absurd e hz
  ·exact absurd e (no1 i hi)
  ·exact e
 have r2:∀i,Rch p R i->s.c i=2:=by
  intro i hi
  induction hi with
  | root hk hu=>exact two_of _ (z1e hu) (h.self _ hk hu)
  | kid hr hk hu ih=>exact two_of _ (z1e hu) (h.clo _ (z1e hr.used) (by rw[c0];decide) ih _ hk hu)
 have hmem:∀i,i∈s.out↔Rch p R i:=by
  intro i
  rw[a2]
  constructor
  ·rintro⟨x1,x2,x3,x4⟩
   exact h.new i x1 (by rw[c0];decide) x4
  ·intro hr
   exact⟨z1e hr.used,by rw[hl];exact zgi hr.used,c0 i,r2 i hr⟩
 refine⟨a3,hmem, ?_, ?_, ?_⟩
 ·have:=h.ol
  rw[ho]at this
  simp only[List.length_nil]at this
  omega
 ·intro hf
  rcases h.fine4 (by rw[hs0]) hf with⟨x,x1,_⟩ | h
  ·rw[c0]at x1;cases x1
  ·exact h
 ·intro hf i hi hcyc
  have key:∀A i B,s.out=A++i::B->∀k,Rch p (w6 (slA p i)) k->k∈A:=by
   intro A i B e k hk
   induction hk with
   | root hk hu=>
    rcases a4 hf A i B e _ hk hu with h | h
    ·rw[c0]at h;cases h
    ·exact h
   | @kid j k hr hk hu ih=>
    obtain⟨A1,B1,e1⟩:=List.append_of_mem ih
    rcases a4 hf A1 j (B1++i::B) (by rw[e,e1];simp) k hk hu with h | h
    ·rw[c0]at h;cases h
    ·rw[e1];exact List.mem_append.2 (.inl h)
  obtain⟨A,B,e⟩:=List.append_of_mem ((hmem i).2 hi)
  have hA:=key A i B e i hcyc
  rw[e]at a3
  exact(List.nodup_append.1 a3).2.2 i hA i (by simp) rfl
abbrev tupB(p:List Sl)(s:DS):(Unit×((List Z6)×(Unit×((List Int)×(Bool×((Unit×(Unit×(Unit×(Unit×Unit))))×(Unit×(Unit×((List Int)×Unit))))))))):=((),(p,((),(s.st,(s.fine,(((),((),((),((),())))),((),((),(s.out,())))))))))
theorem yjw(N n:Nat)(p:List Sl)(id:Int)(K:Nat)(hK:K<1000000)
  (ih:∀(id:Int) (s:DS),V3 s->s.st.length=p.length->s.white<n->s.out.length+s.white<=K->J5 N n id p s.st s.fine s.out=some (tupB p (dfs p n id s))):
  ∀(post pre:List Int) (m:Nat) (s:DS),post.length<m->(pre++post).length<1000000->V3 s->s.st.length=p.length->s.white<n->s.out.length+s.white<=K->
   z09 N (J5 N n) m id (pre++post) ((pre++post).length:Int) (pre.length:Int) s.st p s.fine s.out=
    some ((id,((),())),((),((dfsL p n post s).st,((),((),((dfsL p n post s).out,(p,((dfsL p n post s).fine,(((),((),((),((),())))),())))))))))
 | [],pre,0,s,h,_,_,_,_,_=>absurd h (Nat.not_lt_zero _)
 | k::post,pre,0,s,h,_,_,_,_,_=>absurd h (Nat.not_lt_zero _)
 | [],pre,m+1,s,_,_,_,_,_,_=>by
  rw[za1]
  simp only[y0,List.append_nil,Int.lt_irrefl,decide_false,cond_false]
  rfl
 | k::post,pre,m+1,s,hm,hl,hv,hs,hw,ho=>by
  have a:=znl p n k s hv hs hw
  have ih2:=yjw N n p id K hK ih post (pre++[k]) m (dfs p n k s) (by simp at hm;omega) (by simpa using hl) a.v3 (a.len.trans hs) (Nat.lt_of_le_of_lt a.wh hw) (Nat.le_trans a.ol ho)
  rw[za1]
  simp only[y0,U9,V7,U3,cond_true]
  rw[gd_t rfl,ih k s hv hs hw ho]
  simp only[tupB]
  rw[V1 (q:=k) (by simp at hl;omega),U2]
  exact ih2
theorem ydk(N:Nat)(p:List Sl)(K:Nat)(hK:K<1000000)(hk:∀s∈p,(w6 s).length<1000000)(hN:1000000<=N):∀(n:Nat) (id:Int) (s:DS),V3 s->s.st.length=p.length->s.white<n->s.out.length+s.white<=K->
  J5 N n id p s.st s.fine s.out=some (tupB p (dfs p n id s))
 | 0,_,_,_,_,hw,_=>absurd hw (Nat.not_lt_zero _)
 | n+1,id,s,hv,hl,hw,ho=>by
  rw[zgt]
  unfold z0w dfs
  simp only[y6j]
  by_cases hu:W3 p id=true
  ·have h0:=z1e hu
   have h1:=zgi hu
   have h1s:id<(s.st.length:Int):=by rw[hl];exact h1
   rw[hu]
   simp only[Bool.not_true,cond_false]
   rw[gd_t (U1 h0 h1s)]
   rcases hv id with e | e | e
   ·have e':rdL s.st id 0=0:=e
    rw[Y3 (by rw[e'];rfl),gd_t (U1 h0 h1s),Y3 (by rw[e'];rfl),gd_t (U1 h0 h1s),gd_t (U1 h0 h1)]
    rw[if_neg (by simp[e']),if_neg (by simp[e'])]
    have hw0:=zl9 (y:=1) h0 h1s (by decide)
    rw[if_pos e']at hw0
    have hww:s.white=s.st.count 0:=rfl
    have hv1:V3 ⟨setL s.st id 1,s.fine,s.out⟩:=yjf hv h0 h1s (.inl rfl)
    have hl1:(DS.mk (setL s.st id 1) s.fine s.out).st.length=p.length:=by simpa using hl
    have hw1:(DS.mk (setL s.st id 1) s.fine s.out).white<n:=by show(setL s.st id 1).count 0<n;omega
    have hk':(w6 (slA p id)).length<1000000:=hk _ (z6y h0 h1)
    have hlp:=yjw N n p id K hK (ydk N p K hK hk hN n) (w6 (slA p id)) [] N ⟨setL s.st id 1,s.fine,s.out⟩ (by omega) (by simpa using hk') hv1 hl1 hw1 (by show s.out.length+(setL s.st id 1).count 0<=K;omega)
    have hpost:=zo7 (znl p n) (w6 (slA p id)) ⟨setL s.st id 1,s.fine,s.out⟩ hv1 hl1 hw1
    have hlp':z09 N (J5 N n) N id (((((((rdL p id X2).2).2).2).2).2).1) (List.length (((((((rdL p id X2).2).2).2).2).2).1):Int) (0:Int) (setL s.st id (1:Int)) p s.fine s.out=_:=hlp
    rw[hlp']
    simp only
    have hgl:id<((dfsL p n (w6 (slA p id)) ⟨setL s.st id 1,s.fine,s.out⟩).st.length:Int):=by rw[hpost.len];simpa using h1s
    rw[gd_t (U1 h0 hgl)]
    have hol:=hpost.ol
    have hol2:(dfsL p n (w6 (slA p id)) ⟨setL s.st id 1,s.fine,s.out⟩).out.length<1000000:=by
     have:(DS.mk (setL s.st id 1) s.fine s.out).out.length+(DS.mk (setL s.st id 1) s.fine s.out).white=s.out.length+(setL s.st id 1).count 0:=rfl
     omega
    have hr:∀o:List Int,o.length<1000000->z9y N id o=some ((),((),(o++[id],()))):=by
     intro o hoo
     unfold z9y
     rw[gd_t (Y4 (by omega) (by omega))]
    rw[hr _ hol2]
    rfl
   ·have e':rdL s.st id 0=1:=e
    rw[Y3 (by rw[e'];rfl),gd_t (U1 h0 h1s),X6 (by rw[e'];rfl)]
    rw[if_neg (by simp[e']),if_pos e']
   ·have e':rdL s.st id 0=2:=e
    rw[X6 (by rw[e'];rfl),if_pos (.inr e')]
  ·have hu':W3 p id=false:=by simpa using hu
   rw[hu',if_pos (.inl rfl)]
   rfl
theorem ydy(N:Nat)(p:List Sl)(K:Nat)(hK:K<1000000)(hk:∀s∈p,(w6 s).length<1000000)(hN:1000000<=N):
  ∀(post pre:List Int) (m:Nat) (s:DS),post.length<m->(pre++post).length<1000000->V3 s->s.st.length=p.length->s.white<N->s.out.length+s.white<=K->
   U8 N m (pre++post) ((pre++post).length:Int) (pre.length:Int) s.fine p s.st s.out=
    some ((),((dfsL p N post s).fine,((),((dfsL p N post s).out,()))))
 | [],pre,0,s,h,_,_,_,_,_=>absurd h (Nat.not_lt_zero _)
 | k::post,pre,0,s,h,_,_,_,_,_=>absurd h (Nat.not_lt_zero _)
 | [],pre,m+1,s,_,_,_,_,_,_=>by
  rw[z2h]
  simp only[U5,List.append_nil,Int.lt_irrefl,decide_false,cond_false]
  rfl
 | k::post,pre,m+1,s,hm,hl,hv,hs,hw,ho=>by
  have a:=znl p N k s hv hs hw
  have ih2:=ydy N p K hK hk hN post (pre++[k]) m (dfs p N k s) (by simp at hm;omega) (by simpa using hl) a.v3 (a.len.trans hs) (Nat.lt_of_le_of_lt a.wh hw) (Nat.le_trans a.ol ho)
  rw[z2h]
  simp only[U5,U9,V7,U3,cond_true]
  have hvv:zky N k p s.st s.fine s.out=some (tupB p (dfs p N k s)):=ydk N p K hK hk hN N k s hv hs hw ho
  rw[gd_t rfl,hvv]
  simp only[tupB]
  rw[V1 (q:=k) (by simp at hl;omega),U2]
  exact ih2
theorem yk8:∀{l:List Int},l.Pairwise (fun a b=>decide (a<=b)=true)->l.Nodup->l.Pairwise (·<·)
 | [],_,_=>List.Pairwise.nil
 | x::l,h,g=>by
  obtain⟨h1,h2⟩:=List.pairwise_cons.1 h
  obtain⟨g1,g2⟩:=List.nodup_cons.1 g
  refine List.pairwise_cons.2 ⟨fun y hy=> ?_,yk8 h2 g2⟩
  have:x<=y:=by simpa using h1 y hy
  have:x≠y:=fun e=>g1 (e▸hy)
  omega
theorem yfc{l:List Int}(h:l.Nodup):(z72 l).Pairwise (·<·):=by
 refine yk8 ?_ ?_
 ·refine List.pairwise_mergeSort (fun a b c x y=> ?_) (fun a b=> ?_) l
  ·simp only[decide_eq_true_eq]at x y⊢;omega
  ·simp only[Bool.or_eq_true,decide_eq_true_eq];omega
 ·exact(List.mergeSort_perm l _).nodup_iff.2 h
theorem mem_sortI{l:List Int}{x:Int}:x∈z72 l↔x∈l:=(List.mergeSort_perm l _).mem_iff
theorem y4a{N:Nat}(hN:2000000000<=N){p:List Sl}{R:List Int}(hl:p.length<=100000)(hk:∀s∈p,(w6 s).length<1000000)(hR:R.length<1000000):∃out,za7 N p R=some out∧IsReach p R out:=by
 obtain⟨s,hs,h1,h2,h3,h4,h5⟩:=yl4 (p:=p) (n:=N) (by omega) R
 obtain⟨s0,hs0⟩:∃s0:DS,s0=⟨List.replicate p.length 0,true,[]⟩:=⟨_,rfl⟩
 have c0:∀i,s0.c i=0:=fun i=>by rw[hs0];simp only[DS.c,rdL,List.getD_eq_getElem?_getD,List.getElem?_replicate];split<;>rfl
 have hw:s0.white<=p.length:=by rw[hs0];exact Nat.le_trans List.count_le_length (by simp)
 have hr:=ydy N p p.length (by omega) hk (by omega) R [] N s0 (by omega) (by simpa using hR) (fun i=> .inl (c0 i)) (by rw[hs0];simp) (by omega) (by rw[hs0]at hw⊢;simpa using hw)
 refine⟨z72 s.out, ?_,yfc h1,fun i=>mem_sortI.trans (h2 i)⟩
 unfold za7 pool_visit_m__pool_Reach_c1
 rw[yoa p 8 hl (by omega) (by omega)]
 have hr':U8 N N R (List.length R:Int) (0:Int) true p (List.replicate (Int.toNat (List.length p:Int)) (0:Int)) ([]:List Int)=some ((),(s.fine,((),(s.out,())))):=by
  rw[←hs,←hs0]
  rw[hs0]at hr⊢
  exact hr
 dsimp only
 rw[hr']
 simp only[z13]
 rw[gd_t (by simp only[Nat.blt_eq];omega)]
end Ds
namespace Ds
open Go Go.Dv
set_option maxRecDepth 100000
variable [Fuel]
def kstp(h b:Int):Int:=IntKind.wrap .u64 (IntKind.wrap .u64 (((BitVec.ofInt (IntKind.bits .u64) h^^^BitVec.ofInt (IntKind.bits .u64) (IntKind.wrap .u64 b)).toNat:Int))*(1099511628211:Int))
def chk(xs:List Int):Int:=xs.foldl kstp 14695981039346656037
theorem yec:∀(q p:List Int) (n:Nat),q.length<n->(p++q).length<1000000000000->∀h,z9p NN n h (p++q) ((p++q).length:Int) (p.length:Int)=some (q.foldl kstp h,())
 | _,_,0,h,_,_=>absurd h (Nat.not_lt_zero _)
 | [],p,n+1,_,_,h=>by
  rw[zfy]
  simp only[z3h,List.append_nil,Int.lt_irrefl,decide_false,cond_false,List.foldl_nil]
 | b::q,p,n+1,hn,hl,h=>by
  simp only[List.length_cons]at hn
  have hb:p.length<9223372036854775807:=by simp at hl;omega
  have ih:=yec q (p++[b]) n (by omega) (by simpa using hl) (kstp h b)
  rw[zfy]
  simp only[z3h,U9,cond_true,U3,V1 (q:=b) hb]
  rw[gd_t V7,U2 (pre:=p) (q:=b) (post:=q),List.foldl_cons,←ih]
  rfl
theorem yli{l:List Int}(hl:l.length<1000000000000):zkz NN l=some (chk l):=by
 have h:=yec l [] NN (by have:=ydh;omega) (by simpa using hl) 14695981039346656037
 rw[show(([]:List Int).length:Int)=0 from rfl,List.nil_append]at h
 simp only[zkz,h,Option.bind_some]
 rfl
abbrev mapS(st:Z7):List Int:=st.2.2.2.2.2.1
abbrev chkS(st:Z7):List Int:=st.2.2.2.2.2.2.1
abbrev celS(st:Z7):List (List Int):=st.1.2.1
structure StL (st:Z7):Prop where
 qu:st.1.2.2=[]
 nc:(celS st).length<100000
 cl:∀c∈celS st,c.length<1000000000
 ml:(mapS st).length<100000
 kl:(chkS st).length<100000
def zja(st:Z7)(id:Int):Option Int:=if 0<=id∧id<((mapS st).length:Int)∧0<=rdL (mapS st) id 0 then some (rdL (mapS st) id 0)else none
def yh5(st:Z7)(id c:Int):Bool:=(decide (0<=c)&&decide (c<((celS st).length:Int)))&&(decide (id<((chkS st).length:Int))&&eqi (chk (rdL (celS st) c [])) (rdL (chkS st) id 0))
theorem y9k(st:Z7)(id:Int):∃c,zbt NN st id=some (c,(zja st id).isSome)∧∀x,zja st id=some x->c=x:=by
 simp only[zbt]
 by_cases h0:id<0
 ·rw[X6 (decide_eq_true h0)]
  have:zja st id=none:=if_neg (by omega)
  exact⟨0,by rw[this];rfl,fun x h=>by rw[this]at h;cases h⟩
 ·rw[Y3 (decide_eq_false h0)]
  by_cases h1:((mapS st).length:Int)<=id
  ·rw[X6 (decide_eq_true h1)]
   have:zja st id=none:=if_neg (by omega)
   exact⟨0,by rw[this];rfl,fun x h=>by rw[this]at h;cases h⟩
  ·have hin:inB id (mapS st).length=true:=U1 (by omega) (by omega)
   rw[Y3 (decide_eq_false h1),gd_t hin]
   by_cases h2:rdL (mapS st) id 0<0
   ·rw[X6 (decide_eq_true h2)]
    have:zja st id=none:=if_neg (by omega)
    exact⟨0,by rw[this];rfl,fun x h=>by rw[this]at h;cases h⟩
   ·rw[Y3 (decide_eq_false h2),gd_t hin]
    have:zja st id=some (rdL (mapS st) id 0):=if_pos ⟨by omega,by omega,by omega⟩
    exact⟨_,by rw[this];rfl,fun x h=>by rw[this]at h;cases h;rfl⟩
theorem ylw{d:V5}(hq:d.2.2=[])(c:Int):zub NN d c=some (if 0<=c∧c<(d.2.1.length:Int)then(rdL d.2.1 c [],0)else([],230)):=by
 obtain⟨n,hn⟩:∃n,NN=n+1:=⟨NN-1,by have:=V0;omega⟩
 have hb:U4 NN [] c [] 0=some (.inr ((),(((),((),())),(c,((),(([]:List Int),((0:Int),()))))))):=by
  have h:X5 NN NN [] (-1) c [] 0=some (.inr ((),(((),((),())),(c,((),(([]:List Int),((0:Int),()))))))):=by
   rw[show X5 NN NN=X5 NN (n+1)from congrArg _ hn,z2j]
   simp only[V4]
   rw[Y3 (by rfl)]
  have w:IntKind.wrap .i64 ((([]:List Y9).length:Int)-1)= -1:=by decide
  simp only[U4,w,h,Option.bind_some]
 simp only[zub,y2v,zn1,J6,hq,hb,Option.bind_some]
 by_cases h0:0<=c
 ·rw[decide_eq_true h0,cond_true]
  by_cases h1:c<(d.2.1.length:Int)
  ·rw[decide_eq_true h1]
   simp only[Option.bind_some]
   rw[Y3 (by rfl),gd_t (U1 h0 h1),if_pos ⟨h0,h1⟩]
  ·rw[decide_eq_false h1]
   simp only[Option.bind_some]
   rw[X6 (by rfl),if_neg (by omega)]
 ·rw[decide_eq_false h0,cond_false]
  simp only[Option.bind_some]
  rw[X6 (by rfl),if_neg (by omega)]
theorem yla{l:List (List Int)}{i:Int}{P:List Int->Prop}(h:∀c∈l,P c)(h0:P []):P (rdL l i []):=by
 unfold rdL
 rw[List.getD_eq_getElem?_getD]
 cases e:l[i.toNat]? with
 | none=>exact h0
 | some x=>exact h x (List.mem_of_getElem? e)
theorem ylu{st:Z7}(hS:StL st)(a0 a1:List Int)(a2:Int)(u:List Bool)(la:List Int)(ke lo ge se:Int)(ca:List Int){id:Int}(h0:0<=id)(c:Int):
  z9u NN a0 a1 a2 st.1.1 (celS st) st.1.2.2 u la ke lo ge se (mapS st) (chkS st) ca id c=some (yh5 st id c):=by
 have hg:=ylw (d:=(st.1.1,(celS st,st.1.2.2))) hS.qu c
 simp only[z9u,hg,Option.bind_some,yh5]
 by_cases hc:0<=c∧c<((celS st).length:Int)
 ·rw[if_pos hc,decide_eq_true hc.1,decide_eq_true hc.2]
  have hl:(rdL (celS st) c []).length<1000000000:=yla (P:=fun l=>l.length<1000000000) hS.cl (by decide)
  rw[X6 (by rfl)]
  by_cases hi:id<((chkS st).length:Int)
  ·rw[decide_eq_true hi,cond_true,yli (l:=rdL (celS st) c []) (by omega)]
   simp only[Option.bind_some]
   rw[gd_t (U1 h0 hi)]
   rfl
  ·rw[decide_eq_false hi];rfl
 ·rw[if_neg hc,Y3 (by decide)]
  by_cases h1:0<=c
  ·rw[decide_eq_true h1,decide_eq_false (show ¬c<((celS st).length:Int) by omega)];rfl
  ·rw[decide_eq_false h1];rfl
def walkS(st:Z7):List Int->Nat->Int->List Int->G2
 | [],_,g,b=>([],(b,g))
 | id::t,0,g,b=>(id::t,(b,g))
 | id::t,k+1,g,b=>match zja st id with
  | none=>walkS st t k g b
  | some c=>if yh5 st id c=true then walkS st t k (IntKind.wrap .i64 (g+1)) b else walkS st t k g (b++[id])
section
variable {st:Z7} (hS:StL st)
abbrev wkT(st:Z7)(rem:Int)(w:G2):(Unit×((Unit×Unit)×(Int×(Unit×(((List Int)×(Unit×(Int×(Int×((List (List Int))×((List Y9)×((List Bool)×((List Int)×(Int×(Int×(Int×(Int×((List Int)×((List Int)×(List Int)))))))))))))))×((List Int)×(Unit×Unit))))))):=
 ((),(((),()),(rem,((),((w.1,((),(w.2.2,(st.1.1,(st.1.2.1,(st.1.2.2,(st.2.1.1,(st.2.1.2.1,(st.2.1.2.2,(st.2.2.1,(st.2.2.2.1,(st.2.2.2.2.1,(mapS st,(chkS st,st.2.2.2.2.2.2.2)))))))))))))),(w.2.1,((),())))))))
include hS in
theorem y0f:∀(todo:List Int) (k n:Nat) (g:Int) (b:List Int),todo.length<n->k<9000000000000000000->b.length+todo.length<100000000->
  ∃rem,Q9 NN n todo g st.1.1 st.1.2.1 st.1.2.2 st.2.1.1 st.2.1.2.1 st.2.1.2.2 st.2.2.1 st.2.2.2.1 st.2.2.2.2.1 (mapS st) (chkS st) st.2.2.2.2.2.2.2 b (k:Int)=some (.inl (wkT st rem (walkS st todo k g b)))∨
   Q9 NN n todo g st.1.1 st.1.2.1 st.1.2.2 st.2.1.1 st.2.1.2.1 st.2.1.2.2 st.2.2.1 st.2.2.2.1 st.2.2.2.2.1 (mapS st) (chkS st) st.2.2.2.2.2.2.2 b (k:Int)=some (.inr (wkT st rem (walkS st todo k g b)))
 | _,_,0,_,_,h,_,_=>absurd h (Nat.not_lt_zero _)
 | [],k,n+1,g,b,_,_,_=>by
  refine⟨(k:Int), .inr ?_⟩
  rw[z4l]
  simp only[Q5]
  rw[Y3 (by rfl)]
  rw[walkS]
 | id::t,k,n+1,g,b,hn,hk,hb=>by
  simp only[List.length_cons]at hn hb
  obtain⟨c,h1,h2⟩:=y9k st id
  have h1':zbt NN ((st.1.1,(st.1.2.1,st.1.2.2)),((st.2.1.1,(st.2.1.2.1,st.2.1.2.2)),(st.2.2.1,(st.2.2.2.1,(st.2.2.2.2.1,(mapS st,(chkS st,st.2.2.2.2.2.2.2))))))) id=some (c,(zja st id).isSome):=h1
  have hrd:rdL (id::t) (0:Int) (0:Int)=id:=rfl
  have hcut:cut2 (id::t) (1:Int) ((id::t).length:Int)=t:=by simp[cut2]
  have hpos:decide ((0:Int)<((id::t).length:Int))=true:=by simp<;>omega
  have hg1:∀{R:Type} (x:Option R),gd (decide (0<=(1:Int))&&(decide ((1:Int)<=((id::t).length:Int))&&decide (((id::t).length:Int)<=((id::t).length:Int)))) x=x:=fun x=>gd_t (by simp;omega) x
  rw[z4l]
  simp only[Q5,hrd,h1',Option.bind_some,z73]
  rw[X6 hpos,gd_t (U1 (by omega) (by simp<;>omega))]
  match k,hk with
  | 0,hk=>
   refine⟨((0:Nat):Int), .inl ?_⟩
   have hw:walkS st (id::t) 0 g b=(id::t,(b,g)):=by rw[walkS]
   rw[hw]
   cases (zja st id).isSome
   ·rfl
   ·rfl
  | k+1,hk=>
   have hz:eqi ((k+1:Nat):Int) 0=false:=G4 (by omega)
   have hw1:IntKind.wrap .i64 (((k+1:Nat):Int)-1)=(k:Int):=by rw[w64 (by omega) (by omega)];omega
   simp only[hz,cond_false,hw1]
   cases hc:zja st id with
   | none=>
    have hw:walkS st (id::t) (k+1) g b=walkS st t k g b:=by rw[walkS,hc]
    rw[hw]
    simp only[Option.isSome_none,Bool.not_false,cond_true]
    rw[X6 (by decide)]
    simp only[Option.bind_some,hcut,hg1]
    exact y0f t k n g b (by omega) (by omega) (by omega)
   | some x=>
    have hx:=h2 x hc
    subst hx
    have hcs:0<=id∧id<((mapS st).length:Int)∧0<=rdL (mapS st) id 0:=by
     unfold zja at hc
     split at hc
     ·assumption
     ·cases hc
    have hc0:c=rdL (mapS st) id 0:=by
     unfold zja at hc
     rw[if_pos hcs]at hc
     exact(Option.some.inj hc).symm
    have hgd:=ylu hS (id::t) b g st.2.1.1 st.2.1.2.1 st.2.1.2.2 st.2.2.1 st.2.2.2.1 st.2.2.2.2.1 st.2.2.2.2.2.2.2 hcs.1 c
    simp only[Option.isSome_some,Bool.not_true,cond_false]
    rw[Y3 (decide_eq_false (by omega)),hgd]
    simp only[Option.bind_some]
    cases hgo:yh5 st id c
    ·have hw:walkS st (id::t) (k+1) g b=walkS st t k g (b++[id]):=by rw[walkS,hc];simp only[hgo];rfl
     rw[hw,cond_false,gd_t (Y4 (by omega) (by omega))]
     simp only[Option.bind_some,hcut,hg1]
     exact y0f t k n g (b++[id]) (by omega) (by omega) (by rw[List.length_append,List.length_singleton];omega)
    ·have hw:walkS st (id::t) (k+1) g b=walkS st t k (IntKind.wrap .i64 (g+1)) b:=by rw[walkS,hc];simp only[hgo];rfl
     rw[hw,cond_true]
     simp only[Option.bind_some,hcut,hg1]
     exact y0f t k n _ b (by omega) (by omega) (by omega)
include hS in
theorem zuk{s:G2}(hl:s.2.1.length+s.1.length<100000000){n:Nat}(hn:n<9000000000000000000):G7 NN s st (n:Int)=some (walkS st s.1 n s.2.2 s.2.1,0):=by
 obtain⟨rem,h⟩:=y0f hS s.1 n NN s.2.2 s.2.1 (by have:=V0;omega) hn hl
 simp only[G7,zkb,za0,z5i,zif,z50]
 rw[Y3 (decide_eq_false (by omega)),gd_t (Y4 (by omega) (by omega))]
 simp only[Option.bind_some]
 rcases h with h | h
 ·rw[h];rfl
 ·rw[h];rfl
end
theorem y4u{st:Z7}{f:Z4}:∀(post pre:List W7) (n:Nat) (out:List Int),post.length<n->(pre++post).length<1000000->out.length+post.length<1000000->
  z7b NN n (pre++post) ((pre++post).length:Int) (pre.length:Int) st f out=some (((),((),((),()))),(st,(f,((),(out++post.map epR,())))))
 | _,_,0,_,h,_,_=>absurd h (Nat.not_lt_zero _)
 | [],pre,n+1,out,_,_,_=>by
  rw[zdp]
  simp only[z1g,List.append_nil,Int.lt_irrefl,decide_false,cond_false,List.map_nil]
 | e::post,pre,n+1,out,hn,hl,ho=>by
  simp only[List.length_cons]at hn ho
  have hb:pre.length<9223372036854775807:=by simp at hl;omega
  have ih:=y4u (st:=st) (f:=f) post (pre++[e]) n (out++[epR e]) (by omega) (by simpa using hl) (by rw[List.length_append,List.length_singleton];omega)
  rw[zdp]
  simp only[z1g,U9,cond_true,U3,V1 (q:=e) hb]
  rw[gd_t V7,gd_t (Y4 (by simp only[List.length_cons,List.length_nil];omega) (by omega)),U2 (pre:=pre) (q:=e) (post:=post),List.map_cons]
  have e1:out++epR e::post.map epR=(out++[epR e])++post.map epR:=by simp
  rw[e1]
  exact ih
theorem zwa{st:Z7}(b3:Int)(b5:List Int):∀(post pre:List Int) (n:Nat) (out:List Int),post.length<n->(pre++post).length<1000000->out.length+post.length<1000000->
  z7a NN n ((pre++post).length:Int) (pre.length:Int) st b3 out b5 (pre++post)=some (((),()),((),(((),((),b3)),(out++post.filter fun id=>(zja st id).isSome,(b5,())))))
 | _,_,0,_,h,_,_=>absurd h (Nat.not_lt_zero _)
 | [],pre,n+1,out,_,_,_=>by
  rw[zdo]
  simp only[z1f,List.append_nil,Int.lt_irrefl,decide_false,cond_false,List.filter_nil]
 | e::post,pre,n+1,out,hn,hl,ho=>by
  simp only[List.length_cons]at hn ho
  have hb:pre.length<9223372036854775807:=by simp at hl;omega
  obtain⟨c,c1,_⟩:=y9k st e
  rw[zdo]
  simp only[z1f,U9,cond_true,U3,V1 (q:=e) hb,c1,Option.bind_some]
  rw[gd_t V7,U2 (pre:=pre) (q:=e) (post:=post)]
  cases hc:(zja st e).isSome
  ·rw[cond_false,zwa b3 b5 post (pre++[e]) n out (by omega) (by simpa using hl) (by omega),List.filter_cons_of_neg (by simp[hc])]
  ·rw[cond_true,gd_t (Y4 (by omega) (by omega)),zwa b3 b5 post (pre++[e]) n (out++[e]) (by omega) (by simpa using hl) (by rw[List.length_append,List.length_singleton];omega),List.filter_cons_of_pos (by simp[hc])]
   simp
def todoS(st:Z7)(R:List Int):List Int:=R.filter fun id=>(zja st id).isSome
abbrev yjl(f:Z4):List Int:=f.2.2.2.2.1::f.2.2.1.map epR
theorem IsReach.short{p:List Sl}{R out:List Int}(h:IsReach p R out):out.length<=p.length:=by
 have:=zeg (l:=out) (L:=(List.range p.length).map fun n:Nat=>(n:Int)) (h.1.imp fun hlt e=>by omega) (fun x hx=>by
  have hu:=((h.2 x).1 hx).used
  have h0:=z1e hu
  have h1:=zgi hu
  exact List.mem_map.2 ⟨x.toNat,List.mem_range.2 (by omega),by omega⟩)
 simpa using this
theorem ygu(st:Z7){f:Z4}(hl:f.1.length<=4096)(hk:∀s∈f.1,(w6 s).length<=40000)(he:f.2.2.1.length<=16):∃R,IsReach f.1 (yjl f) R∧zaa NN st f=some (todoS st R,([],0)):=by
 obtain⟨R,r1,r2⟩:=y4a (N:=NN) (by have:=V0;omega) (p:=f.1) (R:=yjl f) (by omega) (fun s hs=>by have:=hk s hs;omega) (by simp;omega)
 have hs:=r2.short
 have h0:=y4u (st:=st) (f:=f) f.2.2.1 [] NN [f.2.2.2.2.1] (by have:=V0;omega) (by simp;omega) (by simp;omega)
 have h1:=zwa (st:=st) 0 [] R [] NN [] (by have:=V0;omega) (by simp;omega) (by simp;omega)
 have hz:(([]:List W7).length:Int)=0:=rfl
 have hz2:(([]:List Int).length:Int)=0:=rfl
 rw[hz,List.nil_append]at h0
 rw[hz2,List.nil_append]at h1
 refine⟨R,r2, ?_⟩
 have r1':za7 NN f.1 ([f.2.2.2.2.1]++f.2.2.1.map epR)=some R:=r1
 simp only[zaa,h0,Option.bind_some,r1',h1]
 rfl
theorem zw7(st:Z7):∀(t:List Int) (g:Int) (b:List Int),walkS st t 0 g b=(t,(b,g))
 | [],_,_=>by rw[walkS]
 | _::_,_,_=>by rw[walkS]
theorem y23(st:Z7)(k:Nat)(g:Int)(b:List Int):walkS st [] k g b=([],(b,g)):=by rw[walkS]
theorem ztz(st:Z7):∀(t:List Int) (k:Nat) (g:Int) (b:List Int),t.length<=k->(walkS st t k g b).1=[]
 | [],k,g,b,_=>by rw[y23]
 | _::_,0,_,_,h=>absurd h (by simp)
 | id::t,k+1,g,b,h=>by
  simp only[List.length_cons]at h
  rw[walkS]
  split
  ·exact ztz st t k g b (by omega)
  ·split
   ·exact ztz st t k _ b (by omega)
   ·exact ztz st t k g _ (by omega)
theorem zty(st:Z7):∀(t:List Int) (k:Nat) (g:Int) (b:List Int),(walkS st t k g b).1.length<=t.length∧(walkS st t k g b).2.1.length+(walkS st t k g b).1.length<=b.length+t.length
 | [],k,g,b=>by rw[y23];exact⟨Nat.le_refl _,Nat.le_refl _⟩
 | id::t,0,g,b=>by rw[zw7];exact⟨Nat.le_refl _,Nat.le_refl _⟩
 | id::t,k+1,g,b=>by
  rw[walkS]
  have h1:=zty st t k g b
  have h2:=zty st t k (IntKind.wrap .i64 (g+1)) b
  have h3:=zty st t k g (b++[id])
  simp only[List.length_cons,List.length_append,List.length_nil]at h3⊢
  split
  ·omega
  ·split<;>omega
theorem yjk(N:Nat):∀(post pre:List Int) (m:Nat),post.length<m->(pre++post).length<1000000000->z9h N m (pre++post) (pre++post) (pre.length:Int)=some (.inr ((),()))
 | [],_,0,h,_=>absurd h (Nat.not_lt_zero _)
 | _::_,_,0,h,_=>absurd h (Nat.not_lt_zero _)
 | [],pre,m+1,_,_=>by
  rw[zfp]
  simp only[z38,List.append_nil,Int.lt_irrefl,decide_false,cond_false]
 | b::post,pre,m+1,hm,hl=>by
  simp only[List.length_cons]at hm
  have ih:=yjk N post (pre++[b]) m (by omega) (by simpa using hl)
  rw[zfp]
  simp only[z38,U9,V7,U3,cond_true,K4,Bool.not_true,cond_false]
  rw[gd_t rfl,gd_t rfl,V1 (q:=b) (by simp at hl;omega),U2]
  exact ih
theorem y65{l:List Int}(hl:l.length<1000000000):zcd NN l l=some true:=by
 have h:=yjk NN l [] NN (by have:=V0;omega) (by simpa using hl)
 rw[show(([]:List Int).length:Int)=0 from rfl,List.nil_append]at h
 simp only[zcd,h,K4,Bool.not_true,cond_false]
theorem y60{s:G2}(h:s.2.1.length+s.1.length<100000000):z3t NN s s=some true:=by
 simp only[z3t,y65 (show s.1.length<1000000000 by omega),y65 (show s.2.1.length<1000000000 by omega),Option.bind_some,cond_true,K4]
theorem StOk.stl{f:Z4}{st:Z7}(h:StOk f st)(hf:f.1.length<=4096):StL st:=
 ⟨h.qu,by have:=h.nc;show st.1.2.1.length<_;omega,fun c hc=>by have:=h.cl c hc;have:=h.sz.2;omega,by have:=h.ml;show st.2.2.2.2.2.1.length<_;omega,by have:=h.kl;show st.2.2.2.2.2.2.1.length<_;omega⟩
theorem yht{s:G2}{st:Z7}{n:Int}(h:n<0):G7 NN s st n=some (s,280):=by
 simp only[G7,zkb]
 rw[X6 (decide_eq_true h)]
 rfl
theorem FS.kids{k leaf fan bl:Nat}{f:Z4}(h:FS k leaf fan bl f):f.1.length<=4096∧(∀s∈f.1,(w6 s).length<=40000)∧f.2.2.1.length<=16:=⟨h.pi.len,h.pi.kb,h.ne⟩
theorem y6k(hsan:zba NN=some true){x:zah}{n:Int}(hx:okT zai x)(hn: -32768<=n∧n<32768):z5o NN x n=some true:=by
 obtain⟨m,leaf,fan,bl,m1,m2,m3⟩:=ygy hx
 simp only[z5o,W5,hsan,m1,Option.bind_some]
 rcases m3 with m3 | ⟨m3,m4⟩
 ·rw[X6 (by rw[G4 m3];rfl)]
 ·rw[Y3 (by rw[m3];rfl)]
  obtain⟨k1,k2,k3⟩:=m2.kids
  have hS:=m4.stl k1
  obtain⟨R,r1,r2⟩:=ygu m.1 k1 k2 k3
  have hR:=r1.short
  have hT:(todoS m.1 R).length<=4096:=Nat.le_trans (List.length_filter_le _ _) (by omega)
  generalize todoS m.1 R=T at r2 hT
  have hw:IntKind.wrap .i64 n=n:=w64 (by omega) (by omega)
  have s5:G7 NN (T,([],0)) m.1 (4096:Int)=some (walkS m.1 T 4096 0 [],0):=zuk hS (s:=(T,([],0))) (by simp;omega) (n:=4096) (by omega)
  have s8:G7 NN (T,([],0)) m.1 (0:Int)=some ((T,([],0)),0):=by
   have:=zuk hS (s:=(T,([],0))) (by simp;omega) (n:=0) (by omega)
   rw[zw7]at this
   exact this
  have hend:=ztz m.1 T 4096 0 [] hT
  have hlen:=(zty m.1 T 4096 0 []).2
  rw[hend]at hlen
  simp only[List.length_nil,Nat.zero_add,Nat.add_zero]at hlen
  have s7:∀k:Nat,k<100000->G7 NN (walkS m.1 T 4096 0 []) m.1 (k:Int)=some (walkS m.1 T 4096 0 [],0):=fun k hk=>by
   have:=zuk hS (s:=walkS m.1 T 4096 0 []) (by rw[hend];simp;omega) (n:=k) (by omega)
   rw[hend,y23]at this
   rw[this]
   generalize walkS m.1 T 4096 0 []=w at hend
   obtain⟨a,b,c⟩:=w
   have:a=[]:=hend
   rw[this]
  have hsm:z3t NN (walkS m.1 T 4096 0 []) (walkS m.1 T 4096 0 [])=some true:=y60 (by rw[hend];simp;omega)
  have hsm2:z3t NN (T,(([]:List Int),(0:Int))) (T,([],0))=some true:=y60 (s:=(T,([],0))) (by simp;omega)
  have e0:eqi (0:Int) 0=true:=rfl
  simp only[r2,Option.bind_some,hw,s5,s8]
  by_cases h0:n<0
  ·have hd:(bif decide ((0:Int)<n)then n else(0:Int))=((0:Nat):Int):=by rw[Y3 (decide_eq_false (by omega))];rfl
   rw[hd,yht h0]
   simp only[Option.bind_some,s7 0 (by omega)]
   rw[decide_eq_true h0,X6 (by decide),Y3 (decide_eq_false (by omega))]
   simp only[hsm2,hsm,Option.bind_some,cond_true,e0]
  ·obtain⟨k,rfl⟩:∃k:Nat,n=(k:Int):=⟨n.toNat,by omega⟩
   have hd:(bif decide ((0:Int)<(k:Int))then(k:Int)else(0:Int))=(k:Int):=by
    by_cases hk:0<(k:Int)
    ·rw[X6 (decide_eq_true hk)]
    ·rw[Y3 (decide_eq_false hk)];omega
   have s4:=zuk hS (s:=(T,([],0))) (by simp;omega) (n:=k) (by omega)
   rw[hd,s4]
   simp only[Option.bind_some,s7 k (by omega)]
   rw[decide_eq_false h0,X6 (by decide)]
   by_cases hk:0<(k:Int)
   ·rw[X6 (decide_eq_true hk)]
    simp only[hsm2,hsm,Option.bind_some,cond_true,e0]
   ·have hk0:k=0:=by omega
    subst hk0
    rw[Y3 (decide_eq_false (by omega)),zw7]
    simp only[hsm2,hsm,Option.bind_some,cond_true,e0]
end Ds
