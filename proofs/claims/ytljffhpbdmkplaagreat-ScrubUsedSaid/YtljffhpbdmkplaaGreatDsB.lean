/- Trees: lists of kids, parts of them, wider regions, higher grades. -/
import Derived.Test.YtljffhpbdmkplaaGreatDsA
set_option linter.all false
open Bool renaming and_eq_true->ab,not_eq_true'->au,or_eq_true->aA
open Int renaming tdiv->cP
open Go.IntKind renaming wrap->aa
open List renaming Pairwise->aX,append_assoc->aU,append_nil->aj,cons_append->ba,eq_nil_or_concat->cF,flatten_cons->cJ,length->ak,length_append->aq,length_cons->ag,length_drop->cD,length_eq_zero_iff->cW,length_filter_le->bP,length_map->ci,length_nil->aJ,length_pos_iff->bI,length_take->cC,mem_append->am,mem_append_left->bo,mem_append_right->bB,mem_cons->ar,mem_map->aH,mem_singleton->bq,nil_append->ah,pairwise_cons->aD,perm_append_comm->df,range->bF,range'_succ->cQ,sum_cons->bU,take_append_drop->bV,take_of_length_le->bu
open Nat renaming add_mul->cy,add_zero->bD,div_add_mod->dk,div_le_self->cq,eq_zero_or_pos->cV,le_add_right->bO,le_div_iff_mul_le->dP,le_max_left->eB,le_max_right->ej,le_refl->ai,le_trans->aP,lt_of_le_of_lt->bE,lt_of_lt_of_le->aT,mul_add->eD,mul_le_mul->co,mul_le_mul_left->aY,mul_le_mul_right->bn,not_lt_zero->ae,succ_le_succ->cB,zero_add->bk,zero_le->aZ
open Option renaming bind_some->ac
namespace Ds
open Go Go.Dv
set_option maxRecDepth 100000
variable [Fuel]
def Trs.app:Trs->Trs->Trs
 | .nil,b=>b
 | .cons t a,b=> .cons t (a.app b)
theorem Trs.app_nil:∀a:Trs,a.app .nil=a
 | .nil=>rfl
 | .cons t a=>by rw[Trs.app,Trs.app_nil a]
theorem Trs.app_assoc:∀a b c:Trs,(a.app b).app c=a.app (b.app c)
 | .nil,_,_=>rfl
 | .cons t a,b,c=>by simp only[Trs.app,Trs.app_assoc a b c]
theorem Trs.app_len:∀a b:Trs,(a.app b).len=a.len+b.len
 | .nil,b=>by simp[Trs.app,Trs.len]
 | .cons t a,b=>by simp only[Trs.app,Trs.len,Trs.app_len a b];omega
theorem Trs.app_mv:∀a b:Trs,(a.app b).mv=a.mv+b.mv
 | .nil,b=>by simp[Trs.app,Trs.mv]
 | .cons t a,b=>by simp only[Trs.app,Trs.mv,Trs.app_mv a b];omega
theorem Trs.app_ht:∀a b:Trs,(a.app b).ht=max a.ht b.ht
 | .nil,b=>by simp[Trs.app,Trs.ht]
 | .cons t a,b=>by simp only[Trs.app,Trs.ht,Trs.app_ht a b];omega
theorem Trs.len_zero:∀{a:Trs},a.len=0->a= .nil
 | .nil,_=>rfl
 | .cons _ _,h=>by grind[Trs.len]
theorem UnfL.app{p:List Sl}:∀{a b:Trs} {ka kb:List Int},UnfL p ka a->UnfL p kb b->UnfL p (ka++kb) (a.app b)
 | .nil,_,[],_,_,h=>h
 | .nil,_,_::_,_,h,_=>by grind[UnfL]
 | .cons _ _,_,[],_,h,_=>by grind[UnfL]
 | .cons t a,b,k::ka,kb,h,h'=>by simp only[UnfL]at h;simp only[ba,Trs.app,UnfL];exact⟨h.1,UnfL.app h.2 h'⟩
theorem UnfL.split{p:List Sl}:∀{a b:Trs} {k:List Int},UnfL p k (a.app b)->UnfL p (k.take a.len) a/\UnfL p (k.drop a.len) b
 | .nil,b,k,h=>by simp only[Trs.len,List.take_zero,List.drop_zero];exact⟨by simp[UnfL],h⟩
 | .cons t a,b,[],h=>by grind[Trs.app,UnfL]
 | .cons t a,b,k::ks,h=>by simp only[Trs.app,UnfL]at h;obtain⟨h1,h2⟩:=UnfL.split (a:=a) h.2;simp only[Trs.len,List.take_succ_cons,List.drop_succ_cons,UnfL];exact⟨⟨h.1,h1⟩,h2⟩
theorem UnfL.used{p:List Sl}:∀{a:Trs} {k:List Int},UnfL p k a->∀i∈k,W5 p i=true
 | .nil,[],_,i,hi=>by grind
 | .nil,_::_,h,_,_=>by grind[UnfL]
 | .cons _ _,[],h,_,_=>by grind
 | .cons t a,k::ks,h,i,hi=>by
  simp only[UnfL]at h;rcases ar.1 hi with rfl | hi
  ·cases t with
   | leaf ps=>simp only[Unf]at h;exact h.1.1
   | node ks piv buf=>simp only[Unf]at h;exact h.1.1
  ·exact UnfL.used h.2 i hi
theorem VTs.ne{g:Nat}{lo hi:B}{piv:List B}(h:VTs g lo hi .nil piv):False:=by grind[VTs]
theorem VTs.cut{g:Nat}{hi:B}:∀{a b:Trs} {piv:List B} {lo:B},a≠ .nil->b≠ .nil->VTs g lo hi (a.app b) piv->
  ∃pa q pb,piv=pa++q::pb/\pa.length+1=a.len/\q∈KU g/\lts lo q=true/\K1 q hi=true/\VTs g lo q a pa/\VTs g q hi b pb
 | .nil,_,_,_,h,_,_=>(h rfl).elim
 | .cons t .nil, .nil,_,_,_,h,_=>(h rfl).elim
 | .cons t .nil, .cons u b,[],_,_,_,h=>by simp_all[Trs.app,VTs]
 | .cons t .nil, .cons u b,q::piv,lo,_,_,h=>by simp only[Trs.app,VTs]at h;exact⟨[],q,piv,rfl,rfl,h.1,h.2.1,h.2.2.1,by grind[VTs],h.2.2.2.2⟩
 | .cons t (.cons u a),b,[],_,_,_,h=>by simp_all[Trs.app,VTs]
 | .cons t (.cons u a),b,q::piv,lo,_,hb,h=>by simp only[Trs.app,VTs]at h;obtain⟨h1,h2,h3,h4,h5⟩:=h;obtain⟨pa,r,pb,e,l,r1,r2,r3,r4,r5⟩:=VTs.cut (a:= .cons u a) (b:=b) (piv:=piv) (lo:=q) (by simp) hb h5;refine⟨q::pa,r,pb,by grind,by grind[Trs.len],r1,k8 h2 r2,r3, ?_,r5⟩;simp_all[VTs,K1]
theorem VTs.join{g:Nat}{hi q:B}(hq:q∈KU g)(hq2:K1 q hi=true){b:Trs}{pb:List B}:∀{a:Trs} {pa:List B} {lo:B},lts lo q=true->VTs g lo q a pa->VTs g q hi b pb->VTs g lo hi (a.app b) (pa++q::pb)
 | .nil,pa,_,_,h,_=>(VTs.ne h).elim
 | .cons t .nil,[],lo,hl,h,h'=>by
  cases b with
  | nil=>grind[VTs.ne]
  | cons u b=>
   grind[VTs,Trs.app]
 | .cons t .nil,_::_,lo,_,h,_=>by grind[VTs]
 | .cons t (.cons u a),[],_,_,h,_=>by grind[VTs]
 | .cons t (.cons u a),r::pa,lo,hl,h,h'=>by
  simp only[VTs]at h;obtain⟨h1,h2,h3,h4,h5⟩:=h;have hrq:lts r q=true:=by
   simp only[K1,aA]at h3
   grind[y6,KU.ne]
  simp only[Trs.app,ba,VTs];refine⟨h1,h2,zij hrq hq2,h4, ?_⟩;exact VTs.join hq hq2 (a:= .cons u a) hrq h5 h'
mutual
theorem VT.wid{g g':Nat}(hg:g<=g'):∀{T:Tr} {lo hi lo' hi':B},VT g lo hi T->lts lo lo'=false->(∀k,K1 k hi=true->K1 k hi'=true)->VT g' lo' hi' T
 | .leaf ps,lo,hi,lo',hi',h,h1,h2=>by simp only[VT]at h|-;refine⟨h.1.mono hg,fun p hp=> ?_⟩;have:=h.2 p hp;rw[Q8]at this|-;simp only[ab,au]at this|-;exact⟨y4o h1 this.1,h2 _ this.2⟩
 | .node ks piv buf,lo,hi,lo',hi',h,h1,h2=>by simp only[VT]at h|-;refine⟨VTs.wid hg h.1 h1 h2,fun m hm=>⟨(h.2 m hm).1.mono hg,fun x hx k hk=> ?_⟩⟩;have:=(h.2 m hm).2 x hx k hk;rw[Q8]at this|-;simp only[ab,au]at this|-;exact⟨y4o h1 this.1,h2 _ this.2⟩
theorem VTs.wid{g g':Nat}(hg:g<=g'):∀{ks:Trs} {piv:List B} {lo hi lo' hi':B},VTs g lo hi ks piv->lts lo lo'=false->(∀k,K1 k hi=true->K1 k hi'=true)->VTs g' lo' hi' ks piv
 | .nil,_,_,_,_,_,h,_,_=>(VTs.ne h).elim
 | .cons t .nil,[],lo,hi,lo',hi',h,h1,h2=>by simp only[VTs]at h|-;exact VT.wid hg h h1 h2
 | .cons t .nil,_::_,_,_,_,_,h,_,_=>by simp[VTs]at h
 | .cons t (.cons u us),[],_,_,_,_,h,_,_=>by simp[VTs]at h
 | .cons t (.cons u us),q::piv,lo,hi,lo',hi',h,h1,h2=>by
  simp only[VTs]at h|-;obtain⟨a,b,c,d,e⟩:=h;refine⟨KU.mono hg a, ?_,h2 _ c,VT.wid hg d h1 (fun _ h=>h),VTs.wid hg e (z12 q) h2⟩;cases e:lts lo' q
  ·have:=y4o e h1;rw[b]at this;cases this
  ·rfl
end
theorem VTs.mono{g g':Nat}(hg:g<=g'){ks:Trs}{piv:List B}{lo hi:B}(h:VTs g lo hi ks piv):VTs g' lo hi ks piv:=VTs.wid hg h (z12 lo) fun _ h=>h
structure Kid (g:Nat) (lo hi:B) (a:Trs) (t:Tr) (b:Trs) (pa pb:List B) (lo' hi':B):Prop where
 ha:(a= .nil/\pa=[]/\lo'=lo)\/(∃pa',pa=pa'++[lo']/\pa.length=a.len/\VTs g lo lo' a pa'/\lo'∈KU g/\lts lo lo'=true/\K1 lo' hi=true)
 hb:(b= .nil/\pb=[]/\hi'=hi)\/(∃pb',pb=hi'::pb'/\pb.length=b.len/\VTs g hi' hi b pb'/\hi'∈KU g/\lts lo' hi'=true/\K1 hi' hi=true)
 ht:VT g lo' hi' t
theorem Kid.la{g:Nat}{lo hi:B}{a:Trs}{t:Tr}{b:Trs}{pa pb:List B}{lo' hi':B}(h:Kid g lo hi a t b pa pb lo' hi'):pa.length=a.len/\pb.length=b.len:=by
 constructor
 ·rcases h.ha with⟨h1,h2,_⟩ | ⟨_,_,h,_⟩
  ·rw[h1,h2];rfl
  omega
 ·rcases h.hb with⟨h1,h2,_⟩ | ⟨_,_,h,_⟩
  ·rw[h1,h2];rfl
  omega
theorem Kid.of{g:Nat}{lo hi:B}{a:Trs}{t:Tr}{b:Trs}{piv:List B}(h:VTs g lo hi (a.app (.cons t b)) piv):∃pa pb lo' hi',piv=pa++pb/\Kid g lo hi a t b pa pb lo' hi':=by
 have two:∀{lo piv},VTs g lo hi (.cons t b) piv->∃hi',VT g lo hi' t/\((b= .nil/\piv=[]/\hi'=hi)\/(∃pb',piv=hi'::pb'/\piv.length=b.len/\VTs g hi' hi b pb'/\hi'∈KU g/\lts lo hi'=true/\K1 hi' hi=true)):=by
  intro lo piv h;cases b with
  | nil=>
   cases piv with
   | nil=>simp only[VTs]at h;grind
   | cons _ _=>grind[VTs]
  | cons u us=>
   cases piv with
   | nil=>grind[VTs]
   | cons q piv=>
    simp only[VTs]at h;obtain⟨_,_,hl⟩:=VTs.piv h.2.2.2.2
    grind
 cases a with
 | nil=>obtain⟨hi',h1,h2⟩:=two h;exact⟨[],piv,lo,hi',rfl, .inl ⟨rfl,rfl,rfl⟩,h2,h1⟩
 | cons u a=>obtain⟨pa,q,pb,e,l,h1,h2,h3,h4,h5⟩:=VTs.cut (a:= .cons u a) (b:= .cons t b) (by simp) (by simp) h;obtain⟨hi',k1,k2⟩:=two h5;exact⟨pa++[q],pb,q,hi',by grind, .inr ⟨pa,rfl,by grind,h4,h1,h2,h3⟩,k2,k1⟩
theorem Kid.rep{g g':Nat}(hg:g<=g'){lo hi:B}{a:Trs}{t:Tr}{b:Trs}{pa pb:List B}{lo' hi':B}(h:Kid g lo hi a t b pa pb lo' hi'){c:Trs}{pc:List B}(hc:VTs g' lo' hi' c pc):VTs g' lo hi (a.app (c.app b)) (pa++(pc++pb)):=by
 have h1:VTs g' lo' hi (c.app b) (pc++pb):=by
  rcases h.hb with⟨e1,e2,e3⟩ | ⟨pb',e1,_,e2,e3,e4,e5⟩
  ·grind[Trs.app_nil]
  ·rw[e1];exact VTs.join (KU.mono hg e3) e5 e4 hc (e2.mono hg)
 rcases h.ha with⟨e1,e2,e3⟩ | ⟨pa',e1,_,e2,e3,e4,e5⟩
 ·rw[e1,e2,<-e3];exact h1
 ·rw[e1,aU];exact VTs.join (KU.mono hg e3) e5 e4 (e2.mono hg) h1
theorem Kid.less{g:Nat}{lo hi:B}{a:Trs}{t:Tr}{b:Trs}{pa pb:List B}{lo' hi':B}(h:Kid g lo hi a t b pa pb lo' hi')(hab:a≠ .nil\/b≠ .nil):VTs g lo hi (a.app b) (if pa=[]then pb.tail else pa.dropLast++pb):=by
 rcases h.ha with⟨e1,e2,e3⟩ | ⟨pa',e1,_,e2,e3,e4,e5⟩
 ·rcases h.hb with⟨f1,_,_⟩ | ⟨pb',f1,_,f2,f3,f4,f5⟩
  ·grind
  ·rw[e1,e2,f1,if_pos rfl];rw[e3]at f4;exact VTs.wid (ai g) f2 (z3h f4) fun _ h=>h
 ·have hne:pa≠[]:=by grind
  rw[if_neg hne,e1,List.dropLast_concat];rcases h.hb with⟨f1,f2,f3⟩ | ⟨pb',f1,_,f2,f3,f4,f5⟩
  ·rw[f1,f2,Trs.app_nil,aj];exact VTs.wid (ai g) e2 (z12 lo) fun k hk=>by
    simp only[K1,aA]at hk
    grind[y6,KU.ne,zij]
  ·rw[f1];refine VTs.join f3 f5 (k8 e4 f4) (VTs.wid (ai g) e2 (z12 lo) fun k hk=> ?_) f2;simp only[K1,aA]at hk|-
   grind[y6,KU.ne,k8]
theorem yn7(s:Sp):∀(pa:List B) (l:B) (pb:List B),rdL (z73 s l (pa++pb)) (pa.length:Int) Y7=z17 s (pa.getLast?.getD l,pb.head?.getD [])
 | [],l,[]=>rfl
 | [],l,q::pb=>rfl
 | q::pa,l,pb=>by
  have e:rdL (z73 s l (q::pa++pb)) ((q::pa).length:Int) Y7=rdL (z73 s q (pa++pb)) (pa.length:Int) Y7:=by simp only[ba,z73,rdL,ag];have:(((pa.length+1:Nat):Int)).toNat=pa.length+1:=rfl;simp
  rw[e,yn7 s pa q pb];cases pa with
  | nil=>rfl
  | cons r pa=>simp[List.getLast?_cons]
theorem Kid.part{g:Nat}{lo hi:B}{a:Trs}{t:Tr}{b:Trs}{pa pb:List B}{lo' hi':B}(h:Kid g lo hi a t b pa pb lo' hi'):
  SpG g (rdL (z73 ([],[]) [] (pa++pb)) (a.len:Int) Y7)/\∀k,hasB (rdL (z73 ([],[]) [] (pa++pb)) (a.len:Int) Y7) k=true->hasB (lo,hi) k=true->hasB (lo',hi') k=true:=by
 rw[<-h.la.1,yn7];have all:∀k,hasB (([],[]):Sp) k=true:=fun k=>by rw[Q8];cases k<;>rfl
 have hp:∀x∈pa++pb,x∈KU g:=by
  intro x hx;rcases am.1 hx with hx | hx
  ·rcases h.ha with⟨_,e2,_⟩ | ⟨pa',e1,_,e2,e3,_,_⟩
   ·grind
   ·rw[e1]at hx;rcases am.1 hx with hx | hx
    ·exact((VTs.piv e2).2.1 x hx).1
    grind
  ·rcases h.hb with⟨_,e2,_⟩ | ⟨pb',e1,_,e2,e3,_,_⟩
   ·grind
   ·rw[e1]at hx;rcases ar.1 hx with hx | hx
    ·grind
    ·exact((VTs.piv e2).2.1 x hx).1
 generalize hA:pa.getLast?.getD []=A;generalize hC:pb.head?.getD []=C;have uA:A∈UU g:=by grind[UU.nil,UU.of]
 have uC:C∈UU g:=by
  rcases h.hb with⟨_,e2,_⟩ | ⟨pb',e1,_,e2,e3,_,_⟩
  all_goals grind[UU.nil,UU.of]
 have hAC:C=[]\/lts A C=true:=by
  rcases h.hb with⟨_,e2,_⟩ | ⟨pb',e1,_,e2,e3,e4,_⟩
  ·grind
  ·right;rw[<-hC,e1];rcases h.ha with⟨_,f2,_⟩ | ⟨pa',f1,_,f2,f3,_,_⟩
   ·rw[<-hA,f2];show lts [] hi'=true;cases hi' with
    | nil=>grind[KU.ne]
    | cons _ _=>rfl
   grind
 have hin:hasB (A,C) A=true:=zy6 (full_iff.2 hAC);have hm:hasB (z17 ([],[]) (A,C)) A=true:=by grind[zkb]
 have hne:emptyB (z17 ([],[]) (A,C))=false:=by grind[zod]
 refine⟨ygv ⟨rfl,UU.nil g,UU.nil g⟩ ⟨full_iff.2 hAC,uA,uC⟩ hne,fun k h1 h2=> ?_⟩;rw[zkb,ab]at h1;have h1:=h1.2;rw[Q8]at h1 h2|-;simp only[ab,au]at h1 h2|-;constructor
 ·rcases h.ha with⟨_,_,e3⟩ | ⟨pa',e1,_,_⟩
  all_goals grind
 ·rcases h.hb with⟨_,_,e3⟩ | ⟨pb',e1,_,_⟩
  all_goals grind
def szf(n c i:Nat):Nat:=n/c+if i<n%c then 1 else 0
def szs(n c:Nat):List Nat:=(bF c).map (szf n c)
def ints(l:List Nat):List Int:=l.map fun n:Nat=>(n:Int)
theorem wnat(q:Nat)(h:q<4000000000):aa .i64 (q:Int)=(q:Int):=w64 (by omega) (by omega)
theorem yml{n c:Nat}(hc:0<c)(hn:n<1000000000)(hcb:c<1000000000):∀(d i:Nat) (m:Nat) (out:List Int),i+d=c->d<m->out.length=i->
  zf0 NN m (n:Int) (c:Int) (i:Int) out=some ((),(out++ints ((List.range' i d).map (szf n c)),()))
 | _,_,0,_,_,h,_=>absurd h (ae _)
 | 0,i,m+1,out,hi,_,_=>by simp_all[z40,ints,zjv]
 | d+1,i,m+1,out,hi,hm,ho=>by
  have t1:Int.tmod (n:Int) (c:Int)=((n%c:Nat):Int):=by grind
  have t2:cP (n:Int) (c:Int)=((n/c:Nat):Int):=by simp
  have hd:n/c<=n:=cq _ _;have w1:aa .i64 ((n/c:Nat):Int)=((n/c:Nat):Int):=wnat _ (bE hd (by omega));have w2:aa .i64 (((n/c:Nat):Int)+1)=((n/c+1:Nat):Int):=wnat (n/c+1) (bE (cB hd) (by omega));have w3:aa .i64 ((i:Int)+1)=((i+1:Nat):Int):=w64 (by omega) (by omega);have hne:eqi (c:Int) 0=false:=G6 (by omega);rw[zjv];simp only[z40,t1,t2,w1,w2,w3,hne,Bool.not_false];rw[W8 (by grind),gd_t rfl,gd_t rfl];have ih:=fun x=>yml hc hn hcb d (i+1) m (out++[x]) (by omega) (by omega) (by grind);by_cases h:i<n%c
  ·rw[W8 (by grind),gd_t (Y9 (by omega) (by omega)),ih]
   grind[ints,szf,cQ]
  ·rw[X5 (by grind),gd_t (Y9 (by grind) (by omega)),ih]
   grind[ints,szf,cQ]
theorem yrp(q r:Nat):∀c,((bF c).map fun i=>q+if i<r then 1 else 0).sum=c*q+min c r
 | 0=>by simp
 | c+1=>by
  rw[List.range_succ,List.map_append,List.sum_append_nat,yrp q r c]
  grind
theorem yp1{n most:Nat}(hn:1<=n)(hm:1<=most)(hb:n<1000000000)(hmb:most<1000000000):
  ∃sz:List Nat,z7o NN (n:Int) (most:Int)=some (ints sz)/\sz.sum=n/\(∀s∈sz,1<=s/\s<=most)/\sz.length=(n-1)/most+1:=by
 have hc1:(n-1)/most<=n-1:=cq _ _;have hcm0:=Nat.lt_div_mul_add hm (a:=n-1);obtain⟨q,hq⟩:∃q,(n-1)/most=q:=⟨_,rfl⟩;have t1:cP (aa .i64 ((n:Int)-1)) (most:Int)=(q:Int):=by grind[w64]
 rw[hq]at hc1 hcm0|-;have hcm:n<=(q+1)*most:=by grind
 refine⟨szs n (q+1), ?_, ?_, ?_,by simp[szs]⟩
 ·have w1:aa .i64 (q:Int)=(q:Int):=wnat q (by omega);have w2:aa .i64 ((q:Int)+1)=((q+1:Nat):Int):=wnat (q+1) (by omega);have h:=yml (n:=n) (c:=q+1) (by omega) hb (by omega) (q+1) 0 NN [] (by omega) (by grind[W3]) rfl;simp only[z7o,t1,w1,w2];rw[X5 (by grind),X5 (by grind),gd_t (by grind[G6])];rw[show((0:Nat):Int)=0 from rfl]at h
  grind[szs,List.range_eq_range']
 ·have:=yrp (n/(q+1)) (n%(q+1)) (q+1);show((bF (q+1)).map fun i=>n/(q+1)+if i<n%(q+1)then 1 else 0).sum=n;rw[this];have h1:=dk n (q+1);have h2:=Nat.mod_lt n (show 0<q+1 by omega);omega
 ·intro s hs;obtain⟨i,hi,rfl⟩:=aH.1 hs;have h1:=dk n (q+1);have h3:1<=n/(q+1):=(Nat.one_le_div_iff (by omega)).2 (by omega);have h4:n/(q+1)<=most:=Nat.div_le_of_le_mul hcm;unfold szf
  grind
theorem yxx(most:Int):z7o NN 0 most=some []:=by grind[z7o]
theorem y77{pre post:List Nat}{s:Nat}:rdL (ints (pre++s::post)) (pre.length:Int) (0:Int)=(s:Int):=by grind[ints,V5,ci]
theorem z8y(l:List Nat):(ints l).length=l.length:=by simp[ints]
def chop{α:Type}:List Nat->List α->List (List α)
 | [],_=>[]
 | s::ss,l=>l.take s::chop ss (l.drop s)
theorem y4t{α:Type}(a l:List α)(s:Nat):cut2 (a++l) (a.length:Int) ((a.length:Int)+(s:Int))=l.take s:=by simp[cut2];omega
theorem yht(t:List Pr)(ht:t.length<1000000000):∀(post pre:List Nat) (a l:List Pr) (n:Nat) (out:List (List Pr)),t=a++l->post.sum<=l.length->post.length<n->(pre++post).length<1000000000->out.length+post.length<2000000000->
  zda NN n t (a.length:Int) (pre.length:Int) out (ints (pre++post))=some ((),(out++chop post l,()))
 | _,_,_,_,0,_,_,_,h,_,_=>absurd h (ae _)
 | [],pre,a,l,n+1,out,_,_,_,_,_=>by simp[z2x,chop,zh2,z8y]
 | s::post,pre,a,l,n+1,out,htt,hs,hn,hl,ho=>by
  simp only[ag]at hn ho;simp only[bU]at hs;have hb:pre.length<9223372036854775807:=by simp at hl;omega
  have hal:t.length=a.length+l.length:=by rw[htt];simp
  have w1:aa .i64 ((a.length:Int)+(s:Int))=(a.length:Int)+(s:Int):=w64 (by omega) (by omega);have el:((a++l.take s).length:Int)=(a.length:Int)+(s:Int):=by rw[aq,cC];omega
  have ih:=yht t ht post (pre++[s]) (a++l.take s) (l.drop s) n (out++[l.take s]) (by rw[htt,aU,bV]) (by rw[cD];omega) (by omega) (by simpa using hl) (by simp;omega);rw[el]at ih;rw[zh2];simp only[z2x,y77,w1];have hin:inB (pre.length:Int) (ints (pre++s::post)).length=true:=by rw[z8y];exact U0
  rw[W8 (by rw[z8y];exact Q7),gd_t hin,gd_t (by simp;omega),gd_t (Y9 (by omega) (by omega)),gd_t hin,U1 (q:=s) hb,Q3 (pre:=pre) (q:=s) (post:=post)];rw[show cut2 t (a.length:Int) ((a.length:Int)+(s:Int))=l.take s from by rw[htt,y4t],ih];simp[chop]
theorem yiy{t:List Pr}{sz:List Nat}{most:Int}(ht:t.length<1000000000)(h:z7o NN (t.length:Int) most=some (ints sz))(hs:sz.sum<=t.length)(hz:sz.length<1000000000):zkv NN t most=some (chop sz t):=by
 have h1:=yht t ht sz [] [] t NN [] rfl hs (by grind[W3]) (by grind) (by grind);have z1:(([]:List Nat).length:Int)=0:=rfl;have z2:(([]:List Pr).length:Int)=0:=rfl
 grind[zkv]
theorem yof{α:Type}:∀(sz:List Nat) (l:List α),(chop sz l).length=sz.length
 | [],_=>rfl
 | s::ss,l=>by simp[chop,yof ss]
theorem yin{α:Type}:∀(sz:List Nat) (l:List α),sz.sum=l.length->(chop sz l).flatten=l
 | [],l,h=>by cases l with | nil=>rfl | cons _ _=>grind
 | s::ss,l,h=>by simp only[bU]at h;rw[chop,cJ,yin ss (l.drop s) (by rw[cD];omega),bV]
theorem yoe{α:Type}(most:Nat):∀(sz:List Nat) (l:List α),sz.sum<=l.length->(∀s∈sz,1<=s/\s<=most)->∀p∈chop sz l,1<=p.length/\p.length<=most
 | [],_,_,_,_,h=>by cases h
 | s::ss,l,h,hm,p,hp=>by
  simp only[bU]at h;have:=hm s (by simp);rcases ar.1 hp with rfl | hp
  ·grind
  ·exact yoe most ss (l.drop s) (by grind) (fun x hx=>hm x (by grind)) p hp
def z1x(ps:List Pr):Nd:=(ps,([],([],([],[]))))
def fk(ps:List Pr):B:=(rdL ps (0:Int) X6).1
def G7:List (List Pr)->Trs
 | []=> .nil
 | p::ps=> .cons (.leaf p) (G7 ps)
theorem zb3:∀l,(G7 l).len=l.length
 | []=>rfl
 | p::ps=>by simp[G7,Trs.len,zb3 ps]
theorem ysp(up:List Mg):∀(post pre:List (List Pr)) (n:Nat) (out:List Nd) (pv:List B),post.length<n->(pre++post).length<1000000000->out.length+post.length<2000000000->pv.length+post.length<2000000000->(∀p∈post,1<=p.length)->
  zh3 NN n (pre.length:Int) (pre++post) out pv up=some (((),()),((),(((),((),())),(out++post.map z1x,(pv++(if pre=[]then post.tail else post).map fk,(up,()))))))
 | _,_,0,_,_,h,_,_,_,_=>absurd h (ae _)
 | [],pre,n+1,out,pv,_,_,_,_,_=>by rw[zlq];simp only[z5k,aj,Int.lt_irrefl,decide_false,cond_false,List.map_nil,List.tail_nil];by_cases h:pre=[]<;>simp[h]
 | p::post,pre,n+1,out,pv,hn,hl,ho,hv,hp=>by
  simp only[ag]at hn ho hv;have hb:pre.length<9223372036854775807:=by simp at hl;omega
  have h1:=hp p (by simp);have ih:=fun pv (h:pv.length+post.length<2000000000)=>ysp up post (pre++[p]) n (out++[z1x p]) pv (by omega) (by simpa using hl) (by simp;omega) h fun x hx=>hp x (by simp[hx]);rw[zlq];simp only[z5k,Q7,cond_true,V5];rw[gd_t U0,gd_t (Y9 (by simp;omega) (by omega)),U1 (q:=p) hb,Q3 (pre:=pre) (q:=p) (post:=post)];cases pre with
  | nil=>rw[X5 (by rfl)];refine(ih pv (by omega)).trans ?_;simp[z1x]
  | cons x pre=>rw[W8 (by simp),gd_t (by rw[<-Q3];exact U0),gd_t (V7 (by omega) (by omega)),gd_t (Y9 (by omega) (by omega))];refine(ih (pv++[fk p]) (by simp;omega)).trans ?_;simp[z1x]
theorem ye2{g:Nat}{hi:B}:∀{ps:List (List Pr)} {lo:B},ps≠[]->(∀p∈ps,1<=p.length)->Tb g ps.flatten->(∀x∈ps.flatten,hasB (lo,hi) x.1=true)->VTs g lo hi (G7 ps) (ps.tail.map fk)
 | [],_,h,_,_,_=>(h rfl).elim
 | [p],lo,_,_,ht,hr=>by constructor<;>grind
 | p::q::ps,lo,_,hp,ht,hr=>by
  have hp1:=hp p (by simp);have hq1:=hp q (by simp);obtain⟨x,p',rfl⟩:∃x p',p=x::p':=by cases p with | nil=>grind | cons x p'=>simp
  obtain⟨y,q',rfl⟩:∃y q',q=y::q':=by cases q with | nil=>grind | cons y q'=>simp
  rw[cJ]at ht hr;have hsrt:=List.pairwise_append.1 ht.srt;have hy:y∈((y::q')::ps).flatten:=by simp
  have hxy:lts x.1 y.1=true:=hsrt.2.2 x (by simp) y hy;have hrx:=hr x (by simp);have hry:=hr y (bB _ hy);rw[Q8]at hrx hry;simp only[ab,au]at hrx hry;have hlo:lts lo y.1=true:=ykr hrx.1 hxy;have ih:=ye2 (g:=g) (hi:=hi) (ps:=(y::q')::ps) (lo:=y.1) (by simp) (fun z hz=>hp z (by grind)) ⟨hsrt.2.1,fun z hz=>ht.key z (bB _ hz)⟩ fun z hz=>by
   have h2:=hr z (bB _ hz);rw[Q8]at h2|-;simp only[ab,au]at h2|-
   grind[z3h,aD]
  show VTs g lo hi (.cons (.leaf (x::p')) (.cons (.leaf (y::q')) (G7 ps))) (y.1::ps.map fk);simp only[VTs,VT];refine⟨(ht.key y (bB _ hy)).1,hlo,hry.2,⟨⟨hsrt.1,fun z hz=>ht.key z (bo _ hz)⟩,fun z hz=> ?_⟩,ih⟩;have h2:=hr z (bo _ hz);rw[Q8]at h2|-;simp only[ab,au]at h2|-;exact⟨h2.1,by simp only[K1,aA];grind⟩
theorem yte{nd:Nd}{sh:Q4}{leaf:Nat}(hsh:sh.1=(leaf:Int))(h1:1<=leaf)(h2:leaf<1000000000){g:Nat}(hv:Tb g nd.1)(hg:g<40000):
  ∃ps pv,zh4 NN nd sh=some (ps.map z1x,(pv,[]))/\ps≠[]/\(∀lo hi,(∀x∈nd.1,hasB (lo,hi) x.1=true)->VTs g lo hi (G7 ps) pv)/\ps.flatten=nd.1/\(∀p∈ps,p.length<=leaf)/\(nd.1≠[]->(∀p∈ps,1<=p.length)/\ps.length=(nd.1.length-1)/leaf+1)/\(nd.1=[]->ps=[[]]):=by
 have hl:=hv.len;rcases cV nd.1.length with h0 | h0
 ·have e:nd.1=[]:=cW.1 h0;have hs:z7o NN (nd.1.length:Int) sh.1=some (ints []):=by rw[h0];exact yxx sh.1
  have hp:=yiy (t:=nd.1) (sz:=[]) (most:=sh.1) (by omega) hs (by simp) (by simp);refine⟨[[]],[], ?_,by simp, ?_,by grind,by simp,fun h=>(h e).elim,fun _=>rfl⟩
  ·simp only[zh4,hp,ac,chop];rfl
  grind[G7,VTs,VT]
 ·obtain⟨sz,s1,s2,s3,s4⟩:=yp1 (n:=nd.1.length) (most:=leaf) h0 h1 (by omega) h2;have hzl:sz.length<=nd.1.length:=by
   rw[s4];exact aP (cB (cq (nd.1.length-1) leaf)) (by omega)
  rw[<-hsh]at s1;have hp:=yiy (by omega) s1 (by omega) (by omega);have hm:=yoe leaf sz nd.1 (by omega) s3;have hcl:=yof sz nd.1;have hne:chop sz nd.1≠[]:=fun h=>by grind
  have hll:=ysp [] (chop sz nd.1) [] NN [] [] (by grind[W3]) (by grind) (by grind) (by grind) fun p hp=>(hm p hp).1;have hz:(([]:List (List Pr)).length:Int)=0:=rfl;rw[hz,ah,ah,ah,if_pos rfl]at hll;have hf:=yin sz nd.1 s2;refine⟨chop sz nd.1,(chop sz nd.1).tail.map fk, ?_,hne,fun lo hi hr=>ye2 hne (fun p hp=>(hm p hp).1) (by grind) (by grind),hf,fun p hp=>(hm p hp).2,fun _=>⟨fun p hp=>(hm p hp).1,by omega⟩,fun h=>by grind⟩;simp only[zh4,hp,ac];rw[X5 (G6 (by grind)),hll];rfl
def UnfN(p:List Sl)(nd:Nd):Tr->Prop
 | .leaf ps=>nd=z1x ps
 | .node ks piv buf=>∃kids sums,nd=([],(piv,(kids,(sums,buf))))/\sums.length=kids.length/\kids≠[]/\UnfL p kids ks
theorem y7d{p:List Sl}{i:Int}{T:Tr}:Unf p i T↔W5 p i=true/\(slA p i).2.1=false/\UnfN p (z74 (slA p i)) T:=by
 cases T with
 | leaf ps=>simp[Unf,UnfN,z1x]
 | node ks piv buf=>simp[Unf,UnfN]
def UnfNs(p:List Sl):List Nd->Trs->Prop
 | [], .nil=>True
 | nd::l, .cons t ts=>UnfN p nd t/\UnfNs p l ts
 | _,_=>False
theorem zsa(p:List Sl):∀ps,UnfNs p (ps.map z1x) (G7 ps)
 | []=>trivial
 | _::ps=>⟨rfl,zsa p ps⟩
theorem UnfNs.len{p:List Sl}:∀{l:List Nd} {c:Trs},UnfNs p l c->l.length=c.len
 | [], .nil,_=>rfl
 | [], .cons _ _,h=>by grind[UnfNs]
 | _::_, .nil,h=>by grind[UnfNs]
 | _::l, .cons _ c,h=>by simp only[UnfNs]at h;simp only[ag,Trs.len,UnfNs.len h.2]
def Trs.take:Nat->Trs->Trs
 | 0,_=> .nil
 | _+1, .nil=> .nil
 | n+1, .cons t ts=> .cons t (ts.take n)
def Trs.drop:Nat->Trs->Trs
 | 0,ts=>ts
 | _+1, .nil=> .nil
 | n+1, .cons _ ts=>ts.drop n
theorem Trs.take_drop:∀(n:Nat) (ks:Trs),(ks.take n).app (ks.drop n)=ks
 | 0,_=>rfl
 | _+1, .nil=>rfl
 | n+1, .cons t ts=>by rw[Trs.take,Trs.drop,Trs.app,Trs.take_drop n ts]
theorem Trs.take_len:∀(n:Nat) (ks:Trs),n<=ks.len->(ks.take n).len=n/\(ks.drop n).len=ks.len-n
 | 0,_,_=>⟨rfl,rfl⟩
 | _+1, .nil,h=>by grind[Trs.len]
 | n+1, .cons t ts,h=>by simp only[Trs.len]at h;have:=Trs.take_len n ts (by omega);simp only[Trs.take,Trs.drop,Trs.len];omega
def y4u:List Nat->List Int->List X0->List B->List Nd
 | [],_,_,_=>[]
 | s::ss,kids,sums,piv=>([],(piv.take (s-1),(kids.take s,(sums.take s,[]))))::y4u ss (kids.drop s) (sums.drop s) (piv.drop s)
def zu1:List Nat->List B->List B
 | [],_=>[]
 | [_],_=>[]
 | s::t::ss,piv=>rdL piv ((s:Int)-1) []::zu1 (t::ss) (piv.drop s)
def zcf:List Nat->Trs->List B->Trs
 | [],_,_=> .nil
 | s::ss,ks,piv=> .cons (.node (ks.take s) (piv.take (s-1)) []) (zcf ss (ks.drop s) (piv.drop s))
theorem y89:∀sz ks piv,(zcf sz ks piv).len=sz.length
 | [],_,_=>rfl
 | s::ss,ks,piv=>by simp[zcf,Trs.len,y89 ss]
theorem ynv{nd:Nd}{up:List Mg}{kids:List Int}{sums:List X0}{piv:List B}(e1:nd.2.1=piv)(e2:nd.2.2.1=kids)(e3:nd.2.2.2.1=sums)(hs:sums.length=kids.length)(hp:piv.length+1=kids.length)(hk:kids.length<1000000000):
  ∀(post pre:List Nat) (ka kb:List Int) (sa sb:List X0) (pa pb:List B) (n:Nat) (out:List Nd) (pv:List B),kids=ka++kb->sums=sa++sb->piv=pa++pb->sa.length=ka.length->(post=[]\/pa.length=ka.length)->(pre≠[]->ka≠[])->post.sum=kb.length->(∀s∈post,1<=s)->
   post.length<n->(pre++post).length<1000000000->out.length+post.length<2000000000->pv.length+post.length<2000000000->
   zf1 NN n (ka.length:Int) (pre.length:Int) nd up out pv (ints (pre++post))=some (((),()),((),(((),((),up)),(out++y4u post kb sb pb,(pv++((if pre=[]\/post=[]then[]else[rdL piv ((ka.length:Int)-1) []])++zu1 post pb),())))))
 | _,_,_,_,_,_,_,_,0,_,_,_,_,_,_,_,_,_,_,h,_,_,_=>absurd h (ae _)
 | [],pre,ka,kb,sa,sb,pa,pb,n+1,out,pv,_,_,_,_,_,_,_,_,_,_,_,_=>by simp[z41,y4u,zu1,zjw,z8y]
 | s::post,pre,ka,kb,sa,sb,pa,pb,n+1,out,pv,hkk,hss,hpp,hsa,hpa,hpre,hsum,hs1,hn,hl,ho,hv=>by
  simp only[ag]at hn ho hv;simp only[bU]at hsum;have hpa':pa.length=ka.length:=by grind
  have s1:=hs1 s (by simp);have hb:pre.length<9223372036854775807:=by grind
  have lk:kids.length=ka.length+kb.length:=by grind
  have ls:sums.length=sa.length+sb.length:=by grind
  have lp:piv.length=pa.length+pb.length:=by grind
  have w1:aa .i64 ((ka.length:Int)+(s:Int))=(ka.length:Int)+(s:Int):=w64 (by omega) (by omega);have w2:aa .i64 ((ka.length:Int)+(s:Int)-1)=(ka.length:Int)+((s-1:Nat):Int):=by grind[w64]
  have el:((ka++kb.take s).length:Int)=(ka.length:Int)+(s:Int):=by grind
  have c1:cut2 kids (ka.length:Int) ((ka.length:Int)+(s:Int))=kb.take s:=by grind[y4t]
  have c2:cut2 sums (ka.length:Int) ((ka.length:Int)+(s:Int))=sb.take s:=by grind[y4t]
  have c3:cut2 piv (ka.length:Int) ((ka.length:Int)+((s-1:Nat):Int))=pb.take (s-1):=by rw[hpp,<-hpa',y4t]
  have hin:inB (pre.length:Int) (ints (pre++s::post)).length=true:=by grind[z8y,U0]
  have last:rdL piv ((ka.length:Int)+(s:Int)-1) []=rdL pb ((s:Int)-1) []:=by
   rw[hpp];have t1:((ka.length:Int)+(s:Int)-1).toNat=pa.length+(s-1):=by omega
   simp_all[rdL,List.getElem?_append_right]
  have ih:=fun pv (h:pv.length+post.length<2000000000)=>ynv (up:=up) e1 e2 e3 hs hp hk post (pre++[s]) (ka++kb.take s) (kb.drop s) (sa++sb.take s) (sb.drop s) (pa++pb.take s) (pb.drop s) n (out++[([],(pb.take (s-1),(kb.take s,(sb.take s,[]))))]) pv
   (by simp_all) (by simp_all) (by simp_all)
   (by grind) (by
    cases post with
    | nil=>simp
    | cons t post=>simp_all;omega) (fun _=>by grind)
   (by grind) (fun x hx=>hs1 x (by grind)) (by omega) (by grind) (by grind) h
  rw[el,last]at ih;have fin:∀pv':List B,(bif false then[]else pv')=pv':=fun _=>rfl;have tailq:∀q:List B,q++((if pre++[s]=[]\/post=[]then[]else[rdL pb ((s:Int)-1) []])++zu1 post (pb.drop s))=q++zu1 (s::post) pb:=fun q=>by
   cases post with
   | nil=>simp[zu1]
   | cons t post=>simp[zu1]
  rw[zjw];simp only[z41,y77,e1,e2,e3,w1,w2,c1,c2,c3];rw[W8 (by grind[z8y]),gd_t hin,gd_t (by simp;omega),gd_t (by simp;omega),gd_t (by simp;omega),gd_t (Y9 (by grind) (by omega)),U1 (q:=s) hb,Q3 (pre:=pre) (q:=s) (post:=post)];cases pre with
  | nil=>
   rw[X5 (by rfl)]
   grind[y4u]
  | cons x pre=>
   have hka:ka≠[]:=hpre (by simp);have hka1:1<=ka.length:=bI.2 hka;have w3:aa .i64 ((ka.length:Int)-1)=(ka.length:Int)-1:=w64 (by omega) (by omega);rw[W8 (by simp),w3,gd_t (V7 (by omega) (by omega)),gd_t (Y9 (by omega) (by omega))];refine(ih (pv++[rdL piv ((ka.length:Int)-1) []]) (by grind)).trans ?_
   grind[y4u]
theorem ye3(p:List Sl):∀(sz:List Nat) (kids:List Int) (sums:List X0) (piv:List B) (ks:Trs),UnfL p kids ks->sums.length=kids.length->sz.sum=kids.length->(∀s∈sz,1<=s)->UnfNs p (y4u sz kids sums piv) (zcf sz ks piv)
 | [],_,_,_,_,_,_,_,_=>trivial
 | s::ss,kids,sums,piv,ks,h,hl,hs,h1=>by
  have s1:=h1 s (by simp);simp only[bU]at hs;have hk:=h.len;obtain⟨l1,l2⟩:=Trs.take_len s ks (by omega);rw[<-Trs.take_drop s ks]at h;obtain⟨k1,k2⟩:=UnfL.split h;rw[l1]at k1 k2;simp only[y4u,zcf,UnfNs,UnfN];refine⟨⟨_,_,rfl,by simp only[cC];omega,fun e=> ?_,k1⟩, ?_⟩
  ·have:=congrArg ak e;simp only[cC,aJ]at this;omega
  ·exact ye3 p ss _ _ _ _ k2 (by simp only[cD];omega) (by rw[cD];omega) fun x hx=>h1 x (by simp[hx])
theorem yoz{g:Nat}{hi:B}:∀(sz:List Nat) (ks:Trs) (piv:List B) (lo:B),sz≠[]->VTs g lo hi ks piv->sz.sum=ks.len->(∀s∈sz,1<=s)->VTs g lo hi (zcf sz ks piv) (zu1 sz piv)
 | [],_,_,_,h,_,_,_=>(h rfl).elim
 | [s],ks,piv,lo,_,hv,hs,h1=>by
  simp only[bU,List.sum_nil,bD]at hs;obtain⟨_,_,hl⟩:=VTs.piv hv
  grind[zcf,zu1,VTs,VT,Trs.take_drop,Trs.len_zero,Trs.take_len,Trs.app_nil,bu]
 | s::t::ss,ks,piv,lo,_,hv,hs,h1=>by
  have s1:=h1 s (by simp);have t1:=h1 t (by simp);simp only[bU]at hs;obtain⟨l1,l2⟩:=Trs.take_len s ks (by omega);have ne1:ks.take s≠ .nil:=fun h=>by rw[h]at l1;simp[Trs.len]at l1;omega
  have ne2:ks.drop s≠ .nil:=fun h=>by rw[h]at l2;simp[Trs.len]at l2;omega
  rw[<-Trs.take_drop s ks]at hv;obtain⟨pa,q,pb,e,l,h2,h3,h4,h5,h6⟩:=VTs.cut ne1 ne2 hv;rw[l1]at l;have e1:piv.take (s-1)=pa:=by rw[e,show s-1=pa.length by omega];simp
  have e2:piv.drop s=pb:=by rw[e,<-l];simp
  have e3:rdL piv ((s:Int)-1) []=q:=by rw[e,show((s:Int)-1)=(pa.length:Int) by omega,V5]
  have ih:=yoz (t::ss) (ks.drop s) pb q (by simp) h6 (by simp only[bU];omega) fun x hx=>h1 x (List.mem_cons_of_mem _ hx);have ea:zcf (s::t::ss) ks piv= .cons (.node (ks.take s) pa []) (zcf (t::ss) (ks.drop s) pb):=by rw[zcf,e1,e2]
  have eb:zu1 (s::t::ss) piv=q::zu1 (t::ss) pb:=by rw[zu1,e2,e3]
  rw[ea,eb];have ec:zcf (t::ss) (ks.drop s) pb= .cons (.node ((ks.drop s).take t) (pb.take (t-1)) []) (zcf ss ((ks.drop s).drop t) (pb.drop t)):=by rw[zcf]
  rw[ec]at ih|-;simp only[VTs,VT];refine⟨h2,h3,h4,⟨h5,fun m h=>by cases h⟩, ?_⟩;exact ih
theorem yy3{p:List Sl}{piv:List B}{kids:List Int}{sums:List X0}{buf:List Mg}{sh:Q4}{fan:Nat}(hsh:sh.2.1=(fan:Int))(h1:1<=fan)(h2:fan<1000000000){ks:Trs}{g:Nat}{lo hi:B}
  (hl:sums.length=kids.length) (hu:UnfL p kids ks) (hv:VTs g lo hi ks piv) (hg:g<40000):
  ∃sz L pv,zoz NN ([],(piv,(kids,(sums,buf)))) sh=some (L,(pv,buf))/\UnfNs p L (zcf sz ks piv)/\(∀g lo hi,VTs g lo hi ks piv->VTs g lo hi (zcf sz ks piv) pv)/\sz.sum=ks.len/\(∀s∈sz,1<=s/\s<=fan)/\sz.length=(ks.len-1)/fan+1/\L=y4u sz kids sums piv:=by
 have hpl:=VTs.plen hv;obtain⟨_,_,hkl⟩:=VTs.piv hv;have hkl':=hu.len;obtain⟨sz,s1,s2,s3,s4⟩:=yp1 (n:=kids.length) (most:=fan) (by omega) h1 (by omega) h2;have hzl:sz.length<=kids.length:=by simp_all[cq]
 have hz0:sz.length≠0:=by grind
 have hne:sz≠[]:=fun h=>hz0 (by grind);have h:=ynv (nd:=([],(piv,(kids,(sums,buf))))) (up:=buf) (kids:=kids) (sums:=sums) (piv:=piv) rfl rfl rfl hl (by omega) (by omega) sz [] [] kids [] sums [] piv NN [] [] rfl rfl rfl rfl (.inr rfl) (fun h=>(h rfl).elim) s2 (fun s hs=>(s3 s hs).1) (by grind[W3]) (by grind) (by grind) (by grind);have z1:(([]:List Nat).length:Int)=0:=rfl;have z2:(([]:List Int).length:Int)=0:=rfl;rw[z1,z2,if_pos (.inl rfl)]at h;simp only[ah]at h;refine⟨sz,y4u sz kids sums piv,zu1 sz piv, ?_,ye3 p sz kids sums piv ks hu hl s2 fun s hs=>(s3 s hs).1,fun g lo hi hv=>yoz sz ks piv lo hne hv (by omega) fun s hs=>(s3 s hs).1,by omega,s3,by grind,rfl⟩
 grind[zoz]
def Ext(p q:List Sl):Prop:=∀i,W5 p i=true->W5 q i=true/\(slA q i).2.1=(slA p i).2.1/\z74 (slA q i)=z74 (slA p i)
theorem Ext.refl(p:List Sl):Ext p p:=fun i h=>⟨h,rfl,rfl⟩
theorem Ext.trans{p q r:List Sl}(h:Ext p q)(k:Ext q r):Ext p r:=fun i hi=>by
 obtain⟨a,b,c⟩:=h i hi;obtain⟨d,e,f⟩:=k i a
 grind
mutual
theorem Ext.unf{p q:List Sl}(h:Ext p q):∀{T:Tr} {i:Int},Unf p i T->Unf q i T
 | .leaf ps,i,hu=>by simp only[Unf]at hu|-;obtain⟨a,b,c⟩:=h i hu.1;exact⟨a,b.trans hu.2.1,c.trans hu.2.2⟩
 | .node ks piv buf,i,hu=>by simp only[Unf]at hu|-;obtain⟨h1,h2,kids,sums,h3,h4,h5,h6⟩:=hu;obtain⟨a,b,c⟩:=h i h1;exact⟨a,b.trans h2,kids,sums,c.trans h3,h4,h5,Ext.unfL h h6⟩
theorem Ext.unfL{p q:List Sl}(h:Ext p q):∀{ks:Trs} {kids:List Int},UnfL p kids ks->UnfL q kids ks
 | .nil,[],_=>trivial
 | .nil,_::_,hu=>by simp[UnfL]at hu
 | .cons _ _,[],hu=>by simp[UnfL]at hu
 | .cons t ts,k::kids,hu=>by simp only[UnfL]at hu|-;exact⟨Ext.unf h hu.1,Ext.unfL h hu.2⟩
end
theorem Ext.unfN{p q:List Sl}(h:Ext p q){T:Tr}{nd:Nd}(hu:UnfN p nd T):UnfN q nd T:=by
 cases T with
 | leaf ps=>exact hu
 | node ks piv buf=>obtain⟨kids,sums,h1,h2,h3,h4⟩:=hu;exact⟨kids,sums,h1,h2,h3,h.unfL h4⟩
theorem Ext.unfNs{p q:List Sl}(h:Ext p q):∀{l:List Nd} {c:Trs},UnfNs p l c->UnfNs q l c
 | [], .nil,_=>trivial
 | [], .cons _ _,hu=>by grind[UnfNs]
 | _::_, .nil,hu=>by grind[UnfNs]
 | nd::l, .cons t c,hu=>by simp only[UnfNs]at hu|-;exact⟨h.unfN hu.1,Ext.unfNs h hu.2⟩
mutual
theorem Shr.unf{p q:List Sl}{L:List Int}(h:Shr p q)(hb:Bal q L):∀{T:Tr} {i:Int},W5 q i=true->Unf p i T->Unf q i T
 | .leaf ps,i,hq,hu=>by simp only[Unf]at hu|-;obtain⟨_,_,h3⟩:=U8.1 hq;obtain⟨h1,h2,_⟩:=U8.1 hq;exact⟨hq,hb.lost _ (z8x h1 h2),(h.node i hq).2.trans hu.2.2⟩
 | .node ks piv buf,i,hq,hu=>by simp only[Unf]at hu|-;obtain⟨h1,h2,_⟩:=U8.1 hq;obtain⟨u1,u2,kids,sums,u3,u4,u5,u6⟩:=hu;have hn:=(h.node i hq).2.trans u3;refine⟨hq,hb.lost _ (z8x h1 h2),kids,sums,hn,u4,u5,Shr.unfL h hb (fun k hk=>hb.kid k (ydb hq ?_)) u6⟩;rw[zn3,hn];exact hk
theorem Shr.unfL{p q:List Sl}{L:List Int}(h:Shr p q)(hb:Bal q L):∀{ks:Trs} {kids:List Int},(∀k∈kids,W5 q k=true)->UnfL p kids ks->UnfL q kids ks
 | .nil,[],_,_=>trivial
 | .nil,_::_,_,hu=>by simp[UnfL]at hu
 | .cons _ _,[],_,hu=>by simp[UnfL]at hu
 | .cons t ts,k::kids,hq,hu=>by simp only[UnfL]at hu|-;exact⟨Shr.unf h hb (hq k (by simp)) hu.1,Shr.unfL h hb (fun x hx=>hq x (by simp[hx])) hu.2⟩
end
structure PI (p:List Sl) (L:List Int):Prop where
 bal:Bal p L
 len:p.length<=4096
 kb:∀s∈p,(z1m s).length<=80000
theorem ysw{α β:Type}(f:α->List β)(n:Nat):∀l:List α,(∀x∈l,(f x).length<=n)->(l.flatMap f).length<=l.length*n
 | [],_=>by simp
 | x::l,h=>by
  have:=ysw f n l fun y hy=>h y (by grind)
  grind[Nat.succ_mul]
theorem PI.kids{p:List Sl}{L:List Int}(h:PI p L):(V2 p).length<=327680000:=by
 have h1:=ysw kidsU 80000 p fun s hs=>by
  unfold kidsU;split
  ·exact h.kb s hs
  ·simp
 have h2:p.length*80000<=4096*80000:=bn _ h.len
 grind[V2]
theorem PI.perm{p:List Sl}{L L':List Int}(h:PI p L)(hc:L.Perm L'):PI p L':=⟨h.bal.congr fun i=>(hc.count_eq i).symm,h.len,h.kb⟩
theorem Shr.kb{p q:List Sl}{L:List Int}(h:Shr p q)(hb:Bal q L)(hk:∀s∈p,(z1m s).length<=80000):∀s∈q,(z1m s).length<=80000:=by
 intro s hs;obtain⟨i,h0,h1,h2⟩:=ygt D0 hs;cases hu:s.1
 ·rw[hb.z s hs hu];exact aZ _
 ·have hq:W5 q i=true:=U8.2 ⟨h0,h1,by grind[slA]⟩;have hp:=(h.node i hq).1;obtain⟨k0,k1,_⟩:=U8.1 hp;have e:z1m s=z1m (slA p i):=by
   rw[zn3,zn3,<-(h.node i hq).2,show slA q i=s from h2]
  rw[e];exact hk _ (z8x k0 k1)
theorem PI.drop{p:List Sl}{id:Int}{L:List Int}(h:PI p (id::L))(hl:L.length<100000000):∃q,z4k NN p id=some (q,0)/\PI q L/\Shr p q:=by have hk:=h.kids;have hN:=W3;obtain⟨q,q1,q2,q3⟩:=ylp (N:=NN) (by omega) h.bal (by have:=h.len;omega) (by omega);exact⟨q,q1,⟨q2,by rw[q3.len];exact h.len,q3.kb q2 h.kb⟩,q3⟩
theorem PI.hold{p:List Sl}{id:Int}{L:List Int}(h:PI p L)(hu:W5 p id=true)(hl:L.length<100000000):∃q,zbd NN p id=some (q,0)/\PI q (id::L)/\Ext p q:=by have hk:=h.kids;obtain⟨b1,b2,b3,b4⟩:=yx7 h.bal hu (by omega);refine⟨y0u p id,by rw[ylo (by have:=h.len;omega),if_pos hu],⟨b1,by rw[b2.len];exact h.len,b2.kb b1 h.kb⟩,fun i hi=> ?_⟩;obtain⟨c1,c2⟩:=b3.node i hi;obtain⟨d1,d2,_⟩:=U8.1 hi;obtain⟨e1,e2,_⟩:=U8.1 c1;exact⟨c1,(b1.lost (slA (y0u p id) i) (z8x e1 e2)).trans (h.bal.lost (slA p i) (z8x d1 d2)).symm,c2.symm⟩
theorem UnfN.kidsU{p:List Sl}{nd:Nd}{T:Tr}(h:UnfN p nd T):∀k∈nd.2.2.1,W5 p k=true:=by
 cases T with
 | leaf ps=>intro k hk;rw[show nd=z1x ps from h]at hk;cases hk
 | node ks piv buf=>obtain⟨kids,sums,h1,h2,h3,h4⟩:=h;rw[h1];exact h4.used
theorem PI.add{p:List Sl}{L:List Int}{nd:Nd}{T:Tr}(h:PI p L)(hn:UnfN p nd T)(hk:nd.2.2.1.length<=80000)(hl:L.length<100000000):
  ∃q id e,z8p NN p nd=some (q,(id,e))/\(e≠0\/(e=0/\PI q (L++[id])/\Ext p q/\Unf q id T)):=by
 have hN:=W3;have ha:=h.kids;have hlen:=h.len;have e:=ycl (N:=NN) (by omega) (p:=p) (n:=nd) (by omega) (by omega);have hu:nd.2.2.1.all (W5 p)=true:=zlc.2 hn.kidsU;rw[e,addF,if_pos hu];by_cases hbig:(4096:Int)<=(z02 p:Int)
 ·grind
 ·rw[if_neg hbig];obtain⟨b1,b2⟩:=x1x h.bal hu (by omega);have hrefs:∀i:Int,0<=i->0<=z6t (slA p i)/\z6t (slA p i)+(nd.2.2.1.length:Int)<500000000000:=by
   intro i hi;by_cases hui:W5 p i=true
   ·rw[h.bal.refs i hui]
    grind
   ·by_cases hi1:i<(p.length:Int)
    ·rw[zhu h.bal hi hi1 hui];have:z6t D0=0:=rfl;omega
    ·rw[zqq hi (by omega)];have:z6t D0=0:=rfl;omega
  obtain⟨a1,a2⟩:=ytd hu hrefs;have hel:=yk8 p;have hle:=yeq p;have hlen':(addP p nd).length<=4096:=by
   rw[a1,ext]
   grind
  have hext:Ext p (addP p nd):=fun i hi=>by
   obtain⟨i0,i1,i2⟩:=U8.1 hi;have hne:i≠(z02 p:Int):=fun e=>by grind[y0q]
   have:=a2 i i0;rw[if_neg hne]at this;refine⟨U8.2 ⟨i0,by omega,by rw[this];exact i2⟩,by rw[this];rfl,by rw[this];rfl⟩
  have hnew:slA (addP p nd) (z02 p:Int)=zpc nd:=by grind
  refine⟨_,_,_,rfl, .inr ⟨rfl,⟨b1,hlen',fun s hs=> ?_⟩,hext,y7d.2 ⟨U8.2 ⟨by omega,by omega,by rw[hnew];rfl⟩,by rw[hnew];rfl,by rw[hnew];exact hext.unfN hn⟩⟩⟩;obtain⟨i,i0,i1,i2⟩:=ygt D0 hs;have e2:=a2 i i0;rw[show slA (addP p nd) i=s from i2]at e2;by_cases e:i=(z02 p:Int)
  ·rw[if_pos e]at e2;rw[e2];exact hk
  ·rw[if_neg e]at e2;rw[e2];show(z1m (slA p i)).length<=80000;by_cases h1:i<(p.length:Int)
   ·exact h.kb _ (z8x i0 h1)
   ·rw[zqq i0 (by omega)];exact aZ _
theorem yyw:∀(post pre:List Int) (L:List Int) (n:Nat) (p:List Sl),post.length<n->(pre++post).length<100000->L.length<90000000->PI p (post++L)->
  ∃q,zku NN n (pre++post) (pre.length:Int) p=some (((),()),(q,((),())))/\PI q L/\Shr p q
 | _,_,_,0,_,h,_,_,_=>absurd h (ae _)
 | [],pre,L,n+1,p,_,_,_,h=>by simp_all[z7c,Shr.refl,zoj]
 | k::post,pre,L,n+1,p,hn,hl,hL,h=>by
  simp only[ag]at hn;have hb:pre.length<9223372036854775807:=by grind
  obtain⟨q,q1,q2,q3⟩:=PI.drop (L:=post++L) h (by grind);obtain⟨r,r1,r2,r3⟩:=yyw post (pre++[k]) L n q (by omega) (by grind) hL q2;refine⟨r, ?_,r2,q3.trans r3⟩;rw[zoj];simp only[z7c,Q7,cond_true,V5,q1,ac]
  grind[gd_t,U0,U1]
theorem ykq{ids L:List Int}{p:List Sl}(hl:ids.length<100000)(hL:L.length<90000000)(h:PI p (ids++L)):∃q,zmx NN p ids=some q/\PI q L/\Shr p q:=by
 obtain⟨q,q1,q2,q3⟩:=yyw ids [] L NN p (by grind[W3]) (by grind) hL h;have hz:(([]:List Int).length:Int)=0:=rfl
 grind[zmx]
theorem addn_l0(R:List Int)(hR:R.length<80000000):∀(post pre:List Nd) (c:Trs) (ids:List Int) (n:Nat) (p:List Sl),post.length<n->(pre++post).length<100000->ids.length=pre.length->UnfNs p post c->(∀nd∈post,nd.2.2.1.length<=80000)->PI p (R++ids)->
  (∃r e,z9c NN n (pre++post) (pre.length:Int) p (0:Int) ids=some (.inl r)/\r.2.1.2.2=e/\e≠0)\/
  ∃q new,z9c NN n (pre++post) (pre.length:Int) p (0:Int) ids=some (.inr (((),()),((),((q,((),0)),(ids++new,())))))/\PI q (R++(ids++new))/\Ext p q/\UnfL q new c
 | _,_,_,_,0,_,h,_,_,_,_,_=>absurd h (ae _)
 | [],pre, .nil,ids,n+1,p,_,_,_,_,_,h=>by refine .inr ⟨p,[], ?_,by grind,Ext.refl p,trivial⟩;simp[z7d,zok]
 | [],_, .cons _ _,_,_+1,_,_,_,_,h,_,_=>by grind[UnfNs]
 | _::_,_, .nil,_,_+1,_,_,_,_,h,_,_=>by grind[UnfNs]
 | nd::post,pre, .cons t c,ids,n+1,p,hn,hl,hi,hu,hk,h=>by
  simp only[ag]at hn;simp only[UnfNs]at hu;have hb:pre.length<9223372036854775807:=by grind
  have hpl:pre.length<100000:=by grind
  obtain⟨q,id,e,a1,a2⟩:=h.add hu.1 (hk nd (by simp)) (by grind);have step:z9c NN (n+1) (pre++nd::post) (pre.length:Int) p (0:Int) ids=bif !(eqi e 0)then some (.inl ((),(((),((),e)),(([]:List Z8),(([]:List Int),())))))else z9c NN n (pre++nd::post) ((pre++[nd]).length:Int) q (0:Int) (ids++[id]):=by rw[zok];simp only[z7d,Q7,cond_true,V5,a1,ac];rw[gd_t U0,gd_t (Y9 (by omega) (by omega)),U1 (q:=nd) hb]
  rcases a2 with a2 | ⟨rfl,a3,a4,a5⟩
  ·simp_all[G6]
  ·have hr:=addn_l0 R hR post (pre++[nd]) c (ids++[id]) n q (by omega) (by grind) (by grind) (a4.unfNs hu.2) (fun x hx=>hk x (by grind)) (by grind);rw[<-Q3 (pre:=pre) (q:=nd) (post:=post)]at hr;rw[step,X5 (by rfl)];rcases hr with hr | ⟨r,new,r1,r2,r3,r4⟩
   ·grind
   ·refine .inr ⟨r,id::new,by grind,by grind,a4.trans r3, ?_⟩;simp only[UnfL];exact⟨r3.unf a5,r4⟩
theorem ye1{R:List Int}(hR:R.length<80000000){l:List Nd}{c:Trs}{p:List Sl}(hl:l.length<100000)(hu:UnfNs p l c)(hk:∀nd∈l,nd.2.2.1.length<=80000)(h:PI p R):
  ∃q ids e,zih NN p l=some (q,(ids,e))/\(e≠0\/(e=0/\PI q (R++ids)/\Ext p q/\UnfL q ids c)):=by
 have hz:(([]:List Nd).length:Int)=0:=rfl;rcases addn_l0 R hR l [] c [] NN p (by grind[W3]) (by grind) rfl hu hk (by grind)with⟨r,e,r1,r2,r3⟩ | ⟨q,new,r1,r2,r3,r4⟩
 ·rw[hz,ah]at r1;exact⟨r.2.2.1,r.2.2.2.1,r.2.1.2.2,by grind[zih], .inl (by omega)⟩
 ·rw[hz,ah]at r1;simp only[ah]at r1 r2;exact⟨_,_,_,by grind[zih], .inr ⟨rfl,r2,r3,r4⟩⟩
def At:Tr->List Nat->Tr->Prop
 | T,[],S=>T=S
 | .leaf _,_::_,_=>False
 | .node ks _ _,i::r,S=>∃(a:Trs) (t:Tr) (b:Trs),ks=a.app (.cons t b)/\a.len=i/\At t r S
theorem At.snoc{i:Nat}:∀{r:List Nat} {T S:Tr},At T (r++[i]) S->∃(ks:Trs) (piv:List B) (buf:List Mg) (a b:Trs),At T r (.node ks piv buf)/\ks=a.app (.cons S b)/\a.len=i
 | [], .leaf _,S,h=>by grind[At]
 | [], .node ks piv buf,S,h=>by grind[At]
 | j::r, .leaf _,S,h=>by grind[At]
 | j::r, .node ks piv buf,S,h=>by simp only[ba,At]at h;obtain⟨a,t,b,h1,h2,h3⟩:=h;obtain⟨ks',piv',buf',a',b',k1,k2,k3⟩:=At.snoc h3;exact⟨ks',piv',buf',a',b',by simp only[At];exact⟨a,t,b,h1,h2,k1⟩,k2,k3⟩
theorem At.push{ks a b:Trs}{piv:List B}{buf:List Mg}{S:Tr}{i:Nat}(h1:ks=a.app (.cons S b))(h2:a.len=i):∀{r:List Nat} {T:Tr},At T r (.node ks piv buf)->At T (r++[i]) S
 | [],T,h=>by
  simp only[At]at h;subst h;simp only[ah,At]
  grind
 | j::r, .leaf _,h=>by grind[At]
 | j::r, .node ks' piv' buf',h=>by simp only[At]at h;obtain⟨a',t',b',k1,k2,k3⟩:=h;simp only[ba,At];exact⟨a',t',b',k1,k2,At.push h1 h2 k3⟩
theorem At.vt{g:Nat}{S:Tr}:∀{r:List Nat} {T:Tr} {lo hi:B},VT g lo hi T->At T r S->∃lo' hi',VT g lo' hi' S/\(∀k,hasB (lo',hi') k=true->hasB (lo,hi) k=true)
 | [],T,lo,hi,hv,h=>by grind[At]
 | j::r, .leaf _,_,_,_,h=>by grind[At]
 | j::r, .node ks piv buf,lo,hi,hv,h=>by
  simp only[At]at h;obtain⟨a,t,b,rfl,h2,h3⟩:=h;simp only[VT]at hv;obtain⟨pa,pb,lo1,hi1,e,hk⟩:=Kid.of hv.1;obtain⟨lo',hi',k1,k2⟩:=At.vt hk.ht h3;refine⟨lo',hi',k1,fun k hk'=> ?_⟩;have:=k2 k hk';rw[Q8]at this|-;simp only[ab,au]at this|-;constructor
  ·rcases hk.ha with⟨_,_,e⟩ | ⟨_,_,_,_,_,e,_⟩
   all_goals grind[y4o,z3h]
  ·rcases hk.hb with⟨_,_,e⟩ | ⟨_,_,_,_,f,_,e⟩
   ·grind
   ·have h5:=this.2;simp only[K1,aA]at h5
    grind[y6,KU.ne,zij]
theorem Trs.has_app{t:Tr}{b:Trs}:∀{a:Trs},(a.app (.cons t b)).has t
 | .nil=> .inl rfl
 | .cons u a=> .inr (Trs.has_app (a:=a))
theorem At.fit{S:Tr}:∀{r:List Nat} {T:Tr},FitT T->At T r S->FitT S/\S.ht+r.length<=T.ht/\S.mv<=T.mv
 | [],T,hf,h=>by simp_all[At]
 | j::r, .leaf _,_,h=>by grind[At]
 | j::r, .node ks piv buf,hf,h=>by
  simp only[At]at h;obtain⟨a,t,b,rfl,h2,h3⟩:=h;simp only[FitT]at hf;have hh:=Trs.has_ht (Trs.has_app (t:=t) (a:=a) (b:=b));obtain⟨k1,k2,k3⟩:=At.fit (FitTs.has hf.2 Trs.has_app) h3
  grind[Tr.ht,Tr.mv]
theorem UnfL.at{p:List Sl}{a b:Trs}{t:Tr}{kids:List Int}(h:UnfL p kids (a.app (.cons t b))):a.len<kids.length/\Unf p (rdL kids (a.len:Int) 0) t/\UnfL p (kids.take a.len) a/\UnfL p (kids.drop (a.len+1)) b:=by
 have hl:=h.len;rw[Trs.app_len]at hl;simp only[Trs.len]at hl;obtain⟨h1,h2⟩:=UnfL.split h
 grind[UnfL,rdL,List.drop_eq_getElem_cons]
theorem ydf{p:List Sl}{i:Int}{T:Tr}(h:Unf p i T):zce NN p i=some (z74 (slA p i),0)/\UnfN p (z74 (slA p i)) T:=by grind[y7d,yr8]
theorem ysi{p:List Sl}{root:Int}{sh:Q4}{g:Nat}(hg:g<40000):∀(post pre:List Nat) (T S:Tr) (nd:Nd) (s:Sp) (lo hi:B) (n:Nat),post.length<n->(pre++post).length<1000000000->UnfN p nd T->VT g lo hi T->At T post S->
  ∃nd' s',zh1 NN n (ints (pre++post)) (0:Int) (pre.length:Int) (p,(root,sh)) nd s=some (.inr (((),((),(0,()))),((),(nd',(s',())))))/\UnfN p nd' S
 | _,_,_,_,_,_,_,_,0,h,_,_,_,_=>absurd h (ae _)
 | [],pre,T,S,nd,s,lo,hi,n+1,_,_,hu,hv,hat=>by simp_all[At,z5j,zlp,z8y]
 | i::post,pre, .leaf _,S,nd,s,lo,hi,n+1,_,_,_,_,hat=>by grind[At]
 | i::post,pre, .node ks piv buf,S,nd,s,lo,hi,n+1,hn,hl,hu,hv,hat=>by
  simp only[ag]at hn;have hb:pre.length<9223372036854775807:=by grind
  simp only[At]at hat;obtain⟨a,t,b,hks,hai,hat⟩:=hat;subst hks;obtain⟨kids,sums,rfl,u2,u3,u4⟩:=hu;simp only[VT]at hv;obtain⟨pa,pb,lo1,hi1,e,hk⟩:=Kid.of hv.1;obtain⟨a1,a2,_,_⟩:=u4.at;have hpl:=VTs.plen hv.1;obtain⟨_,_,hkl⟩:=VTs.piv hv.1;have hkl':=u4.len;rw[hai]at a1 a2;obtain⟨g1,g2⟩:=ydf a2;have hkne:eqi (kids.length:Int) 0=false:=G6 (by omega);have hsp:zay NN ([],(piv,(kids,(sums,buf)))) s=some (z73 s [] piv):=by simp only[zay,hkne,cond_false,y7n s (show piv.length<100000000 by omega)]
  obtain⟨nd',s',r1,r2⟩:=ysi (p:=p) (root:=root) (sh:=sh) hg post (pre++[i]) t S _ (rdL (z73 s [] piv) (i:Int) Y7) lo1 hi1 n (by omega) (by grind) g2 hk.ht hat;refine⟨nd',s', ?_,r2⟩;have hlt:decide ((pre.length:Int)<((ints (pre++i::post)).length:Int))=true:=by grind[z8y]
  have hin:inB (pre.length:Int) (ints (pre++i::post)).length=true:=by grind[z8y,U0]
  rw[zlp];simp only[z5j,zpv,hlt,cond_true,hin,y77,hsp,ac];rw[W8 (by rfl),gd_t rfl,X5 (by simp),gd_t rfl,X5 (by grind),gd_t rfl,gd_t (V7 (by omega) (by grind[zx4])),gd_t rfl,gd_t (V7 (by omega) (by omega)),g1]
  grind[U1]
theorem y7e{p:List Sl}{root:Int}{sh:Q4}{g:Nat}(hg:g<40000){T S:Tr}{lo hi:B}(hu:Unf p root T)(hv:VT g lo hi T){r:List Nat}(hr:r.length<1000000000)(hat:At T r S):
  ∃nd s,zbb NN (p,(root,sh)) (ints r)=some (nd,(s,0))/\UnfN p nd S:=by
 obtain⟨g1,g2⟩:=ydf hu;obtain⟨nd',s',r1,r2⟩:=ysi (p:=p) (root:=root) (sh:=sh) hg r [] T S _ ([],[]) lo hi NN (by grind[W3]) (by grind) g2 hv hat;have hz:(([]:List Nat).length:Int)=0:=rfl;simp_all[zbb]
def ypt(leaf fan bl:Nat):Tr->Prop
 | .leaf ps=>leaf<ps.length
 | .node ks _ buf=>fan<ks.len\/bl<buf.length
def shp(leaf fan bl:Nat):Q4:=((leaf:Int),((fan:Int),(bl:Int)))
theorem x2d{p:List Sl}{leaf fan bl:Nat}{nd:Nd}{T:Tr}(hu:UnfN p nd T):∃b,zsv NN nd (shp leaf fan bl)=some b/\(b=true↔ypt leaf fan bl T):=by
 cases T with
 | leaf ps=>rw[show nd=z1x ps from hu];refine⟨_,rfl, ?_⟩;simp[ypt,z1x,shp]
 | node ks piv buf=>
  obtain⟨kids,sums,rfl,u2,u3,u4⟩:=hu;have hl:=u4.len;have hkne:eqi (kids.length:Int) 0=false:=G6 (by simp;omega);simp only[zsv,hkne,cond_false,shp,ypt];by_cases h:fan<ks.len
  ·simp_all
  ·refine⟨_,by rw[X5 (by grind)],by grind⟩
theorem yxs{at':List Nat}{i:Nat}(h:at'.length<1000000000):zgz NN (ints at') (i:Int)=some (ints (at'++[i])):=by grind[zgz,ints,gd_t,Y9]
def ye6(p:List Sl)(root:Int)(leaf fan bl:Nat)(T:Tr)(r:y8):Prop:=r.2=true->∃at' S,r.1=ints at'/\At T at' S/\ypt leaf fan bl S/\at'.length<1000000
theorem yo4{p:List Sl}{root:Int}{leaf fan bl:Nat}{T:Tr}{at':List Nat}(hal:at'.length<1000000){piv:List B}{buf:List Mg}{kids:List Int}{sums:List X0}{s:Sp}(self:Y4->List Int->Bool->Option y8):
  ∀(b a:Trs) (n:Nat),At T at' (.node (a.app b) piv buf)->kids.length=a.len+b.len->kids.length<1000000000->b.len<n->(∀i t,(a.app b).has t->At T (at'++[i]) t->∃r,self (p,(root,shp leaf fan bl)) (ints (at'++[i])) false=some r/\ye6 p root leaf fan bl T r)->
   ∃r,z0q NN self n (ints at') false (a.len:Int) (p,(root,shp leaf fan bl)) ((([]:List Pr),(piv,(kids,(sums,buf)))),(s,0))=some r/\∀x,r= .inl x->ye6 p root leaf fan bl T x.2.1
 | _,_,0,_,_,_,h,_=>absurd h (ae _)
 | .nil,a,n+1,hat,hk,hb,hn,ih=>by simp_all[Trs.len,z3z,zc4]
 | .cons t b,a,n+1,hat,hk,hb,hn,ih=>by
  simp only[Trs.len]at hk hn;have e:a.app (.cons t b)=(a.app (.cons t .nil)).app b:=by rw[Trs.app_assoc];rfl
  have l:(a.app (.cons t .nil)).len=a.len+1:=by rw[Trs.app_len];rfl
  obtain⟨r,r1,r2⟩:=ih a.len t Trs.has_app (At.push rfl rfl hat);have rest:=yo4 (p:=p) (root:=root) (s:=s) (kids:=kids) (sums:=sums) hal self b (a.app (.cons t .nil)) n (by simp_all;omega) (by omega) hb (by omega) (by simp_all;omega);rw[l]at rest;have w:aa .i64 ((a.len:Int)+1)=((a.len+1:Nat):Int):=by grind[w64]
  have st:z0q NN self (n+1) (ints at') false (a.len:Int) (p,(root,shp leaf fan bl)) ((([]:List Pr),(piv,(kids,(sums,buf)))),(s,0))=bif r.2 then some (.inl ((),(r,())))else z0q NN self n (ints at') false ((a.len+1:Nat):Int) (p,(root,shp leaf fan bl)) ((([]:List Pr),(piv,(kids,(sums,buf)))),(s,0)):=by
   rw[zc4];simp only[z3z,yxs (at':=at') (i:=a.len) (by omega),ac,r1,w]
   grind
  grind
theorem ydk{p:List Sl}{root:Int}{leaf fan bl:Nat}{T:Tr}{g:Nat}(hg:g<40000){lo hi:B}(hu:Unf p root T)(hv:VT g lo hi T)(hh:T.ht<1000000)(hf:FitT T):∀(n:Nat) (at':List Nat) (S:Tr),At T at' S->S.ht<n->
  ∃r,z11 NN n (p,(root,shp leaf fan bl)) (ints at') false=some r/\ye6 p root leaf fan bl T r
 | 0,_,_,_,h=>absurd h (ae _)
 | n+1,at',S,hat,hn=>by
  have hal:=(At.fit hf hat).2.1;obtain⟨nd,s,n1,n2⟩:=y7e (sh:=shp leaf fan bl) hg hu hv (by omega) hat;obtain⟨b,o1,o2⟩:=x2d (leaf:=leaf) (fan:=fan) (bl:=bl) n2;rw[zts];simp only[z88,n1,ac];rw[X5 (by rfl)];simp only[o1,ac,cond_false];cases hb:b
  ·simp only[cond_false];cases S with
   | leaf ps=>
    rw[show nd=z1x ps from n2];refine⟨([],false), ?_,fun h=>by cases h⟩;obtain⟨k,hk⟩:∃k,NN=k+1:=⟨NN-1,by grind[W3]⟩;have e:z0q NN (z11 NN n) NN (ints at') false 0 (p,(root,shp leaf fan bl)) (z1x ps,(s,0))=some (.inr ((),((),()))):=by rw[show z0q NN (z11 NN n) NN=z0q NN (z11 NN n) (k+1)from congrArg _ hk,zc4];rfl
    grind
   | node ks piv buf=>
    obtain⟨kids,sums,rfl,u2,u3,u4⟩:=n2;obtain⟨lo',hi',v1,_⟩:=At.vt hv hat;simp only[VT]at v1;have hpl:=VTs.plen v1.1;obtain⟨_,_,hkl⟩:=VTs.piv v1.1;have hkl':=u4.len;obtain⟨r,r1,r2⟩:=yo4 (p:=p) (root:=root) (leaf:=leaf) (fan:=fan) (bl:=bl) (T:=T) (at':=at') (by omega) (piv:=piv) (buf:=buf) (kids:=kids) (sums:=sums) (s:=s) (z11 NN n) ks .nil NN (by grind[Trs.app]) (by grind[Trs.len]) (by omega) (by grind[W3]) fun i t hi hat'=>by have hh2:=Trs.has_ht (show ks.has t from hi);simp only[Tr.ht]at hn;exact ydk hg hu hv hh hf n _ t hat' (by omega)
    rw[show((Trs.nil.len:Nat):Int)=0 from rfl]at r1;rw[r1];cases r with
    | inl x=>grind
    | inr x=>exact⟨([],false),rfl,fun h=>by cases h⟩
  ·refine⟨(ints at',true),rfl,fun _=>⟨at',S,rfl,hat,o2.1 hb,by omega⟩⟩
theorem yxf{p:List Sl}{root:Int}{leaf fan bl:Nat}{T:Tr}{g:Nat}(hg:g<40000){lo hi:B}(hu:Unf p root T)(hv:VT g lo hi T)(hh:T.ht<1000000)(hf:FitT T):
  ∃r,y8n NN (p,(root,shp leaf fan bl)) [] false=some r/\ye6 p root leaf fan bl T r:=
 ydk hg hu hv hh hf NN [] T rfl (by grind[W3])
structure NdOk (g:Nat) (nd:Nd):Prop where
 ps:Tb g nd.1
 buf:∀m∈nd.2.2.2.2,GM g m
 bl:nd.2.2.2.2.length<100000000
 sl:nd.2.2.2.1.length<100000000
def zn8(G:Nat):Prop:=∀nd,NdOk G nd->∃s,zr5 NN nd=some s
theorem yrr{G:Nat}(hS:zn8 G):∀(post pre:List Nd) (n:Nat) (out:List X0),post.length<n->(pre++post).length<100000000->out.length=pre.length->(∀nd∈post,NdOk G nd)->
  ∃r,zh0 NN n (pre++post) (pre.length:Int) out=some ((),(out++r,()))/\r.length=post.length
 | _,_,0,_,h,_,_,_=>absurd h (ae _)
 | [],pre,n+1,out,_,_,_,_=>by refine⟨[], ?_,rfl⟩;simp[z5i,zlo]
 | nd::post,pre,n+1,out,hn,hl,ho,h=>by
  simp only[ag]at hn;have hb:pre.length<9223372036854775807:=by grind
  have hpl:pre.length<100000000:=by grind
  obtain⟨s,hs⟩:=hS nd (h nd (by simp));obtain⟨r,r1,r2⟩:=yrr hS post (pre++[nd]) n (out++[s]) (by omega) (by grind) (by grind) fun x hx=>h x (by grind);refine⟨s::r, ?_,by grind⟩;rw[zlo];simp only[z5i,Q7,cond_true,V5,hs,ac]
  grind[gd_t,U0,Y9,U1]
theorem yrq{G:Nat}(hS:zn8 G){l:List Nd}(hl:l.length<100000000)(h:∀nd∈l,NdOk G nd):∃r,zsr NN l=some r/\zks NN l=some r/\r.length=l.length:=by
 obtain⟨r,r1,r2⟩:=yrr hS l [] NN [] (by grind[W3]) (by grind) rfl h;have hz:(([]:List Nd).length:Int)=0:=rfl;rw[hz,ah,ah]at r1;have r1':zd9 NN NN l 0 []=_:=r1
 grind[zsr,zks]
theorem ydn{α:Type}(l:List α)(n:Nat):cut2 l (0:Int) (n:Int)=l.take n:=by simp[cut2]
theorem yoa{α:Type}(l:List α)(n:Nat):cut2 l (n:Int) (l.length:Int)=l.drop n:=by simp[cut2,bu]
theorem yox{G:Nat}(hS:zn8 G){piv:List B}{kids:List Int}{sums:List X0}{buf:List Mg}{i:Nat}(hi:i<kids.length)(hs:sums.length=kids.length)(hp:i<=piv.length)(hk:kids.length<100000000)(hpl:piv.length<100000000)
  {l:List Nd} {pv:List B} {up:List Mg} {ids:List Int} (hl:l.length<100000000) (hok:∀nd∈l,NdOk G nd) (hpv:pv.length<100000000) (hup:up.length<1000000000) (hids:ids.length<100000000) (hb:buf.length<100000000):
  ∃ss:List X0,ss.length=l.length/\zax NN ([],(piv,(kids,(sums,buf)))) (i:Int) (l,(pv,up)) ids=some ([],(piv.take i++pv++piv.drop i,(kids.take i++ids++kids.drop (i+1),(sums.take i++ss++sums.drop (i+1),up++buf)))):=by
 obtain⟨ss,s1,_,s2⟩:=yrq hS hl hok;refine⟨ss,s2, ?_⟩;have w:aa .i64 ((i:Int)+1)=((i+1:Nat):Int):=by grind[w64]
 have t1:(kids.take i).length<=kids.length:=by grind
 have t2:(sums.take i).length<=sums.length:=by grind
 have t3:(piv.take i).length<=piv.length:=by grind
 have t4:(kids.drop (i+1)).length<=kids.length:=by simp
 have t5:(sums.drop (i+1)).length<=sums.length:=by simp
 have t6:(piv.drop i).length<=piv.length:=by simp
 simp only[zax,w,ydn,yoa,s1,ac,ah]
 grind[gd_t,Y9]
def Plug:Tr->List Nat->Trs->List B->List Mg->Tr->Prop
 | _,[],c,pv,up,T'=>(c= .cons T' .nil/\up=[])\/((1<c.len\/up≠[])/\T'= .node c pv up)
 | .leaf _,_::_,_,_,_,_=>False
 | .node ks piv buf,[i],c,pv,up,T'=>∃(a:Trs) (t:Tr) (b:Trs),ks=a.app (.cons t b)/\a.len=i/\T'= .node (a.app (c.app b)) (piv.take i++pv++piv.drop i) (up++buf)
 | .node ks piv buf,i::j::r,c,pv,up,T'=>∃(a:Trs) (t:Tr) (b:Trs) (t':Tr),ks=a.app (.cons t b)/\a.len=i/\Plug t (j::r) c pv up t'/\T'= .node (a.app (.cons t' b)) piv buf
theorem Trs.cancel{t t':Tr}{b b':Trs}:∀{a a':Trs},a.app (.cons t b)=a'.app (.cons t' b')->a.len=a'.len->a=a'/\t=t'/\b=b'
 | .nil, .nil,h,_=>by simp only[Trs.app,Trs.cons.injEq]at h;grind
 | .nil, .cons _ _,_,l=>by grind[Trs.len]
 | .cons _ _, .nil,_,l=>by grind[Trs.len]
 | .cons u a, .cons u' a',h,l=>by simp only[Trs.app,Trs.cons.injEq]at h;simp only[Trs.len]at l;obtain⟨e1,e2,e3⟩:=Trs.cancel h.2 (by omega);exact⟨by rw[h.1,e1],e2,e3⟩
theorem Plug.up{c:Trs}{pv:List B}{up:List Mg}{ks a b:Trs}{S:Tr}{piv:List B}{buf:List Mg}{i:Nat}(h1:ks=a.app (.cons S b))(h2:a.len=i):∀{r:List Nat} {T T':Tr},At T r (.node ks piv buf)->Plug T r (.cons (.node (a.app (c.app b)) (piv.take i++pv++piv.drop i) (up++buf)) .nil) [] [] T'->Plug T (r++[i]) c pv up T'
 | [],T,T',hat,h=>by grind[At,Plug,Trs.len]
 | [j], .leaf _,_,hat,_=>by grind[At]
 | j::k::r, .leaf _,_,hat,_=>by grind[At]
 | [j], .node ks' piv' buf',T',hat,h=>by simp only[At]at hat;obtain⟨a',t',b',k1,k2,k3⟩:=hat;simp only[Plug]at h;obtain⟨a2,t2,b2,m1,m2,m3⟩:=h;subst k3;have ha:=Trs.cancel (k1.symm.trans m1) (k2.trans m2.symm);obtain⟨ea,et,eb⟩:=ha;subst ea et eb;simp only[ba,ah,Plug];refine⟨_,_,_,_,k1,k2,⟨a,S,b,h1,h2,rfl⟩, ?_⟩;simp_all[Trs.app]
 | j::k::r, .node ks' piv' buf',T',hat,h=>by simp only[At]at hat;obtain⟨a',t',b',k1,k2,k3⟩:=hat;simp only[Plug]at h;obtain⟨a2,t2,b2,t3,m1,m2,m3,m4⟩:=h;obtain⟨ea,et,eb⟩:=Trs.cancel (k1.symm.trans m1) (k2.trans m2.symm);subst ea et eb;simp only[ba,Plug];exact⟨_,_,_,_,k1,k2,Plug.up h1 h2 (r:=k::r) k3 m3,m4⟩
theorem yu4{p:List Sl}{root root':Int}{sh:Q4}{p0:List Sl}{held R:List Int}(hR:R.length<10000000)(hh:held.length<100000)(h:PI p (held++(root::R)))(hu:W5 p root'=true){T':Tr}(hT:Unf p root' T'):
  ∃q,zbx NN root' (p0,(root,sh)) p held=some (((),0),((q,(root',sh)),()))/\PI q (root'::R)/\Unf q root' T'/\∀x∈R,∀X,Unf p x X->Unf q x X:=by
 obtain⟨q1,a1,a2,a3⟩:=h.hold hu (by grind);have perm1:(root'::(held++(root::R))).Perm (held++(root::root'::R)):=by grind
 obtain⟨q2,b1,b2,b3⟩:=ykq (ids:=held) (L:=root::root'::R) (by omega) (by grind) (a2.perm perm1);obtain⟨q3,c1,c2,c3⟩:=ykq (ids:=[root]) (L:=root'::R) (by simp) (by grind) b2;have keep:∀x∈root'::R,∀X,Unf p x X->Unf q3 x X:=fun x hx X hX=>by have u3:=c2.bal.mem x hx;have u2:=(c3.node x u3).1;exact c3.unf c2.bal u3 (b3.unf b2.bal u2 (a3.unf hX))
 grind[zbx]
theorem yu3{G:Nat}(hS:zn8 G){p p0:List Sl}{root:Int}{sh:Q4}{held R ids:List Int}{L:List Nd}{c:Trs}{pv:List B}{up:List Mg}{ad:zd2}(hR:R.length<10000000)(hh:held.length<90000)(h:PI p (held++(root::R)))
  (hL:L.length<40000) (hok:∀nd∈L,NdOk G nd) (hlen:L.length=c.len) (hc:c≠ .nil) (hids:UnfL p ids c) {b:Bool} (hb:b=true↔(1<c.len\/up≠[])):
  ∃r,zbw NN (rdL ids (0:Int) (0:Int)) b (p0,(root,sh)) L pv up p held (p,(ids,0))=some r/\
   ((∃e,r= .inl (((),e),((p0,(root,sh)),()))/\e≠0)\/∃q id held',r= .inr (((),((),((),((),id)))),((p0,(root,sh)),((),(q,(held',())))))/\PI q (held'++(root::R))/\held'.length<100000/\Ext p q/\∃T',Plug (.leaf []) [] c pv up T'/\Unf q id T'):=by
 have hil:=hids.len;have hcl:1<=c.len:=by grind[Trs.len_zero]
 cases hbb:b
 ·have hn:¬(1<c.len\/up≠[]):=fun h=>by grind
  have hup:up=[]:=by grind
  cases c with
  | nil=>grind
  | cons t ts=>
   have hts:ts= .nil:=Trs.len_zero (by grind[Trs.len]);subst hts;cases ids with
   | nil=>grind
   | cons i is=>simp only[UnfL]at hids;exact⟨_,rfl, .inr ⟨p,i,held,rfl,h,by omega,Ext.refl p,t, .inl ⟨rfl,hup⟩,hids.1⟩⟩
 ·obtain⟨ss,_,s1,s2⟩:=yrq hS (by omega) hok;have hne:ids≠[]:=fun e=>by grind
  have hn:UnfN p (([]:List Pr),(pv,(ids,(ss,up)))) (.node c pv up):=⟨ids,ss,rfl,by omega,hne,hids⟩;obtain⟨q,ids',e,a1,a2⟩:=ye1 (R:=held++(root::R)) (by grind) (l:=[([],(pv,(ids,(ss,up))))]) (c:= .cons (.node c pv up) .nil) (by simp) (by simp_all[UnfNs]) (fun nd hnd=>by grind) h;simp only[zbw,cond_true,s1,ac];have er:((p,(ids,0)):zd2).2.1=ids:=rfl;simp only[a1,ac];rcases a2 with a2 | ⟨rfl,a3,a4,a5⟩
  ·simp_all[G6]
  ·cases ids' with
   | nil=>grind[UnfL]
   | cons i is=>
    simp only[UnfL]at a5;have his:is=[]:=by grind[UnfL]
    subst his;refine⟨_,by rw[X5 (by rfl),gd_t (by rfl),gd_t (Y9 (by grind) (by omega))];rfl, .inr ⟨q,i,held++[i],rfl,a3.perm ?_,by grind,a4,_, .inr ⟨hb.1 hbb,rfl⟩,a5.1⟩⟩
    grind
theorem ymx{G g:Nat}(hS:zn8 G)(hgG:g<=G)(hg:g<1900){p0:List Sl}{root:Int}{sh:Q4}{T:Tr}{lo hi:B}(hu0:Unf p0 root T)(hv:VT g lo hi T)(hf:FitT T)(hht:T.ht<40000)(hB:∀r ks piv buf,At T r (.node ks piv buf)->buf.length<40000000){R:List Int}(hR:R.length<10000000){at':List Nat}(hatl:at'.length<40000):
  ∀(k:Nat) (r rest:List Nat) (n:Nat) (S:Tr) (L:List Nd) (c:Trs) (pv:List B) (up:List Mg) (p:List Sl) (held:List Int),at'=r++rest->r.length=k->k<n->At T r S->held.length+k+c.len<80000->PI p (held++(root::R))->Ext p0 p->
   UnfNs p L c->c≠ .nil->c.len<40000->pv.length<40000->(∀nd∈L,NdOk G nd/\nd.2.2.1.length<=80000)->(∀m∈up,GM G m)->up.length<40000000->
   ∃e t',zkt NN n (ints at') (k:Int) (p0,(root,sh)) L pv up p held=some (((),e),(t',()))/\((e≠0/\t'=(p0,(root,sh)))\/(e=0/\∃q root' T',t'=(q,(root',sh))/\Plug T r c pv up T'/\PI q (root'::R)/\Unf q root' T'/\∀x∈R,∀X,Unf p x X->Unf q x X))
 | _,_,_,0,_,_,_,_,_,_,_,_,_,h,_,_,_,_,_,_,_,_,_,_,_=>absurd h (ae _)
 | 0,r,rest,n+1,S,L,c,pv,up,p,held,hr,hrk,hn,hat,hheld,hP,hE,hU,hc,hcl,hpv,hok,hup,hupl=>by
  have hLl:=hU.len;have hc1:1<=c.len:=by grind[Trs.len_zero]
  obtain⟨q,ids,e,a1,a2⟩:=ye1 (by grind) (by omega) hU (fun nd h=>(hok nd h).2) hP;have hr0:r=[]:=cW.1 hrk;subst hr0;rw[zoi];simp only[z7b,a1,ac];rcases a2 with a2 | ⟨rfl,a3,a4,a5⟩
  ·exact⟨_,_,by simp_all[G6], .inl ⟨a2,rfl⟩⟩
  have hil:=a5.len;have a3':PI q ((held++ids)++(root::R)):=a3.perm (by grind);rw[X5 (by rfl),gd_t (Y9 (by omega) (by omega)),gd_t (V7 (by omega) (by omega)),X5 (by simp)]
  have fin:∀b:Bool,(b=true↔(1<c.len\/up≠[]))->∃e t',((zbw NN (rdL ids (0:Int) (0:Int)) b (p0,(root,sh)) L pv up q (held++ids) (q,(ids,0))).bind fun r13=>match r13 with
    | .inl r14=>(some (((),r14.1.2),(r14.2.1,())))
    | .inr r15=>((zbx NN r15.1.2.2.2.2 r15.2.1 r15.2.2.2.1 r15.2.2.2.2.1).bind fun r19=>some (((),r19.1.2),(r19.2.1,()))))=some (((),e),(t',()))/\((e≠0/\t'=(p0,(root,sh)))\/(e=0/\∃q root' T',t'=(q,(root',sh))/\Plug T [] c pv up T'/\PI q (root'::R)/\Unf q root' T'/\∀x∈R,∀X,Unf p x X->Unf q x X)):=fun b hb=>by
   obtain⟨r,r1,r2⟩:=yu3 hS (p0:=p0) (sh:=sh) (pv:=pv) (ad:=(q,(ids,0))) hR (by grind) a3' (by omega) (fun nd h=>(hok nd h).1) hLl hc a5 hb;rw[r1];rcases r2 with⟨e,rfl,he⟩ | ⟨q2,id,held',rfl,b1,b2,b3,T',b4,b5⟩
   ·grind
   ·have hun:=(y7d.1 b5).1;obtain⟨q3,c1,c2,c3,c4⟩:=yu4 (sh:=sh) (p0:=p0) hR b2 b1 hun b5;refine⟨0,(q3,(id,sh)),by grind, .inr ⟨rfl,q3,id,T',rfl, ?_,c2,c3,fun x hx X hX=>c4 x hx X (b3.unf (a4.unf hX))⟩⟩
    grind[Plug]
  by_cases h1:1<c.len
  ·rw[W8 (by grind)];simp_all;omega
  ·rw[X5 (by grind)];refine fin _ ⟨fun h=> .inr fun e=> ?_,fun h=> ?_⟩
   all_goals grind[bI]
 | k+1,r,rest,n+1,S,L,c,pv,up,p,held,hr,hrk,hn,hat,hheld,hP,hE,hU,hc,hcl,hpv,hok,hup,hupl=>by
  have hLl:=hU.len;have hc1:1<=c.len:=by grind[Trs.len_zero]
  obtain⟨q,ids,e,a1,a2⟩:=ye1 (by grind) (by omega) hU (fun nd h=>(hok nd h).2) hP;rw[zoi];simp only[z7b,a1,ac];rcases a2 with a2 | ⟨rfl,a3,a4,a5⟩
  ·exact⟨_,_,by simp_all[G6], .inl ⟨a2,rfl⟩⟩
  have hil:=a5.len;have a3':PI q ((held++ids)++(root::R)):=a3.perm (by grind);obtain⟨r0,i,rfl⟩:∃r0 i,r=r0++[i]:=by
   rcases cF r with e | ⟨r0,i,e⟩
   all_goals grind
  have hr0:r0.length=k:=by grind
  obtain⟨ks,piv,buf,a,b,k1,k2,k3⟩:=hat.snoc;obtain⟨nd,s,n1,n2⟩:=y7e (sh:=sh) (show g<40000 by omega) hu0 hv (show r0.length<1000000000 by omega) k1;obtain⟨kids,sums,rfl,u2,u3,u4⟩:=n2;obtain⟨lo',hi',v1,_⟩:=At.vt hv k1;simp only[VT]at v1;have hpl:=VTs.plen v1.1;obtain⟨_,_,hkl⟩:=VTs.piv v1.1;have hkl':=u4.len;rw[k2,Trs.app_len]at hkl hkl';simp only[Trs.len]at hkl hkl';have hbl:=hB _ _ _ _ k1;have w:aa .i64 (((k+1:Nat):Int)-1)=(k:Int):=by grind[w64]
  have hcut:cut2 (ints at') (0:Int) (k:Int)=ints r0:=by grind[ints,ydn]
  have hrd:rdL (ints at') (k:Int) (0:Int)=(i:Int):=by grind[y77]
  have hial:at'.length=r0.length+1+rest.length:=by grind
  obtain⟨ss,s1,s2⟩:=yox hS (piv:=piv) (kids:=kids) (sums:=sums) (buf:=buf) (i:=i) (by omega) u2 (by omega) (by omega) (by omega) (l:=L) (pv:=pv) (up:=up) (ids:=ids) (by omega) (fun nd h=>(hok nd h).1) (by omega) (by omega) (by omega) (by omega);rw[X5 (by rfl),gd_t (Y9 (by omega) (by omega)),gd_t (V7 (by omega) (by omega)),W8 (by simp),w,gd_t (by simp[z8y];omega),hcut,n1];simp only[ac];rw[gd_t (V7 (by omega) (by grind[z8y])),hrd];have s2':zax NN (([]:List Pr),(piv,(kids,(sums,buf)))) (i:Int) (L,(pv,up)) ids=_:=s2;rw[s2'];simp only[ac];have u4q:UnfL q kids ks:=a4.unfL (hE.unfL u4);rw[k2]at u4q;obtain⟨_,_,ua,ub⟩:=u4q.at;rw[k3]at ua ub;have hN:UnfN q (([]:List Pr),(piv.take i++pv++piv.drop i,(kids.take i++ids++kids.drop (i+1),(sums.take i++ss++sums.drop (i+1),up++buf)))) (.node (a.app (c.app b)) (piv.take i++pv++piv.drop i) (up++buf)):=by refine⟨_,_,rfl,by grind,fun e=> ?_,by rw[aU];exact ua.app (a5.app ub)⟩;simp_all;omega
  have hNok:NdOk G (([]:List Pr),(piv.take i++pv++piv.drop i,(kids.take i++ids++kids.drop (i+1),(sums.take i++ss++sums.drop (i+1),up++buf)))):=by
   refine⟨⟨aX.nil,fun x h=>by cases h⟩,fun m hm=> ?_, ?_, ?_⟩
   ·rcases am.1 hm with hm | hm
    ·grind
    ·exact((v1.2 m hm).1).mono hgG
   all_goals grind
  obtain⟨e,t',t1,t2⟩:=ymx hS hgG hg hu0 hv hf hht hB hR hatl k r0 (i::rest) n (.node ks piv buf) [_] (.cons _ .nil) [] [] q (held++ids) (by grind) hr0 (by omega) k1 (by simp only[aq,Trs.len];omega) a3' (hE.trans a4) (by simp[UnfNs];omega) (by simp) (by simp[Trs.len]) (by simp) (fun nd hnd=>by grind) (fun m h=>by cases h) (by simp);refine⟨e,t',t1, ?_⟩;rcases t2 with t2 | ⟨t2,q2,root',T',x1,x2,x3,x4,x5⟩
  ·grind
  ·exact .inr ⟨t2,q2,root',T',x1,Plug.up k2 k3 k1 x2,x3,x4,fun x hx X hX=>x5 x hx X (a4.unf hX)⟩
theorem yej{G g:Nat}(hS:zn8 G)(hgG:g<=G)(hg:g<1900){p:List Sl}{root:Int}{sh:Q4}{T:Tr}{lo hi:B}(hu0:Unf p root T)(hv:VT g lo hi T)(hf:FitT T)(hht:T.ht<40000)(hB:∀r ks piv buf,At T r (.node ks piv buf)->buf.length<40000000){R:List Int}(hR:R.length<10000000){at':List Nat}
  {S:Tr} {L:List Nd} {c:Trs} {pv:List B} {up:List Mg} (hat:At T at' S) (hP:PI p (root::R)) (hU:UnfNs p L c) (hc:c≠ .nil) (hcl:c.len<40000) (hpv:pv.length<40000) (hok:∀nd∈L,NdOk G nd/\nd.2.2.1.length<=80000) (hup:∀m∈up,GM G m) (hupl:up.length<40000000):
  ∃e t',zek NN (p,(root,sh)) (ints at') (L,(pv,up))=some (t',e)/\((e≠0/\t'=(p,(root,sh)))\/(e=0/\∃q root' T',t'=(q,(root',sh))/\Plug T at' c pv up T'/\PI q (root'::R)/\Unf q root' T'/\∀x∈R,∀X,Unf p x X->Unf q x X)):=by
 have hl:=(At.fit hf hat).2.1;obtain⟨e,t',t1,t2⟩:=ymx hS hgG hg hu0 hv hf hht hB (sh:=sh) hR (at':=at') (by omega) at'.length at' [] NN S L c pv up p [] (by simp) rfl (by grind[W3]) hat (by grind) hP (Ext.refl p) hU hc hcl hpv hok hup hupl
 grind[zek,z8y]
theorem Kid.inner{g:Nat}{lo hi:B}{a:Trs}{t:Tr}{b:Trs}{pa pb:List B}{lo' hi':B}(h:Kid g lo hi a t b pa pb lo' hi'):∀k,hasB (lo',hi') k=true->hasB (lo,hi) k=true:=by
 intro k this;rw[Q8]at this|-;simp only[ab,au]at this|-;constructor
 ·rcases h.ha with⟨_,_,e⟩ | ⟨_,_,_,_,_,e,_⟩
  all_goals grind[y4o,z3h]
 ·rcases h.hb with⟨_,_,e⟩ | ⟨_,_,_,_,f,_,e⟩
  ·grind
  ·have h5:=this.2;simp only[K1,aA]at h5
   grind[y6,KU.ne,zij]
theorem LiesIn.wid{s s':Sp}{m:Mg}(h:LiesIn s m)(hw:∀k,hasB s k=true->hasB s' k=true):LiesIn s' m:=fun x hx k hk=>hw k (h x hx k hk)
theorem Plug.vt{g g':Nat}(hg:g<=g'){c:Trs}{pv:List B}{up:List Mg}{S:Tr}:∀{at':List Nat} {T T':Tr} {lo hi:B},VT g lo hi T->Plug T at' c pv up T'->At T at' S->
  (∀lo' hi',VT g lo' hi' S->VTs g' lo' hi' c pv/\∀m∈up,GM g' m/\LiesIn (lo',hi') m)->VT g' lo hi T'
 | [],T,T',lo,hi,hv,hp,hat,h=>by
  simp only[At]at hat;subst hat;obtain⟨h1,h2⟩:=h lo hi hv;have hp:(c= .cons T' .nil/\up=[])\/((1<c.len\/up≠[])/\T'= .node c pv up):=by cases T<;>exact hp
  rcases hp with⟨rfl,_⟩ | ⟨_,rfl⟩
  ·cases pv with
   | nil=>grind[VTs]
   | cons _ _=>grind[VTs]
  constructor<;>grind
 | [i], .leaf _,_,_,_,_,hp,_,_=>by grind[Plug]
 | i::j::r, .leaf _,_,_,_,_,hp,_,_=>by grind[Plug]
 | [i], .node ks piv buf,T',lo,hi,hv,hp,hat,h=>by
  simp only[Plug]at hp;simp only[At]at hat;obtain⟨a,t,b,k1,k2,rfl⟩:=hp;obtain⟨a2,t2,b2,m1,m2,m3⟩:=hat;obtain⟨ea,et,eb⟩:=Trs.cancel (k1.symm.trans m1) (k2.trans m2.symm);subst ea et eb m3 k1;simp only[VT]at hv|-;obtain⟨pa,pb,lo',hi',e,hk⟩:=Kid.of hv.1;have la:=hk.la.1;obtain⟨h1,h2⟩:=h lo' hi' hk.ht;have e1:piv.take i=pa:=by grind
  have e2:piv.drop i=pb:=by grind
  refine⟨by rw[e1,e2,aU];exact hk.rep hg h1,fun m hm=> ?_⟩;rcases am.1 hm with hm | hm
  ·exact⟨(h2 m hm).1,(h2 m hm).2.wid hk.inner⟩
  ·exact⟨((hv.2 m hm).1).mono hg,(hv.2 m hm).2⟩
 | i::j::r, .node ks piv buf,T',lo,hi,hv,hp,hat,h=>by simp only[Plug]at hp;rw[At]at hat;obtain⟨a,t,b,t',k1,k2,k3,rfl⟩:=hp;obtain⟨a2,t2,b2,m1,m2,m3⟩:=hat;obtain⟨ea,et,eb⟩:=Trs.cancel (k1.symm.trans m1) (k2.trans m2.symm);subst ea et eb k1;simp only[VT]at hv|-;obtain⟨pa,pb,lo',hi',e,hk⟩:=Kid.of hv.1;have ih:=Plug.vt hg hk.ht k3 m3 h;have:=hk.rep hg (c:= .cons t' .nil) (pc:=[]) (by simp only[VTs];exact ih);rw[ah,<-e]at this;exact⟨this,fun m hm=>⟨((hv.2 m hm).1).mono hg,(hv.2 m hm).2⟩⟩
mutual
def Tr.ms(fl:List Pr->Nat)(fn:Nat->Nat->Nat->List Mg->Nat)(d:Nat):Tr->Nat
 | .leaf ps=>fl ps
 | .node ks _ buf=>fn d ks.len ks.ht buf+ks.ms fl fn (d+1)
def Trs.ms(fl:List Pr->Nat)(fn:Nat->Nat->Nat->List Mg->Nat)(d:Nat):Trs->Nat
 | .nil=>0
 | .cons t ts=>t.ms fl fn d+ts.ms fl fn d
end
theorem Trs.app_ms{fl:List Pr->Nat}{fn:Nat->Nat->Nat->List Mg->Nat}{d:Nat}:∀a b:Trs,(a.app b).ms fl fn d=a.ms fl fn d+b.ms fl fn d
 | .nil,b=>by simp[Trs.app,Trs.ms]
 | .cons t a,b=>by simp only[Trs.app,Trs.ms,Trs.app_ms a b];omega
theorem Trs.kid_ms{fl:List Pr->Nat}{fn:Nat->Nat->Nat->List Mg->Nat}{d:Nat}(a:Trs)(t:Tr)(b:Trs):(a.app (.cons t b)).ms fl fn d=a.ms fl fn d+t.ms fl fn d+b.ms fl fn d:=by grind[Trs.ms,Trs.app_ms]
theorem Trs.kid_ht(a:Trs)(t:Tr)(b:Trs):(a.app (.cons t b)).ht=max a.ht (max t.ht b.ht):=by rw[Trs.app_ht,Trs.ht]
theorem Trs.kid_len(a:Trs)(t:Tr)(b:Trs):(a.app (.cons t b)).len=a.len+1+b.len:=by grind[Trs.len,Trs.app_len]
theorem Plug.rep{fl:List Pr->Nat}{fn:Nat->Nat->Nat->List Mg->Nat}(hm:∀d n h h' buf,h<=h'->fn d n h buf<=fn d n h' buf){S S':Tr}(hh:S'.ht<=S.ht):∀{at':List Nat} {T T':Tr} {d:Nat},At T at' S->Plug T at' (.cons S' .nil) [] [] T'->
  T'.ht<=T.ht/\T'.ms fl fn d+S.ms fl fn (d+at'.length)<=T.ms fl fn d+S'.ms fl fn (d+at'.length)
 | [],T,T',d,hat,hp=>by
  simp only[At]at hat;subst hat;have hp:(Trs.cons S' .nil= .cons T' .nil/\([]:List Mg)=[])\/((1<(Trs.cons S' .nil).len\/([]:List Mg)≠[])/\T'= .node (.cons S' .nil) [] []):=by cases T<;>exact hp
  rcases hp with⟨e,_⟩ | ⟨e,_⟩
  ·grind
  grind[Trs.len]
 | [i], .leaf _,_,_,_,hp=>by grind[Plug]
 | i::j::r, .leaf _,_,_,_,hp=>by grind[Plug]
 | [i], .node ks piv buf,T',d,hat,hp=>by simp only[Plug]at hp;simp only[At]at hat;obtain⟨a,t,b,k1,k2,rfl⟩:=hp;obtain⟨a2,t2,b2,m1,m2,m3⟩:=hat;obtain⟨ea,et,eb⟩:=Trs.cancel (k1.symm.trans m1) (k2.trans m2.symm);subst ea et eb m3 k1;have e:a.app ((Trs.cons S' .nil).app b)=a.app (.cons S' b):=rfl;simp only[e,Tr.ht,Tr.ms,Trs.kid_ms,Trs.kid_ht,Trs.kid_len,List.length_singleton,ah];have:=hm d (a.len+1+b.len) (max a.ht (max S'.ht b.ht)) (max a.ht (max t.ht b.ht)) buf (by omega);omega
 | i::j::r, .node ks piv buf,T',d,hat,hp=>by
  simp only[Plug]at hp;rw[At]at hat;obtain⟨a,t,b,t',k1,k2,k3,rfl⟩:=hp;obtain⟨a2,t2,b2,m1,m2,m3⟩:=hat;obtain⟨ea,et,eb⟩:=Trs.cancel (k1.symm.trans m1) (k2.trans m2.symm);subst ea et eb k1;obtain⟨i1,i2⟩:=Plug.rep (fl:=fl) hm hh (d:=d+1) m3 k3;simp only[Tr.ht,Tr.ms,Trs.kid_ms,Trs.kid_ht,Trs.kid_len,ag]at i2|-;have:=hm d (a.len+1+b.len) (max a.ht (max t'.ht b.ht)) (max a.ht (max t.ht b.ht)) buf (by omega)
  grind
theorem Plug.pieces{fl:List Pr->Nat}{f:Nat->Nat->List Mg->Nat}{c:Trs}{pv:List B}{up:List Mg}{ks a b:Trs}{S:Tr}{piv:List B}{buf:List Mg}(h1:ks=a.app (.cons S b)):∀{r:List Nat} {T T':Tr} {d:Nat},At T r (.node ks piv buf)->Plug T (r++[a.len]) c pv up T'->
  T'.ms fl (fun d n _ l=>f d n l) d+S.ms fl (fun d n _ l=>f d n l) (d+r.length+1)+f (d+r.length) ks.len buf=T.ms fl (fun d n _ l=>f d n l) d+c.ms fl (fun d n _ l=>f d n l) (d+r.length+1)+f (d+r.length) (a.len+c.len+b.len) (up++buf)
 | [],T,T',d,hat,hp=>by
  simp only[At]at hat;subst hat;simp only[ah,Plug]at hp;obtain⟨a2,t2,b2,m1,m2,rfl⟩:=hp;obtain⟨ea,et,eb⟩:=Trs.cancel (h1.symm.trans m1) m2.symm;subst ea et eb h1;have e:(a.app (c.app b)).len=a.len+c.len+b.len:=by grind[Trs.app_len]
  simp only[Tr.ms,Trs.kid_len,Trs.app_ms,Trs.ms,e,aJ,bD];omega
 | [j], .leaf _,_,_,hat,_=>by grind[At]
 | j::k::r, .leaf _,_,_,hat,_=>by grind[At]
 | j::r, .node ks' piv' buf',T',d,hat,hp=>by
  rw[At]at hat;obtain⟨a',t',b',k1,k2,k3⟩:=hat;have hp':∃(a2:Trs) (t2:Tr) (b2:Trs) (t3:Tr),ks'=a2.app (.cons t2 b2)/\a2.len=j/\Plug t2 (r++[a.len]) c pv up t3/\T'= .node (a2.app (.cons t3 b2)) piv' buf':=by
   cases r with
   | nil=>grind[Plug]
   | cons k r=>grind[Plug]
  obtain⟨a2,t2,b2,t3,m1,m2,m3,rfl⟩:=hp';obtain⟨ea,et,eb⟩:=Trs.cancel (k1.symm.trans m1) (k2.trans m2.symm);subst ea et eb k1;have ih:=Plug.pieces (fl:=fl) (f:=f) h1 (d:=d+1) k3 m3
  grind[Tr.ms,Trs.kid_ms,Trs.kid_len]
mutual
def Tr.fm(fl:List Pr->Nat)(fb:List Mg->Nat):Tr->Nat
 | .leaf ps=>fl ps
 | .node ks _ buf=>fb buf+ks.fm fl fb
def Trs.fm(fl:List Pr->Nat)(fb:List Mg->Nat):Trs->Nat
 | .nil=>0
 | .cons t ts=>t.fm fl fb+ts.fm fl fb
end
theorem Trs.app_fm{fl:List Pr->Nat}{fb:List Mg->Nat}:∀a b:Trs,(a.app b).fm fl fb=a.fm fl fb+b.fm fl fb
 | .nil,b=>by simp[Trs.app,Trs.fm]
 | .cons t a,b=>by simp only[Trs.app,Trs.fm,Trs.app_fm a b];omega
mutual
theorem Tr.mv_fm:∀T:Tr,T.mv=T.fm (fun _=>0) mvN
 | .leaf _=>rfl
 | .node ks _ buf=>by simp only[Tr.mv,Tr.fm,Trs.mv_fm ks];omega
theorem Trs.mv_fm:∀T:Trs,T.mv=T.fm (fun _=>0) mvN
 | .nil=>rfl
 | .cons t ts=>by simp only[Trs.mv,Trs.fm,Tr.mv_fm t,Trs.mv_fm ts]
end
theorem Plug.flat{fl:List Pr->Nat}{fb:List Mg->Nat}(h0:fb []=0)(ha:∀a b,fb (a++b)=fb a+fb b){c:Trs}{pv:List B}{up:List Mg}{S:Tr}:∀{at':List Nat} {T T':Tr},At T at' S->Plug T at' c pv up T'->
  T'.fm fl fb+S.fm fl fb=T.fm fl fb+c.fm fl fb+fb up
 | [],T,T',hat,hp=>by
  simp only[At]at hat;subst hat;have hp:(c= .cons T' .nil/\up=[])\/((1<c.len\/up≠[])/\T'= .node c pv up):=by cases T<;>exact hp
  rcases hp with⟨rfl,rfl⟩ | ⟨_,rfl⟩
  all_goals grind[Trs.fm,Tr.fm]
 | [i], .leaf _,_,_,hp=>by grind[Plug]
 | i::j::r, .leaf _,_,_,hp=>by grind[Plug]
 | [i], .node ks piv buf,T',hat,hp=>by
  simp only[Plug]at hp;simp only[At]at hat;obtain⟨a,t,b,k1,k2,rfl⟩:=hp
  grind[Tr.fm,Trs.fm,Trs.cancel,Trs.app_fm]
 | i::j::r, .node ks piv buf,T',hat,hp=>by simp only[Plug]at hp;rw[At]at hat;obtain⟨a,t,b,t',k1,k2,k3,rfl⟩:=hp;obtain⟨a2,t2,b2,m1,m2,m3⟩:=hat;obtain⟨ea,et,eb⟩:=Trs.cancel (k1.symm.trans m1) (k2.trans m2.symm);subst ea et eb k1;have ih:=Plug.flat (fl:=fl) h0 ha m3 k3;simp only[Tr.fm,Trs.app_fm,Trs.fm]at ih|-;omega
def Tr.bw(Γ:Nat)(T:Tr):Nat:=T.fm (fun _=>0) (wb Γ)
def Tr.pa(T:Tr):Nat:=T.fm (fun ps=>ps.length-1) (fun l=>2*ptN l)
def Tr.ov(fan:Nat)(T:Tr):Nat:=T.ms (fun _=>0) (fun _ n _ _=>n-fan) 0
def Tr.dv(fan d:Nat)(T:Tr):Nat:=T.ms (fun _=>0) (fun d n _ _=>(d+1)*(n-fan)) d
def Tr.en(Γ:Nat)(T:Tr):Nat:=T.ms (fun _=>0) (fun _ _ h l=>wb Γ l*(h+1)) 0
def Dec(Γ fan:Nat)(T' T:Tr):Prop:=T'.mv<T.mv\/(T'.mv=T.mv/\(T'.pa<T.pa\/(T'.pa<=T.pa/\(T'.ov fan<T.ov fan\/(T'.ov fan<=T.ov fan/\(T'.dv fan 0<T.dv fan 0\/(T'.dv fan 0<=T.dv fan 0/\T'.en Γ<T.en Γ)))))))
theorem ms_d{fl:List Pr->Nat}{f:Nat->List Mg->Nat}:(∀(T:Tr) (d d':Nat),T.ms fl (fun _ n _ l=>f n l) d=T.ms fl (fun _ n _ l=>f n l) d'):=by
 intro T;refine Tr.rec (motive_1:=fun T=>∀d d',T.ms fl (fun _ n _ l=>f n l) d=T.ms fl (fun _ n _ l=>f n l) d') (motive_2:=fun ks=>∀d d',ks.ms fl (fun _ n _ l=>f n l) d=ks.ms fl (fun _ n _ l=>f n l) d') ?_ ?_ ?_ ?_ T
 all_goals grind[Tr.ms,Trs.ms]
theorem x36{fl:List Pr->Nat}{f:Nat->List Mg->Nat}:∀(ks:Trs) (d d':Nat),ks.ms fl (fun _ n _ l=>f n l) d=ks.ms fl (fun _ n _ l=>f n l) d'
 | .nil,_,_=>by simp[Trs.ms]
 | .cons t ts,d,d'=>by simp only[Trs.ms,ms_d t d d',x36 ts d d']
theorem en_d{Γ:Nat}:∀(T:Tr) (d d':Nat),T.ms (fun _=>0) (fun _ _ h l=>wb Γ l*(h+1)) d=T.ms (fun _=>0) (fun _ _ h l=>wb Γ l*(h+1)) d':=by
 intro T;refine Tr.rec (motive_1:=fun T=>∀d d',T.ms (fun _=>0) (fun _ _ h l=>wb Γ l*(h+1)) d=T.ms (fun _=>0) (fun _ _ h l=>wb Γ l*(h+1)) d') (motive_2:=fun ks=>∀d d',ks.ms (fun _=>0) (fun _ _ h l=>wb Γ l*(h+1)) d=ks.ms (fun _=>0) (fun _ _ h l=>wb Γ l*(h+1)) d') ?_ ?_ ?_ ?_ T
 all_goals grind[Tr.ms,Trs.ms]
theorem Dec.lift{Γ fan:Nat}{S S' T T':Tr}{at':List Nat}(hat:At T at' S)(hp:Plug T at' (.cons S' .nil) [] [] T')(hh:S'.ht<=S.ht)
  (h:S'.mv<S.mv\/(S'.mv=S.mv/\(S'.pa<S.pa\/(S'.pa<=S.pa/\S'.ov fan<=S.ov fan/\S'.dv fan at'.length<=S.dv fan at'.length/\S'.en Γ<S.en Γ)))):Dec Γ fan T' T:=by
 have f1:=Plug.flat (fl:=fun _=>0) (fb:=mvN) rfl ze0 hat hp;have f2:=Plug.flat (fl:=fun ps=>ps.length-1) (fb:=fun l=>2*ptN l) rfl (fun a b=>by grind[zno]) hat hp;have r3:=(Plug.rep (fl:=fun _=>0) (fn:=fun _ n _ _=>n-fan) (fun _ _ _ _ _ _=>ai _) hh (d:=0) hat hp).2;have r4:=(Plug.rep (fl:=fun _=>0) (fn:=fun d n _ _=>(d+1)*(n-fan)) (fun _ _ _ _ _ _=>ai _) hh (d:=0) hat hp).2;have r5:=(Plug.rep (fl:=fun _=>0) (fn:=fun _ _ h l=>wb Γ l*(h+1)) (fun _ _ _ _ l h=>aY _ (by omega)) hh (d:=0) hat hp).2;rw[en_d S (0+at'.length) 0,en_d S' (0+at'.length) 0]at r5;rw[ms_d S (0+at'.length) 0 (f:=fun n _=>n-fan),ms_d S' (0+at'.length) 0 (f:=fun n _=>n-fan)]at r3;rw[bk]at r4;have z1:mvN ([]:List Mg)=0:=rfl;have z2:ptN ([]:List Mg)=0:=rfl
 grind[Trs.fm,Dec,Tr.pa,Tr.ov,Tr.dv,Tr.en,Tr.mv_fm]
theorem yp9{piv:List B}{kids:List Int}{sums:List X0}{buf:List Mg}{i:Nat}(hi:i<kids.length)(hs:sums.length=kids.length)(hp:piv.length+1=kids.length)(h2:2<=kids.length)(hk:kids.length<100000000):
  zcq NN ([],(piv,(kids,(sums,buf)))) (i:Int)=some ([],(piv.take (i-1)++piv.drop (i-1+1),(kids.take i++kids.drop (i+1),(sums.take i++sums.drop (i+1),buf)))):=by
 have w:aa .i64 ((i:Int)+1)=((i+1:Nat):Int):=by grind[w64]
 have w1:(bif decide ((aa .i64 ((i:Int)-1))<(0:Int))then(0:Int)else(aa .i64 ((i:Int)-1)))=((i-1:Nat):Int):=by
  rw[w64 (by omega) (by omega)]
  grind
 have w2:aa .i64 (((i-1:Nat):Int)+1)=((i-1+1:Nat):Int):=by grind[w64]
 have t1:(kids.take i).length<=kids.length:=by grind
 have t2:(sums.take i).length<=sums.length:=by grind
 have t3:(piv.take (i-1)).length<=piv.length:=by grind
 have t4:(kids.drop (i+1)).length<=kids.length:=by simp
 have t5:(sums.drop (i+1)).length<=sums.length:=by simp
 have t6:(piv.drop (i-1+1)).length<=piv.length:=by simp
 simp only[zcq,w1,w,w2,ydn,yoa,ah]
 rw[gd_t (by grind),gd_t (Y9 (by omega) (by omega)),gd_t (by grind),gd_t (Y9 (by omega) (by omega)),
  gd_t (by grind),gd_t (Y9 (by omega) (by omega)),gd_t (by grind),gd_t (Y9 (by omega) (by omega)),
  gd_t (by grind),gd_t (Y9 (by omega) (by omega)),gd_t (by grind),gd_t (Y9 (by omega) (by omega))]
theorem yx4{pa pb:List B}{i:Nat}(h:pa.length=i):(pa++pb).take (i-1)++(pa++pb).drop (i-1+1)=if pa=[]then pb.tail else pa.dropLast++pb:=by
 rcases cF pa with e | ⟨q,x,e⟩
 ·subst e;simp at h;subst h;simp
 grind
structure TI (g:Nat) (p:List Sl) (root:Int) (R:List Int) (T:Tr):Prop where
 pi:PI p (root::R)
 unf:Unf p root T
 vt:VT g [] [] T
 fit:FitT T
 ht:T.ht<40000
 bl:∀r ks piv buf,At T r (.node ks piv buf)->buf.length<20000000
 rl:R.length<1000000
def Did(p:List Sl)(root:Int)(sh:Q4)(R:List Int)(P:Tr->Prop)(t':Y4)(e:Int):Prop:=
 (e≠0)\/(e=0/\∃q root' T',t'=(q,(root',sh))/\P T'/\PI q (root'::R)/\Unf q root' T'/\∀x∈R,∀X,Unf p x X->Unf q x X)
theorem y8y{G g:Nat}(hS:zn8 G)(hgG:g<=G)(hg:g<1900){p:List Sl}{root:Int}{R:List Int}{T:Tr}(hI:TI g p root R T){sh:Q4}{at':List Nat}{ks:Trs}{piv:List B}{buf stay:List Mg}(hat:At T at' (.node ks piv buf))
  {kids:List Int} {sums:List X0} (hu:UnfL p kids ks) (hs:sums.length=kids.length) (hst:∀m∈stay,GM G m) (hsl:stay.length<20000000) {a b:Trs} {t:Tr} (hks:ks=a.app (.cons t b))
  {L:List Nd} {c:Trs} {pv:List B} (hU:UnfNs p L c) (hc:c≠ .nil) (hcl:c.len<40000) (hpv:pv.length<40000) (hok:∀nd∈L,NdOk G nd/\nd.2.2.1.length<=80000) {w:zpn}:
  ∃t' n e,z3i NN (ints at') (a.len:Int) (p,(root,sh)) (([]:List Pr),(piv,(kids,(sums,stay)))) w L pv []=some ((),((t',(n,e)),()))/\
   Did p root sh R (fun T'=>Plug T at' (.cons (.node (a.app (c.app b)) (piv.take a.len++pv++piv.drop a.len) stay) .nil) [] [] T') t' e:=by
 have hLl:=hU.len;obtain⟨lo',hi',v1,_⟩:=At.vt hI.vt hat;simp only[VT]at v1;have hpl:=VTs.plen v1.1;obtain⟨_,_,hkl⟩:=VTs.piv v1.1;have hkl':=hu.len;have hksl:ks.len=a.len+1+b.len:=by grind[Trs.kid_len]
 have hrl:=hI.rl;obtain⟨q,ids,e,a1,a2⟩:=ye1 (R:=root::R) (by grind) (by omega) hU (fun nd h=>(hok nd h).2) hI.pi;simp only[z3i,a1,ac];rcases a2 with a2 | ⟨rfl,a3,a4,a5⟩
 ·exact⟨_,_,_,by rw[W8 (by grind[G6])], .inl a2⟩
 have hil:=a5.len;obtain⟨ss,s1,s2⟩:=yox hS (piv:=piv) (kids:=kids) (sums:=sums) (buf:=stay) (i:=a.len) (by omega) hs (by omega) (by omega) (by omega) (l:=L) (pv:=pv) (up:=[]) (ids:=ids) (by omega) (fun nd h=>(hok nd h).1) (by omega) (by simp) (by omega) (by omega);have s2':zax NN (([]:List Pr),(piv,(kids,(sums,stay)))) (a.len:Int) (L,(pv,[])) ids=_:=s2;rw[X5 (by rfl),s2'];simp only[ac,ah];have u4q:UnfL q kids ks:=a4.unfL hu;rw[hks]at u4q;obtain⟨_,_,ua,ub⟩:=u4q.at;have hN:UnfN q (([]:List Pr),(piv.take a.len++pv++piv.drop a.len,(kids.take a.len++ids++kids.drop (a.len+1),(sums.take a.len++ss++sums.drop (a.len+1),stay)))) (.node (a.app (c.app b)) (piv.take a.len++pv++piv.drop a.len) stay):=by
  refine⟨_,_,rfl,by grind,fun e=> ?_,by rw[aU];exact ua.app (a5.app ub)⟩;have:=congrArg ak e
  grind[Trs.len_zero]
 have hNok:NdOk G (([]:List Pr),(piv.take a.len++pv++piv.drop a.len,(kids.take a.len++ids++kids.drop (a.len+1),(sums.take a.len++ss++sums.drop (a.len+1),stay)))):=
  ⟨⟨aX.nil,fun x h=>by cases h⟩,hst,by grind,by grind⟩
 have hP:PI q (root::(ids++R)):=a3.perm (List.Perm.cons root df);obtain⟨e,t',t1,t2⟩:=yej hS hgG hg (a4.unf hI.unf) hI.vt hI.fit hI.ht (fun r ks piv buf h=>aT (hI.bl r ks piv buf h) (by omega)) (R:=ids++R) (by grind) (sh:=sh) hat hP (L:=[_]) (c:= .cons _ .nil) (pv:=[]) (up:=[]) (by simp[UnfNs];omega) (by simp) (by simp[Trs.len]) (by simp) (fun nd hnd=>by grind) (fun m h=>by cases h) (by simp);rw[t1];simp only[ac];rcases t2 with⟨t2,rfl⟩ | ⟨rfl,q2,root',T',rfl,x2,x3,x4,x5⟩
 ·obtain⟨q2,y1,y2,y3⟩:=ykq (ids:=ids) (L:=root::R) (by omega) (by grind) (a3.perm df);rw[y1];simp only[ac,zdx];exact⟨_,_,_,by rw[W8 (by grind[G6])];rfl, .inl t2⟩
 ·obtain⟨q3,y1,y2,y3⟩:=ykq (ids:=ids) (L:=root'::R) (by omega) (by grind) (x3.perm (by grind));rw[y1];simp only[ac,zdx];refine⟨_,_,_,by constructor<;>grind, .inr ⟨rfl,q3,root',T',rfl,x2,y2,y3.unf y2.bal (y2.bal.mem root' (by simp)) x4,fun x hx X hX=> ?_⟩⟩;exact y3.unf y2.bal (y2.bal.mem x (by grind)) (x5 x (by grind) X (a4.unf hX))
def tri:Nat->Nat
 | 0=>0
 | n+1=>tri n+(n+1)
theorem yed{a b:Nat}(h:a<=b):tri a<=tri b:=by
 induction h with
 | refl=>simp
 | step _ ih=>constructor<;>grind
theorem x4i{a b:Nat}(h:a<b):tri a+b<=tri b:=by
 cases b with
 | zero=>omega
 | succ b=>have:=yed (show a<=b by omega);grind[tri]
structure Loc (Γ fan K g g':Nat) (S S':Tr):Prop where
 gg:g<=g'
 vt:∀lo hi,VT g lo hi S->VT g' lo hi S'
 ht:S'.ht<=S.ht
 dec:S'.mv<S.mv\/(S'.mv=S.mv/\(S'.pa<S.pa\/(S'.pa<=S.pa/\S'.ov fan<=S.ov fan/\(∀d,S'.dv fan d<=S.dv fan d)/\S'.en Γ<S.en Γ)))
 pot:S'.bw Γ+K*S'.mv<=S.bw Γ+K*S.mv
 gr:(S'.mv=S.mv/\g'=g)\/(S'.mv<S.mv/\g'<=g+S.mv)
structure Nxt (Γ fan K g g':Nat) (T T':Tr):Prop where
 gg:g<=g'
 vt:VT g' [] [] T'
 dec:Dec Γ fan T' T
 pot:T'.bw Γ+K*T'.mv<=T.bw Γ+K*T.mv
 mvq:T'.mv<=T.mv
 gr:∀b,g'+tri (T'.mv+b)<=g+tri (T.mv+b)
theorem Loc.lift{Γ fan K g g':Nat}{S S' T T':Tr}{at':List Nat}(h:Loc Γ fan K g g' S S')(hv:VT g [] [] T)(hat:At T at' S)(hp:Plug T at' (.cons S' .nil) [] [] T')(hmv:S.mv<=T.mv):Nxt Γ fan K g g' T T':=by
 have f1:=Plug.flat (fl:=fun _=>0) (fb:=mvN) rfl ze0 hat hp;have f2:=Plug.flat (fl:=fun _=>0) (fb:=wb Γ) rfl (zcd Γ) hat hp;have z1:mvN ([]:List Mg)=0:=rfl;have z2:wb Γ ([]:List Mg)=0:=rfl;simp only[Trs.fm,z1,z2]at f1 f2;rw[<-Tr.mv_fm,<-Tr.mv_fm,<-Tr.mv_fm,<-Tr.mv_fm]at f1;have hpot:=h.pot;have hgr:=h.gr;have hle:T'.mv<=T.mv:=by omega
 refine⟨h.gg, ?_, ?_, ?_,hle,fun b=> ?_⟩
 ·refine Plug.vt h.gg hv hp hat fun lo hi hS=>⟨by simp only[VTs];exact h.vt lo hi hS,fun m hm=>by grind⟩
 ·refine Dec.lift hat hp h.ht ?_;rcases h.dec with d | ⟨d1,d2 | ⟨d2,d3,d4,d5⟩⟩
  all_goals grind
 ·unfold Tr.bw at hpot|-;have e1:K*(T'.mv+S.mv)=K*(T.mv+S'.mv):=by grind
  grind
 ·rcases hgr with⟨e1,e2⟩ | ⟨e1,e2⟩
  ·grind
  ·have:=x4i (show T'.mv+b<T.mv+b by omega);omega
theorem ymg{g:Nat}{lo hi:B}{a:Trs}{t:Tr}{b:Trs}{pa pb:List B}{lo' hi':B}(hk:Kid g lo hi a t b pa pb lo' hi'){m:Mg}(h1:LiesIn (rdL (z73 ([],[]) [] (pa++pb)) (a.len:Int) Y7) m)(h2:LiesIn (lo,hi) m):LiesIn (lo',hi') m:=
 fun x hx k hk'=>hk.part.2 k (h1 x hx k hk') (h2 x hx k hk')
theorem Tr.en_eq{Γ:Nat}{ks:Trs}{piv:List B}{buf:List Mg}:(Tr.node ks piv buf).en Γ=wb Γ buf*(ks.ht+1)+ks.ms (fun _=>0) (fun _ _ h l=>wb Γ l*(h+1)) 1:=by simp[Tr.en,Tr.ms]
structure Rdy (g Γ:Nat) (s:Sp) (buf go stay:List Mg):Prop where
 rd:∀reg,(∀m∈buf,GM g m/\LiesIn reg m)->Rd g Γ reg s buf go stay
 ne:go≠[]
theorem yuk{Γ fan K g:Nat}(hgΓ:g<=Γ){a b:Trs}{ks2:Trs}{piv piv2:List B}{buf buf2 go stay:List Mg}
  (hr:Rdy g Γ (rdL (z73 ([],[]) [] piv) (a.len:Int) Y7) buf go stay) (hg:∀m∈buf,GM g m):
  Loc Γ fan K g g (.node (a.app (.cons (.node ks2 piv2 buf2) b)) piv buf) (.node (a.app (.cons (.node ks2 piv2 (buf2++go)) b)) piv stay):=by
 have all:∀m:Mg,LiesIn ([],[]) m:=fun m x hx k hk=>by rw[Q8];cases k<;>rfl
 have R0:=hr.rd ([],[]) fun m hm=>⟨hg m hm,all m⟩;have m1:=R0.mvq;have m2:=R0.ptq;have m3:=R0.wgt;have hgo:=zft hgΓ fun m hm=>(R0.gg m hm).1;have hpos:1<=wb Γ go:=aP (bI.2 hr.ne) hgo;have hmv:(Tr.node (a.app (.cons (.node ks2 piv2 (buf2++go)) b)) piv stay).mv=(Tr.node (a.app (.cons (.node ks2 piv2 buf2) b)) piv buf).mv:=by grind[Tr.mv,Trs.mv,Trs.app_mv,ze0]
 refine⟨ai g,fun lo hi hv=> ?_, ?_, .inr ⟨hmv, .inr ⟨?_, ?_,fun d=> ?_, ?_⟩⟩, ?_, .inl ⟨hmv,rfl⟩⟩
 ·simp only[VT]at hv|-;obtain⟨pa,pb,lo',hi',e,hk⟩:=Kid.of hv.1;have R1:=hr.rd (lo,hi) hv.2;rw[e]at R1;have hkt:=hk.ht;simp only[VT]at hkt;refine⟨?_,R1.ss⟩;have:=hk.rep (ai g) (c:= .cons (.node ks2 piv2 (buf2++go)) .nil) (pc:=[]) (by
   simp only[VTs,VT];refine⟨hkt.1,fun m hm=> ?_⟩;rcases am.1 hm with hm | hm
   ·grind
   ·obtain⟨g1,g2,g3⟩:=R1.gg m hm
    grind[ymg])
  rw[ah,<-e]at this;exact this
 ·simp[Tr.ht,Trs.ht,Trs.app_ht]
 ·grind[Tr.pa,Tr.fm,Trs.fm,Trs.app_fm,zno]
 ·simp[Tr.ov,Tr.ms,Trs.ms,Trs.app_ms,Trs.kid_len]
 ·simp[Tr.dv,Tr.ms,Trs.ms,Trs.app_ms,Trs.kid_len]
 ·rw[Tr.en_eq,Tr.en_eq];simp only[Trs.kid_ms,Trs.kid_ht,Tr.ms,Tr.ht,zcd];generalize hH:max a.ht (max (ks2.ht+1) b.ht)=H;have hH1:ks2.ht+1<=H:=by omega
  have e1:(wb Γ buf2+wb Γ go)*(ks2.ht+1)=wb Γ buf2*(ks2.ht+1)+wb Γ go*(ks2.ht+1):=cy _ _ _;have e2:(wb Γ go+wb Γ stay)*(H+1)<=wb Γ buf*(H+1):=bn _ m3;have e3:(wb Γ go+wb Γ stay)*(H+1)=wb Γ go*(H+1)+wb Γ stay*(H+1):=cy _ _ _;have e4:wb Γ go*(ks2.ht+1)<wb Γ go*(H+1):=Nat.mul_lt_mul_of_pos_left (by omega) hpos;omega
 ·rw[hmv];simp[Tr.bw,Tr.fm,Trs.fm,Trs.app_fm,zcd];omega
theorem app_len{g:Nat}{m:Mg}(hm:GM g m)(h0:mvs m=0){t:List Pr}:(app m t).length<=t.length+pts m:=by
 cases hm with
 | put k v n hk hv=>exact ynu _ _
 | del k hk=>exact aP (bP _ _) (bO _ _)
 | drop s hs=>exact aP (bP _ _) (bO _ _)
 | move e he=>grind[mvs]
 | clone e he=>grind[mvs]
 | stamp s n hs=>show(t.map (stp s n)).length<=_;simp
theorem yor{g:Nat}:∀{ms:List Mg} {t:List Pr},(∀m∈ms,GM g m)->mvN ms=0->(apps ms t).length<=t.length+ptN ms
 | [],t,_,_=>ai _
 | m::ms,t,h,h0=>by
  have e1:mvN (m::ms)=mvs m+mvN ms:=by simp[mvN]
  have e2:ptN (m::ms)=pts m+ptN ms:=by simp[ptN]
  have h1:=app_len (h m (by simp)) (by omega) (t:=t);have h2:=yor (ms:=ms) (t:=app m t) (fun x hx=>h x (by grind)) (by omega)
  grind[apps]
theorem y7v{fb:List Mg->Nat}:∀{ps:List (List Pr)},(∀p∈ps,1<=p.length)->(G7 ps).fm (fun ps=>ps.length-1) fb+ps.length=ps.flatten.length
 | [],_=>rfl
 | p::ps,h=>by have:=y7v (fb:=fb) (ps:=ps) fun x hx=>h x (by simp[hx]);have:=h p (by simp);simp only[G7,Trs.fm,Tr.fm,cJ,aq,ag];omega
theorem y4n{fb:List Mg->Nat}:∀(ps:List (List Pr)),(G7 ps).fm (fun _=>0) fb=0/\(G7 ps).ht=0/\(G7 ps).mv=0
 | []=>⟨rfl,rfl,rfl⟩
 | p::ps=>by have:=y4n (fb:=fb) ps;simp only[G7,Trs.fm,Tr.fm,Trs.ht,Tr.ht,Trs.mv,Tr.mv];omega
theorem zxa{fn:Nat->Nat->Nat->List Mg->Nat}:∀(ps:List (List Pr)) (d:Nat),(G7 ps).ms (fun _=>0) fn d=0
 | [],_=>rfl
 | p::ps,d=>by simp only[G7,Trs.ms,Tr.ms,zxa ps d]
theorem yx1{Γ fan K g:Nat}(hgΓ:g<=Γ)(hK:1<=K){a b:Trs}{ps:List Pr}{piv pv:List B}{buf go stay:List Mg}{pieces:List (List Pr)}
  (hr:Rdy g Γ (rdL (z73 ([],[]) [] piv) (a.len:Int) Y7) buf go stay) (hg:∀m∈buf,GM g m) (hne:pieces≠[]) (hfl:pieces.flatten=apps go ps)
  (hv2:∀lo hi,(∀x∈apps go ps,hasB (lo,hi) x.1=true)->VTs (g+mvN go) lo hi (G7 pieces) pv) (hlen:apps go ps≠[]->∀p∈pieces,1<=p.length) (hnil:apps go ps=[]->pieces=[[]]):
  Loc Γ fan K g (g+mvN go) (.node (a.app (.cons (.leaf ps) b)) piv buf) (.node (a.app ((G7 pieces).app b)) (piv.take a.len++pv++piv.drop a.len) stay):=by
 have all:∀m:Mg,LiesIn ([],[]) m:=fun m x hx k hk=>by rw[Q8];cases k<;>rfl
 have R0:=hr.rd ([],[]) fun m hm=>⟨hg m hm,all m⟩;have m1:=R0.mvq;have m2:=R0.ptq;have m3:=R0.wgt;have hgo:=zft hgΓ fun m hm=>(R0.gg m hm).1;have hpos:1<=wb Γ go:=aP (bI.2 hr.ne) hgo;obtain⟨z1,z2,z3⟩:=y4n (fb:=wb Γ) pieces;have hmv:(Tr.node (a.app ((G7 pieces).app b)) (piv.take a.len++pv++piv.drop a.len) stay).mv+mvN go=(Tr.node (a.app (.cons (.leaf ps) b)) piv buf).mv:=by grind[Tr.mv,Trs.mv,Trs.app_mv]
 have hlp:1<=pieces.length:=bI.2 hne;refine⟨by omega,fun lo hi hv=> ?_, ?_, ?_, ?_, ?_⟩
 ·simp only[VT]at hv|-;obtain⟨pa,pb,lo',hi',e,hk⟩:=Kid.of hv.1;have R1:=hr.rd (lo,hi) hv.2;rw[e]at R1;have hkt:=hk.ht;simp only[VT]at hkt;have la:=hk.la.1;have e1:piv.take a.len=pa:=by grind
  have e2:piv.drop a.len=pb:=by grind
  refine⟨?_,fun m hm=>⟨((R1.ss m hm).1).mono (by omega),(R1.ss m hm).2⟩⟩;rw[e1,e2,aU];exact hk.rep (by omega) (hv2 lo' hi' (y7t (s:=(lo',hi')) (fun m hm=>⟨(R1.gg m hm).1,ymg hk (R1.gg m hm).2.1 (R1.gg m hm).2.2⟩) hkt.2))
 ·grind[Tr.ht,Trs.ht,Trs.app_ht]
 ·rcases cV (mvN go)with h0 | h0
  ·refine .inr ⟨by omega, ?_⟩;have hal:=yor (ms:=go) (t:=ps) (fun m hm=>(R0.gg m hm).1) h0;have hpa':(Tr.node (a.app ((G7 pieces).app b)) (piv.take a.len++pv++piv.drop a.len) stay).pa=2*ptN stay+(a.fm (fun ps=>ps.length-1) (fun l=>2*ptN l)+((G7 pieces).fm (fun ps=>ps.length-1) (fun l=>2*ptN l)+b.fm (fun ps=>ps.length-1) (fun l=>2*ptN l))):=by simp[Tr.pa,Tr.fm,Trs.app_fm]
   have hpa:(Tr.node (a.app (.cons (.leaf ps) b)) piv buf).pa=2*ptN buf+(a.fm (fun ps=>ps.length-1) (fun l=>2*ptN l)+((ps.length-1)+b.fm (fun ps=>ps.length-1) (fun l=>2*ptN l))):=by simp[Tr.pa,Tr.fm,Trs.fm,Trs.app_fm]
   have hen:pieces.length=1->(Tr.node (a.app ((G7 pieces).app b)) (piv.take a.len++pv++piv.drop a.len) stay).ov fan<=(Tr.node (a.app (.cons (.leaf ps) b)) piv buf).ov fan/\(∀d,(Tr.node (a.app ((G7 pieces).app b)) (piv.take a.len++pv++piv.drop a.len) stay).dv fan d<=(Tr.node (a.app (.cons (.leaf ps) b)) piv buf).dv fan d)/\(Tr.node (a.app ((G7 pieces).app b)) (piv.take a.len++pv++piv.drop a.len) stay).en Γ<(Tr.node (a.app (.cons (.leaf ps) b)) piv buf).en Γ:=fun h1=>by
    have el:(a.app ((G7 pieces).app b)).len=(a.app (.cons (.leaf ps) b)).len:=by grind[Trs.app_len,Trs.kid_len,zb3]
    refine⟨?_,fun d=> ?_, ?_⟩
    ·simp_all[Tr.ov,Tr.ms,Trs.ms,Trs.app_ms,zxa]
    ·simp_all[Tr.dv,Tr.ms,Trs.ms,Trs.app_ms,zxa]
    ·rw[Tr.en_eq,Tr.en_eq];simp only[Trs.app_ms,Trs.ms,Tr.ms,zxa,bk,Trs.app_ht,Trs.ht,Tr.ht,z2];simp;omega
   by_cases he:apps go ps=[]
   ·have h1:=hnil he;subst h1;have hz:(G7 [[]]).fm (fun ps=>ps.length-1) (fun l=>2*ptN l)=0:=rfl
    grind
   grind[y7v]
  omega
 ·have hb:(Tr.node (a.app ((G7 pieces).app b)) (piv.take a.len++pv++piv.drop a.len) stay).bw Γ<=(Tr.node (a.app (.cons (.leaf ps) b)) piv buf).bw Γ:=by grind[Tr.bw,Tr.fm,Trs.fm,Trs.app_fm]
  have hk:=aY K (show(Tr.node (a.app ((G7 pieces).app b)) (piv.take a.len++pv++piv.drop a.len) stay).mv<=(Tr.node (a.app (.cons (.leaf ps) b)) piv buf).mv by omega);omega
 omega
theorem yx0{Γ fan K g:Nat}(hgΓ:g<=Γ){a b:Trs}{ps:List Pr}{piv:List B}{buf go stay:List Mg}
  (hr:Rdy g Γ (rdL (z73 ([],[]) [] piv) (a.len:Int) Y7) buf go stay) (hg:∀m∈buf,GM g m) (hab:a≠ .nil\/b≠ .nil):
  Loc Γ fan K g (g+mvN go) (.node (a.app (.cons (.leaf ps) b)) piv buf) (.node (a.app b) (piv.take (a.len-1)++piv.drop (a.len-1+1)) stay):=by
 have all:∀m:Mg,LiesIn ([],[]) m:=fun m x hx k hk=>by rw[Q8];cases k<;>rfl
 have R0:=hr.rd ([],[]) fun m hm=>⟨hg m hm,all m⟩;have m1:=R0.mvq;have m2:=R0.ptq;have m3:=R0.wgt;have hgo:=zft hgΓ fun m hm=>(R0.gg m hm).1;have hpos:1<=wb Γ go:=aP (bI.2 hr.ne) hgo;have hmv:(Tr.node (a.app b) (piv.take (a.len-1)++piv.drop (a.len-1+1)) stay).mv+mvN go=(Tr.node (a.app (.cons (.leaf ps) b)) piv buf).mv:=by grind[Tr.mv,Trs.mv,Trs.app_mv]
 have el:(a.app b).len<=(a.app (.cons (.leaf ps) b)).len:=by grind[Trs.app_len,Trs.kid_len]
 refine⟨by omega,fun lo hi hv=> ?_, ?_, ?_, ?_, ?_⟩
 ·simp only[VT]at hv|-;obtain⟨pa,pb,lo',hi',e,hk⟩:=Kid.of hv.1;have R1:=hr.rd (lo,hi) hv.2;refine⟨?_,fun m hm=>⟨((R1.ss m hm).1).mono (by omega),(R1.ss m hm).2⟩⟩;rw[e,yx4 hk.la.1];exact(hk.less hab).mono (by omega)
 ·simp[Tr.ht,Trs.ht,Trs.app_ht]
 ·rcases cV (mvN go)with h0 | h0
  ·refine .inr ⟨by omega, .inr ⟨?_, ?_,fun d=> ?_, ?_⟩⟩
   ·grind[Tr.pa,Tr.fm,Trs.fm,Trs.app_fm]
   ·grind[Tr.ov,Tr.ms,Trs.ms,Trs.app_ms]
   ·simp only[Tr.dv,Tr.ms,Trs.app_ms,Trs.ms];have:=aY (d+1) (Nat.sub_le_sub_right el fan);omega
   ·rw[Tr.en_eq,Tr.en_eq];simp only[Trs.app_ms,Trs.ms,Tr.ms,bk,Trs.app_ht,Trs.ht,Tr.ht];simp;omega
  omega
 ·have hb:(Tr.node (a.app b) (piv.take (a.len-1)++piv.drop (a.len-1+1)) stay).bw Γ<=(Tr.node (a.app (.cons (.leaf ps) b)) piv buf).bw Γ:=by grind[Tr.bw,Tr.fm,Trs.fm,Trs.app_fm]
  have hk:=aY K (show(Tr.node (a.app b) (piv.take (a.len-1)++piv.drop (a.len-1+1)) stay).mv<=(Tr.node (a.app (.cons (.leaf ps) b)) piv buf).mv by omega);omega
 omega
theorem ywz{Γ fan K g:Nat}{ks:Trs}{piv:List B}{m0:Mg}{rest new:List Mg}(hn:∀m∈new,GM (g+ks.mv+1) m)(hl:∀lo hi,VT g lo hi (.node ks piv (m0::rest))->∀m∈new,LiesIn (lo,hi) m)(h0:mvN new=0)(h1:mvs m0=1)(hw:wb Γ new<=K):
  Loc Γ fan K g (g+ks.mv+1) (.node ks piv (m0::rest)) (.node ks piv (new++rest)):=by
 have e1:mvN (m0::rest)=mvs m0+mvN rest:=by simp[mvN]
 have hmv:(Tr.node ks piv (new++rest)).mv+1=(Tr.node ks piv (m0::rest)).mv:=by grind[Tr.mv,ze0]
 have hle:ks.mv+1<=(Tr.node ks piv (m0::rest)).mv:=by grind[Tr.mv]
 refine⟨by omega,fun lo hi hv=> ?_,ai _, .inl (by omega), ?_, .inr ⟨by omega,by omega⟩⟩
 ·have hl0:=hl lo hi hv;simp only[VT]at hv|-;refine⟨hv.1.mono (by omega),fun m hm=> ?_⟩;rcases am.1 hm with hm | hm
  ·grind
  ·obtain⟨g1,g2⟩:=hv.2 m (by grind);exact⟨g1.mono (by omega),g2⟩
 ·have e2:K*(Tr.node ks piv (m0::rest)).mv=K*(Tr.node ks piv (new++rest)).mv+K:=by grind
  grind[Tr.bw,Tr.fm,zcd,zxh]
theorem yk4{g:Nat}{hi:B}:∀{ps:List (List Pr)} {pv:List B} {lo:B},VTs g lo hi (G7 ps) pv->∀p∈ps,Tb g p
 | [],_,_,h,_,_=>(VTs.ne h).elim
 | [p],[],lo,h,q,hq=>by grind[G7,VTs,VT]
 | [p],_::_,lo,h,q,hq=>by grind[G7,VTs]
 | p::q::ps,[],lo,h,r,hr=>by simp_all[G7,VTs]
 | p::q::ps,x::pv,lo,h,r,hr=>by
  have h:VTs g lo hi (.cons (.leaf p) (.cons (.leaf q) (G7 ps))) (x::pv):=h;simp only[VTs,VT]at h;rcases ar.1 hr with rfl | hr
  ·exact h.2.2.2.1.1
  ·exact yk4 (ps:=q::ps) h.2.2.2.2 r hr
theorem Did.imp{p:List Sl}{root:Int}{sh:Q4}{R:List Int}{P Q:Tr->Prop}{t':Y4}{e:Int}(h:Did p root sh R P t' e)(hPQ:∀T',P T'->Q T'):Did p root sh R Q t' e:=by
 rcases h with h | ⟨h,q,root',T',h1,h2,h3⟩
 ·exact .inl h
 ·exact .inr ⟨h,q,root',T',h1,hPQ T' h2,h3⟩
theorem yy4{Γ K g leaf fan bl:Nat}(hS:zn8 Γ)(hΓ:Γ<1900)(hK:1<=K){p:List Sl}{root:Int}{R:List Int}{T:Tr}(hI:TI g p root R T)(hgT:g+T.mv<=Γ)(hl1:1<=leaf)(hl2:leaf<1000000){at':List Nat}{a b:Trs}{t:Tr}{piv:List B}{buf go stay:List Mg}{x:List Z0}
  (hat:At T at' (.node (a.app (.cons t b)) piv buf)) (hwb:wb Γ buf<20000000) (hready:z93 NN buf piv (a.len:Int)=some (go,(stay,x))) (hr:Rdy g Γ (rdL (z73 ([],[]) [] piv) (a.len:Int) Y7) buf go stay):
  ∃t' n e,zoy NN (p,(root,shp leaf fan bl)) (ints at') (a.len:Int)=some (t',(n,e))/\Did p root (shp leaf fan bl) R (fun T'=>∃g',Nxt Γ fan K g g' T T') t' e:=by
 have all:∀m:Mg,LiesIn ([],[]) m:=fun m x hx k hk=>by rw[Q8];cases k<;>rfl
 obtain⟨lo',hi',v1,_⟩:=At.vt hI.vt hat;have v0:=v1;simp only[VT]at v1;have hpl:=VTs.plen v1.1;obtain⟨_,_,hkl⟩:=VTs.piv v1.1;have hgb:∀m∈buf,GM g m:=fun m hm=>(v1.2 m hm).1;have R0:=hr.rd ([],[]) fun m hm=>⟨hgb m hm,all m⟩;have hfit:=At.fit hI.fit hat;obtain⟨nd,s,n1,n2⟩:=y7e (sh:=shp leaf fan bl) (show g<40000 by omega) hI.unf hI.vt (show at'.length<1000000000 by have:=hI.ht;omega) hat;obtain⟨kids,sums,rfl,u2,u3,u4⟩:=n2;have hkl':=u4.len;rw[Trs.kid_len]at hkl hkl';obtain⟨ki,ku,_,_⟩:=u4.at;obtain⟨g1,g2⟩:=ydf ku;have hgo:go.length<=wb Γ go:=zft (by omega) fun m hm=>(R0.gg m hm).1;have hst:stay.length<=wb Γ stay:=zft (by omega) fun m hm=>(R0.ss m hm).1;have hwg:=R0.wgt;have hmv1:=R0.mvq;have hne:eqi (go.length:Int) 0=false:=G6 (by have:=bI.2 hr.ne;omega);have hSmv:mvN go<=T.mv:=by grind[Tr.mv]
 simp only[zoy,n1,ac];rw[X5 (by rfl),X5 (by simp),X5 (by grind)];simp only[zmg];rw[gd_t (V7 (by omega) (by omega)),g1];simp only[ac];rw[X5 (by rfl),hready];simp only[ac];rw[X5 hne];cases t with
 | node ks2 piv2 buf2=>
  obtain⟨kids2,sums2,e2,w2,w3,w4⟩:=g2;have hk2:kids2.length≠0:=fun h=>w3 (cW.1 h);have hat2:At T (at'++[a.len]) (.node ks2 piv2 buf2):=At.push rfl rfl hat;have hb2:=hI.bl _ _ _ _ hat2;obtain⟨lo2,hi2,v2,_⟩:=At.vt hI.vt hat2;simp only[VT]at v2;have hpl2:=VTs.plen v2.1;obtain⟨_,_,hkl2⟩:=VTs.piv v2.1;have hkl2':=w4.len;rw[e2,W8 (by grind),gd_t (Y9 (by grind) (by omega)),ah,gd_t (Y9 (by grind) (by omega))];rw[X5 (by grind[w64,G6])];have hN:UnfN p (([]:List Pr),(piv2,(kids2,(sums2,buf2++go)))) (.node ks2 piv2 (buf2++go)):=⟨kids2,sums2,rfl,w2,w3,w4⟩;obtain⟨t',n,e,f1,f2⟩:=y8y hS (show g<=Γ by omega) (by omega) hI (sh:=shp leaf fan bl) hat u4 u2 (stay:=stay) (fun m hm=>((R0.ss m hm).1).mono (by omega)) (by omega) rfl (L:=[([],(piv2,(kids2,(sums2,buf2++go))))]) (c:= .cons (.node ks2 piv2 (buf2++go)) .nil) (pv:=[]) (by simp_all[UnfNs]) (by simp) (by simp[Trs.len]) (by simp) (fun nd hnd=>by
   simp only[bq]at hnd;subst hnd;refine⟨⟨⟨aX.nil,fun x h=>by cases h⟩,fun m hm=> ?_,by grind,by grind⟩,by grind⟩;rcases am.1 hm with hm | hm
   ·exact((v2.2 m hm).1).mono (by omega)
   ·exact((R0.gg m hm).1).mono (by omega)) (w:=(go,(stay,x)))
  refine⟨t',n,e,by grind,f2.imp fun T' hT=>⟨g, ?_⟩⟩;rw[aj,bV]at hT;exact(yuk (by omega) hr hgb).lift hI.vt hat hT hfit.2.2
 | leaf ps=>
  have e2:z74 (slA p (rdL kids (a.len:Int) 0))=z1x ps:=g2;obtain⟨pa,pb,l1,h1,ep,hk⟩:=Kid.of v1.1;have hps:Tb g ps:=by have:=hk.ht;grind[VT]
  have hall:=ys7 (ms:=go) (g:=g) (t:=ps) (by omega) (fun m hm=>(R0.gg m hm).1) hps (by omega);have hT2:Tb (g+mvN go) (apps go ps):=ykb hps fun m hm=>(R0.gg m hm).1;have hTl:=hT2.len;obtain⟨pieces,pv,q1,q2,q3,q4,q5,q6,q7⟩:=yte (nd:=(apps go ps,(([]:List B),(([]:List Int),(([]:List X0),([]:List Mg)))))) (sh:=shp leaf fan bl) (leaf:=leaf) rfl hl1 (by omega) (g:=g+mvN go) hT2 (by omega);have hreg:∀x∈apps go ps,hasB (([],[]):Sp) x.1=true:=fun x _=>by rw[Q8];cases x.1<;>rfl
  have hv0:=q3 [] [] hreg;obtain⟨_,_,hpv⟩:=VTs.piv hv0;rw[zb3]at hpv;have hpl3:pieces.length<=38100:=by
   by_cases he:apps go ps=[]
   ·grind
   ·have:=(q6 he).2;rw[this];exact aP (cB (cq _ leaf)) (by simp only;omega)
  have hp1:1<=pieces.length:=bI.2 q2;have hx5:((z1x ps).2.2.1.length:Int)=0:=rfl;rw[e2,X5 (by grind)];have hl1':(z1x ps).1=ps:=rfl;have hl2':((apps go ps,(z1x ps).2):Nd)=(apps go ps,(([]:List B),(([]:List Int),(([]:List X0),([]:List Mg))))):=rfl;simp only[hl1',hall,ac,hl2',q1,hx5];rw[w64 (by omega) (by omega)];have main:∀w,∃t' n e,z3i NN (ints at') (a.len:Int) (p,(root,shp leaf fan bl)) (([]:List Pr),(piv,(kids,(sums,stay)))) w (pieces.map z1x) pv []=some ((),((t',(n,e)),()))/\Did p root (shp leaf fan bl) R (fun T'=>∃g',Nxt Γ fan K g g' T T') t' e:=fun w=>by
   obtain⟨t',n,e,f1,f2⟩:=y8y hS (show g<=Γ by omega) (by omega) hI (sh:=shp leaf fan bl) hat u4 u2 (stay:=stay) (fun m hm=>((R0.ss m hm).1).mono (by omega)) (by omega) rfl (L:=pieces.map z1x) (c:=G7 pieces) (pv:=pv) (zsa p pieces) (fun h=>by grind[Trs.len,zb3]) (by grind[zb3]) (by omega) (fun nd hnd=>by
    obtain⟨q,hq,rfl⟩:=aH.1 hnd;exact⟨⟨(yk4 hv0 q hq).mono (by omega),fun m h=>(by cases h),by simp[z1x],by simp[z1x]⟩,by simp[z1x]⟩) (w:=w)
   exact⟨t',n,e,f1,f2.imp fun T' hT=>⟨g+mvN go,(yx1 (by omega) hK hr hgb q2 q4 q3 (fun h=>(q6 h).1) q7).lift hI.vt hat hT hfit.2.2⟩⟩
  by_cases he:apps go ps=[]
  ·rw[W8 (by simp_all)];by_cases hk2:1<kids.length
   ·rw[W8 (by grind),yp9 ki u2 (by omega) (by omega) (by omega)];simp only[ac];have hab:a≠ .nil\/b≠ .nil:=by
     by_cases h:a= .nil
     ·right;rintro rfl
      grind[Trs.len]
     grind
    obtain⟨_,_,ua,ub⟩:=u4.at;have hN:UnfN p (([]:List Pr),(piv.take (a.len-1)++piv.drop (a.len-1+1),(kids.take a.len++kids.drop (a.len+1),(sums.take a.len++sums.drop (a.len+1),stay)))) (.node (a.app b) (piv.take (a.len-1)++piv.drop (a.len-1+1)) stay):=by
     refine⟨_,_,rfl,by grind,fun e=> ?_,ua.app ub⟩
     grind
    obtain⟨e,t',t1,t2⟩:=yej hS (show g<=Γ by omega) (by omega) hI.unf hI.vt hI.fit hI.ht (fun r ks piv buf h=>aT (hI.bl r ks piv buf h) (by omega)) (R:=R) (by have:=hI.rl;omega) (sh:=shp leaf fan bl) hat hI.pi (L:=[_]) (c:= .cons _ .nil) (pv:=[]) (up:=[]) (by simp[UnfNs];omega) (by simp) (by simp[Trs.len]) (by simp) (fun nd hnd=>by
     simp only[bq]at hnd;subst hnd;exact⟨⟨⟨aX.nil,fun x h=>by cases h⟩,fun m hm=>((R0.ss m hm).1).mono (by omega),by grind,by grind⟩,by grind⟩) (fun m h=>by cases h) (by simp)
    rw[t1];simp only[ac,zdx];rcases t2 with⟨t2,rfl⟩ | ⟨rfl,q2',root',T',rfl,x2,x3,x4,x5⟩
    ·exact⟨_,_,_,by rw[W8 (by grind[G6])];rfl, .inl t2⟩
    ·exact⟨_,_,_,by constructor<;>grind, .inr ⟨rfl,q2',root',T',rfl,⟨g+mvN go,(yx0 (by omega) hr hgb hab).lift hI.vt hat x2 hfit.2.2⟩,x3,x4,x5⟩⟩
   ·rw[X5 (by grind)];obtain⟨t',n,e,f1,f2⟩:=main (go,(stay,x))
    grind
  ·have hpos2:1<=(apps go ps).length:=bI.2 he;rw[X5 (G6 (by omega))];obtain⟨t',n,e,f1,f2⟩:=main (go,(stay,x))
   grind
theorem yow(m:Mg):LiesIn ([],[]) m:=fun x hx k hk=>by rw[Q8];cases k<;>rfl
theorem yty{Γ g:Nat}(hg1:1<=g)(hgΓ:g<=Γ)(hg:g<40000){lo hi:B}{a b:Trs}{t:Tr}{piv:List B}{buf:List Mg}(hv:VTs g lo hi (a.app (.cons t b)) piv)(hm:∀m∈buf,GM g m)(hw:wb Γ buf<20000000):
  ∃go stay x,z93 NN buf piv (a.len:Int)=some (go,(stay,x))/\∀reg,(∀m∈buf,GM g m/\LiesIn reg m)->Rd g Γ reg (rdL (z73 ([],[]) [] piv) (a.len:Int) Y7) buf go stay:=by
 have hpl:=VTs.plen hv;obtain⟨pa,pb,lo',hi',e,hk⟩:=Kid.of hv;have hs:=hk.part.1;rw[<-e]at hs;have hin:inB (a.len:Int) (piv.length+1)=true:=V7 (by omega) (by have:=hk.la.1;grind);obtain⟨go,stay,x,h1,h2⟩:=yp3 (G:=Γ) hg1 hgΓ hg (reg:=([],[])) hs (by omega) hin rfl (fun m h=>⟨hm m h,yow m⟩) hw;refine⟨go,stay,x,h1,fun reg hr=> ?_⟩;obtain⟨go',stay',x',h1',h2'⟩:=yp3 (G:=Γ) hg1 hgΓ hg (reg:=reg) hs (by omega) hin rfl hr hw
 grind
def yrh(Γ g:Nat)(ks:Trs)(piv:List B)(buf:List Mg)(kid most:Int):Prop:=0<most->∃(a:Trs) (t:Tr) (b:Trs),ks=a.app (.cons t b)/\kid=(a.len:Int)/\∃go stay x,z93 NN buf piv (a.len:Int)=some (go,(stay,x))/\Rdy g Γ (rdL (z73 ([],[]) [] piv) (a.len:Int) Y7) buf go stay
theorem yk9{Γ g:Nat}(hg1:1<=g)(hgΓ:g<=Γ)(hg:g<40000){lo hi:B}{piv:List B}{buf:List Mg}{kids:List Int}{sums:List X0}(hm:∀m∈buf,GM g m)(hw:wb Γ buf<20000000)(hkl:kids.length<1000000000):
  ∀(b a:Trs) (n:Nat) (kid most:Int),VTs g lo hi (a.app b) piv->kids.length=a.len+b.len->b.len<n->yrh Γ g (a.app b) piv buf kid most->
   ∃kid' most',zcp NN n kid most (a.len:Int) (([]:List Pr),(piv,(kids,(sums,buf))))=some ((kid',most'),())/\yrh Γ g (a.app b) piv buf kid' most'
 | _,_,0,_,_,_,_,h,_=>absurd h (ae _)
 | .nil,a,n+1,kid,most,hv,hk,hn,hB=>by simp only[Trs.len]at hk;refine⟨kid,most, ?_,hB⟩;simp_all[z5h,zln]
 | .cons t b,a,n+1,kid,most,hv,hk,hn,hB=>by
  simp only[Trs.len]at hk hn;have e:a.app (.cons t b)=(a.app (.cons t .nil)).app b:=by rw[Trs.app_assoc];rfl
  have l:(a.app (.cons t .nil)).len=a.len+1:=by rw[Trs.app_len];rfl
  obtain⟨go,stay,x,h1,h2⟩:=yty hg1 hgΓ hg hv hm hw;have w:aa .i64 ((a.len:Int)+1)=(((a.app (.cons t .nil)).len:Nat):Int):=by grind[w64]
  rw[zln];simp only[z5h,h1,ac,w];rw[W8 (by grind)];by_cases hc:most<(go.length:Int)
  ·rw[W8 (by grind),e];refine yk9 hg1 hgΓ hg hm hw hkl b (a.app (.cons t .nil)) n _ _ (by simp_all;omega) (by omega) (by omega) ?_;rw[<-e];intro h0;exact⟨a,t,b,rfl,rfl,go,stay,x,h1,h2,fun h=>by grind⟩
  ·rw[X5 (by grind),e];exact yk9 hg1 hgΓ hg hm hw hkl b (a.app (.cons t .nil)) n _ _ (by simp_all;omega) (by omega) (by omega) (by grind)
theorem x1v{Γ g:Nat}(hg1:1<=g)(hgΓ:g<=Γ)(hg:g<40000){lo hi:B}{ks:Trs}{piv:List B}{buf:List Mg}{kids:List Int}{sums:List X0}(hm:∀m∈buf,GM g m)(hw:wb Γ buf<20000000)(hv:VTs g lo hi ks piv)(hk:kids.length=ks.len):
  ∃kid most,zso NN (([]:List Pr),(piv,(kids,(sums,buf))))=some (kid,most)/\yrh Γ g ks piv buf kid most:=by
 have hpl:=VTs.plen hv;obtain⟨_,_,hkl⟩:=VTs.piv hv;obtain⟨kid,most,h1,h2⟩:=yk9 (sums:=sums) hg1 hgΓ hg hm hw (show kids.length<1000000000 by omega) ks .nil NN 0 0 hv (by grind[Trs.len]) (by grind[W3]) (fun h=>absurd h (by decide));refine⟨kid,most, ?_,h2⟩;have h1':zcp NN NN 0 0 0 (([]:List Pr),(piv,(kids,(sums,buf))))=_:=h1
 grind[zso]
theorem ykc{G g:Nat}(hS:zn8 G)(hgG:g<=G)(hg:g<1900){p:List Sl}{root:Int}{R:List Int}{T:Tr}(hI:TI g p root R T){sh:Q4}{at':List Nat}
  {S:Tr} {L:List Nd} {c:Trs} {pv:List B} {up:List Mg} (hat:At T at' S) (hU:UnfNs p L c) (hc:c≠ .nil) (hcl:c.len<40000) (hpv:pv.length+1=c.len) (hok:∀nd∈L,NdOk G nd/\nd.2.2.1.length<=80000) (hup:∀m∈up,GM G m) (hupl:up.length<20000000):
  ∃t' e,zmy NN (p,(root,sh)) (ints at') (L,(pv,up))=some (t',e)/\Did p root sh R (fun T'=>Plug T at' c pv up T') t' e:=by
 have hLl:=hU.len;obtain⟨e,t',t1,t2⟩:=yej hS hgG hg hI.unf hI.vt hI.fit hI.ht (fun r ks piv buf h=>aT (hI.bl r ks piv buf h) (by omega)) (by have:=hI.rl;omega) (sh:=sh) (pv:=pv) (up:=up) hat hI.pi hU hc hcl (by omega) hok hup (by omega);have hD:Did p root sh R (fun T'=>Plug T at' c pv up T') t' e:=by
  rcases t2 with⟨t2,_⟩ | t2
  ·exact .inl t2
  ·exact .inr t2
 have hl:=(At.fit hI.fit hat).2.1;have hht:=hI.ht;refine⟨t',e, ?_,hD⟩;have w:aa .i64 ((L.length:Int)-1)=(pv.length:Int):=by grind[w64]
 simp only[zmy,w];rw[X5 (G6 (by omega)),X5 (by simp)];simp only[zrs];rcases cF at' with e0 | ⟨r,i,e0⟩
 ·subst e0;rw[X5 (by rfl),t1];rfl
 ·have e0:at'=r++[i]:=by grind
  subst e0;obtain⟨ks,piv,buf,a,b,k1,k2,k3⟩:=hat.snoc;obtain⟨nd,s,n1,n2⟩:=y7e (sh:=sh) (show g<40000 by omega) hI.unf hI.vt (show r.length<1000000000 by grind) k1;obtain⟨kids,sums,rfl,u2,u3,u4⟩:=n2;have hkl:=u4.len;rw[k2,Trs.kid_len]at hkl;have hrl:r.length<40000:=by grind
  have il:(ints (r++[i])).length=r.length+1:=by simp[z8y]
  have w2:aa .i64 (((ints (r++[i])).length:Int)-1)=(r.length:Int):=by grind[w64]
  have hcut:cut2 (ints (r++[i])) (0:Int) (r.length:Int)=ints r:=by simp[ints,ydn]
  have hrd:rdL (ints (r++[i])) (r.length:Int) (0:Int)=(i:Int):=y77;have hin:inB (r.length:Int) (ints (r++[i])).length=true:=V7 (by omega) (by omega);rw[W8 (by grind)];simp only[w2,hcut,n1,ac,hrd];rw[gd_t (by grind),X5 (by rfl),gd_t hin,X5 (by simp),gd_t hin,X5 (by grind),t1];rfl
theorem yt4{fl:List Pr->Nat}{fb:List Mg->Nat}(h0:fb []=0):∀(sz:List Nat) (ks:Trs) (piv:List B),sz.sum=ks.len->(zcf sz ks piv).fm fl fb=ks.fm fl fb
 | [],ks,_,h=>by have:ks= .nil:=Trs.len_zero (by grind);rw[this];rfl
 | s::ss,ks,piv,h=>by simp only[bU]at h;have hl:=(Trs.take_len s ks (by omega)).2;have ih:=yt4 (fl:=fl) h0 ss (ks.drop s) (piv.drop s) (by omega);have e:=Trs.app_fm (fl:=fl) (fb:=fb) (ks.take s) (ks.drop s);rw[Trs.take_drop]at e;simp only[zcf,Trs.fm,Tr.fm,h0,ih];omega
theorem ydp{fan:Nat}{f:Nat->Nat->List Mg->Nat}(h0:∀d n l,n<=fan->f d n l=0){d:Nat}:∀(sz:List Nat) (ks:Trs) (piv:List B),sz.sum=ks.len->(∀s∈sz,s<=fan)->(zcf sz ks piv).ms (fun _=>0) (fun d n _ l=>f d n l) d=ks.ms (fun _=>0) (fun d n _ l=>f d n l) (d+1)
 | [],ks,_,h,_=>by have:ks= .nil:=Trs.len_zero (by grind);rw[this];rfl
 | s::ss,ks,piv,h,hs=>by
  simp only[bU]at h;have hl:=Trs.take_len s ks (by omega);have ih:=ydp h0 (d:=d) ss (ks.drop s) (piv.drop s) (by omega) fun x hx=>hs x (by grind)
  grind[zcf,Trs.ms,Tr.ms,Trs.app_ms,Trs.take_drop]
theorem yws{Γ fan K g:Nat}{T T':Tr}{at':List Nat}{ps:List Pr}{pieces:List (List Pr)}{pv:List B}(hv:VT g [] [] T)(hat:At T at' (.leaf ps))(hp:Plug T at' (G7 pieces) pv [] T')(hfl:pieces.flatten=ps)(h1:∀p∈pieces,1<=p.length)(h2:2<=pieces.length)
  (hv2:∀lo hi,(∀x∈ps,hasB (lo,hi) x.1=true)->VTs g lo hi (G7 pieces) pv):Nxt Γ fan K g g T T':=by
 have z1:mvN ([]:List Mg)=0:=rfl;have z2:wb Γ ([]:List Mg)=0:=rfl;have z3:ptN ([]:List Mg)=0:=rfl;have f1:=Plug.flat (fl:=fun _=>0) (fb:=mvN) rfl ze0 hat hp;have f2:=Plug.flat (fl:=fun _=>0) (fb:=wb Γ) rfl (zcd Γ) hat hp;have f3:=Plug.flat (fl:=fun ps=>ps.length-1) (fb:=fun l=>2*ptN l) rfl (fun a b=>by grind[zno]) hat hp;rw[(y4n (fb:=mvN) pieces).1]at f1;rw[(y4n (fb:=wb Γ) pieces).1]at f2;have hlv:=y7v (fb:=fun l=>2*ptN l) h1;rw[hfl]at hlv;simp only[Tr.fm,z1,z2,z3]at f1 f2 f3;rw[<-Tr.mv_fm,<-Tr.mv_fm]at f1;have hmv:T'.mv=T.mv:=by omega
 refine⟨ai g, ?_, .inr ⟨hmv, .inl ?_⟩, ?_,by omega,fun b=>by grind⟩
 ·exact Plug.vt (ai g) hv hp hat fun lo hi h=>⟨hv2 lo hi (by grind[VT]),fun m hm=>by grind⟩
 all_goals grind[Tr.pa,Tr.bw]
theorem yuc{Γ fan K g:Nat}(hf:2<=fan){T T':Tr}{at':List Nat}{ks:Trs}{piv pv:List B}{buf:List Mg}{sz:List Nat}(hv:VT g [] [] T)(hat:At T at' (.node ks piv buf))(hp:Plug T at' (zcf sz ks piv) pv buf T')(hs:sz.sum=ks.len)(h1:∀s∈sz,1<=s/\s<=fan)(h2:sz.length=(ks.len-1)/fan+1)(hov:fan<ks.len)
  (hv2:∀g lo hi,VTs g lo hi ks piv->VTs g lo hi (zcf sz ks piv) pv):Nxt Γ fan K g g T T':=by
 have z1:mvN ([]:List Mg)=0:=rfl;have z2:wb Γ ([]:List Mg)=0:=rfl;have f1:=Plug.flat (fl:=fun _=>0) (fb:=mvN) rfl ze0 hat hp;have f2:=Plug.flat (fl:=fun _=>0) (fb:=wb Γ) rfl (zcd Γ) hat hp;have f3:=Plug.flat (fl:=fun ps=>ps.length-1) (fb:=fun l=>2*ptN l) rfl (fun a b=>by grind[zno]) hat hp;rw[yt4 rfl sz ks piv hs]at f1 f2 f3;simp only[Tr.fm]at f1 f2 f3;rw[<-Tr.mv_fm,<-Tr.mv_fm]at f1;have hmv:T'.mv=T.mv:=by omega
 obtain⟨q,hq⟩:∃q,(ks.len-1)/fan=q:=⟨_,rfl⟩;have hq1:q*fan<=ks.len-1:=by rw[<-hq];simp[Nat.div_mul_le_self]
 have hq0:1<=q:=by rw[<-hq];exact(dP (by omega)).2 (by omega)
 rw[hq]at h2;have hq2:(q-1)*fan=q*fan-fan:=by simp[Nat.sub_mul]
 have hq3:q-1<=(q-1)*fan:=Nat.le_mul_of_pos_right _ (by omega);have hq4:2*q<=q*fan:=by rw[Nat.mul_comm];exact aY q hf
 have hcl:(zcf sz ks piv).len=q+1:=by grind[y89]
 refine⟨ai g, ?_, .inr ⟨hmv, .inr ⟨by grind[Tr.pa], ?_⟩⟩, ?_,by omega,fun b=>by grind⟩
 ·exact Plug.vt (ai g) hv hp hat fun lo hi h=>by grind[VT]
 ·rcases cF at' with e0 | ⟨r,i,e0⟩
  ·subst e0;simp only[At]at hat;subst hat;have hp:(zcf sz ks piv= .cons T' .nil/\buf=[])\/((1<(zcf sz ks piv).len\/buf≠[])/\T'= .node (zcf sz ks piv) pv buf):=hp;rcases hp with⟨e,_⟩ | ⟨_,rfl⟩
   ·grind[Trs.len]
   ·left;have c1:=ydp (fan:=fan) (f:=fun _ n _=>n-fan) (fun d n l h=>by omega) (d:=1) sz ks piv hs fun s h=>(h1 s h).2;have c2:=x36 (fl:=fun _=>0) (f:=fun n _=>n-fan) ks (1+1) 1;simp[Tr.ov,Tr.ms];omega
  ·have e0:at'=r++[i]:=by grind
   subst e0;obtain⟨ks0,piv0,buf0,a,b,k1,k2,k3⟩:=hat.snoc;rw[<-k3]at hp;have p1:=Plug.pieces (fl:=fun _=>0) (f:=fun _ n _=>n-fan) k2 (d:=0) k1 hp;have p2:=Plug.pieces (fl:=fun _=>0) (f:=fun d n _=>(d+1)*(n-fan)) k2 (d:=0) k1 hp;have hkl:ks0.len=a.len+1+b.len:=by grind[Trs.kid_len]
   have c1:=ydp (fan:=fan) (f:=fun _ n _=>n-fan) (fun d n l h=>by omega) (d:=0+r.length+1) sz ks piv hs fun s h=>(h1 s h).2;have c2:=ydp (fan:=fan) (f:=fun d n _=>(d+1)*(n-fan)) (fun d n l h=>by grind) (d:=0+r.length+1) sz ks piv hs fun s h=>(h1 s h).2;simp only[Tr.ms]at p1 p2;simp only at c1 c2;rw[c1,hkl,hcl]at p1;rw[c2,hkl,hcl]at p2;have b1:T'.ov fan<=T.ov fan:=by grind[Tr.ov]
   refine .inr ⟨b1, .inl ?_⟩;unfold Tr.dv;have hgrow:a.len+(q+1)+b.len-fan<=(a.len+1+b.len-fan)+(ks.len-fan):=by omega
   have m1:=aY (0+r.length+1) hgrow
   grind
 grind[Tr.bw]
theorem yog{Γ:Nat}:∀(sz:List Nat) (kids:List Int) (sums:List X0) (piv:List B),kids.length<=80000->sums.length<=80000->∀nd∈y4u sz kids sums piv,NdOk Γ nd/\nd.2.2.1.length<=80000
 | [],_,_,_,_,_,_,h=>by cases h
 | s::ss,kids,sums,piv,h1,h2,nd,h=>by
  rcases ar.1 h with rfl | h
  ·exact⟨⟨⟨aX.nil,fun x h=>by cases h⟩,fun m h=>(by cases h),by simp,by simp only[cC];omega⟩,by simp only[cC];omega⟩
  ·exact yog ss _ _ _ (by rw[cD];omega) (by rw[cD];omega) nd h
theorem At.bw{Γ:Nat}{ks:Trs}{piv:List B}{buf:List Mg}:∀{r:List Nat} {T:Tr},At T r (.node ks piv buf)->wb Γ buf<=T.bw Γ
 | [],T,h=>by grind[At,Tr.bw,Tr.fm]
 | j::r, .leaf _,h=>by grind[At]
 | j::r, .node ks' piv' buf',h=>by
  simp only[At]at h;obtain⟨a,t,b,rfl,h2,h3⟩:=h;have:=At.bw (Γ:=Γ) h3
  grind[Tr.bw,Tr.fm,Trs.fm,Trs.app_fm]
theorem At.leaf_len{g:Nat}{T:Tr}{ps:List Pr}{r:List Nat}(hv:VT g [] [] T)(h:At T r (.leaf ps)):Tb g ps:=by grind[VT,At.vt]
theorem x29{Γ K g leaf fan bl:Nat}(hS:zn8 Γ)(hΓ:Γ<1900)(hK:20*(Γ+1)+2*(5+48*(Γ+1))<=K)(hg1:1<=g){p:List Sl}{root:Int}{R:List Int}{T:Tr}(hI:TI g p root R T)(hgT:g+T.mv<=Γ)(hbw:T.bw Γ<20000000)
  (hl1:1<=leaf) (hl2:leaf<1000000) (hf1:2<=fan) (hf2:fan<1000000) {at':List Nat} {S:Tr} (hat:At T at' S) (ho:ypt leaf fan bl S):
  ∃t' e,zsp NN (p,(root,shp leaf fan bl)) (ints at')=some (t',e)/\Did p root (shp leaf fan bl) R (fun T'=>∃g',Nxt Γ fan K g g' T T') t' e:=by
 have hfit:=At.fit hI.fit hat;have hht:=hI.ht;obtain⟨nd,s,n1,n2⟩:=y7e (sh:=shp leaf fan bl) (show g<40000 by omega) hI.unf hI.vt (show at'.length<1000000000 by omega) hat;simp only[zsp,n1,ac];rw[X5 (by rfl)];cases S with
 | leaf ps=>
  have hps:=At.leaf_len hI.vt hat;have hpl:=hps.len;have e0:nd=z1x ps:=n2;subst e0;have ho:leaf<ps.length:=ho;obtain⟨pieces,pv,q1,q2,q3,q4,q5,q6,q7⟩:=yte (nd:=z1x ps) (sh:=shp leaf fan bl) (leaf:=leaf) rfl hl1 (by omega) (g:=g) hps (by omega);have hne:ps≠[]:=fun h=>by rw[h]at ho;simp at ho
  obtain⟨q6a,q6b⟩:=q6 hne;have hreg:∀x∈ps,hasB (([],[]):Sp) x.1=true:=fun x _=>by rw[Q8];cases x.1<;>rfl
  have hv0:=q3 [] [] hreg;obtain⟨_,_,hpv⟩:=VTs.piv hv0;have hp2:2<=pieces.length:=by rw[q6b];have:1<=(ps.length-1)/leaf:=(dP (by omega)).2 (by omega);exact cB this
  have hp3:pieces.length<=38100:=by rw[q6b];exact aP (cB (cq _ leaf)) (by simp only[z1x];omega)
  obtain⟨t',e,t1,t2⟩:=ykc hS (show g<=Γ by omega) (by omega) hI (sh:=shp leaf fan bl) hat (zsa p pieces) (fun h=>by have:=zb3 pieces;rw[h]at this;simp[Trs.len]at this;omega) (by rw[zb3];omega) hpv.symm (fun nd hnd=>by
   obtain⟨q,hq,rfl⟩:=aH.1 hnd;exact⟨⟨(yk4 hv0 q hq).mono (by omega),fun m h=>(by cases h),by simp[z1x],by simp[z1x]⟩,by simp[z1x]⟩) (up:=[]) (fun m h=>by cases h) (by simp)
  rw[W8 (by simp[z1x,shp];omega),q1];simp only[ac,t1];exact⟨t',e,rfl,t2.imp fun T' hT=>⟨g,yws hI.vt hat hT q4 q6a hp2 q3⟩⟩
 | node ks piv buf=>
  obtain⟨kids,sums,rfl,u2,u3,u4⟩:=n2;obtain⟨lo',hi',v1,_⟩:=At.vt hI.vt hat;have v0:=v1;simp only[VT]at v1;have hpl:=VTs.plen v1.1;obtain⟨_,_,hkl⟩:=VTs.piv v1.1;have hkl':=u4.len;have hgb:∀m∈buf,GM g m:=fun m hm=>(v1.2 m hm).1;have hwb:=At.bw (Γ:=Γ) hat;have hbl:=zft (show g<=Γ by omega) hgb;rw[X5 (decide_eq_false (by show ¬((leaf:Int)<0);omega))];by_cases hfan:fan<ks.len
  ·obtain⟨sz,L,pv,s1,s2,s3,s4,s5,s6,rfl⟩:=yy3 (p:=p) (piv:=piv) (kids:=kids) (sums:=sums) (buf:=buf) (sh:=shp leaf fan bl) (fan:=fan) rfl (by omega) (by omega) u2 u4 v1.1 (by omega);have hv0:=s3 g lo' hi' v1.1;obtain⟨_,_,hpv⟩:=VTs.piv hv0;have hsl:sz.length<=ks.len:=by
    rw[s6];exact aP (cB (cq _ fan)) (by omega)
   have hs0:sz.length≠0:=by rw[s6];exact Nat.succ_ne_zero _
   have hcl:=y89 sz ks piv;obtain⟨t',e,t1,t2⟩:=ykc hS (show g<=Γ by omega) (by omega) hI (sh:=shp leaf fan bl) hat s2 (fun h=>by rw[h]at hcl;simp[Trs.len]at hcl;omega) (by omega) hpv.symm (yog sz kids sums piv (by omega) (by omega)) (up:=buf) (fun m hm=>(hgb m hm).mono (by omega)) (by omega);rw[W8 (by simp[shp];omega),s1];simp only[ac,t1];exact⟨t',e,rfl,t2.imp fun T' hT=>⟨g,yuc hf1 hI.vt hat hT s4 s5 s6 hfan s3⟩⟩
  ·rw[X5 (by simp[shp];omega)];have hbu:bl<buf.length:=ho.resolve_left hfan;obtain⟨kid,most,b1,b2⟩:=x1v (sums:=sums) (kids:=kids) hg1 (show g<=Γ by omega) (by omega) hgb (by omega) v1.1 hkl';rw[X5 (G6 (by simp only;omega)),b1];simp only[ac];by_cases hmost:0<most
   ·obtain⟨a,t,b,hks,rfl,go,stay,x,r1,r2⟩:=b2 hmost;subst hks;obtain⟨t',n,e,f1,f2⟩:=yy4 (K:=K) (fan:=fan) (bl:=bl) hS hΓ (by omega) hI hgT hl1 hl2 hat (by omega) r1 r2;rw[W8 (by simpa using hmost),f1];exact⟨t',e,rfl,f2⟩
   ·rw[X5 (by simpa using hmost)];cases buf with
    | nil=>simp at hbu
    | cons m0 rest=>
     have hfs:FitTs ks:=by have:=hfit.1;simp only[FitT]at this;exact this.2
     have hmv:(Tr.node ks piv (m0::rest)).mv<=T.mv:=hfit.2.2;have hmv2:ks.mv<=T.mv:=by simp only[Tr.mv]at hmv;omega
     have hhs:ks.ht<40000:=by have:=hfit.2.1;simp only[Tr.ht]at this;omega
     simp only[ag]at hbl;have tk:=fun lo hi (hv:VT g lo hi (.node ks piv (m0::rest)))=>by simp only[VT]at hv;exact ytn (p:=p) (root:=root) (sh:=shp leaf fan bl) (kids:=kids) (sums:=sums) (Γ:=Γ) hg1 (by omega) u4 hv.1 hfs (by have:=W3;omega) hv.2 (by omega)
     obtain⟨nd',e,t1,t2⟩:=tk lo' hi' v0;rw[t1];simp only[ac];rcases t2 with t2 | ⟨rfl,new,rfl,w1,w2,w3,w4⟩
     ·exact⟨_,_,by rw[W8 (by simp only[G6 t2];rfl)], .inl t2⟩
     ·have hnl:=zft (G:=Γ) (show g+ks.mv+1<=Γ by
       have e1:mvN (m0::rest)=mvs m0+mvN rest:=by simp[mvN]
       simp only[Tr.mv]at hmv;omega) fun m hm=>(w1 m hm).1
      have hgg:g+ks.mv+1<=Γ:=by
       have e1:mvN (m0::rest)=mvs m0+mvN rest:=by simp[mvN]
       simp only[Tr.mv]at hmv;omega
      have hN:UnfN p (([]:List Pr),(piv,(kids,(sums,new++rest)))) (.node ks piv (new++rest)):=⟨kids,sums,rfl,u2,u3,u4⟩;obtain⟨t',e,y1,y2⟩:=ykc hS (show g<=Γ by omega) (by omega) hI (sh:=shp leaf fan bl) hat (L:=[_]) (c:= .cons _ .nil) (pv:=[]) (up:=[]) (by simp only[UnfNs];exact⟨hN,trivial⟩) (by simp) (by simp[Trs.len]) rfl (fun nd hnd=>by
       simp only[bq]at hnd;subst hnd;refine⟨⟨⟨aX.nil,fun x h=>by cases h⟩,fun m hm=> ?_,by simp only[aq];omega,by simp only;omega⟩,by simp only;omega⟩;rcases am.1 hm with hm | hm
       ·exact((w1 m hm).1).mono (by omega)
       ·exact(hgb m (by simp[hm])).mono (by omega)) (fun m h=>by cases h) (by simp)
      rw[X5 (by rfl),y1];refine⟨t',e,rfl,y2.imp fun T' hT=>⟨g+ks.mv+1,(ywz (fun m hm=>(w1 m hm).1) (fun lo hi hv m hm=> ?_) w2 w3 (by omega)).lift hI.vt hat hT hmv⟩⟩;obtain⟨nd2,e2,t1',t2'⟩:=tk lo hi hv;rw[t1]at t1';injection t1' with t1';injection t1' with ea eb;rcases t2' with t2' | ⟨_,new',h1,h2,_⟩
      ·exact absurd eb.symm t2'
      ·rw[h1]at ea;injection ea with _ ea;injection ea with _ ea;injection ea with _ ea;injection ea with _ ea;have:=List.append_cancel_right ea;rw[this]at hm;exact(h2 m hm).2
mutual
theorem yf9{p:List Sl}{r:Int->Nat}(hr:∀i,W5 p i=true->∀k∈z1m (slA p i),r k<r i):∀{T:Tr} {i:Int},Unf p i T->∃l:List Int,l.length=T.ht+1/\(∀x∈l,W5 p x=true/\r x<=r i)/\l.Pairwise (fun x y=>r y<r x)
 | .leaf ps,i,h=>by simp only[Unf]at h;exact⟨[i],rfl,fun x hx=>(by simp at hx;subst hx;exact⟨h.1,ai _⟩),List.pairwise_singleton _ _⟩
 | .node ks piv buf,i,h=>by
  simp only[Unf]at h;obtain⟨h1,h2,kids,sums,h3,h4,h5,h6⟩:=h;obtain⟨k,hk,l,l1,l2,l3⟩:=yio hr h5 h6;have hlt:r k<r i:=hr i h1 k (by rw[zn3,h3];exact hk);refine⟨i::l,by simp only[ag,Tr.ht,l1],fun x hx=> ?_,aD.2 ⟨fun y hy=>bE (l2 y hy).2 hlt,l3⟩⟩;rcases ar.1 hx with rfl | hx
  ·exact⟨h1,ai _⟩
  ·exact⟨(l2 x hx).1,Nat.le_of_lt (bE (l2 x hx).2 hlt)⟩
theorem yio{p:List Sl}{r:Int->Nat}(hr:∀i,W5 p i=true->∀k∈z1m (slA p i),r k<r i):∀{ks:Trs} {kids:List Int},kids≠[]->UnfL p kids ks->∃k∈kids,∃l:List Int,l.length=ks.ht+1/\(∀x∈l,W5 p x=true/\r x<=r k)/\l.Pairwise (fun x y=>r y<r x)
 | .nil,[],h,_=>(h rfl).elim
 | .nil,_::_,_,h=>by simp[UnfL]at h
 | .cons _ _,[],_,h=>by simp[UnfL]at h
 | .cons t .nil,k::kids,_,h=>by simp only[UnfL]at h;obtain⟨l,l1,l2⟩:=yf9 hr h.1;exact⟨k,by simp,l,by simp only[Trs.ht];omega,l2⟩
 | .cons t (.cons u us),k::[],_,h=>by simp[UnfL]at h
 | .cons t (.cons u us),k::k'::kids,_,h=>by
  simp only[UnfL]at h;obtain⟨l,l1,l2⟩:=yf9 hr h.1;obtain⟨k2,hk2,l',l1',l2'⟩:=yio (ks:= .cons u us) (kids:=k'::kids) hr (by simp) (by simp only[UnfL];exact h.2);rcases Nat.le_total t.ht (Trs.cons u us).ht with hle | hle
  ·refine⟨k2,by simp only[ar]at hk2|-;exact .inr hk2,l', ?_,l2'⟩;rw[l1'];show _=max t.ht (Trs.cons u us).ht+1;omega
  ·refine⟨k,by simp,l, ?_,l2⟩;rw[l1];show _=max t.ht (Trs.cons u us).ht+1;omega
end
theorem PI.height{p:List Sl}{L:List Int}(h:PI p L){i:Int}{T:Tr}(hu:Unf p i T):T.ht<4096:=by
 obtain⟨r,hr⟩:=h.bal.rank;obtain⟨l,l1,l2,l3⟩:=yf9 hr hu;have hn:l.Nodup:=l3.imp fun {x y} h e=>by grind
 have:=zka (L:=(bF p.length).map fun n:Nat=>(n:Int)) hn fun x hx=>by obtain⟨a,b,_⟩:=U8.1 (l2 x hx).1;exact aH.2 ⟨x.toNat,List.mem_range.2 (by omega),by omega⟩
 simp only[ci,List.length_range]at this;have:=h.len;omega
def Tr.lv(T:Tr):Nat:=T.fm (fun _=>1) (fun _=>0)
def Trs.lv(T:Trs):Nat:=T.fm (fun _=>1) (fun _=>0)
mutual
theorem VT.lv{g:Nat}:∀{T:Tr} {lo hi:B},VT g lo hi T->lo∈UU g->(hi=[]\/lts lo hi=true)->T.lv<=wt g (hasB (lo,hi))
 | .leaf ps,lo,hi,_,h1,h2=>ykf (a:=lo) h1 (zy6 (full_iff.2 h2))
 | .node ks piv buf,lo,hi,h,h1,h2=>by simp only[VT]at h;have:=VTs.lv h.1 h1 h2;simp only[Tr.lv,Trs.lv,Tr.fm]at this|-;omega
theorem VTs.lv{g:Nat}:∀{ks:Trs} {piv:List B} {lo hi:B},VTs g lo hi ks piv->lo∈UU g->(hi=[]\/lts lo hi=true)->ks.lv<=wt g (hasB (lo,hi))
 | .nil,_,_,_,h,_,_=>(VTs.ne h).elim
 | .cons t .nil,[],lo,hi,h,h1,h2=>by simp only[VTs]at h;have:=VT.lv h h1 h2;simp only[Tr.lv,Trs.lv,Trs.fm]at this|-;omega
 | .cons t .nil,_::_,_,_,h,_,_=>by simp[VTs]at h
 | .cons t (.cons u us),[],_,_,h,_,_=>by simp[VTs]at h
 | .cons t (.cons u us),q::piv,lo,hi,h,h1,h2=>by
  simp only[VTs]at h;obtain⟨a,b,c,d,e⟩:=h;have i1:=VT.lv d h1 (.inr b);have hq:hi=[]\/lts q hi=true:=by simp only[K1,aA]at c;exact c.imp (fun h=>y6.1 h) id
  have i2:=VTs.lv e (UU.of a) hq;have s:=yea (g:=g) (hasB (lo,hi)) (hasB (lo,q));have m1:wt g (hasB (lo,q))<=wt g (fun a=>hasB (lo,hi) a&&hasB (lo,q) a):=zqn fun x hx=>by
   have h3:hasB (lo,hi) x=true:=by
    rw[Q8]at hx|-;simp only[ab,au]at hx|-;refine⟨hx.1, ?_⟩;have h5:=hx.2;simp only[K1,aA]at h5;rcases h5 with h5 | h5
    ·exact absurd (y6.1 h5) (KU.ne a)
    ·exact zij h5 c
   rw[h3,hx];rfl
  have m2:wt g (hasB (q,hi))<=wt g (fun a=>hasB (lo,hi) a&& !(hasB (lo,q) a)):=zqn fun x hx=>by
   rw[Q8]at hx;simp only[ab,au]at hx;have h3:hasB (lo,hi) x=true:=by rw[Q8];simp only[ab,au];exact⟨y4o (z3h b) hx.1,hx.2⟩
   have h4:hasB (lo,q) x=false:=by rw[Q8];simp only[K1,hx.1,Bool.or_false];rw[zn4 (KU.ne a),Bool.and_false]
   rw[h3,h4];rfl
  simp only[Tr.lv,Trs.lv,Trs.fm]at i1 i2|-;omega
end
mutual
theorem Tr.lv_pos:∀{g:Nat} {lo hi:B} {T:Tr},VT g lo hi T->1<=T.lv
 | _,_,_, .leaf _,_=>ai 1
 | g,lo,hi, .node ks piv buf,h=>by simp only[VT]at h;have:=Trs.lv_len h.1;obtain⟨_,_,hl⟩:=VTs.piv h.1;simp only[Tr.lv,Trs.lv,Tr.fm]at this|-;omega
theorem Trs.lv_len:∀{g:Nat} {lo hi:B} {ks:Trs} {piv:List B},VTs g lo hi ks piv->ks.len<=ks.lv
 | _,_,_, .nil,_,h=>(VTs.ne h).elim
 | _,_,_, .cons t .nil,[],h=>by simp only[VTs]at h;have:=Tr.lv_pos h;simp only[Tr.lv,Trs.lv,Trs.fm,Trs.len]at this|-;omega
 | _,_,_, .cons t .nil,_::_,h=>by simp[VTs]at h
 | _,_,_, .cons t (.cons u us),[],h=>by simp[VTs]at h
 | _,_,_, .cons t (.cons u us),q::piv,h=>by simp only[VTs]at h;have i1:=Tr.lv_pos h.2.2.2.1;have i2:=Trs.lv_len h.2.2.2.2;simp only[Tr.lv,Trs.lv,Trs.fm,Trs.len]at i1 i2|-;omega
end
mutual
def Tr.sl:Tr->Nat
 | .leaf _=>0
 | .node ks _ _=>ks.len+ks.sl
def Trs.sl:Trs->Nat
 | .nil=>0
 | .cons t ts=>t.sl+ts.sl
end
mutual
theorem Tr.sl_le:∀{g:Nat} {lo hi:B} {T:Tr},VT g lo hi T->T.sl<=T.lv*T.ht
 | _,_,_, .leaf _,_=>aZ _
 | g,lo,hi, .node ks piv buf,h=>by
  simp only[VT]at h;have i1:=Trs.lv_len h.1;have i2:=Trs.sl_le h.1;have e:(Tr.node ks piv buf).lv=ks.lv:=by simp only[Tr.lv,Trs.lv,Tr.fm];omega
  rw[e];simp only[Tr.sl,Tr.ht,Nat.mul_succ];omega
theorem Trs.sl_le:∀{g:Nat} {lo hi:B} {ks:Trs} {piv:List B},VTs g lo hi ks piv->ks.sl<=ks.lv*ks.ht
 | _,_,_, .nil,_,h=>(VTs.ne h).elim
 | _,_,_, .cons t .nil,[],h=>by
  simp only[VTs]at h;have i:=Tr.sl_le h;have e:(Trs.cons t .nil).lv=t.lv:=by simp only[Tr.lv,Trs.lv,Trs.fm];omega
  have e2:(Trs.cons t .nil).ht=t.ht:=by simp only[Trs.ht];omega
  rw[e,e2];simp only[Trs.sl];omega
 | _,_,_, .cons t .nil,_::_,h=>by simp[VTs]at h
 | _,_,_, .cons t (.cons u us),[],h=>by simp[VTs]at h
 | _,_,_, .cons t (.cons u us),q::piv,h=>by
  simp only[VTs]at h;have i1:=Tr.sl_le h.2.2.2.1;have i2:=Trs.sl_le h.2.2.2.2;generalize Trs.cons u us=ts at i2;have e:(Trs.cons t ts).lv=t.lv+ts.lv:=by simp only[Tr.lv,Trs.lv,Trs.fm]
  have e2:(Trs.cons t ts).ht=max t.ht ts.ht:=by simp only[Trs.ht]
  rw[e,e2,cy];have j1:=aY t.lv (eB t.ht ts.ht);have j2:=aY ts.lv (ej t.ht ts.ht);simp only[Trs.sl];omega
end
mutual
theorem Tr.ov_le(fan:Nat):∀(T:Tr) (d:Nat),T.ms (fun _=>0) (fun _ n _ _=>n-fan) d<=T.sl
 | .leaf _,_=>ai _
 | .node ks _ _,d=>by have:=Trs.ov_le fan ks (d+1);simp only[Tr.ms,Tr.sl];omega
theorem Trs.ov_le(fan:Nat):∀(T:Trs) (d:Nat),T.ms (fun _=>0) (fun _ n _ _=>n-fan) d<=T.sl
 | .nil,_=>ai _
 | .cons t ts,d=>by have:=Tr.ov_le fan t d;have:=Trs.ov_le fan ts d;simp only[Trs.ms,Trs.sl];omega
end
mutual
theorem Tr.dv_le(fan:Nat):∀(T:Tr) (d:Nat),T.ms (fun _=>0) (fun d n _ _=>(d+1)*(n-fan)) d<=(d+T.ht)*T.sl
 | .leaf _,_=>aZ _
 | .node ks _ _,d=>by have i:=Trs.dv_le fan ks (d+1);have j:(d+1)*(ks.len-fan)<=(d+(ks.ht+1))*ks.len:=co (by omega) (by omega);simp only[Tr.ms,Tr.sl,Tr.ht,eD];rw[show d+1+ks.ht=d+(ks.ht+1) by omega]at i;omega
theorem Trs.dv_le(fan:Nat):∀(T:Trs) (d:Nat),T.ms (fun _=>0) (fun d n _ _=>(d+1)*(n-fan)) d<=(d+T.ht)*T.sl
 | .nil,_=>aZ _
 | .cons t ts,d=>by have i1:=Tr.dv_le fan t d;have i2:=Trs.dv_le fan ts d;have j1:=bn t.sl (show d+t.ht<=d+max t.ht ts.ht by omega);have j2:=bn ts.sl (show d+ts.ht<=d+max t.ht ts.ht by omega);simp only[Trs.ms,Trs.sl,Trs.ht,eD];omega
end
mutual
theorem Tr.en_le(Γ:Nat):∀(T:Tr) (d:Nat),T.ms (fun _=>0) (fun _ _ h l=>wb Γ l*(h+1)) d<=T.fm (fun _=>0) (wb Γ)*T.ht
 | .leaf _,_=>aZ _
 | .node ks _ buf,d=>by have i:=Trs.en_le Γ ks (d+1);have j:=aY (ks.fm (fun _=>0) (wb Γ)) (Nat.le_succ ks.ht);simp only[Tr.ms,Tr.fm,Tr.ht,cy];simp only[Nat.succ_eq_add_one]at j;omega
theorem Trs.en_le(Γ:Nat):∀(T:Trs) (d:Nat),T.ms (fun _=>0) (fun _ _ h l=>wb Γ l*(h+1)) d<=T.fm (fun _=>0) (wb Γ)*T.ht
 | .nil,_=>aZ _
 | .cons t ts,d=>by have i1:=Tr.en_le Γ t d;have i2:=Trs.en_le Γ ts d;have j1:=aY (t.fm (fun _=>0) (wb Γ)) (eB t.ht ts.ht);have j2:=aY (ts.fm (fun _=>0) (wb Γ)) (ej t.ht ts.ht);simp only[Trs.ms,Trs.fm,Trs.ht,cy];omega
end
theorem x2q{g Γ:Nat}(h:g<=Γ):∀{l:List Mg},(∀m∈l,GM g m)->ptN l<=wb Γ l
 | [],_=>ai _
 | m::l,hl=>by
  have i:=x2q h (l:=l) fun x hx=>hl x (by simp[hx]);have e2:ptN (m::l)=pts m+ptN l:=by simp[ptN]
  have:=yr3 h (hl m (by simp));have:pts m<=1:=by unfold pts;split<;>omega
  rw[e2,zxh];omega
mutual
theorem Tr.pa_le{g Γ:Nat}(hg:g<=Γ):∀{T:Tr} {lo hi:B},VT g lo hi T->T.pa<=T.lv*(20*(g+1))+2*T.bw Γ
 | .leaf ps,_,_,h=>by simp only[VT]at h;have:=h.1.len;simp only[Tr.pa,Tr.lv,Tr.bw,Tr.fm];omega
 | .node ks piv buf,_,_,h=>by simp only[VT]at h;have i:=Trs.pa_le hg h.1;have j:=x2q hg fun m hm=>(h.2 m hm).1;simp only[Tr.pa,Tr.lv,Tr.bw,Tr.fm,Trs.lv,bk]at i|-;omega
theorem Trs.pa_le{g Γ:Nat}(hg:g<=Γ):∀{ks:Trs} {piv:List B} {lo hi:B},VTs g lo hi ks piv->ks.fm (fun ps=>ps.length-1) (fun l=>2*ptN l)<=ks.lv*(20*(g+1))+2*ks.fm (fun _=>0) (wb Γ)
 | .nil,_,_,_,h=>(VTs.ne h).elim
 | .cons t .nil,[],_,_,h=>by simp only[VTs]at h;have i:=Tr.pa_le hg h;simp only[Tr.pa,Tr.lv,Tr.bw,Trs.lv,Trs.fm,bD]at i|-;omega
 | .cons t .nil,_::_,_,_,h=>by simp[VTs]at h
 | .cons t (.cons u us),[],_,_,h=>by simp[VTs]at h
 | .cons t (.cons u us),q::piv,_,_,h=>by simp only[VTs]at h;have i1:=Tr.pa_le hg h.2.2.2.1;have i2:=Trs.pa_le hg h.2.2.2.2;generalize Trs.cons u us=ts at i2;simp only[Tr.pa,Tr.lv,Tr.bw,Trs.lv,Trs.fm,cy]at i1 i2|-;omega
end
def mu(Γ fan:Nat)(T:Tr):Nat:=T.mv*10000000000000000000000000000000000000000000000000000+T.pa*1000000000000000000000000000000000000000+T.ov fan*100000000000000000000000000+T.dv fan 0*10000000000000+T.en Γ
structure Small (Γ fan:Nat) (T:Tr):Prop where
 a:T.mv<10000
 b:T.pa<10000000000000
 c:T.ov fan<10000000000000
 d:T.dv fan 0<10000000000000
 e:T.en Γ<10000000000000
theorem x5q{Γ fan:Nat}{T T':Tr}(h:Dec Γ fan T' T)(hs:Small Γ fan T'):mu Γ fan T'<mu Γ fan T:=by
 obtain⟨a,b,c,d,e⟩:=hs
 grind[mu,Dec]
theorem x52{Γ fan:Nat}{T:Tr}(hs:Small Γ fan T):mu Γ fan T<1000000000000000000000000000000000000000000000000000000000:=by
 obtain⟨a,b,c,d,e⟩:=hs
 grind[mu]
theorem ywh{Γ fan g:Nat}(hΓ:Γ<1900){T:Tr}(hgT:g+T.mv<=Γ)(hv:VT g [] [] T)(hbw:T.bw Γ<20000000)(hh:T.ht<4096):Small Γ fan T:=by
 have l1:=VT.lv hv (UU.nil g) (.inl rfl);have l2:=yzi g (hasB ([],[]));have hlv:T.lv<=100000:=by omega
 have h1:=Tr.sl_le hv;have hsl:T.sl<=100000*4096:=aP h1 (co hlv (by omega));have h2:=Tr.ov_le fan T 0;have h3:=Tr.dv_le fan T 0;have h4:=Tr.en_le Γ T 0;have h5:=Tr.pa_le (show g<=Γ by omega) hv;have h6:T.lv*(20*(g+1))<=100000*38020:=co hlv (by omega);have h7:(0+T.ht)*T.sl<=4096*(100000*4096):=co (by omega) hsl;have h8:T.fm (fun _=>0) (wb Γ)*T.ht<=20000000*4096:=co (by have:T.bw Γ=T.fm (fun _=>0) (wb Γ):=rfl;omega) (by omega);refine⟨by omega,by omega, ?_, ?_, ?_⟩
 all_goals grind[Tr.ov,Tr.dv,Tr.en]
mutual
theorem yr9{g Γ:Nat}(hg:g<=Γ):∀{T:Tr} {lo hi:B},VT g lo hi T->T.bw Γ<20000000->FitT T
 | .leaf _,_,_,_,_=>trivial
 | .node ks piv buf,_,_,h,hb=>by simp only[VT]at h;have j:=zft hg fun m hm=>(h.2 m hm).1;simp only[Tr.bw,Tr.fm]at hb;simp only[FitT];exact⟨by omega,ysx hg h.1 (by omega)⟩
theorem ysx{g Γ:Nat}(hg:g<=Γ):∀{ks:Trs} {piv:List B} {lo hi:B},VTs g lo hi ks piv->ks.fm (fun _=>0) (wb Γ)<20000000->FitTs ks
 | .nil,_,_,_,h,_=>(VTs.ne h).elim
 | .cons t .nil,[],_,_,h,hb=>by simp only[VTs]at h;simp only[Trs.fm]at hb;exact⟨yr9 hg h (by simp only[Tr.bw];omega),trivial⟩
 | .cons t .nil,_::_,_,_,h,_=>by simp[VTs]at h
 | .cons t (.cons u us),[],_,_,h,_=>by simp[VTs]at h
 | .cons t (.cons u us),q::piv,_,_,h,hb=>by simp only[VTs]at h;have hb:t.fm (fun _=>0) (wb Γ)+(Trs.cons u us).fm (fun _=>0) (wb Γ)<20000000:=hb;exact⟨yr9 hg h.2.2.2.1 (by simp only[Tr.bw];omega),ysx hg h.2.2.2.2 (by omega)⟩
end
theorem x4j(n:Nat):n<=tri n:=by
 cases n with
 | zero=>simp
 | succ n=>simp[tri]
structure GT (Γ K Φ b g:Nat) (T:Tr):Prop where
 g1:1<=g
 vt:VT g [] [] T
 gr:g+tri (T.mv+b)<=Γ
 pot:T.bw Γ+K*T.mv<=Φ
theorem GT.le{Γ K Φ b g:Nat}{T:Tr}(h:GT Γ K Φ b g T):g+T.mv<=Γ:=by have:=x4j (T.mv+b);have:=h.gr;omega
theorem GT.ti{Γ K Φ b g fan:Nat}(hΓ:Γ<1900)(hΦ:Φ<20000000){T:Tr}(h:GT Γ K Φ b g T){p:List Sl}{root:Int}{R:List Int}(hP:PI p (root::R))(hu:Unf p root T)(hR:R.length<1000000):TI g p root R T/\Small Γ fan T/\T.bw Γ<20000000:=by
 have hle:=h.le;have hbw:T.bw Γ<20000000:=by have:=h.pot;omega
 have hh:=hP.height hu;refine⟨⟨hP,hu,h.vt,yr9 (show g<=Γ by omega) h.vt hbw,by omega,fun r ks piv buf hat=> ?_,hR⟩,ywh hΓ hle h.vt hbw hh,hbw⟩;obtain⟨lo,hi,v1,_⟩:=At.vt h.vt hat;simp only[VT]at v1;have j:=zft (show g<=Γ by omega) fun m hm=>(v1.2 m hm).1;have:=At.bw (Γ:=Γ) hat;omega
theorem GT.nxt{Γ fan K Φ b g g':Nat}{T T':Tr}(h:GT Γ K Φ b g T)(n:Nxt Γ fan K g g' T T'):GT Γ K Φ b g' T':=
 ⟨aP h.g1 n.gg,n.vt,aP (n.gr b) h.gr,aP n.pot h.pot⟩
attribute [local irreducible] mu
section
variable {Γ K Φ leaf fan bl:Nat} (hS:zn8 Γ) (hΓ:Γ<1900) (hK:20*(Γ+1)+2*(5+48*(Γ+1))<=K) (hΦ:Φ<20000000) (hl1:1<=leaf) (hl2:leaf<1000000) (hf1:2<=fan) (hf2:fan<1000000) {R:List Int} (hR:R.length<1000000)
include hS hΓ hK hΦ hl1 hl2 hf1 hf2 hR
theorem ymh{b:Nat}{t0:Y4}:∀(m:Nat) (n:Nat) (p:List Sl) (root:Int) (T:Tr) (g:Nat) (cnt:Int),mu Γ fan T<m->m<=n->GT Γ K Φ b g T->PI p (root::R)->Unf p root T->
  ∃t' c e,zez NN n false t0 ((p,(root,shp leaf fan bl)),(cnt,0))=some ((),((t',(c,e)),()))/\(e≠0\/(e=0/\∃q root' T' g',t'=(q,(root',shp leaf fan bl))/\GT Γ K Φ b g' T'/\T'.mv<=T.mv/\PI q (root'::R)/\Unf q root' T'/\∀x∈R,∀X,Unf p x X->Unf q x X))
 | 0,_,_,_,_,_,_,h,_,_,_,_=>absurd h (ae _)
 | m+1,0,_,_,_,_,_,_,h,_,_,_=>absurd h (by omega)
 | m+1,n+1,p,root,T,g,cnt,hm,hn,hG,hP,hu=>by
  obtain⟨hI,hsm,hbw⟩:=hG.ti (fan:=fan) hΓ hΦ hP hu hR;have hle:=hG.le;obtain⟨r,r1,r2⟩:=yxf (leaf:=leaf) (fan:=fan) (bl:=bl) (show g<40000 by omega) hu hG.vt (by have:=hI.ht;omega) hI.fit;rw[zwa];simp only[z7w,r1,ac];cases hr:r.2
  ·exact⟨_,_,_,rfl, .inr ⟨rfl,p,root,T,g,rfl,hG,ai _,hP,hu,fun x hx X hX=>hX⟩⟩
  ·obtain⟨at',S,e1,hat,ho,_⟩:=r2 hr;obtain⟨t',e,s1,s2⟩:=x29 (bl:=bl) hS hΓ hK hG.g1 hI hle hbw hl1 hl2 hf1 hf2 hat ho;rw[e1,s1];simp only[ac];rw[X5 (by rfl)];rcases s2 with s2 | ⟨rfl,q,root',T',rfl,⟨g',hN⟩,k1,k2,k3⟩
   ·exact⟨_,_,_,by rw[W8 (by grind[G6])], .inl s2⟩
   ·rw[X5 (by rfl)];have hG':=hG.nxt hN;have hsm':=(hG'.ti (fan:=fan) hΓ hΦ k1 k2 hR).2.1;have hlt:=x5q hN.dec hsm';obtain⟨t2,c,e,u1,u2⟩:=ymh (t0:=t0) m n q root' T' g' (aa .i64 (cnt+1)) (by omega) (by omega) hG' k1 k2;refine⟨t2,c,e,u1, ?_⟩;rcases u2 with u2 | ⟨u2,q2,root2,T2,g2,v1,v2,v3,v4,v5,v6⟩
    ·omega
    ·exact .inr ⟨u2,q2,root2,T2,g2,v1,v2,aP v3 hN.mvq,v4,v5,fun x hx X hX=>v6 x hx X (k3 x hx X hX)⟩
theorem x2c{b g:Nat}{p:List Sl}{root:Int}{T:Tr}(hG:GT Γ K Φ b g T)(hP:PI p (root::R))(hu:Unf p root T):
  ∃t' c e,zsq NN (p,(root,shp leaf fan bl))=some (t',(c,e))/\(e≠0\/(e=0/\∃q root' T' g',t'=(q,(root',shp leaf fan bl))/\GT Γ K Φ b g' T'/\T'.mv<=T.mv/\PI q (root'::R)/\Unf q root' T'/\∀x∈R,∀X,Unf p x X->Unf q x X)):=by
 obtain⟨_,hsm,_⟩:=hG.ti (fan:=fan) hΓ hΦ hP hu hR;have hl:=x52 hsm;have hN:=yb3;obtain⟨t',c,e,h1,h2⟩:=ymh hS hΓ hK hΦ hl1 hl2 hf1 hf2 hR (bl:=bl) (t0:=(p,(root,shp leaf fan bl))) (mu Γ fan T+1) NN p root T g 0 (by omega) (by omega) hG hP hu
 grind[zsq,zve]
end
end Ds
