/- Plain laws: loops by an invariant, guards, whole numbers. -/
import Derived.Test.YtljffhpbdmkplaaGreatDvD
import Derived.ProofKit
import Derived.Laws.BitsLemmas
set_option linter.all false
open Bool renaming and_eq_true->ab,or_eq_true->aA
open Int renaming tmod->aB
open Go.IntKind renaming wrap->aa
open List renaming Pairwise->aX,cons_append->ba,drop_left->dt,filter_cons_of_neg->bK,filter_cons_of_pos->bQ,mem_cons->ar,mem_filter->aV,pairwise_cons->aD,pairwise_map->db,range->bF
namespace Go.Dv
theorem ynt{A R:Type}{f:(A->Option R)->A->Option R}(I:A->Prop)(Q:R->Prop)(μ:A->Nat)
  (h:∀rec a,I a->(∀a',I a'->μ a'<μ a->∃r,rec a'=some r/\Q r)->∃r,f rec a=some r/\Q r):∀n a,I a->μ a<n->∃r,iter f n a=some r/\Q r
 | 0,_,_,hn=>absurd hn (Nat.not_lt_zero _)
 | n+1,a,ha,hn=>h _ a ha fun a' ha' hm=>ynt I Q μ h n a' ha' (by omega)
variable {R:Type}
theorem gd_t{b:Bool}(h:b=true)(k:Option R):gd b k=k:=by rw[h];rfl
theorem gd_p{p:Prop} [Decidable p](h:p)(k:Option R):gd (decide p) k=k:=gd_t (decide_eq_true h) k
theorem V7{i:Int}{n:Nat}(h0:0<=i)(h1:i<n):inB i n=true:=by grind[inB]
theorem ygx{n b:Nat}(h:n<maxB)(h':n*b<maxB):fits n b=true:=by grind[fits]
theorem w64{n:Int}(h0: -9223372036854775808<=n)(h1:n<9223372036854775808):aa .i64 n=n:=by grind[IntKind.wrap_i64]
theorem W8{α:Type}{b:Bool}{x y:α}(h:b=true):(bif b then x else y)=x:=by grind
theorem X5{α:Type}{b:Bool}{x y:α}(h:b=false):(bif b then x else y)=y:=by grind
theorem za7{a b:Int}:eqi a b=true↔a=b:=by simp[eqi]
theorem G6{a b:Int}(h:a≠b):eqi a b=false:=by grind[eqi]
theorem y6{a b:List UInt8}:eqs a b=true↔a=b:=by simp[eqs]
theorem zn4{a b:List UInt8}(h:a≠b):eqs a b=false:=by grind[eqs]
@[simp] theorem z09(a:Int):eqi a a=true:=by simp[eqi]
@[simp] theorem z84(a:List UInt8):eqs a a=true:=by simp[eqs]
theorem z8w{n:Int}(h:(Lit.int .u8 n).wf=true):0<=n/\n<256:=by grind[Lit.wf,IntKind.min,IntKind.max,IntKind.signed,IntKind.bits]
theorem x4g{p:Int->Bool}(h:((bF 256).all fun n=>p (n:Int))=true){n:Int}(h0:0<=n)(h1:n<256):p n=true:=by
 have:=List.all_eq_true.1 h n.toNat (by grind)
 grind
def okO{α:Type}(o:Option α)(p:α->Bool):Bool:=match o with | some x=>p x | none=>false
theorem yeo{α:Type}{o:Option α}{p:α->Bool}(h:okO o p=true):∃x,o=some x/\p x=true:=by
 cases o with
 | none=>cases h
 | some x=>exact⟨x,rfl,h⟩
theorem yr4{α:Type}{f:Int->Option α}{p:α->Bool}(h:((bF 256).all fun n=>okO (f (n:Int)) p)=true){n:Int}(h0:0<=n)(h1:n<256):∃x,f n=some x/\p x=true:=
 yeo (x4g (p:=fun n=>okO (f n) p) h h0 h1)
theorem x4k{a b:Int}(h:0<=a)(hb:0<b):0<=aB a b/\aB a b<b:=by rw[Int.tmod_eq_emod_of_nonneg h];exact⟨Int.emod_nonneg _ (by omega),Int.emod_lt_of_pos _ hb⟩
section walk
variable {α:Type} {pre post:List α} {q d:α}
theorem V5:rdL (pre++q::post) (pre.length:Int) d=q:=by simp[rdL]
theorem yjr{y:α}:setL (pre++q::post) (pre.length:Int) y=pre++y::post:=by simp[setL]
theorem U0:inB (pre.length:Int) (pre++q::post).length=true:=V7 (by omega) (by grind)
theorem Q7:decide ((pre.length:Int)<((pre++q::post).length:Int))=true:=by grind
theorem y48:decide ((pre.length:Int)<((pre++([]:List α)).length:Int))=false:=by simp
theorem U1(h:pre.length<9223372036854775807):aa .i64 ((pre.length:Int)+(1:Int))=((pre++[q]).length:Int):=by grind[w64]
theorem Q3:pre++q::post=(pre++[q])++post:=by simp
theorem yyh{xs:List α}{i:Int}{x:α}(h0:0<=i)(h:xs[i.toNat]? =some x):rdL xs i d=x:=by grind[rdL]
end walk
theorem Y9{n b:Nat}(h:n<4294967296)(hb:b<1024):fits n b=true:=by refine ygx (by constructor<;>grind) ?_;have:n*b<=4294967295*1023:=Nat.mul_le_mul (by omega) (by omega);constructor<;>grind
end Go.Dv
namespace Ds
open Go Go.Dv
theorem u8_tri(a b:UInt8):a<b\/a=b\/b<a:=by
 rcases Nat.lt_trichotomy a.toNat b.toNat with h | h | h
 ·exact .inl h
 ·exact .inr (.inl (UInt8.toNat_inj.1 h))
 ·exact .inr (.inr h)
theorem ztu(a:List UInt8):lts a []=false:=by cases a<;>rfl
theorem zg8(a b:UInt8)(x y:List UInt8):lts (a::x) (b::y)=(decide (a<b) || (a==b&&lts x y)):=rfl
theorem z12:∀a:List UInt8,lts a a=false
 | []=>rfl
 | a::x=>by rw[zg8,z12 x];simp[UInt8.lt_irrefl]
theorem k8:∀{a b c:List UInt8},lts a b=true->lts b c=true->lts a c=true
 | _,[],_,h,_=>by rw[ztu]at h;cases h
 | _,_::_,[],_,h=>by rw[ztu]at h;cases h
 | [],_::_,_::_,_,_=>rfl
 | a::x,b::y,c::z,h,g=>by
  rw[zg8]at h g|-;simp only[aA,decide_eq_true_eq,ab,beq_iff_eq]at h g|-;rcases h with h | ⟨rfl,h⟩
  ·rcases g with g | ⟨rfl,g⟩
   ·exact .inl (UInt8.lt_trans h g)
   ·exact .inl h
  ·rcases g with g | ⟨rfl,g⟩
   ·exact .inl g
   ·exact .inr ⟨rfl,k8 h g⟩
theorem lts_tri:∀a b:List UInt8,lts a b=true\/a=b\/lts b a=true
 | [],[]=> .inr (.inl rfl)
 | [],_::_=> .inl rfl
 | _::_,[]=> .inr (.inr rfl)
 | a::x,b::y=>by
  rw[zg8,zg8];simp only[aA,decide_eq_true_eq,ab,beq_iff_eq,List.cons.injEq];rcases u8_tri a b with h | rfl | h
  ·exact .inl (.inl h)
  ·rcases lts_tri x y with h | h | h
   ·exact .inl (.inr ⟨rfl,h⟩)
   ·exact .inr (.inl ⟨rfl,h⟩)
   ·exact .inr (.inr (.inr ⟨rfl,h⟩))
  ·exact .inr (.inr (.inl h))
theorem z3h{a b:List UInt8}(h:lts a b=true):lts b a=false:=by
 cases e:lts b a
 ·rfl
 ·have:=k8 h e;rw[z12]at this;cases this
theorem zn1{a b:List UInt8}(h:lts a b=true):a≠b:=by rintro rfl;rw[z12]at h;cases h
theorem ykr{a b c:List UInt8}(h:lts b a=false)(g:lts b c=true):lts a c=true:=by
 rcases lts_tri a b with e | rfl | e
 ·exact k8 e g
 ·exact g
 ·rw[h]at e;cases e
theorem zrh{a b c:List UInt8}(h:lts a b=true)(g:lts c b=false):lts a c=true:=by
 rcases lts_tri b c with e | rfl | e
 ·exact k8 h e
 ·exact h
 ·rw[g]at e;cases e
theorem y4o{a b c:List UInt8}(h:lts b a=false)(g:lts c b=false):lts c a=false:=by
 cases e:lts c a
 ·rfl
 ·have:=zrh e h;rw[g]at this;cases this
theorem zqv(p:List UInt8):∀a b:List UInt8,lts (p++a) (p++b)=lts a b:=by
 intro a b;induction p with
 | nil=>rfl
 | cons c p ih=>simp only[ba,zg8,ih];simp[UInt8.lt_irrefl]
section tab
variable {V:Type}
def Srt(t:List (List UInt8×V)):Prop:=t.Pairwise fun p q=>lts p.1 q.1=true
def fnd:List (List UInt8×V)->List UInt8->Option V
 | [],_=>none
 | p::t,k=>bif eqs p.1 k then some p.2 else fnd t k
theorem zwi{t:List (List UInt8×V)}{k:List UInt8}(h:∀p∈t,p.1≠k):fnd t k=none:=by
 induction t with
 | nil=>rfl
 | cons p t ih=>simp only[fnd];rw[zn4 (h p (by simp)),cond_false];exact ih fun q hq=>h q (by simp[hq])
theorem Srt.ext:∀{a b:List (List UInt8×V)},Srt a->Srt b->(∀k,fnd a k=fnd b k)->a=b
 | [],[],_,_,_=>rfl
 | [],q::b,_,_,h=>by have:=h q.1;simp[fnd]at this
 | p::a,[],_,_,h=>by have:=h p.1;simp[fnd]at this
 | p::a,q::b,ha,hb,h=>by
  obtain⟨a1,a2⟩:=aD.1 ha;obtain⟨b1,b2⟩:=aD.1 hb;have key:p.1=q.1:=by
   rcases lts_tri p.1 q.1 with e | e | e
   ·have h1:=h p.1;have:fnd (q::b) p.1=none:=zwi (by
     intro x hx;rcases ar.1 hx with rfl | hx
     ·exact(zn1 e).symm
     ·exact(zn1 (k8 e (b1 _ hx))).symm)
    rw[this]at h1;simp[fnd]at h1
   ·exact e
   ·have h1:=h q.1;have:fnd (p::a) q.1=none:=zwi (by
     intro x hx;rcases ar.1 hx with rfl | hx
     ·exact(zn1 e).symm
     ·exact(zn1 (k8 e (a1 _ hx))).symm)
    rw[this]at h1;simp[fnd]at h1
  have hv:p.2=q.2:=by have h1:=h p.1;simp only[fnd,z84,cond_true,key]at h1;exact Option.some.inj h1
  have ht:a=b:=Srt.ext a2 b2 fun k=>by
   have h1:=h k;simp only[fnd,<-key]at h1;cases e:eqs p.1 k
   ·rw[e]at h1;exact h1
   ·have:=y6.1 e;subst this;rw[zwi fun x hx=>(zn1 (a1 x hx)).symm,zwi fun x hx=>(zn1 (key▸b1 x hx)).symm]
  rw[Prod.ext key hv,ht]
theorem zt7(f:List UInt8->Bool)(t:List (List UInt8×V))(k:List UInt8):fnd (t.filter fun p=>f p.1) k=bif f k then fnd t k else none:=by
 induction t with
 | nil=>simp[fnd]
 | cons p t ih=>
  cases e:f p.1
  ·rw[bK (by simp[e]),ih];simp only[fnd];cases e2:eqs p.1 k
   ·rfl
   ·have:=y6.1 e2;subst this;rw[e];rfl
  ·rw[bQ (by simp[e])];simp only[fnd,ih];cases e2:eqs p.1 k
   ·rfl
   ·have:=y6.1 e2;subst this;rw[e];rfl
theorem Srt.filter{t:List (List UInt8×V)}(h:Srt t)(f:List UInt8×V->Bool):Srt (t.filter f):=aX.filter f h
theorem Srt.map{t:List (List UInt8×V)}(h:Srt t){f:List UInt8×V->List UInt8×V}(hf:∀p,(f p).1=p.1):Srt (t.map f):=by unfold Srt;rw[db];exact h.imp fun h=>by rw[hf,hf];exact h
theorem yq4(a b:List (List UInt8×V))(k:List UInt8):fnd (a++b) k=match fnd a k with | some v=>some v | none=>fnd b k:=by
 induction a with
 | nil=>rfl
 | cons p a ih=>
  simp only[ba,fnd];cases eqs p.1 k
  ·exact ih
  ·rfl
def mvd(p q:List UInt8)(t:List (List UInt8×V)):List (List UInt8×V):=(t.filter fun x=>p.isPrefixOf x.1).map fun x=>(q++x.1.drop p.length,x.2)
theorem zfr{p k:List UInt8}(h:p.isPrefixOf k=true):p++k.drop p.length=k:=by obtain⟨r,rfl⟩:=List.isPrefixOf_iff_prefix.1 h;simp
theorem Srt.mvd{t:List (List UInt8×V)}(h:Srt t)(p q:List UInt8):Srt (mvd p q t):=by unfold Srt Ds.mvd;rw[db];refine aX.imp_of_mem ?_ (h.filter _);intro x y hx hy hxy;have ex:=zfr (aV.1 hx).2;have ey:=zfr (aV.1 hy).2;simp only;rw[zqv];rw[<-ex,<-ey,zqv]at hxy;exact hxy
theorem x1n(p q:List UInt8)(t:List (List UInt8×V))(k:List UInt8):fnd (mvd p q t) k=bif q.isPrefixOf k then fnd t (p++k.drop q.length)else none:=by
 unfold Ds.mvd;induction t with
 | nil=>simp[fnd]
 | cons x t ih=>
  cases e:p.isPrefixOf x.1
  ·rw[bK (by simp[e]),ih];simp only[fnd];have:eqs x.1 (p++k.drop q.length)=false:=zn4 (by
    intro h;have:p.isPrefixOf x.1=true:=by rw[h];simp
    rw[e]at this;cases this)
   rw[this];rfl
  ·rw[bQ (by simp[e]),List.map_cons];simp only[fnd,ih];have ex:=zfr e;cases e2:eqs (q++x.1.drop p.length) k
   ·simp only[cond_false];cases e3:q.isPrefixOf k
    ·rfl
    ·have:eqs x.1 (p++k.drop q.length)=false:=zn4 (by
      intro h;rw[h]at e2;simp only[dt]at e2;rw[zfr e3,z84]at e2;cases e2)
     rw[this];rfl
   ·have:=y6.1 e2;subst this;have h1:q.isPrefixOf (q++x.1.drop p.length)=true:=by simp
    rw[h1];simp only[cond_true,dt];rw[ex,z84];rfl
def cnt(t:List (List UInt8×V))(k:List UInt8):Nat:=(t.filter fun p=>lts p.1 k).length
end tab
section put
variable {V:Type}
def insT(p:List UInt8×V)(t:List (List UInt8×V)):List (List UInt8×V):=t.filter (fun q=>lts q.1 p.1)++p::t.filter (fun q=>lts p.1 q.1)
theorem Srt.insT{t:List (List UInt8×V)}(h:Srt t)(p:List UInt8×V):Srt (insT p t):=by
 unfold Srt Ds.insT;rw[List.pairwise_append];refine⟨h.filter _,aD.2 ⟨fun q hq=>(aV.1 hq).2,h.filter _⟩, ?_⟩;intro a ha b hb;have ha:=(aV.1 ha).2;rcases ar.1 hb with rfl | hb
 ·exact ha
 ·exact k8 ha (aV.1 hb).2
theorem yxc(p:List UInt8×V)(t:List (List UInt8×V))(k:List UInt8):fnd (insT p t) k=bif eqs p.1 k then some p.2 else fnd t k:=by
 unfold Ds.insT;rw[yq4,zt7 (fun x=>lts x p.1)];simp only[fnd];rw[zt7 (fun x=>lts p.1 x)];cases e:eqs p.1 k
 ·have hne:p.1≠k:=fun h=>by rw[h,z84]at e;cases e
  rcases lts_tri k p.1 with h | h | h
  ·rw[h,z3h h];simp only[cond_true,cond_false];cases fnd t k<;>rfl
  ·exact absurd h.symm hne
  ·rw[h,z3h h];rfl
 ·have:=y6.1 e;subst this;rw[z12];rfl
theorem ynu(p:List UInt8×V)(t:List (List UInt8×V)):(insT p t).length<=t.length+1:=by
 unfold Ds.insT;rw[List.length_append,List.length_cons];have:(t.filter fun q=>lts q.1 p.1).length+(t.filter fun q=>lts p.1 q.1).length<=t.length:=by
  induction t with
  | nil=>simp
  | cons q t ih=>
   cases e1:lts q.1 p.1<;>cases e2:lts p.1 q.1<;>simp[List.filter_cons,e1,e2]<;>try omega
   rw[z3h e1]at e2;cases e2
 omega
end put
end Ds
