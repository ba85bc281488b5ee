/- Plain laws: loops by an invariant, guards, whole numbers. -/
import Derived.Test.YtljffhpbdmkplaaGreatDvD
import Derived.ProofKit
import Derived.Laws.BitsLemmas
set_option linter.all false
open Bool renaming and_eq_true->ac,or_eq_true->ay
open Int renaming tmod->aJ
open Go.IntKind renaming wrap->aa
open List renaming Pairwise->bi,cons_append->aY,drop_left->da,filter_cons_of_neg->bn,filter_cons_of_pos->bq,mem_cons->am,mem_filter->aB,pairwise_cons->aI,pairwise_map->cU,range->bR
namespace Go.Dv
theorem ycg{A R:Type}{f:(A->Option R)->A->Option R}(I:A->Prop)(Q:R->Prop)(μ:A->Nat)
  (h:∀rec a,I a->(∀a',I a'->μ a'<μ a->∃r,rec a'=some r/\Q r)->∃r,f rec a=some r/\Q r):∀n a,I a->μ a<n->∃r,iter f n a=some r/\Q r
 | 0,_,_,hn=>absurd hn (Nat.not_lt_zero _)
 | n+1,a,ha,hn=>h _ a ha fun a' ha' hm=>ycg I Q μ h n a' ha' (by omega)
variable {R:Type}
theorem gd_t{b:Bool}(h:b=true)(k:Option R):gd b k=k:=by rw[h];rfl
theorem gd_p{p:Prop} [Decidable p](h:p)(k:Option R):gd (decide p) k=k:=gd_t (decide_eq_true h) k
theorem V7{i:Int}{n:Nat}(h0:0<=i)(h1:i<n):inB i n=true:=by simp[inB,h0,h1]
theorem y9q{n b:Nat}(h:n<maxB)(h':n*b<maxB):fits n b=true:=by simp[fits,h,h']
theorem w64{n:Int}(h0: -9223372036854775808<=n)(h1:n<9223372036854775808):aa .i64 n=n:=by
 rw[IntKind.wrap_i64];omega
theorem X4{α:Type}{b:Bool}{x y:α}(h:b=true):(bif b then x else y)=x:=by rw[h];rfl
theorem Y3{α:Type}{b:Bool}{x y:α}(h:b=false):(bif b then x else y)=y:=by rw[h];rfl
theorem zpw{a b:Int}:eqi a b=true↔a=b:=by simp[eqi]
theorem J3{a b:Int}(h:a≠b):eqi a b=false:=by simp[eqi,h]
theorem K7{a b:List UInt8}:eqs a b=true↔a=b:=by simp[eqs]
theorem zh3{a b:List UInt8}(h:a≠b):eqs a b=false:=by simp[eqs,h]
@[simp] theorem K0(a:Int):eqi a a=true:=by simp[eqi]
@[simp] theorem z6c(a:List UInt8):eqs a a=true:=by simp[eqs]
theorem z6a{n:Int}(h:(Lit.int .u8 n).wf=true):0<=n/\n<256:=by
 simp[Lit.wf,IntKind.min,IntKind.max,IntKind.signed,IntKind.bits]at h
 omega
theorem yqa{p:Int->Bool}(h:((bR 256).all fun n=>p (n:Int))=true){n:Int}(h0:0<=n)(h1:n<256):p n=true:=by
 have:=List.all_eq_true.1 h n.toNat (by simp;omega)
 rwa [Int.toNat_of_nonneg h0]at this
def okO{α:Type}(o:Option α)(p:α->Bool):Bool:=match o with | some x=>p x | none=>false
theorem y3z{α:Type}{o:Option α}{p:α->Bool}(h:okO o p=true):∃x,o=some x/\p x=true:=by
 cases o with
 | none=>cases h
 | some x=>exact⟨x,rfl,h⟩
theorem yf5{α:Type}{f:Int->Option α}{p:α->Bool}(h:((bR 256).all fun n=>okO (f (n:Int)) p)=true){n:Int}(h0:0<=n)(h1:n<256):∃x,f n=some x/\p x=true:=
 y3z (yqa (p:=fun n=>okO (f n) p) h h0 h1)
theorem yqd{a b:Int}(h:0<=a)(hb:0<b):0<=aJ a b/\aJ a b<b:=by
 rw[Int.tmod_eq_emod_of_nonneg h]
 exact⟨Int.emod_nonneg _ (by omega),Int.emod_lt_of_pos _ hb⟩
section walk
variable {α:Type} {pre post:List α} {q d:α}
theorem U0:rdL (pre++q::post) (pre.length:Int) d=q:=by simp[rdL]
theorem y8j{y:α}:setL (pre++q::post) (pre.length:Int) y=pre++y::post:=by simp[setL]
theorem V4:inB (pre.length:Int) (pre++q::post).length=true:=V7 (by omega) (by simp;omega)
theorem U3:decide ((pre.length:Int)<((pre++q::post).length:Int))=true:=by simp;omega
theorem yqt:decide ((pre.length:Int)<((pre++([]:List α)).length:Int))=false:=by simp
theorem W7(h:pre.length<9223372036854775807):aa .i64 ((pre.length:Int)+(1:Int))=((pre++[q]).length:Int):=by
 rw[w64 (by omega) (by omega)];simp
theorem V9:pre++q::post=(pre++[q])++post:=by simp
theorem ym0{xs:List α}{i:Int}{x:α}(h0:0<=i)(h:xs[i.toNat]? =some x):rdL xs i d=x:=by simp[rdL,List.getD,h]
end walk
theorem Y4{n b:Nat}(h:n<4294967296)(hb:b<1024):fits n b=true:=by
 refine y9q (by simp only[maxB];omega) ?_
 have:n*b<=4294967295*1023:=Nat.mul_le_mul (by omega) (by omega)
 simp only[maxB];omega
end Go.Dv
namespace Ds
open Go Go.Dv
theorem u8_tri(a b:UInt8):a<b\/a=b\/b<a:=by
 rcases Nat.lt_trichotomy a.toNat b.toNat with h | h | h
 ·exact .inl h
 ·exact .inr (.inl (UInt8.toNat_inj.1 h))
 ·exact .inr (.inr h)
theorem zma(a:List UInt8):lts a []=false:=by cases a<;>rfl
theorem zci(a b:UInt8)(x y:List UInt8):lts (a::x) (b::y)=(decide (a<b) || (a==b&&lts x y)):=rfl
theorem G8:∀a:List UInt8,lts a a=false
 | []=>rfl
 | a::x=>by rw[zci,G8 x];simp[UInt8.lt_irrefl]
theorem K9:∀{a b c:List UInt8},lts a b=true->lts b c=true->lts a c=true
 | _,[],_,h,_=>by rw[zma]at h;cases h
 | _,_::_,[],_,h=>by rw[zma]at h;cases h
 | [],_::_,_::_,_,_=>rfl
 | a::x,b::y,c::z,h,g=>by
  rw[zci]at h g|-
  simp only[ay,decide_eq_true_eq,ac,beq_iff_eq]at h g|-
  rcases h with h | ⟨rfl,h⟩
  ·rcases g with g | ⟨rfl,g⟩
   ·exact .inl (UInt8.lt_trans h g)
   ·exact .inl h
  ·rcases g with g | ⟨rfl,g⟩
   ·exact .inl g
   ·exact .inr ⟨rfl,K9 h g⟩
theorem lts_tri:∀a b:List UInt8,lts a b=true\/a=b\/lts b a=true
 | [],[]=> .inr (.inl rfl)
 | [],_::_=> .inl rfl
 | _::_,[]=> .inr (.inr rfl)
 | a::x,b::y=>by
  rw[zci,zci]
  simp only[ay,decide_eq_true_eq,ac,beq_iff_eq,List.cons.injEq]
  rcases u8_tri a b with h | rfl | h
  ·exact .inl (.inl h)
  ·rcases lts_tri x y with h | h | h
   ·exact .inl (.inr ⟨rfl,h⟩)
   ·exact .inr (.inl ⟨rfl,h⟩)
   ·exact .inr (.inr (.inr ⟨rfl,h⟩))
  ·exact .inr (.inr (.inl h))
theorem z0j{a b:List UInt8}(h:lts a b=true):lts b a=false:=by
 cases e:lts b a
 ·rfl
 ·have:=K9 h e;rw[G8]at this;cases this
theorem zf9{a b:List UInt8}(h:lts a b=true):a≠b:=by
 rintro rfl;rw[G8]at h;cases h
theorem y9n{a b c:List UInt8}(h:lts b a=false)(g:lts b c=true):lts a c=true:=by
 rcases lts_tri a b with e | rfl | e
 ·exact K9 e g
 ·exact g
 ·rw[h]at e;cases e
theorem zki{a b c:List UInt8}(h:lts a b=true)(g:lts c b=false):lts a c=true:=by
 rcases lts_tri b c with e | rfl | e
 ·exact K9 h e
 ·exact h
 ·rw[g]at e;cases e
theorem zve{a b c:List UInt8}(h:lts b a=false)(g:lts c b=false):lts c a=false:=by
 cases e:lts c a
 ·rfl
 ·have:=zki e h;rw[g]at this;cases this
theorem zjz(p:List UInt8):∀a b:List UInt8,lts (p++a) (p++b)=lts a b:=by
 intro a b
 induction p with
 | nil=>rfl
 | cons c p ih=>simp only[aY,zci,ih];simp[UInt8.lt_irrefl]
section tab
variable {V:Type}
def Srt(t:List (List UInt8×V)):Prop:=t.Pairwise fun p q=>lts p.1 q.1=true
def fnd:List (List UInt8×V)->List UInt8->Option V
 | [],_=>none
 | p::t,k=>bif eqs p.1 k then some p.2 else fnd t k
theorem zoh{t:List (List UInt8×V)}{k:List UInt8}(h:∀p∈t,p.1≠k):fnd t k=none:=by
 induction t with
 | nil=>rfl
 | cons p t ih=>
  simp only[fnd]
  rw[zh3 (h p (by simp)),cond_false]
  exact ih fun q hq=>h q (by simp[hq])
theorem Srt.ext:∀{a b:List (List UInt8×V)},Srt a->Srt b->(∀k,fnd a k=fnd b k)->a=b
 | [],[],_,_,_=>rfl
 | [],q::b,_,_,h=>by have:=h q.1;simp[fnd]at this
 | p::a,[],_,_,h=>by have:=h p.1;simp[fnd]at this
 | p::a,q::b,ha,hb,h=>by
  obtain⟨a1,a2⟩:=aI.1 ha
  obtain⟨b1,b2⟩:=aI.1 hb
  have key:p.1=q.1:=by
   rcases lts_tri p.1 q.1 with e | e | e
   ·have h1:=h p.1
    have:fnd (q::b) p.1=none:=zoh (by
     intro x hx
     rcases am.1 hx with rfl | hx
     ·exact(zf9 e).symm
     ·exact(zf9 (K9 e (b1 _ hx))).symm)
    rw[this]at h1;simp[fnd]at h1
   ·exact e
   ·have h1:=h q.1
    have:fnd (p::a) q.1=none:=zoh (by
     intro x hx
     rcases am.1 hx with rfl | hx
     ·exact(zf9 e).symm
     ·exact(zf9 (K9 e (a1 _ hx))).symm)
    rw[this]at h1;simp[fnd]at h1
  have hv:p.2=q.2:=by
   have h1:=h p.1
   simp only[fnd,z6c,cond_true,key]at h1
   exact Option.some.inj h1
  have ht:a=b:=Srt.ext a2 b2 fun k=>by
   have h1:=h k
   simp only[fnd,<-key]at h1
   cases e:eqs p.1 k
   ·rw[e]at h1;exact h1
   ·have:=K7.1 e;subst this
    rw[zoh fun x hx=>(zf9 (a1 x hx)).symm,zoh fun x hx=>(zf9 (key▸b1 x hx)).symm]
  rw[Prod.ext key hv,ht]
theorem zlw(f:List UInt8->Bool)(t:List (List UInt8×V))(k:List UInt8):fnd (t.filter fun p=>f p.1) k=bif f k then fnd t k else none:=by
 induction t with
 | nil=>simp[fnd]
 | cons p t ih=>
  cases e:f p.1
  ·rw[bn (by simp[e]),ih]
   simp only[fnd]
   cases e2:eqs p.1 k
   ·rfl
   ·have:=K7.1 e2;subst this;rw[e];rfl
  ·rw[bq (by simp[e])]
   simp only[fnd,ih]
   cases e2:eqs p.1 k
   ·rfl
   ·have:=K7.1 e2;subst this;rw[e];rfl
theorem Srt.filter{t:List (List UInt8×V)}(h:Srt t)(f:List UInt8×V->Bool):Srt (t.filter f):=bi.filter f h
theorem Srt.map{t:List (List UInt8×V)}(h:Srt t){f:List UInt8×V->List UInt8×V}(hf:∀p,(f p).1=p.1):Srt (t.map f):=by
 unfold Srt
 rw[cU]
 exact h.imp fun h=>by rw[hf,hf];exact h
theorem ye9(a b:List (List UInt8×V))(k:List UInt8):fnd (a++b) k=match fnd a k with | some v=>some v | none=>fnd b k:=by
 induction a with
 | nil=>rfl
 | cons p a ih=>
  simp only[aY,fnd]
  cases eqs p.1 k
  ·exact ih
  ·rfl
def mvd(p q:List UInt8)(t:List (List UInt8×V)):List (List UInt8×V):=(t.filter fun x=>p.isPrefixOf x.1).map fun x=>(q++x.1.drop p.length,x.2)
theorem z9g{p k:List UInt8}(h:p.isPrefixOf k=true):p++k.drop p.length=k:=by
 obtain⟨r,rfl⟩:=List.isPrefixOf_iff_prefix.1 h
 simp
theorem Srt.mvd{t:List (List UInt8×V)}(h:Srt t)(p q:List UInt8):Srt (mvd p q t):=by
 unfold Srt Ds.mvd
 rw[cU]
 refine bi.imp_of_mem ?_ (h.filter _)
 intro x y hx hy hxy
 have ex:=z9g (aB.1 hx).2
 have ey:=z9g (aB.1 hy).2
 simp only
 rw[zjz]
 rw[<-ex,<-ey,zjz]at hxy
 exact hxy
theorem yoe(p q:List UInt8)(t:List (List UInt8×V))(k:List UInt8):fnd (mvd p q t) k=bif q.isPrefixOf k then fnd t (p++k.drop q.length)else none:=by
 unfold Ds.mvd
 induction t with
 | nil=>simp[fnd]
 | cons x t ih=>
  cases e:p.isPrefixOf x.1
  ·rw[bn (by simp[e]),ih]
   simp only[fnd]
   have:eqs x.1 (p++k.drop q.length)=false:=zh3 (by
    intro h
    have:p.isPrefixOf x.1=true:=by rw[h];simp
    rw[e]at this;cases this)
   rw[this];rfl
  ·rw[bq (by simp[e]),List.map_cons]
   simp only[fnd,ih]
   have ex:=z9g e
   cases e2:eqs (q++x.1.drop p.length) k
   ·simp only[cond_false]
    cases e3:q.isPrefixOf k
    ·rfl
    ·have:eqs x.1 (p++k.drop q.length)=false:=zh3 (by
      intro h
      rw[h]at e2
      simp only[da]at e2
      rw[z9g e3,z6c]at e2;cases e2)
     rw[this];rfl
   ·have:=K7.1 e2;subst this
    have h1:q.isPrefixOf (q++x.1.drop p.length)=true:=by simp
    rw[h1]
    simp only[cond_true,da]
    rw[ex,z6c];rfl
def cnt(t:List (List UInt8×V))(k:List UInt8):Nat:=(t.filter fun p=>lts p.1 k).length
end tab
section put
variable {V:Type}
def insT(p:List UInt8×V)(t:List (List UInt8×V)):List (List UInt8×V):=t.filter (fun q=>lts q.1 p.1)++p::t.filter (fun q=>lts p.1 q.1)
theorem Srt.insT{t:List (List UInt8×V)}(h:Srt t)(p:List UInt8×V):Srt (insT p t):=by
 unfold Srt Ds.insT
 rw[List.pairwise_append]
 refine⟨h.filter _,aI.2 ⟨fun q hq=>(aB.1 hq).2,h.filter _⟩, ?_⟩
 intro a ha b hb
 have ha:=(aB.1 ha).2
 rcases am.1 hb with rfl | hb
 ·exact ha
 ·exact K9 ha (aB.1 hb).2
theorem yku(p:List UInt8×V)(t:List (List UInt8×V))(k:List UInt8):fnd (insT p t) k=bif eqs p.1 k then some p.2 else fnd t k:=by
 unfold Ds.insT
 rw[ye9,zlw (fun x=>lts x p.1)]
 simp only[fnd]
 rw[zlw (fun x=>lts p.1 x)]
 cases e:eqs p.1 k
 ·have hne:p.1≠k:=fun h=>by rw[h,z6c]at e;cases e
  rcases lts_tri k p.1 with h | h | h
  ·rw[h,z0j h]
   simp only[cond_true,cond_false]
   cases fnd t k<;>rfl
  ·exact absurd h.symm hne
  ·rw[h,z0j h];rfl
 ·have:=K7.1 e;subst this
  rw[G8];rfl
theorem ych(p:List UInt8×V)(t:List (List UInt8×V)):(insT p t).length<=t.length+1:=by
 unfold Ds.insT
 rw[List.length_append,List.length_cons]
 have:(t.filter fun q=>lts q.1 p.1).length+(t.filter fun q=>lts p.1 q.1).length<=t.length:=by
  induction t with
  | nil=>simp
  | cons q t ih=>
   cases e1:lts q.1 p.1<;>cases e2:lts p.1 q.1<;>simp[List.filter_cons,e1,e2]<;>try omega
   rw[z0j e1]at e2;cases e2
 omega
end put
end Ds
