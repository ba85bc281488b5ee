/- Places of keys: total. -/
import Derived.Test.YtljffhpbdmkplaaGreatDsB
set_option linter.all false
namespace Ds
open Go Go.Dv
set_option maxRecDepth 100000
variable [Fuel]
theorem yb1{α:Type}(l:List α)(i:Nat):(cut2 l (i:Int) ((i:Int)+1)).length<=1:=by
 have:((i:Int)+1-(i:Int)).toNat=1:=by omega
 simp[cut2]
 omega
theorem ya9:∀(post pre cur:B) (out:List B) (n:Nat),post.length<n->(pre++post).length<1000000->cur.length<=pre.length->out.length<=pre.length->
  ∃c o,z80 NN n (pre++post) cur (pre.length:Int) out=some (((),c),(o,()))∧o.length<=(pre++post).length
 | _,_,_,_,0,h,_,_,_=>absurd h (Nat.not_lt_zero _)
 | [],pre,cur,out,n+1,_,_,_,ho=>by
  refine⟨cur,out, ?_,by simp;omega⟩
  rw[zef]
  simp only[z2b,List.append_nil,Int.lt_irrefl,decide_false,cond_false]
 | x::post,pre,cur,out,n+1,hn,hl,hc,ho=>by
  simp only[List.length_cons]at hn
  have hpl:pre.length<1000000:=by simp at hl;omega
  have hb:pre.length<9223372036854775807:=by omega
  have ih:=fun cur out=>ya9 post (pre++[x]) cur out n (by omega) (by simpa using hl)
  rw[←U2 (pre:=pre) (q:=x) (post:=post)]at ih
  have hc1:=yb1 (pre++x::post) pre.length
  rw[zef]
  simp only[z2b,U9,cond_true]
  rw[gd_t V7]
  cases eqi (bt (pre++x::post) (pre.length:Int)) 47
  ·rw[cond_false,V1 (q:=x) hb,gd_t (by simp;omega),gd_p (by
    have:(((pre++[x]).length:Nat):Int)=(pre.length:Int)+1:=by simp
    rw[this];simp only[maxS];omega)]
   refine ih _ out ?_ (by simp;omega)
   have:(((pre++[x]).length:Nat):Int)=(pre.length:Int)+1:=by simp
   rw[this,List.length_append,List.length_append];simp only[List.length_singleton];omega
  ·rw[cond_true,gd_t (Y4 (by omega) (by omega)),V1 (q:=x) hb]
   exact ih [] (out++[cur]) (Nat.zero_le _) (by simp;omega)
theorem yj7{k:B}(h:k.length<1000000):∃l b,zi2 NN k=some (l,b)∧l.length<=k.length:=by
 obtain⟨c,o,h1,h2⟩:=ya9 k [] [] [] NN (by have:=V0;omega) (by simpa using h) (Nat.le_refl _) (Nat.le_refl _)
 have hz:(([]:B).length:Int)=0:=rfl
 rw[hz,List.nil_append]at h1
 exact⟨o,eqs c [],by simp only[zi2,h1],by simpa using h2⟩
theorem yed:∀(post pre:B) (n:Nat),post.length<n->(pre++post).length<1000000->∃r,z9n NN n (pre++post) (pre.length:Int)=some r
 | _,_,0,h,_=>absurd h (Nat.not_lt_zero _)
 | [],pre,n+1,_,_=>by
  rw[zfw]
  simp only[z3f,List.append_nil,Int.lt_irrefl,decide_false,cond_false]
  exact⟨_,rfl⟩
 | x::post,pre,n+1,hn,hl=>by
  simp only[List.length_cons]at hn
  have hb:pre.length<9223372036854775807:=by simp at hl;omega
  obtain⟨r,ih⟩:=yed post (pre++[x]) n (by omega) (by simpa using hl)
  rw[←U2 (pre:=pre) (q:=x) (post:=post)]at ih
  rw[zfw]
  simp only[z3f,U9,cond_true,V1 (q:=x) hb,ih]
  rw[gd_t V7,gd_t V7,gd_t V7]
  cases decide (bt (pre++x::post) (pre.length:Int)<33)<;>cases decide (126<bt (pre++x::post) (pre.length:Int))<;>cases eqi (bt (pre++x::post) (pre.length:Int)) 47<;>exact⟨_,rfl⟩
theorem y7h(k:B):∃b,z8e NN k=some b:=by
 simp only[z8e]
 by_cases h:(12:Int)<(k.length:Int)
 ·rw[show decide ((12:Int)<(k.length:Int))=true by simpa using h]
  cases decide ((k.length:Int)<1)<;>exact⟨_,rfl⟩
 ·obtain⟨r,hr⟩:=yed k [] NN (by have:=V0;omega) (by simp;omega)
  have hz:(([]:B).length:Int)=0:=rfl
  rw[hz,List.nil_append]at hr
  rw[hr]
  cases decide ((k.length:Int)<1)<;>cases decide ((12:Int)<(k.length:Int))<;>cases eqs k [46]<;>cases eqs k [46,46]<;>cases r<;>exact⟨_,rfl⟩
theorem y94(b:Bool):∀(post pre:List B) (n:Nat),post.length<n->(pre++post).length<1000000->∃r,z7y NN n b (pre.length:Int) (pre++post)=some r
 | _,_,0,h,_=>absurd h (Nat.not_lt_zero _)
 | [],pre,n+1,_,_=>by
  rw[zed]
  simp only[z29,List.append_nil,Int.lt_irrefl,decide_false,cond_false]
  exact⟨_,rfl⟩
 | x::post,pre,n+1,hn,hl=>by
  simp only[List.length_cons]at hn
  have hb:pre.length<9223372036854775807:=by simp at hl;omega
  obtain⟨r,ih⟩:=y94 b post (pre++[x]) n (by omega) (by simpa using hl)
  rw[←U2 (pre:=pre) (q:=x) (post:=post)]at ih
  obtain⟨c,hc⟩:=y7h x
  rw[zed]
  simp only[z29,U9,cond_true,U3,hc,V1 (q:=x) hb,ih]
  rw[gd_t V7]
  cases c<;>exact⟨_,rfl⟩
theorem zwi{k:B}(h:k.length<1000000):∃b,z88 NN k=some b:=by
 obtain⟨l,b,h1,h2⟩:=yj7 h
 obtain⟨r,hr⟩:=y94 b l [] NN (by have:=V0;omega) (by simp;omega)
 have hz:(([]:List B).length:Int)=0:=rfl
 rw[hz,List.nil_append]at hr
 simp only[z88,h1,hr]
 cases r<;>exact⟨_,rfl⟩
theorem yey:∀(d j:Nat) (a:Int) (b:B) (n:Nat),j+d=8->d<n->0<=a->a<4294967296->b.length<=j->∃r,z9o NN n a b (j:Int)=some (r,())∧r.length<=8
 | _,_,_,_,0,_,h,_,_,_=>absurd h (Nat.not_lt_zero _)
 | 0,j,a,b,n+1,hj,_,_,_,hb=>by
  rw[zfx]
  simp only[z3g]
  rw[Y3 (by simp;omega)]
  exact⟨b,rfl,by omega⟩
 | d+1,j,a,b,n+1,hj,hn,h0,h1,hb=>by
  have t1:Int.tmod a 16=a%16:=Int.tmod_eq_emod_of_nonneg h0
  have t2:Int.tdiv a 16=a/16:=Int.tdiv_eq_ediv_of_nonneg h0
  obtain⟨m,hm⟩:∃m:Nat,a%16=(m:Int):=⟨(a%16).toNat,by omega⟩
  have hm2:m<16:=by omega
  have w1:IntKind.wrap .i64 ((m:Int)+1)=(m:Int)+1:=w64 (by omega) (by omega)
  have w2:IntKind.wrap .i64 (a/16)=a/16:=w64 (by omega) (by omega)
  have w3:IntKind.wrap .i64 ((j:Int)+1)=((j+1:Nat):Int):=by rw[w64 (by omega) (by omega)];rfl
  have hc:=yb1 ([48,49,50,51,52,53,54,55,56,57,97,98,99,100,101,102]:B) m
  obtain⟨r,r1,r2⟩:=yey d (j+1) (a/16) (cut2 ([48,49,50,51,52,53,54,55,56,57,97,98,99,100,101,102]:B) (m:Int) ((m:Int)+1)++b) n (by omega) (by omega) (by omega) (by omega) (by rw[List.length_append];omega)
  refine⟨r, ?_,r2⟩
  rw[zfx]
  simp only[z3g,t1,t2,hm,w1,w2,w3]
  rw[X6 (by simp;omega),gd_t (by simp;omega),gd_p (by simp only[maxS];omega)]
  exact r1
theorem yi1(a:Int):∃b,zkx NN a=some b:=by
 simp only[zkx]
 by_cases h0:a<0
 ·rw[X6 (by simpa using h0)];exact⟨_,rfl⟩
 ·rw[Y3 (by simpa using h0)]
  by_cases h1:2147483647<a
  ·rw[X6 (by simpa using h1)];exact⟨_,rfl⟩
  ·rw[Y3 (by simpa using h1)]
   obtain⟨r,r1,r2⟩:=yey 8 0 a [] NN rfl (by have:=V0;omega) (by omega) (by omega) (Nat.le_refl _)
   rw[show((0:Nat):Int)=0 from rfl]at r1
   rw[r1]
   simp only
   rw[gd_p (by simp only[maxS,List.length_cons,List.length_nil];omega),gd_p (by simp only[maxS,List.length_cons,List.length_nil,List.length_append];omega)]
   exact⟨_,rfl⟩
theorem y5h{k:B}(hk:k.length=10):∀(d j:Nat) (a:Int) (n:Nat),j+d=9->d<n->∃a',z6l NN n k a (j:Int)=some ((k,a'),())
 | _,_,_,0,_,h=>absurd h (Nat.not_lt_zero _)
 | 0,j,a,n+1,hj,_=>by
  rw[zcp]
  simp only[z0v]
  rw[Y3 (by simp;omega)]
  exact⟨a,rfl⟩
 | d+1,j,a,n+1,hj,hn=>by
  have w3:IntKind.wrap .i64 ((j:Int)+1)=((j+1:Nat):Int):=by rw[w64 (by omega) (by omega)];rfl
  have ih:=fun a=>y5h hk d (j+1) a n (by omega) (by omega)
  rw[zcp]
  simp only[z0v,w3]
  rw[X6 (by simp;omega),gd_t (U1 (by omega) (by omega))]
  cases decide ((48:Int)<=IntKind.wrap .i64 (bt k (j:Int)))
  ·exact ih _
  ·cases decide (IntKind.wrap .i64 (bt k (j:Int))<=57)
   ·exact ih _
   ·exact ih _
theorem zwz(k:B):∃b,z8t NN k=some b:=by
 simp only[z8t]
 by_cases h:k.length=10
 ·rw[Y3 (by rw[h];rfl)]
  obtain⟨a,ha⟩:=y5h h 8 1 0 NN rfl (by have:=V0;omega)
  rw[show((1:Nat):Int)=1 from rfl]at ha
  obtain⟨b,hb⟩:=yi1 a
  rw[ha]
  simp only[hb]
  exact⟨_,rfl⟩
 ·rw[X6 (by rw[G4 (by omega)];rfl)];exact⟨_,rfl⟩
theorem yhy{x:G3}(h:x.1.length<1000000):∃b,zi0 NN x=some b:=by
 obtain⟨v,hv⟩:=zwi h
 obtain⟨w,hw⟩:=zwz x.1
 obtain⟨nm,hnm⟩:=y7h x.2.2.2
 have p0:∃b,Q3 NN x=some (b,()):=by
  simp only[Q3,hv,hnm]
  cases eqi x.2.1 1<;>cases eqi x.2.1 2<;>cases decide (0<=x.2.2.1)<;>cases eqi x.2.1 3<;>cases eqi x.2.1 4<;>exact⟨_,rfl⟩
 obtain⟨b,hb⟩:=p0
 simp only[zi0,hv,hw,K2]
 cases v<;>cases w<;>cases eqi x.2.1 2<;>cases eqi x.2.2.1 0<;>cases eqi x.2.1 3<;>cases eqs x.2.2.2 []<;>simp only[Bool.not_true,Bool.not_false,cond_true,cond_false,hb]<;>exact⟨_,rfl⟩
theorem ylc{x:G3}(h:x.1.length<1000000)(h2:x.2.2.2.length<1000000):∃r,znx NN x=some r:=by
 obtain⟨b,hb⟩:=yhy h
 have by2:∀a c:Int,(zlq ([a,c]:List Int)).length=2:=fun _ _=>rfl
 simp only[znx,hb]
 cases b
 ·exact⟨_,rfl⟩
 ·simp only[Bool.not_true,cond_false]
  cases eqi x.2.1 1
  ·cases eqi x.2.1 2
   ·cases eqi x.2.1 3
    ·simp only[cond_false]
     rw[gd_p (by simp only[maxS,List.length_cons,List.length_nil];omega),gd_p (by simp only[maxS,List.length_cons,List.length_nil,List.length_append];omega)]
     exact⟨_,rfl⟩
    ·simp only[cond_false,cond_true]
     rw[gd_p (by simp only[maxS,List.length_cons,List.length_nil];omega),gd_p (by simp only[maxS,List.length_cons,List.length_nil,List.length_append];omega)]
     exact⟨_,rfl⟩
   ·simp only[cond_false,cond_true]
    rw[gd_p (by simp only[maxS,List.length_cons,List.length_nil];omega),gd_p (by rw[by2];simp only[maxS,List.length_cons,List.length_nil,List.length_append];omega)]
    exact⟨_,rfl⟩
  ·simp only[cond_true]
   rw[gd_p (by simp only[maxS,List.length_cons,List.length_nil];omega)]
   exact⟨_,rfl⟩
theorem y8v{k y:B}{i:Nat}{z:G3}(hi:i<k.length)(h1:z.1.length<=k.length)(hy:y.length<=k.length)(hz:z.2.2.2.length<=k.length):∃r,z3p NN k (i:Int) y z=some ((),(r,()))∧r.1.length<=k.length∧r.2.2.2.length<=k.length:=by
 have hc:(cut2 k (1:Int) (i:Int)).length<=k.length:=by simp[cut2];omega
 simp only[z3p]
 have g1:∀{α:Type} (f:Option α),0<i->gd (decide (0<=(1:Int))&&(decide ((1:Int)<=(i:Int))&&decide ((i:Int)<=(List.length k:Int)))) f=f:=fun f h=>gd_t (by simp;omega) f
 have g2:∀{α:Type} (f:Option α),gd (inB (0:Int) k.length) f=f:=fun f=>gd_t (U1 (by omega) (by omega)) f
 rcases Nat.eq_zero_or_pos i with h0 | h0
 ·rw[show decide ((0:Int)<(i:Int))=false by rw[h0];rfl]
  cases eqi z.2.1 3<;>cases eqi z.2.1 1<;>simp only[cond_true,cond_false]<;>first | exact⟨_,rfl,h1,hz⟩ | exact⟨_,rfl,h1,hy⟩
 ·simp only[g1 _ h0,g2]
  cases eqi z.2.1 3<;>cases eqi z.2.1 1<;>cases decide ((0:Int)<(i:Int))<;>cases eqi (bt k 0) 6<;>simp only[cond_true,cond_false]<;>first | exact⟨_,rfl,h1,hz⟩ | exact⟨_,rfl,h1,hy⟩ | exact⟨_,rfl,hc,hz⟩ | exact⟨_,rfl,hc,hy⟩
theorem yij{k:B}{i:Nat}(hi:i<k.length)(hk:k.length<1000000):∃r,zi1 NN k (i:Int)=some r∧r.1.length<=k.length∧r.2.2.2.length<=k.length:=by
 have w:IntKind.wrap .i64 ((i:Int)+1)=((i+1:Nat):Int):=by rw[w64 (by omega) (by omega)];rfl
 have c1:(cut2 k (0:Int) (i:Int)).length<=k.length:=by rw[y7b];simp;omega
 have c2:(cut2 k ((i+1:Nat):Int) (k.length:Int)).length<=k.length:=by rw[znm];simp
 have main:∀(a b:Int),∃r,(match z3p NN k (i:Int) (cut2 k ((i+1:Nat):Int) (k.length:Int)) ((cut2 k (0:Int) (i:Int)),(a,(b,([]:List UInt8))))with
   | some r5=>(some r5.2.1)
   | none=>none)=some r∧r.1.length<=k.length∧r.2.2.2.length<=k.length:=fun a b=>by
  obtain⟨r,r1,r2⟩:=y8v (y:=cut2 k ((i+1:Nat):Int) (k.length:Int)) (z:=((cut2 k (0:Int) (i:Int)),(a,(b,([]:List UInt8))))) hi c1 c2 (Nat.zero_le _)
  exact⟨r,by rw[r1],r2⟩
 simp only[zi1,w]
 rw[gd_t (by simp;omega),gd_t (U1 (by omega) (by omega)),gd_t (by simp;omega)]
 cases eqi (IntKind.wrap .i64 (bt k (i:Int))) 2
 ·exact main _ _
 ·simp only[cond_true]
  by_cases h2:(cut2 k ((i+1:Nat):Int) (k.length:Int)).length=2
  ·rw[X6 (by rw[h2];rfl),gd_t (by rw[h2];rfl),gd_t (by rw[h2];rfl)]
   exact main _ _
  ·rw[Y3 (G4 (by omega))]
   exact main _ _
theorem y9y{k:B}(hk:k.length<1000000):∀(post pre:B) (n:Nat),k=pre++post->post.length<n->∃r,z7z NN n k (pre.length:Int)=some r
 | _,_,0,_,h=>absurd h (Nat.not_lt_zero _)
 | [],pre,n+1,hkk,_=>by
  rw[zee]
  simp only[z2a]
  rw[Y3 (by rw[hkk];simp)]
  exact⟨_,rfl⟩
 | x::post,pre,n+1,hkk,hn=>by
  simp only[List.length_cons]at hn
  have hpl:pre.length<k.length:=by rw[hkk];simp
  have hb:pre.length<9223372036854775807:=by omega
  obtain⟨r,ih⟩:=y9y hk post (pre++[x]) n (by rw[hkk];simp) (by omega)
  obtain⟨z,z1,z2,z3⟩:=yij hpl hk
  obtain⟨y,hy⟩:=ylc (x:=z) (by omega) (by omega)
  have hin:inB (pre.length:Int) k.length=true:=U1 (by omega) (by omega)
  rw[zee]
  simp only[z2a,V1 (q:=x) hb,ih,z1,hy]
  rw[X6 (by simp;omega),gd_t hin,gd_t hin]
  cases decide (bt k (pre.length:Int)<1)<;>cases decide (3<bt k (pre.length:Int))<;>cases eqi y.2 0<;>cases eqs y.1 k<;>exact⟨_,rfl⟩
theorem y62{k:B}(hk:k.length<1000000):∃r,zdc NN k=some r:=by
 obtain⟨r,hr⟩:=y9y hk k [] NN rfl (by have:=V0;omega)
 have hz:(([]:B).length:Int)=0:=rfl
 rw[hz]at hr
 simp only[zdc,hr]
 cases r<;>exact⟨_,rfl⟩
theorem ygk{p:Pr}(hk:p.1.length<1000000):∃r,zf1 NN p=some r:=by
 obtain⟨r,hr⟩:=y62 hk
 simp only[zf1,hr]
 cases eqi r.2 0<;>cases eqi r.1.2.1 1<;>cases eqi r.1.2.1 2<;>cases eqi r.1.2.1 3<;>exact⟨_,rfl⟩
theorem y99:∀(post pre:List Pr) (n:Nat) (u:z93),post.length<n->(pre++post).length<1000000000->(∀p∈post,p.1.length<1000000)->∃u',z7w NN n (pre++post) (pre.length:Int) u=some (((),()),((),(u',())))
 | _,_,0,_,h,_,_=>absurd h (Nat.not_lt_zero _)
 | [],pre,n+1,u,_,_,_=>by
  rw[zea]
  simp only[z25,List.append_nil,Int.lt_irrefl,decide_false,cond_false]
  exact⟨u,rfl⟩
 | x::post,pre,n+1,u,hn,hl,hp=>by
  simp only[List.length_cons]at hn
  have hb:pre.length<9223372036854775807:=by simp at hl;omega
  obtain⟨c,hc⟩:=ygk (hp x (by simp))
  rw[zea]
  simp only[z25,U9,cond_true,U3,hc]
  rw[gd_t V7,V1 (q:=x) hb,U2 (pre:=pre) (q:=x) (post:=post)]
  exact y99 post (pre++[x]) n _ (by omega) (by simpa using hl) fun y hy=>hp y (by simp[hy])
theorem ygq{t:List Pr}(hl:t.length<1000000000)(hp:∀p∈t,p.1.length<1000000):∃u,zhy NN t=some u:=by
 obtain⟨u,hu⟩:=y99 t [] NN (0,0) (by have:=V0;omega) (by simpa using hl) hp
 have hz:(([]:List Pr).length:Int)=0:=rfl
 rw[hz,List.nil_append]at hu
 exact⟨u,by simp only[zhy,hu]⟩
theorem yh1{a b:B}(ha:a.length<1000000)(hb:b.length<1000000):∃r,zd8 NN a b=some r:=by
 obtain⟨va,h1⟩:=zwi ha
 obtain⟨vb,h2⟩:=zwi hb
 obtain⟨wa,h3⟩:=zwz a
 obtain⟨wb,h4⟩:=zwz b
 have p1:∀x y,∃r,z3m NN a b x y=some (r,()):=fun x y=>by
  simp only[z3m,h3,h4]
  cases x<;>cases y<;>cases wa<;>exact⟨_,rfl⟩
 have p0:∀x,∃r,z3n NN a b x=some (r,()):=fun x=>by
  obtain⟨r1,e1⟩:=p1 x vb
  obtain⟨r2,e2⟩:=p1 x false
  simp only[z3n,h1,h2,e1,e2]
  cases eqs a []<;>cases eqs b []<;>cases va<;>exact⟨_,rfl⟩
 obtain⟨r1,e1⟩:=p0 (eqi (bt b 0) 6)
 obtain⟨r2,e2⟩:=p0 false
 simp only[zd8,e1,e2]
 by_cases hca:0<a.length
 ·have ia:inB (0:Int) a.length=true:=U1 (by omega) (by omega)
  rw[show decide ((0:Int)<(a.length:Int))=true by simpa using hca,cond_true,gd_t ia]
  by_cases hcb:0<b.length
  ·have ib:inB (0:Int) b.length=true:=U1 (by omega) (by omega)
   rw[show decide ((0:Int)<(b.length:Int))=true by simpa using hcb,cond_true,gd_t ib]
   cases eqi (bt a 0) 6<;>exact⟨_,rfl⟩
  ·rw[show decide ((0:Int)<(b.length:Int))=false from decide_eq_false (by omega)]
   cases eqi (bt a 0) 6<;>exact⟨_,rfl⟩
 ·rw[show decide ((0:Int)<(a.length:Int))=false from decide_eq_false (by omega)]
  exact⟨_,rfl⟩
theorem ycn{g:Nat}(hg:g<40000){s:Y6}{m:Mg}(hm:GM g m):∃r,z62 NN s m=some r:=by
 have ent:∀k∈KU g,∃b,z9j NN k=some b:=fun k hk=>by
  obtain⟨r,hr⟩:=y62 (k:=k) (by have:=UU.len (UU.of hk);omega)
  simp only[z9j,hr]
  cases eqi r.2 0<;>exact⟨_,rfl⟩
 have ali:∀e:B×B,e∈ends->∃r,zd8 NN e.1 e.2=some r:=fun e he=>by
  have:=(z8x (Q0 he).1).2
  have:=(z8x (Q0 he).2).2
  exact yh1 (by omega) (by omega)
 cases hm with
 | put k v n hk hv=>
  obtain⟨b,hb⟩:=ent k hk
  simp only[z62,K4,cond_true,hb,z4p,zab]
  cases b<;>exact⟨_,rfl⟩
 | del k hk=>
  obtain⟨b,hb⟩:=ent k hk
  simp only[z62,show eqi (2:Int) 1=false by decide,K4,cond_true,cond_false,hb,z4p,zab]
  cases b<;>exact⟨_,rfl⟩
 | drop x hx=>exact⟨_,rfl⟩
 | stamp x n hx=>exact⟨_,rfl⟩
 | move e he=>
  obtain⟨r,hr⟩:=ali e he
  simp only[z62,show eqi (4:Int) 1=false by decide,show eqi (4:Int) 2=false by decide,show eqi (4:Int) 6=false by decide,show eqi (4:Int) 3=false by decide,show eqi (4:Int) 5=false by decide,cond_false,hr]
  cases r<;>exact⟨_,rfl⟩
 | clone e he=>
  obtain⟨r,hr⟩:=ali e he
  simp only[z62,show eqi (5:Int) 1=false by decide,show eqi (5:Int) 2=false by decide,show eqi (5:Int) 6=false by decide,show eqi (5:Int) 3=false by decide,K4,cond_true,cond_false,hr,z4p]
  cases r<;>exact⟨_,rfl⟩
theorem yji{nd:Nd}:∀(post pre:List Y6) (n:Nat) (s:Y6),nd.2.2.2.1=pre++post->post.length<n->(pre++post).length<1000000000->∃s',zb6 NN n (pre.length:Int) nd s=some (((),((),())),(nd,((),(s',()))))
 | _,_,0,_,_,h,_=>absurd h (Nat.not_lt_zero _)
 | [],pre,n+1,s,hk,_,_=>by
  rw[zhj]
  simp only[z4j,hk,List.append_nil,Int.lt_irrefl,decide_false,cond_false]
  exact⟨s,rfl⟩
 | x::post,pre,n+1,s,hk,hn,hl=>by
  simp only[List.length_cons]at hn
  have hb:pre.length<9223372036854775807:=by simp at hl;omega
  rw[zhj]
  simp only[z4j,hk,U9,cond_true,U3,zqr]
  rw[gd_t V7,V1 (q:=x) hb]
  exact yji post (pre++[x]) n _ (by rw[hk];simp) (by omega) (by simpa using hl)
theorem yjh{g:Nat}(hg:g<40000){nd:Nd}:∀(post pre:List Mg) (n:Nat) (s:Y6),nd.2.2.2.2=pre++post->post.length<n->(pre++post).length<1000000000->(∀m∈post,GM g m)->∃s',zb5 NN n (pre.length:Int) nd s=some (((),()),((),(s',())))
 | _,_,0,_,_,h,_,_=>absurd h (Nat.not_lt_zero _)
 | [],pre,n+1,s,hk,_,_,_=>by
  rw[zhi]
  simp only[z4i,hk,List.append_nil,Int.lt_irrefl,decide_false,cond_false]
  exact⟨s,rfl⟩
 | x::post,pre,n+1,s,hk,hn,hl,hm=>by
  simp only[List.length_cons]at hn
  have hb:pre.length<9223372036854775807:=by simp at hl;omega
  obtain⟨c,hc⟩:=ycn hg (s:=s) (hm x (by simp))
  rw[zhi]
  simp only[z4i,hk,U9,cond_true,U3,hc]
  rw[gd_t V7,V1 (q:=x) hb]
  exact yjh hg post (pre++[x]) n _ (by rw[hk];simp) (by omega) (by simpa using hl) fun y hy=>hm y (by simp[hy])
theorem ynu{G:Nat}(hG:G<40000):zgh G:=by
 intro nd h
 have hp:∀p∈nd.1,p.1.length<1000000:=fun p hp=>by have:=UU.len (UU.of (h.ps.key p hp).1);omega
 have hl:=h.ps.len
 obtain⟨u,hu⟩:=ygq (t:=nd.1) (by omega) hp
 obtain⟨s,hs⟩:=yji (nd:=nd) nd.2.2.2.1 [] NN ((0,0),(0,0)) rfl (by have:=V0;have:=h.sl;omega) (by have:=h.sl;simp;omega)
 obtain⟨s',hs'⟩:=yjh hG (nd:=nd) nd.2.2.2.2 [] NN s rfl (by have:=V0;have:=h.bl;omega) (by have:=h.bl;simp;omega) h.buf
 have z1:(([]:List Y6).length:Int)=0:=rfl
 have z2:(([]:List Mg).length:Int)=0:=rfl
 rw[z1]at hs
 rw[z2]at hs'
 simp only[zjg,hu,zmv,hs,hs']
 cases eqi (nd.2.2.1.length:Int) 0<;>exact⟨_,rfl⟩
theorem zr0(m0:List Sp)(E:List B)(hEl:E.length<=1000000)(hE:∀q∈m0,q.1∈E∧q.2∈E)(h0:([]:B)∈E):∀(post pre:List Sp) (n:Nat) (left:List Sp),(∀q∈post,q∈m0)->post.length<n->(pre++post).length<1000000->
  Sep left->(∀s∈left,s.1∈E∧s.2∈E)->∃r,z5g NN n (pre++post) (pre.length:Int) left=some ((),(r,()))∧(∀k,inS r k=(inS left k&& !(inS post k)))∧Sep r∧∀s∈r,s.1∈E∧s.2∈E
 | _,_,0,_,_,h,_,_,_=>absurd h (Nat.not_lt_zero _)
 | [],pre,n+1,left,_,_,_,hs,he=>by
  refine⟨left, ?_,fun k=>by simp[inS],hs,he⟩
  rw[v7]
  simp only[Q8,List.append_nil,Int.lt_irrefl,decide_false,cond_false]
 | q::post,pre,n+1,left,hm0,hn,hl,hs,he=>by
  simp only[List.length_cons]at hn
  have hll:=hs.len (E:=E) fun s h=>(he s h).1
  have hb:pre.length<9223372036854775807:=by simp at hl;omega
  have hq:=hE q (hm0 q (by simp))
  have hm0':∀x∈post,x∈m0:=fun x hx=>hm0 x (by simp[hx])
  cases e:emptyB q
  ·have hm:=yad NN (pm:=pre) (post':=post) (q:=q) left (by have:=V0;omega) (by omega)
   have sem:∀(l out:List Sp),(∀k,inS (l.foldl (z2r q) out) k=(inS out k || (inS l k&& !(hasB q k))))∧(l.foldl (z2r q) out).length<=out.length+2*l.length:=by
    intro l
    induction l with
    | nil=>intro out;exact⟨fun k=>by simp[inS],by simp⟩
    | cons x l ih=>
     intro out
     obtain⟨i1,i2⟩:=ih (z2r q out x)
     have hlen:(z2r q out x).length<=out.length+2:=by
      unfold z2r
      cases eqs q.1 []<;>cases eqs q.2 []<;>simp
     refine⟨fun k=> ?_, ?_⟩
     ·rw[List.foldl_cons,i1]
      unfold z2r
      rw[z8h,y13 e]
      have:inS (x::l) k=(hasB x k || inS l k):=by simp[inS]
      rw[this]
      cases inS out k<;>cases hasB x k<;>cases inS l k<;>cases hasB q k<;>rfl
     ·rw[List.foldl_cons];simp only[List.length_cons];omega
   have ends:∀(l out:List Sp),(∀s∈l,s.1∈E∧s.2∈E)->(∀s∈out,emptyB s=false->s.1∈E∧s.2∈E)->∀s∈l.foldl (z2r q) out,emptyB s=false->s.1∈E∧s.2∈E:=by
    intro l
    induction l with
    | nil=>intro out _ h;exact h
    | cons x l ih=>
     intro out hl ho
     rw[List.foldl_cons]
     refine ih _ (fun s hs=>hl s (by simp[hs])) fun s hs hfull=> ?_
     have hx:=hl x (by simp)
     unfold z2r at hs
     have two:∀y:Sp,y.1∈E->y.2∈E->s=G5 x y->s.1∈E∧s.2∈E:=by
      rintro y y1 y2 rfl
      obtain⟨f1,f2⟩:=y2k x y hfull
      exact⟨by rcases f1 with f | f<;>rw[f]<;>first | exact hx.1 | exact y1,by rcases f2 with f | f<;>rw[f]<;>first | exact hx.2 | exact y2⟩
     rcases List.mem_append.1 hs with hs | hs
     ·exact ho s hs hfull
     ·rcases List.mem_append.1 hs with hs | hs
      ·cases e1:eqs q.1 []<;>rw[e1]at hs<;>simp at hs
       exact two ([],q.1) h0 hq.1 hs
      ·cases e1:eqs q.2 []<;>rw[e1]at hs<;>simp at hs
       exact two (q.2,[]) hq.2 h0 hs
   obtain⟨s1,s2⟩:=sem left []
   simp only[List.length_nil,Nat.zero_add]at s2
   obtain⟨r,r1,r2,r3,r4,r5⟩:=zd2 NN (l:=left.foldl (z2r q) []) (by have:=V0;omega) (by omega)
   have r6:∀s∈r,s.1∈E∧s.2∈E:=by
    intro s hs
    have e0:=ends left [] he (fun s h=>by cases h)
    obtain⟨⟨x,hx,ex⟩,y,hy,ey⟩:=r5 s hs
    obtain⟨x1,x2⟩:=List.mem_filter.1 hx
    obtain⟨y1,y2⟩:=List.mem_filter.1 hy
    exact⟨by rw[ex];exact(e0 x x1 (by simpa using x2)).1,by rw[ey];exact(e0 y y1 (by simpa using y2)).2⟩
   obtain⟨r',i1,i2,i4,i5⟩:=zr0 m0 E hEl hE h0 post (pre++[q]) n r hm0' (by omega) (by simpa using hl) r4 r6
   refine⟨r', ?_,fun k=> ?_,i4,i5⟩
   ·rw[v7]
    simp only[Q8,U9,V7,cond_true,U3,z2t,e,cond_false,hm,r1]
    rw[gd_t rfl,V1 (q:=q) hb,U2 (pre:=pre) (q:=q) (post:=post),i1]
   ·rw[i2,r2,s1]
    have:inS (q::post) k=(hasB q k || inS post k):=by simp[inS]
    rw[this]
    have z:inS [] k=false:=rfl
    rw[z]
    cases inS left k<;>cases hasB q k<;>cases inS post k<;>rfl
  ·obtain⟨r',i1,i2,i4,i5⟩:=zr0 m0 E hEl hE h0 post (pre++[q]) n left hm0' (by omega) (by simpa using hl) hs he
   refine⟨r', ?_,fun k=> ?_,i4,i5⟩
   ·rw[v7]
    simp only[Q8,U9,V7,cond_true,U3,z2t,e]
    rw[gd_t rfl,V1 (q:=q) hb,U2 (pre:=pre) (q:=q) (post:=post),i1]
   ·rw[i2]
    have:inS (q::post) k=(hasB q k || inS post k):=by simp[inS]
    rw[this,zh8 e,Bool.false_or]
theorem y1w{l m:List Sp}{E:List B}(hEl:E.length<=1000000)(hE:∀q∈m,q.1∈E∧q.2∈E)(h0:([]:B)∈E)(hL:∀s∈l,emptyB s=false->s.1∈E∧s.2∈E)(hm:m.length<1000000)(hl:l.length<10000000):
  ∃r,Q7 NN l m=some r∧Sep r∧∀s∈r,s.1∈E∧s.2∈E:=by
 obtain⟨r,r1,r2,r3,r4,r5⟩:=zd2 NN (l:=l) (by have:=V0;omega) (by omega)
 have r6:∀s∈r,s.1∈E∧s.2∈E:=fun s hs=>by
  obtain⟨⟨x,hx,ex⟩,y,hy,ey⟩:=r5 s hs
  obtain⟨x1,x2⟩:=List.mem_filter.1 hx
  obtain⟨y1,y2⟩:=List.mem_filter.1 hy
  exact⟨by rw[ex];exact(hL x x1 (by simpa using x2)).1,by rw[ey];exact(hL y y1 (by simpa using y2)).2⟩
 obtain⟨r',i1,i2,i4,i5⟩:=zr0 m E hEl hE h0 m [] NN r (fun _ h=>h) (by have:=V0;omega) (by simpa using hm) r4 r6
 have hz:(([]:List Sp).length:Int)=0:=rfl
 simp only[List.nil_append,hz]at i1
 exact⟨r',by simp only[Q7,r1,i1],i4,i5⟩
theorem y74{ms:List Mg}(hm:∀m∈ms,GM 1 m)(hl:ms.length<1000000):∀(j:Nat) (n:Nat) (out:List Mg) (held:List Sp),j<=ms.length->j<n->(∀m∈out,GM 1 m)->out.length+j<=ms.length->Sep held->(∀s∈held,s.1∈UU 1∧s.2∈UU 1)->
  ∃r h,z9m NN n ms ((j:Int)-1) out held=some (((),((),())),((),(r,(h,()))))∧(∀m∈r,GM 1 m)∧r.length<=ms.length
 | _,0,_,_,_,h,_,_,_,_=>absurd h (Nat.not_lt_zero _)
 | 0,n+1,out,held,_,_,ho,hol,_,_=>by
  refine⟨out,held, ?_,ho,by omega⟩
  rw[zfu]
  simp only[z3d]
  rw[Y3 (by simp)]
 | j+1,n+1,out,held,hj,hn,ho,hol,hs,he=>by
  have hjl:j<ms.length:=by omega
  have hG:=hm ms[j] (List.getElem_mem hjl)
  obtain⟨w1,w2⟩:=wr_G hG (Nat.le_refl 1)
  obtain⟨l1,l2,l3⟩:=y0e ms[j]
  have hUl:=UU.length 1
  have hhl:=hs.len (E:=UU 1) fun s h=>(he s h).1
  have e1:((j+1:Nat):Int)-1=(j:Int):=by omega
  have e2:rdL ms (j:Int) U7=ms[j]:=by
   rw[yjq (x:=ms[j]) (by omega) (by simp[List.getElem?_eq_getElem hjl])]
  have e3:IntKind.wrap .i64 ((j:Int)-1)=(j:Int)-1:=w64 (by omega) (by omega)
  have hk:∀s∈kls ms[j],SpG 1 s:=fun s hs=>by
   unfold kls at hs
   cases h6:eqi ms[j].1 6<;>rw[h6]at hs
   ·exact w1 s hs
   ·cases hs
  obtain⟨r4,m1,m2,m3⟩:=y1w (l:=wr ms[j]) (m:=held) (E:=UU 1) (by omega) he (UU.nil 1) (fun s h _=>(w1 s h).2) (by omega) (by omega)
  obtain⟨r10,n1,n2,n3⟩:=y1w (l:=held++kls ms[j]) (m:=rds ms[j]) (E:=UU 1) (by omega) (fun s h=>(w2 s h).2) (UU.nil 1) (fun s h _=>by
   rcases List.mem_append.1 h with h | h
   ·exact he s h
   ·exact(hk s h).2) (by omega) (by rw[List.length_append];omega)
  rw[zfu]
  simp only[z3d,e1,e2,e3,z6m (g:=1) (by omega) hG,yfm (g:=1) (by omega) hG,zny hG,m1,n1,Option.bind_some,List.nil_append]
  rw[X6 (by simp),gd_t (U1 (by omega) (by omega))]
  cases eqi (r4.length:Int) 0
  ·rw[cond_false,gd_t (Y4 (by omega) (by omega)),gd_t (Y4 (by omega) (by omega)),gd_t (Y4 (by omega) (by omega))]
   exact y74 hm hl j n ([ms[j]]++out) r10 (by omega) (by omega) (fun m h=>by
    rcases List.mem_append.1 h with h | h
    ·simp at h;rw[h];exact hG
    ·exact ho m h) (by simp;omega) n2 n3
  ·rw[cond_true]
   exact y74 hm hl j n out held (by omega) (by omega) ho (by omega) hs he
theorem y61{ms:List Mg}(hm:∀m∈ms,GM 1 m)(hl:ms.length<1000000):∃r,zb7 NN ms=some r∧(∀m∈r,GM 1 m)∧r.length<=ms.length:=by
 obtain⟨r0,n1,n2,n3,n4,n5⟩:=zd2 NN (l:=[]) (by have:=V0;simp;omega) (by simp)
 obtain⟨r,h,h1,h2,h3⟩:=y74 hm hl ms.length NN [] r0 (Nat.le_refl _) (by have:=V0;omega) (fun m h=>by cases h) (by simp) n4 (fun s hs=>by
  have:r0=[]:=List.length_eq_zero_iff.1 (by simpa using n3)
  rw[this]at hs;cases hs)
 refine⟨r, ?_,h2,h3⟩
 simp only[zb7,zqs,n1,Option.bind_some]
 rw[w64 (by omega) (by omega),h1]
 rfl
theorem ybj{a b:List Mg}(ha:∀m∈a,GM 1 m)(hb:∀m∈b,GM 1 m)(hl:a.length+b.length<1000000):∃r,z86 NN a b=some r∧(∀m∈r,GM 1 m)∧r.length<=a.length+b.length:=by
 obtain⟨r,r1,r2,r3⟩:=y61 (ms:=a++b) (fun m h=>(List.mem_append.1 h).elim (ha m) (hb m)) (by rw[List.length_append];exact hl)
 refine⟨r, ?_,r2,by rw[←List.length_append];exact r3⟩
 simp only[z86,List.nil_append]
 rw[gd_t (Y4 (by omega) (by omega)),gd_t (Y4 (by omega) (by omega)),r1]
 rfl
theorem GT.mono{Γ K Φ Φ' b b' g:Nat}{T:Tr}(h:GT Γ K Φ b g T)(hb:b'<=b)(hΦ:Φ<=Φ'):GT Γ K Φ' b' g T:=
 ⟨h.g1,h.vt,by have:=h.gr;have:=y25 (show T.mv+b'<=T.mv+b by omega);omega,Nat.le_trans h.pot hΦ⟩
theorem yjd{Γ K Φ b g:Nat}(hΓ:Γ<950)(hΦ:Φ+(K+(5+48*(Γ+1)))<20000000){p:List Sl}{root:Int}{R:List Int}{T:Tr}{sh:V6}(hG:GT Γ K Φ (b+1) g T)(hP:PI p (root::R))(hu:Unf p root T)(hR:R.length<1000000){m:Mg}(hm:GM 1 m):
  ∃t' e,zjf NN (p,(root,sh)) m=some (t',e)∧(e≠0∨(e=0∧∃q root' T' g',t'=(q,(root',sh))∧GT Γ K (Φ+(K+(5+48*(Γ+1)))) b g' T'∧PI q (root'::R)∧Unf q root' T'∧∀x∈R,∀X,Unf p x X->Unf q x X)):=by
 have hle:=hG.le
 have hw:=ykg Γ m
 have hmg:GM g m:=hm.mono hG.g1
 obtain⟨g1,g2⟩:=y1b hu
 have pool:∀(nd:Nd) (T':Tr),UnfN p nd T'->nd.2.2.1.length<=40000->∃t' e,((z5j NN p nd).bind fun r5=>bif (!(eqi r5.2.2 (0:Int)))then(some (((p,(root,sh)):Y5),r5.2.2))else((z2f NN r5.1 root).bind fun r6=>some ((r6.1,(r5.2.1,sh)),(0:Int))))=some (t',e)∧
   (e≠0∨(e=0∧∃q root',t'=(q,(root',sh))∧PI q (root'::R)∧Unf q root' T'∧∀x∈R,∀X,Unf p x X->Unf q x X)):=fun nd T' hn hk=>by
  obtain⟨q,id,e,a1,a2⟩:=hP.add hn hk (by simp;omega)
  rw[a1]
  simp only[Option.bind_some]
  rcases a2 with a2 | ⟨rfl,a3,a4,a5⟩
  ·exact⟨_,_,by rw[X6 (by simp only[G4 a2];rfl)], .inl a2⟩
  ·obtain⟨q2,d1,d2,d3⟩:=PI.drop (L:=id::R) (a3.perm (by
    have:(root::R++[id]).Perm (root::(id::R)):=List.Perm.cons root (List.perm_append_comm (l₁:=R) (l₂:=[id]))
    exact this)) (by simp;omega)
   rw[Y3 (by rfl),d1]
   refine⟨_,_,rfl, .inr ⟨rfl,q2,id,rfl,d2,d3.unf d2.bal (d2.bal.mem id (by simp)) a5,fun x hx X hX=>d3.unf d2.bal (d2.bal.mem x (by simp[hx])) (a4.unf hX)⟩⟩
 have goal:∀(nd:Nd) (T':Tr) (g':Nat),UnfN p nd T'->nd.2.2.1.length<=40000->GT Γ K (Φ+(K+(5+48*(Γ+1)))) b g' T'->∃t' e,((z5j NN p nd).bind fun r5=>bif (!(eqi r5.2.2 (0:Int)))then(some (((p,(root,sh)):Y5),r5.2.2))else((z2f NN r5.1 root).bind fun r6=>some ((r6.1,(r5.2.1,sh)),(0:Int))))=some (t',e)∧
   (e≠0∨(e=0∧∃q root' T' g',t'=(q,(root',sh))∧GT Γ K (Φ+(K+(5+48*(Γ+1)))) b g' T'∧PI q (root'::R)∧Unf q root' T'∧∀x∈R,∀X,Unf p x X->Unf q x X)):=fun nd T' g' hn hk hT=>by
  obtain⟨t',e,h1,h2⟩:=pool nd T' hn hk
  refine⟨t',e,h1, ?_⟩
  rcases h2 with h2 | ⟨h2,q,root',h3,h4,h5,h6⟩
  ·exact .inl h2
  ·exact .inr ⟨h2,q,root',T',g',h3,hT,h4,h5,h6⟩
 simp only[zjf,zwf,Option.bind_some]
 cases vldB m
 ·exact⟨_,_,rfl, .inl (by decide)⟩
 rw[Y3 (by rfl),g1]
 simp only[Option.bind_some]
 rw[Y3 (by rfl)]
 have hgr:=hG.gr
 have hpot:=hG.pot
 have hvt:=hG.vt
 cases T with
 | leaf ps=>
  have e2:z9z (slA p root)=k8 ps:=g2
  simp only[VT]at hvt
  have hap:=y52 (by omega) hvt.1 hmg
  have e3:(k8 ps).1=ps:=rfl
  have e4:((app m ps,(k8 ps).2):Nd)=k8 (app m ps):=rfl
  rw[e2,X6 (by rfl)]
  simp only[e3,hap,Option.bind_some,e4]
  refine goal (k8 (app m ps)) (.leaf (app m ps)) (g+mvs m) rfl (by simp[k8]) ⟨Nat.le_trans hG.g1 (Nat.le_add_right _ _), ?_, ?_, ?_⟩
  ·simp only[VT]
   exact⟨ydf hvt.1 hmg,fun x _=>by rw[V9];cases x.1<;>rfl⟩
  ·have:=yjv m
   have z0:(Tr.leaf ps).mv=0:=rfl
   have z1:(Tr.leaf (app m ps)).mv=0:=rfl
   have z2:tri (b+1)=tri b+(b+1):=rfl
   rw[z0,Nat.zero_add,z2]at hgr
   rw[z1,Nat.zero_add];omega
  ·simp only[Tr.bw,Tr.fm,Tr.mv,Nat.mul_zero];omega
 | node ks piv buf=>
  obtain⟨kids,sums,e2,u2,u3,u4⟩:=g2
  have hvt0:=hvt
  simp only[VT]at hvt
  have hpl:=VTs.plen hvt.1
  obtain⟨_,_,hkl⟩:=VTs.piv hvt.1
  have hkl':=u4.len
  have hbl:=zbb (show g<=Γ by omega) fun m hm=>(hvt.2 m hm).1
  have hbw:wb Γ buf<=(Tr.node ks piv buf).bw Γ:=by simp only[Tr.bw,Tr.fm];omega
  have hmv:mvN (buf++[m])=mvN buf+mvs m:=by rw[z6o];simp[mvN]
  have hwb:wb Γ (buf++[m])=wb Γ buf+wm Γ m:=by rw[z8z,y36]
  have:=yjv m
  rw[e2,Y3 (G4 (by
   have:kids.length≠0:=fun h=>u3 (List.length_eq_zero_iff.1 h)
   simp only;omega)),gd_t (Y4 (by simp only;omega) (by omega)),gd_t (Y4 (by simp only[List.nil_append];omega) (by omega))]
  simp only[List.nil_append]
  refine goal ([],(piv,(kids,(sums,buf++[m])))) (.node ks piv (buf++[m])) g ⟨kids,sums,rfl,u2,u3,u4⟩ (by simp only;omega) ⟨hG.g1, ?_, ?_, ?_⟩
  ·simp only[VT]
   refine⟨hvt.1,fun x hx=> ?_⟩
   rcases List.mem_append.1 hx with hx | hx
   ·exact hvt.2 x hx
   ·simp at hx;rw[hx];exact⟨hmg,ybd m⟩
  ·simp only[Tr.mv]at hgr⊢
   rw[hmv]
   have:=y25 (show ks.mv+(mvN buf+mvs m)+b<=ks.mv+mvN buf+(b+1) by omega)
   omega
  ·simp only[Tr.mv,Tr.bw,Tr.fm]at hpot⊢
   rw[hmv,hwb]
   have e5:K*(ks.mv+(mvN buf+mvs m))=K*(ks.mv+mvN buf)+K*mvs m:=by rw[←Nat.add_assoc,Nat.mul_add]
   have e6:K*mvs m<=K*1:=Nat.mul_le_mul_left K this
   omega
def epR(e:W7):Int:=e.2.2.1
def epM(e:W7):List Mg:=e.2.2.2.2
structure FI (Γ K Φ b Λ leaf fan bl:Nat) (f:Z4):Prop where
 sh:f.2.1=shp leaf fan bl
 pi:PI f.1 (f.2.2.2.2.1::f.2.2.1.map epR)
 tr:∀x∈f.2.2.2.2.1::f.2.2.1.map epR,∃g T,GT Γ K Φ b g T∧Unf f.1 x T
 ne:f.2.2.1.length<=16
 ms:(∀m∈f.2.2.2.2.2.2,GM 1 m)∧f.2.2.2.2.2.2.length<=Λ
 es:∀e∈f.2.2.1,(∀m∈epM e,GM 1 m)∧((epM e).length<=Λ∧e.2.2.2.1.length<=12)
theorem FI.mono{Γ K Φ Φ' b b' Λ Λ' leaf fan bl:Nat}{f:Z4}(h:FI Γ K Φ b Λ leaf fan bl f)(hb:b'<=b)(hΦ:Φ<=Φ')(hΛ:Λ<=Λ'):FI Γ K Φ' b' Λ' leaf fan bl f:=
 ⟨h.sh,h.pi,fun x hx=>by obtain⟨g,T,h1,h2⟩:=h.tr x hx;exact⟨g,T,h1.mono hb hΦ,h2⟩,h.ne,⟨h.ms.1,Nat.le_trans h.ms.2 hΛ⟩,fun e he=>⟨(h.es e he).1,Nat.le_trans (h.es e he).2.1 hΛ,(h.es e he).2.2⟩⟩
section
variable {Γ K leaf fan bl:Nat} (hΓ:Γ<950) (hK:20*(Γ+1)+2*(5+48*(Γ+1))<=K) (hl1:1<=leaf) (hl2:leaf<1000000) (hf1:2<=fan) (hf2:fan<1000000)
include hΓ in
theorem addm_l0{f:Z4}{R:List Int}(hR:R.length<1000000){b:Nat}:∀(post pre:List Mg) (n Φ:Nat) (p:List Sl) (root:Int) (T:Tr) (g:Nat),post.length<n->(pre++post).length<1000000->Φ+post.length*(K+(5+48*(Γ+1)))<20000000->(∀m∈post,GM 1 m)->
  GT Γ K Φ (b+post.length) g T->PI p (root::R)->Unf p root T->
  (∃e,z4m NN n (pre++post) (pre.length:Int) f (p,(root,shp leaf fan bl))=some (.inl (((),e),(f,()))))∨
  ∃q root' T' g',z4m NN n (pre++post) (pre.length:Int) f (p,(root,shp leaf fan bl))=some (.inr ((pre++post,((),((),()))),(f,((),((q,(root',shp leaf fan bl)),())))))∧GT Γ K (Φ+post.length*(K+(5+48*(Γ+1)))) b g' T'∧PI q (root'::R)∧Unf q root' T'∧∀x∈R,∀X,Unf p x X->Unf q x X
 | _,_,0,_,_,_,_,_,h,_,_,_,_,_,_=>absurd h (Nat.not_lt_zero _)
 | [],pre,n+1,Φ,p,root,T,g,_,_,_,_,hG,hP,hu=>by
  refine .inr ⟨p,root,T,g, ?_,by simpa using hG,hP,hu,fun x hx X hX=>hX⟩
  rw[zhb]
  simp only[z4b,List.append_nil,Int.lt_irrefl,decide_false,cond_false]
 | m::post,pre,n+1,Φ,p,root,T,g,hn,hl,hΦ,hm,hG,hP,hu=>by
  simp only[List.length_cons]at hn
  have hb:pre.length<9223372036854775807:=by simp at hl;omega
  generalize hC:K+(5+48*(Γ+1))=C at*
  have eC:(m::post).length*C=C+post.length*C:=by rw[List.length_cons,Nat.succ_mul,Nat.add_comm]
  rw[eC]at hΦ
  obtain⟨t',e,a1,a2⟩:=yjd (Φ:=Φ) (K:=K) (b:=b+post.length) (sh:=shp leaf fan bl) hΓ (by rw[hC];omega) (by
   have:b+(m::post).length=b+post.length+1:=by simp;omega
   rw[this]at hG;exact hG) hP hu hR (hm m (by simp))
  rw[hC]at a2
  have st:∀t e,zjf NN (p,(root,shp leaf fan bl)) m=some (t,e)->z4m NN (n+1) (pre++m::post) (pre.length:Int) f (p,(root,shp leaf fan bl))=bif !(eqi e 0)then some (.inl (((),e),(f,())))else z4m NN n (pre++m::post) ((pre++[m]).length:Int) f t:=fun t e h=>by
   rw[zhb]
   simp only[z4b,U9,cond_true,U3,h,Option.bind_some]
   rw[gd_t V7,V1 (q:=m) hb]
  rw[st t' e a1]
  rcases a2 with a2 | ⟨rfl,q,root',T',g',rfl,b1,b2,b3,b4⟩
  ·exact .inl ⟨e,by rw[G4 a2];rfl⟩
  ·rw[Y3 (by rfl),U2 (pre:=pre) (q:=m) (post:=post)]
   rcases addm_l0 hR post (pre++[m]) n (Φ+C) q root' T' g' (by omega) (by simpa using hl) (by rw[hC];omega) (fun x hx=>hm x (by simp[hx])) b1 b2 b3 with h | ⟨q2,root2,T2,g2,c1,c2,c3,c4,c5⟩
   ·exact .inl h
   ·rw[hC]at c2
    refine .inr ⟨q2,root2,T2,g2,c1, ?_,c3,c4,fun x hx X hX=>c5 x hx X (b4 x hx X hX)⟩
    rw[eC,←Nat.add_assoc];exact c2
end
section
variable {Γ K leaf fan bl:Nat} (hΓ:Γ<950) (hK:20*(Γ+1)+2*(5+48*(Γ+1))<=K) (hl1:1<=leaf) (hl2:leaf<1000000) (hf1:2<=fan) (hf2:fan<1000000)
include hΓ hK hl1 hl2 hf1 hf2 in
theorem yjc{Φ b Λ:Nat}{f:Z4}{l:List Mg}(hF:FI Γ K Φ (b+l.length) Λ leaf fan bl f)(hl:l.length<=1000)(hm:∀m∈l,GM 1 m)(hΦ:Φ+l.length*(K+(5+48*(Γ+1)))<20000000)(hΛ:Λ<100000):
  ∃f' e,zje NN f l=some (f',e)∧FI Γ K (Φ+l.length*(K+(5+48*(Γ+1)))) b (Λ+l.length) leaf fan bl f':=by
 have hF':FI Γ K (Φ+l.length*(K+(5+48*(Γ+1)))) b (Λ+l.length) leaf fan bl f:=hF.mono (by omega) (by omega) (by omega)
 obtain⟨p,sh,eps,next,root,parent,msgs⟩:=f
 have hsh:sh=shp leaf fan bl:=hF.sh
 subst hsh
 obtain⟨g,T,hG,hu⟩:=hF.tr root (by simp)
 have hne:eps.length<=16:=hF.ne
 have hms:(∀m∈msgs,GM 1 m)∧msgs.length<=Λ:=hF.ms
 have hP:PI p (root::eps.map epR):=hF.pi
 have hR:(eps.map epR).length<1000000:=by rw[List.length_map];omega
 have htree:zqq NN (p,(shp leaf fan bl,(eps,(next,(root,(parent,msgs)))))) 0=some ((p,(root,shp leaf fan bl)),0):=rfl
 simp only[zje,htree,Option.bind_some]
 have hz:(([]:List Mg).length:Int)=0:=rfl
 rcases addm_l0 (K:=K) (leaf:=leaf) (fan:=fan) (bl:=bl) hΓ (f:=(p,(shp leaf fan bl,(eps,(next,(root,(parent,msgs))))))) hR (b:=b) l [] NN Φ p root T g (by have:=V0;omega) (by simp;omega) hΦ hm hG hP hu with⟨e,h⟩ | ⟨q,root',T',g',h1,h2,h3,h4,h5⟩
 ·rw[hz,List.nil_append]at h
  rw[h]
  exact⟨_,_,rfl,hF'⟩
 ·rw[hz,List.nil_append]at h1
  rw[h1]
  simp only[Option.bind_some]
  obtain⟨t',c,e,p1,p2⟩:=ymd (bl:=bl) (ynu (by omega)) hΓ hK hΦ hl1 hl2 hf1 hf2 hR h2 h3 h4
  rw[p1]
  simp only[Option.bind_some]
  rcases p2 with p2 | ⟨rfl,q2,root2,T2,g2,rfl,k1,k2,k3,k4,k5⟩
  ·exact⟨_,_,by rw[X6 (by simp only[G4 p2];rfl)],hF'⟩
  ·obtain⟨r,r1,r2,r3⟩:=y61 (ms:=msgs++l) (fun m h=>(List.mem_append.1 h).elim (hms.1 m) (hm m)) (by rw[List.length_append];omega)
   rw[Y3 (by rfl),gd_t (Y4 (by omega) (by omega))]
   simp only[zqp,Option.bind_some,List.nil_append]
   rw[gd_t (Y4 (by omega) (by omega)),r1]
   refine⟨_,_,rfl,rfl,k3,fun x hx=> ?_,hne,⟨r2,by rw[List.length_append]at r3;show r.length<=_;omega⟩,fun e he=>⟨(hF.es e he).1,Nat.le_trans (hF.es e he).2.1 (Nat.le_add_right _ _),(hF.es e he).2.2⟩⟩
   rcases List.mem_cons.1 hx with rfl | hx
   ·exact⟨g2,T2,k1,k4⟩
   ·obtain⟨gx,X,hX,hXu⟩:=hF'.tr x (List.mem_cons_of_mem _ hx)
    exact⟨gx,X,hX,k5 x hx X (h5 x hx X hXu)⟩
theorem yeq{f:Z4}{id:Int}(hl:f.2.2.1.length<1000000):∀(d j:Nat) (n:Nat),j+d=f.2.2.1.length->d<n->∃r,z9b NN n id (j:Int) f=some r∧∀x,r= .inl x->0<=x.1∧x.1<(f.2.2.1.length:Int)
 | _,_,0,_,h=>absurd h (Nat.not_lt_zero _)
 | 0,j,n+1,hj,_=>by
  rw[zfi]
  simp only[z31]
  rw[Y3 (by simp;omega)]
  exact⟨_,rfl,fun x h=>by cases h⟩
 | d+1,j,n+1,hj,hn=>by
  have w3:IntKind.wrap .i64 ((j:Int)+1)=((j+1:Nat):Int):=by rw[w64 (by omega) (by omega)];rfl
  obtain⟨r,r1,r2⟩:=yeq hl d (j+1) n (by omega) (by omega)
  rw[zfi]
  simp only[z31,w3]
  rw[X6 (by simp;omega),gd_t (U1 (by omega) (by omega))]
  cases eqi (rdL f.2.2.1 (j:Int) X0).1 id
  ·exact⟨r,r1,r2⟩
  ·exact⟨_,rfl,fun x h=>by cases h;exact⟨by simp only;omega,by simp only;omega⟩⟩
theorem yf3{f:Z4}{id:Int}(hl:f.2.2.1.length<1000000):∃i,zc4 NN f id=some i∧(i<0∨(0<=i∧i<(f.2.2.1.length:Int))):=by
 obtain⟨r,r1,r2⟩:=yeq (id:=id) hl f.2.2.1.length 0 NN (by omega) (by have:=V0;omega)
 rw[show((0:Nat):Int)=0 from rfl]at r1
 simp only[zc4,r1,Option.bind_some]
 cases r with
 | inl x=>exact⟨x.1,rfl, .inr (r2 x rfl)⟩
 | inr x=>exact⟨_,rfl, .inl (by decide)⟩
theorem y92{Φ b Λ:Nat}{f:Z4}(hF:FI Γ K Φ b Λ leaf fan bl f)(id:Int):∃f' e,zeu NN f id=some (f',e)∧FI Γ K Φ b Λ leaf fan bl f':=by
 have hne:=hF.ne
 obtain⟨i,i1,i2⟩:=yf3 (f:=f) (id:=id) (by omega)
 obtain⟨p,sh,eps,next,root,parent,msgs⟩:=f
 have hP:PI p (root::eps.map epR):=hF.pi
 have hne:eps.length<=16:=hne
 simp only[zeu,i1,Option.bind_some]
 by_cases h0:i<0
 ·exact⟨_,_,by rw[X6 (by simpa using h0)],hF⟩
 ·have i2:=i2.resolve_left h0
  have hin:inB i eps.length=true:=U1 i2.1 i2.2
  have hmem:rdL eps i X0∈eps:=z6y i2.1 i2.2
  generalize rdL eps i X0=ep at hmem⊢
  have hx:epR ep∈eps.map epR:=List.mem_map.2 ⟨ep,hmem,rfl⟩
  obtain⟨q,a1,a2,a3⟩:=hP.hold (hP.bal.mem (epR ep) (by simp[hx])) (by simp;omega)
  obtain⟨q2,b1,b2,b3⟩:=PI.drop (L:=epR ep::eps.map epR) (a2.perm (List.Perm.swap root (epR ep) _)) (by simp;omega)
  rw[Y3 (by simpa using h0),gd_t hin]
  have a1':z8d NN p ep.2.2.1=some (q,0):=a1
  rw[a1']
  simp only[Option.bind_some,b1]
  rw[gd_t hin]
  refine⟨_,_,rfl,hF.sh,b2,fun x hx'=> ?_,hne,⟨fun m h=>(by cases h),Nat.zero_le _⟩,hF.es⟩
  have hx2:x∈root::eps.map epR:=by
   rcases List.mem_cons.1 hx' with rfl | h
   ·exact List.mem_cons_of_mem _ hx
   ·exact List.mem_cons_of_mem _ h
  obtain⟨gx,X,hX,hXu⟩:=hF.tr x hx2
  exact⟨gx,X,hX,b3.unf b2.bal (b2.bal.mem x hx') (a3.unf hXu)⟩
end
section
variable {Γ K leaf fan bl:Nat}
theorem ydt{f:Z4}{name:B}(hl:f.2.2.1.length<1000000):∀(d j:Nat) (n:Nat),j+d=f.2.2.1.length->d<n->z6s NN n name (j:Int) f=some (.inl ((),((f,((0:Int),(160:Int))),())))∨z6s NN n name (j:Int) f=some (.inr ((name,((),())),(f,((),()))))
 | _,_,0,_,h=>absurd h (Nat.not_lt_zero _)
 | 0,j,n+1,hj,_=>by
  rw[zfh]
  simp only[z30]
  rw[Y3 (by simp;omega)]
  exact .inr rfl
 | d+1,j,n+1,hj,hn=>by
  have w3:IntKind.wrap .i64 ((j:Int)+1)=((j+1:Nat):Int):=by rw[w64 (by omega) (by omega)];rfl
  have ih:=ydt (name:=name) hl d (j+1) n (by omega) (by omega)
  rw[zfh]
  simp only[z30,w3]
  rw[X6 (by simp;omega),gd_t (U1 (by omega) (by omega))]
  cases eqs (rdL f.2.2.1 (j:Int) X0).2.2.2.1 name
  ·exact ih
  ·exact .inl rfl
theorem yj8{k:B}(h:z8e NN k=some true):k.length<=12:=by
 rcases Nat.lt_or_ge 12 k.length with h1 | h1
 ·simp only[z8e]at h
  rw[show decide ((k.length:Int)<(1:Int))=false from decide_eq_false (by omega),Y3 (by rfl),X6 (decide_eq_true (by omega))]at h
  cases h
 ·exact h1
theorem ygt{Φ b Λ:Nat}{f:Z4}(hF:FI Γ K Φ b Λ leaf fan bl f)(name:B):∃f' r,zgo NN f name=some (f',r)∧FI Γ K Φ b Λ leaf fan bl f':=by
 have hne:=hF.ne
 obtain⟨v,hv⟩:=y7h name
 simp only[zgo,hv,Option.bind_some]
 cases v
 ·exact⟨_,_,rfl,hF⟩
 rw[Y3 (by rfl)]
 have hs:=ydt (f:=f) (name:=name) (by omega) f.2.2.1.length 0 NN (by omega) (by have:=V0;omega)
 rw[show((0:Nat):Int)=0 from rfl]at hs
 rcases hs with hs | hs
 ·rw[hs];exact⟨_,_,rfl,hF⟩
 ·rw[hs]
  simp only[Option.bind_some]
  by_cases h16:(16:Int)<=(f.2.2.1.length:Int)
  ·exact⟨_,_,by rw[X6 (by simpa using h16)],hF⟩
  ·obtain⟨p,sh,eps,next,root,parent,msgs⟩:=f
   have hP:PI p (root::eps.map epR):=hF.pi
   have h16:¬((16:Int)<=(eps.length:Int)):=h16
   obtain⟨q,a1,a2,a3⟩:=hP.hold (hP.bal.mem root (by simp)) (by simp;omega)
   rw[Y3 (decide_eq_false h16),a1]
   simp only[Option.bind_some,List.nil_append]
   rw[gd_t (Y4 (by omega) (by omega)),gd_t (Y4 (by simp only[List.length_cons,List.length_nil];omega) (by omega))]
   refine⟨_,_,rfl,hF.sh, ?_,fun x hx=> ?_,by simp only[List.length_append,List.length_cons,List.length_nil];omega,⟨fun m h=>(by cases h),Nat.zero_le _⟩,fun e he=> ?_⟩
   ·refine a2.perm ?_
    show(root::root::eps.map epR).Perm (root::(eps++[(next,(parent,(root,(name,msgs))))]).map epR)
    rw[List.map_append]
    exact List.Perm.cons root (List.perm_append_comm (l₁:=[root]) (l₂:=eps.map epR))
   ·have hx2:x∈root::eps.map epR:=by
     have hx:x∈root::(eps++[(next,(parent,(root,(name,msgs))))]).map epR:=hx
     rw[List.map_append]at hx
     simp only[List.mem_cons,List.mem_append,List.map_cons,List.map_nil,List.mem_singleton]at hx⊢
     rcases hx with h | h | h
     ·exact .inl h
     ·exact .inr h
     ·rcases h with h | h
      ·exact .inl h
      ·cases h
    obtain⟨gx,X,hX,hXu⟩:=hF.tr x hx2
    exact⟨gx,X,hX,a3.unf hXu⟩
   ·rcases List.mem_append.1 he with he | he
    ·exact hF.es e he
    ·simp only[List.mem_singleton]at he
     subst he
     exact⟨hF.ms.1,hF.ms.2,yj8 hv⟩
end
def rts(i:Int):Nat->List W7->List Int
 | _,[]=>[]
 | j,e::es=>if(j:Int)=i then rts i (j+1) es else epR e::rts i (j+1) es
theorem ydw{i:Int}:∀(es:List W7) (j:Nat),i<(j:Int)->rts i j es=es.map epR
 | [],_,_=>rfl
 | e::es,j,h=>by
  have:¬(j:Int)=i:=by omega
  simp only[rts,if_neg this,List.map_cons,ydw (i:=i) es (j+1) (by omega)]
theorem y9o{i:Int}:∀(es:List W7) (j:Nat),(j:Int)<=i->i<(j:Int)+es.length->(es.map epR).Perm (epR (rdL es (i-(j:Int)) X0)::rts i j es)
 | [],j,h,h2=>by simp at h2;omega
 | e::es,j,h,h2=>by
  by_cases hj:(j:Int)=i
  ·have:i-(j:Int)=0:=by omega
   rw[this]
   simp only[rts,if_pos hj,ydw (i:=i) es (j+1) (by omega),List.map_cons]
   exact List.Perm.refl _
  ·have ih:=y9o (i:=i) es (j+1) (by omega) (by simp only[List.length_cons]at h2;omega)
   have e1:rdL (e::es) (i-(j:Int)) X0=rdL es (i-((j+1:Nat):Int)) X0:=by
    have:(i-(j:Int)).toNat=(i-((j+1:Nat):Int)).toNat+1:=by omega
    simp only[rdL,this,List.getD_cons_succ]
   simp only[rts,if_neg hj,List.map_cons,e1]
   exact(List.Perm.cons _ ih).trans (List.Perm.swap _ _ _)
theorem yk1{Λ:Nat}{f:Z4}{id i:Int}{gone:W7}(hg:(∀m∈epM gone,GM 1 m)∧((epM gone).length<=Λ∧gone.2.2.2.1.length<=12))(hΛ:Λ<100000)(hes:∀e∈f.2.2.1,(∀m∈epM e,GM 1 m)∧((epM e).length<=Λ∧e.2.2.2.1.length<=12))(hne:f.2.2.1.length<=16){b5:List Sl}{b6 b7 b8 b9 b10 b11:Int}{b12:List Mg}:
  ∀(post pre:List W7) (n:Nat) (out:List W7),f.2.2.1=pre++post->post.length<n->out.length<=pre.length->(∀e∈out,(∀m∈epM e,GM 1 m)∧((epM e).length<=2*Λ∧e.2.2.2.1.length<=12))->
   ∃out',z40 NN n id i (pre.length:Int) f gone b5 b6 b7 b8 b9 b10 b11 b12 out=some ((id,((),((),((),())))),(f,((),(gone,((b5,(b6,(b7,(b8,((),(b9,(b10,(b11,b12)))))))),(out',()))))))∧out'.map epR=out.map epR++rts i pre.length post∧out'.length<=16∧∀e∈out',(∀m∈epM e,GM 1 m)∧((epM e).length<=2*Λ∧e.2.2.2.1.length<=12)
 | _,_,0,_,_,h,_,_=>absurd h (Nat.not_lt_zero _)
 | [],pre,n+1,out,hk,_,ho,hout=>by
  refine⟨out, ?_,by simp[rts],by rw[hk]at hne;simp at hne;omega,hout⟩
  rw[zc5]
  simp only[z0g]
  rw[Y3 (by rw[hk];simp)]
 | e::post,pre,n+1,out,hk,hn,ho,hout=>by
  simp only[List.length_cons]at hn
  have hlen:f.2.2.1.length=pre.length+(post.length+1):=by rw[hk];simp
  have hb:pre.length<9223372036854775807:=by omega
  have hin:inB (pre.length:Int) f.2.2.1.length=true:=U1 (by omega) (by omega)
  have hrd:rdL f.2.2.1 (pre.length:Int) X0=e:=by rw[hk];exact U3
  have he:=hes e (by rw[hk];simp)
  have hpl:(pre++[e]).length=pre.length+1:=by simp
  obtain⟨r,r1,r2,r3⟩:=ybj (a:=epM gone) (b:=epM e) hg.1 he.1 (by have:=hg.2;have:=he.2;omega)
  have r1':z86 NN gone.2.2.2.2 e.2.2.2.2=some r:=r1
  have next:∀out2:List W7,out2.map epR=out.map epR++(if((pre.length:Nat):Int)=i then[]else[epR e])->out2.length<=pre.length+1->(∀e∈out2,(∀m∈epM e,GM 1 m)∧((epM e).length<=2*Λ∧e.2.2.2.1.length<=12))->
    ∃out',z40 NN n id i ((pre++[e]).length:Int) f gone b5 b6 b7 b8 b9 b10 b11 b12 out2=some ((id,((),((),((),())))),(f,((),(gone,((b5,(b6,(b7,(b8,((),(b9,(b10,(b11,b12)))))))),(out',()))))))∧out'.map epR=out.map epR++rts i pre.length (e::post)∧out'.length<=16∧∀e∈out',(∀m∈epM e,GM 1 m)∧((epM e).length<=2*Λ∧e.2.2.2.1.length<=12):=fun out2 h1 h2 h3=>by
   obtain⟨o,o1,o2,o3⟩:=yk1 hg hΛ hes hne (b5:=b5) (b6:=b6) (b7:=b7) (b8:=b8) (b9:=b9) (b10:=b10) (b11:=b11) (b12:=b12) post (pre++[e]) n out2 (by rw[hk];simp) (by omega) (by omega) h3
   refine⟨o,o1, ?_,o3⟩
   rw[o2,h1,hpl]
   by_cases hi:((pre.length:Nat):Int)=i
   ·simp[rts,hi]
   ·simp[rts,hi]
  have mem2:∀(x:W7),(∀m∈epM x,GM 1 m)∧((epM x).length<=2*Λ∧x.2.2.2.1.length<=12)->∀y∈out++[x],(∀m∈epM y,GM 1 m)∧((epM y).length<=2*Λ∧y.2.2.2.1.length<=12):=fun x hx y hy=>by
   rcases List.mem_append.1 hy with hy | hy
   ·exact hout y hy
   ·simp only[List.mem_singleton]at hy;rw[hy];exact hx
  rw[zc5]
  simp only[z0g,hrd,V1 (q:=e) hb]
  rw[X6 (by simp;omega),gd_t hin]
  by_cases hi:((pre.length:Nat):Int)=i
  ·have e0:eqi (pre.length:Int) i=true:=zw2.2 hi
   cases eqi e.2.1 id
   ·simp only[cond_false,e0,Bool.not_true]
    exact next out (by rw[if_pos hi,List.append_nil]) (by omega) hout
   ·simp only[cond_true,e0,Bool.not_true,cond_false,r1',Option.bind_some]
    exact next out (by rw[if_pos hi,List.append_nil]) (by omega) hout
  ·have e0:eqi (pre.length:Int) i=false:=G4 hi
   cases eqi e.2.1 id
   ·simp only[cond_false,e0,Bool.not_false,cond_true]
    rw[gd_t (Y4 (by simp only[List.length_cons,List.length_nil];omega) (by omega))]
    exact next (out++[e]) (by rw[if_neg hi];simp) (by simp;omega) (mem2 e ⟨he.1,by omega⟩)
   ·simp only[cond_true,e0,Bool.not_false,r1',Option.bind_some]
    rw[gd_t (Y4 (by simp only[List.length_cons,List.length_nil];omega) (by omega))]
    exact next (out++[(e.1,(gone.2.1,(e.2.2.1,(e.2.2.2.1,r))))]) (by rw[if_neg hi];simp[epR]) (by simp;omega) (mem2 _ ⟨r2,(by show r.length<=_;have:=hg.2;have:=he.2;omega),he.2.2⟩)
section
variable {Γ K leaf fan bl:Nat}
theorem y91{Φ b Λ:Nat}{f:Z4}(hF:FI Γ K Φ b Λ leaf fan bl f)(hΛ:Λ<100000)(id:Int):∃f' e,zet NN f id=some (f',e)∧FI Γ K Φ b (2*Λ) leaf fan bl f':=by
 have hne:=hF.ne
 have hF2:FI Γ K Φ b (2*Λ) leaf fan bl f:=hF.mono (Nat.le_refl _) (Nat.le_refl _) (by omega)
 obtain⟨i,i1,i2⟩:=yf3 (f:=f) (id:=id) (by omega)
 have hes:=hF.es
 have hms:=hF.ms
 have htr:=hF.tr
 have hsh:=hF.sh
 have hP:=hF.pi
 simp only[zet,i1,Option.bind_some]
 by_cases h0:i<0
 ·exact⟨_,_,by rw[X6 (by simpa using h0)],hF2⟩
 ·have i2:=i2.resolve_left h0
  have hin:inB i f.2.2.1.length=true:=U1 i2.1 i2.2
  have hmem:rdL f.2.2.1 i X0∈f.2.2.1:=z6y i2.1 i2.2
  have hperm:=y9o (i:=i) f.2.2.1 0 (by omega) (by omega)
  rw[show i-((0:Nat):Int)=i by omega]at hperm
  generalize rdL f.2.2.1 i X0=gone at hmem hperm⊢
  have hP2:PI f.1 (epR gone::(f.2.2.2.2.1::rts i 0 f.2.2.1)):=hP.perm ((List.Perm.cons _ hperm).trans (List.Perm.swap _ _ _))
  have hlr:(rts i 0 f.2.2.1).length+1=f.2.2.1.length:=by have:=hperm.length_eq;simp at this;omega
  obtain⟨q,d1,d2,d3⟩:=hP2.drop (by simp;omega)
  rw[Y3 (by simpa using h0),gd_t hin]
  have d1':z2f NN f.1 gone.2.2.1=some (q,0):=d1
  rw[d1']
  simp only[Option.bind_some]
  obtain⟨out,o1,o2,o3,o4⟩:=yk1 (hes gone hmem) hΛ hes hne (id:=id) (i:=i) (b5:=q) (b6:=f.2.1.1) (b7:=f.2.1.2.1) (b8:=f.2.1.2.2) (b9:=f.2.2.2.1) (b10:=f.2.2.2.2.1) (b11:=f.2.2.2.2.2.1) (b12:=f.2.2.2.2.2.2) f.2.2.1 [] NN [] rfl (by have:=V0;omega) (Nat.le_refl _) (fun e h=>by cases h)
  have hz:(([]:List W7).length:Int)=0:=rfl
  rw[hz]at o1
  simp only[List.map_nil,List.nil_append,List.length_nil]at o2
  rw[o1]
  simp only[Option.bind_some]
  have d2':PI q (f.2.2.2.2.1::out.map epR):=by rw[o2];exact d2
  have tr2:∀x∈f.2.2.2.2.1::out.map epR,∃g T,GT Γ K Φ b g T∧Unf q x T:=fun x hx=>by
   have hx2:x∈f.2.2.2.2.1::f.2.2.1.map epR:=by
    rcases List.mem_cons.1 hx with h | h
    ·rw[h];simp
    ·rw[o2]at h
     exact List.mem_cons_of_mem _ (hperm.mem_iff.2 (List.mem_cons_of_mem _ h))
   obtain⟨gx,X,hX,hXu⟩:=htr x hx2
   exact⟨gx,X,hX,d3.unf d2'.bal (d2'.bal.mem x hx) hXu⟩
  obtain⟨r,r1,r2,r3⟩:=ybj (a:=epM gone) (b:=f.2.2.2.2.2.2) (hes gone hmem).1 hms.1 (by have:=(hes gone hmem).2;have:=hms.2;omega)
  have r1':z86 NN gone.2.2.2.2 f.2.2.2.2.2.2=some r:=r1
  cases eqi f.2.2.2.2.2.1 id
  ·exact⟨_,_,rfl,hsh,d2',tr2,o3,⟨hms.1,by show f.2.2.2.2.2.2.length<=_;have:=hms.2;omega⟩,o4⟩
  ·simp only[cond_true,r1',Option.bind_some]
   exact⟨_,_,rfl,hsh,d2',tr2,o3,⟨r2,by show r.length<=_;have:=(hes gone hmem).2;have:=hms.2;omega⟩,o4⟩
end
def FS(k leaf fan bl:Nat)(f:Z4):Prop:=FI 904 104990 (148435*(6*k)) (42-6*k) (6*2^k) leaf fan bl f
theorem yos{Γ K Φ b Λ leaf fan bl:Nat}{f:Z4}(hF:FI Γ K Φ b Λ leaf fan bl f){n:Int}(h0:0<=n∧n<256):∃i,zne NN f n=some i:=by
 have hne:=hF.ne
 simp only[zne]
 by_cases h:f.2.2.1.length=0
 ·rw[X6 (by rw[h];rfl)];exact⟨_,rfl⟩
 ·have hz:eqi (f.2.2.1.length:Int) 0=false:=G4 (by omega)
  rw[hz,w64 (by omega) (by omega),Int.tmod_eq_emod_of_nonneg h0.1]
  simp only[cond_false,Bool.not_false]
  have h1:=Int.emod_nonneg n (show(f.2.2.1.length:Int)≠0 by omega)
  have h2:=Int.emod_lt_of_pos n (show(0:Int)<(f.2.2.1.length:Int) by omega)
  rw[gd_t rfl,gd_t (U1 h1 h2)]
  exact⟨_,rfl⟩
theorem ygv{n:Int}(h0:0<=n∧n<256):∃k,zgp NN n=some k:=by
 simp only[zgp]
 rw[Int.tmod_eq_emod_of_nonneg h0.1,gd_t (U1 (by omega) (by simp;omega))]
 exact⟨_,rfl⟩
theorem ygr{k leaf fan bl:Nat}(hk:k<7)(hl1:1<=leaf)(hl2:leaf<1000000)(hf1:2<=fan)(hf2:fan<1000000){f:Z4}(hF:FS k leaf fan bl f){x:G1}(hn:0<=x.2.1∧x.2.1<256)(hx:okT (.list w5) x.2.2):
  ∃f',zkk NN f x=some f'∧FS (k+1) leaf fan bl f':=by
 have hp2:(2:Nat)^(k+1)=2*2^k:=by rw[Nat.pow_succ];omega
 have hp1:(2:Nat)^k<=2^7:=Nat.pow_le_pow_right (by omega) (by omega)
 have hp0:1<=(2:Nat)^k:=Nat.pow_pos (by omega)
 have up:∀g,FI 904 104990 (148435*(6*k)) (42-6*k) (6*2^k) leaf fan bl g->FS (k+1) leaf fan bl g:=fun g h=>h.mono (by omega) (by omega) (by rw[hp2];omega)
 have up2:∀g,FI 904 104990 (148435*(6*k)) (42-6*k) (2*(6*2^k)) leaf fan bl g->FS (k+1) leaf fan bl g:=fun g h=>h.mono (by omega) (by omega) (by rw[hp2];omega)
 obtain⟨l,l1,l2,l3⟩:=ylp hx (k:=6) (by omega)
 obtain⟨fa,ea,a1,a2⟩:=yjc (Γ:=904) (K:=104990) (leaf:=leaf) (fan:=fan) (bl:=bl) (by omega) (by omega) hl1 hl2 hf1 hf2 (Φ:=148435*(6*k)) (b:=42-6*(k+1)) (Λ:=6*2^k) (f:=f) (l:=l) (FI.mono hF (by omega) (Nat.le_refl _) (Nat.le_refl _)) (by omega) l3 (by omega) (by omega)
 have a3:FS (k+1) leaf fan bl fa:=a2.mono (Nat.le_refl _) (by omega) (by rw[hp2];omega)
 obtain⟨nm,hnm⟩:=ygv hn
 obtain⟨fs,es,s1,s2⟩:=ygt hF nm
 obtain⟨id,hid⟩:=yos hF hn
 obtain⟨fb,eb,b1,b2⟩:=y92 hF id
 obtain⟨fd,ed,d1,d2⟩:=y91 hF (by omega) id
 have p0:z2o NN f x=some ((),(fd,())):=by simp only[z2o,hid,d1,Option.bind_some]
 have p1t:∀b0,z0f NN b0 true f x=some (.inl ((),(fa,()))):=fun b0=>by simp only[z0f,cond_true,l1,a1,Option.bind_some]
 simp only[zkk,p1t,Option.bind_some]
 have fin:∀b1:Bool,∃f',((z0f NN (Int.tmod x.1 (8:Int)) b1 f x).bind fun r23=>
   match r23 with
   | .inl r24=>(some r24.2.1)
   | .inr r25=>((z2o NN r25.2.1 r25.2.2.1).bind fun r26=>some r26.2.1))=some f'∧FS (k+1) leaf fan bl f':=fun b1'=>by
  cases b1'
  ·simp only[z0f,cond_false,hnm,s1,hid,b1,Option.bind_some]
   cases eqi (Int.tmod x.1 (8:Int)) 4
   ·cases eqi (Int.tmod x.1 (8:Int)) 5
    ·cases eqi (Int.tmod x.1 (8:Int)) 6
     ·simp only[cond_false,Option.bind_some,p0]
      exact⟨_,rfl,up2 _ d2⟩
     ·exact⟨_,rfl,up _ b2⟩
    ·exact⟨_,rfl,up _ s2⟩
   ·exact⟨_,rfl,up _ s2⟩
  ·rw[p1t]
   exact⟨_,rfl,a3⟩
 cases eqi (Int.tmod x.1 (8:Int)) 0
 ·cases eqi (Int.tmod x.1 (8:Int)) 1
  ·cases eqi (Int.tmod x.1 (8:Int)) 2
   ·exact fin _
   ·exact⟨_,rfl,a3⟩
  ·exact⟨_,rfl,a3⟩
 ·exact⟨_,rfl,a3⟩
theorem FS.up{k leaf fan bl:Nat}(hk:k<=7){f:Z4}(h:FS k leaf fan bl f):FS 7 leaf fan bl f:=by
 have hp1:(2:Nat)^k<=2^7:=Nat.pow_le_pow_right (by omega) hk
 exact FI.mono h (by omega) (by omega) (by omega)
theorem yef{leaf fan bl:Nat}(hl1:1<=leaf)(hl2:leaf<1000000)(hf1:2<=fan)(hf2:fan<1000000){l:List G1}(hx:okT (.list y9) l):∀(d j:Nat) (n:Nat) (f:Z4),j+d=7->d<n->FS j leaf fan bl f->
  ∃f',z9a NN n l (j:Int) f=some (((),()),((),(f',())))∧FS 7 leaf fan bl f'
 | _,_,0,_,_,h,_=>absurd h (Nat.not_lt_zero _)
 | d,j,n+1,f,hj,hn,hF=>by
  rw[zqf]
  simp only[z5m]
  by_cases h1:(j:Int)<(l.length:Int)
  ·rw[X6 (by simpa using h1)]
   cases d with
   | zero=>
    rw[Y3 (by simp;omega)]
    exact⟨f,rfl,hF.up (by omega)⟩
   | succ d=>
    have w3:IntKind.wrap .i64 ((j:Int)+1)=((j+1:Nat):Int):=by rw[w64 (by omega) (by omega)];rfl
    obtain⟨hlt,e⟩:=ymq l (j:Int) zie (by omega) h1
    have hmem:okT y9 (rdL (α:=G1) l (j:Int) zie):=by
     rw[e]
     exact hx.2 _ _ (List.getElem?_eq_getElem hlt)
    obtain⟨f',s1,s2⟩:=ygr (x:=rdL (α:=G1) l (j:Int) zie) (by omega) hl1 hl2 hf1 hf2 hF (z8v hmem.2.1) hmem.2.2
    rw[X6 (by simp;omega),gd_t (U1 (by omega) h1),s1]
    simp only[Option.bind_some,w3]
    exact yef hl1 hl2 hf1 hf2 hx d (j+1) n f' (by omega) (by omega) s2
  ·rw[Y3 (by simpa using h1)]
   exact⟨f,rfl,hF.up (by omega)⟩
theorem ym5:Bal [] []:=⟨fun s h=>(by cases h),fun s h=>(by cases h),fun i h=>by simp[W3]at h;omega,fun k h=>(by cases h),fun k h=>by simp[W0]at h,fun i h=>by simp[W3]at h;omega,⟨fun _=>0,fun i h=>by simp[W3]at h;omega⟩⟩
theorem yj6{leaf fan bl:Nat}(h1:2<=leaf∧leaf<=64)(h2:2<=fan∧fan<=16)(h3:1<=bl∧bl<=64):∃f e,zjd NN (shp leaf fan bl)=some (f,e)∧FS 0 leaf fan bl f:=by
 have hP:PI [] []:=⟨ym5,by simp,fun s h=>by cases h⟩
 obtain⟨q,id,e,a1,a2⟩:=hP.add (nd:=k8 []) (T:= .leaf []) rfl (by simp[k8]) (by simp)
 have e0:e=0:=by
  have:=y0p (N:=NN) (by have:=V0;omega) (p:=[]) (n:=k8 []) (by simp) (by simp[k8])
  rw[a1]at this
  injection this with this
  exact congrArg (fun r=>r.2.2) this
 subst e0
 rcases a2 with a2 | ⟨_,a3,a4,a5⟩
 ·exact absurd rfl a2
 have hr:zd6 NN (shp leaf fan bl)=some true:=by
  show zd6 NN ((leaf:Int),((fan:Int),(bl:Int)))=some true
  simp only[zd6]
  rw[X6 (by simp;omega),X6 (by simp;omega),X6 (by simp;omega),X6 (by simp;omega),X6 (by simp;omega),decide_eq_true (by omega)]
 have a1':z5j NN [] (([]:List Z3),(([]:List (List UInt8)),(([]:List Int),(([]:List Y6),([]:List Z1)))))=some (q,(id,0)):=a1
 simp only[zjd,zwe,hr,Option.bind_some,Bool.not_true,cond_false,a1']
 refine⟨(q,(shp leaf fan bl,([],(1,(id,(0,[])))))),0,rfl,⟨rfl,a3,fun x hx=> ?_,by simp,⟨fun m h=>(by cases h),Nat.zero_le _⟩,fun e h=>(by cases h)⟩⟩
 simp only[List.map_nil,List.mem_singleton]at hx
 subst hx
 refine⟨1, .leaf [],⟨Nat.le_refl 1, ?_,by decide,Nat.zero_le _⟩,a5⟩
 simp only[VT]
 exact⟨⟨List.Pairwise.nil,fun x h=>by cases h⟩,fun x h=>by cases h⟩
theorem ygz{n:Int}(hn:0<=n∧n<256){l:List G1}(hx:okT (.list y9) l):∃f leaf fan bl,zkl NN n l=some f∧FS 7 leaf fan bl f∧2<=leaf∧leaf<=5∧2<=fan∧fan<=4∧1<=bl∧bl<=5:=by
 obtain⟨k,hk⟩:∃k:Nat,n=(k:Int):=⟨n.toNat,by omega⟩
 subst hk
 have e1:Int.tmod (k:Int) 4=((k%4:Nat):Int):=by rw[Int.tmod_eq_emod_of_nonneg (by omega)];rfl
 have e2:Int.tdiv (k:Int) 4=((k/4:Nat):Int):=by rw[Int.tdiv_eq_ediv_of_nonneg (by omega)];rfl
 have e3:Int.tdiv (k:Int) 16=((k/16:Nat):Int):=by rw[Int.tdiv_eq_ediv_of_nonneg (by omega)];rfl
 have e4:Int.tmod ((k/4:Nat):Int) 3=((k/4%3:Nat):Int):=by rw[Int.tmod_eq_emod_of_nonneg (by omega)];rfl
 have e5:Int.tmod ((k/16:Nat):Int) 5=((k/16%5:Nat):Int):=by rw[Int.tmod_eq_emod_of_nonneg (by omega)];rfl
 have hs:zhp NN (k:Int)=some (shp (2+k%4) (2+k/4%3) (1+k/16%5)):=by
  simp only[zhp,w64 (show(-9223372036854775808:Int)<=(k:Int) by omega) (show(k:Int)<9223372036854775808 by omega),e1,e2,e3]
  rw[wnat (k/4) (by omega),wnat (k/16) (by omega),e4,e5]
  have q1:IntKind.wrap .i64 ((2:Int)+((k%4:Nat):Int))=((2+k%4:Nat):Int):=wnat (2+k%4) (by omega)
  have q2:IntKind.wrap .i64 ((2:Int)+((k/4%3:Nat):Int))=((2+k/4%3:Nat):Int):=wnat (2+k/4%3) (by omega)
  have q3:IntKind.wrap .i64 ((1:Int)+((k/16%5:Nat):Int))=((1+k/16%5:Nat):Int):=wnat (1+k/16%5) (by omega)
  rw[q1,q2,q3]
  rfl
 obtain⟨f0,e,n1,n2⟩:=yj6 (leaf:=2+k%4) (fan:=2+k/4%3) (bl:=1+k/16%5) (by omega) (by omega) (by omega)
 obtain⟨f,m1,m2⟩:=yef (by omega) (by omega) (by omega) (by omega) hx 7 0 NN f0 rfl (by have:=V0;omega) n2
 rw[show((0:Nat):Int)=0 from rfl]at m1
 refine⟨f,_,_,_, ?_,m2,by omega,by omega,by omega,by omega,by omega,by omega⟩
 simp only[zkl,hs,n1,m1,Option.bind_some]
theorem UnfL.mem{p:List Sl}{k:Int}:∀{ks:Trs} {kids:List Int},UnfL p kids ks->k∈kids->∃(a:Trs) (t:Tr) (b:Trs),ks=a.app (.cons t b)∧Unf p k t
 | .nil,[],_,h=>by cases h
 | .nil,_::_,h,_=>by simp[UnfL]at h
 | .cons _ _,[],h,_=>by simp[UnfL]at h
 | .cons t ts,x::kids,h,hk=>by
  simp only[UnfL]at h
  rcases List.mem_cons.1 hk with rfl | hk
  ·exact⟨.nil,t,ts,rfl,h.1⟩
  ·obtain⟨a,t',b,e,h'⟩:=UnfL.mem h.2 hk
   exact⟨.cons t a,t',b,by rw[e];rfl,h'⟩
structure InF (Γ W g:Nat) (lo hi:B) (T:Tr):Prop where
 g1:1<=g
 vt:VT g lo hi T
 gr:g+T.mv<=Γ
 bw:T.bw Γ<=W
theorem yhw{Γ K Φ b Λ leaf fan bl:Nat}{f:Z4}(hF:FI Γ K Φ b Λ leaf fan bl f):∀i,W3 f.1 i=true->∃T g lo hi,Unf f.1 i T∧InF Γ Φ g lo hi T:=by
 refine ynp hF.pi.bal (fun i=>∃T g lo hi,Unf f.1 i T∧InF Γ Φ g lo hi T) (fun k hk=> ?_) (fun i k hi hQ hk=> ?_)
 ·obtain⟨g,T,hG,hu⟩:=hF.tr k hk
  have:=hG.pot
  exact⟨T,g,[],[],hu,hG.g1,hG.vt,hG.le,by omega⟩
 ·obtain⟨T,g,lo,hi',hu,hI⟩:=hQ
  obtain⟨h1,h2,h3⟩:=zw5.1 hu
  cases T with
  | leaf ps=>
   have e:z9z (slA f.1 i)=k8 ps:=h3
   rw[zgd,e]at hk;cases hk
  | node ks piv buf=>
   obtain⟨kids,sums,e,u2,u3,u4⟩:=h3
   rw[zgd,e]at hk
   obtain⟨a,t,c,hks,ht⟩:=u4.mem hk
   subst hks
   have hvt:=hI.vt
   simp only[VT]at hvt
   obtain⟨pa,pb,l1,h1',ep,hk'⟩:=Kid.of hvt.1
   have hg:=hI.gr
   have hb:=hI.bw
   simp only[Tr.mv,Trs.app_mv,Trs.mv]at hg
   simp only[Tr.bw,Tr.fm,Trs.app_fm,Trs.fm]at hb
   exact⟨t,g,l1,h1',ht,hI.g1,hk'.ht,by omega,by simp only[Tr.bw];omega⟩
structure NodeF (nd:Nd):Prop where
 ps:Tb 904 nd.1
 piv:nd.2.1.length<=18100∧∀q∈nd.2.1,q∈KU 904
 kids:nd.2.2.1.length<=18101∧(nd.2.2.1≠[]->nd.2.2.1.length=nd.2.1.length+1∧nd.1=[])
 sums:nd.2.2.2.1.length=nd.2.2.1.length
 buf:nd.2.2.2.2.length<20000000∧∀m∈nd.2.2.2.2,GM 904 m
 empty:nd.2.2.1=[]->nd.2.1=[]∧nd.2.2.2.2=[]
theorem yi6{leaf fan bl:Nat}{f:Z4}(hF:FS 7 leaf fan bl f):∀i,W3 f.1 i=true->(slA f.1 i).2.1=false∧NodeF (z9z (slA f.1 i)):=by
 intro i hi
 obtain⟨T,g,lo,hi',hu,hI⟩:=yhw hF i hi
 obtain⟨h1,h2,h3⟩:=zw5.1 hu
 have hle:=hI.gr
 have hvt:=hI.vt
 refine⟨h2, ?_⟩
 cases T with
 | leaf ps=>
  have e:z9z (slA f.1 i)=k8 ps:=h3
  rw[e]
  simp only[VT]at hvt
  exact⟨hvt.1.mono (by omega),⟨by simp[k8],fun q h=>(by cases h)⟩,⟨by simp[k8],fun h=>absurd rfl h⟩,rfl,⟨by simp[k8],fun m h=>(by cases h)⟩,fun _=>⟨rfl,rfl⟩⟩
 | node ks piv buf=>
  obtain⟨kids,sums,e,u2,u3,u4⟩:=h3
  rw[e]
  simp only[VT]at hvt
  have hpl:=VTs.plen hvt.1
  obtain⟨_,hpk,hkl⟩:=VTs.piv hvt.1
  have hkl':=u4.len
  have hbl:=zbb (show g<=904 by omega) fun m hm=>(hvt.2 m hm).1
  have hbw:=hI.bw
  simp only[Tr.bw,Tr.fm]at hbw
  exact⟨⟨List.Pairwise.nil,fun x h=>(by cases h)⟩,⟨by simp only;omega,fun q h=>KU.mono (by omega) (hpk q h).1⟩,⟨by simp only;omega,fun _=>⟨by simp only;omega,rfl⟩⟩,u2,⟨by simp only;omega,fun m hm=>((hvt.2 m hm).1).mono (by omega)⟩,fun h=>absurd h u3⟩
theorem y77(a b c:Int):∃r,zjp NN a b c=some r:=by
 simp only[zjp];cases decide (b<=a)<;>exact⟨_,rfl⟩
theorem y1l(a:z4s):∃r,zd7 NN a=some r:=by
 simp only[zd7];cases decide (0<=a.1)<;>cases decide (a.1<=a.2)<;>exact⟨_,rfl⟩
theorem ylt(s:Sp)(k:B):∃r,zan NN s k=some r:=by
 simp only[zan];cases lts k s.1<;>cases eqs s.2 []<;>exact⟨_,rfl⟩
theorem zbj{j:Nat}(h:j<1000000000):IntKind.wrap .i64 ((j:Int)+1)=((j+1:Nat):Int):=wnat (j+1) (by omega)
theorem y4p{t:List Pr}(hl:t.length<1000000000):∀(d j:Nat) (n:Nat),j+d=t.length+1->1<=j->d<n->∃r,z7v NN n t (j:Int)=some r
 | _,_,0,_,_,h=>absurd h (Nat.not_lt_zero _)
 | d,j,n+1,hj,h1,hn=>by
  rw[zng]
  simp only[z4x]
  by_cases hlt:j<t.length
  ·cases d with
   | zero=>omega
   | succ d=>
    obtain⟨r,ih⟩:=y4p hl d (j+1) n (by omega) (by omega) (by omega)
    have w:IntKind.wrap .i64 ((j:Int)-1)=((j-1:Nat):Int):=by rw[w64 (by omega) (by omega)];omega
    rw[X6 (by simp;omega),w,gd_t (U1 (by omega) (by omega)),gd_t (U1 (by omega) (by omega)),zbj (by omega),ih]
    cases lts (rdL t ((j-1:Nat):Int) X4).1 (rdL t (j:Int) X4).1<;>exact⟨_,rfl⟩
  ·rw[Y3 (by simp;omega)];exact⟨_,rfl⟩
theorem yf8{t:List Pr}(hl:t.length<1000000000):∃r,zhx NN t=some r:=by
 obtain⟨r,hr⟩:=y4p hl t.length 1 NN (by omega) (by omega) (by have:=V0;omega)
 rw[show((1:Nat):Int)=1 from rfl]at hr
 simp only[zhx,hr]
 cases r<;>exact⟨_,rfl⟩
theorem y5g{nd:Nd}{s:Sp}(hl:nd.1.length<1000000000):∀(d j:Nat) (n:Nat),j+d=nd.1.length->d<n->∃r,z9i NN n (j:Int) nd s=some r
 | _,_,0,_,h=>absurd h (Nat.not_lt_zero _)
 | 0,j,n+1,hj,_=>by
  rw[zfr]
  simp only[z3a]
  rw[Y3 (by simp;omega)];exact⟨_,rfl⟩
 | d+1,j,n+1,hj,hn=>by
  obtain⟨r,ih⟩:=y5g (s:=s) hl d (j+1) n (by omega) (by omega)
  obtain⟨r1,e1⟩:=ylt s (rdL nd.1 (j:Int) X4).1
  obtain⟨r2,e2⟩:=y77 ((rdL nd.1 (j:Int) X4).1.length:Int) 1 65535
  obtain⟨r3,e3⟩:=y77 (rdL nd.1 (j:Int) X4).2.2 0 1000000000
  rw[zfr]
  simp only[z3a,e1,e2,e3,zbj (show j<1000000000 by omega),ih]
  rw[X6 (by simp;omega),gd_t (U1 (by omega) (by omega))]
  cases r1<;>cases r2<;>cases decide ((64:Int)<((rdL nd.1 (j:Int) X4).2.1.length:Int))<;>cases r3<;>exact⟨_,rfl⟩
theorem yg3{nd:Nd}{s:Sp}(hl:nd.1.length<1000000000):∃r,zkr NN nd s=some r:=by
 obtain⟨r,hr⟩:=y5g (s:=s) hl nd.1.length 0 NN (by omega) (by have:=V0;omega)
 rw[show((0:Nat):Int)=0 from rfl]at hr
 obtain⟨v,hv⟩:=yf8 hl
 simp only[zkr,hr,hv]
 cases decide ((0:Int)<(nd.2.1.length:Int))<;>cases decide ((0:Int)<(nd.2.2.2.1.length:Int))<;>cases decide ((0:Int)<(nd.2.2.2.2.length:Int))<;>cases v<;>cases r<;>exact⟨_,rfl⟩
theorem y53{l:List B}{s:Sp}(hl:l.length<1000000000):∀(d j:Nat) (n:Nat),j+d=l.length->d<n->∃r,z1b NN n l (j:Int) s=some r
 | _,_,0,_,h=>absurd h (Nat.not_lt_zero _)
 | 0,j,n+1,hj,_=>by
  rw[zcf]
  simp only[z0l]
  rw[Y3 (by simp;omega)];exact⟨_,rfl⟩
 | d+1,j,n+1,hj,hn=>by
  obtain⟨r,ih⟩:=y53 (s:=s) hl d (j+1) n (by omega) (by omega)
  have hin:inB (j:Int) l.length=true:=U1 (by omega) (by omega)
  rw[zcf]
  simp only[z0l,g8,g9,zbj (show j<1000000000 by omega),ih,cond_true,cond_false,hin]
  rw[X6 (by simp;omega),gd_t rfl]
  rcases Nat.eq_zero_or_pos j with h0 | h0
  ·subst h0
   have e0:decide ((0:Int)<((0:Nat):Int))=false:=rfl
   simp only[e0,cond_false]
   cases (lts (rdL l ((0:Nat):Int) []) s.1 || eqs (rdL l ((0:Nat):Int) []) s.1)<;>cases eqs s.2 []<;>cases lts (rdL l ((0:Nat):Int) []) s.2<;>first | exact⟨_,rfl⟩ | (refine⟨r, ?_⟩;show z1b NN n l (IntKind.wrap .i64 (((0:Nat):Int)+1)) s=some r;rw[zbj (by omega)];exact ih)
  ·have e0:decide ((0:Int)<(j:Int))=true:=by simpa using h0
   have hin2:inB (IntKind.wrap .i64 ((j:Int)-1)) l.length=true:=by rw[w64 (by omega) (by omega)];exact U1 (by omega) (by omega)
   simp only[e0,cond_true,hin2]
   generalize(lts (rdL l (j:Int) []) (rdL l (IntKind.wrap .i64 ((j:Int)-1)) []) || eqs (rdL l (j:Int) []) (rdL l (IntKind.wrap .i64 ((j:Int)-1)) []))=x
   cases (lts (rdL l (j:Int) []) s.1 || eqs (rdL l (j:Int) []) s.1)<;>cases eqs s.2 []<;>cases lts (rdL l (j:Int) []) s.2<;>cases x<;>first | exact⟨_,rfl⟩ | (refine⟨r, ?_⟩;show z1b NN n l (IntKind.wrap .i64 ((j:Int)+1)) s=some r;rw[zbj (by omega)];exact ih)
theorem yfs{l:List B}{s:Sp}(hl:l.length<1000000000):∃r,zex NN l s=some r:=by
 obtain⟨r,hr⟩:=y53 (s:=s) hl l.length 0 NN (by omega) (by have:=V0;omega)
 rw[show((0:Nat):Int)=0 from rfl]at hr
 simp only[zex,hr]
 cases r<;>exact⟨_,rfl⟩
theorem y5i{l:List Sp}{s:Sp}(hl:l.length<1000000000):∀(d j:Nat) (n:Nat),j+d=l.length->d<n->∃r,z6h NN n (j:Int) s l=some r
 | _,_,0,_,h=>absurd h (Nat.not_lt_zero _)
 | 0,j,n+1,hj,_=>by
  rw[zch]
  simp only[z0n]
  rw[Y3 (by simp;omega)];exact⟨_,rfl⟩
 | d+1,j,n+1,hj,hn=>by
  obtain⟨r,ih⟩:=y5i (s:=s) hl d (j+1) n (by omega) (by omega)
  rw[zch]
  simp only[z0n,yk4,zbj (show j<1000000000 by omega),ih]
  rw[X6 (by simp;omega),gd_t (U1 (by omega) (by omega))]
  cases covB s (rdL l (j:Int) Y7)<;>exact⟨_,rfl⟩
theorem yg4{g:Nat}(hg:g<1000000){m:Mg}(hm:GM g m)(s:Sp):∃r,zey NN m s=some r:=by
 obtain⟨h1,h2,_⟩:=y0e m
 obtain⟨r,hr⟩:=y5i (l:=rds m++wr m) (s:=s) (by simp;omega) (rds m++wr m).length 0 NN (by omega) (by have:=V0;simp;omega)
 rw[show((0:Nat):Int)=0 from rfl]at hr
 simp only[zey,zny hm,z6m hg hm]
 rw[gd_t (Y4 (by omega) (by omega)),hr]
 cases r<;>exact⟨_,rfl⟩
theorem y0h{g:Nat}(hg:g<1000000){nd:Nd}{s:Sp}(hl:nd.2.2.2.2.length<1000000000)(hm:∀m∈nd.2.2.2.2,GM g m):∀(d j:Nat) (n:Nat),j+d=nd.2.2.2.2.length->d<n->∃r,z7h NN n (j:Int) nd s=some r
 | _,_,0,_,h=>absurd h (Nat.not_lt_zero _)
 | 0,j,n+1,hj,_=>by
  rw[zdv]
  simp only[z1n]
  rw[Y3 (by simp;omega)];exact⟨_,rfl⟩
 | d+1,j,n+1,hj,hn=>by
  obtain⟨r,ih⟩:=y0h (s:=s) hg hl hm d (j+1) n (by omega) (by omega)
  have hin:inB (j:Int) nd.2.2.2.2.length=true:=U1 (by omega) (by omega)
  have hmem:rdL nd.2.2.2.2 (j:Int) U7∈nd.2.2.2.2:=z6y (by omega) (by omega)
  obtain⟨r1,e1⟩:=yg4 hg (hm _ hmem) s
  rw[zdv]
  simp only[z1n,zwf,e1,zbj (show j<1000000000 by omega),ih]
  rw[X6 (by simp;omega),gd_t hin,gd_t hin]
  cases vldB (rdL nd.2.2.2.2 (j:Int) U7)<;>cases r1<;>exact⟨_,rfl⟩
theorem y0i{nd:Nd}{s:Sp}(hl:nd.2.2.1.length<1000000000)(hs:nd.2.2.2.1.length=nd.2.2.1.length):∀(d j:Nat) (n:Nat),j+d=nd.2.2.1.length->d<n->(∃r,z5e NN n (j:Int) nd s=some (.inl r))∨z5e NN n (j:Int) nd s=some (.inr (((),()),(nd,(s,()))))
 | _,_,0,_,h=>absurd h (Nat.not_lt_zero _)
 | 0,j,n+1,hj,_=>by
  rw[zdw]
  simp only[z1o]
  rw[Y3 (by simp;omega)];exact .inr rfl
 | d+1,j,n+1,hj,hn=>by
  have ih:=y0i (s:=s) hl hs d (j+1) n (by omega) (by omega)
  have hin:inB (j:Int) nd.2.2.1.length=true:=U1 (by omega) (by omega)
  have hin2:inB (j:Int) nd.2.2.2.1.length=true:=U1 (by omega) (by omega)
  obtain⟨r1,e1⟩:=y77 (rdL nd.2.2.1 (j:Int) (0:Int)) 0 4095
  obtain⟨r2,e2⟩:=y1l (rdL nd.2.2.2.1 (j:Int) z5k).1
  obtain⟨r3,e3⟩:=y1l (rdL nd.2.2.2.1 (j:Int) z5k).2
  rw[zdw]
  simp only[z1o,e1,e2,e3,zbj (show j<1000000000 by omega)]
  rw[X6 (by simp;omega),gd_t hin,gd_t hin2,gd_t hin2]
  cases r1
  ·exact .inl ⟨_,rfl⟩
  cases r2
  ·exact .inl ⟨_,rfl⟩
  cases r3
  ·exact .inl ⟨_,rfl⟩
  exact ih
theorem yct{nd:Nd}(h:NodeF nd)(s:Sp):∃r,zhs NN nd s=some r:=by
 have hps:=h.ps.len
 obtain⟨hp1,_⟩:=h.piv
 obtain⟨hk1,_⟩:=h.kids
 obtain⟨hb1,hb2⟩:=h.buf
 have hsl:=h.sums
 obtain⟨r1,e1⟩:=yg3 (nd:=nd) (s:=s) (by omega)
 obtain⟨r2,e2⟩:=yfs (l:=nd.2.1) (s:=s) (by omega)
 obtain⟨r3,e3⟩:=y0h (g:=904) (by omega) (nd:=nd) (s:=s) (by omega) hb2 nd.2.2.2.2.length 0 NN (by omega) (by have:=V0;omega)
 have e4:=y0i (nd:=nd) (s:=s) (by omega) hsl nd.2.2.1.length 0 NN (by omega) (by have:=V0;omega)
 rw[show((0:Nat):Int)=0 from rfl]at e3 e4
 have p0:∃r,zat NN nd s=some r:=by
  simp only[zat]
  rcases e4 with⟨r4,e4⟩ | e4
  ·rw[e4];exact⟨_,rfl⟩
  ·rw[e4]
   simp only[e3]
   cases r3<;>exact⟨_,rfl⟩
 obtain⟨r5,e5⟩:=p0
 simp only[zhs,e1,e2,e5]
 cases eqi (nd.2.2.1.length:Int) 0<;>cases decide ((0:Int)<(nd.1.length:Int))<;>cases eqi (nd.2.2.2.1.length:Int) (nd.2.2.1.length:Int)<;>cases eqi (nd.2.1.length:Int) (IntKind.wrap .i64 ((nd.2.2.1.length:Int)-1))<;>cases r2<;>exact⟨_,rfl⟩
theorem ya6(x:Int):∀(d:Nat) (n:Nat) (out:List Int),d<=100->d<n->out.length+d<1000->∃r,z6g NN n x ((d:Int)-1) out=some ((),(r,()))∧r.length=out.length+d
 | _,0,_,_,h,_=>absurd h (Nat.not_lt_zero _)
 | 0,n+1,out,_,_,_=>by
  rw[zcg]
  simp only[z0m]
  rw[Y3 (by simp)];exact⟨out,rfl,rfl⟩
 | d+1,n+1,out,hd,hn,ho=>by
  have e1:((d+1:Nat):Int)-1=(d:Int):=by omega
  have w:IntKind.wrap .i64 ((d:Int)-1)=(d:Int)-1:=w64 (by omega) (by omega)
  have w8:IntKind.wrap .i64 ((8:Int)*(d:Int))=(8:Int)*(d:Int):=w64 (by omega) (by omega)
  rw[zcg]
  simp only[z0m,e1,w,w8]
  rw[X6 (by simp),gd_p (by omega),gd_t (Y4 (by omega) (by omega))]
  obtain⟨r,r1,r2⟩:=ya6 x d n (out++[IntKind.wrap .u8 (Int.fdiv x (2^min (Int.toNat ((8:Int)*(d:Int))) (IntKind.bits .i64)))]) (by omega) (by omega) (by simp;omega)
  exact⟨r,r1,by rw[r2];simp;omega⟩
theorem z8y(x:Int){d:Nat}(hd:d<=100):∃r,V8 NN x (d:Int)=some r∧r.length=d:=by
 obtain⟨r,r1,r2⟩:=ya6 x d NN [] hd (by have:=V0;omega) (by simp;omega)
 refine⟨r, ?_,by simpa using r2⟩
 simp only[V8]
 rw[w64 (by omega) (by omega),r1]
theorem ya7(x:Int){d:Nat}(hd:d<=100):∃r,z63 NN x (d:Int)=some r∧r.length=d:=z8y x hd
theorem yb6{l:List Int}(hl:l.length<10000000000000):∀(d j:Nat) (n:Nat) (c:Int),j+d=l.length->d<n->∃r,z7i NN n l c (j:Int)=some (r,())
 | _,_,0,_,_,h=>absurd h (Nat.not_lt_zero _)
 | 0,j,n+1,c,hj,_=>by
  rw[zdx]
  simp only[z1p]
  rw[Y3 (by simp;omega)];exact⟨c,rfl⟩
 | d+1,j,n+1,c,hj,hn=>by
  have w:IntKind.wrap .i64 ((j:Int)+1)=((j+1:Nat):Int):=by rw[w64 (by omega) (by omega)];rfl
  rw[zdx]
  simp only[z1p,w]
  rw[X6 (by simp;omega),gd_t (U1 (by omega) (by omega))]
  exact yb6 hl d (j+1) n _ (by omega) (by omega)
theorem y34{l:List Int}(hl:l.length<10000000000000):∃r,z15 NN l=some r:=by
 obtain⟨r,hr⟩:=yb6 hl l.length 0 NN 14695981039346656037 (by omega) (by have:=ydh;omega)
 rw[show((0:Nat):Int)=0 from rfl]at hr
 exact⟨r,by simp only[z15,hr]⟩
theorem zw8{k:B}(h:k.length<100000):∃r,zce NN k=some r∧r.length=2+k.length:=by
 obtain⟨r,r1,r2⟩:=z8y (k.length:Int) (d:=2) (by omega)
 have hb:(v8 k).length=k.length:=by simp[v8]
 have r1':V8 NN (k.length:Int) 2=some r:=r1
 refine⟨r++v8 k, ?_,by rw[List.length_append,r2,hb]⟩
 simp only[zce,r1']
 rw[gd_t (Y4 (by omega) (by omega))]
theorem y9b{L:Nat}(hL:L<100000):∀(post pre:List B) (n:Nat) (out:List Int),post.length<n->(pre++post).length<10->out.length<=(2+L)*pre.length->(∀k∈post,k.length<=L)->
  ∃r,z7q NN n (pre++post) (pre.length:Int) out=some ((),(r,()))∧r.length<=(2+L)*(pre++post).length
 | _,_,0,_,h,_,_,_=>absurd h (Nat.not_lt_zero _)
 | [],pre,n+1,out,_,_,ho,_=>by
  refine⟨out, ?_,by simpa using ho⟩
  rw[ze5]
  simp only[z1y,List.append_nil,Int.lt_irrefl,decide_false,cond_false]
 | k::post,pre,n+1,out,hn,hl,ho,hk=>by
  simp only[List.length_cons]at hn
  have hb:pre.length<9223372036854775807:=by simp at hl;omega
  have hpl:pre.length<10:=by simp at hl;omega
  have hk1:=hk k (by simp)
  have hbi:(v8 k).length=k.length:=by simp[v8]
  obtain⟨r2,e1,e2⟩:=ya7 (k.length:Int) (d:=2) (by omega)
  have e1':z63 NN (k.length:Int) 2=some r2:=e1
  have hm:(2+L)*pre.length<=(2+L)*10:=Nat.mul_le_mul_left _ (by omega)
  have hm2:(2+L)*(pre++[k]).length=(2+L)*pre.length+(2+L):=by rw[List.length_append,List.length_singleton,Nat.mul_succ]
  obtain⟨r,r1,r3⟩:=y9b hL post (pre++[k]) n (out++r2++v8 k) (by omega) (by simpa using hl) (by rw[hm2,List.length_append,List.length_append];omega) fun x hx=>hk x (by simp[hx])
  refine⟨r, ?_,by simpa using r3⟩
  rw[ze5]
  simp only[z1y,U9,cond_true,U3,e1']
  rw[gd_t V7,gd_t (Y4 (by omega) (by omega)),gd_t V7,gd_t (Y4 (by rw[List.length_append];omega) (by omega)),V1 (q:=k) hb,U2 (pre:=pre) (q:=k) (post:=post),r1]
theorem y9a{L:Nat}(hL:L<100000){l:List B}(hl:l.length<10)(hk:∀k∈l,k.length<=L):∃r,J3 NN l=some r∧r.length<=(2+L)*l.length:=by
 obtain⟨r,r1,r2⟩:=y9b hL l [] NN [] (by have:=V0;omega) (by simpa using hl) (Nat.zero_le _) hk
 have hz:(([]:List B).length:Int)=0:=rfl
 rw[hz,List.nil_append]at r1
 exact⟨r,by simp only[J3,r1],by simpa using r2⟩
theorem y0g{v:B}(hv:v∈values):v.length<=1000:=by
 have h:(values.all fun v=>Nat.ble v.length 1000)=true:=by decide+kernel
 exact Nat.le_of_ble_eq_true (List.all_eq_true.1 h v hv)
theorem y64{m:Mg}(hm:GM 904 m):∃r,zd9 NN m=some r∧r.length<=6000:=by
 have ul:∀u∈UU 904,u.length<=2000:=fun u hu=>by have:=UU.len hu;omega
 have p0:∀out:List Int,out.length<=5000->∃r,u9 NN m out=some ((),(r,()))∧r.length<=6000:=fun out ho=>by
  obtain⟨r4,e1,e2⟩:=ya7 m.2.2.2.2.2.2 (d:=4) (by omega)
  have e1':z63 NN m.2.2.2.2.2.2 4=some r4:=e1
  simp only[u9,e1']
  rw[gd_t (Y4 (by omega) (by omega))]
  cases eqi m.1 1<;>cases eqi m.1 6<;>first | exact⟨_,rfl,by rw[List.length_append];omega⟩ | exact⟨_,rfl,by omega⟩
 have two:∀a b:B,a.length<=2000->b.length<=2000->∃r,J3 NN [a,b]=some r∧r.length<=4004:=fun a b ha hb=>by
  obtain⟨r,r1,r2⟩:=y9a (L:=2000) (by omega) (l:=[a,b]) (by simp) (fun k hk=>by
   simp only[List.mem_cons,List.not_mem_nil,or_false]at hk
   rcases hk with rfl | rfl<;>assumption)
  exact⟨r,r1,by simpa using r2⟩
 have one:∀a:B,a.length<=2000->∃r,J3 NN [a]=some r∧r.length<=4004:=fun a ha=>by
  obtain⟨r,r1,r2⟩:=y9a (L:=2000) (by omega) (l:=[a]) (by simp) (fun k hk=>by simp at hk;rw[hk];exact ha)
  exact⟨r,r1,by simp at r2;omega⟩
 have fin:∀r:List Int,r.length<=4004->∃z,gd (fits (1+r.length) 1) (match u9 NN m ([(IntKind.wrap .u8 (m.1))]++r)with
   | some r8=>some r8.2.1
   | none=>none)=some z∧z.length<=6000:=fun r hr=>by
  obtain⟨z,z1,z2⟩:=p0 ([(IntKind.wrap .u8 (m.1))]++r) (by simp;omega)
  rw[gd_t (Y4 (by omega) (by omega)),z1]
  exact⟨z,rfl,z2⟩
 simp only[zd9,zwf]
 cases vldB m
 ·exact⟨[],rfl,by simp⟩
 rw[Y3 (by rfl)]
 cases hm with
 | put k v n hk hv=>
  obtain⟨r,r1,r2⟩:=two k v (ul k (UU.of hk)) (by have:=y0g hv;omega)
  rw[X6 (by rfl),show J3 NN [(y7q k v n).2.1,(y7q k v n).2.2.1]=some r from r1]
  exact fin r r2
 | del k hk=>
  obtain⟨r,r1,r2⟩:=one k (ul k (UU.of hk))
  rw[Y3 (by rfl),X6 (by rfl),show J3 NN [(yk2 k).2.1]=some r from r1]
  exact fin r r2
 | drop s hs=>
  obtain⟨r,r1,r2⟩:=two s.1 s.2 (ul _ hs.2.1) (ul _ hs.2.2)
  rw[Y3 (by rfl),Y3 (by rfl),X6 (by rfl)]
  simp only[show J3 NN [(zbo s).2.2.2.1.1,(zbo s).2.2.2.1.2]=some r from r1]
  exact fin r r2
 | stamp s n hs=>
  obtain⟨r,r1,r2⟩:=two s.1 s.2 (ul _ hs.2.1) (ul _ hs.2.2)
  rw[Y3 (by rfl),Y3 (by rfl),Y3 (by rfl),X6 (by rfl)]
  simp only[show J3 NN [(zjo s n).2.2.2.1.1,(zjo s n).2.2.2.1.2]=some r from r1]
  exact fin r r2
 | move e he=>
  have l1:=(z8x (Q0 he).1).2
  have l2:=(z8x (Q0 he).2).2
  obtain⟨r,r1,r2⟩:=two e.1 e.2 (by omega) (by omega)
  rw[Y3 (by rfl),Y3 (by rfl),Y3 (by rfl),Y3 (by rfl)]
  simp only[show J3 NN [(mv 4 e).2.2.2.2.1,(mv 4 e).2.2.2.2.2.1]=some r from r1]
  exact fin r r2
 | clone e he=>
  have l1:=(z8x (Q0 he).1).2
  have l2:=(z8x (Q0 he).2).2
  obtain⟨r,r1,r2⟩:=two e.1 e.2 (by omega) (by omega)
  rw[Y3 (by rfl),Y3 (by rfl),Y3 (by rfl),Y3 (by rfl)]
  simp only[show J3 NN [(mv 5 e).2.2.2.2.1,(mv 5 e).2.2.2.2.2.1]=some r from r1]
  exact fin r r2
theorem zr5{n:Nat}(h:n<4398046511104):fits n 1=true:=yda (by simp only[maxB];omega) (by simp only[maxB];omega)
theorem ymy{nd:Nd}(hl:nd.2.2.1.length<1000000):∀(d j:Nat) (n:Nat) (out:List Int),j+d=nd.2.2.1.length->d<n->out.length<=100+4*j->∃r,z7n NN n (j:Int) nd out=some (((),()),(nd,(r,())))∧r.length<=100+4*nd.2.2.1.length
 | _,_,0,_,_,h,_=>absurd h (Nat.not_lt_zero _)
 | 0,j,n+1,out,hj,_,ho=>by
  rw[ze2]
  simp only[z1v]
  rw[Y3 (by simp;omega)];exact⟨out,rfl,by omega⟩
 | d+1,j,n+1,out,hj,hn,ho=>by
  obtain⟨r1,e1,e2⟩:=z8y (rdL nd.2.2.1 (j:Int) (0:Int)) (d:=4) (by omega)
  have e1':V8 NN (rdL nd.2.2.1 (j:Int) (0:Int)) 4=some r1:=e1
  rw[ze2]
  simp only[z1v,e1',zbj (show j<1000000000 by omega)]
  rw[X6 (by simp;omega),gd_t (U1 (by omega) (by omega)),gd_t (Y4 (by omega) (by omega))]
  exact ymy hl d (j+1) n _ (by omega) (by omega) (by rw[List.length_append];omega)
theorem ymx{nd:Nd}{C:Nat}(hC:C<1000000000)(hl:nd.2.1.length<20000)(hk:∀q∈nd.2.1,q.length<=2000):∀(d j:Nat) (n:Nat) (out:List Int),j+d=nd.2.1.length->d<n->out.length<=C+2002*j->∃r,z7m NN n (j:Int) nd out=some (((),()),(nd,(r,())))∧r.length<=C+2002*nd.2.1.length
 | _,_,0,_,_,h,_=>absurd h (Nat.not_lt_zero _)
 | 0,j,n+1,out,hj,_,ho=>by
  rw[ze1]
  simp only[z1u]
  rw[Y3 (by simp;omega)];exact⟨out,rfl,by omega⟩
 | d+1,j,n+1,out,hj,hn,ho=>by
  have hq:=hk _ (z6y (d:=([]:B)) (show(0:Int)<=(j:Int) by omega) (by omega))
  obtain⟨r1,e1,e2⟩:=zw8 (k:=rdL nd.2.1 (j:Int) []) (by omega)
  rw[ze1]
  simp only[z1u,e1,zbj (show j<1000000000 by omega)]
  rw[X6 (by simp;omega),gd_t (U1 (by omega) (by omega)),gd_t (Y4 (by omega) (by omega))]
  exact ymx hC hl hk d (j+1) n _ (by omega) (by omega) (by rw[List.length_append];omega)
theorem ymw{nd:Nd}(hl:nd.1.length<20000)(hk:∀p∈nd.1,p.1.length<=2000∧p.2.1.length<=1000):∀(d j:Nat) (n:Nat) (out:List Int),j+d=nd.1.length->d<n->out.length<=100+4000*j->∃r,z7l NN n (j:Int) nd out=some ((),(r,()))∧r.length<=100+4000*nd.1.length
 | _,_,0,_,_,h,_=>absurd h (Nat.not_lt_zero _)
 | 0,j,n+1,out,hj,_,ho=>by
  rw[ze0]
  simp only[z1t]
  rw[Y3 (by simp;omega)];exact⟨out,rfl,by omega⟩
 | d+1,j,n+1,out,hj,hn,ho=>by
  obtain⟨q1,q2⟩:=hk _ (z6y (d:=X4) (show(0:Int)<=(j:Int) by omega) (by omega))
  obtain⟨r1,e1,f1⟩:=zw8 (k:=(rdL nd.1 (j:Int) X4).1) (by omega)
  obtain⟨r2,e2,f2⟩:=zw8 (k:=(rdL nd.1 (j:Int) X4).2.1) (by omega)
  obtain⟨r3,e3,f3⟩:=z8y (rdL nd.1 (j:Int) X4).2.2 (d:=4) (by omega)
  have e3':V8 NN (rdL nd.1 (j:Int) X4).2.2 4=some r3:=e3
  have hin:inB (j:Int) nd.1.length=true:=U1 (by omega) (by omega)
  rw[ze0]
  simp only[z1t,e1,e2,e3',zbj (show j<1000000000 by omega)]
  rw[X6 (by simp;omega),gd_t hin,gd_t (Y4 (by omega) (by omega)),gd_t hin,gd_t (Y4 (by rw[List.length_append];omega) (by omega)),gd_t hin,gd_t (Y4 (by rw[List.length_append,List.length_append];omega) (by omega))]
  exact ymw hl hk d (j+1) n _ (by omega) (by omega) (by rw[List.length_append,List.length_append,List.length_append];omega)
theorem ymu{nd:Nd}{C:Nat}(hC:C<4000000000)(hl:nd.2.2.2.2.length<20000000)(hm:∀m∈nd.2.2.2.2,GM 904 m):∀(d j:Nat) (n:Nat) (out:List Int),j+d=nd.2.2.2.2.length->d<n->out.length<=C+6000*j->∃r,z7j NN n (j:Int) nd out=some ((),(r,()))∧r.length<=C+6000*nd.2.2.2.2.length
 | _,_,0,_,_,h,_=>absurd h (Nat.not_lt_zero _)
 | 0,j,n+1,out,hj,_,ho=>by
  rw[zdy]
  simp only[z1r]
  rw[Y3 (by simp;omega)];exact⟨out,rfl,by omega⟩
 | d+1,j,n+1,out,hj,hn,ho=>by
  obtain⟨r1,e1,f1⟩:=y64 (hm _ (z6y (d:=U7) (show(0:Int)<=(j:Int) by omega) (by omega)))
  rw[zdy]
  simp only[z1r,e1,zbj (show j<1000000000 by omega)]
  rw[X6 (by simp;omega),gd_t (U1 (by omega) (by omega)),gd_t (zr5 (by omega))]
  exact ymu hC hl hm d (j+1) n _ (by omega) (by omega) (by rw[List.length_append];omega)
theorem yon{nd:Nd}{a:zuj}{i:Int}{out:List Int}(ho:out.length<4000000000):∃r,z12 NN NN i 0 nd out a=some (((),((),i)),(nd,(r,())))∧r.length=out.length+32:=by
 obtain⟨k,hk⟩:∃k,NN=k+5:=⟨NN-5,by have:=V0;omega⟩
 obtain⟨r1,e1,f1⟩:=z8y a.1 (d:=8) (by omega)
 obtain⟨r2,e2,f2⟩:=z8y a.2.1 (d:=8) (by omega)
 obtain⟨r3,e3,f3⟩:=z8y a.2.2.1 (d:=8) (by omega)
 obtain⟨r4,e4,f4⟩:=z8y a.2.2.2 (d:=8) (by omega)
 have e1':V8 NN a.1 8=some r1:=e1
 have e2':V8 NN a.2.1 8=some r2:=e2
 have e3':V8 NN a.2.2.1 8=some r3:=e3
 have e4':V8 NN a.2.2.2 8=some r4:=e4
 have g:∀n,z12 NN (n+5) i 0 nd out a=some (((),((),i)),(nd,(out++r1++r2++r3++r4,()))):=fun n=>by
  have s1:IntKind.wrap .i64 ((0:Int)+1)=1:=by decide
  have s2:IntKind.wrap .i64 ((1:Int)+1)=2:=by decide
  have s3:IntKind.wrap .i64 ((2:Int)+1)=3:=by decide
  have s4:IntKind.wrap .i64 ((3:Int)+1)=4:=by decide
  rw[show n+5=(n+4)+1 from rfl,z1q]
  simp only[J0]
  rw[X6 (by decide),Y3 (by decide),Y3 (by decide),Y3 (by decide),X6 (by decide),e1']
  simp only
  rw[gd_t (Y4 (by omega) (by omega)),s1,show n+4=(n+3)+1 from rfl,z1q]
  simp only[J0]
  rw[X6 (by decide),Y3 (by decide),Y3 (by decide),X6 (by decide),e2']
  simp only
  rw[gd_t (Y4 (by rw[List.length_append];omega) (by omega)),s2,show n+3=(n+2)+1 from rfl,z1q]
  simp only[J0]
  rw[X6 (by decide),Y3 (by decide),X6 (by decide),e3']
  simp only
  rw[gd_t (Y4 (by rw[List.length_append,List.length_append];omega) (by omega)),s3,show n+2=(n+1)+1 from rfl,z1q]
  simp only[J0]
  rw[X6 (by decide),X6 (by decide),e4']
  simp only
  rw[gd_t (Y4 (by rw[List.length_append,List.length_append,List.length_append];omega) (by omega)),s4,z1q]
  simp only[J0]
  rw[Y3 (by decide)]
 refine⟨out++r1++r2++r3++r4, ?_,by simp only[List.length_append];omega⟩
 rw[show z12 NN NN=z12 NN (k+5)from congrArg _ hk]
 exact g k
theorem ymv{nd:Nd}{C:Nat}(hC:C<1000000000)(hl:nd.2.2.2.1.length<20000):∀(d j:Nat) (n:Nat) (out:List Int),j+d=nd.2.2.2.1.length->d<n->out.length<=C+32*j->∃r,z7k NN n (j:Int) nd out=some (((),()),(nd,(r,())))∧r.length<=C+32*nd.2.2.2.1.length
 | _,_,0,_,_,h,_=>absurd h (Nat.not_lt_zero _)
 | 0,j,n+1,out,hj,_,ho=>by
  rw[zdz]
  simp only[z1s]
  rw[Y3 (by simp;omega)];exact⟨out,rfl,by omega⟩
 | d+1,j,n+1,out,hj,hn,ho=>by
  obtain⟨r1,e1,f1⟩:=yon (nd:=nd) (a:=(((rdL nd.2.2.2.1 (j:Int) z5k).1).1,(((rdL nd.2.2.2.1 (j:Int) z5k).1).2,((rdL nd.2.2.2.1 (j:Int) z5k).2)))) (i:=(j:Int)) (out:=out) (by omega)
  have hin:inB (j:Int) nd.2.2.2.1.length=true:=U1 (by omega) (by omega)
  rw[zdz]
  simp only[z1s,e1,zbj (show j<1000000000 by omega)]
  rw[X6 (by simp;omega),gd_t hin,gd_t hin,gd_t hin,gd_t hin]
  exact ymv hC hl d (j+1) n _ (by omega) (by omega) (by omega)
theorem ygw{nd:Nd}(h:NodeF nd):∃r,z4r NN nd=some r∧r.length<1000000000000:=by
 have hps:=h.ps.len
 obtain⟨hp1,hp2⟩:=h.piv
 obtain⟨hk1,_⟩:=h.kids
 obtain⟨hb1,hb2⟩:=h.buf
 have hsl:=h.sums
 obtain⟨v,hv⟩:=yct h ([],[])
 simp only[z4r,hv]
 cases v
 ·exact⟨[],rfl,by simp⟩
 rw[Y3 (by rfl)]
 cases eqi (nd.2.2.1.length:Int) 0
 ·obtain⟨r1,e1,f1⟩:=z8y (nd.2.2.1.length:Int) (d:=4) (by omega)
  have e1':V8 NN (nd.2.2.1.length:Int) 4=some r1:=e1
  obtain⟨r2,e2,f2⟩:=ymy (nd:=nd) (by omega) nd.2.2.1.length 0 NN ([(78:Int)]++r1) (by omega) (by have:=V0;omega) (by simp;omega)
  obtain⟨r3,e3,f3⟩:=ymx (nd:=nd) (C:=100+4*nd.2.2.1.length) (by omega) (by omega) (fun q hq=>by have:=UU.len (UU.of (hp2 q hq));omega) nd.2.1.length 0 NN r2 (by omega) (by have:=V0;omega) (by omega)
  obtain⟨r4,e4,f4⟩:=ymv (nd:=nd) (C:=100+4*nd.2.2.1.length+2002*nd.2.1.length) (by omega) (by omega) nd.2.2.2.1.length 0 NN r3 (by omega) (by have:=V0;omega) (by omega)
  obtain⟨r5,e5,f5⟩:=z8y (nd.2.2.2.2.length:Int) (d:=4) (by omega)
  have e5':V8 NN (nd.2.2.2.2.length:Int) 4=some r5:=e5
  obtain⟨r6,e6,f6⟩:=ymu (nd:=nd) (C:=100+4*nd.2.2.1.length+2002*nd.2.1.length+32*nd.2.2.2.1.length+4) (by omega) hb1 hb2 nd.2.2.2.2.length 0 NN (r4++r5) (by omega) (by have:=V0;omega) (by rw[List.length_append];omega)
  rw[show((0:Nat):Int)=0 from rfl]at e2 e3 e4 e6
  simp only[cond_false,e1']
  rw[gd_t (Y4 (by omega) (by omega)),e2]
  simp only[e3,e4,e5']
  rw[gd_t (Y4 (by omega) (by omega)),e6]
  exact⟨r6,rfl,by omega⟩
 ·obtain⟨r1,e1,f1⟩:=z8y (nd.1.length:Int) (d:=4) (by omega)
  have e1':V8 NN (nd.1.length:Int) 4=some r1:=e1
  obtain⟨r2,e2,f2⟩:=ymw (nd:=nd) (by omega) (fun p hp=>⟨by have:=UU.len (UU.of (h.ps.key p hp).1);omega,y0g (h.ps.key p hp).2⟩) nd.1.length 0 NN ([(76:Int)]++r1) (by omega) (by have:=V0;omega) (by simp;omega)
  rw[show((0:Nat):Int)=0 from rfl]at e2
  simp only[cond_true,e1']
  rw[gd_t (Y4 (by omega) (by omega)),e2]
  exact⟨r2,rfl,by omega⟩
theorem yb2{a:W9}(hl:a.1.length<100000):∀(d j:Nat) (n:Nat) (c:Int),j+d=a.1.length->d<n->∃r,z7d NN n c (j:Int) a=some (r,())
 | _,_,0,_,_,h=>absurd h (Nat.not_lt_zero _)
 | 0,j,n+1,c,hj,_=>by
  rw[zds]
  simp only[z1j]
  rw[Y3 (by simp;omega)];exact⟨c,rfl⟩
 | d+1,j,n+1,c,hj,hn=>by
  have ih:=fun c=>yb2 hl d (j+1) n c (by omega) (by omega)
  rw[zds]
  simp only[z1j,zbj (show j<1000000000 by omega)]
  rw[X6 (by simp;omega),gd_t (U1 (by omega) (by omega))]
  cases rdL a.1 (j:Int) false<;>exact ih _
theorem yak{a:W9}{l:List Bool}(hl:l.length<100000):∀(d j:Nat) (n:Nat),j+d=l.length->d<n->
  (∃i:Nat,i<l.length∧rdL l (i:Int) false=false∧z5d NN n (j:Int) a l=some (.inl ((),(((),(a.2.1,(a.2.2,((i:Int),(0:Int))))),((setL l (i:Int) true),())))))∨z5d NN n (j:Int) a l=some (.inr (((),()),(a,((),()))))
 | _,_,0,_,h=>absurd h (Nat.not_lt_zero _)
 | 0,j,n+1,hj,_=>by
  rw[zdr]
  simp only[z1i]
  rw[Y3 (by simp;omega)];exact .inr rfl
 | d+1,j,n+1,hj,hn=>by
  have ih:=yak (a:=a) hl d (j+1) n (by omega) (by omega)
  have hin:inB (j:Int) l.length=true:=U1 (by omega) (by omega)
  rw[zdr]
  simp only[z1i,zbj (show j<1000000000 by omega)]
  rw[X6 (by simp;omega),gd_t hin]
  cases h:rdL l (j:Int) false
  ·rw[X6 (by rfl),gd_t hin]
   exact .inl ⟨j,by omega,h,rfl⟩
  ·exact ih
theorem ym8{a:W9}(hl:a.1.length<100000):∃b at' e,ref25_Take NN a=some (b,(at',e))∧(e≠0∨(e=0∧∃i:Nat,at'=(i:Int)∧i<a.1.length∧rdL a.1 (i:Int) false=false∧b=(setL a.1 (i:Int) true,a.2))):=by
 obtain⟨c,hc⟩:=yb2 (a:=a) hl a.1.length 0 NN 0 (by omega) (by have:=V0;omega)
 rw[show((0:Nat):Int)=0 from rfl]at hc
 simp only[ref25_Take,zqo,zmt,hc,Option.bind_some]
 cases decide (IntKind.wrap .i64 (c-a.2.2)<1)
 ·rw[cond_false]
  have h:=yak (a:=a) (l:=a.1) hl a.1.length 0 NN (by omega) (by have:=V0;omega)
  rw[show((0:Nat):Int)=0 from rfl]at h
  simp only[zms,List.nil_append]
  rw[gd_t (Y4 (by omega) (by omega))]
  rcases h with⟨i,h1,h2,h3⟩ | h
  ·rw[h3]
   exact⟨_,_,_,rfl, .inr ⟨rfl,i,rfl,h1,h2,rfl⟩⟩
  ·rw[h]
   exact⟨_,_,_,rfl, .inl (by decide)⟩
 ·exact⟨_,_,_,rfl, .inl (by decide)⟩
theorem ym2(d:V5)(at':Int):zc2 NN d at'=some (decide (0<=at')&&decide (at'<(d.2.1.length:Int))):=by
 simp only[zc2]
 cases decide (0<=at')<;>rfl
theorem yf4{d:V5}(hc:d.2.1.length<100000)(hl:d.2.2.length<100000)(at':Int){b:List Int}(hb:b.length<1000000000000):∃d' e,ref23_Put NN d at' b=some (d',e)∧((e≠0∧d'=d)∨(e=0∧0<=at'∧at'<(d.2.1.length:Int)∧(b.length:Int)<=d.1∧d'=(d.1,(d.2.1,d.2.2++[(false,(at',b))])))):=by
 have hcp:z2l NN d=some d:=by
  simp only[z2l,List.nil_append]
  rw[gd_t (Y4 (by omega) (by omega)),gd_t (Y4 (by omega) (by omega))]
 simp only[ref23_Put,ym2,Option.bind_some,hcp,List.nil_append]
 by_cases h:0<=at'∧at'<(d.2.1.length:Int)
 ·rw[decide_eq_true h.1,decide_eq_true h.2,Y3 (by rfl)]
  by_cases hs:d.1<(b.length:Int)
  ·exact⟨_,_,by rw[X6 (by simpa using hs)], .inl ⟨by decide,rfl⟩⟩
  ·rw[Y3 (by simpa using hs),gd_t (zr5 (by omega)),gd_t (Y4 (by omega) (by omega))]
   exact⟨_,_,rfl, .inr ⟨rfl,h.1,h.2,by omega,rfl⟩⟩
 ·have:(decide (0<=at')&&decide (at'<(d.2.1.length:Int)))=false:=by
   by_cases h0:0<=at'
   ·rw[decide_eq_true h0,decide_eq_false (fun h1=>h ⟨h0,h1⟩)];rfl
   ·rw[decide_eq_false h0];rfl
  rw[this]
  exact⟨_,_,rfl, .inl ⟨by decide,rfl⟩⟩
theorem yho{st:Z7}(hc:st.1.2.1.length<100000)(hl:st.1.2.2.length<100000)(ha:st.2.1.1.length<100000){b:List Int}(hb:b.length<1000000000000):
  ∃st' c,z82 NN st b=some (st',c)∧((c= -1∧st'=st)∨∃i:Nat,c=(i:Int)∧i<st.2.1.1.length∧rdL st.2.1.1 (i:Int) false=false∧(i:Int)<(st.1.2.1.length:Int)∧(b.length:Int)<=st.1.1∧
   st'=((st.1.1,(st.1.2.1,st.1.2.2++[(false,((i:Int),b))])),((setL st.2.1.1 (i:Int) true,st.2.1.2),st.2.2))):=by
 obtain⟨a,at',e,t1,t2⟩:=ym8 (a:=st.2.1) ha
 simp only[z82,t1,Option.bind_some]
 rcases t2 with t2 | ⟨rfl,i,rfl,t3,t4,rfl⟩
 ·exact⟨_,_,by rw[X6 (by rw[G4 t2];rfl)], .inl ⟨rfl,rfl⟩⟩
 ·obtain⟨d',e,p1,p2⟩:=yf4 hc hl (i:Int) hb
  rw[Y3 (by rfl),p1]
  simp only[Option.bind_some]
  rcases p2 with⟨p2,_⟩ | ⟨rfl,_,p4,p5,rfl⟩
  ·exact⟨_,_,by rw[X6 (by rw[G4 p2];rfl)], .inl ⟨rfl,rfl⟩⟩
  ·exact⟨_,_,by rw[Y3 (by rfl)], .inr ⟨i,rfl,t3,t4,p4,p5,rfl⟩⟩
abbrev Wt:Type:=Y9
structure QOk (size:Int) (nc:Nat) (used:List Bool) (q:List Wt):Prop where
 all:∀w∈q,w.1=false∧2<=w.2.1∧w.2.1<(nc:Int)∧w.2.1<(used.length:Int)∧rdL used w.2.1 false=true∧(w.2.2.length:Int)<=size
 nd:(q.map fun w=>w.2.1).Nodup
theorem QOk.nil(size:Int)(nc:Nat)(used:List Bool):QOk size nc used []:=⟨fun _ h=>by simp at h,List.nodup_nil⟩
theorem QOk.len{size:Int}{nc:Nat}{used:List Bool}{q:List Wt}(h:QOk size nc used q):q.length<=used.length:=by
 have:=zeg (l:=q.map fun w=>w.2.1) (L:=(List.range used.length).map fun n:Nat=>(n:Int)) h.nd (fun x hx=>by
  obtain⟨w,hw,rfl⟩:=List.mem_map.1 hx
  obtain⟨_,h0,_,h1,_⟩:=h.all w hw
  exact List.mem_map.2 ⟨w.2.1.toNat,List.mem_range.2 (by omega),by omega⟩)
 simpa using this
theorem QOk.add{size:Int}{nc:Nat}{used:List Bool}{q:List Wt}(h:QOk size nc used q){i:Nat}(h2:2<=i)(hi:i<used.length)(hf:rdL used (i:Int) false=false)(hc:(i:Int)<(nc:Int)){b:List Int}(hb:(b.length:Int)<=size):
  QOk size nc (setL used (i:Int) true) (q++[(false,((i:Int),b))]):=by
 have hne:∀w∈q,w.2.1≠(i:Int):=fun w hw e=>by
  have:=(h.all w hw).2.2.2.2.1
  rw[e,hf]at this;cases this
 refine⟨fun w hw=> ?_, ?_⟩
 ·rw[z2c]
  rcases List.mem_append.1 hw with hw | hw
  ·obtain⟨h1,h2,h3,h4,h5,h6⟩:=h.all w hw
   exact⟨h1,h2,h3,h4,by rw[z64 (by omega) (by omega) (hne w hw)];exact h5,h6⟩
  ·simp only[List.mem_singleton]at hw
   subst hw
   exact⟨rfl,by show(2:Int)<=(i:Int);omega,hc,by show(i:Int)<_;omega,zi3 (by omega) (by omega),hb⟩
 ·rw[List.map_append,List.nodup_append]
  refine⟨h.nd,by simp, ?_⟩
  intro a ha b hb e
  obtain⟨w,hw,rfl⟩:=List.mem_map.1 ha
  simp only[List.map_cons,List.map_nil,List.mem_singleton]at hb
  exact hne w hw (e.trans hb)
structure SG (sz:Int) (C:List (List Int)) (nu:Nat) (st:Z7):Prop where
 size:st.1.1=sz
 cells:st.1.2.1=C
 q:QOk sz C.length st.2.1.1 st.1.2.2
 used:st.2.1.1.length=nu
 low:rdL st.2.1.1 0 false=true∧rdL st.2.1.1 1 false=true
abbrev rest(st:Z7):=(st.2.1.2,st.2.2)
theorem SG.taken{sz:Int}{C:List (List Int)}{nu:Nat}{st:Z7}(h:SG sz C nu st)(hC:C.length<50000)(hn:nu<50000){b:List Int}(hb:b.length<1000000000000):
  ∃st' c,z82 NN st b=some (st',c)∧((c= -1∧st'=st)∨∃i:Nat,c=(i:Int)∧SG sz C nu st'∧rest st'=rest st∧st'.1.2.2=st.1.2.2++[(false,((i:Int),b))]∧(b.length:Int)<=sz∧2<=i∧i<C.length∧∀w∈st.1.2.2,w.2.1≠(i:Int)):=by
 have hq:=h.q.len
 obtain⟨st',c,t1,t2⟩:=yho (st:=st) (b:=b) (by rw[h.cells];omega) (by rw[h.used]at hq;omega) (by rw[h.used];omega) hb
 refine⟨st',c,t1, ?_⟩
 rcases t2 with t2 | ⟨i,rfl,i1,i2,i3,i4,rfl⟩
 ·exact .inl t2
 ·rw[h.cells]at i3
  rw[h.size]at i4
  have i0:2<=i:=by
   rcases Nat.lt_or_ge i 2 with hlt | hge
   ·rcases(by omega:i=0∨i=1)with rfl | rfl
    ·rw[show((0:Nat):Int)=0 from rfl,h.low.1]at i2;cases i2
    ·rw[show((1:Nat):Int)=1 from rfl,h.low.2]at i2;cases i2
   ·exact hge
  refine .inr ⟨i,rfl,⟨h.size,h.cells, ?_, ?_, ?_⟩,rfl,rfl,i4,i0,by omega,fun w hw e=> ?_⟩
  ·exact h.q.add i0 i1 i2 (by omega) i4
  ·show(setL st.2.1.1 (i:Int) true).length=nu
   rw[z2c];exact h.used
  ·exact⟨by show rdL (setL st.2.1.1 (i:Int) true) 0 false=true;rw[z64 (by omega) (by omega) (by omega)];exact h.low.1,
    by show rdL (setL st.2.1.1 (i:Int) true) 1 false=true;rw[z64 (by omega) (by omega) (by omega)];exact h.low.2⟩
  ·have:=(h.q.all w hw).2.2.2.2.1
   rw[e,i2]at this;cases this
theorem ya5(x:Int):∀(d:Nat) (n:Nat) (out:List Int),d<=100->d<n->out.length+d<1000->∃r,z68 NN n x ((d:Int)-1) out=some ((),(r,()))∧r.length=out.length+d
 | _,0,_,_,h,_=>absurd h (Nat.not_lt_zero _)
 | 0,n+1,out,_,_,_=>by
  rw[zby]
  simp only[z0d]
  exact⟨out,rfl,rfl⟩
 | d+1,n+1,out,hd,hn,ho=>by
  have e1:((d+1:Nat):Int)-1=(d:Int):=by omega
  have e2:IntKind.wrap .i64 ((8:Int)*(d:Int))=((8*d:Nat):Int):=by rw[w64 (by omega) (by omega)];omega
  have e3:IntKind.wrap .i64 ((d:Int)-1)=(d:Int)-1:=w64 (by omega) (by omega)
  rw[zby,e1]
  simp only[z0d,e2,e3]
  obtain⟨r,r1,r2⟩:=ya5 x d n (out++[IntKind.wrap .u8 (Int.fdiv x (2^min (Int.toNat ((8*d:Nat):Int)) (IntKind.bits .u64)))]) (by omega) (by omega) (by rw[List.length_append,List.length_singleton];omega)
  rw[X6 (by simp),gd_p (by omega),gd_t (Y4 (by omega) (by omega)),r1]
  exact⟨r,rfl,by rw[List.length_append,List.length_singleton]at r2;omega⟩
theorem zu4(x:Int){d:Nat}(hd:d<=100):∃r,z2k NN x (d:Int)=some r∧r.length=d:=by
 obtain⟨r,r1,r2⟩:=ya5 x d NN [] hd (by have:=V0;omega) (by simp;omega)
 refine⟨r, ?_,by simpa using r2⟩
 simp only[z2k]
 rw[w64 (by omega) (by omega),r1]
 rfl
theorem y57(x:Int):∀(d:Nat) (n:Nat) (out:List Int),d<=100->d<n->out.length+d<1000->∃r,z49 NN n x ((d:Int)-1) out=some ((),(r,()))∧r.length=out.length+d
 | _,0,_,_,h,_=>absurd h (Nat.not_lt_zero _)
 | 0,n+1,out,_,_,_=>by
  rw[zak]
  simp only[w9]
  exact⟨out,rfl,rfl⟩
 | d+1,n+1,out,hd,hn,ho=>by
  have e1:((d+1:Nat):Int)-1=(d:Int):=by omega
  have e2:IntKind.wrap .i64 ((8:Int)*(d:Int))=((8*d:Nat):Int):=by rw[w64 (by omega) (by omega)];omega
  have e3:IntKind.wrap .i64 ((d:Int)-1)=(d:Int)-1:=w64 (by omega) (by omega)
  rw[zak,e1]
  simp only[w9,e2,e3]
  obtain⟨r,r1,r2⟩:=y57 x d n (out++[IntKind.wrap .u8 (Int.fdiv x (2^min (Int.toNat ((8*d:Nat):Int)) (IntKind.bits .u64)))]) (by omega) (by omega) (by rw[List.length_append,List.length_singleton];omega)
  rw[X6 (by simp),gd_p (by omega),gd_t (Y4 (by omega) (by omega)),r1]
  exact⟨r,rfl,by rw[List.length_append,List.length_singleton]at r2;omega⟩
theorem yfx(x:Int){d:Nat}(hd:d<=100):∃r,z5b NN x (d:Int)=some r∧r.length=d:=by
 obtain⟨r,r1,r2⟩:=y57 x d NN [] hd (by have:=V0;omega) (by simp;omega)
 refine⟨r, ?_,by simpa using r2⟩
 simp only[z5b]
 rw[w64 (by omega) (by omega),r1]
 rfl
theorem zgk(x:Int){d:Nat}(hd:d<=100):∃r,y8 NN x (d:Int)=some r∧r.length=d:=by
 obtain⟨r,r1,r2⟩:=zu4 (IntKind.wrap .u64 x) hd
 exact⟨r,by simp only[y8,r1,Option.bind_some],r2⟩
theorem z14(x:Int){d:Nat}(hd:d<=100):∃r,W2 NN x (d:Int)=some r∧r.length=d:=by
 obtain⟨r,r1,r2⟩:=zu4 (IntKind.wrap .u64 x) hd
 exact⟨r,by simp only[W2,r1,Option.bind_some],r2⟩
theorem yei:∀(post pre:List (List Int)) (n:Nat) (out:List Int),post.length<n->(pre++post).length<1000000000->out.length+post.flatten.length<1000000000000->z96 NN n (pre++post) (pre.length:Int) out=some ((),(out++post.flatten,()))
 | _,_,0,_,h,_,_=>absurd h (Nat.not_lt_zero _)
 | [],pre,n+1,out,_,_,_=>by
  rw[zfe]
  simp only[z2x,List.append_nil,Int.lt_irrefl,decide_false,cond_false,List.flatten_nil]
 | x::post,pre,n+1,out,hn,hl,ho=>by
  simp only[List.length_cons]at hn
  have hb:pre.length<9223372036854775807:=by simp at hl;omega
  simp only[List.flatten_cons,List.length_append]at ho
  have ih:=yei post (pre++[x]) n (out++x) (by omega) (by simpa using hl) (by rw[List.length_append];omega)
  rw[zfe]
  simp only[z2x,U9,cond_true,U3]
  rw[gd_t V7,gd_t (zr5 (by omega)),V1 (q:=x) hb,U2 (pre:=pre) (q:=x) (post:=post),ih,List.flatten_cons,List.append_assoc]
theorem y19{l:List (List Int)}(hl:l.length<1000000000)(hf:l.flatten.length<1000000000000):z6a NN l=some l.flatten:=by
 have h:=yei l [] NN [] (by have:=V0;omega) (by simpa using hl) (by simpa using hf)
 rw[show(([]:List (List Int)).length:Int)=0 from rfl,List.nil_append,List.nil_append]at h
 simp only[z6a,h,Option.bind_some]
theorem yac{ms:List Mg}(hl:ms.length<1000000)(hm:∀m∈ms,GM 904 m):∀(d j:Nat) (n:Nat) (out:List Int),j+d=ms.length->d<n->out.length<=100+6000*j->∃r,z69 NN n ms (j:Int) out=some ((),(r,()))∧r.length<=100+6000*ms.length
 | _,_,0,_,_,h,_=>absurd h (Nat.not_lt_zero _)
 | 0,j,n+1,out,hj,_,ho=>by
  rw[zbz]
  simp only[z0e]
  rw[Y3 (by simp;omega)];exact⟨out,rfl,by
    have:j=ms.length:=by omega
    rw[←this];exact ho⟩
 | d+1,j,n+1,out,hj,hn,ho=>by
  obtain⟨b,b1,b2⟩:=y64 (hm (rdL ms (j:Int) U7) (z6y (by omega) (by omega)))
  obtain⟨r,r1,r2⟩:=yac hl hm d (j+1) n (out++b) (by omega) (by omega) (by rw[List.length_append];omega)
  refine⟨r, ?_,r2⟩
  rw[zbz]
  simp only[z0e,zbj (show j<1000000000 by omega)]
  rw[X6 (by simp;omega),gd_t (U1 (by omega) (by omega)),b1]
  simp only[Option.bind_some]
  rw[gd_t (zr5 (by omega)),r1]
theorem yab{ms:List Mg}(hl:ms.length<1000)(hm:∀m∈ms,GM 904 m):∃r,zaz NN ms=some r∧r.length<=7000000:=by
 obtain⟨a,a1,a2⟩:=zgk (ms.length:Int) (d:=4) (by omega)
 have a1':y8 NN (ms.length:Int) 4=some a:=a1
 obtain⟨r,r1,r2⟩:=yac (by omega) hm ms.length 0 NN a (by omega) (by have:=V0;omega) (by omega)
 rw[show((0:Nat):Int)=0 from rfl]at r1
 exact⟨r,by simp only[zaz,a1',r1,Option.bind_some],by omega⟩
theorem y9e{cs:List Int}(hl:cs.length<1000000):∀(d j:Nat) (n:Nat) (out:List Int),j+d=cs.length->d<n->out.length<=100+2*j->∃r,z52 NN n cs (j:Int) out=some ((),(r,()))∧r.length<=100+2*cs.length
 | _,_,0,_,_,h,_=>absurd h (Nat.not_lt_zero _)
 | 0,j,n+1,out,hj,_,ho=>by
  rw[zbe]
  simp only[z01]
  rw[Y3 (by simp;omega)];exact⟨out,rfl,by
    have:j=cs.length:=by omega
    rw[←this];exact ho⟩
 | d+1,j,n+1,out,hj,hn,ho=>by
  obtain⟨b,b1,b2⟩:=zgk (rdL cs (j:Int) (0:Int)) (d:=2) (by omega)
  have b1':y8 NN (rdL cs (j:Int) (0:Int)) 2=some b:=b1
  obtain⟨r,r1,r2⟩:=y9e hl d (j+1) n (out++b) (by omega) (by omega) (by rw[List.length_append];omega)
  refine⟨r, ?_,r2⟩
  rw[zbe]
  simp only[z01,zbj (show j<1000000000 by omega),b1',Option.bind_some]
  rw[X6 (by simp;omega),gd_t (U1 (by omega) (by omega)),gd_t (zr5 (by omega)),r1]
theorem yj3(gen:Int){cat:List Int}{cells:List Int}(hc:cat.length<100000000000)(hl:cells.length<100000):∃r,zc0 NN gen cat cells=some r∧r.length<1000000:=by
 obtain⟨r1,e1,f1⟩:=zgk gen (d:=4) (by omega)
 obtain⟨r2,e2,f2⟩:=zgk (cat.length:Int) (d:=4) (by omega)
 obtain⟨r3,e3⟩:=y34 (l:=cat) (by omega)
 obtain⟨r4,e4,f4⟩:=zu4 r3 (d:=8) (by omega)
 obtain⟨r5,e5,f5⟩:=zgk (cells.length:Int) (d:=2) (by omega)
 have e1':y8 NN gen 4=some r1:=e1
 have e2':y8 NN (cat.length:Int) 4=some r2:=e2
 have e4':z2k NN r3 8=some r4:=e4
 have e5':y8 NN (cells.length:Int) 2=some r5:=e5
 have hfl:([([(83:Int)]:List Int),r1,r2,r4,r5]:List (List Int)).flatten.length=19:=by simp[f1,f2,f4,f5]
 obtain⟨r,g1,g2⟩:=y9e (cs:=cells) (by omega) cells.length 0 NN ([([(83:Int)]:List Int),r1,r2,r4,r5]:List (List Int)).flatten (by omega) (by have:=V0;omega) (by omega)
 rw[show((0:Nat):Int)=0 from rfl]at g1
 obtain⟨c,c1⟩:=y34 (l:=r) (by omega)
 obtain⟨c2,e6,f6⟩:=zu4 c (d:=8) (by omega)
 have e6':z2k NN c 8=some c2:=e6
 refine⟨r++c2, ?_,by rw[List.length_append];omega⟩
 simp only[zc0,e1',e2',e3,e4',e5',Option.bind_some]
 rw[y19 (by simp) (by rw[hfl];omega)]
 simp only[Option.bind_some,g1,c1,e6']
 rw[gd_t (zr5 (by omega))]
theorem yjs{size K:Nat}(hs:1<=size):∀(d:Nat) (b:List Int) (n:Nat) (out:List (List Int)),b.length<=d->d<n->out.length+d<4000000000->b.length<=K->(∀x∈out,x.length<=K)->
  ∃l r,z6b NN n b (size:Int) out=some ((l,()),(r,()))∧r.length<=out.length+d∧l.length<=K∧∀x∈r,x.length<=K
 | _,_,0,_,_,h,_,_,_=>absurd h (Nat.not_lt_zero _)
 | d,b,n+1,out,hd,hn,ho,hk,hx=>by
  rw[zlm]
  simp only[z3y]
  by_cases hb:size<b.length
  ·obtain⟨d,rfl⟩:∃d',d=d'+1:=⟨d-1,by omega⟩
   rw[X6 (by simp;omega),gd_t (by simp;omega),gd_t (Y4 (by omega) (by omega)),gd_t (by simp;omega)]
   have hc:(cut2 b (size:Int) (b.length:Int)).length=b.length-size:=by simp[cut2]
   obtain⟨l,r,e1,e2,e3,e4⟩:=yjs (K:=K) hs d (cut2 b (size:Int) (b.length:Int)) n (out++[cut2 b (0:Int) (size:Int)]) (by omega) (by omega) (by rw[List.length_append,List.length_singleton];omega) (by omega) (fun y hy=>by
    rcases List.mem_append.1 hy with hy | hy
    ·exact hx y hy
    ·simp only[List.mem_singleton]at hy
     subst hy
     have:(cut2 b (0:Int) (size:Int)).length<=b.length:=by simp[cut2];omega
     omega)
   rw[List.length_append,List.length_singleton]at e2
   exact⟨l,r,e1,by omega,e3,e4⟩
  ·rw[Y3 (by simp;omega)]
   exact⟨b,out,rfl,by omega,hk,hx⟩
theorem yj5{b:List Int}(hb:b.length<3000000000){size:Int}(hs:1<=size):∃r,zeq NN b size=some r∧r.length<=b.length+1∧∀x∈r,x.length<=b.length:=by
 obtain⟨s,rfl⟩:∃s:Nat,size=(s:Int):=⟨size.toNat,by omega⟩
 obtain⟨l,r,e1,e2,e3,e4⟩:=yjs (size:=s) (K:=b.length) (by omega) b.length b NN [] (Nat.le_refl _) (by have:=V0;omega) (by simp;omega) (Nat.le_refl _) (fun x h=>by cases h)
 simp only[List.length_nil,Nat.zero_add]at e2
 refine⟨r++[l], ?_,by rw[List.length_append,List.length_singleton];omega,fun x hx=> ?_⟩
 ·simp only[zeq,e1,Option.bind_some]
  rw[gd_t (Y4 (by omega) (by omega))]
 ·rcases List.mem_append.1 hx with hx | hx
  ·exact e4 x hx
  ·simp only[List.mem_singleton]at hx
   rw[hx];exact e3
theorem yk5{f:Z4}{st:Z7}(hl:f.1.length<100000)(hm:f.1.length<=st.2.2.2.2.2.1.length)(hc:f.1.length<=st.2.2.2.2.2.2.1.length):∀(d j:Nat) (n:Nat) (out:List Int),j+d=f.1.length->d<n->out.length<=1000000000+20*j->∃r,z2n NN n (j:Int) f st out=some ((),(r,()))∧r.length<=2000000000
 | _,_,0,_,_,h,_=>absurd h (Nat.not_lt_zero _)
 | 0,j,n+1,out,hj,_,ho=>by
  rw[zbf]
  simp only[z02]
  rw[Y3 (by simp;omega)];exact⟨out,rfl,by omega⟩
 | d+1,j,n+1,out,hj,hn,ho=>by
  have next:∀out2:List Int,out2.length<=out.length+20->∃r,z2n NN n ((j+1:Nat):Int) f st out2=some ((),(r,()))∧r.length<=2000000000:=fun out2 h=>yk5 hl hm hc d (j+1) n out2 (by omega) (by omega) (by omega)
  obtain⟨a,a1,a2⟩:=z14 ((((rdL f.1 (j:Int) X2).2).2).1) (d:=4) (by omega)
  obtain⟨b,b1,b2⟩:=z14 (IntKind.wrap .i64 (((BitVec.ofInt (IntKind.bits .i64) (rdL st.2.2.2.2.2.1 (j:Int) (0:Int))&&&BitVec.ofInt (IntKind.bits .i64) (65535:Int)).toNat:Int))) (d:=2) (by omega)
  obtain⟨c,c1,c2⟩:=yfx (rdL st.2.2.2.2.2.2.1 (j:Int) (0:Int)) (d:=8) (by omega)
  have a1':W2 NN ((((rdL f.1 (j:Int) X2).2).2).1) 4=some a:=a1
  have b1':W2 NN (IntKind.wrap .i64 (((BitVec.ofInt (IntKind.bits .i64) (rdL st.2.2.2.2.2.1 (j:Int) (0:Int))&&&BitVec.ofInt (IntKind.bits .i64) (65535:Int)).toNat:Int))) 2=some b:=b1
  have c1':z5b NN (rdL st.2.2.2.2.2.2.1 (j:Int) (0:Int)) 8=some c:=c1
  have hfl:∀x:Int,([([x]:List Int),a,b,c]:List (List Int)).flatten.length=15:=fun x=>by simp[a2,b2,c2]
  have hjn:∀x:Int,z6a NN ([([x]:List Int),a,b,c]:List (List Int))=some ([([x]:List Int),a,b,c]:List (List Int)).flatten:=fun x=>y19 (by simp) (by rw[hfl];omega)
  rw[zbf]
  simp only[z02,zbj (show j<1000000000 by omega),a1',b1',c1',Option.bind_some,hjn,hfl]
  rw[X6 (by simp;omega),gd_t (U1 (by omega) (by omega))]
  cases (rdL f.1 (j:Int) X2).1
  ·rw[X6 (by rfl),gd_t (zr5 (by omega))]
   exact next _ (by rw[List.length_append,List.length_singleton];omega)
  ·rw[Y3 (by rfl),gd_t (U1 (by omega) (by omega)),gd_t (U1 (by omega) (by omega)),gd_t (zr5 (by omega))]
   cases ((rdL f.1 (j:Int) X2).2).1
   ·rw[cond_false,gd_t (U1 (by omega) (by omega)),gd_t (U1 (by omega) (by omega)),gd_t (zr5 (by omega))]
    exact next _ (by rw[List.length_append,hfl];omega)
   ·exact next _ (by rw[List.length_append,hfl];omega)
theorem yk6{f:Z4}{st:Z7}(hl:f.2.2.1.length<=16)(he:∀e∈f.2.2.1,(∀m∈e.2.2.2.2,GM 904 m)∧(e.2.2.2.2.length<1000∧e.2.2.2.1.length<=12)):∀(d j:Nat) (n:Nat) (out:List Int),j+d=f.2.2.1.length->d<n->out.length<=10000000+10000000*j->∃r,z54 NN n (j:Int) f st out=some (((),((),())),(f,(st,(r,()))))∧r.length<=200000000
 | _,_,0,_,_,h,_=>absurd h (Nat.not_lt_zero _)
 | 0,j,n+1,out,hj,_,ho=>by
  rw[zbg]
  simp only[z03]
  rw[Y3 (by simp;omega)];exact⟨out,rfl,by omega⟩
 | d+1,j,n+1,out,hj,hn,ho=>by
  obtain⟨h1,h2,h3⟩:=he (rdL f.2.2.1 (j:Int) X0) (z6y (by omega) (by omega))
  obtain⟨a,a1,a2⟩:=z14 ((rdL f.2.2.1 (j:Int) X0).1) (d:=4) (by omega)
  obtain⟨b,b1,b2⟩:=z14 (((rdL f.2.2.1 (j:Int) X0).2).1) (d:=4) (by omega)
  obtain⟨c,c1,c2⟩:=z14 ((((rdL f.2.2.1 (j:Int) X0).2).2).1) (d:=2) (by omega)
  obtain⟨e,e1,e2⟩:=z14 ((((((rdL f.2.2.1 (j:Int) X0).2).2).2).1).length:Int) (d:=1) (by omega)
  obtain⟨g,g1,g2⟩:=yab h2 h1
  have a1':W2 NN ((rdL f.2.2.1 (j:Int) X0).1) 4=some a:=a1
  have b1':W2 NN (((rdL f.2.2.1 (j:Int) X0).2).1) 4=some b:=b1
  have c1':W2 NN ((((rdL f.2.2.1 (j:Int) X0).2).2).1) 2=some c:=c1
  have e1':W2 NN ((((((rdL f.2.2.1 (j:Int) X0).2).2).2).1).length:Int) 1=some e:=e1
  have hbi:(v8 (((((rdL f.2.2.1 (j:Int) X0).2).2).2).1)).length=((((rdL f.2.2.1 (j:Int) X0).2).2).2).1.length:=by simp[v8]
  have hfl:([a,b,c,e,v8 (((((rdL f.2.2.1 (j:Int) X0).2).2).2).1),g]:List (List Int)).flatten.length<=8000000:=by
   simp only[List.flatten_cons,List.flatten_nil,List.length_append,List.length_nil,hbi];omega
  obtain⟨r,r1,r2⟩:=yk6 hl he d (j+1) n (out++([a,b,c,e,v8 (((((rdL f.2.2.1 (j:Int) X0).2).2).2).1),g]:List (List Int)).flatten) (by omega) (by omega) (by rw[List.length_append];omega)
  refine⟨r, ?_,r2⟩
  rw[zbg]
  simp only[z03,zbj (show j<1000000000 by omega),a1',b1',c1',e1',g1,Option.bind_some]
  rw[X6 (by simp;omega),gd_t (U1 (by omega) (by omega)),gd_p (by unfold maxB;omega),y19 (by simp) (by omega)]
  simp only[Option.bind_some]
  rw[gd_t (zr5 (by omega)),r1]
theorem yd1{f:Z4}{st:Z7}(hl:f.1.length<100000)(hm:f.1.length<=st.2.2.2.2.2.1.length)(hc:f.1.length<=st.2.2.2.2.2.2.1.length)(hl2:f.2.2.1.length<=16)
  (he:∀e∈f.2.2.1,(∀m∈e.2.2.2.2,GM 904 m)∧(e.2.2.2.2.length<1000∧e.2.2.2.1.length<=12)) (hms:(∀m∈f.2.2.2.2.2.2,GM 904 m)∧f.2.2.2.2.2.2.length<1000):∃r,zc1 NN f st=some r∧r.length<=2000000000:=by
 obtain⟨a,a1,a2⟩:=z14 f.2.2.2.1 (d:=4) (by omega)
 obtain⟨b,b1,b2⟩:=z14 f.2.2.2.2.2.1 (d:=4) (by omega)
 obtain⟨c,c1,c2⟩:=z14 f.2.2.2.2.1 (d:=2) (by omega)
 obtain⟨e,e1,e2⟩:=z14 (f.2.2.1.length:Int) (d:=1) (by omega)
 obtain⟨k,k1,k2⟩:=z14 (f.1.length:Int) (d:=2) (by omega)
 obtain⟨g,g1,g2⟩:=yab hms.2 hms.1
 have a1':W2 NN f.2.2.2.1 4=some a:=a1
 have b1':W2 NN f.2.2.2.2.2.1 4=some b:=b1
 have c1':W2 NN f.2.2.2.2.1 2=some c:=c1
 have e1':W2 NN (f.2.2.1.length:Int) 1=some e:=e1
 have k1':W2 NN (f.1.length:Int) 2=some k:=k1
 generalize hx:([(67:Int),(IntKind.wrap .u8 (f.2.1.1)),(IntKind.wrap .u8 (f.2.1.2.1)),(IntKind.wrap .u8 (f.2.1.2.2))]:List Int)=x1
 have hx1:x1.length=4:=by rw[←hx];rfl
 have hfl:([x1,a,b,c,g,e]:List (List Int)).flatten.length<=8000000:=by
  simp only[List.flatten_cons,List.flatten_nil,List.length_append,List.length_nil];omega
 obtain⟨r,r1,r2⟩:=yk6 (st:=st) hl2 he f.2.2.1.length 0 NN ([x1,a,b,c,g,e]:List (List Int)).flatten (by omega) (by have:=V0;omega) (by omega)
 obtain⟨r',r1',r2'⟩:=yk5 (st:=st) hl hm hc f.1.length 0 NN (r++k) (by omega) (by have:=V0;omega) (by rw[List.length_append];omega)
 rw[show((0:Nat):Int)=0 from rfl]at r1 r1'
 refine⟨r', ?_,r2'⟩
 simp only[zc1,a1',b1',c1',e1',g1,Option.bind_some,hx]
 rw[y19 (by simp) (by omega)]
 simp only[Option.bind_some,r1,k1']
 rw[gd_t (zr5 (by omega)),r1']
 rfl
theorem ybp(a0:Int)(a1:List (List Int))(a2:List Y9)(a3:List Bool)(a4:List Int)(a5 a6 a7 a8:Int)(a9 a10 a11 a12 M C:List Int):
  zbx NN a0 a1 a2 a3 a4 a5 a6 a7 a8 a9 a10 a11 a12=(z82 NN ((a0,(a1,a2)),((a3,(a4,a5)),(a6,(a7,(a8,(M,(C,a9))))))) a12).bind fun r=>
   some (((r.1.1.1,(r.1.1.2.1,(r.1.1.2.2,(r.1.2.1.1,(r.1.2.1.2.1,(r.1.2.1.2.2,(a6,(a7,(a8,((),((),a9))))))))))),r.2),(a10,(a11,()))):=by
 simp only[zbx,z82]
 cases ref25_Take NN (a3,(a4,a5))with
 | none=>rfl
 | some r1=>
  simp only[Option.bind_some]
  cases eqi r1.2.2 0
  ·rfl
  ·simp only[Bool.not_true,cond_false]
   cases ref23_Put NN (a0,(a1,a2)) r1.2.1 a12 with
   | none=>rfl
   | some r2=>
    simp only[Option.bind_some]
    cases eqi r2.2 0<;>rfl
structure NI (p:List Sl) (i:Nat) (q:List Wt) (M C:List Int):Prop where
 ml:M.length=i
 cl:C.length=i
 un:∀j:Nat,j<i->W3 p (j:Int)=false->rdL M (j:Int) 0= -1
 us:∀j:Nat,j<i->W3 p (j:Int)=true->∃b,z4r NN (z9z (slA p (j:Int)))=some b∧(false,(rdL M (j:Int) 0,b))∈q∧z15 NN b=some (rdL C (j:Int) 0)
 ne:∀j k:Nat,j<i->k<i->W3 p (j:Int)=true->W3 p (k:Int)=true->rdL M (j:Int) 0=rdL M (k:Int) 0->j=k
theorem NI.nil(p:List Sl):NI p 0 [] [] []:=⟨rfl,rfl,fun j h=>absurd h (Nat.not_lt_zero _),fun j h=>absurd h (Nat.not_lt_zero _),fun j k h=>absurd h (Nat.not_lt_zero _)⟩
theorem yjo{l:List Int}{j:Nat}(h:j<l.length)(x:Int):rdL (l++[x]) (j:Int) 0=rdL l (j:Int) 0:=by
 simp[rdL,h,List.getElem?_append_left]
theorem yjp(l:List Int)(x:Int):rdL (l++[x]) (l.length:Int) 0=x:=by simp[rdL]
theorem NI.step{p:List Sl}{i:Nat}{q:List Wt}{M C:List Int}(h:NI p i q M C){c k:Int}(q2:List Wt)(hu:W3 p (i:Int)=false->c= -1)
  (hs:W3 p (i:Int)=true->(∀w∈q,w.2.1≠c)∧∃b,z4r NN (z9z (slA p (i:Int)))=some b∧(false,(c,b))∈q++q2∧z15 NN b=some k):NI p (i+1) (q++q2) (M++[c]) (C++[k]):=by
 obtain⟨h1,h2,h3,h4,h5⟩:=h
 have rm:rdL (M++[c]) (i:Int) 0=c:=by rw[←h1];exact yjp M c
 have rc:rdL (C++[k]) (i:Int) 0=k:=by rw[←h2];exact yjp C k
 have om:∀j:Nat,j<i->rdL (M++[c]) (j:Int) 0=rdL M (j:Int) 0:=fun j hj=>yjo (by omega) c
 have oc:∀j:Nat,j<i->rdL (C++[k]) (j:Int) 0=rdL C (j:Int) 0:=fun j hj=>yjo (by omega) k
 refine⟨by simp[h1],by simp[h2],fun j hj hf=> ?_,fun j hj ht=> ?_,fun j l hj hl hjt hlt he=> ?_⟩
 ·rcases Nat.lt_succ_iff_lt_or_eq.1 hj with hj | rfl
  ·rw[om j hj];exact h3 j hj hf
  ·rw[rm];exact hu hf
 ·rcases Nat.lt_succ_iff_lt_or_eq.1 hj with hj | rfl
  ·obtain⟨b,b1,b2,b3⟩:=h4 j hj ht
   exact⟨b,b1,by rw[om j hj];exact List.mem_append_left _ b2,by rw[oc j hj];exact b3⟩
  ·obtain⟨b,b1,b2,b3⟩:=(hs ht).2
   exact⟨b,b1,by rw[rm];exact b2,by rw[rc];exact b3⟩
 ·rcases Nat.lt_succ_iff_lt_or_eq.1 hj with hj | rfl<;>rcases Nat.lt_succ_iff_lt_or_eq.1 hl with hl | rfl
  ·rw[om j hj,om l hl]at he;exact h5 j l hj hl hjt hlt he
  ·rw[om j hj,rm]at he
   obtain⟨b,_,b2,_⟩:=h4 j hj hjt
   exact absurd he ((hs hlt).1 _ b2)
  ·rw[om l hl,rm]at he
   obtain⟨b,_,b2,_⟩:=h4 l hl hlt
   exact absurd he.symm ((hs hjt).1 _ b2)
  ·rfl
section
variable {f:Z4} {old:Z7} (hM:old.2.2.2.2.2.1=[]) (hl:f.1.length<50000) (hN:∀i,W3 f.1 i=true->(slA f.1 i).2.1=false∧NodeF (z9z (slA f.1 i))) {sz:Int} {C:List (List Int)} {nu:Nat} (hC:C.length<50000) (hn:nu<50000)
include hM hl in
theorem yi5{j:Nat}(hj:j<f.1.length)(c k:Int)(q:List Wt)(u:List Bool)(la:List Int)(ke lo ge se:Int)(ca M K g:List Int)(hml:M.length=j)(hkl:K.length=j):
  z3k NN (j:Int) c k sz C q u la ke lo ge se ca M K f old g=some (((),((),((),((),((),(j:Int)))))),((sz,(C,(q,(u,(la,(ke,(lo,(ge,(se,((),((),ca))))))))))),(M++[c],(K++[k],(f,((),(old,(g,())))))))):=by
 simp only[z3k,z5c,hM]
 rw[Y3 (decide_eq_false (by simp)),X6 (decide_eq_true (by omega)),gd_t (Y4 (by omega) (by omega)),gd_t (Y4 (by omega) (by omega))]
 rfl
include hM hl hN hC hn in
theorem ya8(la:List Int)(ke lo ge se:Int)(ca X Y:List Int):∀(d j:Nat) (n:Nat) (q:List Wt) (u:List Bool) (M K:List Int),j+d=f.1.length->d<n->SG sz C nu ((sz,(C,q)),((u,(la,ke)),(lo,(ge,(se,(X,(Y,ca)))))))->NI f.1 j q M K->
  z10 NN n (j:Int) sz C q u la ke lo ge se ca M K f old []=some (.inl (((),([],false)),(old,())))∨
  ∃q' u' M' K',z10 NN n (j:Int) sz C q u la ke lo ge se ca M K f old []=some (.inr (((),((),())),((sz,(C,(q',(u',(la,(ke,(lo,(ge,(se,((),((),ca))))))))))),(M',(K',((),([],())))))))∧
   SG sz C nu ((sz,(C,q')),((u',(la,ke)),(lo,(ge,(se,(X,(Y,ca)))))))∧NI f.1 f.1.length q' M' K'
 | _,_,0,_,_,_,_,_,h,_,_=>absurd h (Nat.not_lt_zero _)
 | 0,j,n+1,q,u,M,K,hj,_,hg,hi=>by
  rw[zdq]
  simp only[z1h,hM]
  have hx:(bif decide ((f.1.length:Int)<(([]:List Int).length:Int))then(([]:List Int).length:Int)else(f.1.length:Int))=(f.1.length:Int):=by
   rw[Y3 (decide_eq_false (by simp))]
  rw[hx,Y3 (decide_eq_false (by omega))]
  refine .inr ⟨q,u,M,K,rfl,hg, ?_⟩
  have:j=f.1.length:=by omega
  rw[←this];exact hi
 | d+1,j,n+1,q,u,M,K,hj,hd,hg,hi=>by
  have hin:inB (j:Int) f.1.length=true:=U1 (by omega) (by omega)
  have hx:(bif decide ((f.1.length:Int)<(([]:List Int).length:Int))then(([]:List Int).length:Int)else(f.1.length:Int))=(f.1.length:Int):=by
   rw[Y3 (decide_eq_false (by simp))]
  have p2:=fun c k q u=>yi5 (sz:=sz) (C:=C) hM hl (j:=j) (by omega) c k q u la ke lo ge se ca M K [] hi.ml hi.cl
  have hw:=zbj (show j<1000000000 by omega)
  have next:∀(c k:Int) (q2:List Wt) (u2:List Bool),SG sz C nu ((sz,(C,q++q2)),((u2,(la,ke)),(lo,(ge,(se,(X,(Y,ca)))))))->NI f.1 (j+1) (q++q2) (M++[c]) (K++[k])->
   z10 NN n ((j+1:Nat):Int) sz C (q++q2) u2 la ke lo ge se ca (M++[c]) (K++[k]) f old []=some (.inl (((),([],false)),(old,())))∨
   ∃q' u' M' K',z10 NN n ((j+1:Nat):Int) sz C (q++q2) u2 la ke lo ge se ca (M++[c]) (K++[k]) f old []=some (.inr (((),((),())),((sz,(C,(q',(u',(la,(ke,(lo,(ge,(se,((),((),ca))))))))))),(M',(K',((),([],())))))))∧
    SG sz C nu ((sz,(C,q')),((u',(la,ke)),(lo,(ge,(se,(X,(Y,ca)))))))∧NI f.1 f.1.length q' M' K':=fun c k q2 u2 h1 h2=>ya8 la ke lo ge se ca X Y d (j+1) n (q++q2) u2 (M++[c]) (K++[k]) (by omega) (by omega) h1 h2
  rw[zdq]
  simp only[z1h,hM]
  rw[hx,X6 (decide_eq_true (by omega)),X6 (decide_eq_true (by omega)),gd_t hin]
  have hub:W3 f.1 (j:Int)=(rdL f.1 (j:Int) X2).1:=by
   unfold W3 slA
   rw[decide_eq_true (show(0:Int)<=(j:Int) by omega),decide_eq_true (show(j:Int)<(f.1.length:Int) by omega)]
   rfl
  cases hu:(rdL f.1 (j:Int) X2).1
  ·rw[cond_false]
   simp only[z3j,cond_false,hu,Option.bind_some,p2,z3l,hw]
   have:=next (-1) 0 [] u (by rw[List.append_nil];exact hg) (hi.step [] (fun _=>rfl) (fun h=>by rw[hub,hu]at h;cases h))
   rw[List.append_nil]at this
   exact this
  ·obtain⟨n1,n2⟩:=hN (j:Int) (hub.trans hu)
   have n1':(rdL f.1 (j:Int) X2).2.1=false:=n1
   obtain⟨b,b1,b2⟩:=ygw n2
   obtain⟨k,k1⟩:∃k,z15 NN b=some k:=y34 (by omega)
   have b1':z4r NN (rdL f.1 (j:Int) X2).2.2.2=some b:=b1
   have hk:zkh NN old (j:Int) (rdL f.1 (j:Int) X2).2.2.2=some false:=by
    simp only[zkh,hM]
    rw[X6 (decide_eq_true (by simp))]
   obtain⟨st',c,t1,t2⟩:=hg.taken hC hn (b:=b) (by omega)
   rw[cond_true,n1',cond_false]
   simp only[z3j,cond_false,hu,n1',Bool.not_false,cond_true,b1',k1,hk,Option.bind_some]
   have tm:=ybp sz C q u la ke lo ge se ca M K b X Y
   rw[t1]at tm
   simp only[Option.bind_some]at tm
   rw[tm]
   simp only[Option.bind_some]
   rcases t2 with⟨rfl,rfl⟩ | ⟨i,rfl,g1,g2,g3,g4,g5,g6,g7⟩
   ·rw[X6 (decide_eq_true (by omega))]
    exact .inl rfl
   ·obtain⟨⟨s1,s2,s3⟩,⟨s4,s5,s6⟩,s7⟩:=st'
    simp only[Prod.mk.injEq]at g2
    obtain⟨⟨rfl,rfl⟩,rfl⟩:=g2
    have e1:s1=sz:=g1.size
    have e2:s2=C:=g1.cells
    have e3:s3=q++[(false,((i:Int),b))]:=g3
    subst e1;subst e2;subst e3
    simp only[]
    rw[Y3 (decide_eq_false (by omega))]
    simp only[p2,Option.bind_some,z3l,hw]
    exact next (i:Int) k [(false,((i:Int),b))] s4 g1 (hi.step _ (fun h=>by rw[hub,hu]at h;cases h) fun _=>⟨g7,b,b1,by simp,k1⟩)
end
theorem nodes_first{f:Z4}{old:Z7}(hM:old.2.2.2.2.2.1=[])(hl:f.1.length<50000)(hN:∀i,W3 f.1 i=true->(slA f.1 i).2.1=false∧NodeF (z9z (slA f.1 i))){sz:Int}{C:List (List Int)}{nu:Nat}(hC:C.length<50000)(hn:nu<50000)(hg:SG sz C nu old)(hq:old.1.2.2=[]):
  zd5 NN old f=some (old,([],false))∨∃st',zd5 NN old f=some (st',([],true))∧SG sz C nu st'∧NI f.1 f.1.length st'.1.2.2 st'.2.2.2.2.2.1 st'.2.2.2.2.2.2.1∧st'.2.1.2=old.2.1.2∧st'.2.2.1=old.2.2.1∧st'.2.2.2.1=old.2.2.2.1∧st'.2.2.2.2.1=old.2.2.2.2.1∧st'.2.2.2.2.2.2.2=old.2.2.2.2.2.2.2:=by
 obtain⟨⟨s1,s2,s3⟩,⟨s4,s5,s6⟩,lo,ge,se,M,K,ca⟩:=old
 have hM:M=[]:=hM
 have hq:s3=[]:=hq
 have e1:s1=sz:=hg.size
 have e2:s2=C:=hg.cells
 subst e1;subst e2;subst hq
 have h:=ya8 (old:=((s1,(s2,[])),((s4,(s5,s6)),(lo,(ge,(se,(M,(K,ca)))))))) hM hl hN hC hn s5 s6 lo ge se ca M K f.1.length 0 NN [] s4 [] [] (by omega) (by have:=V0;omega) hg (NI.nil _)
 rw[show((0:Nat):Int)=0 from rfl]at h
 simp only[zd5]
 rcases h with h | ⟨q',u',M',K',h,h2,h3⟩
 ·rw[h]
  exact .inl rfl
 ·rw[h]
  exact .inr ⟨_,rfl,⟨h2.size,h2.cells,h2.q,h2.used,h2.low⟩,h3,rfl,rfl,rfl,rfl,rfl⟩
theorem save_l0{old:Z7}{ps:List (List Int)}(hp:ps.length<4000000000)(hb:∀b∈ps,b.length<1000000000000){sz:Int}{C:List (List Int)}{nu:Nat}(hC:C.length<50000)(hn:nu<50000)(b0 b1:List Int):
  ∀(d j:Nat) (n:Nat) (st:Z7) (ca:List Int),j+d=ps.length->d<n->SG sz C nu st->ca.length<=st.1.2.2.length->
  z6r NN n b0 b1 (j:Int) st old ps ca=some (.inl ((),((old,250),())))∨
  ∃st' ca',z6r NN n b0 b1 (j:Int) st old ps ca=some (.inr (((),((),((),(b0,(b1,()))))),(st',((),(old,(ca',()))))))∧SG sz C nu st'∧rest st'=rest st∧ca'.length<=st'.1.2.2.length∧∃more,st'.1.2.2=st.1.2.2++more
 | _,_,0,_,_,_,h,_,_=>absurd h (Nat.not_lt_zero _)
 | 0,j,n+1,st,ca,hj,_,hg,hc=>by
  rw[zff]
  simp only[z2y]
  rw[Y3 (decide_eq_false (by omega))]
  exact .inr ⟨st,ca,rfl,hg,rfl,hc,[],by simp⟩
 | d+1,j,n+1,st,ca,hj,hd,hg,hc=>by
  have hin:inB (j:Int) ps.length=true:=U1 (by omega) (by omega)
  obtain⟨st',c,t1,t2⟩:=hg.taken hC hn (b:=rdL ps (j:Int) []) (hb _ (z6y (by omega) (by omega)))
  have hq:=hg.q.len
  rw[hg.used]at hq
  have w:IntKind.wrap .i64 ((j:Int)+1)=((j+1:Nat):Int):=by rw[w64 (by omega) (by omega)];rfl
  rw[zff]
  simp only[z2y,w]
  rw[X6 (decide_eq_true (by omega)),gd_t hin,t1]
  simp only[Option.bind_some]
  rcases t2 with⟨rfl,rfl⟩ | ⟨i,rfl,g1,g2,g3,g4,g5,g6,g7⟩
  ·rw[X6 (decide_eq_true (by omega))]
   exact .inl rfl
  ·rw[Y3 (decide_eq_false (by omega)),gd_t (Y4 (by omega) (by omega))]
   rcases save_l0 hp hb hC hn b0 b1 d (j+1) n st' (ca++[(i:Int)]) (by omega) (by omega) g1 (by rw[g3,List.length_append,List.length_append,List.length_singleton,List.length_singleton];omega)with h | ⟨st2,ca2,h1,h2,h3,h4,more,h5⟩
   ·exact .inl h
   ·exact .inr ⟨st2,ca2,h1,h2,h3.trans g2,h4,[(false,((i:Int),rdL ps (j:Int) []))]++more,by rw[h5,g3,List.append_assoc]⟩
theorem y67{d:V5}(hc:d.2.1.length<100000)(hl:d.2.2.length<100000):z2l NN d=some d:=by
 simp only[z2l,List.nil_append]
 rw[gd_t (Y4 (by omega) (by omega)),gd_t (Y4 (by omega) (by omega))]
theorem ybk{d:V5}(hc:d.2.1.length<100000)(hl:d.2.2.length<90000):z83 NN d=some (d.1,(d.2.1,d.2.2++[(true,(0,[]))])):=by
 simp only[z83,y67 hc (show d.2.2.length<100000 by omega),Option.bind_some]
 rw[gd_t (Y4 (by simp only[List.length_cons,List.length_nil];omega) (by omega))]
theorem yh0{a:W9}(hl:a.1.length<100000)(h:a.2.1=[]):zb1 NN a=some (a.1,([],a.2.2)):=by
 obtain⟨n,hn⟩:∃n,NN=n+1:=⟨NN-1,by have:=V0;omega⟩
 have hz:z19 NN NN (0:Int) a a.1=some (((),((),())),(a,((),(a.1,())))):=by
  rw[show z19 NN NN=z19 NN (n+1)from congrArg _ hn,zln]
  simp only[z3z,h]
  rw[Y3 (by rfl)]
 simp only[zb1,List.nil_append]
 rw[gd_t (Y4 (by omega) (by omega)),hz]
 rfl
def z79(q:List Wt)(c:List (List Int)):List (List Int):=q.foldl (fun c w=>if w.1=true then c else setL c w.2.1 w.2.2) c
theorem y1p:∀(q:List Wt) (c:List (List Int)),(z79 q c).length=c.length
 | [],_=>rfl
 | w::q,c=>by
  show(z79 q (if w.1=true then c else setL c w.2.1 w.2.2)).length=_
  rw[y1p q]
  split
  ·rfl
  ·exact z2c _ _ _
theorem y1o{i:Int}(hi:0<=i):∀(q:List Wt) (c:List (List Int)),(∀w∈q,w.1=false->0<=w.2.1∧w.2.1≠i)->rdL (z79 q c) i []=rdL c i []
 | [],_,_=>rfl
 | w::q,c,h=>by
  show rdL (z79 q (if w.1=true then c else setL c w.2.1 w.2.2)) i []=_
  rw[y1o hi q _ fun x hx=>h x (List.mem_cons_of_mem _ hx)]
  split
  ·rfl
  ·rename_i hw
   obtain⟨h1,h2⟩:=h w (by simp) (by simpa using hw)
   exact z64 h1 hi (fun e=>h2 e.symm)
theorem y5z:∀(q:List Wt) (c:List (List Int)),(∀w∈q,w.1=false∧0<=w.2.1∧w.2.1<(c.length:Int))->(q.map fun w=>w.2.1).Nodup->∀w∈q,rdL (z79 q c) w.2.1 []=w.2.2
 | [],_,_,_,w,hw=>by cases hw
 | v::q,c,h,hn,w,hw=>by
  obtain⟨h1,h2,h3⟩:=h v (by simp)
  rw[List.map_cons,List.nodup_cons]at hn
  show rdL (z79 q (if v.1=true then c else setL c v.2.1 v.2.2)) w.2.1 []=_
  rw[h1,if_neg (by simp)]
  rcases List.mem_cons.1 hw with rfl | hw
  ·rw[y1o h2 q _ fun x hx _=>⟨(h x (List.mem_cons_of_mem _ hx)).2.1,fun e=>hn.1 (List.mem_map.2 ⟨x,hx,e⟩)⟩]
   exact zi3 h2 h3
  ·exact y5z q _ (fun x hx=>by rw[z2c];exact h x (List.mem_cons_of_mem _ hx)) hn.2 w hw
theorem mem_setL2{α:Type}{l:List α}{i:Int}{y x:α}(h:x∈setL l i y):x∈l∨x=y:=List.mem_or_eq_of_mem_set h
theorem applyW_mem:∀(q:List Wt) (c:List (List Int)) (x:List Int),x∈z79 q c->x∈c∨∃w∈q,w.1=false∧x=w.2.2
 | [],_,_,h=> .inl h
 | w::q,c,x,h=>by
  rcases applyW_mem q _ x h with h | ⟨v,hv,h1,h2⟩
  ·have h:x∈(if w.1=true then c else setL c w.2.1 w.2.2):=h
   split at h
   ·exact .inl h
   ·rename_i hw
    rcases mem_setL2 h with h | h
    ·exact .inl h
    ·exact .inr ⟨w,by simp,by simpa using hw,h⟩
  ·exact .inr ⟨v,List.mem_cons_of_mem _ hv,h1,h2⟩
theorem y6s{d:V5}{sz:Int}{q0:List Wt}:∀(post pre:List Wt) (n:Nat) (c:List (List Int)),d.2.2=pre++post->post.length<n->(pre++post).length<1000000->(∀w∈post,w.1=false->0<=w.2.1∧w.2.1<(c.length:Int))->
  z99 NN n (pre.length:Int) d sz c q0=some (((),()),((),((sz,((),())),(z79 post c,(q0,())))))
 | _,_,0,_,_,h,_,_=>absurd h (Nat.not_lt_zero _)
 | [],pre,n+1,c,hk,_,_,_=>by
  rw[zfg]
  simp only[z2z,hk,List.append_nil,Int.lt_irrefl,decide_false,cond_false]
  rfl
 | w::post,pre,n+1,c,hk,hn,hl,hw=>by
  simp only[List.length_cons]at hn
  have hb:pre.length<9223372036854775807:=by simp at hl;omega
  have hlen:d.2.2.length=pre.length+(post.length+1):=by rw[hk];simp
  have hin:inB (pre.length:Int) d.2.2.length=true:=U1 (by omega) (by omega)
  have hrd:rdL d.2.2 (pre.length:Int) z18=w:=by rw[hk];exact U3
  have hs:d.2.2=(pre++[w])++post:=by rw[hk];simp
  rw[zfg]
  simp only[z2z,hrd,V1 (q:=w) hb]
  rw[X6 (decide_eq_true (by omega)),gd_t hin]
  cases h1:w.1
  ·obtain⟨h2,h3⟩:=hw w (by simp) h1
   rw[X6 (by rfl),gd_t hin,gd_t hin,gd_t (U1 h2 h3),y6s post (pre++[w]) n (setL c w.2.1 w.2.2) hs (by omega) (by simpa using hl) fun x hx hx1=>by rw[z2c];exact hw x (List.mem_cons_of_mem _ hx) hx1]
   simp only[z79,List.foldl_cons,h1]
   rfl
  ·rw[Y3 (by rfl),y6s post (pre++[w]) n c hs (by omega) (by simpa using hl) fun x hx hx1=>hw x (List.mem_cons_of_mem _ hx) hx1]
   simp only[z79,List.foldl_cons,h1]
   rfl
theorem ym9{d:V5}(hc:d.2.1.length<100000)(hl:d.2.2.length<100000)(hw:∀w∈d.2.2,w.1=false->0<=w.2.1∧w.2.1<(d.2.1.length:Int)):zc3 NN d=some (d.1,(z79 d.2.2 d.2.1,[])):=by
 have h:=y6s (d:=d) (sz:=d.1) (q0:=d.2.2) d.2.2 [] NN d.2.1 rfl (by have:=V0;omega) (by simp;omega) hw
 rw[show(([]:List Wt).length:Int)=0 from rfl]at h
 simp only[zc3,y67 hc hl,Option.bind_some,h]
structure StOk (f:Z4) (st:Z7):Prop where
 sz:1<=st.1.1∧st.1.1<=1500
 nc:st.1.2.1.length<=60
 cl:∀c∈st.1.2.1,(c.length:Int)<=st.1.1
 qu:st.1.2.2=[]
 ml:st.2.2.2.2.2.1.length=f.1.length
 kl:st.2.2.2.2.2.2.1.length=f.1.length
 un:∀j:Nat,j<f.1.length->W3 f.1 (j:Int)=false->rdL st.2.2.2.2.2.1 (j:Int) 0= -1
 us:∀j:Nat,j<f.1.length->W3 f.1 (j:Int)=true->∃b,z4r NN (z9z (slA f.1 (j:Int)))=some b∧2<=rdL st.2.2.2.2.2.1 (j:Int) 0∧rdL st.2.2.2.2.2.1 (j:Int) 0<(st.1.2.1.length:Int)∧
  rdL st.1.2.1 (rdL st.2.2.2.2.2.1 (j:Int) 0) []=b∧z15 NN b=some (rdL st.2.2.2.2.2.2.1 (j:Int) 0)
 ne:∀j k:Nat,j<f.1.length->k<f.1.length->W3 f.1 (j:Int)=true->W3 f.1 (k:Int)=true->rdL st.2.2.2.2.2.1 (j:Int) 0=rdL st.2.2.2.2.2.1 (k:Int) 0->j=k
structure FC (f:Z4):Prop where
 pl:f.1.length<50000
 nd:∀i,W3 f.1 i=true->(slA f.1 i).2.1=false∧NodeF (z9z (slA f.1 i))
 el:f.2.2.1.length<=16
 es:∀e∈f.2.2.1,(∀m∈e.2.2.2.2,GM 904 m)∧(e.2.2.2.2.length<1000∧e.2.2.2.1.length<=12)
 ms:(∀m∈f.2.2.2.2.2.2,GM 904 m)∧f.2.2.2.2.2.2.length<1000
theorem y8m(ca:List Int)(st:Z7):z4t NN NN ca 0 st []=some (((),((),ca)),(st,((),()))):=by
 obtain⟨n,hn⟩:∃n,NN=n+1:=⟨NN-1,by have:=V0;omega⟩
 rw[show z4t NN NN=z4t NN (n+1)from congrArg _ hn,zqe]
 simp only[z5l]
 rw[Y3 (by rfl)]
theorem ymc{f:Z4}(hF:FC f){sz:Int}(hs:1<=sz∧sz<=1500){nc:Nat}(hnc:nc<=60){u:List Bool}{lo:Int}
  (hg:SG sz (List.replicate nc []) nc ((sz,(List.replicate nc [],[])),((u,([],0)),(lo,(0,(0,([],([],[])))))))):
  ∃r,zgn NN ((sz,(List.replicate nc [],[])),((u,([],0)),(lo,(0,(0,([],([],[]))))))) f=some r∧
   (r.2≠0∨r.2=0∧∃d,zc3 NN r.1.1=some d∧StOk f (d,r.1.2)):=by
 have hC:(List.replicate nc ([]:List Int)).length<50000:=by rw[List.length_replicate];omega
 rcases nodes_first (f:=f) (old:=((sz,(List.replicate nc [],[])),((u,([],0)),(lo,(0,(0,([],([],[])))))))) rfl hF.pl hF.nd hC (show nc<50000 by omega) hg rfl with h | ⟨st',h,n1,n2,n3,n4,n5,n6,n7⟩
 ·refine⟨_,by simp only[zgn,h,Option.bind_some];rfl, .inl (show(250:Int)≠0 by decide)⟩
 ·obtain⟨ct,c1,c2⟩:=yd1 (f:=f) (st:=st') (by have:=hF.pl;omega) (by rw[n2.ml];exact Nat.le_refl _) (by rw[n2.cl];exact Nat.le_refl _) hF.el hF.es hF.ms
  obtain⟨ps,p1,p2,p3⟩:=yj5 (b:=ct) (by omega) (size:=sz) hs.1
  have hsz:st'.1.1=sz:=n1.size
  have hz:((0:Nat):Int)=0:=rfl
  have hl:=save_l0 (old:=((sz,(List.replicate nc [],[])),((u,([],0)),(lo,(0,(0,([],([],[])))))))) (ps:=ps) (by omega) (fun b hb=>by have:=p3 b hb;omega) hC (show nc<50000 by omega) [] ct ps.length 0 NN st' [] (by omega) (by have:=V0;omega) n1 (Nat.zero_le _)
  rw[hz]at hl
  simp only[zgn,h,Option.bind_some]
  rw[Y3 (by rfl),c1]
  simp only[Option.bind_some,hsz,p1]
  rcases hl with hl | ⟨st2,ca,l1,l2,l3,l4,more,l5⟩
  ·rw[hl]
   exact⟨_,rfl, .inl (show(250:Int)≠0 by decide)⟩
  ·rw[l1]
   obtain⟨⟨s1,s2,s3⟩,⟨s4,s5,s6⟩,s7⟩:=st2
   have e1:s1=sz:=l2.size
   have e2:s2=List.replicate nc []:=l2.cells
   subst e1;subst e2
   have hq:=l2.q.len
   have hu2:=l2.used
   have hq:s3.length<=s4.length:=hq
   have hu2:s4.length=nc:=hu2
   have hca:ca.length<=s3.length:=l4
   obtain⟨sup,u1,u2⟩:=yj3 1 (cat:=ct) (cells:=ca) (by omega) (by omega)
   have w1:IntKind.wrap .i64 ((0:Int)+1)=1:=by decide
   have m1:Int.tmod (1:Int) 2=1:=by decide
   have f1:z83 NN (s1,(List.replicate nc [],s3))=some (s1,(List.replicate nc [],s3++[(true,(0,[]))])):=ybk (by show(List.replicate nc ([]:List Int)).length<_;omega) (by show s3.length<_;omega)
   obtain⟨d',e,d1,d2⟩:=yf4 (d:=(s1,(List.replicate nc [],s3++[(true,(0,[]))]))) (by show(List.replicate nc ([]:List Int)).length<_;omega) (by show(s3++[(true,(0,[]))]).length<_;rw[List.length_append,List.length_singleton];omega) 1 (b:=sup) (by omega)
   simp only[w1,m1,f1,u1,Option.bind_some,d1]
   rcases d2 with⟨d2,_⟩ | ⟨rfl,d2,d3,d4,rfl⟩
   ·exact⟨_,by rw[X6 (by rw[G4 d2];rfl)], .inl (show(250:Int)≠0 by decide)⟩
   ·have d3:(1:Int)<((List.replicate nc ([]:List Int)).length:Int):=d3
    have d4:(sup.length:Int)<=s1:=d4
    rw[Y3 (by rfl)]
    have f2:z83 NN (s1,(List.replicate nc [],s3++[(true,(0,[]))]++[(false,(1,sup))]))=some (s1,(List.replicate nc [],s3++[(true,(0,[]))]++[(false,(1,sup))]++[(true,(0,[]))])):=ybk (by show(List.replicate nc ([]:List Int)).length<_;omega) (by show(s3++[(true,(0,[]))]++[(false,(1,sup))]).length<_;simp only[List.length_append,List.length_singleton];omega)
    have hr5:(s5,s6)=(([]:List Int),(0:Int)):=(congrArg (fun x=>x.1) l3).trans n3
    have hr7:s7=st'.2.2:=congrArg (fun x=>x.2) l3
    simp only[Prod.mk.injEq]at hr5
    obtain⟨rfl,rfl⟩:=hr5
    have hcm:zb1 NN (s4,(([]:List Int),(0:Int)))=some (s4,([],0)):=yh0 (by show s4.length<_;omega) rfl
    simp only[f2,Option.bind_some,List.nil_append,List.append_nil,List.length_nil,y8m,hcm]
    rw[gd_t (by decide),gd_t (by decide)]
    refine⟨_,rfl, .inr ⟨rfl, ?_⟩⟩
    have hQ:QOk s1 (List.replicate nc ([]:List Int)).length s4 s3:=l2.q
    rw[List.length_replicate]at hQ d3
    have hfl:∀w∈s3++[(true,((0:Int),([]:List Int)))]++[(false,((1:Int),sup))]++[(true,((0:Int),([]:List Int)))],w.1=false->0<=w.2.1∧w.2.1<((List.replicate nc ([]:List Int)).length:Int):=by
     intro w hw h1
     rw[List.length_replicate]
     simp only[List.mem_append,List.mem_singleton]at hw
     rcases hw with((hw | rfl) | rfl) | rfl
     ·obtain⟨_,a2,a3,_⟩:=hQ.all w hw
      exact⟨by omega,a3⟩
     ·cases h1
     ·exact⟨show(0:Int)<=1 by decide,d3⟩
     ·cases h1
    have hsy:=ym9 (d:=(s1,(List.replicate nc [],s3++[(true,((0:Int),([]:List Int)))]++[(false,((1:Int),sup))]++[(true,((0:Int),([]:List Int)))]))) (by show(List.replicate nc ([]:List Int)).length<_;omega) (by show(s3++[(true,((0:Int),([]:List Int)))]++[(false,((1:Int),sup))]++[(true,((0:Int),([]:List Int)))]).length<_;simp only[List.length_append,List.length_singleton];omega) hfl
    refine⟨_,hsy, ?_⟩
    have hap:z79 (s3++[(true,((0:Int),([]:List Int)))]++[(false,((1:Int),sup))]++[(true,((0:Int),([]:List Int)))]) (List.replicate nc [])=setL (z79 s3 (List.replicate nc [])) 1 sup:=by
     simp[z79,List.foldl_append]
    have hal:(z79 s3 (List.replicate nc ([]:List Int))).length=nc:=by rw[y1p,List.length_replicate]
    have h5:s3=st'.1.2.2++more:=l5
    have hMap:s7.2.2.2.1=st'.2.2.2.2.2.1:=by rw[hr7]
    have hChk:s7.2.2.2.2.1=st'.2.2.2.2.2.2.1:=by rw[hr7]
    refine⟨hs, ?_, ?_,rfl, ?_, ?_, ?_, ?_, ?_⟩
    ·show(z79 _ _).length<=60
     rw[hap,z2c,hal];exact hnc
    ·show ∀c∈z79 _ _,(c.length:Int)<=s1
     intro c hc
     rw[hap]at hc
     rcases mem_setL2 hc with hc | rfl
     ·rcases applyW_mem _ _ _ hc with hc | ⟨w,hw,_,rfl⟩
      ·rw[(List.mem_replicate.1 hc).2]
       show((0:Nat):Int)<=s1
       omega
      ·exact(hQ.all w hw).2.2.2.2.2
     ·exact d4
    ·show s7.2.2.2.1.length=_
     rw[hMap];exact n2.ml
    ·show s7.2.2.2.2.1.length=_
     rw[hChk];exact n2.cl
    ·intro j hj hu'
     show rdL s7.2.2.2.1 (j:Int) 0= -1
     rw[hMap];exact n2.un j hj hu'
    ·intro j hj hu'
     obtain⟨b,b1,b2,b3⟩:=n2.us j hj hu'
     have hin:(false,(rdL st'.2.2.2.2.2.1 (j:Int) 0,b))∈s3:=by rw[h5];exact List.mem_append_left _ b2
     obtain⟨_,a2,a3,_⟩:=hQ.all _ hin
     refine⟨b,b1, ?_, ?_, ?_, ?_⟩
     ·show 2<=rdL s7.2.2.2.1 (j:Int) 0
      rw[hMap];exact a2
     ·show rdL s7.2.2.2.1 (j:Int) 0<((z79 _ _).length:Int)
      rw[hMap,hap,z2c,hal];exact a3
     ·show rdL (z79 _ _) (rdL s7.2.2.2.1 (j:Int) 0) []=b
      rw[hMap,hap]
      have a2':2<=rdL st'.2.2.2.2.2.1 (j:Int) 0:=a2
      rw[z64 (by decide) (by omega) (by omega)]
      exact y5z s3 (List.replicate nc []) (fun w hw=>by
       obtain⟨c1,c2,c3,_⟩:=hQ.all w hw
       exact⟨c1,by omega,by rw[List.length_replicate];exact c3⟩) hQ.nd _ hin
     ·show z15 NN b=some (rdL s7.2.2.2.2.1 (j:Int) 0)
      rw[hChk];exact b3
    ·intro j k hj hk hju hku he
     have he:rdL s7.2.2.2.1 (j:Int) 0=rdL s7.2.2.2.1 (k:Int) 0:=he
     rw[hMap]at he
     exact n2.ne j k hj hk hju hku he
theorem y1z{size n:Int}(hs:1<=size∧size<=65536)(hn:1<=n∧n<=4096):zal NN size n=some ((size,(List.replicate n.toNat [],[])),0):=by
 simp only[zal,z8l,z8m]
 rw[Y3 (decide_eq_false (by omega)),Y3 (decide_eq_false (by omega)),Y3 (decide_eq_false (by omega)),Y3 (decide_eq_false (by omega))]
 simp only[Option.bind_some]
 rw[gd_t (by
  rw[decide_eq_true (show(0:Int)<=n by omega),decide_eq_true (show n<=n by omega),decide_eq_true (show n<maxB by unfold maxB;omega),decide_eq_true (show n*24<maxB by unfold maxB;omega)]
  rfl)]
 rfl
theorem ymh{w:zlb}(h1:0<=w.1∧w.1<256)(h2:0<=w.2.1∧w.2.1<256):∃(size:Int) (n:Nat),zkj NN w=some (size,(List.replicate n [],[]))∧1<=size∧size<=1500∧1<=n∧n<=60:=by
 obtain⟨k,hk⟩:∃k:Nat,w.2.1=(k:Int):=⟨w.2.1.toNat,by omega⟩
 have a1:IntKind.wrap .i64 w.2.1=(k:Int):=by rw[w64 (by omega) (by omega)];exact hk
 have a2:IntKind.wrap .i64 ((30:Int)+(k:Int))=((30+k:Nat):Int):=by rw[w64 (by omega) (by omega)];omega
 have a3:Int.tmod (k:Int) 24=((k%24:Nat):Int):=by rw[Int.tmod_eq_emod_of_nonneg (by omega)];rfl
 have a4:IntKind.wrap .i64 ((4:Int)+((k%24:Nat):Int))=((4+k%24:Nat):Int):=by rw[w64 (by omega) (by omega)];omega
 have b1:=y1z (size:=((30+k:Nat):Int)) (n:=60) (by omega) (by omega)
 have b2:=y1z (size:=((30+k:Nat):Int)) (n:=((4+k%24:Nat):Int)) (by omega) (by omega)
 have b3:=y1z (size:=1500) (n:=((4+k%24:Nat):Int)) (by omega) (by omega)
 have b4:=y1z (size:=1500) (n:=60) (by omega) (by omega)
 simp only[zkj,a1,a2,a3,a4]
 cases eqi (Int.tmod w.1 8) 7<;>cases eqi (Int.tmod w.1 8) 6
 ·rw[cond_false,cond_false,b4]
  exact⟨1500,60,rfl,by omega,by omega,by omega,by omega⟩
 ·rw[cond_false,cond_true,b3]
  exact⟨1500,4+k%24,rfl,by omega,by omega,by omega,by omega⟩
 ·rw[cond_true,cond_false,b1]
  exact⟨((30+k:Nat):Int),60,rfl,by omega,by omega,by omega,by omega⟩
 ·rw[cond_true,cond_true,b2]
  exact⟨((30+k:Nat):Int),4+k%24,rfl,by omega,by omega,by omega,by omega⟩
theorem yf0{n first:Nat}(hn:n<100000):∀(d j:Nat) (m:Nat) (u:List Bool),j+d=n->d<m->u.length=j->(∀i:Nat,i<j->rdL u (i:Int) false=decide (i<first))->
  ∃u',zb0 NN m (n:Int) (first:Int) (j:Int) 0 u []=some (((),()),((),(((),((),(0:Int))),(u',([],())))))∧u'.length=n∧∀i:Nat,i<n->rdL u' (i:Int) false=decide (i<first)
 | _,_,0,_,_,h,_,_=>absurd h (Nat.not_lt_zero _)
 | 0,j,m+1,u,hj,_,hu,hx=>by
  rw[zha]
  simp only[z4a]
  rw[Y3 (decide_eq_false (by omega))]
  exact⟨u,rfl,by omega,fun i hi=>hx i (by omega)⟩
 | d+1,j,m+1,u,hj,hm,hu,hx=>by
  rw[zha]
  simp only[z4a,zbj (show j<1000000000 by omega)]
  rw[X6 (decide_eq_true (by omega)),gd_t (Y4 (by omega) (by omega))]
  refine yf0 hn d (j+1) m _ (by omega) (by omega) (by rw[List.length_append,List.length_singleton];omega) fun i hi=> ?_
  rcases Nat.lt_succ_iff_lt_or_eq.1 hi with hi | rfl
  ·rw[←hx i hi]
   simp[rdL,show i<u.length by omega,List.getElem?_append_left]
  ·have:rdL (u++[decide ((i:Int)<(first:Int))]) (i:Int) false=decide ((i:Int)<(first:Int)):=by
    rw[←hu];simp[rdL]
   rw[this]
   by_cases h:i<first
   ·rw[decide_eq_true h,decide_eq_true (by omega)]
   ·rw[decide_eq_false h,decide_eq_false (by omega)]
theorem ymi{n first:Nat}(hn:1<=n∧n<=4096)(hf:first<=n):∃u,znv NN (n:Int) (first:Int)=some ((u,([],0)),0)∧u.length=n∧∀i:Nat,i<n->rdL u (i:Int) false=decide (i<first):=by
 obtain⟨u,u1,u2,u3⟩:=yf0 (n:=n) (first:=first) (by omega) n 0 NN [] (by omega) (by have:=V0;omega) rfl (fun i h=>absurd h (Nat.not_lt_zero _))
 rw[show((0:Nat):Int)=0 from rfl]at u1
 refine⟨u, ?_,u2,u3⟩
 simp only[znv,z8j,z8k,u1]
 rw[Y3 (decide_eq_false (by omega)),Y3 (decide_eq_false (by omega)),Y3 (decide_eq_false (by omega)),Y3 (decide_eq_false (by omega))]
 simp only[Option.bind_some,u1]
theorem yot{leaf fan bl:Nat}{f:Z4}(h:FS 7 leaf fan bl f):FC f:=by
 refine⟨by have:=h.pi.len;omega,yi6 h,h.ne,fun e he=> ?_, ?_⟩
 ·obtain⟨h1,h2,h3⟩:=h.es e he
  exact⟨fun m hm=>(h1 m hm).mono (by omega),by have:(epM e).length<=6*2^7:=h2;show(epM e).length<1000;omega,h3⟩
 ·obtain⟨h1,h2⟩:=h.ms
  exact⟨fun m hm=>(h1 m hm).mono (by omega),by have:f.2.2.2.2.2.2.length<=6*2^7:=h2;omega⟩
theorem ygy{x:zah}(hx:okT zai x):∃m leaf fan bl,zki NN x=some m∧FS 7 leaf fan bl m.2.1∧(m.2.2≠0∨m.2.2=0∧StOk m.2.1 m.1):=by
 have hx:(Lit.int .u8 x.1).wf=true∧okT (.list y9) x.2.1∧(Lit.int .u8 x.2.2.1).wf=true∧(Lit.int .u8 x.2.2.2.1).wf=true∧(Lit.int .u8 x.2.2.2.2).wf=true:=hx
 obtain⟨h1,h2,h3,h4,h5⟩:=hx
 have h1:=z8v h1
 have h3:=z8v h3
 have h4:=z8v h4
 have h5:=z8v h5
 obtain⟨f,leaf,fan,bl,f1,f2,_⟩:=ygz (n:=x.1) (by omega) h2
 obtain⟨sz,nc,d1,d2,d3,d4,d5⟩:=ymh (w:=x.2.2) (by omega) (by omega)
 obtain⟨k,hk⟩:∃k:Nat,x.2.2.2.2=(k:Int):=⟨x.2.2.2.2.toNat,by omega⟩
 have e1:IntKind.wrap .i64 (Int.tmod x.2.2.2.2 4)=((k%4:Nat):Int):=by
  rw[hk,Int.tmod_eq_emod_of_nonneg (by omega)]
  exact wnat (k%4) (by omega)
 have hlen:((List.replicate nc ([]:List Int)).length:Int)=(nc:Int):=by rw[List.length_replicate]
 have e2:IntKind.wrap .i64 ((nc:Int)-2)=(nc:Int)-2:=w64 (by omega) (by omega)
 have e3:IntKind.wrap .i64 ((2:Int)+((k%4:Nat):Int))=((2+k%4:Nat):Int):=wnat (2+k%4) (by omega)
 simp only[zki,f1,d1,Option.bind_some,e1,znu,hlen,e2,e3]
 rw[Y3 (decide_eq_false (by omega))]
 by_cases hc:(nc:Int)-2<=((k%4:Nat):Int)
 ·rw[X6 (decide_eq_true hc)]
  simp only[Option.bind_some]
  exact⟨_,leaf,fan,bl,by rw[X6 (by decide)],f2, .inl (show(1:Int)≠0 by decide)⟩
 ·rw[Y3 (decide_eq_false hc)]
  obtain⟨u,u1,u2,u3⟩:=ymi (n:=nc) (first:=2+k%4) (by omega) (by omega)
  have g0:=u3 0 (by omega)
  have g1:=u3 1 (by omega)
  rw[decide_eq_true (by omega)]at g0 g1
  have hg:SG sz (List.replicate nc []) nc ((sz,(List.replicate nc [],[])),((u,([],0)),(((k%4:Nat):Int),(0,(0,([],([],[]))))))):=⟨rfl,rfl,QOk.nil _ _ _,u2,g0,g1⟩
  obtain⟨r,s1,s2⟩:=ymc (yot f2) ⟨d2,d3⟩ d5 hg
  rw[u1]
  simp only[Option.bind_some,s1]
  rcases s2 with s2 | ⟨s2,d,s3,s4⟩
  ·have e4:(!(eqi r.2 0))=true:=by rw[G4 s2];rfl
   rw[X6 e4]
   simp only[Option.bind_some]
   exact⟨_,leaf,fan,bl,by rw[X6 e4],f2, .inl s2⟩
  ·have e4:(!(eqi r.2 0))=false:=by rw[s2];rfl
   rw[Y3 e4]
   simp only[Option.bind_some]
   exact⟨_,leaf,fan,bl,by rw[Y3 e4,s3];rfl,f2, .inr ⟨rfl,s4⟩⟩
end Ds
