/- Places of keys: total. -/
import Derived.Test.YtljffhpbdmkplaaGreatDsB
set_option linter.all false
open Bool renaming not_false->aO,not_true->aS
open Int renaming fdiv->d0,lt_irrefl->aA,tdiv->dc,tdiv_eq_ediv_of_nonneg->ck,tmod->aJ,tmod_eq_emod_of_nonneg->bg,toNat->cH
open Go.IntKind renaming bits->be,wrap->aa
open List renaming Pairwise->bi,Perm->cm,append_assoc->au,append_nil->ai,flatten_cons->bX,flatten_nil->dA,foldl_cons->aU,getElem?_append_left->aW,getElem?_eq_getElem->aK,length_append->ae,length_cons->af,length_eq_zero_iff->bP,length_nil->aq,length_replicate->bE,length_singleton->aL,map_append->bK,map_cons->ax,map_nil->bO,mem_append->ak,mem_append_left->bp,mem_cons->am,mem_cons_of_mem->aF,mem_filter->aB,mem_map->aH,mem_singleton->aE,nil_append->aj,perm_append_comm->ce,replicate->ar
open Nat renaming add_assoc->bW,eq_zero_or_pos->bD,le_add_right->cb,le_refl->al,le_trans->aX,lt_or_ge->dR,lt_succ_iff_lt_or_eq->cv,mul_le_mul_left->ba,not_lt_zero->ag,pow_le_pow_right->eK,zero_add->bk,zero_le->bm
open Option renaming bind_some->ab
open Prod renaming mk->cY
namespace Ds
open Go Go.Dv
set_option maxRecDepth 100000
variable [Fuel]
theorem ycw{α:Type}(l:List α)(i:Nat):(cut2 l (i:Int) ((i:Int)+1)).length<=1:=by
 have:((i:Int)+1-(i:Int)).toNat=1:=by omega
 simp[cut2]
 omega
theorem yc4:∀(post pre cur:B) (out:List B) (n:Nat),post.length<n->(pre++post).length<1000000->cur.length<=pre.length->out.length<=pre.length->
  ∃c o,z8i NN n (pre++post) cur (pre.length:Int) out=some (((),c),(o,()))/\o.length<=(pre++post).length
 | _,_,_,_,0,h,_,_,_=>absurd h (ag _)
 | [],pre,cur,out,n+1,_,_,_,ho=>by
  refine⟨cur,out, ?_,by simp;omega⟩
  rw[zf3]
  simp only[z2i,ai,aA,decide_false,cond_false]
 | x::post,pre,cur,out,n+1,hn,hl,hc,ho=>by
  simp only[af]at hn
  have hpl:pre.length<1000000:=by simp at hl;omega
  have hb:pre.length<9223372036854775807:=by omega
  have ih:=fun cur out=>yc4 post (pre++[x]) cur out n (by omega) (by simpa using hl)
  rw[<-V9 (pre:=pre) (q:=x) (post:=post)]at ih
  have hc1:=ycw (pre++x::post) pre.length
  rw[zf3]
  simp only[z2i,U3,cond_true]
  rw[gd_t V4]
  cases eqi (bt (pre++x::post) (pre.length:Int)) 47
  ·rw[cond_false,W7 (q:=x) hb,gd_t (by simp;omega),gd_p (by
    have:(((pre++[x]).length:Nat):Int)=(pre.length:Int)+1:=by simp
    rw[this];simp only[maxS];omega)]
   refine ih _ out ?_ (by simp;omega)
   have:(((pre++[x]).length:Nat):Int)=(pre.length:Int)+1:=by simp
   rw[this,ae,ae];simp only[aL];omega
  ·rw[cond_true,gd_t (Y4 (by omega) (by omega)),W7 (q:=x) hb]
   exact ih [] (out++[cur]) (bm _) (by simp;omega)
theorem ylh{k:B}(h:k.length<1000000):∃l b,zit NN k=some (l,b)/\l.length<=k.length:=by
 obtain⟨c,o,h1,h2⟩:=yc4 k [] [] [] NN (by have:=W9;omega) (by simpa using h) (al _) (al _)
 have hz:(([]:B).length:Int)=0:=rfl
 rw[hz,aj]at h1
 exact⟨o,eqs c [],by simp only[zit,h1],by simpa using h2⟩
theorem ygb:∀(post pre:B) (n:Nat),post.length<n->(pre++post).length<1000000->∃r,zaf NN n (pre++post) (pre.length:Int)=some r
 | _,_,0,h,_=>absurd h (ag _)
 | [],pre,n+1,_,_=>by
  rw[zgj]
  simp only[z3n,ai,aA,decide_false,cond_false]
  exact⟨_,rfl⟩
 | x::post,pre,n+1,hn,hl=>by
  simp only[af]at hn
  have hb:pre.length<9223372036854775807:=by simp at hl;omega
  obtain⟨r,ih⟩:=ygb post (pre++[x]) n (by omega) (by simpa using hl)
  rw[<-V9 (pre:=pre) (q:=x) (post:=post)]at ih
  rw[zgj]
  simp only[z3n,U3,cond_true,W7 (q:=x) hb,ih]
  rw[gd_t V4,gd_t V4,gd_t V4]
  cases decide (bt (pre++x::post) (pre.length:Int)<33)<;>cases decide (126<bt (pre++x::post) (pre.length:Int))<;>cases eqi (bt (pre++x::post) (pre.length:Int)) 47<;>exact⟨_,rfl⟩
theorem y9a(k:B):∃b,z8z NN k=some b:=by
 simp only[z8z]
 by_cases h:(12:Int)<(k.length:Int)
 ·rw[show decide ((12:Int)<(k.length:Int))=true by simpa using h]
  cases decide ((k.length:Int)<1)<;>exact⟨_,rfl⟩
 ·obtain⟨r,hr⟩:=ygb k [] NN (by have:=W9;omega) (by simp;omega)
  have hz:(([]:B).length:Int)=0:=rfl
  rw[hz,aj]at hr
  rw[hr]
  cases decide ((k.length:Int)<1)<;>cases decide ((12:Int)<(k.length:Int))<;>cases eqs k [46]<;>cases eqs k [46,46]<;>cases r<;>exact⟨_,rfl⟩
theorem yaz(b:Bool):∀(post pre:List B) (n:Nat),post.length<n->(pre++post).length<1000000->∃r,z8g NN n b (pre.length:Int) (pre++post)=some r
 | _,_,0,h,_=>absurd h (ag _)
 | [],pre,n+1,_,_=>by
  rw[zf1]
  simp only[z2g,ai,aA,decide_false,cond_false]
  exact⟨_,rfl⟩
 | x::post,pre,n+1,hn,hl=>by
  simp only[af]at hn
  have hb:pre.length<9223372036854775807:=by simp at hl;omega
  obtain⟨r,ih⟩:=yaz b post (pre++[x]) n (by omega) (by simpa using hl)
  rw[<-V9 (pre:=pre) (q:=x) (post:=post)]at ih
  obtain⟨c,hc⟩:=y9a x
  rw[zf1]
  simp only[z2g,U3,cond_true,U0,hc,W7 (q:=x) hb,ih]
  rw[gd_t V4]
  cases c<;>exact⟨_,rfl⟩
theorem zxq{k:B}(h:k.length<1000000):∃b,z8r NN k=some b:=by
 obtain⟨l,b,h1,h2⟩:=ylh h
 obtain⟨r,hr⟩:=yaz b l [] NN (by have:=W9;omega) (by simp;omega)
 have hz:(([]:List B).length:Int)=0:=rfl
 rw[hz,aj]at hr
 simp only[z8r,h1,hr]
 cases r<;>exact⟨_,rfl⟩
theorem ygx:∀(d j:Nat) (a:Int) (b:B) (n:Nat),j+d=8->d<n->0<=a->a<4294967296->b.length<=j->∃r,zag NN n a b (j:Int)=some (r,())/\r.length<=8
 | _,_,_,_,0,_,h,_,_,_=>absurd h (ag _)
 | 0,j,a,b,n+1,hj,_,_,_,hb=>by
  rw[zgk]
  simp only[z3o]
  rw[Y3 (by simp;omega)]
  exact⟨b,rfl,by omega⟩
 | d+1,j,a,b,n+1,hj,hn,h0,h1,hb=>by
  have t1:aJ a 16=a%16:=bg h0
  have t2:dc a 16=a/16:=ck h0
  obtain⟨m,hm⟩:∃m:Nat,a%16=(m:Int):=⟨(a%16).toNat,by omega⟩
  have hm2:m<16:=by omega
  have w1:aa .i64 ((m:Int)+1)=(m:Int)+1:=w64 (by omega) (by omega)
  have w2:aa .i64 (a/16)=a/16:=w64 (by omega) (by omega)
  have w3:aa .i64 ((j:Int)+1)=((j+1:Nat):Int):=by rw[w64 (by omega) (by omega)];rfl
  have hc:=ycw ([48,49,50,51,52,53,54,55,56,57,97,98,99,100,101,102]:B) m
  obtain⟨r,r1,r2⟩:=ygx d (j+1) (a/16) (cut2 ([48,49,50,51,52,53,54,55,56,57,97,98,99,100,101,102]:B) (m:Int) ((m:Int)+1)++b) n (by omega) (by omega) (by omega) (by omega) (by rw[ae];omega)
  refine⟨r, ?_,r2⟩
  rw[zgk]
  simp only[z3o,t1,t2,hm,w1,w2,w3]
  rw[X4 (by simp;omega),gd_t (by simp;omega),gd_p (by simp only[maxS];omega)]
  exact r1
theorem yk9(a:Int):∃b,zlp NN a=some b:=by
 simp only[zlp]
 by_cases h0:a<0
 ·rw[X4 (by simpa using h0)];exact⟨_,rfl⟩
 ·rw[Y3 (by simpa using h0)]
  by_cases h1:2147483647<a
  ·rw[X4 (by simpa using h1)];exact⟨_,rfl⟩
  ·rw[Y3 (by simpa using h1)]
   obtain⟨r,r1,r2⟩:=ygx 8 0 a [] NN rfl (by have:=W9;omega) (by omega) (by omega) (al _)
   rw[show((0:Nat):Int)=0 from rfl]at r1
   rw[r1]
   simp only
   rw[gd_p (by simp only[maxS,af,aq];omega),gd_p (by simp only[maxS,af,aq,ae];omega)]
   exact⟨_,rfl⟩
theorem y75{k:B}(hk:k.length=10):∀(d j:Nat) (a:Int) (n:Nat),j+d=9->d<n->∃a',z76 NN n k a (j:Int)=some ((k,a'),())
 | _,_,_,0,_,h=>absurd h (ag _)
 | 0,j,a,n+1,hj,_=>by
  rw[zdh]
  simp only[z17]
  rw[Y3 (by simp;omega)]
  exact⟨a,rfl⟩
 | d+1,j,a,n+1,hj,hn=>by
  have w3:aa .i64 ((j:Int)+1)=((j+1:Nat):Int):=by rw[w64 (by omega) (by omega)];rfl
  have ih:=fun a=>y75 hk d (j+1) a n (by omega) (by omega)
  rw[zdh]
  simp only[z17,w3]
  rw[X4 (by simp;omega),gd_t (V7 (by omega) (by omega))]
  cases decide ((48:Int)<=aa .i64 (bt k (j:Int)))
  ·exact ih _
  ·cases decide (aa .i64 (bt k (j:Int))<=57)
   ·exact ih _
   ·exact ih _
theorem zy9(k:B):∃b,z9f NN k=some b:=by
 simp only[z9f]
 by_cases h:k.length=10
 ·rw[Y3 (by rw[h];rfl)]
  obtain⟨a,ha⟩:=y75 h 8 1 0 NN rfl (by have:=W9;omega)
  rw[show((1:Nat):Int)=1 from rfl]at ha
  obtain⟨b,hb⟩:=yk9 a
  rw[ha]
  simp only[hb]
  exact⟨_,rfl⟩
 ·rw[X4 (by rw[J3 (by omega)];rfl)];exact⟨_,rfl⟩
theorem yk5{x:G4}(h:x.1.length<1000000):∃b,zir NN x=some b:=by
 obtain⟨v,hv⟩:=zxq h
 obtain⟨w,hw⟩:=zy9 x.1
 obtain⟨nm,hnm⟩:=y9a x.2.2.2
 have p0:∃b,Q3 NN x=some (b,()):=by
  simp only[Q3,hv,hnm]
  cases eqi x.2.1 1<;>cases eqi x.2.1 2<;>cases decide (0<=x.2.2.1)<;>cases eqi x.2.1 3<;>cases eqi x.2.1 4<;>exact⟨_,rfl⟩
 obtain⟨b,hb⟩:=p0
 simp only[zir,hv,hw,K4]
 cases v<;>cases w<;>cases eqi x.2.1 2<;>cases eqi x.2.2.1 0<;>cases eqi x.2.1 3<;>cases eqs x.2.2.2 []<;>simp only[aS,aO,cond_true,cond_false,hb]<;>exact⟨_,rfl⟩
theorem ynw{x:G4}(h:x.1.length<1000000)(h2:x.2.2.2.length<1000000):∃r,zoz NN x=some r:=by
 obtain⟨b,hb⟩:=yk5 h
 have by2:∀a c:Int,(zmm ([a,c]:List Int)).length=2:=fun _ _=>rfl
 simp only[zoz,hb]
 cases b
 ·exact⟨_,rfl⟩
 ·simp only[aS,cond_false]
  cases eqi x.2.1 1
  ·cases eqi x.2.1 2
   ·cases eqi x.2.1 3
    ·simp only[cond_false]
     rw[gd_p (by simp only[maxS,af,aq];omega),gd_p (by simp only[maxS,af,aq,ae];omega)]
     exact⟨_,rfl⟩
    ·simp only[cond_false,cond_true]
     rw[gd_p (by simp only[maxS,af,aq];omega),gd_p (by simp only[maxS,af,aq,ae];omega)]
     exact⟨_,rfl⟩
   ·simp only[cond_false,cond_true]
    rw[gd_p (by simp only[maxS,af,aq];omega),gd_p (by rw[by2];simp only[maxS,af,aq,ae];omega)]
    exact⟨_,rfl⟩
  ·simp only[cond_true]
   rw[gd_p (by simp only[maxS,af,aq];omega)]
   exact⟨_,rfl⟩
theorem yaq{k y:B}{i:Nat}{z:G4}(hi:i<k.length)(h1:z.1.length<=k.length)(hy:y.length<=k.length)(hz:z.2.2.2.length<=k.length):∃r,z3y NN k (i:Int) y z=some ((),(r,()))/\r.1.length<=k.length/\r.2.2.2.length<=k.length:=by
 have hc:(cut2 k (1:Int) (i:Int)).length<=k.length:=by simp[cut2];omega
 simp only[z3y]
 have g1:∀{α:Type} (f:Option α),0<i->gd (decide (0<=(1:Int))&&(decide ((1:Int)<=(i:Int))&&decide ((i:Int)<=(List.length k:Int)))) f=f:=fun f h=>gd_t (by simp;omega) f
 have g2:∀{α:Type} (f:Option α),gd (inB (0:Int) k.length) f=f:=fun f=>gd_t (V7 (by omega) (by omega)) f
 rcases bD i with h0 | h0
 ·rw[show decide ((0:Int)<(i:Int))=false by rw[h0];rfl]
  cases eqi z.2.1 3<;>cases eqi z.2.1 1<;>simp only[cond_true,cond_false]<;>first | exact⟨_,rfl,h1,hz⟩ | exact⟨_,rfl,h1,hy⟩
 ·simp only[g1 _ h0,g2]
  cases eqi z.2.1 3<;>cases eqi z.2.1 1<;>cases decide ((0:Int)<(i:Int))<;>cases eqi (bt k 0) 6<;>simp only[cond_true,cond_false]<;>first | exact⟨_,rfl,h1,hz⟩ | exact⟨_,rfl,h1,hy⟩ | exact⟨_,rfl,hc,hz⟩ | exact⟨_,rfl,hc,hy⟩
theorem ykr{k:B}{i:Nat}(hi:i<k.length)(hk:k.length<1000000):∃r,zis NN k (i:Int)=some r/\r.1.length<=k.length/\r.2.2.2.length<=k.length:=by
 have w:aa .i64 ((i:Int)+1)=((i+1:Nat):Int):=by rw[w64 (by omega) (by omega)];rfl
 have c1:(cut2 k (0:Int) (i:Int)).length<=k.length:=by rw[y93];simp;omega
 have c2:(cut2 k ((i+1:Nat):Int) (k.length:Int)).length<=k.length:=by rw[zol];simp
 have main:∀(a b:Int),∃r,(match z3y NN k (i:Int) (cut2 k ((i+1:Nat):Int) (k.length:Int)) ((cut2 k (0:Int) (i:Int)),(a,(b,([]:List UInt8))))with
   | some r5=>(some r5.2.1)
   | none=>none)=some r/\r.1.length<=k.length/\r.2.2.2.length<=k.length:=fun a b=>by
  obtain⟨r,r1,r2⟩:=yaq (y:=cut2 k ((i+1:Nat):Int) (k.length:Int)) (z:=((cut2 k (0:Int) (i:Int)),(a,(b,([]:List UInt8))))) hi c1 c2 (bm _)
  exact⟨r,by rw[r1],r2⟩
 simp only[zis,w]
 rw[gd_t (by simp;omega),gd_t (V7 (by omega) (by omega)),gd_t (by simp;omega)]
 cases eqi (aa .i64 (bt k (i:Int))) 2
 ·exact main _ _
 ·simp only[cond_true]
  by_cases h2:(cut2 k ((i+1:Nat):Int) (k.length:Int)).length=2
  ·rw[X4 (by rw[h2];rfl),gd_t (by rw[h2];rfl),gd_t (by rw[h2];rfl)]
   exact main _ _
  ·rw[Y3 (J3 (by omega))]
   exact main _ _
theorem ybt{k:B}(hk:k.length<1000000):∀(post pre:B) (n:Nat),k=pre++post->post.length<n->∃r,z8h NN n k (pre.length:Int)=some r
 | _,_,0,_,h=>absurd h (ag _)
 | [],pre,n+1,hkk,_=>by
  rw[zf2]
  simp only[z2h]
  rw[Y3 (by rw[hkk];simp)]
  exact⟨_,rfl⟩
 | x::post,pre,n+1,hkk,hn=>by
  simp only[af]at hn
  have hpl:pre.length<k.length:=by rw[hkk];simp
  have hb:pre.length<9223372036854775807:=by omega
  obtain⟨r,ih⟩:=ybt hk post (pre++[x]) n (by rw[hkk];simp) (by omega)
  obtain⟨z,z1,z2,z3⟩:=ykr hpl hk
  obtain⟨y,hy⟩:=ynw (x:=z) (by omega) (by omega)
  have hin:inB (pre.length:Int) k.length=true:=V7 (by omega) (by omega)
  rw[zf2]
  simp only[z2h,W7 (q:=x) hb,ih,z1,hy]
  rw[X4 (by simp;omega),gd_t hin,gd_t hin]
  cases decide (bt k (pre.length:Int)<1)<;>cases decide (3<bt k (pre.length:Int))<;>cases eqi y.2 0<;>cases eqs y.1 k<;>exact⟨_,rfl⟩
theorem y7q{k:B}(hk:k.length<1000000):∃r,ze2 NN k=some r:=by
 obtain⟨r,hr⟩:=ybt hk k [] NN rfl (by have:=W9;omega)
 have hz:(([]:B).length:Int)=0:=rfl
 rw[hz]at hr
 simp only[ze2,hr]
 cases r<;>exact⟨_,rfl⟩
theorem yim{p:Pr}(hk:p.1.length<1000000):∃r,zfo NN p=some r:=by
 obtain⟨r,hr⟩:=y7q hk
 simp only[zfo,hr]
 cases eqi r.2 0<;>cases eqi r.1.2.1 1<;>cases eqi r.1.2.1 2<;>cases eqi r.1.2.1 3<;>exact⟨_,rfl⟩
theorem yb4:∀(post pre:List Pr) (n:Nat) (u:z9u),post.length<n->(pre++post).length<1000000000->(∀p∈post,p.1.length<1000000)->∃u',z8e NN n (pre++post) (pre.length:Int) u=some (((),()),((),(u',())))
 | _,_,0,_,h,_,_=>absurd h (ag _)
 | [],pre,n+1,u,_,_,_=>by
  rw[zey]
  simp only[z2d,ai,aA,decide_false,cond_false]
  exact⟨u,rfl⟩
 | x::post,pre,n+1,u,hn,hl,hp=>by
  simp only[af]at hn
  have hb:pre.length<9223372036854775807:=by simp at hl;omega
  obtain⟨c,hc⟩:=yim (hp x (by simp))
  rw[zey]
  simp only[z2d,U3,cond_true,U0,hc]
  rw[gd_t V4,W7 (q:=x) hb,V9 (pre:=pre) (q:=x) (post:=post)]
  exact yb4 post (pre++[x]) n _ (by omega) (by simpa using hl) fun y hy=>hp y (by simp[hy])
theorem yis{t:List Pr}(hl:t.length<1000000000)(hp:∀p∈t,p.1.length<1000000):∃u,zio NN t=some u:=by
 obtain⟨u,hu⟩:=yb4 t [] NN (0,0) (by have:=W9;omega) (by simpa using hl) hp
 have hz:(([]:List Pr).length:Int)=0:=rfl
 rw[hz,aj]at hu
 exact⟨u,by simp only[zio,hu]⟩
theorem yj5{a b:B}(ha:a.length<1000000)(hb:b.length<1000000):∃r,zdz NN a b=some r:=by
 obtain⟨va,h1⟩:=zxq ha
 obtain⟨vb,h2⟩:=zxq hb
 obtain⟨wa,h3⟩:=zy9 a
 obtain⟨wb,h4⟩:=zy9 b
 have p1:∀x y,∃r,z3v NN a b x y=some (r,()):=fun x y=>by
  simp only[z3v,h3,h4]
  cases x<;>cases y<;>cases wa<;>exact⟨_,rfl⟩
 have p0:∀x,∃r,z3w NN a b x=some (r,()):=fun x=>by
  obtain⟨r1,e1⟩:=p1 x vb
  obtain⟨r2,e2⟩:=p1 x false
  simp only[z3w,h1,h2,e1,e2]
  cases eqs a []<;>cases eqs b []<;>cases va<;>exact⟨_,rfl⟩
 obtain⟨r1,e1⟩:=p0 (eqi (bt b 0) 6)
 obtain⟨r2,e2⟩:=p0 false
 simp only[zdz,e1,e2]
 by_cases hca:0<a.length
 ·have ia:inB (0:Int) a.length=true:=V7 (by omega) (by omega)
  rw[show decide ((0:Int)<(a.length:Int))=true by simpa using hca,cond_true,gd_t ia]
  by_cases hcb:0<b.length
  ·have ib:inB (0:Int) b.length=true:=V7 (by omega) (by omega)
   rw[show decide ((0:Int)<(b.length:Int))=true by simpa using hcb,cond_true,gd_t ib]
   cases eqi (bt a 0) 6<;>exact⟨_,rfl⟩
  ·rw[show decide ((0:Int)<(b.length:Int))=false from decide_eq_false (by omega)]
   cases eqi (bt a 0) 6<;>exact⟨_,rfl⟩
 ·rw[show decide ((0:Int)<(a.length:Int))=false from decide_eq_false (by omega)]
  exact⟨_,rfl⟩
theorem yek{g:Nat}(hg:g<40000){s:Y6}{m:Mg}(hm:GM g m):∃r,z6p NN s m=some r:=by
 have ent:∀k∈KU g,∃b,zab NN k=some b:=fun k hk=>by
  obtain⟨r,hr⟩:=y7q (k:=k) (by have:=UU.len (UU.of hk);omega)
  simp only[zab,hr]
  cases eqi r.2 0<;>exact⟨_,rfl⟩
 have ali:∀e:B×B,e∈ends->∃r,zdz NN e.1 e.2=some r:=fun e he=>by
  have:=(z9o (U9 he).1).2
  have:=(z9o (U9 he).2).2
  exact yj5 (by omega) (by omega)
 cases hm with
 | put k v n hk hv=>
  obtain⟨b,hb⟩:=ent k hk
  simp only[z6p,K0,cond_true,hb,z50,zb6]
  cases b<;>exact⟨_,rfl⟩
 | del k hk=>
  obtain⟨b,hb⟩:=ent k hk
  simp only[z6p,show eqi (2:Int) 1=false by decide,K0,cond_true,cond_false,hb,z50,zb6]
  cases b<;>exact⟨_,rfl⟩
 | drop x hx=>exact⟨_,rfl⟩
 | stamp x n hx=>exact⟨_,rfl⟩
 | move e he=>
  obtain⟨r,hr⟩:=ali e he
  simp only[z6p,show eqi (4:Int) 1=false by decide,show eqi (4:Int) 2=false by decide,show eqi (4:Int) 6=false by decide,show eqi (4:Int) 3=false by decide,show eqi (4:Int) 5=false by decide,cond_false,hr]
  cases r<;>exact⟨_,rfl⟩
 | clone e he=>
  obtain⟨r,hr⟩:=ali e he
  simp only[z6p,show eqi (5:Int) 1=false by decide,show eqi (5:Int) 2=false by decide,show eqi (5:Int) 6=false by decide,show eqi (5:Int) 3=false by decide,K0,cond_true,cond_false,hr,z50]
  cases r<;>exact⟨_,rfl⟩
theorem ylt{nd:Nd}:∀(post pre:List Y6) (n:Nat) (s:Y6),nd.2.2.2.1=pre++post->post.length<n->(pre++post).length<1000000000->∃s',zc3 NN n (pre.length:Int) nd s=some (((),((),())),(nd,((),(s',()))))
 | _,_,0,_,_,h,_=>absurd h (ag _)
 | [],pre,n+1,s,hk,_,_=>by
  rw[zia]
  simp only[z4u,hk,ai,aA,decide_false,cond_false]
  exact⟨s,rfl⟩
 | x::post,pre,n+1,s,hk,hn,hl=>by
  simp only[af]at hn
  have hb:pre.length<9223372036854775807:=by simp at hl;omega
  rw[zia]
  simp only[z4u,hk,U3,cond_true,U0,zrv]
  rw[gd_t V4,W7 (q:=x) hb]
  exact ylt post (pre++[x]) n _ (by rw[hk];simp) (by omega) (by simpa using hl)
theorem yls{g:Nat}(hg:g<40000){nd:Nd}:∀(post pre:List Mg) (n:Nat) (s:Y6),nd.2.2.2.2=pre++post->post.length<n->(pre++post).length<1000000000->(∀m∈post,GM g m)->∃s',zc2 NN n (pre.length:Int) nd s=some (((),()),((),(s',())))
 | _,_,0,_,_,h,_,_=>absurd h (ag _)
 | [],pre,n+1,s,hk,_,_,_=>by
  rw[zi9]
  simp only[z4t,hk,ai,aA,decide_false,cond_false]
  exact⟨s,rfl⟩
 | x::post,pre,n+1,s,hk,hn,hl,hm=>by
  simp only[af]at hn
  have hb:pre.length<9223372036854775807:=by simp at hl;omega
  obtain⟨c,hc⟩:=yek hg (s:=s) (hm x (by simp))
  rw[zi9]
  simp only[z4t,hk,U3,cond_true,U0,hc]
  rw[gd_t V4,W7 (q:=x) hb]
  exact yls hg post (pre++[x]) n _ (by rw[hk];simp) (by omega) (by simpa using hl) fun y hy=>hm y (by simp[hy])
theorem yqe{G:Nat}(hG:G<40000):zh6 G:=by
 intro nd h
 have hp:∀p∈nd.1,p.1.length<1000000:=fun p hp=>by have:=UU.len (UU.of (h.ps.key p hp).1);omega
 have hl:=h.ps.len
 obtain⟨u,hu⟩:=yis (t:=nd.1) (by omega) hp
 obtain⟨s,hs⟩:=ylt (nd:=nd) nd.2.2.2.1 [] NN ((0,0),(0,0)) rfl (by have:=W9;have:=h.sl;omega) (by have:=h.sl;simp;omega)
 obtain⟨s',hs'⟩:=yls hG (nd:=nd) nd.2.2.2.2 [] NN s rfl (by have:=W9;have:=h.bl;omega) (by have:=h.bl;simp;omega) h.buf
 have z1:(([]:List Y6).length:Int)=0:=rfl
 have z2:(([]:List Mg).length:Int)=0:=rfl
 rw[z1]at hs
 rw[z2]at hs'
 simp only[zk7,hu,znr,hs,hs']
 cases eqi (nd.2.2.1.length:Int) 0<;>exact⟨_,rfl⟩
theorem zs5(m0:List Sp)(E:List B)(hEl:E.length<=1000000)(hE:∀q∈m0,q.1∈E/\q.2∈E)(h0:([]:B)∈E):∀(post pre:List Sp) (n:Nat) (left:List Sp),(∀q∈post,q∈m0)->post.length<n->(pre++post).length<1000000->
  Sep left->(∀s∈left,s.1∈E/\s.2∈E)->∃r,z61 NN n (pre++post) (pre.length:Int) left=some ((),(r,()))/\(∀k,inS r k=(inS left k&& !(inS post k)))/\Sep r/\∀s∈r,s.1∈E/\s.2∈E
 | _,_,0,_,_,h,_,_,_=>absurd h (ag _)
 | [],pre,n+1,left,_,_,_,hs,he=>by
  refine⟨left, ?_,fun k=>by simp[inS],hs,he⟩
  rw[g9]
  simp only[Q9,ai,aA,decide_false,cond_false]
 | q::post,pre,n+1,left,hm0,hn,hl,hs,he=>by
  simp only[af]at hn
  have hll:=hs.len (E:=E) fun s h=>(he s h).1
  have hb:pre.length<9223372036854775807:=by simp at hl;omega
  have hq:=hE q (hm0 q (by simp))
  have hm0':∀x∈post,x∈m0:=fun x hx=>hm0 x (by simp[hx])
  cases e:emptyB q
  ·have hm:=yc8 NN (pm:=pre) (post':=post) (q:=q) left (by have:=W9;omega) (by omega)
   have sem:∀(l out:List Sp),(∀k,inS (l.foldl (z2x q) out) k=(inS out k || (inS l k&& !(hasB q k))))/\(l.foldl (z2x q) out).length<=out.length+2*l.length:=by
    intro l
    induction l with
    | nil=>intro out;exact⟨fun k=>by simp[inS],by simp⟩
    | cons x l ih=>
     intro out
     obtain⟨i1,i2⟩:=ih (z2x q out x)
     have hlen:(z2x q out x).length<=out.length+2:=by
      unfold z2x
      cases eqs q.1 []<;>cases eqs q.2 []<;>simp
     refine⟨fun k=> ?_, ?_⟩
     ·rw[aU,i1]
      unfold z2x
      rw[z92,y2j e]
      have:inS (x::l) k=(hasB x k || inS l k):=by simp[inS]
      rw[this]
      cases inS out k<;>cases hasB x k<;>cases inS l k<;>cases hasB q k<;>rfl
     ·rw[aU];simp only[af];omega
   have ends:∀(l out:List Sp),(∀s∈l,s.1∈E/\s.2∈E)->(∀s∈out,emptyB s=false->s.1∈E/\s.2∈E)->∀s∈l.foldl (z2x q) out,emptyB s=false->s.1∈E/\s.2∈E:=by
    intro l
    induction l with
    | nil=>intro out _ h;exact h
    | cons x l ih=>
     intro out hl ho
     rw[aU]
     refine ih _ (fun s hs=>hl s (by simp[hs])) fun s hs hfull=> ?_
     have hx:=hl x (by simp)
     unfold z2x at hs
     have two:∀y:Sp,y.1∈E->y.2∈E->s=G7 x y->s.1∈E/\s.2∈E:=by
      rintro y y1 y2 rfl
      obtain⟨f1,f2⟩:=y43 x y hfull
      exact⟨by rcases f1 with f | f<;>rw[f]<;>first | exact hx.1 | exact y1,by rcases f2 with f | f<;>rw[f]<;>first | exact hx.2 | exact y2⟩
     rcases ak.1 hs with hs | hs
     ·exact ho s hs hfull
     ·rcases ak.1 hs with hs | hs
      ·cases e1:eqs q.1 []<;>rw[e1]at hs<;>simp at hs
       exact two ([],q.1) h0 hq.1 hs
      ·cases e1:eqs q.2 []<;>rw[e1]at hs<;>simp at hs
       exact two (q.2,[]) hq.2 h0 hs
   obtain⟨s1,s2⟩:=sem left []
   simp only[aq,bk]at s2
   obtain⟨r,r1,r2,r3,r4,r5⟩:=zdt NN (l:=left.foldl (z2x q) []) (by have:=W9;omega) (by omega)
   have r6:∀s∈r,s.1∈E/\s.2∈E:=by
    intro s hs
    have e0:=ends left [] he (fun s h=>by cases h)
    obtain⟨⟨x,hx,ex⟩,y,hy,ey⟩:=r5 s hs
    obtain⟨x1,x2⟩:=aB.1 hx
    obtain⟨y1,y2⟩:=aB.1 hy
    exact⟨by rw[ex];exact(e0 x x1 (by simpa using x2)).1,by rw[ey];exact(e0 y y1 (by simpa using y2)).2⟩
   obtain⟨r',i1,i2,i4,i5⟩:=zs5 m0 E hEl hE h0 post (pre++[q]) n r hm0' (by omega) (by simpa using hl) r4 r6
   refine⟨r', ?_,fun k=> ?_,i4,i5⟩
   ·rw[g9]
    simp only[Q9,U3,V4,cond_true,U0,z30,e,cond_false,hm,r1]
    rw[gd_t rfl,W7 (q:=q) hb,V9 (pre:=pre) (q:=q) (post:=post),i1]
   ·rw[i2,r2,s1]
    have:inS (q::post) k=(hasB q k || inS post k):=by simp[inS]
    rw[this]
    have z:inS [] k=false:=rfl
    rw[z]
    cases inS left k<;>cases hasB q k<;>cases inS post k<;>rfl
  ·obtain⟨r',i1,i2,i4,i5⟩:=zs5 m0 E hEl hE h0 post (pre++[q]) n left hm0' (by omega) (by simpa using hl) hs he
   refine⟨r', ?_,fun k=> ?_,i4,i5⟩
   ·rw[g9]
    simp only[Q9,U3,V4,cond_true,U0,z30,e]
    rw[gd_t rfl,W7 (q:=q) hb,V9 (pre:=pre) (q:=q) (post:=post),i1]
   ·rw[i2]
    have:inS (q::post) k=(hasB q k || inS post k):=by simp[inS]
    rw[this,zhy e,Bool.false_or]
theorem y3e{l m:List Sp}{E:List B}(hEl:E.length<=1000000)(hE:∀q∈m,q.1∈E/\q.2∈E)(h0:([]:B)∈E)(hL:∀s∈l,emptyB s=false->s.1∈E/\s.2∈E)(hm:m.length<1000000)(hl:l.length<10000000):
  ∃r,Q7 NN l m=some r/\Sep r/\∀s∈r,s.1∈E/\s.2∈E:=by
 obtain⟨r,r1,r2,r3,r4,r5⟩:=zdt NN (l:=l) (by have:=W9;omega) (by omega)
 have r6:∀s∈r,s.1∈E/\s.2∈E:=fun s hs=>by
  obtain⟨⟨x,hx,ex⟩,y,hy,ey⟩:=r5 s hs
  obtain⟨x1,x2⟩:=aB.1 hx
  obtain⟨y1,y2⟩:=aB.1 hy
  exact⟨by rw[ex];exact(hL x x1 (by simpa using x2)).1,by rw[ey];exact(hL y y1 (by simpa using y2)).2⟩
 obtain⟨r',i1,i2,i4,i5⟩:=zs5 m E hEl hE h0 m [] NN r (fun _ h=>h) (by have:=W9;omega) (by simpa using hm) r4 r6
 have hz:(([]:List Sp).length:Int)=0:=rfl
 simp only[aj,hz]at i1
 exact⟨r',by simp only[Q7,r1,i1],i4,i5⟩
theorem y8v{ms:List Mg}(hm:∀m∈ms,GM 1 m)(hl:ms.length<1000000):∀(j:Nat) (n:Nat) (out:List Mg) (held:List Sp),j<=ms.length->j<n->(∀m∈out,GM 1 m)->out.length+j<=ms.length->Sep held->(∀s∈held,s.1∈UU 1/\s.2∈UU 1)->
  ∃r h,zae NN n ms ((j:Int)-1) out held=some (((),((),())),((),(r,(h,()))))/\(∀m∈r,GM 1 m)/\r.length<=ms.length
 | _,0,_,_,_,h,_,_,_,_=>absurd h (ag _)
 | 0,n+1,out,held,_,_,ho,hol,_,_=>by
  refine⟨out,held, ?_,ho,by omega⟩
  rw[zgh]
  simp only[z3l]
  rw[Y3 (by simp)]
 | j+1,n+1,out,held,hj,hn,ho,hol,hs,he=>by
  have hjl:j<ms.length:=by omega
  have hG:=hm ms[j] (List.getElem_mem hjl)
  obtain⟨w1,w2⟩:=wr_G hG (al 1)
  obtain⟨l1,l2,l3⟩:=y1s ms[j]
  have hUl:=UU.length 1
  have hhl:=hs.len (E:=UU 1) fun s h=>(he s h).1
  have e1:((j+1:Nat):Int)-1=(j:Int):=by omega
  have e2:rdL ms (j:Int) U7=ms[j]:=by
   rw[ym0 (x:=ms[j]) (by omega) (by simp[aK hjl])]
  have e3:aa .i64 ((j:Int)-1)=(j:Int)-1:=w64 (by omega) (by omega)
  have hk:∀s∈kls ms[j],SpG 1 s:=fun s hs=>by
   unfold kls at hs
   cases h6:eqi ms[j].1 6<;>rw[h6]at hs
   ·exact w1 s hs
   ·cases hs
  obtain⟨r4,m1,m2,m3⟩:=y3e (l:=wr ms[j]) (m:=held) (E:=UU 1) (by omega) he (UU.nil 1) (fun s h _=>(w1 s h).2) (by omega) (by omega)
  obtain⟨r10,n1,n2,n3⟩:=y3e (l:=held++kls ms[j]) (m:=rds ms[j]) (E:=UU 1) (by omega) (fun s h=>(w2 s h).2) (UU.nil 1) (fun s h _=>by
   rcases ak.1 h with h | h
   ·exact he s h
   ·exact(hk s h).2) (by omega) (by rw[ae];omega)
  rw[zgh]
  simp only[z3l,e1,e2,e3,z77 (g:=1) (by omega) hG,yhp (g:=1) (by omega) hG,zp0 hG,m1,n1,ab,aj]
  rw[X4 (by simp),gd_t (V7 (by omega) (by omega))]
  cases eqi (r4.length:Int) 0
  ·rw[cond_false,gd_t (Y4 (by omega) (by omega)),gd_t (Y4 (by omega) (by omega)),gd_t (Y4 (by omega) (by omega))]
   exact y8v hm hl j n ([ms[j]]++out) r10 (by omega) (by omega) (fun m h=>by
    rcases ak.1 h with h | h
    ·simp at h;rw[h];exact hG
    ·exact ho m h) (by simp;omega) n2 n3
  ·rw[cond_true]
   exact y8v hm hl j n out held (by omega) (by omega) ho (by omega) hs he
theorem y7p{ms:List Mg}(hm:∀m∈ms,GM 1 m)(hl:ms.length<1000000):∃r,zc4 NN ms=some r/\(∀m∈r,GM 1 m)/\r.length<=ms.length:=by
 obtain⟨r0,n1,n2,n3,n4,n5⟩:=zdt NN (l:=[]) (by have:=W9;simp;omega) (by simp)
 obtain⟨r,h,h1,h2,h3⟩:=y8v hm hl ms.length NN [] r0 (al _) (by have:=W9;omega) (fun m h=>by cases h) (by simp) n4 (fun s hs=>by
  have:r0=[]:=bP.1 (by simpa using n3)
  rw[this]at hs;cases hs)
 refine⟨r, ?_,h2,h3⟩
 simp only[zc4,zrw,n1,ab]
 rw[w64 (by omega) (by omega),h1]
 rfl
theorem ydf{a b:List Mg}(ha:∀m∈a,GM 1 m)(hb:∀m∈b,GM 1 m)(hl:a.length+b.length<1000000):∃r,z8o NN a b=some r/\(∀m∈r,GM 1 m)/\r.length<=a.length+b.length:=by
 obtain⟨r,r1,r2,r3⟩:=y7p (ms:=a++b) (fun m h=>(ak.1 h).elim (ha m) (hb m)) (by rw[ae];exact hl)
 refine⟨r, ?_,r2,by rw[<-ae];exact r3⟩
 simp only[z8o,aj]
 rw[gd_t (Y4 (by omega) (by omega)),gd_t (Y4 (by omega) (by omega)),r1]
 rfl
theorem GT.mono{Γ K Φ Φ' b b' g:Nat}{T:Tr}(h:GT Γ K Φ b g T)(hb:b'<=b)(hΦ:Φ<=Φ'):GT Γ K Φ' b' g T:=
 ⟨h.g1,h.vt,by have:=h.gr;have:=y3m (show T.mv+b'<=T.mv+b by omega);omega,aX h.pot hΦ⟩
theorem ylo{Γ K Φ b g:Nat}(hΓ:Γ<950)(hΦ:Φ+(K+(5+48*(Γ+1)))<20000000){p:List Sl}{root:Int}{R:List Int}{T:Tr}{sh:V8}(hG:GT Γ K Φ (b+1) g T)(hP:PI p (root::R))(hu:Unf p root T)(hR:R.length<1000000){m:Mg}(hm:GM 1 m):
  ∃t' e,zk6 NN (p,(root,sh)) m=some (t',e)/\(e≠0\/(e=0/\∃q root' T' g',t'=(q,(root',sh))/\GT Γ K (Φ+(K+(5+48*(Γ+1)))) b g' T'/\PI q (root'::R)/\Unf q root' T'/\∀x∈R,∀X,Unf p x X->Unf q x X)):=by
 have hle:=hG.le
 have hw:=ymz Γ m
 have hmg:GM g m:=hm.mono hG.g1
 obtain⟨g1,g2⟩:=y2s hu
 have pool:∀(nd:Nd) (T':Tr),UnfN p nd T'->nd.2.2.1.length<=40000->∃t' e,((z65 NN p nd).bind fun r5=>bif (!(eqi r5.2.2 (0:Int)))then(some (((p,(root,sh)):Y5),r5.2.2))else((z2m NN r5.1 root).bind fun r6=>some ((r6.1,(r5.2.1,sh)),(0:Int))))=some (t',e)/\
   (e≠0\/(e=0/\∃q root',t'=(q,(root',sh))/\PI q (root'::R)/\Unf q root' T'/\∀x∈R,∀X,Unf p x X->Unf q x X)):=fun nd T' hn hk=>by
  obtain⟨q,id,e,a1,a2⟩:=hP.add hn hk (by simp;omega)
  rw[a1]
  simp only[ab]
  rcases a2 with a2 | ⟨rfl,a3,a4,a5⟩
  ·exact⟨_,_,by rw[X4 (by simp only[J3 a2];rfl)], .inl a2⟩
  ·obtain⟨q2,d1,d2,d3⟩:=PI.drop (L:=id::R) (a3.perm (by
    have:(root::R++[id]).Perm (root::(id::R)):=cm.cons root (ce (l₁:=R) (l₂:=[id]))
    exact this)) (by simp;omega)
   rw[Y3 (by rfl),d1]
   refine⟨_,_,rfl, .inr ⟨rfl,q2,id,rfl,d2,d3.unf d2.bal (d2.bal.mem id (by simp)) a5,fun x hx X hX=>d3.unf d2.bal (d2.bal.mem x (by simp[hx])) (a4.unf hX)⟩⟩
 have goal:∀(nd:Nd) (T':Tr) (g':Nat),UnfN p nd T'->nd.2.2.1.length<=40000->GT Γ K (Φ+(K+(5+48*(Γ+1)))) b g' T'->∃t' e,((z65 NN p nd).bind fun r5=>bif (!(eqi r5.2.2 (0:Int)))then(some (((p,(root,sh)):Y5),r5.2.2))else((z2m NN r5.1 root).bind fun r6=>some ((r6.1,(r5.2.1,sh)),(0:Int))))=some (t',e)/\
   (e≠0\/(e=0/\∃q root' T' g',t'=(q,(root',sh))/\GT Γ K (Φ+(K+(5+48*(Γ+1)))) b g' T'/\PI q (root'::R)/\Unf q root' T'/\∀x∈R,∀X,Unf p x X->Unf q x X)):=fun nd T' g' hn hk hT=>by
  obtain⟨t',e,h1,h2⟩:=pool nd T' hn hk
  refine⟨t',e,h1, ?_⟩
  rcases h2 with h2 | ⟨h2,q,root',h3,h4,h5,h6⟩
  ·exact .inl h2
  ·exact .inr ⟨h2,q,root',T',g',h3,hT,h4,h5,h6⟩
 simp only[zk6,zxn,ab]
 cases vldB m
 ·exact⟨_,_,rfl, .inl (by decide)⟩
 rw[Y3 (by rfl),g1]
 simp only[ab]
 rw[Y3 (by rfl)]
 have hgr:=hG.gr
 have hpot:=hG.pot
 have hvt:=hG.vt
 cases T with
 | leaf ps=>
  have e2:zas (slA p root)=z03 ps:=g2
  simp only[VT]at hvt
  have hap:=y6o (by omega) hvt.1 hmg
  have e3:(z03 ps).1=ps:=rfl
  have e4:((app m ps,(z03 ps).2):Nd)=z03 (app m ps):=rfl
  rw[e2,X4 (by rfl)]
  simp only[e3,hap,ab,e4]
  refine goal (z03 (app m ps)) (.leaf (app m ps)) (g+mvs m) rfl (by simp[z03]) ⟨aX hG.g1 (cb _ _), ?_, ?_, ?_⟩
  ·simp only[VT]
   exact⟨yfd hvt.1 hmg,fun x _=>by rw[U1];cases x.1<;>rfl⟩
  ·have:=ymb m
   have z0:(Tr.leaf ps).mv=0:=rfl
   have z1:(Tr.leaf (app m ps)).mv=0:=rfl
   have z2:tri (b+1)=tri b+(b+1):=rfl
   rw[z0,bk,z2]at hgr
   rw[z1,bk];omega
  ·simp only[Tr.bw,Tr.fm,Tr.mv,Nat.mul_zero];omega
 | node ks piv buf=>
  obtain⟨kids,sums,e2,u2,u3,u4⟩:=g2
  have hvt0:=hvt
  simp only[VT]at hvt
  have hpl:=VTs.plen hvt.1
  obtain⟨_,_,hkl⟩:=VTs.piv hvt.1
  have hkl':=u4.len
  have hbl:=zc8 (show g<=Γ by omega) fun m hm=>(hvt.2 m hm).1
  have hbw:wb Γ buf<=(Tr.node ks piv buf).bw Γ:=by simp only[Tr.bw,Tr.fm];omega
  have hmv:mvN (buf++[m])=mvN buf+mvs m:=by rw[z79];simp[mvN]
  have hwb:wb Γ (buf++[m])=wb Γ buf+wm Γ m:=by rw[z9q,y4o]
  have:=ymb m
  rw[e2,Y3 (J3 (by
   have:kids.length≠0:=fun h=>u3 (bP.1 h)
   simp only;omega)),gd_t (Y4 (by simp only;omega) (by omega)),gd_t (Y4 (by simp only[aj];omega) (by omega))]
  simp only[aj]
  refine goal ([],(piv,(kids,(sums,buf++[m])))) (.node ks piv (buf++[m])) g ⟨kids,sums,rfl,u2,u3,u4⟩ (by simp only;omega) ⟨hG.g1, ?_, ?_, ?_⟩
  ·simp only[VT]
   refine⟨hvt.1,fun x hx=> ?_⟩
   rcases ak.1 hx with hx | hx
   ·exact hvt.2 x hx
   ·simp at hx;rw[hx];exact⟨hmg,yd8 m⟩
  ·simp only[Tr.mv]at hgr|-
   rw[hmv]
   have:=y3m (show ks.mv+(mvN buf+mvs m)+b<=ks.mv+mvN buf+(b+1) by omega)
   omega
  ·simp only[Tr.mv,Tr.bw,Tr.fm]at hpot|-
   rw[hmv,hwb]
   have e5:K*(ks.mv+(mvN buf+mvs m))=K*(ks.mv+mvN buf)+K*mvs m:=by rw[<-bW,Nat.mul_add]
   have e6:K*mvs m<=K*1:=ba K this
   omega
def epR(e:W5):Int:=e.2.2.1
def epM(e:W5):List Mg:=e.2.2.2.2
structure FI (Γ K Φ b Λ leaf fan bl:Nat) (f:Z4):Prop where
 sh:f.2.1=shp leaf fan bl
 pi:PI f.1 (f.2.2.2.2.1::f.2.2.1.map epR)
 tr:∀x∈f.2.2.2.2.1::f.2.2.1.map epR,∃g T,GT Γ K Φ b g T/\Unf f.1 x T
 ne:f.2.2.1.length<=16
 ms:(∀m∈f.2.2.2.2.2.2,GM 1 m)/\f.2.2.2.2.2.2.length<=Λ
 es:∀e∈f.2.2.1,(∀m∈epM e,GM 1 m)/\((epM e).length<=Λ/\e.2.2.2.1.length<=12)
theorem FI.mono{Γ K Φ Φ' b b' Λ Λ' leaf fan bl:Nat}{f:Z4}(h:FI Γ K Φ b Λ leaf fan bl f)(hb:b'<=b)(hΦ:Φ<=Φ')(hΛ:Λ<=Λ'):FI Γ K Φ' b' Λ' leaf fan bl f:=
 ⟨h.sh,h.pi,fun x hx=>by obtain⟨g,T,h1,h2⟩:=h.tr x hx;exact⟨g,T,h1.mono hb hΦ,h2⟩,h.ne,⟨h.ms.1,aX h.ms.2 hΛ⟩,fun e he=>⟨(h.es e he).1,aX (h.es e he).2.1 hΛ,(h.es e he).2.2⟩⟩
section
variable {Γ K leaf fan bl:Nat} (hΓ:Γ<950) (hK:20*(Γ+1)+2*(5+48*(Γ+1))<=K) (hl1:1<=leaf) (hl2:leaf<1000000) (hf1:2<=fan) (hf2:fan<1000000)
include hΓ in
theorem addm_l0{f:Z4}{R:List Int}(hR:R.length<1000000){b:Nat}:∀(post pre:List Mg) (n Φ:Nat) (p:List Sl) (root:Int) (T:Tr) (g:Nat),post.length<n->(pre++post).length<1000000->Φ+post.length*(K+(5+48*(Γ+1)))<20000000->(∀m∈post,GM 1 m)->
  GT Γ K Φ (b+post.length) g T->PI p (root::R)->Unf p root T->
  (∃e,z4x NN n (pre++post) (pre.length:Int) f (p,(root,shp leaf fan bl))=some (.inl (((),e),(f,()))))\/
  ∃q root' T' g',z4x NN n (pre++post) (pre.length:Int) f (p,(root,shp leaf fan bl))=some (.inr ((pre++post,((),((),()))),(f,((),((q,(root',shp leaf fan bl)),())))))/\GT Γ K (Φ+post.length*(K+(5+48*(Γ+1)))) b g' T'/\PI q (root'::R)/\Unf q root' T'/\∀x∈R,∀X,Unf p x X->Unf q x X
 | _,_,0,_,_,_,_,_,h,_,_,_,_,_,_=>absurd h (ag _)
 | [],pre,n+1,Φ,p,root,T,g,_,_,_,_,hG,hP,hu=>by
  refine .inr ⟨p,root,T,g, ?_,by simpa using hG,hP,hu,fun x hx X hX=>hX⟩
  rw[zi2]
  simp only[z4m,ai,aA,decide_false,cond_false]
 | m::post,pre,n+1,Φ,p,root,T,g,hn,hl,hΦ,hm,hG,hP,hu=>by
  simp only[af]at hn
  have hb:pre.length<9223372036854775807:=by simp at hl;omega
  generalize hC:K+(5+48*(Γ+1))=C at*
  have eC:(m::post).length*C=C+post.length*C:=by rw[af,Nat.succ_mul,Nat.add_comm]
  rw[eC]at hΦ
  obtain⟨t',e,a1,a2⟩:=ylo (Φ:=Φ) (K:=K) (b:=b+post.length) (sh:=shp leaf fan bl) hΓ (by rw[hC];omega) (by
   have:b+(m::post).length=b+post.length+1:=by simp;omega
   rw[this]at hG;exact hG) hP hu hR (hm m (by simp))
  rw[hC]at a2
  have st:∀t e,zk6 NN (p,(root,shp leaf fan bl)) m=some (t,e)->z4x NN (n+1) (pre++m::post) (pre.length:Int) f (p,(root,shp leaf fan bl))=bif !(eqi e 0)then some (.inl (((),e),(f,())))else z4x NN n (pre++m::post) ((pre++[m]).length:Int) f t:=fun t e h=>by
   rw[zi2]
   simp only[z4m,U3,cond_true,U0,h,ab]
   rw[gd_t V4,W7 (q:=m) hb]
  rw[st t' e a1]
  rcases a2 with a2 | ⟨rfl,q,root',T',g',rfl,b1,b2,b3,b4⟩
  ·exact .inl ⟨e,by rw[J3 a2];rfl⟩
  ·rw[Y3 (by rfl),V9 (pre:=pre) (q:=m) (post:=post)]
   rcases addm_l0 hR post (pre++[m]) n (Φ+C) q root' T' g' (by omega) (by simpa using hl) (by rw[hC];omega) (fun x hx=>hm x (by simp[hx])) b1 b2 b3 with h | ⟨q2,root2,T2,g2,c1,c2,c3,c4,c5⟩
   ·exact .inl h
   ·rw[hC]at c2
    refine .inr ⟨q2,root2,T2,g2,c1, ?_,c3,c4,fun x hx X hX=>c5 x hx X (b4 x hx X hX)⟩
    rw[eC,<-bW];exact c2
end
section
variable {Γ K leaf fan bl:Nat} (hΓ:Γ<950) (hK:20*(Γ+1)+2*(5+48*(Γ+1))<=K) (hl1:1<=leaf) (hl2:leaf<1000000) (hf1:2<=fan) (hf2:fan<1000000)
include hΓ hK hl1 hl2 hf1 hf2 in
theorem yln{Φ b Λ:Nat}{f:Z4}{l:List Mg}(hF:FI Γ K Φ (b+l.length) Λ leaf fan bl f)(hl:l.length<=1000)(hm:∀m∈l,GM 1 m)(hΦ:Φ+l.length*(K+(5+48*(Γ+1)))<20000000)(hΛ:Λ<100000):
  ∃f' e,zk5 NN f l=some (f',e)/\FI Γ K (Φ+l.length*(K+(5+48*(Γ+1)))) b (Λ+l.length) leaf fan bl f':=by
 have hF':FI Γ K (Φ+l.length*(K+(5+48*(Γ+1)))) b (Λ+l.length) leaf fan bl f:=hF.mono (by omega) (by omega) (by omega)
 obtain⟨p,sh,eps,next,root,parent,msgs⟩:=f
 have hsh:sh=shp leaf fan bl:=hF.sh
 subst hsh
 obtain⟨g,T,hG,hu⟩:=hF.tr root (by simp)
 have hne:eps.length<=16:=hF.ne
 have hms:(∀m∈msgs,GM 1 m)/\msgs.length<=Λ:=hF.ms
 have hP:PI p (root::eps.map epR):=hF.pi
 have hR:(eps.map epR).length<1000000:=by rw[List.length_map];omega
 have htree:zru NN (p,(shp leaf fan bl,(eps,(next,(root,(parent,msgs)))))) 0=some ((p,(root,shp leaf fan bl)),0):=rfl
 simp only[zk5,htree,ab]
 have hz:(([]:List Mg).length:Int)=0:=rfl
 rcases addm_l0 (K:=K) (leaf:=leaf) (fan:=fan) (bl:=bl) hΓ (f:=(p,(shp leaf fan bl,(eps,(next,(root,(parent,msgs))))))) hR (b:=b) l [] NN Φ p root T g (by have:=W9;omega) (by simp;omega) hΦ hm hG hP hu with⟨e,h⟩ | ⟨q,root',T',g',h1,h2,h3,h4,h5⟩
 ·rw[hz,aj]at h
  rw[h]
  exact⟨_,_,rfl,hF'⟩
 ·rw[hz,aj]at h1
  rw[h1]
  simp only[ab]
  obtain⟨t',c,e,p1,p2⟩:=yox (bl:=bl) (yqe (by omega)) hΓ hK hΦ hl1 hl2 hf1 hf2 hR h2 h3 h4
  rw[p1]
  simp only[ab]
  rcases p2 with p2 | ⟨rfl,q2,root2,T2,g2,rfl,k1,k2,k3,k4,k5⟩
  ·exact⟨_,_,by rw[X4 (by simp only[J3 p2];rfl)],hF'⟩
  ·obtain⟨r,r1,r2,r3⟩:=y7p (ms:=msgs++l) (fun m h=>(ak.1 h).elim (hms.1 m) (hm m)) (by rw[ae];omega)
   rw[Y3 (by rfl),gd_t (Y4 (by omega) (by omega))]
   simp only[zrt,ab,aj]
   rw[gd_t (Y4 (by omega) (by omega)),r1]
   refine⟨_,_,rfl,rfl,k3,fun x hx=> ?_,hne,⟨r2,by rw[ae]at r3;show r.length<=_;omega⟩,fun e he=>⟨(hF.es e he).1,aX (hF.es e he).2.1 (cb _ _),(hF.es e he).2.2⟩⟩
   rcases am.1 hx with rfl | hx
   ·exact⟨g2,T2,k1,k4⟩
   ·obtain⟨gx,X,hX,hXu⟩:=hF'.tr x (aF _ hx)
    exact⟨gx,X,hX,k5 x hx X (h5 x hx X hXu)⟩
theorem ygo{f:Z4}{id:Int}(hl:f.2.2.1.length<1000000):∀(d j:Nat) (n:Nat),j+d=f.2.2.1.length->d<n->∃r,za3 NN n id (j:Int) f=some r/\∀x,r= .inl x->0<=x.1/\x.1<(f.2.2.1.length:Int)
 | _,_,0,_,h=>absurd h (ag _)
 | 0,j,n+1,hj,_=>by
  rw[zg5]
  simp only[z39]
  rw[Y3 (by simp;omega)]
  exact⟨_,rfl,fun x h=>by cases h⟩
 | d+1,j,n+1,hj,hn=>by
  have w3:aa .i64 ((j:Int)+1)=((j+1:Nat):Int):=by rw[w64 (by omega) (by omega)];rfl
  obtain⟨r,r1,r2⟩:=ygo hl d (j+1) n (by omega) (by omega)
  rw[zg5]
  simp only[z39,w3]
  rw[X4 (by simp;omega),gd_t (V7 (by omega) (by omega))]
  cases eqi (rdL f.2.2.1 (j:Int) X0).1 id
  ·exact⟨r,r1,r2⟩
  ·exact⟨_,rfl,fun x h=>by cases h;exact⟨by simp only;omega,by simp only;omega⟩⟩
theorem yh4{f:Z4}{id:Int}(hl:f.2.2.1.length<1000000):∃i,zcz NN f id=some i/\(i<0\/(0<=i/\i<(f.2.2.1.length:Int))):=by
 obtain⟨r,r1,r2⟩:=ygo (id:=id) hl f.2.2.1.length 0 NN (by omega) (by have:=W9;omega)
 rw[show((0:Nat):Int)=0 from rfl]at r1
 simp only[zcz,r1,ab]
 cases r with
 | inl x=>exact⟨x.1,rfl, .inr (r2 x rfl)⟩
 | inr x=>exact⟨_,rfl, .inl (by decide)⟩
theorem yax{Φ b Λ:Nat}{f:Z4}(hF:FI Γ K Φ b Λ leaf fan bl f)(id:Int):∃f' e,zfh NN f id=some (f',e)/\FI Γ K Φ b Λ leaf fan bl f':=by
 have hne:=hF.ne
 obtain⟨i,i1,i2⟩:=yh4 (f:=f) (id:=id) (by omega)
 obtain⟨p,sh,eps,next,root,parent,msgs⟩:=f
 have hP:PI p (root::eps.map epR):=hF.pi
 have hne:eps.length<=16:=hne
 simp only[zfh,i1,ab]
 by_cases h0:i<0
 ·exact⟨_,_,by rw[X4 (by simpa using h0)],hF⟩
 ·have i2:=i2.resolve_left h0
  have hin:inB i eps.length=true:=V7 i2.1 i2.2
  have hmem:rdL eps i X0∈eps:=z62 i2.1 i2.2
  generalize rdL eps i X0=ep at hmem|-
  have hx:epR ep∈eps.map epR:=aH.2 ⟨ep,hmem,rfl⟩
  obtain⟨q,a1,a2,a3⟩:=hP.hold (hP.bal.mem (epR ep) (by simp[hx])) (by simp;omega)
  obtain⟨q2,b1,b2,b3⟩:=PI.drop (L:=epR ep::eps.map epR) (a2.perm (cm.swap root (epR ep) _)) (by simp;omega)
  rw[Y3 (by simpa using h0),gd_t hin]
  have a1':z8x NN p ep.2.2.1=some (q,0):=a1
  rw[a1']
  simp only[ab,b1]
  rw[gd_t hin]
  refine⟨_,_,rfl,hF.sh,b2,fun x hx'=> ?_,hne,⟨fun m h=>(by cases h),bm _⟩,hF.es⟩
  have hx2:x∈root::eps.map epR:=by
   rcases am.1 hx' with rfl | h
   ·exact aF _ hx
   ·exact aF _ h
  obtain⟨gx,X,hX,hXu⟩:=hF.tr x hx2
  exact⟨gx,X,hX,b3.unf b2.bal (b2.bal.mem x hx') (a3.unf hXu)⟩
end
section
variable {Γ K leaf fan bl:Nat}
theorem yfq{f:Z4}{name:B}(hl:f.2.2.1.length<1000000):∀(d j:Nat) (n:Nat),j+d=f.2.2.1.length->d<n->z7d NN n name (j:Int) f=some (.inl ((),((f,((0:Int),(160:Int))),())))\/z7d NN n name (j:Int) f=some (.inr ((name,((),())),(f,((),()))))
 | _,_,0,_,h=>absurd h (ag _)
 | 0,j,n+1,hj,_=>by
  rw[zg4]
  simp only[z38]
  rw[Y3 (by simp;omega)]
  exact .inr rfl
 | d+1,j,n+1,hj,hn=>by
  have w3:aa .i64 ((j:Int)+1)=((j+1:Nat):Int):=by rw[w64 (by omega) (by omega)];rfl
  have ih:=yfq (name:=name) hl d (j+1) n (by omega) (by omega)
  rw[zg4]
  simp only[z38,w3]
  rw[X4 (by simp;omega),gd_t (V7 (by omega) (by omega))]
  cases eqs (rdL f.2.2.1 (j:Int) X0).2.2.2.1 name
  ·exact ih
  ·exact .inl rfl
theorem yli{k:B}(h:z8z NN k=some true):k.length<=12:=by
 rcases dR 12 k.length with h1 | h1
 ·simp only[z8z]at h
  rw[show decide ((k.length:Int)<(1:Int))=false from decide_eq_false (by omega),Y3 (by rfl),X4 (decide_eq_true (by omega))]at h
  cases h
 ·exact h1
theorem yiv{Φ b Λ:Nat}{f:Z4}(hF:FI Γ K Φ b Λ leaf fan bl f)(name:B):∃f' r,zhd NN f name=some (f',r)/\FI Γ K Φ b Λ leaf fan bl f':=by
 have hne:=hF.ne
 obtain⟨v,hv⟩:=y9a name
 simp only[zhd,hv,ab]
 cases v
 ·exact⟨_,_,rfl,hF⟩
 rw[Y3 (by rfl)]
 have hs:=yfq (f:=f) (name:=name) (by omega) f.2.2.1.length 0 NN (by omega) (by have:=W9;omega)
 rw[show((0:Nat):Int)=0 from rfl]at hs
 rcases hs with hs | hs
 ·rw[hs];exact⟨_,_,rfl,hF⟩
 ·rw[hs]
  simp only[ab]
  by_cases h16:(16:Int)<=(f.2.2.1.length:Int)
  ·exact⟨_,_,by rw[X4 (by simpa using h16)],hF⟩
  ·obtain⟨p,sh,eps,next,root,parent,msgs⟩:=f
   have hP:PI p (root::eps.map epR):=hF.pi
   have h16:¬((16:Int)<=(eps.length:Int)):=h16
   obtain⟨q,a1,a2,a3⟩:=hP.hold (hP.bal.mem root (by simp)) (by simp;omega)
   rw[Y3 (decide_eq_false h16),a1]
   simp only[ab,aj]
   rw[gd_t (Y4 (by omega) (by omega)),gd_t (Y4 (by simp only[af,aq];omega) (by omega))]
   refine⟨_,_,rfl,hF.sh, ?_,fun x hx=> ?_,by simp only[ae,af,aq];omega,⟨fun m h=>(by cases h),bm _⟩,fun e he=> ?_⟩
   ·refine a2.perm ?_
    show(root::root::eps.map epR).Perm (root::(eps++[(next,(parent,(root,(name,msgs))))]).map epR)
    rw[bK]
    exact cm.cons root (ce (l₁:=[root]) (l₂:=eps.map epR))
   ·have hx2:x∈root::eps.map epR:=by
     have hx:x∈root::(eps++[(next,(parent,(root,(name,msgs))))]).map epR:=hx
     rw[bK]at hx
     simp only[am,ak,ax,bO,aE]at hx|-
     rcases hx with h | h | h
     ·exact .inl h
     ·exact .inr h
     ·rcases h with h | h
      ·exact .inl h
      ·cases h
    obtain⟨gx,X,hX,hXu⟩:=hF.tr x hx2
    exact⟨gx,X,hX,a3.unf hXu⟩
   ·rcases ak.1 he with he | he
    ·exact hF.es e he
    ·simp only[aE]at he
     subst he
     exact⟨hF.ms.1,hF.ms.2,yli hv⟩
end
def rts(i:Int):Nat->List W5->List Int
 | _,[]=>[]
 | j,e::es=>if(j:Int)=i then rts i (j+1) es else epR e::rts i (j+1) es
theorem yfs{i:Int}:∀(es:List W5) (j:Nat),i<(j:Int)->rts i j es=es.map epR
 | [],_,_=>rfl
 | e::es,j,h=>by
  have:¬(j:Int)=i:=by omega
  simp only[rts,if_neg this,ax,yfs (i:=i) es (j+1) (by omega)]
theorem ybj{i:Int}:∀(es:List W5) (j:Nat),(j:Int)<=i->i<(j:Int)+es.length->(es.map epR).Perm (epR (rdL es (i-(j:Int)) X0)::rts i j es)
 | [],j,h,h2=>by simp at h2;omega
 | e::es,j,h,h2=>by
  by_cases hj:(j:Int)=i
  ·have:i-(j:Int)=0:=by omega
   rw[this]
   simp only[rts,if_pos hj,yfs (i:=i) es (j+1) (by omega),ax]
   exact cm.refl _
  ·have ih:=ybj (i:=i) es (j+1) (by omega) (by simp only[af]at h2;omega)
   have e1:rdL (e::es) (i-(j:Int)) X0=rdL es (i-((j+1:Nat):Int)) X0:=by
    have:(i-(j:Int)).toNat=(i-((j+1:Nat):Int)).toNat+1:=by omega
    simp only[rdL,this,List.getD_cons_succ]
   simp only[rts,if_neg hj,ax,e1]
   exact(cm.cons _ ih).trans (cm.swap _ _ _)
theorem ymi{Λ:Nat}{f:Z4}{id i:Int}{gone:W5}(hg:(∀m∈epM gone,GM 1 m)/\((epM gone).length<=Λ/\gone.2.2.2.1.length<=12))(hΛ:Λ<100000)(hes:∀e∈f.2.2.1,(∀m∈epM e,GM 1 m)/\((epM e).length<=Λ/\e.2.2.2.1.length<=12))(hne:f.2.2.1.length<=16){b5:List Sl}{b6 b7 b8 b9 b10 b11:Int}{b12:List Mg}:
  ∀(post pre:List W5) (n:Nat) (out:List W5),f.2.2.1=pre++post->post.length<n->out.length<=pre.length->(∀e∈out,(∀m∈epM e,GM 1 m)/\((epM e).length<=2*Λ/\e.2.2.2.1.length<=12))->
   ∃out',z4a NN n id i (pre.length:Int) f gone b5 b6 b7 b8 b9 b10 b11 b12 out=some ((id,((),((),((),())))),(f,((),(gone,((b5,(b6,(b7,(b8,((),(b9,(b10,(b11,b12)))))))),(out',()))))))/\out'.map epR=out.map epR++rts i pre.length post/\out'.length<=16/\∀e∈out',(∀m∈epM e,GM 1 m)/\((epM e).length<=2*Λ/\e.2.2.2.1.length<=12)
 | _,_,0,_,_,h,_,_=>absurd h (ag _)
 | [],pre,n+1,out,hk,_,ho,hout=>by
  refine⟨out, ?_,by simp[rts],by rw[hk]at hne;simp at hne;omega,hout⟩
  rw[zd0]
  simp only[z0t]
  rw[Y3 (by rw[hk];simp)]
 | e::post,pre,n+1,out,hk,hn,ho,hout=>by
  simp only[af]at hn
  have hlen:f.2.2.1.length=pre.length+(post.length+1):=by rw[hk];simp
  have hb:pre.length<9223372036854775807:=by omega
  have hin:inB (pre.length:Int) f.2.2.1.length=true:=V7 (by omega) (by omega)
  have hrd:rdL f.2.2.1 (pre.length:Int) X0=e:=by rw[hk];exact U0
  have he:=hes e (by rw[hk];simp)
  have hpl:(pre++[e]).length=pre.length+1:=by simp
  obtain⟨r,r1,r2,r3⟩:=ydf (a:=epM gone) (b:=epM e) hg.1 he.1 (by have:=hg.2;have:=he.2;omega)
  have r1':z8o NN gone.2.2.2.2 e.2.2.2.2=some r:=r1
  have next:∀out2:List W5,out2.map epR=out.map epR++(if((pre.length:Nat):Int)=i then[]else[epR e])->out2.length<=pre.length+1->(∀e∈out2,(∀m∈epM e,GM 1 m)/\((epM e).length<=2*Λ/\e.2.2.2.1.length<=12))->
    ∃out',z4a NN n id i ((pre++[e]).length:Int) f gone b5 b6 b7 b8 b9 b10 b11 b12 out2=some ((id,((),((),((),())))),(f,((),(gone,((b5,(b6,(b7,(b8,((),(b9,(b10,(b11,b12)))))))),(out',()))))))/\out'.map epR=out.map epR++rts i pre.length (e::post)/\out'.length<=16/\∀e∈out',(∀m∈epM e,GM 1 m)/\((epM e).length<=2*Λ/\e.2.2.2.1.length<=12):=fun out2 h1 h2 h3=>by
   obtain⟨o,o1,o2,o3⟩:=ymi hg hΛ hes hne (b5:=b5) (b6:=b6) (b7:=b7) (b8:=b8) (b9:=b9) (b10:=b10) (b11:=b11) (b12:=b12) post (pre++[e]) n out2 (by rw[hk];simp) (by omega) (by omega) h3
   refine⟨o,o1, ?_,o3⟩
   rw[o2,h1,hpl]
   by_cases hi:((pre.length:Nat):Int)=i
   ·simp[rts,hi]
   ·simp[rts,hi]
  have mem2:∀(x:W5),(∀m∈epM x,GM 1 m)/\((epM x).length<=2*Λ/\x.2.2.2.1.length<=12)->∀y∈out++[x],(∀m∈epM y,GM 1 m)/\((epM y).length<=2*Λ/\y.2.2.2.1.length<=12):=fun x hx y hy=>by
   rcases ak.1 hy with hy | hy
   ·exact hout y hy
   ·simp only[aE]at hy;rw[hy];exact hx
  rw[zd0]
  simp only[z0t,hrd,W7 (q:=e) hb]
  rw[X4 (by simp;omega),gd_t hin]
  by_cases hi:((pre.length:Nat):Int)=i
  ·have e0:eqi (pre.length:Int) i=true:=zpw.2 hi
   cases eqi e.2.1 id
   ·simp only[cond_false,e0,aS]
    exact next out (by rw[if_pos hi,ai]) (by omega) hout
   ·simp only[cond_true,e0,aS,cond_false,r1',ab]
    exact next out (by rw[if_pos hi,ai]) (by omega) hout
  ·have e0:eqi (pre.length:Int) i=false:=J3 hi
   cases eqi e.2.1 id
   ·simp only[cond_false,e0,aO,cond_true]
    rw[gd_t (Y4 (by simp only[af,aq];omega) (by omega))]
    exact next (out++[e]) (by rw[if_neg hi];simp) (by simp;omega) (mem2 e ⟨he.1,by omega⟩)
   ·simp only[cond_true,e0,aO,r1',ab]
    rw[gd_t (Y4 (by simp only[af,aq];omega) (by omega))]
    exact next (out++[(e.1,(gone.2.1,(e.2.2.1,(e.2.2.2.1,r))))]) (by rw[if_neg hi];simp[epR]) (by simp;omega) (mem2 _ ⟨r2,(by show r.length<=_;have:=hg.2;have:=he.2;omega),he.2.2⟩)
section
variable {Γ K leaf fan bl:Nat}
theorem yaw{Φ b Λ:Nat}{f:Z4}(hF:FI Γ K Φ b Λ leaf fan bl f)(hΛ:Λ<100000)(id:Int):∃f' e,zfg NN f id=some (f',e)/\FI Γ K Φ b (2*Λ) leaf fan bl f':=by
 have hne:=hF.ne
 have hF2:FI Γ K Φ b (2*Λ) leaf fan bl f:=hF.mono (al _) (al _) (by omega)
 obtain⟨i,i1,i2⟩:=yh4 (f:=f) (id:=id) (by omega)
 have hes:=hF.es
 have hms:=hF.ms
 have htr:=hF.tr
 have hsh:=hF.sh
 have hP:=hF.pi
 simp only[zfg,i1,ab]
 by_cases h0:i<0
 ·exact⟨_,_,by rw[X4 (by simpa using h0)],hF2⟩
 ·have i2:=i2.resolve_left h0
  have hin:inB i f.2.2.1.length=true:=V7 i2.1 i2.2
  have hmem:rdL f.2.2.1 i X0∈f.2.2.1:=z62 i2.1 i2.2
  have hperm:=ybj (i:=i) f.2.2.1 0 (by omega) (by omega)
  rw[show i-((0:Nat):Int)=i by omega]at hperm
  generalize rdL f.2.2.1 i X0=gone at hmem hperm|-
  have hP2:PI f.1 (epR gone::(f.2.2.2.2.1::rts i 0 f.2.2.1)):=hP.perm ((cm.cons _ hperm).trans (cm.swap _ _ _))
  have hlr:(rts i 0 f.2.2.1).length+1=f.2.2.1.length:=by have:=hperm.length_eq;simp at this;omega
  obtain⟨q,d1,d2,d3⟩:=hP2.drop (by simp;omega)
  rw[Y3 (by simpa using h0),gd_t hin]
  have d1':z2m NN f.1 gone.2.2.1=some (q,0):=d1
  rw[d1']
  simp only[ab]
  obtain⟨out,o1,o2,o3,o4⟩:=ymi (hes gone hmem) hΛ hes hne (id:=id) (i:=i) (b5:=q) (b6:=f.2.1.1) (b7:=f.2.1.2.1) (b8:=f.2.1.2.2) (b9:=f.2.2.2.1) (b10:=f.2.2.2.2.1) (b11:=f.2.2.2.2.2.1) (b12:=f.2.2.2.2.2.2) f.2.2.1 [] NN [] rfl (by have:=W9;omega) (al _) (fun e h=>by cases h)
  have hz:(([]:List W5).length:Int)=0:=rfl
  rw[hz]at o1
  simp only[bO,aj,aq]at o2
  rw[o1]
  simp only[ab]
  have d2':PI q (f.2.2.2.2.1::out.map epR):=by rw[o2];exact d2
  have tr2:∀x∈f.2.2.2.2.1::out.map epR,∃g T,GT Γ K Φ b g T/\Unf q x T:=fun x hx=>by
   have hx2:x∈f.2.2.2.2.1::f.2.2.1.map epR:=by
    rcases am.1 hx with h | h
    ·rw[h];simp
    ·rw[o2]at h
     exact aF _ (hperm.mem_iff.2 (aF _ h))
   obtain⟨gx,X,hX,hXu⟩:=htr x hx2
   exact⟨gx,X,hX,d3.unf d2'.bal (d2'.bal.mem x hx) hXu⟩
  obtain⟨r,r1,r2,r3⟩:=ydf (a:=epM gone) (b:=f.2.2.2.2.2.2) (hes gone hmem).1 hms.1 (by have:=(hes gone hmem).2;have:=hms.2;omega)
  have r1':z8o NN gone.2.2.2.2 f.2.2.2.2.2.2=some r:=r1
  cases eqi f.2.2.2.2.2.1 id
  ·exact⟨_,_,rfl,hsh,d2',tr2,o3,⟨hms.1,by show f.2.2.2.2.2.2.length<=_;have:=hms.2;omega⟩,o4⟩
  ·simp only[cond_true,r1',ab]
   exact⟨_,_,rfl,hsh,d2',tr2,o3,⟨r2,by show r.length<=_;have:=(hes gone hmem).2;have:=hms.2;omega⟩,o4⟩
end
def FS(k leaf fan bl:Nat)(f:Z4):Prop:=FI 904 104990 (148435*(6*k)) (42-6*k) (6*2^k) leaf fan bl f
theorem yrd{Γ K Φ b Λ leaf fan bl:Nat}{f:Z4}(hF:FI Γ K Φ b Λ leaf fan bl f){n:Int}(h0:0<=n/\n<256):∃i,zob NN f n=some i:=by
 have hne:=hF.ne
 simp only[zob]
 by_cases h:f.2.2.1.length=0
 ·rw[X4 (by rw[h];rfl)];exact⟨_,rfl⟩
 ·have hz:eqi (f.2.2.1.length:Int) 0=false:=J3 (by omega)
  rw[hz,w64 (by omega) (by omega),bg h0.1]
  simp only[cond_false,aO]
  have h1:=Int.emod_nonneg n (show(f.2.2.1.length:Int)≠0 by omega)
  have h2:=Int.emod_lt_of_pos n (show(0:Int)<(f.2.2.1.length:Int) by omega)
  rw[gd_t rfl,gd_t (V7 h1 h2)]
  exact⟨_,rfl⟩
theorem yiy{n:Int}(h0:0<=n/\n<256):∃k,zhe NN n=some k:=by
 simp only[zhe]
 rw[bg h0.1,gd_t (V7 (by omega) (by simp;omega))]
 exact⟨_,rfl⟩
theorem yit{k leaf fan bl:Nat}(hk:k<7)(hl1:1<=leaf)(hl2:leaf<1000000)(hf1:2<=fan)(hf2:fan<1000000){f:Z4}(hF:FS k leaf fan bl f){x:G3}(hn:0<=x.2.1/\x.2.1<256)(hx:okT (.list u7) x.2.2):
  ∃f',zlc NN f x=some f'/\FS (k+1) leaf fan bl f':=by
 have hp2:(2:Nat)^(k+1)=2*2^k:=by rw[Nat.pow_succ];omega
 have hp1:(2:Nat)^k<=2^7:=eK (by omega) (by omega)
 have hp0:1<=(2:Nat)^k:=Nat.pow_pos (by omega)
 have up:∀g,FI 904 104990 (148435*(6*k)) (42-6*k) (6*2^k) leaf fan bl g->FS (k+1) leaf fan bl g:=fun g h=>h.mono (by omega) (by omega) (by rw[hp2];omega)
 have up2:∀g,FI 904 104990 (148435*(6*k)) (42-6*k) (2*(6*2^k)) leaf fan bl g->FS (k+1) leaf fan bl g:=fun g h=>h.mono (by omega) (by omega) (by rw[hp2];omega)
 obtain⟨l,l1,l2,l3⟩:=yo8 hx (k:=6) (by omega)
 obtain⟨fa,ea,a1,a2⟩:=yln (Γ:=904) (K:=104990) (leaf:=leaf) (fan:=fan) (bl:=bl) (by omega) (by omega) hl1 hl2 hf1 hf2 (Φ:=148435*(6*k)) (b:=42-6*(k+1)) (Λ:=6*2^k) (f:=f) (l:=l) (FI.mono hF (by omega) (al _) (al _)) (by omega) l3 (by omega) (by omega)
 have a3:FS (k+1) leaf fan bl fa:=a2.mono (al _) (by omega) (by rw[hp2];omega)
 obtain⟨nm,hnm⟩:=yiy hn
 obtain⟨fs,es,s1,s2⟩:=yiv hF nm
 obtain⟨id,hid⟩:=yrd hF hn
 obtain⟨fb,eb,b1,b2⟩:=yax hF id
 obtain⟨fd,ed,d1,d2⟩:=yaw hF (by omega) id
 have p0:z2u NN f x=some ((),(fd,())):=by simp only[z2u,hid,d1,ab]
 have p1t:∀b0,z0s NN b0 true f x=some (.inl ((),(fa,()))):=fun b0=>by simp only[z0s,cond_true,l1,a1,ab]
 simp only[zlc,p1t,ab]
 have fin:∀b1:Bool,∃f',((z0s NN (aJ x.1 (8:Int)) b1 f x).bind fun r23=>
   match r23 with
   | .inl r24=>(some r24.2.1)
   | .inr r25=>((z2u NN r25.2.1 r25.2.2.1).bind fun r26=>some r26.2.1))=some f'/\FS (k+1) leaf fan bl f':=fun b1'=>by
  cases b1'
  ·simp only[z0s,cond_false,hnm,s1,hid,b1,ab]
   cases eqi (aJ x.1 (8:Int)) 4
   ·cases eqi (aJ x.1 (8:Int)) 5
    ·cases eqi (aJ x.1 (8:Int)) 6
     ·simp only[cond_false,ab,p0]
      exact⟨_,rfl,up2 _ d2⟩
     ·exact⟨_,rfl,up _ b2⟩
    ·exact⟨_,rfl,up _ s2⟩
   ·exact⟨_,rfl,up _ s2⟩
  ·rw[p1t]
   exact⟨_,rfl,a3⟩
 cases eqi (aJ x.1 (8:Int)) 0
 ·cases eqi (aJ x.1 (8:Int)) 1
  ·cases eqi (aJ x.1 (8:Int)) 2
   ·exact fin _
   ·exact⟨_,rfl,a3⟩
  ·exact⟨_,rfl,a3⟩
 ·exact⟨_,rfl,a3⟩
theorem FS.up{k leaf fan bl:Nat}(hk:k<=7){f:Z4}(h:FS k leaf fan bl f):FS 7 leaf fan bl f:=by
 have hp1:(2:Nat)^k<=2^7:=eK (by omega) hk
 exact FI.mono h (by omega) (by omega) (by omega)
theorem yge{leaf fan bl:Nat}(hl1:1<=leaf)(hl2:leaf<1000000)(hf1:2<=fan)(hf2:fan<1000000){l:List G3}(hx:okT (.list v8) l):∀(d j:Nat) (n:Nat) (f:Z4),j+d=7->d<n->FS j leaf fan bl f->
  ∃f',za2 NN n l (j:Int) f=some (((),()),((),(f',())))/\FS 7 leaf fan bl f'
 | _,_,0,_,_,h,_=>absurd h (ag _)
 | d,j,n+1,f,hj,hn,hF=>by
  rw[zrj]
  simp only[z68]
  by_cases h1:(j:Int)<(l.length:Int)
  ·rw[X4 (by simpa using h1)]
   cases d with
   | zero=>
    rw[Y3 (by simp;omega)]
    exact⟨f,rfl,hF.up (by omega)⟩
   | succ d=>
    have w3:aa .i64 ((j:Int)+1)=((j+1:Nat):Int):=by rw[w64 (by omega) (by omega)];rfl
    obtain⟨hlt,e⟩:=ypa l (j:Int) zj4 (by omega) h1
    have hmem:okT v8 (rdL (α:=G3) l (j:Int) zj4):=by
     rw[e]
     exact hx.2 _ _ (aK hlt)
    obtain⟨f',s1,s2⟩:=yit (x:=rdL (α:=G3) l (j:Int) zj4) (by omega) hl1 hl2 hf1 hf2 hF (z6a hmem.2.1) hmem.2.2
    rw[X4 (by simp;omega),gd_t (V7 (by omega) h1),s1]
    simp only[ab,w3]
    exact yge hl1 hl2 hf1 hf2 hx d (j+1) n f' (by omega) (by omega) s2
  ·rw[Y3 (by simpa using h1)]
   exact⟨f,rfl,hF.up (by omega)⟩
theorem yoq:Bal [] []:=⟨fun s h=>(by cases h),fun s h=>(by cases h),fun i h=>by simp[W2]at h;omega,fun k h=>(by cases h),fun k h=>by simp[X8]at h,fun i h=>by simp[W2]at h;omega,⟨fun _=>0,fun i h=>by simp[W2]at h;omega⟩⟩
theorem ylg{leaf fan bl:Nat}(h1:2<=leaf/\leaf<=64)(h2:2<=fan/\fan<=16)(h3:1<=bl/\bl<=64):∃f e,zk4 NN (shp leaf fan bl)=some (f,e)/\FS 0 leaf fan bl f:=by
 have hP:PI [] []:=⟨yoq,by simp,fun s h=>by cases h⟩
 obtain⟨q,id,e,a1,a2⟩:=hP.add (nd:=z03 []) (T:= .leaf []) rfl (by simp[z03]) (by simp)
 have e0:e=0:=by
  have:=y23 (N:=NN) (by have:=W9;omega) (p:=[]) (n:=z03 []) (by simp) (by simp[z03])
  rw[a1]at this
  injection this with this
  exact congrArg (fun r=>r.2.2) this
 subst e0
 rcases a2 with a2 | ⟨_,a3,a4,a5⟩
 ·exact absurd rfl a2
 have hr:zdw NN (shp leaf fan bl)=some true:=by
  show zdw NN ((leaf:Int),((fan:Int),(bl:Int)))=some true
  simp only[zdw]
  rw[X4 (by simp;omega),X4 (by simp;omega),X4 (by simp;omega),X4 (by simp;omega),X4 (by simp;omega),decide_eq_true (by omega)]
 have a1':z65 NN [] (([]:List Z3),(([]:List (List UInt8)),(([]:List Int),(([]:List Y6),([]:List Z1)))))=some (q,(id,0)):=a1
 simp only[zk4,zxl,hr,ab,aS,cond_false,a1']
 refine⟨(q,(shp leaf fan bl,([],(1,(id,(0,[])))))),0,rfl,⟨rfl,a3,fun x hx=> ?_,by simp,⟨fun m h=>(by cases h),bm _⟩,fun e h=>(by cases h)⟩⟩
 simp only[bO,aE]at hx
 subst hx
 refine⟨1, .leaf [],⟨al 1, ?_,by decide,bm _⟩,a5⟩
 simp only[VT]
 exact⟨⟨bi.nil,fun x h=>by cases h⟩,fun x h=>by cases h⟩
theorem yj2{n:Int}(hn:0<=n/\n<256){l:List G3}(hx:okT (.list v8) l):∃f leaf fan bl,zld NN n l=some f/\FS 7 leaf fan bl f/\2<=leaf/\leaf<=5/\2<=fan/\fan<=4/\1<=bl/\bl<=5:=by
 obtain⟨k,hk⟩:∃k:Nat,n=(k:Int):=⟨n.toNat,by omega⟩
 subst hk
 have e1:aJ (k:Int) 4=((k%4:Nat):Int):=by rw[bg (by omega)];rfl
 have e2:dc (k:Int) 4=((k/4:Nat):Int):=by rw[ck (by omega)];rfl
 have e3:dc (k:Int) 16=((k/16:Nat):Int):=by rw[ck (by omega)];rfl
 have e4:aJ ((k/4:Nat):Int) 3=((k/4%3:Nat):Int):=by rw[bg (by omega)];rfl
 have e5:aJ ((k/16:Nat):Int) 5=((k/16%5:Nat):Int):=by rw[bg (by omega)];rfl
 have hs:zif NN (k:Int)=some (shp (2+k%4) (2+k/4%3) (1+k/16%5)):=by
  simp only[zif,w64 (show(-9223372036854775808:Int)<=(k:Int) by omega) (show(k:Int)<9223372036854775808 by omega),e1,e2,e3]
  rw[wnat (k/4) (by omega),wnat (k/16) (by omega),e4,e5]
  have q1:aa .i64 ((2:Int)+((k%4:Nat):Int))=((2+k%4:Nat):Int):=wnat (2+k%4) (by omega)
  have q2:aa .i64 ((2:Int)+((k/4%3:Nat):Int))=((2+k/4%3:Nat):Int):=wnat (2+k/4%3) (by omega)
  have q3:aa .i64 ((1:Int)+((k/16%5:Nat):Int))=((1+k/16%5:Nat):Int):=wnat (1+k/16%5) (by omega)
  rw[q1,q2,q3]
  rfl
 obtain⟨f0,e,n1,n2⟩:=ylg (leaf:=2+k%4) (fan:=2+k/4%3) (bl:=1+k/16%5) (by omega) (by omega) (by omega)
 obtain⟨f,m1,m2⟩:=yge (by omega) (by omega) (by omega) (by omega) hx 7 0 NN f0 rfl (by have:=W9;omega) n2
 rw[show((0:Nat):Int)=0 from rfl]at m1
 refine⟨f,_,_,_, ?_,m2,by omega,by omega,by omega,by omega,by omega,by omega⟩
 simp only[zld,hs,n1,m1,ab]
theorem UnfL.mem{p:List Sl}{k:Int}:∀{ks:Trs} {kids:List Int},UnfL p kids ks->k∈kids->∃(a:Trs) (t:Tr) (b:Trs),ks=a.app (.cons t b)/\Unf p k t
 | .nil,[],_,h=>by cases h
 | .nil,_::_,h,_=>by simp[UnfL]at h
 | .cons _ _,[],h,_=>by simp[UnfL]at h
 | .cons t ts,x::kids,h,hk=>by
  simp only[UnfL]at h
  rcases am.1 hk with rfl | hk
  ·exact⟨.nil,t,ts,rfl,h.1⟩
  ·obtain⟨a,t',b,e,h'⟩:=UnfL.mem h.2 hk
   exact⟨.cons t a,t',b,by rw[e];rfl,h'⟩
structure InF (Γ W g:Nat) (lo hi:B) (T:Tr):Prop where
 g1:1<=g
 vt:VT g lo hi T
 gr:g+T.mv<=Γ
 bw:T.bw Γ<=W
theorem yk1{Γ K Φ b Λ leaf fan bl:Nat}{f:Z4}(hF:FI Γ K Φ b Λ leaf fan bl f):∀i,W2 f.1 i=true->∃T g lo hi,Unf f.1 i T/\InF Γ Φ g lo hi T:=by
 refine yq9 hF.pi.bal (fun i=>∃T g lo hi,Unf f.1 i T/\InF Γ Φ g lo hi T) (fun k hk=> ?_) (fun i k hi hQ hk=> ?_)
 ·obtain⟨g,T,hG,hu⟩:=hF.tr k hk
  have:=hG.pot
  exact⟨T,g,[],[],hu,hG.g1,hG.vt,hG.le,by omega⟩
 ·obtain⟨T,g,lo,hi',hu,hI⟩:=hQ
  obtain⟨h1,h2,h3⟩:=zxd.1 hu
  cases T with
  | leaf ps=>
   have e:zas (slA f.1 i)=z03 ps:=h3
   rw[zh2,e]at hk;cases hk
  | node ks piv buf=>
   obtain⟨kids,sums,e,u2,u3,u4⟩:=h3
   rw[zh2,e]at hk
   obtain⟨a,t,c,hks,ht⟩:=u4.mem hk
   subst hks
   have hvt:=hI.vt
   simp only[VT]at hvt
   obtain⟨pa,pb,l1,h1',ep,hk'⟩:=Kid.of hvt.1
   have hg:=hI.gr
   have hb:=hI.bw
   simp only[Tr.mv,Trs.app_mv,Trs.mv]at hg
   simp only[Tr.bw,Tr.fm,Trs.app_fm,Trs.fm]at hb
   exact⟨t,g,l1,h1',ht,hI.g1,hk'.ht,by omega,by simp only[Tr.bw];omega⟩
structure NodeF (nd:Nd):Prop where
 ps:Tb 904 nd.1
 piv:nd.2.1.length<=18100/\∀q∈nd.2.1,q∈KU 904
 kids:nd.2.2.1.length<=18101/\(nd.2.2.1≠[]->nd.2.2.1.length=nd.2.1.length+1/\nd.1=[])
 sums:nd.2.2.2.1.length=nd.2.2.1.length
 buf:nd.2.2.2.2.length<20000000/\∀m∈nd.2.2.2.2,GM 904 m
 empty:nd.2.2.1=[]->nd.2.1=[]/\nd.2.2.2.2=[]
theorem yke{leaf fan bl:Nat}{f:Z4}(hF:FS 7 leaf fan bl f):∀i,W2 f.1 i=true->(slA f.1 i).2.1=false/\NodeF (zas (slA f.1 i)):=by
 intro i hi
 obtain⟨T,g,lo,hi',hu,hI⟩:=yk1 hF i hi
 obtain⟨h1,h2,h3⟩:=zxd.1 hu
 have hle:=hI.gr
 have hvt:=hI.vt
 refine⟨h2, ?_⟩
 cases T with
 | leaf ps=>
  have e:zas (slA f.1 i)=z03 ps:=h3
  rw[e]
  simp only[VT]at hvt
  exact⟨hvt.1.mono (by omega),⟨by simp[z03],fun q h=>(by cases h)⟩,⟨by simp[z03],fun h=>absurd rfl h⟩,rfl,⟨by simp[z03],fun m h=>(by cases h)⟩,fun _=>⟨rfl,rfl⟩⟩
 | node ks piv buf=>
  obtain⟨kids,sums,e,u2,u3,u4⟩:=h3
  rw[e]
  simp only[VT]at hvt
  have hpl:=VTs.plen hvt.1
  obtain⟨_,hpk,hkl⟩:=VTs.piv hvt.1
  have hkl':=u4.len
  have hbl:=zc8 (show g<=904 by omega) fun m hm=>(hvt.2 m hm).1
  have hbw:=hI.bw
  simp only[Tr.bw,Tr.fm]at hbw
  exact⟨⟨bi.nil,fun x h=>(by cases h)⟩,⟨by simp only;omega,fun q h=>KU.mono (by omega) (hpk q h).1⟩,⟨by simp only;omega,fun _=>⟨by simp only;omega,rfl⟩⟩,u2,⟨by simp only;omega,fun m hm=>((hvt.2 m hm).1).mono (by omega)⟩,fun h=>absurd h u3⟩
theorem y8y(a b c:Int):∃r,zkg NN a b c=some r:=by
 simp only[zkg];cases decide (b<=a)<;>exact⟨_,rfl⟩
theorem y33(a:z55):∃r,zdy NN a=some r:=by
 simp only[zdy];cases decide (0<=a.1)<;>cases decide (a.1<=a.2)<;>exact⟨_,rfl⟩
theorem yoc(s:Sp)(k:B):∃r,zbk NN s k=some r:=by
 simp only[zbk];cases lts k s.1<;>cases eqs s.2 []<;>exact⟨_,rfl⟩
theorem zcf{j:Nat}(h:j<1000000000):aa .i64 ((j:Int)+1)=((j+1:Nat):Int):=wnat (j+1) (by omega)
theorem y6a{t:List Pr}(hl:t.length<1000000000):∀(d j:Nat) (n:Nat),j+d=t.length+1->1<=j->d<n->∃r,z8d NN n t (j:Int)=some r
 | _,_,0,_,_,h=>absurd h (ag _)
 | d,j,n+1,hj,h1,hn=>by
  rw[zod]
  simp only[z5b]
  by_cases hlt:j<t.length
  ·cases d with
   | zero=>omega
   | succ d=>
    obtain⟨r,ih⟩:=y6a hl d (j+1) n (by omega) (by omega) (by omega)
    have w:aa .i64 ((j:Int)-1)=((j-1:Nat):Int):=by rw[w64 (by omega) (by omega)];omega
    rw[X4 (by simp;omega),w,gd_t (V7 (by omega) (by omega)),gd_t (V7 (by omega) (by omega)),zcf (by omega),ih]
    cases lts (rdL t ((j-1:Nat):Int) X5).1 (rdL t (j:Int) X5).1<;>exact⟨_,rfl⟩
  ·rw[Y3 (by simp;omega)];exact⟨_,rfl⟩
theorem yha{t:List Pr}(hl:t.length<1000000000):∃r,zin NN t=some r:=by
 obtain⟨r,hr⟩:=y6a hl t.length 1 NN (by omega) (by omega) (by have:=W9;omega)
 rw[show((1:Nat):Int)=1 from rfl]at hr
 simp only[zin,hr]
 cases r<;>exact⟨_,rfl⟩
theorem y73{nd:Nd}{s:Sp}(hl:nd.1.length<1000000000):∀(d j:Nat) (n:Nat),j+d=nd.1.length->d<n->∃r,zaa NN n (j:Int) nd s=some r
 | _,_,0,_,h=>absurd h (ag _)
 | 0,j,n+1,hj,_=>by
  rw[zge]
  simp only[z3i]
  rw[Y3 (by simp;omega)];exact⟨_,rfl⟩
 | d+1,j,n+1,hj,hn=>by
  obtain⟨r,ih⟩:=y73 (s:=s) hl d (j+1) n (by omega) (by omega)
  obtain⟨r1,e1⟩:=yoc s (rdL nd.1 (j:Int) X5).1
  obtain⟨r2,e2⟩:=y8y ((rdL nd.1 (j:Int) X5).1.length:Int) 1 65535
  obtain⟨r3,e3⟩:=y8y (rdL nd.1 (j:Int) X5).2.2 0 1000000000
  rw[zge]
  simp only[z3i,e1,e2,e3,zcf (show j<1000000000 by omega),ih]
  rw[X4 (by simp;omega),gd_t (V7 (by omega) (by omega))]
  cases r1<;>cases r2<;>cases decide ((64:Int)<((rdL nd.1 (j:Int) X5).2.1.length:Int))<;>cases r3<;>exact⟨_,rfl⟩
theorem yi6{nd:Nd}{s:Sp}(hl:nd.1.length<1000000000):∃r,zlj NN nd s=some r:=by
 obtain⟨r,hr⟩:=y73 (s:=s) hl nd.1.length 0 NN (by omega) (by have:=W9;omega)
 rw[show((0:Nat):Int)=0 from rfl]at hr
 obtain⟨v,hv⟩:=yha hl
 simp only[zlj,hr,hv]
 cases decide ((0:Int)<(nd.2.1.length:Int))<;>cases decide ((0:Int)<(nd.2.2.2.1.length:Int))<;>cases decide ((0:Int)<(nd.2.2.2.2.length:Int))<;>cases v<;>cases r<;>exact⟨_,rfl⟩
theorem y6p{l:List B}{s:Sp}(hl:l.length<1000000000):∀(d j:Nat) (n:Nat),j+d=l.length->d<n->∃r,z1n NN n l (j:Int) s=some r
 | _,_,0,_,h=>absurd h (ag _)
 | 0,j,n+1,hj,_=>by
  rw[zd8]
  simp only[z0y]
  rw[Y3 (by simp;omega)];exact⟨_,rfl⟩
 | d+1,j,n+1,hj,hn=>by
  obtain⟨r,ih⟩:=y6p (s:=s) hl d (j+1) n (by omega) (by omega)
  have hin:inB (j:Int) l.length=true:=V7 (by omega) (by omega)
  rw[zd8]
  simp only[z0y,z09,z0a,zcf (show j<1000000000 by omega),ih,cond_true,cond_false,hin]
  rw[X4 (by simp;omega),gd_t rfl]
  rcases bD j with h0 | h0
  ·subst h0
   have e0:decide ((0:Int)<((0:Nat):Int))=false:=rfl
   simp only[e0,cond_false]
   cases (lts (rdL l ((0:Nat):Int) []) s.1 || eqs (rdL l ((0:Nat):Int) []) s.1)<;>cases eqs s.2 []<;>cases lts (rdL l ((0:Nat):Int) []) s.2<;>first | exact⟨_,rfl⟩ | (refine⟨r, ?_⟩;show z1n NN n l (aa .i64 (((0:Nat):Int)+1)) s=some r;rw[zcf (by omega)];exact ih)
  ·have e0:decide ((0:Int)<(j:Int))=true:=by simpa using h0
   have hin2:inB (aa .i64 ((j:Int)-1)) l.length=true:=by rw[w64 (by omega) (by omega)];exact V7 (by omega) (by omega)
   simp only[e0,cond_true,hin2]
   generalize(lts (rdL l (j:Int) []) (rdL l (aa .i64 ((j:Int)-1)) []) || eqs (rdL l (j:Int) []) (rdL l (aa .i64 ((j:Int)-1)) []))=x
   cases (lts (rdL l (j:Int) []) s.1 || eqs (rdL l (j:Int) []) s.1)<;>cases eqs s.2 []<;>cases lts (rdL l (j:Int) []) s.2<;>cases x<;>first | exact⟨_,rfl⟩ | (refine⟨r, ?_⟩;show z1n NN n l (aa .i64 ((j:Int)+1)) s=some r;rw[zcf (by omega)];exact ih)
theorem yhv{l:List B}{s:Sp}(hl:l.length<1000000000):∃r,zfk NN l s=some r:=by
 obtain⟨r,hr⟩:=y6p (s:=s) hl l.length 0 NN (by omega) (by have:=W9;omega)
 rw[show((0:Nat):Int)=0 from rfl]at hr
 simp only[zfk,hr]
 cases r<;>exact⟨_,rfl⟩
theorem y76{l:List Sp}{s:Sp}(hl:l.length<1000000000):∀(d j:Nat) (n:Nat),j+d=l.length->d<n->∃r,z72 NN n (j:Int) s l=some r
 | _,_,0,_,h=>absurd h (ag _)
 | 0,j,n+1,hj,_=>by
  rw[zd9]
  simp only[z0z]
  rw[Y3 (by simp;omega)];exact⟨_,rfl⟩
 | d+1,j,n+1,hj,hn=>by
  obtain⟨r,ih⟩:=y76 (s:=s) hl d (j+1) n (by omega) (by omega)
  rw[zd9]
  simp only[z0z,yml,zcf (show j<1000000000 by omega),ih]
  rw[X4 (by simp;omega),gd_t (V7 (by omega) (by omega))]
  cases covB s (rdL l (j:Int) Y7)<;>exact⟨_,rfl⟩
theorem yi8{g:Nat}(hg:g<1000000){m:Mg}(hm:GM g m)(s:Sp):∃r,zfl NN m s=some r:=by
 obtain⟨h1,h2,_⟩:=y1s m
 obtain⟨r,hr⟩:=y76 (l:=rds m++wr m) (s:=s) (by simp;omega) (rds m++wr m).length 0 NN (by omega) (by have:=W9;simp;omega)
 rw[show((0:Nat):Int)=0 from rfl]at hr
 simp only[zfl,zp0 hm,z77 hg hm]
 rw[gd_t (Y4 (by omega) (by omega)),hr]
 cases r<;>exact⟨_,rfl⟩
theorem y1v{g:Nat}(hg:g<1000000){nd:Nd}{s:Sp}(hl:nd.2.2.2.2.length<1000000000)(hm:∀m∈nd.2.2.2.2,GM g m):∀(d j:Nat) (n:Nat),j+d=nd.2.2.2.2.length->d<n->∃r,z86 NN n (j:Int) nd s=some r
 | _,_,0,_,h=>absurd h (ag _)
 | 0,j,n+1,hj,_=>by
  rw[zeq]
  simp only[z24]
  rw[Y3 (by simp;omega)];exact⟨_,rfl⟩
 | d+1,j,n+1,hj,hn=>by
  obtain⟨r,ih⟩:=y1v (s:=s) hg hl hm d (j+1) n (by omega) (by omega)
  have hin:inB (j:Int) nd.2.2.2.2.length=true:=V7 (by omega) (by omega)
  have hmem:rdL nd.2.2.2.2 (j:Int) U7∈nd.2.2.2.2:=z62 (by omega) (by omega)
  obtain⟨r1,e1⟩:=yi8 hg (hm _ hmem) s
  rw[zeq]
  simp only[z24,zxn,e1,zcf (show j<1000000000 by omega),ih]
  rw[X4 (by simp;omega),gd_t hin,gd_t hin]
  cases vldB (rdL nd.2.2.2.2 (j:Int) U7)<;>cases r1<;>exact⟨_,rfl⟩
theorem y1w{nd:Nd}{s:Sp}(hl:nd.2.2.1.length<1000000000)(hs:nd.2.2.2.1.length=nd.2.2.1.length):∀(d j:Nat) (n:Nat),j+d=nd.2.2.1.length->d<n->(∃r,z5s NN n (j:Int) nd s=some (.inl r))\/z5s NN n (j:Int) nd s=some (.inr (((),()),(nd,(s,()))))
 | _,_,0,_,h=>absurd h (ag _)
 | 0,j,n+1,hj,_=>by
  rw[zer]
  simp only[z25]
  rw[Y3 (by simp;omega)];exact .inr rfl
 | d+1,j,n+1,hj,hn=>by
  have ih:=y1w (s:=s) hl hs d (j+1) n (by omega) (by omega)
  have hin:inB (j:Int) nd.2.2.1.length=true:=V7 (by omega) (by omega)
  have hin2:inB (j:Int) nd.2.2.2.1.length=true:=V7 (by omega) (by omega)
  obtain⟨r1,e1⟩:=y8y (rdL nd.2.2.1 (j:Int) (0:Int)) 0 4095
  obtain⟨r2,e2⟩:=y33 (rdL nd.2.2.2.1 (j:Int) z66).1
  obtain⟨r3,e3⟩:=y33 (rdL nd.2.2.2.1 (j:Int) z66).2
  rw[zer]
  simp only[z25,e1,e2,e3,zcf (show j<1000000000 by omega)]
  rw[X4 (by simp;omega),gd_t hin,gd_t hin2,gd_t hin2]
  cases r1
  ·exact .inl ⟨_,rfl⟩
  cases r2
  ·exact .inl ⟨_,rfl⟩
  cases r3
  ·exact .inl ⟨_,rfl⟩
  exact ih
theorem yes{nd:Nd}(h:NodeF nd)(s:Sp):∃r,zii NN nd s=some r:=by
 have hps:=h.ps.len
 obtain⟨hp1,_⟩:=h.piv
 obtain⟨hk1,_⟩:=h.kids
 obtain⟨hb1,hb2⟩:=h.buf
 have hsl:=h.sums
 obtain⟨r1,e1⟩:=yi6 (nd:=nd) (s:=s) (by omega)
 obtain⟨r2,e2⟩:=yhv (l:=nd.2.1) (s:=s) (by omega)
 obtain⟨r3,e3⟩:=y1v (g:=904) (by omega) (nd:=nd) (s:=s) (by omega) hb2 nd.2.2.2.2.length 0 NN (by omega) (by have:=W9;omega)
 have e4:=y1w (nd:=nd) (s:=s) (by omega) hsl nd.2.2.1.length 0 NN (by omega) (by have:=W9;omega)
 rw[show((0:Nat):Int)=0 from rfl]at e3 e4
 have p0:∃r,zbp NN nd s=some r:=by
  simp only[zbp]
  rcases e4 with⟨r4,e4⟩ | e4
  ·rw[e4];exact⟨_,rfl⟩
  ·rw[e4]
   simp only[e3]
   cases r3<;>exact⟨_,rfl⟩
 obtain⟨r5,e5⟩:=p0
 simp only[zii,e1,e2,e5]
 cases eqi (nd.2.2.1.length:Int) 0<;>cases decide ((0:Int)<(nd.1.length:Int))<;>cases eqi (nd.2.2.2.1.length:Int) (nd.2.2.1.length:Int)<;>cases eqi (nd.2.1.length:Int) (aa .i64 ((nd.2.2.1.length:Int)-1))<;>cases r2<;>exact⟨_,rfl⟩
theorem yc1(x:Int):∀(d:Nat) (n:Nat) (out:List Int),d<=100->d<n->out.length+d<1000->∃r,z4c NN n x ((d:Int)-1) out=some ((),(r,()))/\r.length=out.length+d
 | _,0,_,_,h,_=>absurd h (ag _)
 | 0,n+1,out,_,_,_=>by
  rw[z7u]
  simp only[y8]
  rw[Y3 (by simp)];exact⟨out,rfl,rfl⟩
 | d+1,n+1,out,hd,hn,ho=>by
  have e1:((d+1:Nat):Int)-1=(d:Int):=by omega
  have w:aa .i64 ((d:Int)-1)=(d:Int)-1:=w64 (by omega) (by omega)
  have w8:aa .i64 ((8:Int)*(d:Int))=(8:Int)*(d:Int):=w64 (by omega) (by omega)
  rw[z7u]
  simp only[y8,e1,w,w8]
  rw[X4 (by simp),gd_p (by omega),gd_t (Y4 (by omega) (by omega))]
  obtain⟨r,r1,r2⟩:=yc1 x d n (out++[aa .u8 (d0 x (2^min (cH ((8:Int)*(d:Int))) (be .i64)))]) (by omega) (by omega) (by simp;omega)
  exact⟨r,r1,by rw[r2];simp;omega⟩
theorem z9p(x:Int){d:Nat}(hd:d<=100):∃r,V5 NN x (d:Int)=some r/\r.length=d:=by
 obtain⟨r,r1,r2⟩:=yc1 x d NN [] hd (by have:=W9;omega) (by simp;omega)
 refine⟨r, ?_,by simpa using r2⟩
 simp only[V5]
 rw[w64 (by omega) (by omega),r1]
theorem yc2(x:Int){d:Nat}(hd:d<=100):∃r,z52 NN x (d:Int)=some r/\r.length=d:=z9p x hd
theorem yd1{l:List Int}(hl:l.length<10000000000000):∀(d j:Nat) (n:Nat) (c:Int),j+d=l.length->d<n->∃r,z5t NN n l c (j:Int)=some (r,())
 | _,_,0,_,_,h=>absurd h (ag _)
 | 0,j,n+1,c,hj,_=>by
  rw[z5a]
  simp only[G5]
  rw[Y3 (by simp;omega)];exact⟨c,rfl⟩
 | d+1,j,n+1,c,hj,hn=>by
  have w:aa .i64 ((j:Int)+1)=((j+1:Nat):Int):=by rw[w64 (by omega) (by omega)];rfl
  rw[z5a]
  simp only[G5,w]
  rw[X4 (by simp;omega),gd_t (V7 (by omega) (by omega))]
  exact yd1 hl d (j+1) n _ (by omega) (by omega)
theorem y4m{l:List Int}(hl:l.length<10000000000000):∃r,v7 NN l=some r:=by
 obtain⟨r,hr⟩:=yd1 hl l.length 0 NN 14695981039346656037 (by omega) (by have:=ya2;omega)
 rw[show((0:Nat):Int)=0 from rfl]at hr
 exact⟨r,by simp only[v7,hr]⟩
theorem zxf{k:B}(h:k.length<100000):∃r,z8y NN k=some r/\r.length=2+k.length:=by
 obtain⟨r,r1,r2⟩:=z9p (k.length:Int) (d:=2) (by omega)
 have hb:(w5 k).length=k.length:=by simp[w5]
 have r1':V5 NN (k.length:Int) 2=some r:=r1
 refine⟨r++w5 k, ?_,by rw[ae,r2,hb]⟩
 simp only[z8y,r1']
 rw[gd_t (Y4 (by omega) (by omega))]
theorem yb6{L:Nat}(hL:L<100000):∀(post pre:List B) (n:Nat) (out:List Int),post.length<n->(pre++post).length<10->out.length<=(2+L)*pre.length->(∀k∈post,k.length<=L)->
  ∃r,z5z NN n (pre++post) (pre.length:Int) out=some ((),(r,()))/\r.length<=(2+L)*(pre++post).length
 | _,_,0,_,h,_,_,_=>absurd h (ag _)
 | [],pre,n+1,out,_,_,ho,_=>by
  refine⟨out, ?_,by simpa using ho⟩
  rw[z9n]
  simp only[g8,ai,aA,decide_false,cond_false]
 | k::post,pre,n+1,out,hn,hl,ho,hk=>by
  simp only[af]at hn
  have hb:pre.length<9223372036854775807:=by simp at hl;omega
  have hpl:pre.length<10:=by simp at hl;omega
  have hk1:=hk k (by simp)
  have hbi:(w5 k).length=k.length:=by simp[w5]
  obtain⟨r2,e1,e2⟩:=yc2 (k.length:Int) (d:=2) (by omega)
  have e1':z52 NN (k.length:Int) 2=some r2:=e1
  have hm:(2+L)*pre.length<=(2+L)*10:=ba _ (by omega)
  have hm2:(2+L)*(pre++[k]).length=(2+L)*pre.length+(2+L):=by rw[ae,aL,Nat.mul_succ]
  obtain⟨r,r1,r3⟩:=yb6 hL post (pre++[k]) n (out++r2++w5 k) (by omega) (by simpa using hl) (by rw[hm2,ae,ae];omega) fun x hx=>hk x (by simp[hx])
  refine⟨r, ?_,by simpa using r3⟩
  rw[z9n]
  simp only[g8,U3,cond_true,U0,e1']
  rw[gd_t V4,gd_t (Y4 (by omega) (by omega)),gd_t V4,gd_t (Y4 (by rw[ae];omega) (by omega)),W7 (q:=k) hb,V9 (pre:=pre) (q:=k) (post:=post),r1]
theorem yb5{L:Nat}(hL:L<100000){l:List B}(hl:l.length<10)(hk:∀k∈l,k.length<=L):∃r,Q6 NN l=some r/\r.length<=(2+L)*l.length:=by
 obtain⟨r,r1,r2⟩:=yb6 hL l [] NN [] (by have:=W9;omega) (by simpa using hl) (bm _) hk
 have hz:(([]:List B).length:Int)=0:=rfl
 rw[hz,aj]at r1
 exact⟨r,by simp only[Q6,r1],by simpa using r2⟩
theorem y1u{v:B}(hv:v∈values):v.length<=1000:=by
 have h:(values.all fun v=>Nat.ble v.length 1000)=true:=by decide+kernel
 exact Nat.le_of_ble_eq_true (List.all_eq_true.1 h v hv)
theorem y7s{m:Mg}(hm:GM 904 m):∃r,z8q NN m=some r/\r.length<=6000:=by
 have ul:∀u∈UU 904,u.length<=2000:=fun u hu=>by have:=UU.len hu;omega
 have p0:∀out:List Int,out.length<=5000->∃r,J8 NN m out=some ((),(r,()))/\r.length<=6000:=fun out ho=>by
  obtain⟨r4,e1,e2⟩:=yc2 m.2.2.2.2.2.2 (d:=4) (by omega)
  have e1':z52 NN m.2.2.2.2.2.2 4=some r4:=e1
  simp only[J8,e1']
  rw[gd_t (Y4 (by omega) (by omega))]
  cases eqi m.1 1<;>cases eqi m.1 6<;>first | exact⟨_,rfl,by rw[ae];omega⟩ | exact⟨_,rfl,by omega⟩
 have two:∀a b:B,a.length<=2000->b.length<=2000->∃r,Q6 NN [a,b]=some r/\r.length<=4004:=fun a b ha hb=>by
  obtain⟨r,r1,r2⟩:=yb5 (L:=2000) (by omega) (l:=[a,b]) (by simp) (fun k hk=>by
   simp only[am,List.not_mem_nil,or_false]at hk
   rcases hk with rfl | rfl<;>assumption)
  exact⟨r,r1,by simpa using r2⟩
 have one:∀a:B,a.length<=2000->∃r,Q6 NN [a]=some r/\r.length<=4004:=fun a ha=>by
  obtain⟨r,r1,r2⟩:=yb5 (L:=2000) (by omega) (l:=[a]) (by simp) (fun k hk=>by simp at hk;rw[hk];exact ha)
  exact⟨r,r1,by simp at r2;omega⟩
 have fin:∀r:List Int,r.length<=4004->∃z,gd (fits (1+r.length) 1) (match J8 NN m ([(aa .u8 (m.1))]++r)with
   | some r8=>some r8.2.1
   | none=>none)=some z/\z.length<=6000:=fun r hr=>by
  obtain⟨z,z1,z2⟩:=p0 ([(aa .u8 (m.1))]++r) (by simp;omega)
  rw[gd_t (Y4 (by omega) (by omega)),z1]
  exact⟨z,rfl,z2⟩
 simp only[z8q,zxn]
 cases vldB m
 ·exact⟨[],rfl,by simp⟩
 rw[Y3 (by rfl)]
 cases hm with
 | put k v n hk hv=>
  obtain⟨r,r1,r2⟩:=two k v (ul k (UU.of hk)) (by have:=y1u hv;omega)
  rw[X4 (by rfl),show Q6 NN [(y9j k v n).2.1,(y9j k v n).2.2.1]=some r from r1]
  exact fin r r2
 | del k hk=>
  obtain⟨r,r1,r2⟩:=one k (ul k (UU.of hk))
  rw[Y3 (by rfl),X4 (by rfl),show Q6 NN [(ymj k).2.1]=some r from r1]
  exact fin r r2
 | drop s hs=>
  obtain⟨r,r1,r2⟩:=two s.1 s.2 (ul _ hs.2.1) (ul _ hs.2.2)
  rw[Y3 (by rfl),Y3 (by rfl),X4 (by rfl)]
  simp only[show Q6 NN [(zck s).2.2.2.1.1,(zck s).2.2.2.1.2]=some r from r1]
  exact fin r r2
 | stamp s n hs=>
  obtain⟨r,r1,r2⟩:=two s.1 s.2 (ul _ hs.2.1) (ul _ hs.2.2)
  rw[Y3 (by rfl),Y3 (by rfl),Y3 (by rfl),X4 (by rfl)]
  simp only[show Q6 NN [(zkf s n).2.2.2.1.1,(zkf s n).2.2.2.1.2]=some r from r1]
  exact fin r r2
 | move e he=>
  have l1:=(z9o (U9 he).1).2
  have l2:=(z9o (U9 he).2).2
  obtain⟨r,r1,r2⟩:=two e.1 e.2 (by omega) (by omega)
  rw[Y3 (by rfl),Y3 (by rfl),Y3 (by rfl),Y3 (by rfl)]
  simp only[show Q6 NN [(mv 4 e).2.2.2.2.1,(mv 4 e).2.2.2.2.2.1]=some r from r1]
  exact fin r r2
 | clone e he=>
  have l1:=(z9o (U9 he).1).2
  have l2:=(z9o (U9 he).2).2
  obtain⟨r,r1,r2⟩:=two e.1 e.2 (by omega) (by omega)
  rw[Y3 (by rfl),Y3 (by rfl),Y3 (by rfl),Y3 (by rfl)]
  simp only[show Q6 NN [(mv 5 e).2.2.2.2.1,(mv 5 e).2.2.2.2.2.1]=some r from r1]
  exact fin r r2
theorem zmk{n:Nat}(h:n<4398046511104):fits n 1=true:=y9q (by simp only[maxB];omega) (by simp only[maxB];omega)
theorem ypi{nd:Nd}(hl:nd.2.2.1.length<1000000):∀(d j:Nat) (n:Nat) (out:List Int),j+d=nd.2.2.1.length->d<n->out.length<=100+4*j->∃r,z5y NN n (j:Int) nd out=some (((),()),(nd,(r,())))/\r.length<=100+4*nd.2.2.1.length
 | _,_,0,_,_,h,_=>absurd h (ag _)
 | 0,j,n+1,out,hj,_,ho=>by
  rw[z9m]
  simp only[j9]
  rw[Y3 (by simp;omega)];exact⟨out,rfl,by omega⟩
 | d+1,j,n+1,out,hj,hn,ho=>by
  obtain⟨r1,e1,e2⟩:=z9p (rdL nd.2.2.1 (j:Int) (0:Int)) (d:=4) (by omega)
  have e1':V5 NN (rdL nd.2.2.1 (j:Int) (0:Int)) 4=some r1:=e1
  rw[z9m]
  simp only[j9,e1',zcf (show j<1000000000 by omega)]
  rw[X4 (by simp;omega),gd_t (V7 (by omega) (by omega)),gd_t (Y4 (by omega) (by omega))]
  exact ypi hl d (j+1) n _ (by omega) (by omega) (by rw[ae];omega)
theorem yph{nd:Nd}{C:Nat}(hC:C<1000000000)(hl:nd.2.1.length<20000)(hk:∀q∈nd.2.1,q.length<=2000):∀(d j:Nat) (n:Nat) (out:List Int),j+d=nd.2.1.length->d<n->out.length<=C+2002*j->∃r,z5x NN n (j:Int) nd out=some (((),()),(nd,(r,())))/\r.length<=C+2002*nd.2.1.length
 | _,_,0,_,_,h,_=>absurd h (ag _)
 | 0,j,n+1,out,hj,_,ho=>by
  rw[z9l]
  simp only[j8]
  rw[Y3 (by simp;omega)];exact⟨out,rfl,by omega⟩
 | d+1,j,n+1,out,hj,hn,ho=>by
  have hq:=hk _ (z62 (d:=([]:B)) (show(0:Int)<=(j:Int) by omega) (by omega))
  obtain⟨r1,e1,e2⟩:=zxf (k:=rdL nd.2.1 (j:Int) []) (by omega)
  rw[z9l]
  simp only[j8,e1,zcf (show j<1000000000 by omega)]
  rw[X4 (by simp;omega),gd_t (V7 (by omega) (by omega)),gd_t (Y4 (by omega) (by omega))]
  exact yph hC hl hk d (j+1) n _ (by omega) (by omega) (by rw[ae];omega)
theorem ypg{nd:Nd}(hl:nd.1.length<20000)(hk:∀p∈nd.1,p.1.length<=2000/\p.2.1.length<=1000):∀(d j:Nat) (n:Nat) (out:List Int),j+d=nd.1.length->d<n->out.length<=100+4000*j->∃r,z5w NN n (j:Int) nd out=some ((),(r,()))/\r.length<=100+4000*nd.1.length
 | _,_,0,_,_,h,_=>absurd h (ag _)
 | 0,j,n+1,out,hj,_,ho=>by
  rw[z9k]
  simp only[j7]
  rw[Y3 (by simp;omega)];exact⟨out,rfl,by omega⟩
 | d+1,j,n+1,out,hj,hn,ho=>by
  obtain⟨q1,q2⟩:=hk _ (z62 (d:=X5) (show(0:Int)<=(j:Int) by omega) (by omega))
  obtain⟨r1,e1,f1⟩:=zxf (k:=(rdL nd.1 (j:Int) X5).1) (by omega)
  obtain⟨r2,e2,f2⟩:=zxf (k:=(rdL nd.1 (j:Int) X5).2.1) (by omega)
  obtain⟨r3,e3,f3⟩:=z9p (rdL nd.1 (j:Int) X5).2.2 (d:=4) (by omega)
  have e3':V5 NN (rdL nd.1 (j:Int) X5).2.2 4=some r3:=e3
  have hin:inB (j:Int) nd.1.length=true:=V7 (by omega) (by omega)
  rw[z9k]
  simp only[j7,e1,e2,e3',zcf (show j<1000000000 by omega)]
  rw[X4 (by simp;omega),gd_t hin,gd_t (Y4 (by omega) (by omega)),gd_t hin,gd_t (Y4 (by rw[ae];omega) (by omega)),gd_t hin,gd_t (Y4 (by rw[ae,ae];omega) (by omega))]
  exact ypg hl hk d (j+1) n _ (by omega) (by omega) (by rw[ae,ae,ae];omega)
theorem ype{nd:Nd}{C:Nat}(hC:C<4000000000)(hl:nd.2.2.2.2.length<20000000)(hm:∀m∈nd.2.2.2.2,GM 904 m):∀(d j:Nat) (n:Nat) (out:List Int),j+d=nd.2.2.2.2.length->d<n->out.length<=C+6000*j->∃r,z5u NN n (j:Int) nd out=some ((),(r,()))/\r.length<=C+6000*nd.2.2.2.2.length
 | _,_,0,_,_,h,_=>absurd h (ag _)
 | 0,j,n+1,out,hj,_,ho=>by
  rw[z9i]
  simp only[k9]
  rw[Y3 (by simp;omega)];exact⟨out,rfl,by omega⟩
 | d+1,j,n+1,out,hj,hn,ho=>by
  obtain⟨r1,e1,f1⟩:=y7s (hm _ (z62 (d:=U7) (show(0:Int)<=(j:Int) by omega) (by omega)))
  rw[z9i]
  simp only[k9,e1,zcf (show j<1000000000 by omega)]
  rw[X4 (by simp;omega),gd_t (V7 (by omega) (by omega)),gd_t (zmk (by omega))]
  exact ype hC hl hm d (j+1) n _ (by omega) (by omega) (by rw[ae];omega)
theorem yr8{nd:Nd}{a:zom}{i:Int}{out:List Int}(ho:out.length<4000000000):∃r,z01 NN NN i 0 nd out a=some (((),((),i)),(nd,(r,())))/\r.length=out.length+32:=by
 obtain⟨k,hk⟩:∃k,NN=k+5:=⟨NN-5,by have:=W9;omega⟩
 obtain⟨r1,e1,f1⟩:=z9p a.1 (d:=8) (by omega)
 obtain⟨r2,e2,f2⟩:=z9p a.2.1 (d:=8) (by omega)
 obtain⟨r3,e3,f3⟩:=z9p a.2.2.1 (d:=8) (by omega)
 obtain⟨r4,e4,f4⟩:=z9p a.2.2.2 (d:=8) (by omega)
 have e1':V5 NN a.1 8=some r1:=e1
 have e2':V5 NN a.2.1 8=some r2:=e2
 have e3':V5 NN a.2.2.1 8=some r3:=e3
 have e4':V5 NN a.2.2.2 8=some r4:=e4
 have g:∀n,z01 NN (n+5) i 0 nd out a=some (((),((),i)),(nd,(out++r1++r2++r3++r4,()))):=fun n=>by
  have s1:aa .i64 ((0:Int)+1)=1:=by decide
  have s2:aa .i64 ((1:Int)+1)=2:=by decide
  have s3:aa .i64 ((2:Int)+1)=3:=by decide
  have s4:aa .i64 ((3:Int)+1)=4:=by decide
  rw[show n+5=(n+4)+1 from rfl,k8]
  simp only[Q8]
  rw[X4 (by decide),Y3 (by decide),Y3 (by decide),Y3 (by decide),X4 (by decide),e1']
  simp only
  rw[gd_t (Y4 (by omega) (by omega)),s1,show n+4=(n+3)+1 from rfl,k8]
  simp only[Q8]
  rw[X4 (by decide),Y3 (by decide),Y3 (by decide),X4 (by decide),e2']
  simp only
  rw[gd_t (Y4 (by rw[ae];omega) (by omega)),s2,show n+3=(n+2)+1 from rfl,k8]
  simp only[Q8]
  rw[X4 (by decide),Y3 (by decide),X4 (by decide),e3']
  simp only
  rw[gd_t (Y4 (by rw[ae,ae];omega) (by omega)),s3,show n+2=(n+1)+1 from rfl,k8]
  simp only[Q8]
  rw[X4 (by decide),X4 (by decide),e4']
  simp only
  rw[gd_t (Y4 (by rw[ae,ae,ae];omega) (by omega)),s4,k8]
  simp only[Q8]
  rw[Y3 (by decide)]
 refine⟨out++r1++r2++r3++r4, ?_,by simp only[ae];omega⟩
 rw[show z01 NN NN=z01 NN (k+5)from congrArg _ hk]
 exact g k
theorem ypf{nd:Nd}{C:Nat}(hC:C<1000000000)(hl:nd.2.2.2.1.length<20000):∀(d j:Nat) (n:Nat) (out:List Int),j+d=nd.2.2.2.1.length->d<n->out.length<=C+32*j->∃r,z5v NN n (j:Int) nd out=some (((),()),(nd,(r,())))/\r.length<=C+32*nd.2.2.2.1.length
 | _,_,0,_,_,h,_=>absurd h (ag _)
 | 0,j,n+1,out,hj,_,ho=>by
  rw[z9j]
  simp only[j0]
  rw[Y3 (by simp;omega)];exact⟨out,rfl,by omega⟩
 | d+1,j,n+1,out,hj,hn,ho=>by
  obtain⟨r1,e1,f1⟩:=yr8 (nd:=nd) (a:=(((rdL nd.2.2.2.1 (j:Int) z66).1).1,(((rdL nd.2.2.2.1 (j:Int) z66).1).2,((rdL nd.2.2.2.1 (j:Int) z66).2)))) (i:=(j:Int)) (out:=out) (by omega)
  have hin:inB (j:Int) nd.2.2.2.1.length=true:=V7 (by omega) (by omega)
  rw[z9j]
  simp only[j0,e1,zcf (show j<1000000000 by omega)]
  rw[X4 (by simp;omega),gd_t hin,gd_t hin,gd_t hin,gd_t hin]
  exact ypf hC hl d (j+1) n _ (by omega) (by omega) (by omega)
theorem yiz{nd:Nd}(h:NodeF nd):∃r,z1i NN nd=some r/\r.length<1000000000000:=by
 have hps:=h.ps.len
 obtain⟨hp1,hp2⟩:=h.piv
 obtain⟨hk1,_⟩:=h.kids
 obtain⟨hb1,hb2⟩:=h.buf
 have hsl:=h.sums
 obtain⟨v,hv⟩:=yes h ([],[])
 simp only[z1i,hv]
 cases v
 ·exact⟨[],rfl,by simp⟩
 rw[Y3 (by rfl)]
 cases eqi (nd.2.2.1.length:Int) 0
 ·obtain⟨r1,e1,f1⟩:=z9p (nd.2.2.1.length:Int) (d:=4) (by omega)
  have e1':V5 NN (nd.2.2.1.length:Int) 4=some r1:=e1
  obtain⟨r2,e2,f2⟩:=ypi (nd:=nd) (by omega) nd.2.2.1.length 0 NN ([(78:Int)]++r1) (by omega) (by have:=W9;omega) (by simp;omega)
  obtain⟨r3,e3,f3⟩:=yph (nd:=nd) (C:=100+4*nd.2.2.1.length) (by omega) (by omega) (fun q hq=>by have:=UU.len (UU.of (hp2 q hq));omega) nd.2.1.length 0 NN r2 (by omega) (by have:=W9;omega) (by omega)
  obtain⟨r4,e4,f4⟩:=ypf (nd:=nd) (C:=100+4*nd.2.2.1.length+2002*nd.2.1.length) (by omega) (by omega) nd.2.2.2.1.length 0 NN r3 (by omega) (by have:=W9;omega) (by omega)
  obtain⟨r5,e5,f5⟩:=z9p (nd.2.2.2.2.length:Int) (d:=4) (by omega)
  have e5':V5 NN (nd.2.2.2.2.length:Int) 4=some r5:=e5
  obtain⟨r6,e6,f6⟩:=ype (nd:=nd) (C:=100+4*nd.2.2.1.length+2002*nd.2.1.length+32*nd.2.2.2.1.length+4) (by omega) hb1 hb2 nd.2.2.2.2.length 0 NN (r4++r5) (by omega) (by have:=W9;omega) (by rw[ae];omega)
  rw[show((0:Nat):Int)=0 from rfl]at e2 e3 e4 e6
  simp only[cond_false,e1']
  rw[gd_t (Y4 (by omega) (by omega)),e2]
  simp only[e3,e4,e5']
  rw[gd_t (Y4 (by omega) (by omega)),e6]
  exact⟨r6,rfl,by omega⟩
 ·obtain⟨r1,e1,f1⟩:=z9p (nd.1.length:Int) (d:=4) (by omega)
  have e1':V5 NN (nd.1.length:Int) 4=some r1:=e1
  obtain⟨r2,e2,f2⟩:=ypg (nd:=nd) (by omega) (fun p hp=>⟨by have:=UU.len (UU.of (h.ps.key p hp).1);omega,y1u (h.ps.key p hp).2⟩) nd.1.length 0 NN ([(76:Int)]++r1) (by omega) (by have:=W9;omega) (by simp;omega)
  rw[show((0:Nat):Int)=0 from rfl]at e2
  simp only[cond_true,e1']
  rw[gd_t (Y4 (by omega) (by omega)),e2]
  exact⟨r2,rfl,by omega⟩
theorem ycx{a:V1}(hl:a.1.length<100000):∀(d j:Nat) (n:Nat) (c:Int),j+d=a.1.length->d<n->∃r,z81 NN n c (j:Int) a=some (r,())
 | _,_,0,_,_,h=>absurd h (ag _)
 | 0,j,n+1,c,hj,_=>by
  rw[zek]
  simp only[z1v]
  rw[Y3 (by simp;omega)];exact⟨c,rfl⟩
 | d+1,j,n+1,c,hj,hn=>by
  have ih:=fun c=>ycx hl d (j+1) n c (by omega) (by omega)
  rw[zek]
  simp only[z1v,zcf (show j<1000000000 by omega)]
  rw[X4 (by simp;omega),gd_t (V7 (by omega) (by omega))]
  cases rdL a.1 (j:Int) false<;>exact ih _
theorem ycf{a:V1}{l:List Bool}(hl:l.length<100000):∀(d j:Nat) (n:Nat),j+d=l.length->d<n->
  (∃i:Nat,i<l.length/\rdL l (i:Int) false=false/\z5p NN n (j:Int) a l=some (.inl ((),(((),(a.2.1,(a.2.2,((i:Int),(0:Int))))),((setL l (i:Int) true),())))))\/z5p NN n (j:Int) a l=some (.inr (((),()),(a,((),()))))
 | _,_,0,_,h=>absurd h (ag _)
 | 0,j,n+1,hj,_=>by
  rw[zej]
  simp only[z1u]
  rw[Y3 (by simp;omega)];exact .inr rfl
 | d+1,j,n+1,hj,hn=>by
  have ih:=ycf (a:=a) hl d (j+1) n (by omega) (by omega)
  have hin:inB (j:Int) l.length=true:=V7 (by omega) (by omega)
  rw[zej]
  simp only[z1u,zcf (show j<1000000000 by omega)]
  rw[X4 (by simp;omega),gd_t hin]
  cases h:rdL l (j:Int) false
  ·rw[X4 (by rfl),gd_t hin]
   exact .inl ⟨j,by omega,h,rfl⟩
  ·exact ih
theorem yos{a:V1}(hl:a.1.length<100000):∃b at' e,ref25_Take NN a=some (b,(at',e))/\(e≠0\/(e=0/\∃i:Nat,at'=(i:Int)/\i<a.1.length/\rdL a.1 (i:Int) false=false/\b=(setL a.1 (i:Int) true,a.2))):=by
 obtain⟨c,hc⟩:=ycx (a:=a) hl a.1.length 0 NN 0 (by omega) (by have:=W9;omega)
 rw[show((0:Nat):Int)=0 from rfl]at hc
 simp only[ref25_Take,zrs,zno,hc,ab]
 cases decide (aa .i64 (c-a.2.2)<1)
 ·rw[cond_false]
  have h:=ycf (a:=a) (l:=a.1) hl a.1.length 0 NN (by omega) (by have:=W9;omega)
  rw[show((0:Nat):Int)=0 from rfl]at h
  simp only[znn,aj]
  rw[gd_t (Y4 (by omega) (by omega))]
  rcases h with⟨i,h1,h2,h3⟩ | h
  ·rw[h3]
   exact⟨_,_,_,rfl, .inr ⟨rfl,i,rfl,h1,h2,rfl⟩⟩
  ·rw[h]
   exact⟨_,_,_,rfl, .inl (by decide)⟩
 ·exact⟨_,_,_,rfl, .inl (by decide)⟩
theorem y95(d:W8)(at':Int):zcx NN d at'=some (decide (0<=at')&&decide (at'<(d.2.1.length:Int))):=by
 simp only[zcx]
 cases decide (0<=at')<;>rfl
theorem yh5{d:W8}(hc:d.2.1.length<100000)(hl:d.2.2.length<100000)(at':Int){b:List Int}(hb:b.length<1000000000000):∃d' e,ref23_Put NN d at' b=some (d',e)/\((e≠0/\d'=d)\/(e=0/\0<=at'/\at'<(d.2.1.length:Int)/\(b.length:Int)<=d.1/\d'=(d.1,(d.2.1,d.2.2++[(false,(at',b))])))):=by
 have hcp:z1c NN d=some d:=by
  simp only[z1c,aj]
  rw[gd_t (Y4 (by omega) (by omega)),gd_t (Y4 (by omega) (by omega))]
 simp only[ref23_Put,y95,ab,hcp,aj]
 by_cases h:0<=at'/\at'<(d.2.1.length:Int)
 ·rw[decide_eq_true h.1,decide_eq_true h.2,Y3 (by rfl)]
  by_cases hs:d.1<(b.length:Int)
  ·exact⟨_,_,by rw[X4 (by simpa using hs)], .inl ⟨by decide,rfl⟩⟩
  ·rw[Y3 (by simpa using hs),gd_t (zmk (by omega)),gd_t (Y4 (by omega) (by omega))]
   exact⟨_,_,rfl, .inr ⟨rfl,h.1,h.2,by omega,rfl⟩⟩
 ·have:(decide (0<=at')&&decide (at'<(d.2.1.length:Int)))=false:=by
   by_cases h0:0<=at'
   ·rw[decide_eq_true h0,decide_eq_false (fun h1=>h ⟨h0,h1⟩)];rfl
   ·rw[decide_eq_false h0];rfl
  rw[this]
  exact⟨_,_,rfl, .inl ⟨by decide,rfl⟩⟩
theorem yju{st:Z6}(hc:st.1.2.1.length<100000)(hl:st.1.2.2.length<100000)(ha:st.2.1.1.length<100000){b:List Int}(hb:b.length<1000000000000):
  ∃st' c,z8k NN st b=some (st',c)/\((c= -1/\st'=st)\/∃i:Nat,c=(i:Int)/\i<st.2.1.1.length/\rdL st.2.1.1 (i:Int) false=false/\(i:Int)<(st.1.2.1.length:Int)/\(b.length:Int)<=st.1.1/\
   st'=((st.1.1,(st.1.2.1,st.1.2.2++[(false,((i:Int),b))])),((setL st.2.1.1 (i:Int) true,st.2.1.2),st.2.2))):=by
 obtain⟨a,at',e,t1,t2⟩:=yos (a:=st.2.1) ha
 simp only[z8k,t1,ab]
 rcases t2 with t2 | ⟨rfl,i,rfl,t3,t4,rfl⟩
 ·exact⟨_,_,by rw[X4 (by rw[J3 t2];rfl)], .inl ⟨rfl,rfl⟩⟩
 ·obtain⟨d',e,p1,p2⟩:=yh5 hc hl (i:Int) hb
  rw[Y3 (by rfl),p1]
  simp only[ab]
  rcases p2 with⟨p2,_⟩ | ⟨rfl,_,p4,p5,rfl⟩
  ·exact⟨_,_,by rw[X4 (by rw[J3 p2];rfl)], .inl ⟨rfl,rfl⟩⟩
  ·exact⟨_,_,by rw[Y3 (by rfl)], .inr ⟨i,rfl,t3,t4,p4,p5,rfl⟩⟩
abbrev Wt:Type:=Y9
structure QOk (size:Int) (nc:Nat) (used:List Bool) (q:List Wt):Prop where
 all:∀w∈q,w.1=false/\2<=w.2.1/\w.2.1<(nc:Int)/\w.2.1<(used.length:Int)/\rdL used w.2.1 false=true/\(w.2.2.length:Int)<=size
 nd:(q.map fun w=>w.2.1).Nodup
theorem QOk.nil(size:Int)(nc:Nat)(used:List Bool):QOk size nc used []:=⟨fun _ h=>by simp at h,List.nodup_nil⟩
theorem QOk.len{size:Int}{nc:Nat}{used:List Bool}{q:List Wt}(h:QOk size nc used q):q.length<=used.length:=by
 have:=zf4 (l:=q.map fun w=>w.2.1) (L:=(List.range used.length).map fun n:Nat=>(n:Int)) h.nd (fun x hx=>by
  obtain⟨w,hw,rfl⟩:=aH.1 hx
  obtain⟨_,h0,_,h1,_⟩:=h.all w hw
  exact aH.2 ⟨w.2.1.toNat,List.mem_range.2 (by omega),by omega⟩)
 simpa using this
theorem QOk.add{size:Int}{nc:Nat}{used:List Bool}{q:List Wt}(h:QOk size nc used q){i:Nat}(h2:2<=i)(hi:i<used.length)(hf:rdL used (i:Int) false=false)(hc:(i:Int)<(nc:Int)){b:List Int}(hb:(b.length:Int)<=size):
  QOk size nc (setL used (i:Int) true) (q++[(false,((i:Int),b))]):=by
 have hne:∀w∈q,w.2.1≠(i:Int):=fun w hw e=>by
  have:=(h.all w hw).2.2.2.2.1
  rw[e,hf]at this;cases this
 refine⟨fun w hw=> ?_, ?_⟩
 ·rw[G0]
  rcases ak.1 hw with hw | hw
  ·obtain⟨h1,h2,h3,h4,h5,h6⟩:=h.all w hw
   exact⟨h1,h2,h3,h4,by rw[z1d (by omega) (by omega) (hne w hw)];exact h5,h6⟩
  ·simp only[aE]at hw
   subst hw
   exact⟨rfl,by show(2:Int)<=(i:Int);omega,hc,by show(i:Int)<_;omega,z32 (by omega) (by omega),hb⟩
 ·rw[bK,List.nodup_append]
  refine⟨h.nd,by simp, ?_⟩
  intro a ha b hb e
  obtain⟨w,hw,rfl⟩:=aH.1 ha
  simp only[ax,bO,aE]at hb
  exact hne w hw (e.trans hb)
structure SG (sz:Int) (C:List (List Int)) (nu:Nat) (st:Z6):Prop where
 size:st.1.1=sz
 cells:st.1.2.1=C
 q:QOk sz C.length st.2.1.1 st.1.2.2
 used:st.2.1.1.length=nu
 low:rdL st.2.1.1 0 false=true/\rdL st.2.1.1 1 false=true
abbrev rest(st:Z6):=(st.2.1.2,st.2.2)
theorem SG.taken{sz:Int}{C:List (List Int)}{nu:Nat}{st:Z6}(h:SG sz C nu st)(hC:C.length<50000)(hn:nu<50000){b:List Int}(hb:b.length<1000000000000):
  ∃st' c,z8k NN st b=some (st',c)/\((c= -1/\st'=st)\/∃i:Nat,c=(i:Int)/\SG sz C nu st'/\rest st'=rest st/\st'.1.2.2=st.1.2.2++[(false,((i:Int),b))]/\(b.length:Int)<=sz/\2<=i/\i<C.length/\∀w∈st.1.2.2,w.2.1≠(i:Int)):=by
 have hq:=h.q.len
 obtain⟨st',c,t1,t2⟩:=yju (st:=st) (b:=b) (by rw[h.cells];omega) (by rw[h.used]at hq;omega) (by rw[h.used];omega) hb
 refine⟨st',c,t1, ?_⟩
 rcases t2 with t2 | ⟨i,rfl,i1,i2,i3,i4,rfl⟩
 ·exact .inl t2
 ·rw[h.cells]at i3
  rw[h.size]at i4
  have i0:2<=i:=by
   rcases dR i 2 with hlt | hge
   ·rcases(by omega:i=0\/i=1)with rfl | rfl
    ·rw[show((0:Nat):Int)=0 from rfl,h.low.1]at i2;cases i2
    ·rw[show((1:Nat):Int)=1 from rfl,h.low.2]at i2;cases i2
   ·exact hge
  refine .inr ⟨i,rfl,⟨h.size,h.cells, ?_, ?_, ?_⟩,rfl,rfl,i4,i0,by omega,fun w hw e=> ?_⟩
  ·exact h.q.add i0 i1 i2 (by omega) i4
  ·show(setL st.2.1.1 (i:Int) true).length=nu
   rw[G0];exact h.used
  ·exact⟨by show rdL (setL st.2.1.1 (i:Int) true) 0 false=true;rw[z1d (by omega) (by omega) (by omega)];exact h.low.1,
    by show rdL (setL st.2.1.1 (i:Int) true) 1 false=true;rw[z1d (by omega) (by omega) (by omega)];exact h.low.2⟩
  ·have:=(h.q.all w hw).2.2.2.2.1
   rw[e,i2]at this;cases this
theorem yc0(x:Int):∀(d:Nat) (n:Nat) (out:List Int),d<=100->d<n->out.length+d<1000->∃r,z6t NN n x ((d:Int)-1) out=some ((),(r,()))/\r.length=out.length+d
 | _,0,_,_,h,_=>absurd h (ag _)
 | 0,n+1,out,_,_,_=>by
  rw[zct]
  simp only[z0q]
  exact⟨out,rfl,rfl⟩
 | d+1,n+1,out,hd,hn,ho=>by
  have e1:((d+1:Nat):Int)-1=(d:Int):=by omega
  have e2:aa .i64 ((8:Int)*(d:Int))=((8*d:Nat):Int):=by rw[w64 (by omega) (by omega)];omega
  have e3:aa .i64 ((d:Int)-1)=(d:Int)-1:=w64 (by omega) (by omega)
  rw[zct,e1]
  simp only[z0q,e2,e3]
  obtain⟨r,r1,r2⟩:=yc0 x d n (out++[aa .u8 (d0 x (2^min (cH ((8*d:Nat):Int)) (be .u64)))]) (by omega) (by omega) (by rw[ae,aL];omega)
  rw[X4 (by simp),gd_p (by omega),gd_t (Y4 (by omega) (by omega)),r1]
  exact⟨r,rfl,by rw[ae,aL]at r2;omega⟩
theorem zva(x:Int){d:Nat}(hd:d<=100):∃r,z2r NN x (d:Int)=some r/\r.length=d:=by
 obtain⟨r,r1,r2⟩:=yc0 x d NN [] hd (by have:=W9;omega) (by simp;omega)
 refine⟨r, ?_,by simpa using r2⟩
 simp only[z2r]
 rw[w64 (by omega) (by omega),r1]
 rfl
theorem y6u(x:Int):∀(d:Nat) (n:Nat) (out:List Int),d<=100->d<n->out.length+d<1000->∃r,z4k NN n x ((d:Int)-1) out=some ((),(r,()))/\r.length=out.length+d
 | _,0,_,_,h,_=>absurd h (ag _)
 | 0,n+1,out,_,_,_=>by
  rw[zbh]
  simp only[q9]
  exact⟨out,rfl,rfl⟩
 | d+1,n+1,out,hd,hn,ho=>by
  have e1:((d+1:Nat):Int)-1=(d:Int):=by omega
  have e2:aa .i64 ((8:Int)*(d:Int))=((8*d:Nat):Int):=by rw[w64 (by omega) (by omega)];omega
  have e3:aa .i64 ((d:Int)-1)=(d:Int)-1:=w64 (by omega) (by omega)
  rw[zbh,e1]
  simp only[q9,e2,e3]
  obtain⟨r,r1,r2⟩:=y6u x d n (out++[aa .u8 (d0 x (2^min (cH ((8*d:Nat):Int)) (be .u64)))]) (by omega) (by omega) (by rw[ae,aL];omega)
  rw[X4 (by simp),gd_p (by omega),gd_t (Y4 (by omega) (by omega)),r1]
  exact⟨r,rfl,by rw[ae,aL]at r2;omega⟩
theorem yi0(x:Int){d:Nat}(hd:d<=100):∃r,z5n NN x (d:Int)=some r/\r.length=d:=by
 obtain⟨r,r1,r2⟩:=y6u x d NN [] hd (by have:=W9;omega) (by simp;omega)
 refine⟨r, ?_,by simpa using r2⟩
 simp only[z5n]
 rw[w64 (by omega) (by omega),r1]
 rfl
theorem zh8(x:Int){d:Nat}(hd:d<=100):∃r,w9 NN x (d:Int)=some r/\r.length=d:=by
 obtain⟨r,r1,r2⟩:=zva (aa .u64 x) hd
 exact⟨r,by simp only[w9,r1,ab],r2⟩
theorem z1h(x:Int){d:Nat}(hd:d<=100):∃r,W3 NN x (d:Int)=some r/\r.length=d:=by
 obtain⟨r,r1,r2⟩:=zva (aa .u64 x) hd
 exact⟨r,by simp only[W3,r1,ab],r2⟩
theorem ygh:∀(post pre:List (List Int)) (n:Nat) (out:List Int),post.length<n->(pre++post).length<1000000000->out.length+post.flatten.length<1000000000000->z9y NN n (pre++post) (pre.length:Int) out=some ((),(out++post.flatten,()))
 | _,_,0,_,h,_,_=>absurd h (ag _)
 | [],pre,n+1,out,_,_,_=>by
  rw[zg1]
  simp only[z35,ai,aA,decide_false,cond_false,dA]
 | x::post,pre,n+1,out,hn,hl,ho=>by
  simp only[af]at hn
  have hb:pre.length<9223372036854775807:=by simp at hl;omega
  simp only[bX,ae]at ho
  have ih:=ygh post (pre++[x]) n (out++x) (by omega) (by simpa using hl) (by rw[ae];omega)
  rw[zg1]
  simp only[z35,U3,cond_true,U0]
  rw[gd_t V4,gd_t (zmk (by omega)),W7 (q:=x) hb,V9 (pre:=pre) (q:=x) (post:=post),ih,bX,au]
theorem y2q{l:List (List Int)}(hl:l.length<1000000000)(hf:l.flatten.length<1000000000000):z6v NN l=some l.flatten:=by
 have h:=ygh l [] NN [] (by have:=W9;omega) (by simpa using hl) (by simpa using hf)
 rw[show(([]:List (List Int)).length:Int)=0 from rfl,aj,aj]at h
 simp only[z6v,h,ab]
theorem yc7{ms:List Mg}(hl:ms.length<1000000)(hm:∀m∈ms,GM 904 m):∀(d j:Nat) (n:Nat) (out:List Int),j+d=ms.length->d<n->out.length<=100+6000*j->∃r,z6u NN n ms (j:Int) out=some ((),(r,()))/\r.length<=100+6000*ms.length
 | _,_,0,_,_,h,_=>absurd h (ag _)
 | 0,j,n+1,out,hj,_,ho=>by
  rw[zcu]
  simp only[z0r]
  rw[Y3 (by simp;omega)];exact⟨out,rfl,by
    have:j=ms.length:=by omega
    rw[<-this];exact ho⟩
 | d+1,j,n+1,out,hj,hn,ho=>by
  obtain⟨b,b1,b2⟩:=y7s (hm (rdL ms (j:Int) U7) (z62 (by omega) (by omega)))
  obtain⟨r,r1,r2⟩:=yc7 hl hm d (j+1) n (out++b) (by omega) (by omega) (by rw[ae];omega)
  refine⟨r, ?_,r2⟩
  rw[zcu]
  simp only[z0r,zcf (show j<1000000000 by omega)]
  rw[X4 (by simp;omega),gd_t (V7 (by omega) (by omega)),b1]
  simp only[ab]
  rw[gd_t (zmk (by omega)),r1]
theorem yc6{ms:List Mg}(hl:ms.length<1000)(hm:∀m∈ms,GM 904 m):∃r,zbw NN ms=some r/\r.length<=7000000:=by
 obtain⟨a,a1,a2⟩:=zh8 (ms.length:Int) (d:=4) (by omega)
 have a1':w9 NN (ms.length:Int) 4=some a:=a1
 obtain⟨r,r1,r2⟩:=yc7 (by omega) hm ms.length 0 NN a (by omega) (by have:=W9;omega) (by omega)
 rw[show((0:Nat):Int)=0 from rfl]at r1
 exact⟨r,by simp only[zbw,a1',r1,ab],by omega⟩
theorem yb9{cs:List Int}(hl:cs.length<1000000):∀(d j:Nat) (n:Nat) (out:List Int),j+d=cs.length->d<n->out.length<=100+2*j->∃r,z5f NN n cs (j:Int) out=some ((),(r,()))/\r.length<=100+2*cs.length
 | _,_,0,_,_,h,_=>absurd h (ag _)
 | 0,j,n+1,out,hj,_,ho=>by
  rw[zca]
  simp only[z0c]
  rw[Y3 (by simp;omega)];exact⟨out,rfl,by
    have:j=cs.length:=by omega
    rw[<-this];exact ho⟩
 | d+1,j,n+1,out,hj,hn,ho=>by
  obtain⟨b,b1,b2⟩:=zh8 (rdL cs (j:Int) (0:Int)) (d:=2) (by omega)
  have b1':w9 NN (rdL cs (j:Int) (0:Int)) 2=some b:=b1
  obtain⟨r,r1,r2⟩:=yb9 hl d (j+1) n (out++b) (by omega) (by omega) (by rw[ae];omega)
  refine⟨r, ?_,r2⟩
  rw[zca]
  simp only[z0c,zcf (show j<1000000000 by omega),b1',ab]
  rw[X4 (by simp;omega),gd_t (V7 (by omega) (by omega)),gd_t (zmk (by omega)),r1]
theorem ylc(gen:Int){cat:List Int}{cells:List Int}(hc:cat.length<100000000000)(hl:cells.length<100000):∃r,zcv NN gen cat cells=some r/\r.length<1000000:=by
 obtain⟨r1,e1,f1⟩:=zh8 gen (d:=4) (by omega)
 obtain⟨r2,e2,f2⟩:=zh8 (cat.length:Int) (d:=4) (by omega)
 obtain⟨r3,e3⟩:=y4m (l:=cat) (by omega)
 obtain⟨r4,e4,f4⟩:=zva r3 (d:=8) (by omega)
 obtain⟨r5,e5,f5⟩:=zh8 (cells.length:Int) (d:=2) (by omega)
 have e1':w9 NN gen 4=some r1:=e1
 have e2':w9 NN (cat.length:Int) 4=some r2:=e2
 have e4':z2r NN r3 8=some r4:=e4
 have e5':w9 NN (cells.length:Int) 2=some r5:=e5
 have hfl:([([(83:Int)]:List Int),r1,r2,r4,r5]:List (List Int)).flatten.length=19:=by simp[f1,f2,f4,f5]
 obtain⟨r,g1,g2⟩:=yb9 (cs:=cells) (by omega) cells.length 0 NN ([([(83:Int)]:List Int),r1,r2,r4,r5]:List (List Int)).flatten (by omega) (by have:=W9;omega) (by omega)
 rw[show((0:Nat):Int)=0 from rfl]at g1
 obtain⟨c,c1⟩:=y4m (l:=r) (by omega)
 obtain⟨c2,e6,f6⟩:=zva c (d:=8) (by omega)
 have e6':z2r NN c 8=some c2:=e6
 refine⟨r++c2, ?_,by rw[ae];omega⟩
 simp only[zcv,e1',e2',e3,e4',e5',ab]
 rw[y2q (by simp) (by rw[hfl];omega)]
 simp only[ab,g1,c1,e6']
 rw[gd_t (zmk (by omega))]
theorem ym2{size K:Nat}(hs:1<=size):∀(d:Nat) (b:List Int) (n:Nat) (out:List (List Int)),b.length<=d->d<n->out.length+d<4000000000->b.length<=K->(∀x∈out,x.length<=K)->
  ∃l r,z6w NN n b (size:Int) out=some ((l,()),(r,()))/\r.length<=out.length+d/\l.length<=K/\∀x∈r,x.length<=K
 | _,_,0,_,_,h,_,_,_=>absurd h (ag _)
 | d,b,n+1,out,hd,hn,ho,hk,hx=>by
  rw[zmg]
  simp only[z48]
  by_cases hb:size<b.length
  ·obtain⟨d,rfl⟩:∃d',d=d'+1:=⟨d-1,by omega⟩
   rw[X4 (by simp;omega),gd_t (by simp;omega),gd_t (Y4 (by omega) (by omega)),gd_t (by simp;omega)]
   have hc:(cut2 b (size:Int) (b.length:Int)).length=b.length-size:=by simp[cut2]
   obtain⟨l,r,e1,e2,e3,e4⟩:=ym2 (K:=K) hs d (cut2 b (size:Int) (b.length:Int)) n (out++[cut2 b (0:Int) (size:Int)]) (by omega) (by omega) (by rw[ae,aL];omega) (by omega) (fun y hy=>by
    rcases ak.1 hy with hy | hy
    ·exact hx y hy
    ·simp only[aE]at hy
     subst hy
     have:(cut2 b (0:Int) (size:Int)).length<=b.length:=by simp[cut2];omega
     omega)
   rw[ae,aL]at e2
   exact⟨l,r,e1,by omega,e3,e4⟩
  ·rw[Y3 (by simp;omega)]
   exact⟨b,out,rfl,by omega,hk,hx⟩
theorem ylf{b:List Int}(hb:b.length<3000000000){size:Int}(hs:1<=size):∃r,zfe NN b size=some r/\r.length<=b.length+1/\∀x∈r,x.length<=b.length:=by
 obtain⟨s,rfl⟩:∃s:Nat,size=(s:Int):=⟨size.toNat,by omega⟩
 obtain⟨l,r,e1,e2,e3,e4⟩:=ym2 (size:=s) (K:=b.length) (by omega) b.length b NN [] (al _) (by have:=W9;omega) (by simp;omega) (al _) (fun x h=>by cases h)
 simp only[aq,bk]at e2
 refine⟨r++[l], ?_,by rw[ae,aL];omega,fun x hx=> ?_⟩
 ·simp only[zfe,e1,ab]
  rw[gd_t (Y4 (by omega) (by omega))]
 ·rcases ak.1 hx with hx | hx
  ·exact e4 x hx
  ·simp only[aE]at hx
   rw[hx];exact e3
theorem ymm{f:Z4}{st:Z6}(hl:f.1.length<100000)(hm:f.1.length<=st.2.2.2.2.2.1.length)(hc:f.1.length<=st.2.2.2.2.2.2.1.length):∀(d j:Nat) (n:Nat) (out:List Int),j+d=f.1.length->d<n->out.length<=1000000000+20*j->∃r,z2t NN n (j:Int) f st out=some ((),(r,()))/\r.length<=2000000000
 | _,_,0,_,_,h,_=>absurd h (ag _)
 | 0,j,n+1,out,hj,_,ho=>by
  rw[zcb]
  simp only[z0d]
  rw[Y3 (by simp;omega)];exact⟨out,rfl,by omega⟩
 | d+1,j,n+1,out,hj,hn,ho=>by
  have next:∀out2:List Int,out2.length<=out.length+20->∃r,z2t NN n ((j+1:Nat):Int) f st out2=some ((),(r,()))/\r.length<=2000000000:=fun out2 h=>ymm hl hm hc d (j+1) n out2 (by omega) (by omega) (by omega)
  obtain⟨a,a1,a2⟩:=z1h ((((rdL f.1 (j:Int) X2).2).2).1) (d:=4) (by omega)
  obtain⟨b,b1,b2⟩:=z1h (aa .i64 (((BitVec.ofInt (be .i64) (rdL st.2.2.2.2.2.1 (j:Int) (0:Int))&&&BitVec.ofInt (be .i64) (65535:Int)).toNat:Int))) (d:=2) (by omega)
  obtain⟨c,c1,c2⟩:=yi0 (rdL st.2.2.2.2.2.2.1 (j:Int) (0:Int)) (d:=8) (by omega)
  have a1':W3 NN ((((rdL f.1 (j:Int) X2).2).2).1) 4=some a:=a1
  have b1':W3 NN (aa .i64 (((BitVec.ofInt (be .i64) (rdL st.2.2.2.2.2.1 (j:Int) (0:Int))&&&BitVec.ofInt (be .i64) (65535:Int)).toNat:Int))) 2=some b:=b1
  have c1':z5n NN (rdL st.2.2.2.2.2.2.1 (j:Int) (0:Int)) 8=some c:=c1
  have hfl:∀x:Int,([([x]:List Int),a,b,c]:List (List Int)).flatten.length=15:=fun x=>by simp[a2,b2,c2]
  have hjn:∀x:Int,z6v NN ([([x]:List Int),a,b,c]:List (List Int))=some ([([x]:List Int),a,b,c]:List (List Int)).flatten:=fun x=>y2q (by simp) (by rw[hfl];omega)
  rw[zcb]
  simp only[z0d,zcf (show j<1000000000 by omega),a1',b1',c1',ab,hjn,hfl]
  rw[X4 (by simp;omega),gd_t (V7 (by omega) (by omega))]
  cases (rdL f.1 (j:Int) X2).1
  ·rw[X4 (by rfl),gd_t (zmk (by omega))]
   exact next _ (by rw[ae,aL];omega)
  ·rw[Y3 (by rfl),gd_t (V7 (by omega) (by omega)),gd_t (V7 (by omega) (by omega)),gd_t (zmk (by omega))]
   cases ((rdL f.1 (j:Int) X2).2).1
   ·rw[cond_false,gd_t (V7 (by omega) (by omega)),gd_t (V7 (by omega) (by omega)),gd_t (zmk (by omega))]
    exact next _ (by rw[ae,hfl];omega)
   ·exact next _ (by rw[ae,hfl];omega)
theorem ymn{f:Z4}{st:Z6}(hl:f.2.2.1.length<=16)(he:∀e∈f.2.2.1,(∀m∈e.2.2.2.2,GM 904 m)/\(e.2.2.2.2.length<1000/\e.2.2.2.1.length<=12)):∀(d j:Nat) (n:Nat) (out:List Int),j+d=f.2.2.1.length->d<n->out.length<=10000000+10000000*j->∃r,z5g NN n (j:Int) f st out=some (((),((),())),(f,(st,(r,()))))/\r.length<=200000000
 | _,_,0,_,_,h,_=>absurd h (ag _)
 | 0,j,n+1,out,hj,_,ho=>by
  rw[zcc]
  simp only[z0e]
  rw[Y3 (by simp;omega)];exact⟨out,rfl,by omega⟩
 | d+1,j,n+1,out,hj,hn,ho=>by
  obtain⟨h1,h2,h3⟩:=he (rdL f.2.2.1 (j:Int) X0) (z62 (by omega) (by omega))
  obtain⟨a,a1,a2⟩:=z1h ((rdL f.2.2.1 (j:Int) X0).1) (d:=4) (by omega)
  obtain⟨b,b1,b2⟩:=z1h (((rdL f.2.2.1 (j:Int) X0).2).1) (d:=4) (by omega)
  obtain⟨c,c1,c2⟩:=z1h ((((rdL f.2.2.1 (j:Int) X0).2).2).1) (d:=2) (by omega)
  obtain⟨e,e1,e2⟩:=z1h ((((((rdL f.2.2.1 (j:Int) X0).2).2).2).1).length:Int) (d:=1) (by omega)
  obtain⟨g,g1,g2⟩:=yc6 h2 h1
  have a1':W3 NN ((rdL f.2.2.1 (j:Int) X0).1) 4=some a:=a1
  have b1':W3 NN (((rdL f.2.2.1 (j:Int) X0).2).1) 4=some b:=b1
  have c1':W3 NN ((((rdL f.2.2.1 (j:Int) X0).2).2).1) 2=some c:=c1
  have e1':W3 NN ((((((rdL f.2.2.1 (j:Int) X0).2).2).2).1).length:Int) 1=some e:=e1
  have hbi:(w5 (((((rdL f.2.2.1 (j:Int) X0).2).2).2).1)).length=((((rdL f.2.2.1 (j:Int) X0).2).2).2).1.length:=by simp[w5]
  have hfl:([a,b,c,e,w5 (((((rdL f.2.2.1 (j:Int) X0).2).2).2).1),g]:List (List Int)).flatten.length<=8000000:=by
   simp only[bX,dA,ae,aq,hbi];omega
  obtain⟨r,r1,r2⟩:=ymn hl he d (j+1) n (out++([a,b,c,e,w5 (((((rdL f.2.2.1 (j:Int) X0).2).2).2).1),g]:List (List Int)).flatten) (by omega) (by omega) (by rw[ae];omega)
  refine⟨r, ?_,r2⟩
  rw[zcc]
  simp only[z0e,zcf (show j<1000000000 by omega),a1',b1',c1',e1',g1,ab]
  rw[X4 (by simp;omega),gd_t (V7 (by omega) (by omega)),gd_p (by unfold maxB;omega),y2q (by simp) (by omega)]
  simp only[ab]
  rw[gd_t (zmk (by omega)),r1]
theorem yf1{f:Z4}{st:Z6}(hl:f.1.length<100000)(hm:f.1.length<=st.2.2.2.2.2.1.length)(hc:f.1.length<=st.2.2.2.2.2.2.1.length)(hl2:f.2.2.1.length<=16)
  (he:∀e∈f.2.2.1,(∀m∈e.2.2.2.2,GM 904 m)/\(e.2.2.2.2.length<1000/\e.2.2.2.1.length<=12)) (hms:(∀m∈f.2.2.2.2.2.2,GM 904 m)/\f.2.2.2.2.2.2.length<1000):∃r,zcw NN f st=some r/\r.length<=2000000000:=by
 obtain⟨a,a1,a2⟩:=z1h f.2.2.2.1 (d:=4) (by omega)
 obtain⟨b,b1,b2⟩:=z1h f.2.2.2.2.2.1 (d:=4) (by omega)
 obtain⟨c,c1,c2⟩:=z1h f.2.2.2.2.1 (d:=2) (by omega)
 obtain⟨e,e1,e2⟩:=z1h (f.2.2.1.length:Int) (d:=1) (by omega)
 obtain⟨k,k1,k2⟩:=z1h (f.1.length:Int) (d:=2) (by omega)
 obtain⟨g,g1,g2⟩:=yc6 hms.2 hms.1
 have a1':W3 NN f.2.2.2.1 4=some a:=a1
 have b1':W3 NN f.2.2.2.2.2.1 4=some b:=b1
 have c1':W3 NN f.2.2.2.2.1 2=some c:=c1
 have e1':W3 NN (f.2.2.1.length:Int) 1=some e:=e1
 have k1':W3 NN (f.1.length:Int) 2=some k:=k1
 generalize hx:([(67:Int),(aa .u8 (f.2.1.1)),(aa .u8 (f.2.1.2.1)),(aa .u8 (f.2.1.2.2))]:List Int)=x1
 have hx1:x1.length=4:=by rw[<-hx];rfl
 have hfl:([x1,a,b,c,g,e]:List (List Int)).flatten.length<=8000000:=by
  simp only[bX,dA,ae,aq];omega
 obtain⟨r,r1,r2⟩:=ymn (st:=st) hl2 he f.2.2.1.length 0 NN ([x1,a,b,c,g,e]:List (List Int)).flatten (by omega) (by have:=W9;omega) (by omega)
 obtain⟨r',r1',r2'⟩:=ymm (st:=st) hl hm hc f.1.length 0 NN (r++k) (by omega) (by have:=W9;omega) (by rw[ae];omega)
 rw[show((0:Nat):Int)=0 from rfl]at r1 r1'
 refine⟨r', ?_,r2'⟩
 simp only[zcw,a1',b1',c1',e1',g1,ab,hx]
 rw[y2q (by simp) (by omega)]
 simp only[ab,r1,k1']
 rw[gd_t (zmk (by omega)),r1']
 rfl
theorem ydm(a0:Int)(a1:List (List Int))(a2:List Y9)(a3:List Bool)(a4:List Int)(a5 a6 a7 a8:Int)(a9 a10 a11 a12 M C:List Int):
  zcs NN a0 a1 a2 a3 a4 a5 a6 a7 a8 a9 a10 a11 a12=(z8k NN ((a0,(a1,a2)),((a3,(a4,a5)),(a6,(a7,(a8,(M,(C,a9))))))) a12).bind fun r=>
   some (((r.1.1.1,(r.1.1.2.1,(r.1.1.2.2,(r.1.2.1.1,(r.1.2.1.2.1,(r.1.2.1.2.2,(a6,(a7,(a8,((),((),a9))))))))))),r.2),(a10,(a11,()))):=by
 simp only[zcs,z8k]
 cases ref25_Take NN (a3,(a4,a5))with
 | none=>rfl
 | some r1=>
  simp only[ab]
  cases eqi r1.2.2 0
  ·rfl
  ·simp only[aS,cond_false]
   cases ref23_Put NN (a0,(a1,a2)) r1.2.1 a12 with
   | none=>rfl
   | some r2=>
    simp only[ab]
    cases eqi r2.2 0<;>rfl
structure NI (p:List Sl) (i:Nat) (q:List Wt) (M C:List Int):Prop where
 ml:M.length=i
 cl:C.length=i
 un:∀j:Nat,j<i->W2 p (j:Int)=false->rdL M (j:Int) 0= -1
 us:∀j:Nat,j<i->W2 p (j:Int)=true->∃b,z1i NN (zas (slA p (j:Int)))=some b/\(false,(rdL M (j:Int) 0,b))∈q/\v7 NN b=some (rdL C (j:Int) 0)
 ne:∀j k:Nat,j<i->k<i->W2 p (j:Int)=true->W2 p (k:Int)=true->rdL M (j:Int) 0=rdL M (k:Int) 0->j=k
theorem NI.nil(p:List Sl):NI p 0 [] [] []:=⟨rfl,rfl,fun j h=>absurd h (ag _),fun j h=>absurd h (ag _),fun j k h=>absurd h (ag _)⟩
theorem yly{l:List Int}{j:Nat}(h:j<l.length)(x:Int):rdL (l++[x]) (j:Int) 0=rdL l (j:Int) 0:=by
 simp[rdL,h,aW]
theorem ylz(l:List Int)(x:Int):rdL (l++[x]) (l.length:Int) 0=x:=by simp[rdL]
theorem NI.step{p:List Sl}{i:Nat}{q:List Wt}{M C:List Int}(h:NI p i q M C){c k:Int}(q2:List Wt)(hu:W2 p (i:Int)=false->c= -1)
  (hs:W2 p (i:Int)=true->(∀w∈q,w.2.1≠c)/\∃b,z1i NN (zas (slA p (i:Int)))=some b/\(false,(c,b))∈q++q2/\v7 NN b=some k):NI p (i+1) (q++q2) (M++[c]) (C++[k]):=by
 obtain⟨h1,h2,h3,h4,h5⟩:=h
 have rm:rdL (M++[c]) (i:Int) 0=c:=by rw[<-h1];exact ylz M c
 have rc:rdL (C++[k]) (i:Int) 0=k:=by rw[<-h2];exact ylz C k
 have om:∀j:Nat,j<i->rdL (M++[c]) (j:Int) 0=rdL M (j:Int) 0:=fun j hj=>yly (by omega) c
 have oc:∀j:Nat,j<i->rdL (C++[k]) (j:Int) 0=rdL C (j:Int) 0:=fun j hj=>yly (by omega) k
 refine⟨by simp[h1],by simp[h2],fun j hj hf=> ?_,fun j hj ht=> ?_,fun j l hj hl hjt hlt he=> ?_⟩
 ·rcases cv.1 hj with hj | rfl
  ·rw[om j hj];exact h3 j hj hf
  ·rw[rm];exact hu hf
 ·rcases cv.1 hj with hj | rfl
  ·obtain⟨b,b1,b2,b3⟩:=h4 j hj ht
   exact⟨b,b1,by rw[om j hj];exact bp _ b2,by rw[oc j hj];exact b3⟩
  ·obtain⟨b,b1,b2,b3⟩:=(hs ht).2
   exact⟨b,b1,by rw[rm];exact b2,by rw[rc];exact b3⟩
 ·rcases cv.1 hj with hj | rfl<;>rcases cv.1 hl with hl | rfl
  ·rw[om j hj,om l hl]at he;exact h5 j l hj hl hjt hlt he
  ·rw[om j hj,rm]at he
   obtain⟨b,_,b2,_⟩:=h4 j hj hjt
   exact absurd he ((hs hlt).1 _ b2)
  ·rw[om l hl,rm]at he
   obtain⟨b,_,b2,_⟩:=h4 l hl hlt
   exact absurd he.symm ((hs hjt).1 _ b2)
  ·rfl
section
variable {f:Z4} {old:Z6} (hM:old.2.2.2.2.2.1=[]) (hl:f.1.length<50000) (hN:∀i,W2 f.1 i=true->(slA f.1 i).2.1=false/\NodeF (zas (slA f.1 i))) {sz:Int} {C:List (List Int)} {nu:Nat} (hC:C.length<50000) (hn:nu<50000)
include hM hl in
theorem ykd{j:Nat}(hj:j<f.1.length)(c k:Int)(q:List Wt)(u:List Bool)(la:List Int)(ke lo ge se:Int)(ca M K g:List Int)(hml:M.length=j)(hkl:K.length=j):
  z3t NN (j:Int) c k sz C q u la ke lo ge se ca M K f old g=some (((),((),((),((),((),(j:Int)))))),((sz,(C,(q,(u,(la,(ke,(lo,(ge,(se,((),((),ca))))))))))),(M++[c],(K++[k],(f,((),(old,(g,())))))))):=by
 simp only[z3t,z5o,hM]
 rw[Y3 (decide_eq_false (by simp)),X4 (decide_eq_true (by omega)),gd_t (Y4 (by omega) (by omega)),gd_t (Y4 (by omega) (by omega))]
 rfl
include hM hl hN hC hn in
theorem yc3(la:List Int)(ke lo ge se:Int)(ca X Y:List Int):∀(d j:Nat) (n:Nat) (q:List Wt) (u:List Bool) (M K:List Int),j+d=f.1.length->d<n->SG sz C nu ((sz,(C,q)),((u,(la,ke)),(lo,(ge,(se,(X,(Y,ca)))))))->NI f.1 j q M K->
  z1e NN n (j:Int) sz C q u la ke lo ge se ca M K f old []=some (.inl (((),([],false)),(old,())))\/
  ∃q' u' M' K',z1e NN n (j:Int) sz C q u la ke lo ge se ca M K f old []=some (.inr (((),((),())),((sz,(C,(q',(u',(la,(ke,(lo,(ge,(se,((),((),ca))))))))))),(M',(K',((),([],())))))))/\
   SG sz C nu ((sz,(C,q')),((u',(la,ke)),(lo,(ge,(se,(X,(Y,ca)))))))/\NI f.1 f.1.length q' M' K'
 | _,_,0,_,_,_,_,_,h,_,_=>absurd h (ag _)
 | 0,j,n+1,q,u,M,K,hj,_,hg,hi=>by
  rw[zei]
  simp only[z1t,hM]
  have hx:(bif decide ((f.1.length:Int)<(([]:List Int).length:Int))then(([]:List Int).length:Int)else(f.1.length:Int))=(f.1.length:Int):=by
   rw[Y3 (decide_eq_false (by simp))]
  rw[hx,Y3 (decide_eq_false (by omega))]
  refine .inr ⟨q,u,M,K,rfl,hg, ?_⟩
  have:j=f.1.length:=by omega
  rw[<-this];exact hi
 | d+1,j,n+1,q,u,M,K,hj,hd,hg,hi=>by
  have hin:inB (j:Int) f.1.length=true:=V7 (by omega) (by omega)
  have hx:(bif decide ((f.1.length:Int)<(([]:List Int).length:Int))then(([]:List Int).length:Int)else(f.1.length:Int))=(f.1.length:Int):=by
   rw[Y3 (decide_eq_false (by simp))]
  have p2:=fun c k q u=>ykd (sz:=sz) (C:=C) hM hl (j:=j) (by omega) c k q u la ke lo ge se ca M K [] hi.ml hi.cl
  have hw:=zcf (show j<1000000000 by omega)
  have next:∀(c k:Int) (q2:List Wt) (u2:List Bool),SG sz C nu ((sz,(C,q++q2)),((u2,(la,ke)),(lo,(ge,(se,(X,(Y,ca)))))))->NI f.1 (j+1) (q++q2) (M++[c]) (K++[k])->
   z1e NN n ((j+1:Nat):Int) sz C (q++q2) u2 la ke lo ge se ca (M++[c]) (K++[k]) f old []=some (.inl (((),([],false)),(old,())))\/
   ∃q' u' M' K',z1e NN n ((j+1:Nat):Int) sz C (q++q2) u2 la ke lo ge se ca (M++[c]) (K++[k]) f old []=some (.inr (((),((),())),((sz,(C,(q',(u',(la,(ke,(lo,(ge,(se,((),((),ca))))))))))),(M',(K',((),([],())))))))/\
    SG sz C nu ((sz,(C,q')),((u',(la,ke)),(lo,(ge,(se,(X,(Y,ca)))))))/\NI f.1 f.1.length q' M' K':=fun c k q2 u2 h1 h2=>yc3 la ke lo ge se ca X Y d (j+1) n (q++q2) u2 (M++[c]) (K++[k]) (by omega) (by omega) h1 h2
  rw[zei]
  simp only[z1t,hM]
  rw[hx,X4 (decide_eq_true (by omega)),X4 (decide_eq_true (by omega)),gd_t hin]
  have hub:W2 f.1 (j:Int)=(rdL f.1 (j:Int) X2).1:=by
   unfold W2 slA
   rw[decide_eq_true (show(0:Int)<=(j:Int) by omega),decide_eq_true (show(j:Int)<(f.1.length:Int) by omega)]
   rfl
  cases hu:(rdL f.1 (j:Int) X2).1
  ·rw[cond_false]
   simp only[z3s,cond_false,hu,ab,p2,z3u,hw]
   have:=next (-1) 0 [] u (by rw[ai];exact hg) (hi.step [] (fun _=>rfl) (fun h=>by rw[hub,hu]at h;cases h))
   rw[ai]at this
   exact this
  ·obtain⟨n1,n2⟩:=hN (j:Int) (hub.trans hu)
   have n1':(rdL f.1 (j:Int) X2).2.1=false:=n1
   obtain⟨b,b1,b2⟩:=yiz n2
   obtain⟨k,k1⟩:∃k,v7 NN b=some k:=y4m (by omega)
   have b1':z1i NN (rdL f.1 (j:Int) X2).2.2.2=some b:=b1
   have hk:zl9 NN old (j:Int) (rdL f.1 (j:Int) X2).2.2.2=some false:=by
    simp only[zl9,hM]
    rw[X4 (decide_eq_true (by simp))]
   obtain⟨st',c,t1,t2⟩:=hg.taken hC hn (b:=b) (by omega)
   rw[cond_true,n1',cond_false]
   simp only[z3s,cond_false,hu,n1',aO,cond_true,b1',k1,hk,ab]
   have tm:=ydm sz C q u la ke lo ge se ca M K b X Y
   rw[t1]at tm
   simp only[ab]at tm
   rw[tm]
   simp only[ab]
   rcases t2 with⟨rfl,rfl⟩ | ⟨i,rfl,g1,g2,g3,g4,g5,g6,g7⟩
   ·rw[X4 (decide_eq_true (by omega))]
    exact .inl rfl
   ·obtain⟨⟨s1,s2,s3⟩,⟨s4,s5,s6⟩,s7⟩:=st'
    simp only[cY.injEq]at g2
    obtain⟨⟨rfl,rfl⟩,rfl⟩:=g2
    have e1:s1=sz:=g1.size
    have e2:s2=C:=g1.cells
    have e3:s3=q++[(false,((i:Int),b))]:=g3
    subst e1;subst e2;subst e3
    simp only[]
    rw[Y3 (decide_eq_false (by omega))]
    simp only[p2,ab,z3u,hw]
    exact next (i:Int) k [(false,((i:Int),b))] s4 g1 (hi.step _ (fun h=>by rw[hub,hu]at h;cases h) fun _=>⟨g7,b,b1,by simp,k1⟩)
end
theorem nodes_first{f:Z4}{old:Z6}(hM:old.2.2.2.2.2.1=[])(hl:f.1.length<50000)(hN:∀i,W2 f.1 i=true->(slA f.1 i).2.1=false/\NodeF (zas (slA f.1 i))){sz:Int}{C:List (List Int)}{nu:Nat}(hC:C.length<50000)(hn:nu<50000)(hg:SG sz C nu old)(hq:old.1.2.2=[]):
  zdv NN old f=some (old,([],false))\/∃st',zdv NN old f=some (st',([],true))/\SG sz C nu st'/\NI f.1 f.1.length st'.1.2.2 st'.2.2.2.2.2.1 st'.2.2.2.2.2.2.1/\st'.2.1.2=old.2.1.2/\st'.2.2.1=old.2.2.1/\st'.2.2.2.1=old.2.2.2.1/\st'.2.2.2.2.1=old.2.2.2.2.1/\st'.2.2.2.2.2.2.2=old.2.2.2.2.2.2.2:=by
 obtain⟨⟨s1,s2,s3⟩,⟨s4,s5,s6⟩,lo,ge,se,M,K,ca⟩:=old
 have hM:M=[]:=hM
 have hq:s3=[]:=hq
 have e1:s1=sz:=hg.size
 have e2:s2=C:=hg.cells
 subst e1;subst e2;subst hq
 have h:=yc3 (old:=((s1,(s2,[])),((s4,(s5,s6)),(lo,(ge,(se,(M,(K,ca)))))))) hM hl hN hC hn s5 s6 lo ge se ca M K f.1.length 0 NN [] s4 [] [] (by omega) (by have:=W9;omega) hg (NI.nil _)
 rw[show((0:Nat):Int)=0 from rfl]at h
 simp only[zdv]
 rcases h with h | ⟨q',u',M',K',h,h2,h3⟩
 ·rw[h]
  exact .inl rfl
 ·rw[h]
  exact .inr ⟨_,rfl,⟨h2.size,h2.cells,h2.q,h2.used,h2.low⟩,h3,rfl,rfl,rfl,rfl,rfl⟩
theorem save_l0{old:Z6}{ps:List (List Int)}(hp:ps.length<4000000000)(hb:∀b∈ps,b.length<1000000000000){sz:Int}{C:List (List Int)}{nu:Nat}(hC:C.length<50000)(hn:nu<50000)(b0 b1:List Int):
  ∀(d j:Nat) (n:Nat) (st:Z6) (ca:List Int),j+d=ps.length->d<n->SG sz C nu st->ca.length<=st.1.2.2.length->
  z7c NN n b0 b1 (j:Int) st old ps ca=some (.inl ((),((old,250),())))\/
  ∃st' ca',z7c NN n b0 b1 (j:Int) st old ps ca=some (.inr (((),((),((),(b0,(b1,()))))),(st',((),(old,(ca',()))))))/\SG sz C nu st'/\rest st'=rest st/\ca'.length<=st'.1.2.2.length/\∃more,st'.1.2.2=st.1.2.2++more
 | _,_,0,_,_,_,h,_,_=>absurd h (ag _)
 | 0,j,n+1,st,ca,hj,_,hg,hc=>by
  rw[zg2]
  simp only[z36]
  rw[Y3 (decide_eq_false (by omega))]
  exact .inr ⟨st,ca,rfl,hg,rfl,hc,[],by simp⟩
 | d+1,j,n+1,st,ca,hj,hd,hg,hc=>by
  have hin:inB (j:Int) ps.length=true:=V7 (by omega) (by omega)
  obtain⟨st',c,t1,t2⟩:=hg.taken hC hn (b:=rdL ps (j:Int) []) (hb _ (z62 (by omega) (by omega)))
  have hq:=hg.q.len
  rw[hg.used]at hq
  have w:aa .i64 ((j:Int)+1)=((j+1:Nat):Int):=by rw[w64 (by omega) (by omega)];rfl
  rw[zg2]
  simp only[z36,w]
  rw[X4 (decide_eq_true (by omega)),gd_t hin,t1]
  simp only[ab]
  rcases t2 with⟨rfl,rfl⟩ | ⟨i,rfl,g1,g2,g3,g4,g5,g6,g7⟩
  ·rw[X4 (decide_eq_true (by omega))]
   exact .inl rfl
  ·rw[Y3 (decide_eq_false (by omega)),gd_t (Y4 (by omega) (by omega))]
   rcases save_l0 hp hb hC hn b0 b1 d (j+1) n st' (ca++[(i:Int)]) (by omega) (by omega) g1 (by rw[g3,ae,ae,aL,aL];omega)with h | ⟨st2,ca2,h1,h2,h3,h4,more,h5⟩
   ·exact .inl h
   ·exact .inr ⟨st2,ca2,h1,h2,h3.trans g2,h4,[(false,((i:Int),rdL ps (j:Int) []))]++more,by rw[h5,g3,au]⟩
theorem zya{d:W8}(hc:d.2.1.length<100000)(hl:d.2.2.length<100000):z1c NN d=some d:=by
 simp only[z1c,aj]
 rw[gd_t (Y4 (by omega) (by omega)),gd_t (Y4 (by omega) (by omega))]
theorem ydg{d:W8}(hc:d.2.1.length<100000)(hl:d.2.2.length<90000):z8l NN d=some (d.1,(d.2.1,d.2.2++[(true,(0,[]))])):=by
 simp only[z8l,zya hc (show d.2.2.length<100000 by omega),ab]
 rw[gd_t (Y4 (by simp only[af,aq];omega) (by omega))]
theorem yj4{a:V1}(hl:a.1.length<100000)(h:a.2.1=[]):zby NN a=some (a.1,([],a.2.2)):=by
 obtain⟨n,hn⟩:∃n,NN=n+1:=⟨NN-1,by have:=W9;omega⟩
 have hz:z1l NN NN (0:Int) a a.1=some (((),((),())),(a,((),(a.1,())))):=by
  rw[show z1l NN NN=z1l NN (n+1)from congrArg _ hn,zmh]
  simp only[z49,h]
  rw[Y3 (by rfl)]
 simp only[zby,aj]
 rw[gd_t (Y4 (by omega) (by omega)),hz]
 rfl
def z7w(q:List Wt)(c:List (List Int)):List (List Int):=q.foldl (fun c w=>if w.1=true then c else setL c w.2.1 w.2.2) c
theorem y37:∀(q:List Wt) (c:List (List Int)),(z7w q c).length=c.length
 | [],_=>rfl
 | w::q,c=>by
  show(z7w q (if w.1=true then c else setL c w.2.1 w.2.2)).length=_
  rw[y37 q]
  split
  ·rfl
  ·exact G0 _ _ _
theorem y36{i:Int}(hi:0<=i):∀(q:List Wt) (c:List (List Int)),(∀w∈q,w.1=false->0<=w.2.1/\w.2.1≠i)->rdL (z7w q c) i []=rdL c i []
 | [],_,_=>rfl
 | w::q,c,h=>by
  show rdL (z7w q (if w.1=true then c else setL c w.2.1 w.2.2)) i []=_
  rw[y36 hi q _ fun x hx=>h x (aF _ hx)]
  split
  ·rfl
  ·rename_i hw
   obtain⟨h1,h2⟩:=h w (by simp) (by simpa using hw)
   exact z1d h1 hi (fun e=>h2 e.symm)
theorem y7o:∀(q:List Wt) (c:List (List Int)),(∀w∈q,w.1=false/\0<=w.2.1/\w.2.1<(c.length:Int))->(q.map fun w=>w.2.1).Nodup->∀w∈q,rdL (z7w q c) w.2.1 []=w.2.2
 | [],_,_,_,w,hw=>by cases hw
 | v::q,c,h,hn,w,hw=>by
  obtain⟨h1,h2,h3⟩:=h v (by simp)
  rw[ax,List.nodup_cons]at hn
  show rdL (z7w q (if v.1=true then c else setL c v.2.1 v.2.2)) w.2.1 []=_
  rw[h1,if_neg (by simp)]
  rcases am.1 hw with rfl | hw
  ·rw[y36 h2 q _ fun x hx _=>⟨(h x (aF _ hx)).2.1,fun e=>hn.1 (aH.2 ⟨x,hx,e⟩)⟩]
   exact z32 h2 h3
  ·exact y7o q _ (fun x hx=>by rw[G0];exact h x (aF _ hx)) hn.2 w hw
theorem mem_setL2{α:Type}{l:List α}{i:Int}{y x:α}(h:x∈setL l i y):x∈l\/x=y:=List.mem_or_eq_of_mem_set h
theorem applyW_mem:∀(q:List Wt) (c:List (List Int)) (x:List Int),x∈z7w q c->x∈c\/∃w∈q,w.1=false/\x=w.2.2
 | [],_,_,h=> .inl h
 | w::q,c,x,h=>by
  rcases applyW_mem q _ x h with h | ⟨v,hv,h1,h2⟩
  ·have h:x∈(if w.1=true then c else setL c w.2.1 w.2.2):=h
   split at h
   ·exact .inl h
   ·rename_i hw
    rcases mem_setL2 h with h | h
    ·exact .inl h
    ·exact .inr ⟨w,by simp,by simpa using hw,h⟩
  ·exact .inr ⟨v,aF _ hv,h1,h2⟩
theorem y8h{d:W8}{sz:Int}{q0:List Wt}:∀(post pre:List Wt) (n:Nat) (c:List (List Int)),d.2.2=pre++post->post.length<n->(pre++post).length<1000000->(∀w∈post,w.1=false->0<=w.2.1/\w.2.1<(c.length:Int))->
  za1 NN n (pre.length:Int) d sz c q0=some (((),()),((),((sz,((),())),(z7w post c,(q0,())))))
 | _,_,0,_,_,h,_,_=>absurd h (ag _)
 | [],pre,n+1,c,hk,_,_,_=>by
  rw[zg3]
  simp only[z37,hk,ai,aA,decide_false,cond_false]
  rfl
 | w::post,pre,n+1,c,hk,hn,hl,hw=>by
  simp only[af]at hn
  have hb:pre.length<9223372036854775807:=by simp at hl;omega
  have hlen:d.2.2.length=pre.length+(post.length+1):=by rw[hk];simp
  have hin:inB (pre.length:Int) d.2.2.length=true:=V7 (by omega) (by omega)
  have hrd:rdL d.2.2 (pre.length:Int) z1k=w:=by rw[hk];exact U0
  have hs:d.2.2=(pre++[w])++post:=by rw[hk];simp
  rw[zg3]
  simp only[z37,hrd,W7 (q:=w) hb]
  rw[X4 (decide_eq_true (by omega)),gd_t hin]
  cases h1:w.1
  ·obtain⟨h2,h3⟩:=hw w (by simp) h1
   rw[X4 (by rfl),gd_t hin,gd_t hin,gd_t (V7 h2 h3),y8h post (pre++[w]) n (setL c w.2.1 w.2.2) hs (by omega) (by simpa using hl) fun x hx hx1=>by rw[G0];exact hw x (aF _ hx) hx1]
   simp only[z7w,aU,h1]
   rfl
  ·rw[Y3 (by rfl),y8h post (pre++[w]) n c hs (by omega) (by simpa using hl) fun x hx hx1=>hw x (aF _ hx) hx1]
   simp only[z7w,aU,h1]
   rfl
theorem yot{d:W8}(hc:d.2.1.length<100000)(hl:d.2.2.length<100000)(hw:∀w∈d.2.2,w.1=false->0<=w.2.1/\w.2.1<(d.2.1.length:Int)):zcy NN d=some (d.1,(z7w d.2.2 d.2.1,[])):=by
 have h:=y8h (d:=d) (sz:=d.1) (q0:=d.2.2) d.2.2 [] NN d.2.1 rfl (by have:=W9;omega) (by simp;omega) hw
 rw[show(([]:List Wt).length:Int)=0 from rfl]at h
 simp only[zcy,zya hc hl,ab,h]
structure StOk (f:Z4) (st:Z6):Prop where
 sz:1<=st.1.1/\st.1.1<=1500
 nc:st.1.2.1.length<=60
 cl:∀c∈st.1.2.1,(c.length:Int)<=st.1.1
 qu:st.1.2.2=[]
 ml:st.2.2.2.2.2.1.length=f.1.length
 kl:st.2.2.2.2.2.2.1.length=f.1.length
 un:∀j:Nat,j<f.1.length->W2 f.1 (j:Int)=false->rdL st.2.2.2.2.2.1 (j:Int) 0= -1
 us:∀j:Nat,j<f.1.length->W2 f.1 (j:Int)=true->∃b,z1i NN (zas (slA f.1 (j:Int)))=some b/\2<=rdL st.2.2.2.2.2.1 (j:Int) 0/\rdL st.2.2.2.2.2.1 (j:Int) 0<(st.1.2.1.length:Int)/\
  rdL st.1.2.1 (rdL st.2.2.2.2.2.1 (j:Int) 0) []=b/\v7 NN b=some (rdL st.2.2.2.2.2.2.1 (j:Int) 0)
 ne:∀j k:Nat,j<f.1.length->k<f.1.length->W2 f.1 (j:Int)=true->W2 f.1 (k:Int)=true->rdL st.2.2.2.2.2.1 (j:Int) 0=rdL st.2.2.2.2.2.1 (k:Int) 0->j=k
structure FC (f:Z4):Prop where
 pl:f.1.length<50000
 nd:∀i,W2 f.1 i=true->(slA f.1 i).2.1=false/\NodeF (zas (slA f.1 i))
 el:f.2.2.1.length<=16
 es:∀e∈f.2.2.1,(∀m∈e.2.2.2.2,GM 904 m)/\(e.2.2.2.2.length<1000/\e.2.2.2.1.length<=12)
 ms:(∀m∈f.2.2.2.2.2.2,GM 904 m)/\f.2.2.2.2.2.2.length<1000
theorem yah(ca:List Int)(st:Z6):z56 NN NN ca 0 st []=some (((),((),ca)),(st,((),()))):=by
 obtain⟨n,hn⟩:∃n,NN=n+1:=⟨NN-1,by have:=W9;omega⟩
 rw[show z56 NN NN=z56 NN (n+1)from congrArg _ hn,zri]
 simp only[z67]
 rw[Y3 (by rfl)]
theorem yow{f:Z4}(hF:FC f){sz:Int}(hs:1<=sz/\sz<=1500){nc:Nat}(hnc:nc<=60){u:List Bool}{lo:Int}
  (hg:SG sz (ar nc []) nc ((sz,(ar nc [],[])),((u,([],0)),(lo,(0,(0,([],([],[])))))))):
  ∃r,zhc NN ((sz,(ar nc [],[])),((u,([],0)),(lo,(0,(0,([],([],[]))))))) f=some r/\
   (r.2≠0\/r.2=0/\∃d,zcy NN r.1.1=some d/\StOk f (d,r.1.2)):=by
 have hC:(ar nc ([]:List Int)).length<50000:=by rw[bE];omega
 rcases nodes_first (f:=f) (old:=((sz,(ar nc [],[])),((u,([],0)),(lo,(0,(0,([],([],[])))))))) rfl hF.pl hF.nd hC (show nc<50000 by omega) hg rfl with h | ⟨st',h,n1,n2,n3,n4,n5,n6,n7⟩
 ·refine⟨_,by simp only[zhc,h,ab];rfl, .inl (show(250:Int)≠0 by decide)⟩
 ·obtain⟨ct,c1,c2⟩:=yf1 (f:=f) (st:=st') (by have:=hF.pl;omega) (by rw[n2.ml];exact al _) (by rw[n2.cl];exact al _) hF.el hF.es hF.ms
  obtain⟨ps,p1,p2,p3⟩:=ylf (b:=ct) (by omega) (size:=sz) hs.1
  have hsz:st'.1.1=sz:=n1.size
  have hz:((0:Nat):Int)=0:=rfl
  have hl:=save_l0 (old:=((sz,(ar nc [],[])),((u,([],0)),(lo,(0,(0,([],([],[])))))))) (ps:=ps) (by omega) (fun b hb=>by have:=p3 b hb;omega) hC (show nc<50000 by omega) [] ct ps.length 0 NN st' [] (by omega) (by have:=W9;omega) n1 (bm _)
  rw[hz]at hl
  simp only[zhc,h,ab]
  rw[Y3 (by rfl),c1]
  simp only[ab,hsz,p1]
  rcases hl with hl | ⟨st2,ca,l1,l2,l3,l4,more,l5⟩
  ·rw[hl]
   exact⟨_,rfl, .inl (show(250:Int)≠0 by decide)⟩
  ·rw[l1]
   obtain⟨⟨s1,s2,s3⟩,⟨s4,s5,s6⟩,s7⟩:=st2
   have e1:s1=sz:=l2.size
   have e2:s2=ar nc []:=l2.cells
   subst e1;subst e2
   have hq:=l2.q.len
   have hu2:=l2.used
   have hq:s3.length<=s4.length:=hq
   have hu2:s4.length=nc:=hu2
   have hca:ca.length<=s3.length:=l4
   obtain⟨sup,u1,u2⟩:=ylc 1 (cat:=ct) (cells:=ca) (by omega) (by omega)
   have w1:aa .i64 ((0:Int)+1)=1:=by decide
   have m1:aJ (1:Int) 2=1:=by decide
   have f1:z8l NN (s1,(ar nc [],s3))=some (s1,(ar nc [],s3++[(true,(0,[]))])):=ydg (by show(ar nc ([]:List Int)).length<_;omega) (by show s3.length<_;omega)
   obtain⟨d',e,d1,d2⟩:=yh5 (d:=(s1,(ar nc [],s3++[(true,(0,[]))]))) (by show(ar nc ([]:List Int)).length<_;omega) (by show(s3++[(true,(0,[]))]).length<_;rw[ae,aL];omega) 1 (b:=sup) (by omega)
   simp only[w1,m1,f1,u1,ab,d1]
   rcases d2 with⟨d2,_⟩ | ⟨rfl,d2,d3,d4,rfl⟩
   ·exact⟨_,by rw[X4 (by rw[J3 d2];rfl)], .inl (show(250:Int)≠0 by decide)⟩
   ·have d3:(1:Int)<((ar nc ([]:List Int)).length:Int):=d3
    have d4:(sup.length:Int)<=s1:=d4
    rw[Y3 (by rfl)]
    have f2:z8l NN (s1,(ar nc [],s3++[(true,(0,[]))]++[(false,(1,sup))]))=some (s1,(ar nc [],s3++[(true,(0,[]))]++[(false,(1,sup))]++[(true,(0,[]))])):=ydg (by show(ar nc ([]:List Int)).length<_;omega) (by show(s3++[(true,(0,[]))]++[(false,(1,sup))]).length<_;simp only[ae,aL];omega)
    have hr5:(s5,s6)=(([]:List Int),(0:Int)):=(congrArg (fun x=>x.1) l3).trans n3
    have hr7:s7=st'.2.2:=congrArg (fun x=>x.2) l3
    simp only[cY.injEq]at hr5
    obtain⟨rfl,rfl⟩:=hr5
    have hcm:zby NN (s4,(([]:List Int),(0:Int)))=some (s4,([],0)):=yj4 (by show s4.length<_;omega) rfl
    simp only[f2,ab,aj,ai,aq,yah,hcm]
    rw[gd_t (by decide),gd_t (by decide)]
    refine⟨_,rfl, .inr ⟨rfl, ?_⟩⟩
    have hQ:QOk s1 (ar nc ([]:List Int)).length s4 s3:=l2.q
    rw[bE]at hQ d3
    have hfl:∀w∈s3++[(true,((0:Int),([]:List Int)))]++[(false,((1:Int),sup))]++[(true,((0:Int),([]:List Int)))],w.1=false->0<=w.2.1/\w.2.1<((ar nc ([]:List Int)).length:Int):=by
     intro w hw h1
     rw[bE]
     simp only[ak,aE]at hw
     rcases hw with((hw | rfl) | rfl) | rfl
     ·obtain⟨_,a2,a3,_⟩:=hQ.all w hw
      exact⟨by omega,a3⟩
     ·cases h1
     ·exact⟨show(0:Int)<=1 by decide,d3⟩
     ·cases h1
    have hsy:=yot (d:=(s1,(ar nc [],s3++[(true,((0:Int),([]:List Int)))]++[(false,((1:Int),sup))]++[(true,((0:Int),([]:List Int)))]))) (by show(ar nc ([]:List Int)).length<_;omega) (by show(s3++[(true,((0:Int),([]:List Int)))]++[(false,((1:Int),sup))]++[(true,((0:Int),([]:List Int)))]).length<_;simp only[ae,aL];omega) hfl
    refine⟨_,hsy, ?_⟩
    have hap:z7w (s3++[(true,((0:Int),([]:List Int)))]++[(false,((1:Int),sup))]++[(true,((0:Int),([]:List Int)))]) (ar nc [])=setL (z7w s3 (ar nc [])) 1 sup:=by
     simp[z7w,List.foldl_append]
    have hal:(z7w s3 (ar nc ([]:List Int))).length=nc:=by rw[y37,bE]
    have h5:s3=st'.1.2.2++more:=l5
    have hMap:s7.2.2.2.1=st'.2.2.2.2.2.1:=by rw[hr7]
    have hChk:s7.2.2.2.2.1=st'.2.2.2.2.2.2.1:=by rw[hr7]
    refine⟨hs, ?_, ?_,rfl, ?_, ?_, ?_, ?_, ?_⟩
    ·show(z7w _ _).length<=60
     rw[hap,G0,hal];exact hnc
    ·show ∀c∈z7w _ _,(c.length:Int)<=s1
     intro c hc
     rw[hap]at hc
     rcases mem_setL2 hc with hc | rfl
     ·rcases applyW_mem _ _ _ hc with hc | ⟨w,hw,_,rfl⟩
      ·rw[(List.mem_replicate.1 hc).2]
       show((0:Nat):Int)<=s1
       omega
      ·exact(hQ.all w hw).2.2.2.2.2
     ·exact d4
    ·show s7.2.2.2.1.length=_
     rw[hMap];exact n2.ml
    ·show s7.2.2.2.2.1.length=_
     rw[hChk];exact n2.cl
    ·intro j hj hu'
     show rdL s7.2.2.2.1 (j:Int) 0= -1
     rw[hMap];exact n2.un j hj hu'
    ·intro j hj hu'
     obtain⟨b,b1,b2,b3⟩:=n2.us j hj hu'
     have hin:(false,(rdL st'.2.2.2.2.2.1 (j:Int) 0,b))∈s3:=by rw[h5];exact bp _ b2
     obtain⟨_,a2,a3,_⟩:=hQ.all _ hin
     refine⟨b,b1, ?_, ?_, ?_, ?_⟩
     ·show 2<=rdL s7.2.2.2.1 (j:Int) 0
      rw[hMap];exact a2
     ·show rdL s7.2.2.2.1 (j:Int) 0<((z7w _ _).length:Int)
      rw[hMap,hap,G0,hal];exact a3
     ·show rdL (z7w _ _) (rdL s7.2.2.2.1 (j:Int) 0) []=b
      rw[hMap,hap]
      have a2':2<=rdL st'.2.2.2.2.2.1 (j:Int) 0:=a2
      rw[z1d (by decide) (by omega) (by omega)]
      exact y7o s3 (ar nc []) (fun w hw=>by
       obtain⟨c1,c2,c3,_⟩:=hQ.all w hw
       exact⟨c1,by omega,by rw[bE];exact c3⟩) hQ.nd _ hin
     ·show v7 NN b=some (rdL s7.2.2.2.2.1 (j:Int) 0)
      rw[hChk];exact b3
    ·intro j k hj hk hju hku he
     have he:rdL s7.2.2.2.1 (j:Int) 0=rdL s7.2.2.2.1 (k:Int) 0:=he
     rw[hMap]at he
     exact n2.ne j k hj hk hju hku he
theorem y3h{size n:Int}(hs:1<=size/\size<=65536)(hn:1<=n/\n<=4096):zbi NN size n=some ((size,(ar n.toNat [],[])),0):=by
 simp only[zbi,z97,z98]
 rw[Y3 (decide_eq_false (by omega)),Y3 (decide_eq_false (by omega)),Y3 (decide_eq_false (by omega)),Y3 (decide_eq_false (by omega))]
 simp only[ab]
 rw[gd_t (by
  rw[decide_eq_true (show(0:Int)<=n by omega),decide_eq_true (show n<=n by omega),decide_eq_true (show n<maxB by unfold maxB;omega),decide_eq_true (show n*24<maxB by unfold maxB;omega)]
  rfl)]
 rfl
theorem yp1{w:zm4}(h1:0<=w.1/\w.1<256)(h2:0<=w.2.1/\w.2.1<256):∃(size:Int) (n:Nat),zlb NN w=some (size,(ar n [],[]))/\1<=size/\size<=1500/\1<=n/\n<=60:=by
 obtain⟨k,hk⟩:∃k:Nat,w.2.1=(k:Int):=⟨w.2.1.toNat,by omega⟩
 have a1:aa .i64 w.2.1=(k:Int):=by rw[w64 (by omega) (by omega)];exact hk
 have a2:aa .i64 ((30:Int)+(k:Int))=((30+k:Nat):Int):=by rw[w64 (by omega) (by omega)];omega
 have a3:aJ (k:Int) 24=((k%24:Nat):Int):=by rw[bg (by omega)];rfl
 have a4:aa .i64 ((4:Int)+((k%24:Nat):Int))=((4+k%24:Nat):Int):=by rw[w64 (by omega) (by omega)];omega
 have b1:=y3h (size:=((30+k:Nat):Int)) (n:=60) (by omega) (by omega)
 have b2:=y3h (size:=((30+k:Nat):Int)) (n:=((4+k%24:Nat):Int)) (by omega) (by omega)
 have b3:=y3h (size:=1500) (n:=((4+k%24:Nat):Int)) (by omega) (by omega)
 have b4:=y3h (size:=1500) (n:=60) (by omega) (by omega)
 simp only[zlb,a1,a2,a3,a4]
 cases eqi (aJ w.1 8) 7<;>cases eqi (aJ w.1 8) 6
 ·rw[cond_false,cond_false,b4]
  exact⟨1500,60,rfl,by omega,by omega,by omega,by omega⟩
 ·rw[cond_false,cond_true,b3]
  exact⟨1500,4+k%24,rfl,by omega,by omega,by omega,by omega⟩
 ·rw[cond_true,cond_false,b1]
  exact⟨((30+k:Nat):Int),60,rfl,by omega,by omega,by omega,by omega⟩
 ·rw[cond_true,cond_true,b2]
  exact⟨((30+k:Nat):Int),4+k%24,rfl,by omega,by omega,by omega,by omega⟩
theorem yh1{n first:Nat}(hn:n<100000):∀(d j:Nat) (m:Nat) (u:List Bool),j+d=n->d<m->u.length=j->(∀i:Nat,i<j->rdL u (i:Int) false=decide (i<first))->
  ∃u',zbx NN m (n:Int) (first:Int) (j:Int) 0 u []=some (((),()),((),(((),((),(0:Int))),(u',([],())))))/\u'.length=n/\∀i:Nat,i<n->rdL u' (i:Int) false=decide (i<first)
 | _,_,0,_,_,h,_,_=>absurd h (ag _)
 | 0,j,m+1,u,hj,_,hu,hx=>by
  rw[zi1]
  simp only[z4l]
  rw[Y3 (decide_eq_false (by omega))]
  exact⟨u,rfl,by omega,fun i hi=>hx i (by omega)⟩
 | d+1,j,m+1,u,hj,hm,hu,hx=>by
  rw[zi1]
  simp only[z4l,zcf (show j<1000000000 by omega)]
  rw[X4 (decide_eq_true (by omega)),gd_t (Y4 (by omega) (by omega))]
  refine yh1 hn d (j+1) m _ (by omega) (by omega) (by rw[ae,aL];omega) fun i hi=> ?_
  rcases cv.1 hi with hi | rfl
  ·rw[<-hx i hi]
   simp[rdL,show i<u.length by omega,aW]
  ·have:rdL (u++[decide ((i:Int)<(first:Int))]) (i:Int) false=decide ((i:Int)<(first:Int)):=by
    rw[<-hu];simp[rdL]
   rw[this]
   by_cases h:i<first
   ·rw[decide_eq_true h,decide_eq_true (by omega)]
   ·rw[decide_eq_false h,decide_eq_false (by omega)]
theorem yp2{n first:Nat}(hn:1<=n/\n<=4096)(hf:first<=n):∃u,zow NN (n:Int) (first:Int)=some ((u,([],0)),0)/\u.length=n/\∀i:Nat,i<n->rdL u (i:Int) false=decide (i<first):=by
 obtain⟨u,u1,u2,u3⟩:=yh1 (n:=n) (first:=first) (by omega) n 0 NN [] (by omega) (by have:=W9;omega) rfl (fun i h=>absurd h (ag _))
 rw[show((0:Nat):Int)=0 from rfl]at u1
 refine⟨u, ?_,u2,u3⟩
 simp only[zow,z95,z96,u1]
 rw[Y3 (decide_eq_false (by omega)),Y3 (decide_eq_false (by omega)),Y3 (decide_eq_false (by omega)),Y3 (decide_eq_false (by omega))]
 simp only[ab,u1]
theorem yre{leaf fan bl:Nat}{f:Z4}(h:FS 7 leaf fan bl f):FC f:=by
 refine⟨by have:=h.pi.len;omega,yke h,h.ne,fun e he=> ?_, ?_⟩
 ·obtain⟨h1,h2,h3⟩:=h.es e he
  exact⟨fun m hm=>(h1 m hm).mono (by omega),by have:(epM e).length<=6*2^7:=h2;show(epM e).length<1000;omega,h3⟩
 ·obtain⟨h1,h2⟩:=h.ms
  exact⟨fun m hm=>(h1 m hm).mono (by omega),by have:f.2.2.2.2.2.2.length<=6*2^7:=h2;omega⟩
theorem yj1{x:zbd}(hx:okT zbe x):∃m leaf fan bl,zla NN x=some m/\FS 7 leaf fan bl m.2.1/\(m.2.2≠0\/m.2.2=0/\StOk m.2.1 m.1):=by
 have hx:(Lit.int .u8 x.1).wf=true/\okT (.list v8) x.2.1/\(Lit.int .u8 x.2.2.1).wf=true/\(Lit.int .u8 x.2.2.2.1).wf=true/\(Lit.int .u8 x.2.2.2.2).wf=true:=hx
 obtain⟨h1,h2,h3,h4,h5⟩:=hx
 have h1:=z6a h1
 have h3:=z6a h3
 have h4:=z6a h4
 have h5:=z6a h5
 obtain⟨f,leaf,fan,bl,f1,f2,_⟩:=yj2 (n:=x.1) (by omega) h2
 obtain⟨sz,nc,d1,d2,d3,d4,d5⟩:=yp1 (w:=x.2.2) (by omega) (by omega)
 obtain⟨k,hk⟩:∃k:Nat,x.2.2.2.2=(k:Int):=⟨x.2.2.2.2.toNat,by omega⟩
 have e1:aa .i64 (aJ x.2.2.2.2 4)=((k%4:Nat):Int):=by
  rw[hk,bg (by omega)]
  exact wnat (k%4) (by omega)
 have hlen:((ar nc ([]:List Int)).length:Int)=(nc:Int):=by rw[bE]
 have e2:aa .i64 ((nc:Int)-2)=(nc:Int)-2:=w64 (by omega) (by omega)
 have e3:aa .i64 ((2:Int)+((k%4:Nat):Int))=((2+k%4:Nat):Int):=wnat (2+k%4) (by omega)
 simp only[zla,f1,d1,ab,e1,zov,hlen,e2,e3]
 rw[Y3 (decide_eq_false (by omega))]
 by_cases hc:(nc:Int)-2<=((k%4:Nat):Int)
 ·rw[X4 (decide_eq_true hc)]
  simp only[ab]
  exact⟨_,leaf,fan,bl,by rw[X4 (by decide)],f2, .inl (show(1:Int)≠0 by decide)⟩
 ·rw[Y3 (decide_eq_false hc)]
  obtain⟨u,u1,u2,u3⟩:=yp2 (n:=nc) (first:=2+k%4) (by omega) (by omega)
  have g0:=u3 0 (by omega)
  have g1:=u3 1 (by omega)
  rw[decide_eq_true (by omega)]at g0 g1
  have hg:SG sz (ar nc []) nc ((sz,(ar nc [],[])),((u,([],0)),(((k%4:Nat):Int),(0,(0,([],([],[]))))))):=⟨rfl,rfl,QOk.nil _ _ _,u2,g0,g1⟩
  obtain⟨r,s1,s2⟩:=yow (yre f2) ⟨d2,d3⟩ d5 hg
  rw[u1]
  simp only[ab,s1]
  rcases s2 with s2 | ⟨s2,d,s3,s4⟩
  ·have e4:(!(eqi r.2 0))=true:=by rw[J3 s2];rfl
   rw[X4 e4]
   simp only[ab]
   exact⟨_,leaf,fan,bl,by rw[X4 e4],f2, .inl s2⟩
  ·have e4:(!(eqi r.2 0))=false:=by rw[s2];rfl
   rw[Y3 e4]
   simp only[ab]
   exact⟨_,leaf,fan,bl,by rw[Y3 e4,s3];rfl,f2, .inr ⟨rfl,s4⟩⟩
end Ds
