/- Places of keys: total. -/
import Derived.Test.YtljffhpbdmkplaaGreatDsB
set_option linter.all false
open Bool renaming not_false->aN,not_true->aG
open Int renaming fdiv->cT,lt_irrefl->bj,tdiv->cP,tmod->aB,tmod_eq_emod_of_nonneg->bM,toNat->cc
open Go.IntKind renaming bits->aM,wrap->aa
open List renaming Pairwise->aX,Perm->cN,append_nil->aj,flatten_cons->cJ,length_append->aq,length_cons->ag,length_nil->aJ,length_replicate->cn,map_cons->aC,map_nil->cm,mem_append->am,mem_cons->ar,mem_cons_of_mem->ay,mem_map->aH,mem_singleton->bq,nil_append->ah,replicate->az
open Nat renaming le_add_right->bO,le_refl->ai,le_trans->aP,lt_or_ge->eh,not_lt_zero->ae,pow_le_pow_right->dT,zero_add->bk,zero_le->aZ
open Option renaming bind_some->ac
open Prod renaming mk->cR
namespace Ds
open Go Go.Dv
set_option maxRecDepth 100000
variable [Fuel]
theorem yoc{α:Type}(l:List α)(i:Nat):(cut2 l (i:Int) ((i:Int)+1)).length<=1:=by grind[cut2]
theorem yng:∀(post pre cur:B) (out:List B) (n:Nat),post.length<n->(pre++post).length<1000000->cur.length<=pre.length->out.length<=pre.length->
  ∃c o,zfe NN n (pre++post) cur (pre.length:Int) out=some (((),c),(o,()))/\o.length<=(pre++post).length
 | _,_,_,_,0,h,_,_,_=>absurd h (ae _)
 | [],pre,cur,out,n+1,_,_,_,ho=>by refine⟨cur,out, ?_,by grind⟩;simp[z4f,zk9]
 | x::post,pre,cur,out,n+1,hn,hl,hc,ho=>by
  simp only[ag]at hn;have hpl:pre.length<1000000:=by grind
  have hb:pre.length<9223372036854775807:=by omega
  have ih:=fun cur out=>yng post (pre++[x]) cur out n (by omega) (by grind);rw[<-Q3 (pre:=pre) (q:=x) (post:=post)]at ih;have hc1:=yoc (pre++x::post) pre.length;rw[zk9];simp only[z4f,Q7,cond_true];rw[gd_t U0];cases eqi (bt (pre++x::post) (pre.length:Int)) 47
  ·rw[cond_false,U1 (q:=x) hb,gd_t (by simp;omega),gd_p (by simp[maxS];omega)];refine ih _ out ?_ (by grind);simp;omega
  ·rw[cond_true,gd_t (Y9 (by omega) (by omega)),U1 (q:=x) hb];simp_all
theorem yy0{k:B}(h:k.length<1000000):∃l b,zpb NN k=some (l,b)/\l.length<=k.length:=by obtain⟨c,o,h1,h2⟩:=yng k [] [] [] NN (by grind[W3]) (by grind) (ai _) (ai _);have hz:(([]:B).length:Int)=0:=rfl;simp_all[zpb]
theorem ysm:∀(post pre:B) (n:Nat),post.length<n->(pre++post).length<1000000->∃r,zhm NN n (pre++post) (pre.length:Int)=some r
 | _,_,0,h,_=>absurd h (ae _)
 | [],pre,n+1,_,_=>by rw[zlz];simp only[z5t,aj,bj,decide_false,cond_false];simp
 | x::post,pre,n+1,hn,hl=>by
  simp only[ag]at hn;have hb:pre.length<9223372036854775807:=by grind
  obtain⟨r,ih⟩:=ysm post (pre++[x]) n (by omega) (by grind);rw[<-Q3 (pre:=pre) (q:=x) (post:=post)]at ih;rw[zlz];simp only[z5t,Q7,cond_true,U1 (q:=x) hb,ih];rw[gd_t U0,gd_t U0,gd_t U0]
  grind
theorem ykd(k:B):∃b,zbg NN k=some b:=by
 simp only[zbg];by_cases h:(12:Int)<(k.length:Int)
 ·simp_all
 ·obtain⟨r,hr⟩:=ysm k [] NN (by grind[W3]) (by grind);have hz:(([]:B).length:Int)=0:=rfl;rw[hz,ah]at hr;rw[hr];cases decide ((k.length:Int)<1)<;>cases decide ((12:Int)<(k.length:Int))<;>cases eqs k [46]<;>cases eqs k [46,46]<;>cases r<;>exact⟨_,rfl⟩
theorem ym5(b:Bool):∀(post pre:List B) (n:Nat),post.length<n->(pre++post).length<1000000->∃r,zfc NN n b (pre.length:Int) (pre++post)=some r
 | _,_,0,h,_=>absurd h (ae _)
 | [],pre,n+1,_,_=>by rw[zk7];simp only[z4d,aj,bj,decide_false,cond_false];simp
 | x::post,pre,n+1,hn,hl=>by
  simp only[ag]at hn;have hb:pre.length<9223372036854775807:=by grind
  obtain⟨r,ih⟩:=ym5 b post (pre++[x]) n (by omega) (by grind);rw[<-Q3 (pre:=pre) (q:=x) (post:=post)]at ih;obtain⟨c,hc⟩:=ykd x;rw[zk7];simp only[z4d,Q7,cond_true,V5,hc,U1 (q:=x) hb,ih];rw[gd_t U0]
  grind
theorem y7p{k:B}(h:k.length<1000000):∃b,zb2 NN k=some b:=by obtain⟨l,b,h1,h2⟩:=yy0 h;obtain⟨r,hr⟩:=ym5 b l [] NN (by grind[W3]) (by grind);have hz:(([]:List B).length:Int)=0:=rfl;rw[hz,ah]at hr;simp only[zb2,h1,hr];split<;>grind
theorem yt7:∀(d j:Nat) (a:Int) (b:B) (n:Nat),j+d=8->d<n->0<=a->a<4294967296->b.length<=j->∃r,zho NN n a b (j:Int)=some (r,())/\r.length<=8
 | _,_,_,_,0,_,h,_,_,_=>absurd h (ae _)
 | 0,j,a,b,n+1,hj,_,_,_,hb=>by
  rw[zm0];simp only[z5u]
  grind
 | d+1,j,a,b,n+1,hj,hn,h0,h1,hb=>by
  have t1:aB a 16=a%16:=bM h0;have t2:cP a 16=a/16:=Int.tdiv_eq_ediv_of_nonneg h0;obtain⟨m,hm⟩:∃m:Nat,a%16=(m:Int):=⟨(a%16).toNat,by omega⟩;have hm2:m<16:=by omega
  have w1:aa .i64 ((m:Int)+1)=(m:Int)+1:=w64 (by omega) (by omega);have w2:aa .i64 (a/16)=a/16:=w64 (by omega) (by omega);have w3:aa .i64 ((j:Int)+1)=((j+1:Nat):Int):=by grind[w64]
  have hc:=yoc ([48,49,50,51,52,53,54,55,56,57,97,98,99,100,101,102]:B) m;obtain⟨r,r1,r2⟩:=yt7 d (j+1) (a/16) (cut2 ([48,49,50,51,52,53,54,55,56,57,97,98,99,100,101,102]:B) (m:Int) ((m:Int)+1)++b) n (by omega) (by omega) (by omega) (by omega) (by grind);refine⟨r, ?_,r2⟩;rw[zm0];simp only[z5u,t1,t2,hm,w1,w2,w3];rw[W8 (by grind),gd_t (by simp;omega),gd_p (by constructor<;>grind)];omega
theorem ywp(a:Int):∃b,zt0 NN a=some b:=by
 simp only[zt0];by_cases h0:a<0
 ·simp_all
 ·rw[X5 (by grind)];by_cases h1:2147483647<a
  ·simp_all
  ·rw[X5 (by grind)];obtain⟨r,r1,r2⟩:=yt7 8 0 a [] NN rfl (by grind[W3]) (by omega) (by omega) (ai _);rw[show((0:Nat):Int)=0 from rfl]at r1;rw[r1];simp only;rw[gd_p (by constructor<;>grind),gd_p (by constructor<;>grind)];simp
theorem yi9{k:B}(hk:k.length=10):∀(d j:Nat) (a:Int) (n:Nat),j+d=9->d<n->∃a',zdh NN n k a (j:Int)=some ((k,a'),())
 | _,_,_,0,_,h=>absurd h (ae _)
 | 0,j,a,n+1,hj,_=>by rw[zhn];simp only[z39];simp_all
 | d+1,j,a,n+1,hj,hn=>by
  have w3:aa .i64 ((j:Int)+1)=((j+1:Nat):Int):=by grind[w64]
  have ih:=fun a=>yi9 hk d (j+1) a n (by omega) (by omega);rw[zhn];simp only[z39,w3];rw[W8 (by grind),gd_t (V7 (by omega) (by omega))];cases decide ((48:Int)<=aa .i64 (bt k (j:Int)))
  ·simp_all
  ·cases decide (aa .i64 (bt k (j:Int))<=57)
   all_goals simp_all
theorem y8a(k:B):∃b,zc0 NN k=some b:=by
 simp only[zc0];by_cases h:k.length=10
 ·rw[X5 (by simp_all)];obtain⟨a,ha⟩:=yi9 h 8 1 0 NN rfl (by grind[W3]);rw[show((1:Nat):Int)=1 from rfl]at ha;obtain⟨b,hb⟩:=ywp a;simp_all
 ·rw[W8 (by grind[G6])];simp
theorem ywk{x:z0e}(h:x.1.length<1000000):∃b,zp9 NN x=some b:=by
 obtain⟨v,hv⟩:=y7p h;obtain⟨w,hw⟩:=y8a x.1;obtain⟨nm,hnm⟩:=ykd x.2.2.2;have p0:∃b,G1 NN x=some (b,()):=by simp only[G1,hv,hnm];cases eqi x.2.1 1<;>cases eqi x.2.1 2<;>cases decide (0<=x.2.2.1)<;>cases eqi x.2.1 3<;>cases eqi x.2.1 4<;>exact⟨_,rfl⟩
 obtain⟨b,hb⟩:=p0;simp only[zp9,hv,hw,w6]
 grind
theorem x0s{x:z0e}(h:x.1.length<1000000)(h2:x.2.2.2.length<1000000):∃r,zx1 NN x=some r:=by
 obtain⟨b,hb⟩:=ywk h;have by2:∀a c:Int,(z2j ([a,c]:List Int)).length=2:=fun _ _=>rfl;simp only[zx1,hb];cases b
 ·simp
 ·simp only[aG,cond_false];cases eqi x.2.1 1
  ·cases eqi x.2.1 2
   ·cases eqi x.2.1 3
    ·simp only[cond_false];rw[gd_p (by constructor<;>grind),gd_p (by constructor<;>grind)];simp
    ·simp only[cond_false,cond_true];rw[gd_p (by constructor<;>grind),gd_p (by constructor<;>grind)];simp
   ·simp only[cond_false,cond_true];rw[gd_p (by constructor<;>grind),gd_p (by constructor<;>grind)];simp
  ·simp only[cond_true];rw[gd_p (by constructor<;>grind)];simp
theorem ylv{k y:B}{i:Nat}{z:z0e}(hi:i<k.length)(h1:z.1.length<=k.length)(hy:y.length<=k.length)(hz:z.2.2.2.length<=k.length):∃r,z6i NN k (i:Int) y z=some ((),(r,()))/\r.1.length<=k.length/\r.2.2.2.length<=k.length:=by
 have hc:(cut2 k (1:Int) (i:Int)).length<=k.length:=by grind[cut2]
 simp only[z6i];have g1:∀{α:Type} (f:Option α),0<i->gd (decide (0<=(1:Int))&&(decide ((1:Int)<=(i:Int))&&decide ((i:Int)<=(List.length k:Int)))) f=f:=fun f h=>gd_t (by grind) f;have g2:∀{α:Type} (f:Option α),gd (inB (0:Int) k.length) f=f:=fun f=>gd_t (V7 (by omega) (by omega)) f
 grind
theorem yx8{k:B}{i:Nat}(hi:i<k.length)(hk:k.length<1000000):∃r,zpa NN k (i:Int)=some r/\r.1.length<=k.length/\r.2.2.2.length<=k.length:=by
 have w:aa .i64 ((i:Int)+1)=((i+1:Nat):Int):=by grind[w64]
 have c1:(cut2 k (0:Int) (i:Int)).length<=k.length:=by grind[y7a]
 have c2:(cut2 k ((i+1:Nat):Int) (k.length:Int)).length<=k.length:=by rw[y4s];simp
 have main:∀(a b:Int),∃r,(match z6i NN k (i:Int) (cut2 k ((i+1:Nat):Int) (k.length:Int)) ((cut2 k (0:Int) (i:Int)),(a,(b,([]:List UInt8))))with
   | some r5=>(some r5.2.1)
   | none=>none)=some r/\r.1.length<=k.length/\r.2.2.2.length<=k.length:=fun a b=>by
  obtain⟨r,r1,r2⟩:=ylv (y:=cut2 k ((i+1:Nat):Int) (k.length:Int)) (z:=((cut2 k (0:Int) (i:Int)),(a,(b,([]:List UInt8))))) hi c1 c2 (aZ _)
  grind
 simp only[zpa,w];rw[gd_t (by grind),gd_t (V7 (by omega) (by omega)),gd_t (by grind)];cases eqi (aa .i64 (bt k (i:Int))) 2
 ·exact main _ _
 ·simp only[cond_true];by_cases h2:(cut2 k ((i+1:Nat):Int) (k.length:Int)).length=2
  ·rw[W8 (by simp_all),gd_t (by rw[h2];rfl),gd_t (by rw[h2];rfl)];exact main _ _
  ·rw[X5 (G6 (by omega))];exact main _ _
theorem yn4{k:B}(hk:k.length<1000000):∀(post pre:B) (n:Nat),k=pre++post->post.length<n->∃r,zfd NN n k (pre.length:Int)=some r
 | _,_,0,_,h=>absurd h (ae _)
 | [],pre,n+1,hkk,_=>by rw[zk8];simp only[z4e];simp_all
 | x::post,pre,n+1,hkk,hn=>by
  simp only[ag]at hn;have hpl:pre.length<k.length:=by grind
  have hb:pre.length<9223372036854775807:=by omega
  obtain⟨r,ih⟩:=yn4 hk post (pre++[x]) n (by grind) (by omega);obtain⟨z,z1,z2,z3⟩:=yx8 hpl hk;obtain⟨y,hy⟩:=x0s (x:=z) (by omega) (by omega);have hin:inB (pre.length:Int) k.length=true:=V7 (by omega) (by omega);rw[zk8];simp only[z4e,U1 (q:=x) hb,ih,z1,hy];rw[W8 (by grind),gd_t hin,gd_t hin]
  grind
theorem yix{k:B}(hk:k.length<1000000):∃r,ziw NN k=some r:=by obtain⟨r,hr⟩:=yn4 hk k [] NN rfl (by grind[W3]);have hz:(([]:B).length:Int)=0:=rfl;rw[hz]at hr;simp only[ziw,hr];split<;>grind
theorem yv3{p:Pr}(hk:p.1.length<1000000):∃r,zl3 NN p=some r:=by obtain⟨r,hr⟩:=yix hk;simp only[zl3,hr];cases eqi r.2 0<;>cases eqi r.1.2.1 1<;>cases eqi r.1.2.1 2<;>cases eqi r.1.2.1 3<;>exact⟨_,rfl⟩
theorem yma:∀(post pre:List Pr) (n:Nat) (u:zcg),post.length<n->(pre++post).length<1000000000->(∀p∈post,p.1.length<1000000)->∃u',zfa NN n (pre++post) (pre.length:Int) u=some (((),()),((),(u',())))
 | _,_,0,_,h,_,_=>absurd h (ae _)
 | [],pre,n+1,u,_,_,_=>by rw[zk4];simp only[z4a,aj,bj,decide_false,cond_false];simp
 | x::post,pre,n+1,u,hn,hl,hp=>by
  simp only[ag]at hn;have hb:pre.length<9223372036854775807:=by grind
  obtain⟨c,hc⟩:=yv3 (hp x (by simp));rw[zk4];simp only[z4a,Q7,cond_true,V5,hc];rw[gd_t U0,U1 (q:=x) hb,Q3 (pre:=pre) (q:=x) (post:=post)];exact yma post (pre++[x]) n _ (by omega) (by grind) fun y hy=>hp y (by grind)
theorem yva{t:List Pr}(hl:t.length<1000000000)(hp:∀p∈t,p.1.length<1000000):∃u,zp6 NN t=some u:=by obtain⟨u,hu⟩:=yma t [] NN (0,0) (by grind[W3]) (by grind) hp;have hz:(([]:List Pr).length:Int)=0:=rfl;simp_all[zp6]
theorem yvj{a b:B}(ha:a.length<1000000)(hb:b.length<1000000):∃r,ziu NN a b=some r:=by
 obtain⟨va,h1⟩:=y7p ha;obtain⟨vb,h2⟩:=y7p hb;obtain⟨wa,h3⟩:=y8a a;obtain⟨wb,h4⟩:=y8a b;have p1:∀x y,∃r,z6g NN a b x y=some (r,()):=fun x y=>by simp only[z6g,h3,h4];cases x<;>cases y<;>cases wa<;>exact⟨_,rfl⟩
 have p0:∀x,∃r,z6h NN a b x=some (r,()):=fun x=>by
  obtain⟨r1,e1⟩:=p1 x vb;obtain⟨r2,e2⟩:=p1 x false;simp only[z6h,h1,h2,e1,e2]
  grind
 obtain⟨r1,e1⟩:=p0 (eqi (bt b 0) 6);obtain⟨r2,e2⟩:=p0 false;simp only[ziu,e1,e2];by_cases hca:0<a.length
 ·have ia:inB (0:Int) a.length=true:=V7 (by omega) (by omega);rw[show decide ((0:Int)<(a.length:Int))=true by grind,cond_true,gd_t ia];by_cases hcb:0<b.length
  ·have ib:inB (0:Int) b.length=true:=V7 (by omega) (by omega);rw[show decide ((0:Int)<(b.length:Int))=true by grind,cond_true,gd_t ib]
   grind
  grind
 grind
theorem yqf{g:Nat}(hg:g<40000){s:X0}{m:Mg}(hm:GM g m):∃r,z9e NN s m=some r:=by
 have ent:∀k∈KU g,∃b,zcs NN k=some b:=fun k hk=>by obtain⟨r,hr⟩:=yix (k:=k) (by have:=UU.len (UU.of hk);omega);simp only[zcs,hr];cases eqi r.2 0<;>exact⟨_,rfl⟩
 have ali:∀e:B×B,e∈ends->∃r,ziu NN e.1 e.2=some r:=fun e he=>by
  have:=(zcb (G0 he).1).2;have:=(zcb (G0 he).2).2
  grind[yvj]
 cases hm with
 | put k v n hk hv=>obtain⟨b,hb⟩:=ent k hk;simp only[z9e,z09,cond_true,hb,z7m,ze6];cases b<;>exact⟨_,rfl⟩
 | del k hk=>obtain⟨b,hb⟩:=ent k hk;simp only[z9e,show eqi (2:Int) 1=false by decide,z09,cond_true,cond_false,hb,z7m,ze6];cases b<;>exact⟨_,rfl⟩
 | drop x hx=>exact⟨_,rfl⟩
 | stamp x n hx=>exact⟨_,rfl⟩
 | move e he=>obtain⟨r,hr⟩:=ali e he;simp only[z9e,show eqi (4:Int) 1=false by decide,show eqi (4:Int) 2=false by decide,show eqi (4:Int) 6=false by decide,show eqi (4:Int) 3=false by decide,show eqi (4:Int) 5=false by decide,cond_false,hr];cases r<;>exact⟨_,rfl⟩
 | clone e he=>obtain⟨r,hr⟩:=ali e he;simp only[z9e,show eqi (5:Int) 1=false by decide,show eqi (5:Int) 2=false by decide,show eqi (5:Int) 6=false by decide,show eqi (5:Int) 3=false by decide,z09,cond_true,cond_false,hr,z7m];cases r<;>exact⟨_,rfl⟩
theorem yyc{nd:Nd}:∀(post pre:List X0) (n:Nat) (s:X0),nd.2.2.2.1=pre++post->post.length<n->(pre++post).length<1000000000->∃s',zky NN n (pre.length:Int) nd s=some (((),((),())),(nd,((),(s',()))))
 | _,_,0,_,_,h,_=>absurd h (ae _)
 | [],pre,n+1,s,hk,_,_=>by rw[zop];simp only[z7i,hk,aj,bj,decide_false,cond_false];simp
 | x::post,pre,n+1,s,hk,hn,hl=>by
  simp only[ag]at hn;have hb:pre.length<9223372036854775807:=by grind
  rw[zop];simp only[z7i,hk,Q7,cond_true,V5,y0j];rw[gd_t U0,U1 (q:=x) hb];exact yyc post (pre++[x]) n _ (by grind) (by omega) (by grind)
theorem yyb{g:Nat}(hg:g<40000){nd:Nd}:∀(post pre:List Mg) (n:Nat) (s:X0),nd.2.2.2.2=pre++post->post.length<n->(pre++post).length<1000000000->(∀m∈post,GM g m)->∃s',zkx NN n (pre.length:Int) nd s=some (((),()),((),(s',())))
 | _,_,0,_,_,h,_,_=>absurd h (ae _)
 | [],pre,n+1,s,hk,_,_,_=>by rw[zoo];simp only[z7h,hk,aj,bj,decide_false,cond_false];simp
 | x::post,pre,n+1,s,hk,hn,hl,hm=>by
  simp only[ag]at hn;have hb:pre.length<9223372036854775807:=by grind
  obtain⟨c,hc⟩:=yqf hg (s:=s) (hm x (by simp));rw[zoo];simp only[z7h,hk,Q7,cond_true,V5,hc];rw[gd_t U0,U1 (q:=x) hb];exact yyb hg post (pre++[x]) n _ (by grind) (by omega) (by grind) fun y hy=>hm y (by grind)
theorem x4m{G:Nat}(hG:G<40000):zn8 G:=by
 intro nd h;have hp:∀p∈nd.1,p.1.length<1000000:=fun p hp=>by have:=UU.len (UU.of (h.ps.key p hp).1);omega
 have hl:=h.ps.len;obtain⟨u,hu⟩:=yva (t:=nd.1) (by omega) hp;obtain⟨s,hs⟩:=yyc (nd:=nd) nd.2.2.2.1 [] NN ((0,0),(0,0)) rfl (by have:=W3;have:=h.sl;omega) (by have:=h.sl;grind);obtain⟨s',hs'⟩:=yyb hG (nd:=nd) nd.2.2.2.2 [] NN s rfl (by have:=W3;have:=h.bl;omega) (by have:=h.bl;grind) h.buf;have z1:(([]:List X0).length:Int)=0:=rfl;have z2:(([]:List Mg).length:Int)=0:=rfl;rw[z1]at hs;rw[z2]at hs';simp only[zr5,hu,zvf,hs,hs'];cases eqi (nd.2.2.1.length:Int) 0<;>exact⟨_,rfl⟩
theorem y0s(m0:List Sp)(E:List B)(hEl:E.length<=1000000)(hE:∀q∈m0,q.1∈E/\q.2∈E)(h0:([]:B)∈E):∀(post pre:List Sp) (n:Nat) (left:List Sp),(∀q∈post,q∈m0)->post.length<n->(pre++post).length<1000000->
  Sep left->(∀s∈left,s.1∈E/\s.2∈E)->∃r,zat NN n (pre++post) (pre.length:Int) left=some ((),(r,()))/\(∀k,inS r k=(inS left k&& !(inS post k)))/\Sep r/\∀s∈r,s.1∈E/\s.2∈E
 | _,_,0,_,_,h,_,_,_=>absurd h (ae _)
 | [],pre,n+1,left,_,_,_,hs,he=>by refine⟨left, ?_,fun k=>by simp[inS],hs,he⟩;simp[G9,z1j]
 | q::post,pre,n+1,left,hm0,hn,hl,hs,he=>by
  simp only[ag]at hn;have hll:=hs.len (E:=E) fun s h=>(he s h).1;have hb:pre.length<9223372036854775807:=by grind
  have hq:=hE q (hm0 q (by simp));have hm0':∀x∈post,x∈m0:=fun x hx=>hm0 x (by grind);cases e:emptyB q
  ·have hm:=ynk NN (pm:=pre) (post':=post) (q:=q) left (by grind[W3]) (by omega);have sem:∀(l out:List Sp),(∀k,inS (l.foldl (z4y q) out) k=(inS out k || (inS l k&& !(hasB q k))))/\(l.foldl (z4y q) out).length<=out.length+2*l.length:=by
    intro l;induction l with
    | nil=>simp[inS]
    | cons x l ih=>
     intro out;obtain⟨i1,i2⟩:=ih (z4y q out x);have hlen:(z4y q out x).length<=out.length+2:=by grind[z4y]
     grind[z4y,inS,yd4]
   have ends:∀(l out:List Sp),(∀s∈l,s.1∈E/\s.2∈E)->(∀s∈out,emptyB s=false->s.1∈E/\s.2∈E)->∀s∈l.foldl (z4y q) out,emptyB s=false->s.1∈E/\s.2∈E:=by
    intro l;induction l with
    | nil=>simp
    | cons x l ih=>
     intro out hl ho;rw[List.foldl_cons];refine ih _ (fun s hs=>hl s (by grind)) fun s hs hfull=> ?_;have hx:=hl x (by simp);unfold z4y at hs
     grind[yeu]
   obtain⟨s1,s2⟩:=sem left [];simp only[aJ,bk]at s2;obtain⟨r,r1,r2,r3,r4,r5⟩:=zik NN (l:=left.foldl (z4y q) []) (by grind[W3]) (by omega);have r6:∀s∈r,s.1∈E/\s.2∈E:=by
    intro s hs;have e0:=ends left [] he (fun s h=>by cases h);obtain⟨⟨x,hx,ex⟩,y,hy,ey⟩:=r5 s hs
    grind
   obtain⟨r',i1,i2,i4,i5⟩:=y0s m0 E hEl hE h0 post (pre++[q]) n r hm0' (by omega) (by grind) r4 r6;refine⟨r', ?_,fun k=> ?_,i4,i5⟩
   ·rw[z1j];simp only[G9,Q7,U0,cond_true,V5,z56,e,cond_false,hm,r1]
    grind[gd_t,U1]
   ·rw[i2,r2,s1];have:inS (q::post) k=(hasB q k || inS post k):=by simp[inS]
    rw[this];have z:inS [] k=false:=rfl
    grind
  ·obtain⟨r',i1,i2,i4,i5⟩:=y0s m0 E hEl hE h0 post (pre++[q]) n left hm0' (by omega) (by grind) hs he;refine⟨r', ?_,fun k=> ?_,i4,i5⟩
   ·rw[z1j];simp only[G9,Q7,U0,cond_true,V5,z56,e]
    grind[gd_t,U1]
   ·rw[i2];have:inS (q::post) k=(hasB q k || inS post k):=by simp[inS]
    simp_all[zod]
theorem ye5{l m:List Sp}{E:List B}(hEl:E.length<=1000000)(hE:∀q∈m,q.1∈E/\q.2∈E)(h0:([]:B)∈E)(hL:∀s∈l,emptyB s=false->s.1∈E/\s.2∈E)(hm:m.length<1000000)(hl:l.length<10000000):
  ∃r,y7 NN l m=some r/\Sep r/\∀s∈r,s.1∈E/\s.2∈E:=by
 obtain⟨r,r1,r2,r3,r4,r5⟩:=zik NN (l:=l) (by grind[W3]) (by omega);have r6:∀s∈r,s.1∈E/\s.2∈E:=fun s hs=>by
  obtain⟨⟨x,hx,ex⟩,y,hy,ey⟩:=r5 s hs
  grind
 obtain⟨r',i1,i2,i4,i5⟩:=y0s m E hEl hE h0 m [] NN r (fun _ h=>h) (by grind[W3]) (by grind) r4 r6;have hz:(([]:List Sp).length:Int)=0:=rfl
 grind[y7]
theorem yk2{ms:List Mg}(hm:∀m∈ms,GM 1 m)(hl:ms.length<1000000):∀(j:Nat) (n:Nat) (out:List Mg) (held:List Sp),j<=ms.length->j<n->(∀m∈out,GM 1 m)->out.length+j<=ms.length->Sep held->(∀s∈held,s.1∈UU 1/\s.2∈UU 1)->
  ∃r h,zhg NN n ms ((j:Int)-1) out held=some (((),((),())),((),(r,(h,()))))/\(∀m∈r,GM 1 m)/\r.length<=ms.length
 | _,0,_,_,_,h,_,_,_,_=>absurd h (ae _)
 | 0,n+1,out,held,_,_,ho,hol,_,_=>by simp_all[z5r,zlx]
 | j+1,n+1,out,held,hj,hn,ho,hol,hs,he=>by
  have hjl:j<ms.length:=by omega
  have hG:=hm ms[j] (List.getElem_mem hjl);obtain⟨w1,w2⟩:=wr_G hG (ai 1);obtain⟨l1,l2,l3⟩:=ycb ms[j];have hUl:=UU.length 1;have hhl:=hs.len (E:=UU 1) fun s h=>(he s h).1;have e1:((j+1:Nat):Int)-1=(j:Int):=by omega
  have e2:rdL ms (j:Int) K3=ms[j]:=by simp_all[yyh]
  have e3:aa .i64 ((j:Int)-1)=(j:Int)-1:=w64 (by omega) (by omega);have hk:∀s∈kls ms[j],SpG 1 s:=fun s hs=>by grind[kls]
  obtain⟨r4,m1,m2,m3⟩:=ye5 (l:=wr ms[j]) (m:=held) (E:=UU 1) (by omega) he (UU.nil 1) (fun s h _=>(w1 s h).2) (by omega) (by omega);obtain⟨r10,n1,n2,n3⟩:=ye5 (l:=held++kls ms[j]) (m:=rds ms[j]) (E:=UU 1) (by omega) (fun s h=>(w2 s h).2) (UU.nil 1) (fun s h _=>by
   rcases am.1 h with h | h
   ·grind
   ·exact(hk s h).2) (by omega) (by grind)
  rw[zlx];simp only[z5r,e1,e2,e3,z9n (g:=1) (by omega) hG,yu2 (g:=1) (by omega) hG,zx2 hG,m1,n1,ac,ah];rw[W8 (by simp),gd_t (V7 (by omega) (by omega))];cases eqi (r4.length:Int) 0
  ·rw[cond_false,gd_t (Y9 (by omega) (by omega)),gd_t (Y9 (by omega) (by omega)),gd_t (Y9 (by omega) (by omega))];exact yk2 hm hl j n ([ms[j]]++out) r10 (by omega) (by omega) (fun m h=>by grind) (by grind) n2 n3
  ·rw[cond_true];exact yk2 hm hl j n out held (by omega) (by omega) ho (by omega) hs he
theorem yiv{ms:List Mg}(hm:∀m∈ms,GM 1 m)(hl:ms.length<1000000):∃r,zfp NN ms=some r/\(∀m∈r,GM 1 m)/\r.length<=ms.length:=by
 obtain⟨r0,n1,n2,n3,n4,n5⟩:=zik NN (l:=[]) (by grind[W3]) (by simp);obtain⟨r,h,h1,h2,h3⟩:=yk2 hm hl ms.length NN [] r0 (ai _) (by grind[W3]) (fun m h=>by cases h) (by simp) n4 (fun s hs=>by grind)
 grind[zfp,y0k,w64]
theorem yp4{a b:List Mg}(ha:∀m∈a,GM 1 m)(hb:∀m∈b,GM 1 m)(hl:a.length+b.length<1000000):∃r,zaz NN a b=some r/\(∀m∈r,GM 1 m)/\r.length<=a.length+b.length:=by
 obtain⟨r,r1,r2,r3⟩:=yiv (ms:=a++b) (fun m h=>(am.1 h).elim (ha m) (hb m)) (by grind)
 grind[zaz,gd_t,Y9]
theorem GT.mono{Γ K Φ Φ' b b' g:Nat}{T:Tr}(h:GT Γ K Φ b g T)(hb:b'<=b)(hΦ:Φ<=Φ'):GT Γ K Φ' b' g T:=
 ⟨h.g1,h.vt,by have:=h.gr;have:=yed (show T.mv+b'<=T.mv+b by omega);omega,aP h.pot hΦ⟩
theorem yy6{Γ K Φ b g:Nat}(hΓ:Γ<1900)(hΦ:Φ+(K+(5+48*(Γ+1)))<20000000){p:List Sl}{root:Int}{R:List Int}{T:Tr}{sh:Q4}(hG:GT Γ K Φ (b+1) g T)(hP:PI p (root::R))(hu:Unf p root T)(hR:R.length<1000000){m:Mg}(hm:GM 1 m):
  ∃t' e,zr4 NN (p,(root,sh)) m=some (t',e)/\(e≠0\/(e=0/\∃q root' T' g',t'=(q,(root',sh))/\GT Γ K (Φ+(K+(5+48*(Γ+1)))) b g' T'/\PI q (root'::R)/\Unf q root' T'/\∀x∈R,∀X,Unf p x X->Unf q x X)):=by
 have hle:=hG.le;have hw:=yzj Γ m;have hmg:GM g m:=hm.mono hG.g1;obtain⟨g1,g2⟩:=ydf hu
 have pool:∀(nd:Nd) (T':Tr),UnfN p nd T'->nd.2.2.1.length<=80000->∃t' e,((z8p NN p nd).bind fun r5=>bif (!(eqi r5.2.2 (0:Int)))then(some (((p,(root,sh)):Y4),r5.2.2))else((z4k NN r5.1 root).bind fun r6=>some ((r6.1,(r5.2.1,sh)),(0:Int))))=some (t',e)/\
   (e≠0\/(e=0/\∃q root',t'=(q,(root',sh))/\PI q (root'::R)/\Unf q root' T'/\∀x∈R,∀X,Unf p x X->Unf q x X)):=fun nd T' hn hk=>by
  obtain⟨q,id,e,a1,a2⟩:=hP.add hn hk (by grind);rw[a1];simp only[ac];rcases a2 with a2 | ⟨rfl,a3,a4,a5⟩
  ·exact⟨_,_,by rw[W8 (by grind[G6])], .inl a2⟩
  ·obtain⟨q2,d1,d2,d3⟩:=PI.drop (L:=id::R) (a3.perm (by
    have:(root::R++[id]).Perm (root::(id::R)):=cN.cons root (List.perm_append_comm (l₁:=R) (l₂:=[id]));omega)) (by grind)
   rw[X5 (by rfl),d1];refine⟨_,_,rfl, .inr ⟨rfl,q2,id,rfl,d2,d3.unf d2.bal (d2.bal.mem id (by simp)) a5,fun x hx X hX=>d3.unf d2.bal (d2.bal.mem x (by grind)) (a4.unf hX)⟩⟩
 have goal:∀(nd:Nd) (T':Tr) (g':Nat),UnfN p nd T'->nd.2.2.1.length<=80000->GT Γ K (Φ+(K+(5+48*(Γ+1)))) b g' T'->∃t' e,((z8p NN p nd).bind fun r5=>bif (!(eqi r5.2.2 (0:Int)))then(some (((p,(root,sh)):Y4),r5.2.2))else((z4k NN r5.1 root).bind fun r6=>some ((r6.1,(r5.2.1,sh)),(0:Int))))=some (t',e)/\
   (e≠0\/(e=0/\∃q root' T' g',t'=(q,(root',sh))/\GT Γ K (Φ+(K+(5+48*(Γ+1)))) b g' T'/\PI q (root'::R)/\Unf q root' T'/\∀x∈R,∀X,Unf p x X->Unf q x X)):=fun nd T' g' hn hk hT=>by grind
 simp only[zr4,y7m,ac];cases vldB m
 ·exact⟨_,_,rfl, .inl (by decide)⟩
 rw[X5 (by rfl),g1];simp only[ac];rw[X5 (by rfl)];have hgr:=hG.gr;have hpot:=hG.pot;have hvt:=hG.vt;cases T with
 | leaf ps=>
  have e2:z74 (slA p root)=z1x ps:=g2;simp only[VT]at hvt;have hap:=yhq (by omega) hvt.1 hmg;have e3:(z1x ps).1=ps:=rfl;have e4:((app m ps,(z1x ps).2):Nd)=z1x (app m ps):=rfl;rw[e2,W8 (by rfl)];simp only[e3,hap,ac,e4];refine goal (z1x (app m ps)) (.leaf (app m ps)) (g+mvs m) rfl (by simp[z1x]) ⟨aP hG.g1 (bO _ _), ?_, ?_, ?_⟩
  ·simp only[VT];exact⟨yrg hvt.1 hmg,fun x _=>by rw[Q8];cases x.1<;>rfl⟩
  ·have:=yyu m;have z0:(Tr.leaf ps).mv=0:=rfl;have z1:(Tr.leaf (app m ps)).mv=0:=rfl;have z2:tri (b+1)=tri b+(b+1):=rfl
   grind
  simp[Tr.bw,Tr.fm,Tr.mv]
 | node ks piv buf=>
  obtain⟨kids,sums,e2,u2,u3,u4⟩:=g2;have hvt0:=hvt;simp only[VT]at hvt;have hpl:=VTs.plen hvt.1;obtain⟨_,_,hkl⟩:=VTs.piv hvt.1;have hkl':=u4.len;have hbl:=zft (show g<=Γ by omega) fun m hm=>(hvt.2 m hm).1;have hbw:wb Γ buf<=(Tr.node ks piv buf).bw Γ:=by simp[Tr.bw,Tr.fm]
  have hmv:mvN (buf++[m])=mvN buf+mvs m:=by simp[mvN]
  have hwb:wb Γ (buf++[m])=wb Γ buf+wm Γ m:=by rw[zcd,yfe]
  have:=yyu m;rw[e2,X5 (G6 (by grind)),gd_t (Y9 (by grind) (by omega)),gd_t (Y9 (by grind) (by omega))];simp only[ah];refine goal ([],(piv,(kids,(sums,buf++[m])))) (.node ks piv (buf++[m])) g ⟨kids,sums,rfl,u2,u3,u4⟩ (by grind) ⟨hG.g1, ?_, ?_, ?_⟩
  ·grind[VT,yow]
  ·simp only[Tr.mv]at hgr|-;rw[hmv];have:=yed (show ks.mv+(mvN buf+mvs m)+b<=ks.mv+mvN buf+(b+1) by omega);omega
  grind[Tr.mv,Tr.bw,Tr.fm,Nat.mul_add]
def epR(e:V6):Int:=e.2.2.1
def epM(e:V6):List Mg:=e.2.2.2.2
structure FI (Γ K Φ b Λ leaf fan bl:Nat) (f:Z3):Prop where
 sh:f.2.1=shp leaf fan bl
 pi:PI f.1 (f.2.2.2.2.1::f.2.2.1.map epR)
 tr:∀x∈f.2.2.2.2.1::f.2.2.1.map epR,∃g T,GT Γ K Φ b g T/\Unf f.1 x T
 ne:f.2.2.1.length<=16
 ms:(∀m∈f.2.2.2.2.2.2,GM 1 m)/\f.2.2.2.2.2.2.length<=Λ
 es:∀e∈f.2.2.1,(∀m∈epM e,GM 1 m)/\((epM e).length<=Λ/\e.2.2.2.1.length<=12)
theorem FI.mono{Γ K Φ Φ' b b' Λ Λ' leaf fan bl:Nat}{f:Z3}(h:FI Γ K Φ b Λ leaf fan bl f)(hb:b'<=b)(hΦ:Φ<=Φ')(hΛ:Λ<=Λ'):FI Γ K Φ' b' Λ' leaf fan bl f:=
 ⟨h.sh,h.pi,fun x hx=>by obtain⟨g,T,h1,h2⟩:=h.tr x hx;exact⟨g,T,h1.mono hb hΦ,h2⟩,h.ne,⟨h.ms.1,aP h.ms.2 hΛ⟩,fun e he=>⟨(h.es e he).1,aP (h.es e he).2.1 hΛ,(h.es e he).2.2⟩⟩
section
variable {Γ K leaf fan bl:Nat} (hΓ:Γ<1900) (hK:20*(Γ+1)+2*(5+48*(Γ+1))<=K) (hl1:1<=leaf) (hl2:leaf<1000000) (hf1:2<=fan) (hf2:fan<1000000)
include hΓ in
theorem addm_l0{f:Z3}{R:List Int}(hR:R.length<1000000){b:Nat}:∀(post pre:List Mg) (n Φ:Nat) (p:List Sl) (root:Int) (T:Tr) (g:Nat),post.length<n->(pre++post).length<1000000->Φ+post.length*(K+(5+48*(Γ+1)))<20000000->(∀m∈post,GM 1 m)->
  GT Γ K Φ (b+post.length) g T->PI p (root::R)->Unf p root T->
  (∃e,z9a NN n (pre++post) (pre.length:Int) f (p,(root,shp leaf fan bl))=some (.inl (((),e),(f,()))))\/
  ∃q root' T' g',z9a NN n (pre++post) (pre.length:Int) f (p,(root,shp leaf fan bl))=some (.inr ((pre++post,((),((),()))),(f,((),((q,(root',shp leaf fan bl)),())))))/\GT Γ K (Φ+post.length*(K+(5+48*(Γ+1)))) b g' T'/\PI q (root'::R)/\Unf q root' T'/\∀x∈R,∀X,Unf p x X->Unf q x X
 | _,_,0,_,_,_,_,_,h,_,_,_,_,_,_=>absurd h (ae _)
 | [],pre,n+1,Φ,p,root,T,g,_,_,_,_,hG,hP,hu=>by refine .inr ⟨p,root,T,g, ?_,by simpa using hG,hP,hu,fun x hx X hX=>hX⟩;rw[zoh];simp only[z7a,aj,bj,decide_false,cond_false]
 | m::post,pre,n+1,Φ,p,root,T,g,hn,hl,hΦ,hm,hG,hP,hu=>by
  simp only[ag]at hn;have hb:pre.length<9223372036854775807:=by simp at hl;omega
  generalize hC:K+(5+48*(Γ+1))=C at*;have eC:(m::post).length*C=C+post.length*C:=by rw[ag,Nat.succ_mul,Nat.add_comm]
  rw[eC]at hΦ;obtain⟨t',e,a1,a2⟩:=yy6 (Φ:=Φ) (K:=K) (b:=b+post.length) (sh:=shp leaf fan bl) hΓ (by rw[hC];omega) (by
   have:b+(m::post).length=b+post.length+1:=by simp;omega
   rw[this]at hG;exact hG) hP hu hR (hm m (by simp))
  rw[hC]at a2;have st:∀t e,zr4 NN (p,(root,shp leaf fan bl)) m=some (t,e)->z9a NN (n+1) (pre++m::post) (pre.length:Int) f (p,(root,shp leaf fan bl))=bif !(eqi e 0)then some (.inl (((),e),(f,())))else z9a NN n (pre++m::post) ((pre++[m]).length:Int) f t:=fun t e h=>by rw[zoh];simp only[z7a,Q7,cond_true,V5,h,ac];rw[gd_t U0,U1 (q:=m) hb]
  rw[st t' e a1];rcases a2 with a2 | ⟨rfl,q,root',T',g',rfl,b1,b2,b3,b4⟩
  ·exact .inl ⟨e,by rw[G6 a2];rfl⟩
  ·rw[X5 (by rfl),Q3 (pre:=pre) (q:=m) (post:=post)];rcases addm_l0 hR post (pre++[m]) n (Φ+C) q root' T' g' (by omega) (by simpa using hl) (by rw[hC];omega) (fun x hx=>hm x (by simp[hx])) b1 b2 b3 with h | ⟨q2,root2,T2,g2,c1,c2,c3,c4,c5⟩
   ·exact .inl h
   ·rw[hC]at c2;refine .inr ⟨q2,root2,T2,g2,c1, ?_,c3,c4,fun x hx X hX=>c5 x hx X (b4 x hx X hX)⟩;rw[eC,<-Nat.add_assoc];exact c2
end
section
variable {Γ K leaf fan bl:Nat} (hΓ:Γ<1900) (hK:20*(Γ+1)+2*(5+48*(Γ+1))<=K) (hl1:1<=leaf) (hl2:leaf<1000000) (hf1:2<=fan) (hf2:fan<1000000)
include hΓ hK hl1 hl2 hf1 hf2 in
theorem yy5{Φ b Λ:Nat}{f:Z3}{l:List Mg}(hF:FI Γ K Φ (b+l.length) Λ leaf fan bl f)(hl:l.length<=1000)(hm:∀m∈l,GM 1 m)(hΦ:Φ+l.length*(K+(5+48*(Γ+1)))<20000000)(hΛ:Λ<100000):
  ∃f' e,zr3 NN f l=some (f',e)/\FI Γ K (Φ+l.length*(K+(5+48*(Γ+1)))) b (Λ+l.length) leaf fan bl f':=by
 have hF':FI Γ K (Φ+l.length*(K+(5+48*(Γ+1)))) b (Λ+l.length) leaf fan bl f:=hF.mono (by omega) (by omega) (by omega);obtain⟨p,sh,eps,next,root,parent,msgs⟩:=f;have hsh:sh=shp leaf fan bl:=hF.sh;subst hsh;obtain⟨g,T,hG,hu⟩:=hF.tr root (by simp);have hne:eps.length<=16:=hF.ne;have hms:(∀m∈msgs,GM 1 m)/\msgs.length<=Λ:=hF.ms;have hP:PI p (root::eps.map epR):=hF.pi;have hR:(eps.map epR).length<1000000:=by rw[List.length_map];omega
 have htree:y0i NN (p,(shp leaf fan bl,(eps,(next,(root,(parent,msgs)))))) 0=some ((p,(root,shp leaf fan bl)),0):=rfl;simp only[zr3,htree,ac];have hz:(([]:List Mg).length:Int)=0:=rfl;rcases addm_l0 (K:=K) (leaf:=leaf) (fan:=fan) (bl:=bl) hΓ (f:=(p,(shp leaf fan bl,(eps,(next,(root,(parent,msgs))))))) hR (b:=b) l [] NN Φ p root T g (by have:=W3;omega) (by simp;omega) hΦ hm hG hP hu with⟨e,h⟩ | ⟨q,root',T',g',h1,h2,h3,h4,h5⟩
 ·rw[hz,ah]at h;rw[h];exact⟨_,_,rfl,hF'⟩
 ·rw[hz,ah]at h1;rw[h1];simp only[ac];obtain⟨t',c,e,p1,p2⟩:=x2c (bl:=bl) (x4m (by omega)) hΓ hK hΦ hl1 hl2 hf1 hf2 hR h2 h3 h4;rw[p1];simp only[ac];rcases p2 with p2 | ⟨rfl,q2,root2,T2,g2,rfl,k1,k2,k3,k4,k5⟩
  ·exact⟨_,_,by rw[W8 (by simp only[G6 p2];rfl)],hF'⟩
  ·obtain⟨r,r1,r2,r3⟩:=yiv (ms:=msgs++l) (fun m h=>(am.1 h).elim (hms.1 m) (hm m)) (by rw[aq];omega);rw[X5 (by rfl),gd_t (Y9 (by omega) (by omega))];simp only[y0h,ac,ah];rw[gd_t (Y9 (by omega) (by omega)),r1];refine⟨_,_,rfl,rfl,k3,fun x hx=> ?_,hne,⟨r2,by rw[aq]at r3;show r.length<=_;omega⟩,fun e he=>⟨(hF.es e he).1,aP (hF.es e he).2.1 (bO _ _),(hF.es e he).2.2⟩⟩;rcases ar.1 hx with rfl | hx
   ·exact⟨g2,T2,k1,k4⟩
   ·obtain⟨gx,X,hX,hXu⟩:=hF'.tr x (ay _ hx);exact⟨gx,X,hX,k5 x hx X (h5 x hx X hXu)⟩
theorem ysy{f:Z3}{id:Int}(hl:f.2.2.1.length<1000000):∀(d j:Nat) (n:Nat),j+d=f.2.2.1.length->d<n->∃r,zgv NN n id (j:Int) f=some r/\∀x,r= .inl x->0<=x.1/\x.1<(f.2.2.1.length:Int)
 | _,_,0,_,h=>absurd h (ae _)
 | 0,j,n+1,hj,_=>by rw[zlm];simp only[z5g];simp_all
 | d+1,j,n+1,hj,hn=>by
  have w3:aa .i64 ((j:Int)+1)=((j+1:Nat):Int):=by grind[w64]
  obtain⟨r,r1,r2⟩:=ysy hl d (j+1) n (by omega) (by omega);rw[zlm];simp only[z5g,w3];rw[W8 (by grind),gd_t (V7 (by omega) (by omega))];cases eqi (rdL f.2.2.1 (j:Int) Y8).1 id
  ·exact⟨r,r1,r2⟩
  grind
theorem ytg{f:Z3}{id:Int}(hl:f.2.2.1.length<1000000):∃i,zgw NN f id=some i/\(i<0\/(0<=i/\i<(f.2.2.1.length:Int))):=by obtain⟨r,r1,r2⟩:=ysy (id:=id) hl f.2.2.1.length 0 NN (by omega) (by grind[W3]);rw[show((0:Nat):Int)=0 from rfl]at r1;simp only[zgw,r1,ac];split<;>grind
theorem ym3{Φ b Λ:Nat}{f:Z3}(hF:FI Γ K Φ b Λ leaf fan bl f)(id:Int):∃f' e,zkr NN f id=some (f',e)/\FI Γ K Φ b Λ leaf fan bl f':=by
 have hne:=hF.ne;obtain⟨i,i1,i2⟩:=ytg (f:=f) (id:=id) (by omega);obtain⟨p,sh,eps,next,root,parent,msgs⟩:=f;have hP:PI p (root::eps.map epR):=hF.pi;have hne:eps.length<=16:=hne;simp only[zkr,i1,ac];by_cases h0:i<0
 ·simp_all
 ·have i2:=i2.resolve_left h0;have hin:inB i eps.length=true:=V7 i2.1 i2.2;have hmem:rdL eps i Y8∈eps:=z8x i2.1 i2.2;generalize rdL eps i Y8=ep at hmem|-;have hx:epR ep∈eps.map epR:=aH.2 ⟨ep,hmem,rfl⟩;obtain⟨q,a1,a2,a3⟩:=hP.hold (hP.bal.mem (epR ep) (by grind)) (by grind);obtain⟨q2,b1,b2,b3⟩:=PI.drop (L:=epR ep::eps.map epR) (a2.perm (cN.swap root (epR ep) _)) (by grind);rw[X5 (by grind),gd_t hin];have a1':zbd NN p ep.2.2.1=some (q,0):=a1;rw[a1'];simp only[ac,b1];rw[gd_t hin];refine⟨_,_,rfl,hF.sh,b2,fun x hx'=> ?_,hne,⟨fun m h=>(by cases h),aZ _⟩,hF.es⟩;have hx2:x∈root::eps.map epR:=by
   rcases ar.1 hx' with rfl | h
   ·exact ay _ hx
   grind
  obtain⟨gx,X,hX,hXu⟩:=hF.tr x hx2;exact⟨gx,X,hX,b3.unf b2.bal (b2.bal.mem x hx') (a3.unf hXu)⟩
end
section
variable {Γ K leaf fan bl:Nat}
theorem yrt{f:Z3}{name:B}(hl:f.2.2.1.length<1000000):∀(d j:Nat) (n:Nat),j+d=f.2.2.1.length->d<n->zco NN n name (j:Int) f=some (.inl ((),((f,((0:Int),(160:Int))),())))\/zco NN n name (j:Int) f=some (.inr ((name,((),())),(f,((),()))))
 | _,_,0,_,h=>absurd h (ae _)
 | 0,j,n+1,hj,_=>by
  rw[zll];simp only[z5f]
  grind
 | d+1,j,n+1,hj,hn=>by
  have w3:aa .i64 ((j:Int)+1)=((j+1:Nat):Int):=by grind[w64]
  have ih:=yrt (name:=name) hl d (j+1) n (by omega) (by omega);rw[zll];simp only[z5f,w3];rw[W8 (by grind),gd_t (V7 (by omega) (by omega))]
  grind
theorem yy1{k:B}(h:zbg NN k=some true):k.length<=12:=by
 rcases eh 12 k.length with h1 | h1
 ·simp only[zbg]at h
  grind
 omega
theorem yvc{Φ b Λ:Nat}{f:Z3}(hF:FI Γ K Φ b Λ leaf fan bl f)(name:B):∃f' r,znk NN f name=some (f',r)/\FI Γ K Φ b Λ leaf fan bl f':=by
 have hne:=hF.ne;obtain⟨v,hv⟩:=ykd name;simp only[znk,hv,ac];cases v
 ·simp_all
 rw[X5 (by rfl)];have hs:=yrt (f:=f) (name:=name) (by omega) f.2.2.1.length 0 NN (by omega) (by grind[W3]);rw[show((0:Nat):Int)=0 from rfl]at hs;rcases hs with hs | hs
 ·grind
 ·rw[hs];simp only[ac];by_cases h16:(16:Int)<=(f.2.2.1.length:Int)
  ·simp_all
  ·obtain⟨p,sh,eps,next,root,parent,msgs⟩:=f;have hP:PI p (root::eps.map epR):=hF.pi;have h16:¬((16:Int)<=(eps.length:Int)):=h16;obtain⟨q,a1,a2,a3⟩:=hP.hold (hP.bal.mem root (by simp)) (by grind);rw[X5 (decide_eq_false h16),a1];simp only[ac,ah];rw[gd_t (Y9 (by omega) (by omega)),gd_t (Y9 (by grind) (by omega))];refine⟨_,_,rfl,hF.sh, ?_,fun x hx=> ?_,by grind,⟨fun m h=>(by cases h),aZ _⟩,fun e he=> ?_⟩
   ·refine a2.perm ?_
    grind[epR]
   ·have hx2:x∈root::eps.map epR:=by grind[epR]
    obtain⟨gx,X,hX,hXu⟩:=hF.tr x hx2;exact⟨gx,X,hX,a3.unf hXu⟩
   ·rcases am.1 he with he | he
    ·exact hF.es e he
    ·simp only[bq]at he;subst he;exact⟨hF.ms.1,hF.ms.2,yy1 hv⟩
end
def rts(i:Int):Nat->List V6->List Int
 | _,[]=>[]
 | j,e::es=>if(j:Int)=i then rts i (j+1) es else epR e::rts i (j+1) es
theorem yrv{i:Int}:∀(es:List V6) (j:Nat),i<(j:Int)->rts i j es=es.map epR
 | [],_,_=>rfl
 | e::es,j,h=>by
  have:¬(j:Int)=i:=by omega
  simp only[rts,if_neg this,aC,yrv (i:=i) es (j+1) (by omega)]
theorem ymq{i:Int}:∀(es:List V6) (j:Nat),(j:Int)<=i->i<(j:Int)+es.length->(es.map epR).Perm (epR (rdL es (i-(j:Int)) Y8)::rts i j es)
 | [],j,h,h2=>by grind
 | e::es,j,h,h2=>by
  by_cases hj:(j:Int)=i
  ·have:i-(j:Int)=0:=by omega
   rw[this];simp only[rts,if_pos hj,yrv (i:=i) es (j+1) (by omega),aC];exact cN.refl _
  ·have ih:=ymq (i:=i) es (j+1) (by omega) (by grind);have e1:rdL (e::es) (i-(j:Int)) Y8=rdL es (i-((j+1:Nat):Int)) Y8:=by
    have:(i-(j:Int)).toNat=(i-((j+1:Nat):Int)).toNat+1:=by omega
    grind[rdL,List.getD_cons_succ]
   simp only[rts,if_neg hj,aC,e1]
   grind
theorem yz4{Λ:Nat}{f:Z3}{id i:Int}{gone:V6}(hg:(∀m∈epM gone,GM 1 m)/\((epM gone).length<=Λ/\gone.2.2.2.1.length<=12))(hΛ:Λ<100000)(hes:∀e∈f.2.2.1,(∀m∈epM e,GM 1 m)/\((epM e).length<=Λ/\e.2.2.2.1.length<=12))(hne:f.2.2.1.length<=16){b5:List Sl}{b6 b7 b8 b9 b10 b11:Int}{b12:List Mg}:
  ∀(post pre:List V6) (n:Nat) (out:List V6),f.2.2.1=pre++post->post.length<n->out.length<=pre.length->(∀e∈out,(∀m∈epM e,GM 1 m)/\((epM e).length<=2*Λ/\e.2.2.2.1.length<=12))->
   ∃out',z9k NN n id i (pre.length:Int) f gone b5 b6 b7 b8 b9 b10 b11 b12 out=some ((id,((),((),((),())))),(f,((),(gone,((b5,(b6,(b7,(b8,((),(b9,(b10,(b11,b12)))))))),(out',()))))))/\out'.map epR=out.map epR++rts i pre.length post/\out'.length<=16/\∀e∈out',(∀m∈epM e,GM 1 m)/\((epM e).length<=2*Λ/\e.2.2.2.1.length<=12)
 | _,_,0,_,_,h,_,_=>absurd h (ae _)
 | [],pre,n+1,out,hk,_,ho,hout=>by refine⟨out, ?_,by simp[rts],by grind,hout⟩;simp_all[z2v,zgx]
 | e::post,pre,n+1,out,hk,hn,ho,hout=>by
  simp only[ag]at hn;have hlen:f.2.2.1.length=pre.length+(post.length+1):=by grind
  have hb:pre.length<9223372036854775807:=by omega
  have hin:inB (pre.length:Int) f.2.2.1.length=true:=V7 (by omega) (by omega);have hrd:rdL f.2.2.1 (pre.length:Int) Y8=e:=by grind[V5]
  have he:=hes e (by grind);have hpl:(pre++[e]).length=pre.length+1:=by simp
  obtain⟨r,r1,r2,r3⟩:=yp4 (a:=epM gone) (b:=epM e) hg.1 he.1 (by omega);have r1':zaz NN gone.2.2.2.2 e.2.2.2.2=some r:=r1
  have next:∀out2:List V6,out2.map epR=out.map epR++(if((pre.length:Nat):Int)=i then[]else[epR e])->out2.length<=pre.length+1->(∀e∈out2,(∀m∈epM e,GM 1 m)/\((epM e).length<=2*Λ/\e.2.2.2.1.length<=12))->
    ∃out',z9k NN n id i ((pre++[e]).length:Int) f gone b5 b6 b7 b8 b9 b10 b11 b12 out2=some ((id,((),((),((),())))),(f,((),(gone,((b5,(b6,(b7,(b8,((),(b9,(b10,(b11,b12)))))))),(out',()))))))/\out'.map epR=out.map epR++rts i pre.length (e::post)/\out'.length<=16/\∀e∈out',(∀m∈epM e,GM 1 m)/\((epM e).length<=2*Λ/\e.2.2.2.1.length<=12):=fun out2 h1 h2 h3=>by
   obtain⟨o,o1,o2,o3⟩:=yz4 hg hΛ hes hne (b5:=b5) (b6:=b6) (b7:=b7) (b8:=b8) (b9:=b9) (b10:=b10) (b11:=b11) (b12:=b12) post (pre++[e]) n out2 (by grind) (by omega) (by omega) h3;refine⟨o,o1, ?_,o3⟩
   grind[rts]
  have mem2:∀(x:V6),(∀m∈epM x,GM 1 m)/\((epM x).length<=2*Λ/\x.2.2.2.1.length<=12)->∀y∈out++[x],(∀m∈epM y,GM 1 m)/\((epM y).length<=2*Λ/\y.2.2.2.1.length<=12):=fun x hx y hy=>by grind
  rw[zgx];simp only[z2v,hrd,U1 (q:=e) hb];rw[W8 (by grind),gd_t hin];by_cases hi:((pre.length:Nat):Int)=i
  ·have e0:eqi (pre.length:Int) i=true:=za7.2 hi
   grind
  ·have e0:eqi (pre.length:Int) i=false:=G6 hi;cases eqi e.2.1 id
   ·simp only[cond_false,e0,aN,cond_true];rw[gd_t (Y9 (by grind) (by omega))];exact next (out++[e]) (by grind) (by grind) (mem2 e ⟨he.1,by omega⟩)
   ·simp only[cond_true,e0,aN,r1',ac];rw[gd_t (Y9 (by grind) (by omega))];exact next (out++[(e.1,(gone.2.1,(e.2.2.1,(e.2.2.2.1,r))))]) (by simp[epR];omega) (by grind) (mem2 _ ⟨r2,(by show r.length<=_;omega),he.2.2⟩)
section
variable {Γ K leaf fan bl:Nat}
theorem ym2{Φ b Λ:Nat}{f:Z3}(hF:FI Γ K Φ b Λ leaf fan bl f)(hΛ:Λ<100000)(id:Int):∃f' e,zkq NN f id=some (f',e)/\FI Γ K Φ b (2*Λ) leaf fan bl f':=by
 have hne:=hF.ne;have hF2:FI Γ K Φ b (2*Λ) leaf fan bl f:=hF.mono (ai _) (ai _) (by omega);obtain⟨i,i1,i2⟩:=ytg (f:=f) (id:=id) (by omega);have hes:=hF.es;have hms:=hF.ms;have htr:=hF.tr;have hsh:=hF.sh;have hP:=hF.pi;simp only[zkq,i1,ac];by_cases h0:i<0
 ·simp_all
 ·have i2:=i2.resolve_left h0;have hin:inB i f.2.2.1.length=true:=V7 i2.1 i2.2;have hmem:rdL f.2.2.1 i Y8∈f.2.2.1:=z8x i2.1 i2.2;have hperm:=ymq (i:=i) f.2.2.1 0 (by omega) (by omega);rw[show i-((0:Nat):Int)=i by omega]at hperm;generalize rdL f.2.2.1 i Y8=gone at hmem hperm|-;have hP2:PI f.1 (epR gone::(f.2.2.2.2.1::rts i 0 f.2.2.1)):=hP.perm ((cN.cons _ hperm).trans (cN.swap _ _ _));have hlr:(rts i 0 f.2.2.1).length+1=f.2.2.1.length:=by have:=hperm.length_eq;grind
  obtain⟨q,d1,d2,d3⟩:=hP2.drop (by grind);rw[X5 (by grind),gd_t hin];have d1':z4k NN f.1 gone.2.2.1=some (q,0):=d1;rw[d1'];simp only[ac];obtain⟨out,o1,o2,o3,o4⟩:=yz4 (hes gone hmem) hΛ hes hne (id:=id) (i:=i) (b5:=q) (b6:=f.2.1.1) (b7:=f.2.1.2.1) (b8:=f.2.1.2.2) (b9:=f.2.2.2.1) (b10:=f.2.2.2.2.1) (b11:=f.2.2.2.2.2.1) (b12:=f.2.2.2.2.2.2) f.2.2.1 [] NN [] rfl (by grind[W3]) (ai _) (fun e h=>by cases h);have hz:(([]:List V6).length:Int)=0:=rfl;rw[hz]at o1;simp only[cm,ah,aJ]at o2;rw[o1];simp only[ac];have d2':PI q (f.2.2.2.2.1::out.map epR):=by grind
  have tr2:∀x∈f.2.2.2.2.1::out.map epR,∃g T,GT Γ K Φ b g T/\Unf q x T:=fun x hx=>by
   have hx2:x∈f.2.2.2.2.1::f.2.2.1.map epR:=by grind
   obtain⟨gx,X,hX,hXu⟩:=htr x hx2;exact⟨gx,X,hX,d3.unf d2'.bal (d2'.bal.mem x hx) hXu⟩
  obtain⟨r,r1,r2,r3⟩:=yp4 (a:=epM gone) (b:=f.2.2.2.2.2.2) (hes gone hmem).1 hms.1 (by grind);have r1':zaz NN gone.2.2.2.2 f.2.2.2.2.2.2=some r:=r1;cases eqi f.2.2.2.2.2.1 id
  ·exact⟨_,_,rfl,hsh,d2',tr2,o3,⟨hms.1,by grind⟩,o4⟩
  ·simp only[cond_true,r1',ac];exact⟨_,_,rfl,hsh,d2',tr2,o3,⟨r2,by grind⟩,o4⟩
end
def FS(k leaf fan bl:Nat)(f:Z3):Prop:=FI 1831 212522 (300463*(6*k)) (60-6*k) (6*2^k) leaf fan bl f
theorem x5y{Γ K Φ b Λ leaf fan bl:Nat}{f:Z3}(hF:FI Γ K Φ b Λ leaf fan bl f){n:Int}(h0:0<=n/\n<256):∃i,zw9 NN f n=some i:=by
 have hne:=hF.ne;simp only[zw9];by_cases h:f.2.2.1.length=0
 ·simp_all
 ·have hz:eqi (f.2.2.1.length:Int) 0=false:=G6 (by omega);rw[hz,w64 (by omega) (by omega),bM h0.1];simp only[cond_false,aN];have h1:=Int.emod_nonneg n (show(f.2.2.1.length:Int)≠0 by omega);have h2:=Int.emod_lt_of_pos n (show(0:Int)<(f.2.2.1.length:Int) by omega);simp_all[gd_t,V7]
theorem yve{n:Int}(h0:0<=n/\n<256):∃k,znl NN n=some k:=by simp only[znl];rw[bM h0.1,gd_t (V7 (by omega) (by simp;omega))];simp
theorem yiu{k leaf fan bl:Nat}(hk:k<10)(hl1:1<=leaf)(hl2:leaf<1000000)(hf1:2<=fan)(hf2:fan<1000000){f:Z3}(hF:FS k leaf fan bl f){x:K6}(hn:0<=x.2.1/\x.2.1<256)(hx:okT (.list z14) x.2.2):
  ∃f',znj NN f x=some f'/\FS (k+1) leaf fan bl f':=by
 have hp2:(2:Nat)^(k+1)=2*2^k:=by omega
 have hp1:(2:Nat)^k<=2^10:=dT (by omega) (by omega);have hp0:1<=(2:Nat)^k:=Nat.pow_pos (by omega);have up:∀g,FI 1831 212522 (300463*(6*k)) (60-6*k) (6*2^k) leaf fan bl g->FS (k+1) leaf fan bl g:=fun g h=>h.mono (by omega) (by omega) (by omega);have up2:∀g,FI 1831 212522 (300463*(6*k)) (60-6*k) (2*(6*2^k)) leaf fan bl g->FS (k+1) leaf fan bl g:=fun g h=>h.mono (by omega) (by omega) (by omega);obtain⟨l,l1,l2,l3⟩:=x1f hx (k:=6) (by omega);obtain⟨fa,ea,a1,a2⟩:=yy5 (Γ:=1831) (K:=212522) (leaf:=leaf) (fan:=fan) (bl:=bl) (by omega) (by omega) hl1 hl2 hf1 hf2 (Φ:=300463*(6*k)) (b:=60-6*(k+1)) (Λ:=6*2^k) (f:=f) (l:=l) (FI.mono hF (by omega) (ai _) (ai _)) (by omega) l3 (by omega) (by omega);have a3:FS (k+1) leaf fan bl fa:=a2.mono (ai _) (by omega) (by omega);obtain⟨nm,hnm⟩:=yve hn;obtain⟨fs,es,s1,s2⟩:=yvc hF nm;obtain⟨id,hid⟩:=x5y hF hn;obtain⟨fb,eb,b1,b2⟩:=ym3 hF id;obtain⟨fd,ed,d1,d2⟩:=ym2 hF (by omega) id;have p0:z4u NN f x=some ((),(fd,())):=by grind[z4u]
 have p1t:∀b0,z2u NN b0 true f x=some (.inl ((),(fa,()))):=fun b0=>by simp_all[z2u]
 simp only[znj,p1t,ac]
 have fin:∀b1:Bool,∃f',((z2u NN (aB x.1 (8:Int)) b1 f x).bind fun r23=>
   match r23 with
   | .inl r24=>(some r24.2.1)
   | .inr r25=>((z4u NN r25.2.1 r25.2.2.1).bind fun r26=>some r26.2.1))=some f'/\FS (k+1) leaf fan bl f':=fun b1'=>by
  cases b1'
  ·simp only[z2u,cond_false,hnm,s1,hid,b1,ac]
   grind
  grind
 cases eqi (aB x.1 (8:Int)) 0
 ·cases eqi (aB x.1 (8:Int)) 1
  ·cases eqi (aB x.1 (8:Int)) 2
   ·exact fin _
   grind
  grind
 grind
theorem FS.up{k j leaf fan bl:Nat}(hk:k<=j)(hj:j<=10){f:Z3}(h:FS k leaf fan bl f):FS j leaf fan bl f:=by have hp1:(2:Nat)^k<=2^j:=dT (by omega) hk;exact FI.mono h (by omega) (by omega) (by omega)
theorem ysn{leaf fan bl:Nat}(hl1:1<=leaf)(hl2:leaf<1000000)(hf1:2<=fan)(hf2:fan<1000000){l:List K6}(hx:okT (.list w5) l):∀(d j:Nat) (n:Nat) (f:Z3),j+d=7->d<n->FS j leaf fan bl f->
  ∃f',zgu NN n l (j:Int) f=some (((),()),((),(f',())))/\FS 7 leaf fan bl f'
 | _,_,0,_,_,h,_=>absurd h (ae _)
 | d,j,n+1,f,hj,hn,hF=>by
  rw[y03];simp only[z8s];by_cases h1:(j:Int)<(l.length:Int)
  ·rw[W8 (by grind)];cases d with
   | zero=>
    grind
   | succ d=>
    have w3:aa .i64 ((j:Int)+1)=((j+1:Nat):Int):=by grind[w64]
    obtain⟨hlt,e⟩:=yzk l (j:Int) z98 (by omega) h1;have hmem:okT w5 (rdL (α:=K6) l (j:Int) z98):=by rw[e];exact hx.2 _ _ (List.getElem?_eq_getElem hlt)
    obtain⟨f',s1,s2⟩:=yiu (x:=rdL (α:=K6) l (j:Int) z98) (by omega) hl1 hl2 hf1 hf2 hF (z8w hmem.2.1) hmem.2.2;rw[W8 (by grind),gd_t (V7 (by omega) h1),s1];simp only[ac,w3];exact ysn hl1 hl2 hf1 hf2 hx d (j+1) n f' (by omega) (by omega) s2
  ·rw[X5 (by grind)];exact⟨f,rfl,hF.up (by omega) (by omega)⟩
theorem x1w:Bal [] []:=⟨fun s h=>(by cases h),fun s h=>(by cases h),fun i h=>by constructor<;>grind,fun k h=>(by cases h),fun k h=>by grind[V2],fun i h=>by grind[W5],⟨fun _=>0,fun i h=>by grind[W5]⟩⟩
theorem yxz{leaf fan bl:Nat}(h1:2<=leaf/\leaf<=64)(h2:2<=fan/\fan<=16)(h3:1<=bl/\bl<=64):∃f e,zr2 NN (shp leaf fan bl)=some (f,e)/\FS 0 leaf fan bl f:=by
 have hP:PI [] []:=⟨x1w,by simp,fun s h=>by cases h⟩;obtain⟨q,id,e,a1,a2⟩:=hP.add (nd:=z1x []) (T:= .leaf []) rfl (by simp[z1x]) (by simp);have e0:e=0:=by have:=ycl (N:=NN) (by grind[W3]) (p:=[]) (n:=z1x []) (by simp) (by simp[z1x]);rw[a1]at this;injection this with this;exact congrArg (fun r=>r.2.2) this
 subst e0;rcases a2 with a2 | ⟨_,a3,a4,a5⟩
 ·omega
 have hr:zis NN (shp leaf fan bl)=some true:=by
  show zis NN ((leaf:Int),((fan:Int),(bl:Int)))=some true;simp only[zis]
  grind
 have a1':z8p NN [] (([]:List Z7),(([]:List (List UInt8)),(([]:List Int),(([]:List X0),([]:List Z1)))))=some (q,(id,0)):=a1;simp only[zr2,y7l,hr,ac,aG,cond_false,a1'];refine⟨(q,(shp leaf fan bl,([],(1,(id,(0,[])))))),0,rfl,⟨rfl,a3,fun x hx=> ?_,by simp,⟨fun m h=>(by cases h),aZ _⟩,fun e h=>(by cases h)⟩⟩;simp only[cm,bq]at hx;subst hx;refine⟨1, .leaf [],⟨ai 1, ?_,by decide,aZ _⟩,a5⟩;simp only[VT];exact⟨⟨aX.nil,fun x h=>by cases h⟩,fun x h=>by cases h⟩
theorem yvh{n:Int}(hn:0<=n/\n<256){l:List K6}(hx:okT (.list w5) l):∃f leaf fan bl,zsn NN n l=some f/\FS 7 leaf fan bl f/\2<=leaf/\leaf<=5/\2<=fan/\fan<=4/\1<=bl/\bl<=5:=by
 obtain⟨k,hk⟩:∃k:Nat,n=(k:Int):=⟨n.toNat,by omega⟩;subst hk;have e1:aB (k:Int) 4=((k%4:Nat):Int):=by grind
 have e2:cP (k:Int) 4=((k/4:Nat):Int):=by simp
 have e3:cP (k:Int) 16=((k/16:Nat):Int):=by simp
 have e4:aB ((k/4:Nat):Int) 3=((k/4%3:Nat):Int):=by grind
 have e5:aB ((k/16:Nat):Int) 5=((k/16%5:Nat):Int):=by grind
 have hs:zox NN (k:Int)=some (shp (2+k%4) (2+k/4%3) (1+k/16%5)):=by simp only[zox,w64 (show(-9223372036854775808:Int)<=(k:Int) by omega) (show(k:Int)<9223372036854775808 by omega),e1,e2,e3];rw[wnat (k/4) (by omega),wnat (k/16) (by omega),e4,e5];have q1:aa .i64 ((2:Int)+((k%4:Nat):Int))=((2+k%4:Nat):Int):=wnat (2+k%4) (by omega);have q2:aa .i64 ((2:Int)+((k/4%3:Nat):Int))=((2+k/4%3:Nat):Int):=wnat (2+k/4%3) (by omega);have q3:aa .i64 ((1:Int)+((k/16%5:Nat):Int))=((1+k/16%5:Nat):Int):=wnat (1+k/16%5) (by omega);rw[q1,q2,q3];rfl
 obtain⟨f0,e,n1,n2⟩:=yxz (leaf:=2+k%4) (fan:=2+k/4%3) (bl:=1+k/16%5) (by omega) (by omega) (by omega);obtain⟨f,m1,m2⟩:=ysn (by omega) (by omega) (by omega) (by omega) hx 7 0 NN f0 rfl (by grind[W3]) n2;rw[show((0:Nat):Int)=0 from rfl]at m1
 grind[zsn]
theorem UnfL.mem{p:List Sl}{k:Int}:∀{ks:Trs} {kids:List Int},UnfL p kids ks->k∈kids->∃(a:Trs) (t:Tr) (b:Trs),ks=a.app (.cons t b)/\Unf p k t
 | .nil,[],_,h=>by cases h
 | .nil,_::_,h,_=>by grind[UnfL]
 | .cons _ _,[],h,_=>by grind
 | .cons t ts,x::kids,h,hk=>by
  simp only[UnfL]at h;rcases ar.1 hk with rfl | hk
  ·exact⟨.nil,t,ts,rfl,h.1⟩
  ·obtain⟨a,t',b,e,h'⟩:=UnfL.mem h.2 hk;exact⟨.cons t a,t',b,by rw[e];rfl,h'⟩
structure InF (Γ W g:Nat) (lo hi:B) (T:Tr):Prop where
 g1:1<=g
 vt:VT g lo hi T
 gr:g+T.mv<=Γ
 bw:T.bw Γ<=W
theorem ywi{Γ K Φ b Λ leaf fan bl:Nat}{f:Z3}(hF:FI Γ K Φ b Λ leaf fan bl f):∀i,W5 f.1 i=true->∃T g lo hi,Unf f.1 i T/\InF Γ Φ g lo hi T:=by
 refine x4f hF.pi.bal (fun i=>∃T g lo hi,Unf f.1 i T/\InF Γ Φ g lo hi T) (fun k hk=> ?_) (fun i k hi hQ hk=> ?_)
 ·obtain⟨g,T,hG,hu⟩:=hF.tr k hk;have:=hG.pot;exact⟨T,g,[],[],hu,hG.g1,hG.vt,hG.le,by omega⟩
 ·obtain⟨T,g,lo,hi',hu,hI⟩:=hQ;obtain⟨h1,h2,h3⟩:=y7d.1 hu;cases T with
  | leaf ps=>have e:z74 (slA f.1 i)=z1x ps:=h3;rw[zn3,e]at hk;cases hk
  | node ks piv buf=>obtain⟨kids,sums,e,u2,u3,u4⟩:=h3;rw[zn3,e]at hk;obtain⟨a,t,c,hks,ht⟩:=u4.mem hk;subst hks;have hvt:=hI.vt;simp only[VT]at hvt;obtain⟨pa,pb,l1,h1',ep,hk'⟩:=Kid.of hvt.1;have hg:=hI.gr;have hb:=hI.bw;simp only[Tr.mv,Trs.app_mv,Trs.mv]at hg;simp only[Tr.bw,Tr.fm,Trs.app_fm,Trs.fm]at hb;exact⟨t,g,l1,h1',ht,hI.g1,hk'.ht,by omega,by grind[Tr.bw]⟩
structure NodeF (nd:Nd):Prop where
 ps:Tb 1831 nd.1
 piv:nd.2.1.length<=36640/\∀q∈nd.2.1,q∈KU 1831
 kids:nd.2.2.1.length<=36641/\(nd.2.2.1≠[]->nd.2.2.1.length=nd.2.1.length+1/\nd.1=[])
 sums:nd.2.2.2.1.length=nd.2.2.1.length
 buf:nd.2.2.2.2.length<20000000/\∀m∈nd.2.2.2.2,GM 1831 m
 empty:nd.2.2.1=[]->nd.2.1=[]/\nd.2.2.2.2=[]
theorem yne{leaf fan bl:Nat}{f:Z3}(hF:FS 10 leaf fan bl f):∀i,W5 f.1 i=true->(slA f.1 i).2.1=false/\NodeF (z74 (slA f.1 i)):=by
 intro i hi;obtain⟨T,g,lo,hi',hu,hI⟩:=ywi hF i hi;obtain⟨h1,h2,h3⟩:=y7d.1 hu;have hle:=hI.gr;have hvt:=hI.vt;refine⟨h2, ?_⟩;cases T with
 | leaf ps=>have e:z74 (slA f.1 i)=z1x ps:=h3;rw[e];simp only[VT]at hvt;exact⟨hvt.1.mono (by omega),⟨by simp[z1x],fun q h=>(by cases h)⟩,⟨by simp[z1x],fun h=>absurd rfl h⟩,rfl,⟨by simp[z1x],fun m h=>(by cases h)⟩,fun _=>⟨rfl,rfl⟩⟩
 | node ks piv buf=>obtain⟨kids,sums,e,u2,u3,u4⟩:=h3;rw[e];simp only[VT]at hvt;have hpl:=VTs.plen hvt.1;obtain⟨_,hpk,hkl⟩:=VTs.piv hvt.1;have hkl':=u4.len;have hbl:=zft (show g<=1831 by omega) fun m hm=>(hvt.2 m hm).1;have hbw:=hI.bw;simp only[Tr.bw,Tr.fm]at hbw;exact⟨⟨aX.nil,fun x h=>(by cases h)⟩,⟨by grind,fun q h=>KU.mono (by omega) (hpk q h).1⟩,⟨by grind,fun _=>⟨by grind,rfl⟩⟩,u2,⟨by grind,fun m hm=>((hvt.2 m hm).1).mono (by omega)⟩,fun h=>absurd h u3⟩
theorem yk5(a b c:Int):∃r,zrf NN a b c=some r:=by simp only[zrf];cases decide (b<=a)<;>exact⟨_,rfl⟩
theorem ydu(a:z00):∃r,zit NN a=some r:=by simp only[zit];cases decide (0<=a.1)<;>cases decide (a.1<=a.2)<;>exact⟨_,rfl⟩
theorem x1k(s:Sp)(k:B):∃r,zel NN s k=some r:=by simp only[zel];cases lts k s.1<;>cases eqs s.2 []<;>exact⟨_,rfl⟩
theorem z8k{j:Nat}(h:j<1000000000):aa .i64 ((j:Int)+1)=((j+1:Nat):Int):=wnat (j+1) (by omega)
theorem yhb{t:List Pr}(hl:t.length<1000000000):∀(d j:Nat) (n:Nat),j+d=t.length+1->1<=j->d<n->∃r,zf9 NN n t (j:Int)=some r
 | _,_,0,_,_,h=>absurd h (ae _)
 | d,j,n+1,hj,h1,hn=>by
  rw[zwc];simp only[z7z];by_cases hlt:j<t.length
  ·cases d with
   | zero=>omega
   | succ d=>
    obtain⟨r,ih⟩:=yhb hl d (j+1) n (by omega) (by omega) (by omega);have w:aa .i64 ((j:Int)-1)=((j-1:Nat):Int):=by grind[w64]
    rw[W8 (by grind),w,gd_t (V7 (by omega) (by omega)),gd_t (V7 (by omega) (by omega)),z8k (by omega),ih]
    grind
  simp_all[X5]
theorem ytm{t:List Pr}(hl:t.length<1000000000):∃r,zp5 NN t=some r:=by obtain⟨r,hr⟩:=yhb hl t.length 1 NN (by omega) (by omega) (by grind[W3]);rw[show((1:Nat):Int)=1 from rfl]at hr;simp only[zp5,hr];split<;>grind
theorem yi8{nd:Nd}{s:Sp}(hl:nd.1.length<1000000000):∀(d j:Nat) (n:Nat),j+d=nd.1.length->d<n->∃r,zhb NN n (j:Int) nd s=some r
 | _,_,0,_,h=>absurd h (ae _)
 | 0,j,n+1,hj,_=>by rw[zlu];simp only[z5o];simp_all
 | d+1,j,n+1,hj,hn=>by
  obtain⟨r,ih⟩:=yi8 (s:=s) hl d (j+1) n (by omega) (by omega);obtain⟨r1,e1⟩:=x1k s (rdL nd.1 (j:Int) X6).1;obtain⟨r2,e2⟩:=yk5 ((rdL nd.1 (j:Int) X6).1.length:Int) 1 65535;obtain⟨r3,e3⟩:=yk5 (rdL nd.1 (j:Int) X6).2.2 0 1000000000;rw[zlu];simp only[z5o,e1,e2,e3,z8k (show j<1000000000 by omega),ih];rw[W8 (by grind),gd_t (V7 (by omega) (by omega))]
  grind
theorem yul{nd:Nd}{s:Sp}(hl:nd.1.length<1000000000):∃r,zsu NN nd s=some r:=by
 obtain⟨r,hr⟩:=yi8 (s:=s) hl nd.1.length 0 NN (by omega) (by grind[W3]);rw[show((0:Nat):Int)=0 from rfl]at hr;obtain⟨v,hv⟩:=ytm hl;simp only[zsu,hr,hv]
 grind
theorem yhs{l:List B}{s:Sp}(hl:l.length<1000000000):∀(d j:Nat) (n:Nat),j+d=l.length->d<n->∃r,z6z NN n l (j:Int) s=some r
 | _,_,0,_,h=>absurd h (ae _)
 | 0,j,n+1,hj,_=>by rw[zha];simp only[z30];simp_all
 | d+1,j,n+1,hj,hn=>by
  obtain⟨r,ih⟩:=yhs (s:=s) hl d (j+1) n (by omega) (by omega);have hin:inB (j:Int) l.length=true:=V7 (by omega) (by omega);rw[zha];simp only[z30,z1u,z1v,z8k (show j<1000000000 by omega),ih,cond_true,cond_false,hin];rw[W8 (by grind),gd_t rfl];rcases Nat.eq_zero_or_pos j with h0 | h0
  ·subst h0;have e0:decide ((0:Int)<((0:Nat):Int))=false:=rfl;simp only[e0,cond_false];cases (lts (rdL l ((0:Nat):Int) []) s.1 || eqs (rdL l ((0:Nat):Int) []) s.1)<;>cases eqs s.2 []<;>cases lts (rdL l ((0:Nat):Int) []) s.2<;>first | exact⟨_,rfl⟩ | (refine⟨r, ?_⟩;show z6z NN n l (aa .i64 (((0:Nat):Int)+1)) s=some r;rw[z8k (by omega)];exact ih)
  ·have e0:decide ((0:Int)<(j:Int))=true:=by grind
   have hin2:inB (aa .i64 ((j:Int)-1)) l.length=true:=by grind[w64,V7]
   simp only[e0,cond_true,hin2];generalize(lts (rdL l (j:Int) []) (rdL l (aa .i64 ((j:Int)-1)) []) || eqs (rdL l (j:Int) []) (rdL l (aa .i64 ((j:Int)-1)) []))=x;cases (lts (rdL l (j:Int) []) s.1 || eqs (rdL l (j:Int) []) s.1)<;>cases eqs s.2 []<;>cases lts (rdL l (j:Int) []) s.2<;>cases x<;>first | exact⟨_,rfl⟩ | (refine⟨r, ?_⟩;show z6z NN n l (aa .i64 ((j:Int)+1)) s=some r;grind[z8k])
theorem yu9{l:List B}{s:Sp}(hl:l.length<1000000000):∃r,zkw NN l s=some r:=by obtain⟨r,hr⟩:=yhs (s:=s) hl l.length 0 NN (by omega) (by grind[W3]);rw[show((0:Nat):Int)=0 from rfl]at hr;simp only[zkw,hr];split<;>grind
theorem yia{l:List Sp}{s:Sp}(hl:l.length<1000000000):∀(d j:Nat) (n:Nat),j+d=l.length->d<n->∃r,zdd NN n (j:Int) s l=some r
 | _,_,0,_,h=>absurd h (ae _)
 | 0,j,n+1,hj,_=>by rw[zhc];simp only[z31];simp_all
 | d+1,j,n+1,hj,hn=>by
  obtain⟨r,ih⟩:=yia (s:=s) hl d (j+1) n (by omega) (by omega);rw[zhc];simp only[z31,yz6,z8k (show j<1000000000 by omega),ih];rw[W8 (by grind),gd_t (V7 (by omega) (by omega))]
  grind
theorem yum{g:Nat}(hg:g<1000000){m:Mg}(hm:GM g m)(s:Sp):∃r,zkz NN m s=some r:=by obtain⟨h1,h2,_⟩:=ycb m;obtain⟨r,hr⟩:=yia (l:=rds m++wr m) (s:=s) (by grind) (rds m++wr m).length 0 NN (by omega) (by grind[W3]);rw[show((0:Nat):Int)=0 from rfl]at hr;simp only[zkz,zx2 hm,z9n hg hm];rw[gd_t (Y9 (by omega) (by omega)),hr];cases r<;>exact⟨_,rfl⟩
theorem ycd{g:Nat}(hg:g<1000000){nd:Nd}{s:Sp}(hl:nd.2.2.2.2.length<1000000000)(hm:∀m∈nd.2.2.2.2,GM g m):∀(d j:Nat) (n:Nat),j+d=nd.2.2.2.2.length->d<n->∃r,zf3 NN n (j:Int) nd s=some r
 | _,_,0,_,h=>absurd h (ae _)
 | 0,j,n+1,hj,_=>by rw[zjx];simp only[z42];simp_all
 | d+1,j,n+1,hj,hn=>by
  obtain⟨r,ih⟩:=ycd (s:=s) hg hl hm d (j+1) n (by omega) (by omega);have hin:inB (j:Int) nd.2.2.2.2.length=true:=V7 (by omega) (by omega);have hmem:rdL nd.2.2.2.2 (j:Int) K3∈nd.2.2.2.2:=z8x (by omega) (by omega);obtain⟨r1,e1⟩:=yum hg (hm _ hmem) s;rw[zjx];simp only[z42,y7m,e1,z8k (show j<1000000000 by omega),ih];rw[W8 (by grind),gd_t hin,gd_t hin]
  grind
theorem yce{nd:Nd}{s:Sp}(hl:nd.2.2.1.length<1000000000)(hs:nd.2.2.2.1.length=nd.2.2.1.length):∀(d j:Nat) (n:Nat),j+d=nd.2.2.1.length->d<n->(∃r,zaj NN n (j:Int) nd s=some (.inl r))\/zaj NN n (j:Int) nd s=some (.inr (((),()),(nd,(s,()))))
 | _,_,0,_,h=>absurd h (ae _)
 | 0,j,n+1,hj,_=>by
  rw[zjy];simp only[z43]
  grind
 | d+1,j,n+1,hj,hn=>by
  have ih:=yce (s:=s) hl hs d (j+1) n (by omega) (by omega);have hin:inB (j:Int) nd.2.2.1.length=true:=V7 (by omega) (by omega);have hin2:inB (j:Int) nd.2.2.2.1.length=true:=V7 (by omega) (by omega);obtain⟨r1,e1⟩:=yk5 (rdL nd.2.2.1 (j:Int) (0:Int)) 0 4095;obtain⟨r2,e2⟩:=ydu (rdL nd.2.2.2.1 (j:Int) z0u).1;obtain⟨r3,e3⟩:=ydu (rdL nd.2.2.2.1 (j:Int) z0u).2;rw[zjy];simp only[z43,e1,e2,e3,z8k (show j<1000000000 by omega)];rw[W8 (by grind),gd_t hin,gd_t hin2,gd_t hin2]
  grind
theorem yqp{nd:Nd}(h:NodeF nd)(s:Sp):∃r,zp0 NN nd s=some r:=by
 have hps:=h.ps.len;obtain⟨hp1,_⟩:=h.piv;obtain⟨hk1,_⟩:=h.kids;obtain⟨hb1,hb2⟩:=h.buf;have hsl:=h.sums;obtain⟨r1,e1⟩:=yul (nd:=nd) (s:=s) (by omega);obtain⟨r2,e2⟩:=yu9 (l:=nd.2.1) (s:=s) (by omega);obtain⟨r3,e3⟩:=ycd (g:=1831) (by omega) (nd:=nd) (s:=s) (by omega) hb2 nd.2.2.2.2.length 0 NN (by omega) (by grind[W3]);have e4:=yce (nd:=nd) (s:=s) (by omega) hsl nd.2.2.1.length 0 NN (by omega) (by grind[W3]);rw[show((0:Nat):Int)=0 from rfl]at e3 e4;have p0:∃r,zf2 NN nd s=some r:=by
  simp only[zf2];rcases e4 with⟨r4,e4⟩ | e4
  ·simp_all
  ·rw[e4];simp only[e3];split<;>grind
 obtain⟨r5,e5⟩:=p0;simp only[zp0,e1,e2,e5]
 grind
theorem ync(x:Int):∀(d:Nat) (n:Nat) (out:List Int),d<=100->d<n->out.length+d<1000->∃r,z9l NN n x ((d:Int)-1) out=some ((),(r,()))/\r.length=out.length+d
 | _,0,_,_,h,_=>absurd h (ae _)
 | 0,n+1,out,_,_,_=>by rw[zad];simp only[z0y];simp
 | d+1,n+1,out,hd,hn,ho=>by
  have e1:((d+1:Nat):Int)-1=(d:Int):=by omega
  have w:aa .i64 ((d:Int)-1)=(d:Int)-1:=w64 (by omega) (by omega);have w8:aa .i64 ((8:Int)*(d:Int))=(8:Int)*(d:Int):=w64 (by omega) (by omega);rw[zad];simp only[z0y,e1,w,w8];rw[W8 (by simp),gd_p (by omega),gd_t (Y9 (by omega) (by omega))];obtain⟨r,r1,r2⟩:=ync x d n (out++[aa .u8 (cT x (2^min (cc ((8:Int)*(d:Int))) (aM .i64)))]) (by omega) (by omega) (by grind)
  grind
theorem zcc(x:Int){d:Nat}(hd:d<=100):∃r,U9 NN x (d:Int)=some r/\r.length=d:=by
 obtain⟨r,r1,r2⟩:=ync x d NN [] hd (by grind[W3]) (by grind)
 grind[U9,w64]
theorem ynd(x:Int){d:Nat}(hd:d<=100):∃r,z7n NN x (d:Int)=some r/\r.length=d:=zcc x hd
theorem yoh{l:List Int}(hl:l.length<10000000000000):∀(d j:Nat) (n:Nat) (c:Int),j+d=l.length->d<n->∃r,zak NN n l c (j:Int)=some (r,())
 | _,_,0,_,_,h=>absurd h (ae _)
 | 0,j,n+1,c,hj,_=>by rw[z7x];simp only[z0j];simp_all
 | d+1,j,n+1,c,hj,hn=>by
  have w:aa .i64 ((j:Int)+1)=((j+1:Nat):Int):=by grind[w64]
  rw[z7x];simp only[z0j,w];rw[W8 (by grind),gd_t (V7 (by omega) (by omega))];exact yoh hl d (j+1) n _ (by omega) (by omega)
theorem yfc{l:List Int}(hl:l.length<10000000000000):∃r,z2a NN l=some r:=by obtain⟨r,hr⟩:=yoh hl l.length 0 NN 14695981039346656037 (by omega) (by grind[yb3]);rw[show((0:Nat):Int)=0 from rfl]at hr;simp_all[z2a]
theorem y7f{k:B}(h:k.length<100000):∃r,zbe NN k=some r/\r.length=2+k.length:=by
 obtain⟨r,r1,r2⟩:=zcc (k.length:Int) (d:=2) (by omega);have hb:(U2 k).length=k.length:=by simp[U2]
 have r1':U9 NN (k.length:Int) 2=some r:=r1
 grind[zbe,gd_t,Y9]
theorem ymc{L:Nat}(hL:L<100000):∀(post pre:List B) (n:Nat) (out:List Int),post.length<n->(pre++post).length<10->out.length<=(2+L)*pre.length->(∀k∈post,k.length<=L)->
  ∃r,zaq NN n (pre++post) (pre.length:Int) out=some ((),(r,()))/\r.length<=(2+L)*(pre++post).length
 | _,_,0,_,h,_,_,_=>absurd h (ae _)
 | [],pre,n+1,out,_,_,ho,_=>by simp_all[z1i,zca]
 | k::post,pre,n+1,out,hn,hl,ho,hk=>by
  simp only[ag]at hn;have hb:pre.length<9223372036854775807:=by grind
  have hpl:pre.length<10:=by grind
  have hk1:=hk k (by simp);have hbi:(U2 k).length=k.length:=by simp[U2]
  obtain⟨r2,e1,e2⟩:=ynd (k.length:Int) (d:=2) (by omega);have e1':z7n NN (k.length:Int) 2=some r2:=e1;have hm:(2+L)*pre.length<=(2+L)*10:=Nat.mul_le_mul_left _ (by omega);have hm2:(2+L)*(pre++[k]).length=(2+L)*pre.length+(2+L):=by grind
  obtain⟨r,r1,r3⟩:=ymc hL post (pre++[k]) n (out++r2++U2 k) (by omega) (by grind) (by grind) fun x hx=>hk x (by grind);refine⟨r, ?_,by grind⟩;rw[zca];simp only[z1i,Q7,cond_true,V5,e1']
  grind[gd_t,U0,Y9,U1]
theorem ymb{L:Nat}(hL:L<100000){l:List B}(hl:l.length<10)(hk:∀k∈l,k.length<=L):∃r,z0c NN l=some r/\r.length<=(2+L)*l.length:=by
 obtain⟨r,r1,r2⟩:=ymc hL l [] NN [] (by grind[W3]) (by grind) (aZ _) hk;have hz:(([]:List B).length:Int)=0:=rfl
 grind[z0c]
theorem y07{v:B}(hv:v∈values):v.length<=1000:=by
 have h:(values.all fun v=>Nat.ble v.length 1000)=true:=by decide+kernel
 simp_all
theorem yiz{m:Mg}(hm:GM 1831 m):∃r,zb1 NN m=some r/\r.length<=12000:=by
 have ul:∀u∈UU 1831,u.length<=4000:=fun u hu=>by have:=UU.len hu;omega
 have p0:∀out:List Int,out.length<=9000->∃r,z06 NN m out=some ((),(r,()))/\r.length<=12000:=fun out ho=>by
  obtain⟨r4,e1,e2⟩:=ynd m.2.2.2.2.2.2 (d:=4) (by omega);have e1':z7n NN m.2.2.2.2.2.2 4=some r4:=e1;simp only[z06,e1']
  grind[gd_t,Y9]
 have two:∀a b:B,a.length<=4000->b.length<=4000->∃r,z0c NN [a,b]=some r/\r.length<=8004:=fun a b ha hb=>by
  obtain⟨r,r1,r2⟩:=ymb (L:=4000) (by omega) (l:=[a,b]) (by simp) (fun k hk=>by grind)
  grind
 have one:∀a:B,a.length<=4000->∃r,z0c NN [a]=some r/\r.length<=8004:=fun a ha=>by
  obtain⟨r,r1,r2⟩:=ymb (L:=4000) (by omega) (l:=[a]) (by simp) (fun k hk=>by grind)
  grind
 have fin:∀r:List Int,r.length<=8004->∃z,gd (fits (1+r.length) 1) (match z06 NN m ([(aa .u8 (m.1))]++r)with
   | some r8=>some r8.2.1
   | none=>none)=some z/\z.length<=12000:=fun r hr=>by
  obtain⟨z,z1,z2⟩:=p0 ([(aa .u8 (m.1))]++r) (by grind)
  grind[gd_t,Y9]
 simp only[zb1,y7m];cases vldB m
 ·simp
 rw[X5 (by rfl)];cases hm with
 | put k v n hk hv=>
  obtain⟨r,r1,r2⟩:=two k v (ul k (UU.of hk)) (by grind[y07]);rw[W8 (by rfl),show z0c NN [(zu6 k v n).2.1,(zu6 k v n).2.2.1]=some r from r1]
  grind
 | del k hk=>
  obtain⟨r,r1,r2⟩:=one k (ul k (UU.of hk));rw[X5 (by rfl),W8 (by rfl),show z0c NN [(y4a k).2.1]=some r from r1]
  grind
 | drop s hs=>
  obtain⟨r,r1,r2⟩:=two s.1 s.2 (ul _ hs.2.1) (ul _ hs.2.2);rw[X5 (by rfl),X5 (by rfl),W8 (by rfl)]
  grind
 | stamp s n hs=>
  obtain⟨r,r1,r2⟩:=two s.1 s.2 (ul _ hs.2.1) (ul _ hs.2.2);rw[X5 (by rfl),X5 (by rfl),X5 (by rfl),W8 (by rfl)]
  grind
 | move e he=>
  have l1:=(zcb (G0 he).1).2;have l2:=(zcb (G0 he).2).2;obtain⟨r,r1,r2⟩:=two e.1 e.2 (by omega) (by omega);rw[X5 (by rfl),X5 (by rfl),X5 (by rfl),X5 (by rfl)]
  grind
 | clone e he=>
  have l1:=(zcb (G0 he).1).2;have l2:=(zcb (G0 he).2).2;obtain⟨r,r1,r2⟩:=two e.1 e.2 (by omega) (by omega);rw[X5 (by rfl),X5 (by rfl),X5 (by rfl),X5 (by rfl)]
  grind
theorem zxb{n:Nat}(h:n<4398046511104):fits n 1=true:=ygx (by grind[maxB]) (by grind[maxB])
theorem x2y{nd:Nd}(hl:nd.2.2.1.length<1000000):∀(d j:Nat) (n:Nat) (out:List Int),j+d=nd.2.2.1.length->d<n->out.length<=100+4*j->∃r,zap NN n (j:Int) nd out=some (((),()),(nd,(r,())))/\r.length<=100+4*nd.2.2.1.length
 | _,_,0,_,_,h,_=>absurd h (ae _)
 | 0,j,n+1,out,hj,_,ho=>by
  rw[zc9];simp only[z1h]
  grind
 | d+1,j,n+1,out,hj,hn,ho=>by obtain⟨r1,e1,e2⟩:=zcc (rdL nd.2.2.1 (j:Int) (0:Int)) (d:=4) (by omega);have e1':U9 NN (rdL nd.2.2.1 (j:Int) (0:Int)) 4=some r1:=e1;rw[zc9];simp only[z1h,e1',z8k (show j<1000000000 by omega)];rw[W8 (by grind),gd_t (V7 (by omega) (by omega)),gd_t (Y9 (by omega) (by omega))];exact x2y hl d (j+1) n _ (by omega) (by omega) (by grind)
theorem x2x{nd:Nd}{C:Nat}(hC:C<1000000000)(hl:nd.2.1.length<40000)(hk:∀q∈nd.2.1,q.length<=4000):∀(d j:Nat) (n:Nat) (out:List Int),j+d=nd.2.1.length->d<n->out.length<=C+4002*j->∃r,zao NN n (j:Int) nd out=some (((),()),(nd,(r,())))/\r.length<=C+4002*nd.2.1.length
 | _,_,0,_,_,h,_=>absurd h (ae _)
 | 0,j,n+1,out,hj,_,ho=>by
  rw[zc8];simp only[z1g]
  grind
 | d+1,j,n+1,out,hj,hn,ho=>by have hq:=hk _ (z8x (d:=([]:B)) (show(0:Int)<=(j:Int) by omega) (by omega));obtain⟨r1,e1,e2⟩:=y7f (k:=rdL nd.2.1 (j:Int) []) (by omega);rw[zc8];simp only[z1g,e1,z8k (show j<1000000000 by omega)];rw[W8 (by grind),gd_t (V7 (by omega) (by omega)),gd_t (Y9 (by omega) (by omega))];exact x2x hC hl hk d (j+1) n _ (by omega) (by omega) (by grind)
theorem x2w{nd:Nd}(hl:nd.1.length<40000)(hk:∀p∈nd.1,p.1.length<=4000/\p.2.1.length<=1000):∀(d j:Nat) (n:Nat) (out:List Int),j+d=nd.1.length->d<n->out.length<=100+7000*j->∃r,zan NN n (j:Int) nd out=some ((),(r,()))/\r.length<=100+7000*nd.1.length
 | _,_,0,_,_,h,_=>absurd h (ae _)
 | 0,j,n+1,out,hj,_,ho=>by
  rw[zc7];simp only[z1f]
  grind
 | d+1,j,n+1,out,hj,hn,ho=>by obtain⟨q1,q2⟩:=hk _ (z8x (d:=X6) (show(0:Int)<=(j:Int) by omega) (by omega));obtain⟨r1,e1,f1⟩:=y7f (k:=(rdL nd.1 (j:Int) X6).1) (by omega);obtain⟨r2,e2,f2⟩:=y7f (k:=(rdL nd.1 (j:Int) X6).2.1) (by omega);obtain⟨r3,e3,f3⟩:=zcc (rdL nd.1 (j:Int) X6).2.2 (d:=4) (by omega);have e3':U9 NN (rdL nd.1 (j:Int) X6).2.2 4=some r3:=e3;have hin:inB (j:Int) nd.1.length=true:=V7 (by omega) (by omega);rw[zc7];simp only[z1f,e1,e2,e3',z8k (show j<1000000000 by omega)];rw[W8 (by grind),gd_t hin,gd_t (Y9 (by omega) (by omega)),gd_t hin,gd_t (Y9 (by grind) (by omega)),gd_t hin,gd_t (Y9 (by grind) (by omega))];exact x2w hl hk d (j+1) n _ (by omega) (by omega) (by grind)
theorem x2u{nd:Nd}{C:Nat}(hC:C<4000000000)(hl:nd.2.2.2.2.length<20000000)(hm:∀m∈nd.2.2.2.2,GM 1831 m):∀(d j:Nat) (n:Nat) (out:List Int),j+d=nd.2.2.2.2.length->d<n->out.length<=C+12000*j->∃r,zal NN n (j:Int) nd out=some ((),(r,()))/\r.length<=C+12000*nd.2.2.2.2.length
 | _,_,0,_,_,h,_=>absurd h (ae _)
 | 0,j,n+1,out,hj,_,ho=>by
  rw[zc5];simp only[z1d]
  grind
 | d+1,j,n+1,out,hj,hn,ho=>by obtain⟨r1,e1,f1⟩:=yiz (hm _ (z8x (d:=K3) (show(0:Int)<=(j:Int) by omega) (by omega)));rw[zc5];simp only[z1d,e1,z8k (show j<1000000000 by omega)];rw[W8 (by grind),gd_t (V7 (by omega) (by omega)),gd_t (zxb (by omega))];exact x2u hC hl hm d (j+1) n _ (by omega) (by omega) (by grind)
theorem x5p{nd:Nd}{a:zwn}{i:Int}{out:List Int}(ho:out.length<4000000000):∃r,z8h NN NN i 0 nd out a=some (((),((),i)),(nd,(r,())))/\r.length=out.length+32:=by
 obtain⟨k,hk⟩:∃k,NN=k+5:=⟨NN-5,by grind[W3]⟩;obtain⟨r1,e1,f1⟩:=zcc a.1 (d:=8) (by omega);obtain⟨r2,e2,f2⟩:=zcc a.2.1 (d:=8) (by omega);obtain⟨r3,e3,f3⟩:=zcc a.2.2.1 (d:=8) (by omega);obtain⟨r4,e4,f4⟩:=zcc a.2.2.2 (d:=8) (by omega);have e1':U9 NN a.1 8=some r1:=e1;have e2':U9 NN a.2.1 8=some r2:=e2;have e3':U9 NN a.2.2.1 8=some r3:=e3;have e4':U9 NN a.2.2.2 8=some r4:=e4;have g:∀n,z8h NN (n+5) i 0 nd out a=some (((),((),i)),(nd,(out++r1++r2++r3++r4,()))):=fun n=>by
  have s1:aa .i64 ((0:Int)+1)=1:=by decide
  have s2:aa .i64 ((1:Int)+1)=2:=by decide
  have s3:aa .i64 ((2:Int)+1)=3:=by decide
  have s4:aa .i64 ((3:Int)+1)=4:=by decide
  rw[show n+5=(n+4)+1 from rfl,z1c];simp only[j0];rw[W8 (by decide),X5 (by decide),X5 (by decide),X5 (by decide),W8 (by decide),e1'];simp only;rw[gd_t (Y9 (by omega) (by omega)),s1,show n+4=(n+3)+1 from rfl,z1c];simp only[j0];rw[W8 (by decide),X5 (by decide),X5 (by decide),W8 (by decide),e2'];simp only;rw[gd_t (Y9 (by grind) (by omega)),s2,show n+3=(n+2)+1 from rfl,z1c];simp only[j0];rw[W8 (by decide),X5 (by decide),W8 (by decide),e3'];simp only;rw[gd_t (Y9 (by grind) (by omega)),s3,show n+2=(n+1)+1 from rfl,z1c];simp only[j0];rw[W8 (by decide),W8 (by decide),e4'];simp only;rw[gd_t (Y9 (by grind) (by omega)),s4,z1c];constructor<;>grind
 grind
theorem x2v{nd:Nd}{C:Nat}(hC:C<1000000000)(hl:nd.2.2.2.1.length<40000):∀(d j:Nat) (n:Nat) (out:List Int),j+d=nd.2.2.2.1.length->d<n->out.length<=C+32*j->∃r,zam NN n (j:Int) nd out=some (((),()),(nd,(r,())))/\r.length<=C+32*nd.2.2.2.1.length
 | _,_,0,_,_,h,_=>absurd h (ae _)
 | 0,j,n+1,out,hj,_,ho=>by
  rw[zc6];simp only[z1e]
  grind
 | d+1,j,n+1,out,hj,hn,ho=>by obtain⟨r1,e1,f1⟩:=x5p (nd:=nd) (a:=(((rdL nd.2.2.2.1 (j:Int) z0u).1).1,(((rdL nd.2.2.2.1 (j:Int) z0u).1).2,((rdL nd.2.2.2.1 (j:Int) z0u).2)))) (i:=(j:Int)) (out:=out) (by omega);have hin:inB (j:Int) nd.2.2.2.1.length=true:=V7 (by omega) (by omega);rw[zc6];simp only[z1e,e1,z8k (show j<1000000000 by omega)];rw[W8 (by grind),gd_t hin,gd_t hin,gd_t hin,gd_t hin];exact x2v hC hl d (j+1) n _ (by omega) (by omega) (by omega)
theorem yvf{nd:Nd}(h:NodeF nd):∃r,z3p NN nd=some r/\r.length<1000000000000:=by
 have hps:=h.ps.len;obtain⟨hp1,hp2⟩:=h.piv;obtain⟨hk1,_⟩:=h.kids;obtain⟨hb1,hb2⟩:=h.buf;have hsl:=h.sums;obtain⟨v,hv⟩:=yqp h ([],[]);simp only[z3p,hv];cases v
 ·simp
 rw[X5 (by rfl)];cases eqi (nd.2.2.1.length:Int) 0
 ·obtain⟨r1,e1,f1⟩:=zcc (nd.2.2.1.length:Int) (d:=4) (by omega);have e1':U9 NN (nd.2.2.1.length:Int) 4=some r1:=e1;obtain⟨r2,e2,f2⟩:=x2y (nd:=nd) (by omega) nd.2.2.1.length 0 NN ([(78:Int)]++r1) (by omega) (by grind[W3]) (by grind);obtain⟨r3,e3,f3⟩:=x2x (nd:=nd) (C:=100+4*nd.2.2.1.length) (by omega) (by omega) (fun q hq=>by have:=UU.len (UU.of (hp2 q hq));omega) nd.2.1.length 0 NN r2 (by omega) (by grind[W3]) (by omega);obtain⟨r4,e4,f4⟩:=x2v (nd:=nd) (C:=100+4*nd.2.2.1.length+4002*nd.2.1.length) (by omega) (by omega) nd.2.2.2.1.length 0 NN r3 (by omega) (by grind[W3]) (by omega);obtain⟨r5,e5,f5⟩:=zcc (nd.2.2.2.2.length:Int) (d:=4) (by omega);have e5':U9 NN (nd.2.2.2.2.length:Int) 4=some r5:=e5;obtain⟨r6,e6,f6⟩:=x2u (nd:=nd) (C:=100+4*nd.2.2.1.length+4002*nd.2.1.length+32*nd.2.2.2.1.length+4) (by omega) hb1 hb2 nd.2.2.2.2.length 0 NN (r4++r5) (by omega) (by grind[W3]) (by grind);rw[show((0:Nat):Int)=0 from rfl]at e2 e3 e4 e6;simp only[cond_false,e1']
  grind[gd_t,Y9]
 ·obtain⟨r1,e1,f1⟩:=zcc (nd.1.length:Int) (d:=4) (by omega);have e1':U9 NN (nd.1.length:Int) 4=some r1:=e1;obtain⟨r2,e2,f2⟩:=x2w (nd:=nd) (by omega) (fun p hp=>⟨by have:=UU.len (UU.of (h.ps.key p hp).1);omega,y07 (h.ps.key p hp).2⟩) nd.1.length 0 NN ([(76:Int)]++r1) (by omega) (by grind[W3]) (by grind);rw[show((0:Nat):Int)=0 from rfl]at e2;simp only[cond_true,e1']
  grind[gd_t,Y9]
theorem yod{a:X3}(hl:a.1.length<100000):∀(d j:Nat) (n:Nat) (c:Int),j+d=a.1.length->d<n->∃r,zey NN n c (j:Int) a=some (r,())
 | _,_,0,_,_,h=>absurd h (ae _)
 | 0,j,n+1,c,hj,_=>by rw[zju];simp only[z3y];simp_all
 | d+1,j,n+1,c,hj,hn=>by have ih:=fun c=>yod hl d (j+1) n c (by omega) (by omega);rw[zju];simp only[z3y,z8k (show j<1000000000 by omega)];rw[W8 (by grind),gd_t (V7 (by omega) (by omega))];cases rdL a.1 (j:Int) false<;>exact ih _
theorem yns{a:X3}{l:List Bool}(hl:l.length<100000):∀(d j:Nat) (n:Nat),j+d=l.length->d<n->
  (∃i:Nat,i<l.length/\rdL l (i:Int) false=false/\zai NN n (j:Int) a l=some (.inl ((),(((),(a.2.1,(a.2.2,((i:Int),(0:Int))))),((setL l (i:Int) true),())))))\/zai NN n (j:Int) a l=some (.inr (((),()),(a,((),()))))
 | _,_,0,_,h=>absurd h (ae _)
 | 0,j,n+1,hj,_=>by
  rw[zjt];simp only[z3x]
  grind
 | d+1,j,n+1,hj,hn=>by
  have ih:=yns (a:=a) hl d (j+1) n (by omega) (by omega);have hin:inB (j:Int) l.length=true:=V7 (by omega) (by omega);rw[zjt];simp only[z3x,z8k (show j<1000000000 by omega)];rw[W8 (by grind),gd_t hin];cases h:rdL l (j:Int) false
  ·rw[W8 (by rfl),gd_t hin]
   grind
  grind
theorem x1y{a:X3}(hl:a.1.length<100000):∃b at' e,zni NN a=some (b,(at',e))/\(e≠0\/(e=0/\∃i:Nat,at'=(i:Int)/\i<a.1.length/\rdL a.1 (i:Int) false=false/\b=(setL a.1 (i:Int) true,a.2))):=by
 obtain⟨c,hc⟩:=yod (a:=a) hl a.1.length 0 NN 0 (by omega) (by grind[W3]);rw[show((0:Nat):Int)=0 from rfl]at hc;simp only[zni,y0g,zvd,hc,ac];cases decide (aa .i64 (c-a.2.2)<1)
 ·rw[cond_false];have h:=yns (a:=a) (l:=a.1) hl a.1.length 0 NN (by omega) (by grind[W3]);rw[show((0:Nat):Int)=0 from rfl]at h;simp only[zvc,ah];rw[gd_t (Y9 (by omega) (by omega))];rcases h with⟨i,h1,h2,h3⟩ | h
  ·rw[h3];exact⟨_,_,_,rfl, .inr ⟨rfl,i,rfl,h1,h2,rfl⟩⟩
  ·rw[h];exact⟨_,_,_,rfl, .inl (by decide)⟩
 grind
theorem x1t(d:W0)(at':Int):zgr NN d at'=some (decide (0<=at')&&decide (at'<(d.2.1.length:Int))):=by grind[zgr]
theorem yth{d:W0}(hc:d.2.1.length<100000)(hl:d.2.2.length<100000)(at':Int){b:List Int}(hb:b.length<1000000000000):∃d' e,zmw NN d at' b=some (d',e)/\((e≠0/\d'=d)\/(e=0/\0<=at'/\at'<(d.2.1.length:Int)/\(b.length:Int)<=d.1/\d'=(d.1,(d.2.1,d.2.2++[(false,(at',b))])))):=by
 have hcp:z4r NN d=some d:=by grind[z4r,gd_t,Y9]
 simp only[zmw,x1t,ac,hcp,ah];by_cases h:0<=at'/\at'<(d.2.1.length:Int)
 ·rw[decide_eq_true h.1,decide_eq_true h.2,X5 (by rfl)];by_cases hs:d.1<(b.length:Int)
  ·exact⟨_,_,by rw[W8 (by grind)], .inl ⟨by decide,rfl⟩⟩
  ·rw[X5 (by grind),gd_t (zxb (by omega)),gd_t (Y9 (by omega) (by omega))]
   grind
 ·have:(decide (0<=at')&&decide (at'<(d.2.1.length:Int)))=false:=by grind
  rw[this];exact⟨_,_,rfl, .inl ⟨by decide,rfl⟩⟩
theorem ywa{st:Z4}(hc:st.1.2.1.length<100000)(hl:st.1.2.2.length<100000)(ha:st.2.1.1.length<100000){b:List Int}(hb:b.length<1000000000000):
  ∃st' c,zav NN st b=some (st',c)/\((c= -1/\st'=st)\/∃i:Nat,c=(i:Int)/\i<st.2.1.1.length/\rdL st.2.1.1 (i:Int) false=false/\(i:Int)<(st.1.2.1.length:Int)/\(b.length:Int)<=st.1.1/\
   st'=((st.1.1,(st.1.2.1,st.1.2.2++[(false,((i:Int),b))])),((setL st.2.1.1 (i:Int) true,st.2.1.2),st.2.2))):=by
 obtain⟨a,at',e,t1,t2⟩:=x1y (a:=st.2.1) ha;simp only[zav,t1,ac];rcases t2 with t2 | ⟨rfl,i,rfl,t3,t4,rfl⟩
 ·exact⟨_,_,by simp_all[G6], .inl ⟨rfl,rfl⟩⟩
 ·obtain⟨d',e,p1,p2⟩:=yth hc hl (i:Int) hb;rw[X5 (by rfl),p1];simp only[ac];rcases p2 with⟨p2,_⟩ | ⟨rfl,_,p4,p5,rfl⟩
  ·exact⟨_,_,by simp_all[G6], .inl ⟨rfl,rfl⟩⟩
  grind
abbrev Wt:Type:=Y5
structure QOk (size:Int) (nc:Nat) (used:List Bool) (q:List Wt):Prop where
 all:∀w∈q,w.1=false/\2<=w.2.1/\w.2.1<(nc:Int)/\w.2.1<(used.length:Int)/\rdL used w.2.1 false=true/\(w.2.2.length:Int)<=size
 nd:(q.map fun w=>w.2.1).Nodup
theorem QOk.nil(size:Int)(nc:Nat)(used:List Bool):QOk size nc used []:=⟨fun _ h=>by grind,List.nodup_nil⟩
theorem QOk.len{size:Int}{nc:Nat}{used:List Bool}{q:List Wt}(h:QOk size nc used q):q.length<=used.length:=by
 have:=zka (l:=q.map fun w=>w.2.1) (L:=(List.range used.length).map fun n:Nat=>(n:Int)) h.nd (fun x hx=>by
  obtain⟨w,hw,rfl⟩:=aH.1 hx;obtain⟨_,h0,_,h1,_⟩:=h.all w hw;exact aH.2 ⟨w.2.1.toNat,List.mem_range.2 (by omega),by omega⟩)
 grind
theorem QOk.add{size:Int}{nc:Nat}{used:List Bool}{q:List Wt}(h:QOk size nc used q){i:Nat}(h2:2<=i)(hi:i<used.length)(hf:rdL used (i:Int) false=false)(hc:(i:Int)<(nc:Int)){b:List Int}(hb:(b.length:Int)<=size):
  QOk size nc (setL used (i:Int) true) (q++[(false,((i:Int),b))]):=by
 have hne:∀w∈q,w.2.1≠(i:Int):=fun w hw e=>by
  have:=(h.all w hw).2.2.2.2.1
  grind
 refine⟨fun w hw=> ?_, ?_⟩
 ·rw[za8];rcases am.1 hw with hw | hw
  ·obtain⟨h1,h2,h3,h4,h5,h6⟩:=h.all w hw
   grind[z4t]
  grind[zix]
 ·rw[List.map_append,List.nodup_append];refine⟨h.nd,by simp, ?_⟩
  grind
structure SG (sz:Int) (C:List (List Int)) (nu:Nat) (st:Z4):Prop where
 size:st.1.1=sz
 cells:st.1.2.1=C
 q:QOk sz C.length st.2.1.1 st.1.2.2
 used:st.2.1.1.length=nu
 low:rdL st.2.1.1 0 false=true/\rdL st.2.1.1 1 false=true
abbrev rest(st:Z4):=(st.2.1.2,st.2.2)
theorem SG.taken{sz:Int}{C:List (List Int)}{nu:Nat}{st:Z4}(h:SG sz C nu st)(hC:C.length<50000)(hn:nu<50000){b:List Int}(hb:b.length<1000000000000):
  ∃st' c,zav NN st b=some (st',c)/\((c= -1/\st'=st)\/∃i:Nat,c=(i:Int)/\SG sz C nu st'/\rest st'=rest st/\st'.1.2.2=st.1.2.2++[(false,((i:Int),b))]/\(b.length:Int)<=sz/\2<=i/\i<C.length/\∀w∈st.1.2.2,w.2.1≠(i:Int)):=by
 have hq:=h.q.len;obtain⟨st',c,t1,t2⟩:=ywa (st:=st) (b:=b) (by rw[h.cells];omega) (by rw[h.used]at hq;omega) (by rw[h.used];omega) hb;refine⟨st',c,t1, ?_⟩;rcases t2 with t2 | ⟨i,rfl,i1,i2,i3,i4,rfl⟩
 ·grind
 ·rw[h.cells]at i3;rw[h.size]at i4;have i0:2<=i:=by
   rcases eh i 2 with hlt | hge
   ·rcases(by omega:i=0\/i=1)with rfl | rfl
    ·rw[show((0:Nat):Int)=0 from rfl,h.low.1]at i2;grind
    ·rw[show((1:Nat):Int)=1 from rfl,h.low.2]at i2;grind
   omega
  refine .inr ⟨i,rfl,⟨h.size,h.cells, ?_, ?_, ?_⟩,rfl,rfl,i4,i0,by omega,fun w hw e=> ?_⟩
  ·exact h.q.add i0 i1 i2 (by omega) i4
  ·show(setL st.2.1.1 (i:Int) true).length=nu;rw[za8];exact h.used
  ·exact⟨by show rdL (setL st.2.1.1 (i:Int) true) 0 false=true;rw[z4t (by omega) (by omega) (by omega)];exact h.low.1,
    by show rdL (setL st.2.1.1 (i:Int) true) 1 false=true;rw[z4t (by omega) (by omega) (by omega)];exact h.low.2⟩
  ·have:=(h.q.all w hw).2.2.2.2.1
   grind
theorem ynb(x:Int):∀(d:Nat) (n:Nat) (out:List Int),d<=100->d<n->out.length+d<1000->∃r,zd6 NN n x ((d:Int)-1) out=some ((),(r,()))/\r.length=out.length+d
 | _,0,_,_,h,_=>absurd h (ae _)
 | 0,n+1,out,_,_,_=>by rw[zgm];simp only[z2s];simp
 | d+1,n+1,out,hd,hn,ho=>by
  have e1:((d+1:Nat):Int)-1=(d:Int):=by omega
  have e2:aa .i64 ((8:Int)*(d:Int))=((8*d:Nat):Int):=by grind[w64]
  have e3:aa .i64 ((d:Int)-1)=(d:Int)-1:=w64 (by omega) (by omega);rw[zgm,e1];simp only[z2s,e2,e3];obtain⟨r,r1,r2⟩:=ynb x d n (out++[aa .u8 (cT x (2^min (cc ((8*d:Nat):Int)) (aM .u64)))]) (by omega) (by omega) (by grind);rw[W8 (by simp),gd_p (by omega),gd_t (Y9 (by omega) (by omega)),r1]
  grind
theorem y4j(x:Int){d:Nat}(hd:d<=100):∃r,z4q NN x (d:Int)=some r/\r.length=d:=by
 obtain⟨r,r1,r2⟩:=ynb x d NN [] hd (by grind[W3]) (by grind)
 grind[z4q,w64]
theorem yhy(x:Int):∀(d:Nat) (n:Nat) (out:List Int),d<=100->d<n->out.length+d<1000->∃r,za4 NN n x ((d:Int)-1) out=some ((),(r,()))/\r.length=out.length+d
 | _,0,_,_,h,_=>absurd h (ae _)
 | 0,n+1,out,_,_,_=>by rw[zei];simp only[z1a];simp
 | d+1,n+1,out,hd,hn,ho=>by
  have e1:((d+1:Nat):Int)-1=(d:Int):=by omega
  have e2:aa .i64 ((8:Int)*(d:Int))=((8*d:Nat):Int):=by grind[w64]
  have e3:aa .i64 ((d:Int)-1)=(d:Int)-1:=w64 (by omega) (by omega);rw[zei,e1];simp only[z1a,e2,e3];obtain⟨r,r1,r2⟩:=yhy x d n (out++[aa .u8 (cT x (2^min (cc ((8*d:Nat):Int)) (aM .u64)))]) (by omega) (by omega) (by grind);rw[W8 (by simp),gd_p (by omega),gd_t (Y9 (by omega) (by omega)),r1]
  grind
theorem yud(x:Int){d:Nat}(hd:d<=100):∃r,z8f NN x (d:Int)=some r/\r.length=d:=by
 obtain⟨r,r1,r2⟩:=yhy x d NN [] hd (by grind[W3]) (by grind)
 grind[z8f,w64]
theorem znc(x:Int){d:Nat}(hd:d<=100):∃r,z13 NN x (d:Int)=some r/\r.length=d:=by simp_all[z13,y4j]
theorem z3o(x:Int){d:Nat}(hd:d<=100):∃r,V4 NN x (d:Int)=some r/\r.length=d:=by simp_all[V4,y4j]
theorem ysq:∀(post pre:List (List Int)) (n:Nat) (out:List Int),post.length<n->(pre++post).length<1000000000->out.length+post.flatten.length<1000000000000->zgo NN n (pre++post) (pre.length:Int) out=some ((),(out++post.flatten,()))
 | _,_,0,_,h,_,_=>absurd h (ae _)
 | [],pre,n+1,out,_,_,_=>by rw[zli];simp only[z5c,aj,bj,decide_false,cond_false,List.flatten_nil]
 | x::post,pre,n+1,out,hn,hl,ho=>by
  simp only[ag]at hn;have hb:pre.length<9223372036854775807:=by simp at hl;omega
  simp only[cJ,aq]at ho;have ih:=ysq post (pre++[x]) n (out++x) (by omega) (by simpa using hl) (by rw[aq];omega);rw[zli];simp only[z5c,Q7,cond_true,V5];rw[gd_t U0,gd_t (zxb (by omega)),U1 (q:=x) hb,Q3 (pre:=pre) (q:=x) (post:=post),ih,cJ,List.append_assoc]
theorem ydd{l:List (List Int)}(hl:l.length<1000000000)(hf:l.flatten.length<1000000000000):z9j NN l=some l.flatten:=by
 have h:=ysq l [] NN [] (by grind[W3]) (by grind) (by grind);rw[show(([]:List (List Int)).length:Int)=0 from rfl,ah,ah]at h
 grind[z9j]
theorem ynj{ms:List Mg}(hl:ms.length<1000000)(hm:∀m∈ms,GM 1831 m):∀(d j:Nat) (n:Nat) (out:List Int),j+d=ms.length->d<n->out.length<=100+12000*j->∃r,zd7 NN n ms (j:Int) out=some ((),(r,()))/\r.length<=100+12000*ms.length
 | _,_,0,_,_,h,_=>absurd h (ae _)
 | 0,j,n+1,out,hj,_,ho=>by
  rw[zgn];simp only[z2t]
  grind
 | d+1,j,n+1,out,hj,hn,ho=>by
  obtain⟨b,b1,b2⟩:=yiz (hm (rdL ms (j:Int) K3) (z8x (by omega) (by omega)));obtain⟨r,r1,r2⟩:=ynj hl hm d (j+1) n (out++b) (by omega) (by omega) (by grind);refine⟨r, ?_,r2⟩;rw[zgn];simp only[z2t,z8k (show j<1000000000 by omega)];rw[W8 (by grind),gd_t (V7 (by omega) (by omega)),b1]
  grind[gd_t,zxb]
theorem yni{ms:List Mg}(hl:ms.length<1000)(hm:∀m∈ms,GM 1831 m):∃r,zfk NN ms=some r/\r.length<=13000000:=by
 obtain⟨a,a1,a2⟩:=znc (ms.length:Int) (d:=4) (by omega);have a1':z13 NN (ms.length:Int) 4=some a:=a1;obtain⟨r,r1,r2⟩:=ynj (by omega) hm ms.length 0 NN a (by omega) (by grind[W3]) (by omega);rw[show((0:Nat):Int)=0 from rfl]at r1
 grind[zfk]
theorem ymf{cs:List Int}(hl:cs.length<1000000):∀(d j:Nat) (n:Nat) (out:List Int),j+d=cs.length->d<n->out.length<=100+2*j->∃r,zb9 NN n cs (j:Int) out=some ((),(r,()))/\r.length<=100+2*cs.length
 | _,_,0,_,_,h,_=>absurd h (ae _)
 | 0,j,n+1,out,hj,_,ho=>by
  rw[zfu];simp only[z1y]
  grind
 | d+1,j,n+1,out,hj,hn,ho=>by obtain⟨b,b1,b2⟩:=znc (rdL cs (j:Int) (0:Int)) (d:=2) (by omega);have b1':z13 NN (rdL cs (j:Int) (0:Int)) 2=some b:=b1;obtain⟨r,r1,r2⟩:=ymf hl d (j+1) n (out++b) (by omega) (by omega) (by grind);refine⟨r, ?_,r2⟩;rw[zfu];simp only[z1y,z8k (show j<1000000000 by omega),b1',ac];rw[W8 (by grind),gd_t (V7 (by omega) (by omega)),gd_t (zxb (by omega)),r1]
theorem yxw(gen:Int){cat:List Int}{cells:List Int}(hc:cat.length<100000000000)(hl:cells.length<100000):∃r,zgp NN gen cat cells=some r/\r.length<1000000:=by
 obtain⟨r1,e1,f1⟩:=znc gen (d:=4) (by omega);obtain⟨r2,e2,f2⟩:=znc (cat.length:Int) (d:=4) (by omega);obtain⟨r3,e3⟩:=yfc (l:=cat) (by omega);obtain⟨r4,e4,f4⟩:=y4j r3 (d:=8) (by omega);obtain⟨r5,e5,f5⟩:=znc (cells.length:Int) (d:=2) (by omega);have e1':z13 NN gen 4=some r1:=e1;have e2':z13 NN (cat.length:Int) 4=some r2:=e2;have e4':z4q NN r3 8=some r4:=e4;have e5':z13 NN (cells.length:Int) 2=some r5:=e5;have hfl:([([(83:Int)]:List Int),r1,r2,r4,r5]:List (List Int)).flatten.length=19:=by grind
 obtain⟨r,g1,g2⟩:=ymf (cs:=cells) (by omega) cells.length 0 NN ([([(83:Int)]:List Int),r1,r2,r4,r5]:List (List Int)).flatten (by omega) (by grind[W3]) (by omega);rw[show((0:Nat):Int)=0 from rfl]at g1;obtain⟨c,c1⟩:=yfc (l:=r) (by omega);obtain⟨c2,e6,f6⟩:=y4j c (d:=8) (by omega);have e6':z4q NN c 8=some c2:=e6;refine⟨r++c2, ?_,by grind⟩;simp only[zgp,e1',e2',e3,e4',e5',ac]
 grind[ydd,gd_t,zxb]
theorem yyk{size K:Nat}(hs:1<=size):∀(d:Nat) (b:List Int) (n:Nat) (out:List (List Int)),b.length<=d->d<n->out.length+d<4000000000->b.length<=K->(∀x∈out,x.length<=K)->
  ∃l r,zd8 NN n b (size:Int) out=some ((l,()),(r,()))/\r.length<=out.length+d/\l.length<=K/\∀x∈r,x.length<=K
 | _,_,0,_,_,h,_,_,_=>absurd h (ae _)
 | d,b,n+1,out,hd,hn,ho,hk,hx=>by
  rw[zu4];simp only[z6u];by_cases hb:size<b.length
  ·obtain⟨d,rfl⟩:∃d',d=d'+1:=⟨d-1,by omega⟩;rw[W8 (by grind),gd_t (by grind),gd_t (Y9 (by omega) (by omega)),gd_t (by grind)];have hc:(cut2 b (size:Int) (b.length:Int)).length=b.length-size:=by simp[cut2]
   obtain⟨l,r,e1,e2,e3,e4⟩:=yyk (K:=K) hs d (cut2 b (size:Int) (b.length:Int)) n (out++[cut2 b (0:Int) (size:Int)]) (by omega) (by omega) (by grind) (by omega) (fun y hy=>by grind[cut2])
   grind
  grind
theorem yxy{b:List Int}(hb:b.length<3000000000){size:Int}(hs:1<=size):∃r,zko NN b size=some r/\r.length<=b.length+1/\∀x∈r,x.length<=b.length:=by
 obtain⟨s,rfl⟩:∃s:Nat,size=(s:Int):=⟨size.toNat,by omega⟩;obtain⟨l,r,e1,e2,e3,e4⟩:=yyk (size:=s) (K:=b.length) (by omega) b.length b NN [] (ai _) (by grind[W3]) (by grind) (ai _) (fun x h=>by cases h);simp only[aJ,bk]at e2
 grind[zko,gd_t,Y9]
theorem yz7{f:Z3}{st:Z4}(hl:f.1.length<100000)(hm:f.1.length<=st.2.2.2.2.2.1.length)(hc:f.1.length<=st.2.2.2.2.2.2.1.length):∀(d j:Nat) (n:Nat) (out:List Int),j+d=f.1.length->d<n->out.length<=1000000000+20*j->∃r,z87 NN n (j:Int) f st out=some ((),(r,()))/\r.length<=2000000000
 | _,_,0,_,_,h,_=>absurd h (ae _)
 | 0,j,n+1,out,hj,_,ho=>by
  rw[zfv];simp only[z1z]
  grind
 | d+1,j,n+1,out,hj,hn,ho=>by
  have next:∀out2:List Int,out2.length<=out.length+20->∃r,z87 NN n ((j+1:Nat):Int) f st out2=some ((),(r,()))/\r.length<=2000000000:=fun out2 h=>yz7 hl hm hc d (j+1) n out2 (by omega) (by omega) (by omega)
  obtain⟨a,a1,a2⟩:=z3o ((((rdL f.1 (j:Int) X1).2).2).1) (d:=4) (by omega);obtain⟨b,b1,b2⟩:=z3o (aa .i64 (((BitVec.ofInt (aM .i64) (rdL st.2.2.2.2.2.1 (j:Int) (0:Int))&&&BitVec.ofInt (aM .i64) (65535:Int)).toNat:Int))) (d:=2) (by omega);obtain⟨c,c1,c2⟩:=yud (rdL st.2.2.2.2.2.2.1 (j:Int) (0:Int)) (d:=8) (by omega);have a1':V4 NN ((((rdL f.1 (j:Int) X1).2).2).1) 4=some a:=a1;have b1':V4 NN (aa .i64 (((BitVec.ofInt (aM .i64) (rdL st.2.2.2.2.2.1 (j:Int) (0:Int))&&&BitVec.ofInt (aM .i64) (65535:Int)).toNat:Int))) 2=some b:=b1;have c1':z8f NN (rdL st.2.2.2.2.2.2.1 (j:Int) (0:Int)) 8=some c:=c1;have hfl:∀x:Int,([([x]:List Int),a,b,c]:List (List Int)).flatten.length=15:=fun x=>by grind
  have hjn:∀x:Int,z9j NN ([([x]:List Int),a,b,c]:List (List Int))=some ([([x]:List Int),a,b,c]:List (List Int)).flatten:=fun x=>ydd (by simp) (by grind);rw[zfv];simp only[z1z,z8k (show j<1000000000 by omega),a1',b1',c1',ac,hjn,hfl];rw[W8 (by grind),gd_t (V7 (by omega) (by omega))];cases (rdL f.1 (j:Int) X1).1
  ·rw[W8 (by rfl),gd_t (zxb (by omega))];simp_all
  ·rw[X5 (by rfl),gd_t (V7 (by omega) (by omega)),gd_t (V7 (by omega) (by omega)),gd_t (zxb (by omega))];cases ((rdL f.1 (j:Int) X1).2).1
   ·rw[cond_false,gd_t (V7 (by omega) (by omega)),gd_t (V7 (by omega) (by omega)),gd_t (zxb (by omega))];simp_all
   simp_all
theorem yz8{f:Z3}{st:Z4}(hl:f.2.2.1.length<=16)(he:∀e∈f.2.2.1,(∀m∈e.2.2.2.2,GM 1831 m)/\(e.2.2.2.2.length<1000/\e.2.2.2.1.length<=12)):∀(d j:Nat) (n:Nat) (out:List Int),j+d=f.2.2.1.length->d<n->out.length<=20000000+20000000*j->∃r,zba NN n (j:Int) f st out=some (((),((),())),(f,(st,(r,()))))/\r.length<=400000000
 | _,_,0,_,_,h,_=>absurd h (ae _)
 | 0,j,n+1,out,hj,_,ho=>by
  rw[zfw];simp only[z20]
  grind
 | d+1,j,n+1,out,hj,hn,ho=>by
  obtain⟨h1,h2,h3⟩:=he (rdL f.2.2.1 (j:Int) Y8) (z8x (by omega) (by omega));obtain⟨a,a1,a2⟩:=z3o ((rdL f.2.2.1 (j:Int) Y8).1) (d:=4) (by omega);obtain⟨b,b1,b2⟩:=z3o (((rdL f.2.2.1 (j:Int) Y8).2).1) (d:=4) (by omega);obtain⟨c,c1,c2⟩:=z3o ((((rdL f.2.2.1 (j:Int) Y8).2).2).1) (d:=2) (by omega);obtain⟨e,e1,e2⟩:=z3o ((((((rdL f.2.2.1 (j:Int) Y8).2).2).2).1).length:Int) (d:=1) (by omega);obtain⟨g,g1,g2⟩:=yni h2 h1;have a1':V4 NN ((rdL f.2.2.1 (j:Int) Y8).1) 4=some a:=a1;have b1':V4 NN (((rdL f.2.2.1 (j:Int) Y8).2).1) 4=some b:=b1;have c1':V4 NN ((((rdL f.2.2.1 (j:Int) Y8).2).2).1) 2=some c:=c1;have e1':V4 NN ((((((rdL f.2.2.1 (j:Int) Y8).2).2).2).1).length:Int) 1=some e:=e1;have hbi:(U2 (((((rdL f.2.2.1 (j:Int) Y8).2).2).2).1)).length=((((rdL f.2.2.1 (j:Int) Y8).2).2).2).1.length:=by simp[U2]
  have hfl:([a,b,c,e,U2 (((((rdL f.2.2.1 (j:Int) Y8).2).2).2).1),g]:List (List Int)).flatten.length<=14000000:=by grind
  obtain⟨r,r1,r2⟩:=yz8 hl he d (j+1) n (out++([a,b,c,e,U2 (((((rdL f.2.2.1 (j:Int) Y8).2).2).2).1),g]:List (List Int)).flatten) (by omega) (by omega) (by grind);refine⟨r, ?_,r2⟩;rw[zfw];simp only[z20,z8k (show j<1000000000 by omega),a1',b1',c1',e1',g1,ac];rw[W8 (by grind),gd_t (V7 (by omega) (by omega)),gd_p (by grind[maxB]),ydd (by simp) (by omega)];simp only[ac];rw[gd_t (zxb (by omega)),r1]
theorem yqy{f:Z3}{st:Z4}(hl:f.1.length<100000)(hm:f.1.length<=st.2.2.2.2.2.1.length)(hc:f.1.length<=st.2.2.2.2.2.2.1.length)(hl2:f.2.2.1.length<=16)
  (he:∀e∈f.2.2.1,(∀m∈e.2.2.2.2,GM 1831 m)/\(e.2.2.2.2.length<1000/\e.2.2.2.1.length<=12)) (hms:(∀m∈f.2.2.2.2.2.2,GM 1831 m)/\f.2.2.2.2.2.2.length<1000):∃r,zgq NN f st=some r/\r.length<=2000000000:=by
 obtain⟨a,a1,a2⟩:=z3o f.2.2.2.1 (d:=4) (by omega);obtain⟨b,b1,b2⟩:=z3o f.2.2.2.2.2.1 (d:=4) (by omega);obtain⟨c,c1,c2⟩:=z3o f.2.2.2.2.1 (d:=2) (by omega);obtain⟨e,e1,e2⟩:=z3o (f.2.2.1.length:Int) (d:=1) (by omega);obtain⟨k,k1,k2⟩:=z3o (f.1.length:Int) (d:=2) (by omega);obtain⟨g,g1,g2⟩:=yni hms.2 hms.1;have a1':V4 NN f.2.2.2.1 4=some a:=a1;have b1':V4 NN f.2.2.2.2.2.1 4=some b:=b1;have c1':V4 NN f.2.2.2.2.1 2=some c:=c1;have e1':V4 NN (f.2.2.1.length:Int) 1=some e:=e1;have k1':V4 NN (f.1.length:Int) 2=some k:=k1;generalize hx:([(67:Int),(aa .u8 (f.2.1.1)),(aa .u8 (f.2.1.2.1)),(aa .u8 (f.2.1.2.2))]:List Int)=x1;have hx1:x1.length=4:=by grind
 have hfl:([x1,a,b,c,g,e]:List (List Int)).flatten.length<=14000000:=by grind
 obtain⟨r,r1,r2⟩:=yz8 (st:=st) hl2 he f.2.2.1.length 0 NN ([x1,a,b,c,g,e]:List (List Int)).flatten (by omega) (by grind[W3]) (by omega);obtain⟨r',r1',r2'⟩:=yz7 (st:=st) hl hm hc f.1.length 0 NN (r++k) (by omega) (by grind[W3]) (by grind);rw[show((0:Nat):Int)=0 from rfl]at r1 r1';refine⟨r', ?_,r2'⟩;simp only[zgq,a1',b1',c1',e1',g1,ac,hx]
 grind[ydd,gd_t,zxb]
theorem ypc(a0:Int)(a1:List (List Int))(a2:List Y5)(a3:List Bool)(a4:List Int)(a5 a6 a7 a8:Int)(a9 a10 a11 a12 M C:List Int):
  zgl NN a0 a1 a2 a3 a4 a5 a6 a7 a8 a9 a10 a11 a12=(zav NN ((a0,(a1,a2)),((a3,(a4,a5)),(a6,(a7,(a8,(M,(C,a9))))))) a12).bind fun r=>
   some (((r.1.1.1,(r.1.1.2.1,(r.1.1.2.2,(r.1.2.1.1,(r.1.2.1.2.1,(r.1.2.1.2.2,(a6,(a7,(a8,((),((),a9))))))))))),r.2),(a10,(a11,()))):=by
 simp only[zgl,zav]
 grind
structure NI (p:List Sl) (i:Nat) (q:List Wt) (M C:List Int):Prop where
 ml:M.length=i
 cl:C.length=i
 un:∀j:Nat,j<i->W5 p (j:Int)=false->rdL M (j:Int) 0= -1
 us:∀j:Nat,j<i->W5 p (j:Int)=true->∃b,z3p NN (z74 (slA p (j:Int)))=some b/\(false,(rdL M (j:Int) 0,b))∈q/\z2a NN b=some (rdL C (j:Int) 0)
 ne:∀j k:Nat,j<i->k<i->W5 p (j:Int)=true->W5 p (k:Int)=true->rdL M (j:Int) 0=rdL M (k:Int) 0->j=k
theorem NI.nil(p:List Sl):NI p 0 [] [] []:=⟨rfl,rfl,fun j h=>absurd h (ae _),fun j h=>absurd h (ae _),fun j k h=>absurd h (ae _)⟩
theorem ykl{l:List Int}{j:Nat}(h:j<l.length)(x:Int):rdL (l++[x]) (j:Int) 0=rdL l (j:Int) 0:=by grind[rdL]
theorem ykm(l:List Int)(x:Int):rdL (l++[x]) (l.length:Int) 0=x:=by simp[rdL]
theorem NI.step{p:List Sl}{i:Nat}{q:List Wt}{M C:List Int}(h:NI p i q M C){c k:Int}(q2:List Wt)(hu:W5 p (i:Int)=false->c= -1)
  (hs:W5 p (i:Int)=true->(∀w∈q,w.2.1≠c)/\∃b,z3p NN (z74 (slA p (i:Int)))=some b/\(false,(c,b))∈q++q2/\z2a NN b=some k):NI p (i+1) (q++q2) (M++[c]) (C++[k]):=by
 obtain⟨h1,h2,h3,h4,h5⟩:=h;have rm:rdL (M++[c]) (i:Int) 0=c:=by grind[ykm]
 have rc:rdL (C++[k]) (i:Int) 0=k:=by grind[ykm]
 have om:∀j:Nat,j<i->rdL (M++[c]) (j:Int) 0=rdL M (j:Int) 0:=fun j hj=>ykl (by omega) c;have oc:∀j:Nat,j<i->rdL (C++[k]) (j:Int) 0=rdL C (j:Int) 0:=fun j hj=>ykl (by omega) k;constructor<;>grind
section
variable {f:Z3} {old:Z4} (hM:old.2.2.2.2.2.1=[]) (hl:f.1.length<50000) (hN:∀i,W5 f.1 i=true->(slA f.1 i).2.1=false/\NodeF (z74 (slA f.1 i))) {sz:Int} {C:List (List Int)} {nu:Nat} (hC:C.length<50000) (hn:nu<50000)
include hM hl in
theorem ywt{j:Nat}(hj:j<f.1.length)(c k:Int)(q:List Wt)(u:List Bool)(la:List Int)(ke lo ge se:Int)(ca M K g:List Int)(hml:M.length=j)(hkl:K.length=j):
  z6d NN (j:Int) c k sz C q u la ke lo ge se ca M K f old g=some (((),((),((),((),((),(j:Int)))))),((sz,(C,(q,(u,(la,(ke,(lo,(ge,(se,((),((),ca))))))))))),(M++[c],(K++[k],(f,((),(old,(g,())))))))):=by
 simp only[z6d,z8g,hM];rw[X5 (decide_eq_false (by simp)),W8 (decide_eq_true (by omega)),gd_t (Y9 (by omega) (by omega)),gd_t (Y9 (by omega) (by omega))];rfl
include hM hl hN hC hn in
theorem ynf(la:List Int)(ke lo ge se:Int)(ca X Y:List Int):∀(d j:Nat) (n:Nat) (q:List Wt) (u:List Bool) (M K:List Int),j+d=f.1.length->d<n->SG sz C nu ((sz,(C,q)),((u,(la,ke)),(lo,(ge,(se,(X,(Y,ca)))))))->NI f.1 j q M K->
  z6f NN n (j:Int) sz C q u la ke lo ge se ca M K f old []=some (.inl (((),([],false)),(old,())))\/
  ∃q' u' M' K',z6f NN n (j:Int) sz C q u la ke lo ge se ca M K f old []=some (.inr (((),((),())),((sz,(C,(q',(u',(la,(ke,(lo,(ge,(se,((),((),ca))))))))))),(M',(K',((),([],())))))))/\
   SG sz C nu ((sz,(C,q')),((u',(la,ke)),(lo,(ge,(se,(X,(Y,ca)))))))/\NI f.1 f.1.length q' M' K'
 | _,_,0,_,_,_,_,_,h,_,_=>absurd h (ae _)
 | 0,j,n+1,q,u,M,K,hj,_,hg,hi=>by
  rw[zjs];simp only[z3w,hM];have hx:(bif decide ((f.1.length:Int)<(([]:List Int).length:Int))then(([]:List Int).length:Int)else(f.1.length:Int))=(f.1.length:Int):=by rw[X5 (decide_eq_false (by simp))]
  rw[hx,X5 (decide_eq_false (by omega))];refine .inr ⟨q,u,M,K,rfl,hg, ?_⟩;have:j=f.1.length:=by omega
  rw[<-this];exact hi
 | d+1,j,n+1,q,u,M,K,hj,hd,hg,hi=>by
  have hin:inB (j:Int) f.1.length=true:=V7 (by omega) (by omega);have hx:(bif decide ((f.1.length:Int)<(([]:List Int).length:Int))then(([]:List Int).length:Int)else(f.1.length:Int))=(f.1.length:Int):=by rw[X5 (decide_eq_false (by simp))]
  have p2:=fun c k q u=>ywt (sz:=sz) (C:=C) hM hl (j:=j) (by omega) c k q u la ke lo ge se ca M K [] hi.ml hi.cl;have hw:=z8k (show j<1000000000 by omega)
  have next:∀(c k:Int) (q2:List Wt) (u2:List Bool),SG sz C nu ((sz,(C,q++q2)),((u2,(la,ke)),(lo,(ge,(se,(X,(Y,ca)))))))->NI f.1 (j+1) (q++q2) (M++[c]) (K++[k])->
   z6f NN n ((j+1:Nat):Int) sz C (q++q2) u2 la ke lo ge se ca (M++[c]) (K++[k]) f old []=some (.inl (((),([],false)),(old,())))\/
   ∃q' u' M' K',z6f NN n ((j+1:Nat):Int) sz C (q++q2) u2 la ke lo ge se ca (M++[c]) (K++[k]) f old []=some (.inr (((),((),())),((sz,(C,(q',(u',(la,(ke,(lo,(ge,(se,((),((),ca))))))))))),(M',(K',((),([],())))))))/\
    SG sz C nu ((sz,(C,q')),((u',(la,ke)),(lo,(ge,(se,(X,(Y,ca)))))))/\NI f.1 f.1.length q' M' K':=fun c k q2 u2 h1 h2=>ynf la ke lo ge se ca X Y d (j+1) n (q++q2) u2 (M++[c]) (K++[k]) (by omega) (by omega) h1 h2
  rw[zjs];simp only[z3w,hM];rw[hx,W8 (decide_eq_true (by omega)),W8 (decide_eq_true (by omega)),gd_t hin];have hub:W5 f.1 (j:Int)=(rdL f.1 (j:Int) X1).1:=by unfold W5 slA;rw[decide_eq_true (show(0:Int)<=(j:Int) by omega),decide_eq_true (show(j:Int)<(f.1.length:Int) by omega)];rfl
  cases hu:(rdL f.1 (j:Int) X1).1
  ·rw[cond_false];simp only[z6c,cond_false,hu,ac,p2,z6e,hw];have:=next (-1) 0 [] u (by rw[aj];exact hg) (hi.step [] (fun _=>rfl) (fun h=>by rw[hub,hu]at h;cases h))
   rw[aj]at this;exact this
  ·obtain⟨n1,n2⟩:=hN (j:Int) (hub.trans hu);have n1':(rdL f.1 (j:Int) X1).2.1=false:=n1;obtain⟨b,b1,b2⟩:=yvf n2;obtain⟨k,k1⟩:∃k,z2a NN b=some k:=yfc (by omega);have b1':z3p NN (rdL f.1 (j:Int) X1).2.2.2=some b:=b1;have hk:zsk NN old (j:Int) (rdL f.1 (j:Int) X1).2.2.2=some false:=by
    simp only[zsk,hM];rw[W8 (decide_eq_true (by simp))]
   obtain⟨st',c,t1,t2⟩:=hg.taken hC hn (b:=b) (by omega);rw[cond_true,n1',cond_false];simp only[z6c,cond_false,hu,n1',aN,cond_true,b1',k1,hk,ac];have tm:=ypc sz C q u la ke lo ge se ca M K b X Y;rw[t1]at tm;simp only[ac]at tm;rw[tm];simp only[ac];rcases t2 with⟨rfl,rfl⟩ | ⟨i,rfl,g1,g2,g3,g4,g5,g6,g7⟩
   ·rw[W8 (decide_eq_true (by omega))];exact .inl rfl
   ·obtain⟨⟨s1,s2,s3⟩,⟨s4,s5,s6⟩,s7⟩:=st';simp only[cR.injEq]at g2;obtain⟨⟨rfl,rfl⟩,rfl⟩:=g2;have e1:s1=sz:=g1.size;have e2:s2=C:=g1.cells;have e3:s3=q++[(false,((i:Int),b))]:=g3;subst e1;subst e2;subst e3;simp only[];rw[X5 (decide_eq_false (by omega))];simp only[p2,ac,z6e,hw];exact next (i:Int) k [(false,((i:Int),b))] s4 g1 (hi.step _ (fun h=>by rw[hub,hu]at h;cases h) fun _=>⟨g7,b,b1,by simp,k1⟩)
end
theorem nodes_first{f:Z3}{old:Z4}(hM:old.2.2.2.2.2.1=[])(hl:f.1.length<50000)(hN:∀i,W5 f.1 i=true->(slA f.1 i).2.1=false/\NodeF (z74 (slA f.1 i))){sz:Int}{C:List (List Int)}{nu:Nat}(hC:C.length<50000)(hn:nu<50000)(hg:SG sz C nu old)(hq:old.1.2.2=[]):
  zir NN old f=some (old,([],false))\/∃st',zir NN old f=some (st',([],true))/\SG sz C nu st'/\NI f.1 f.1.length st'.1.2.2 st'.2.2.2.2.2.1 st'.2.2.2.2.2.2.1/\st'.2.1.2=old.2.1.2/\st'.2.2.1=old.2.2.1/\st'.2.2.2.1=old.2.2.2.1/\st'.2.2.2.2.1=old.2.2.2.2.1/\st'.2.2.2.2.2.2.2=old.2.2.2.2.2.2.2:=by
 obtain⟨⟨s1,s2,s3⟩,⟨s4,s5,s6⟩,lo,ge,se,M,K,ca⟩:=old;have hM:M=[]:=hM;have hq:s3=[]:=hq;have e1:s1=sz:=hg.size;have e2:s2=C:=hg.cells;subst e1;subst e2;subst hq;have h:=ynf (old:=((s1,(s2,[])),((s4,(s5,s6)),(lo,(ge,(se,(M,(K,ca)))))))) hM hl hN hC hn s5 s6 lo ge se ca M K f.1.length 0 NN [] s4 [] [] (by omega) (by grind[W3]) hg (NI.nil _);rw[show((0:Nat):Int)=0 from rfl]at h;simp only[zir];rcases h with h | ⟨q',u',M',K',h,h2,h3⟩
 ·grind
 ·rw[h];exact .inr ⟨_,rfl,⟨h2.size,h2.cells,h2.q,h2.used,h2.low⟩,h3,rfl,rfl,rfl,rfl,rfl⟩
theorem save_l0{old:Z4}{ps:List (List Int)}(hp:ps.length<4000000000)(hb:∀b∈ps,b.length<1000000000000){sz:Int}{C:List (List Int)}{nu:Nat}(hC:C.length<50000)(hn:nu<50000)(b0 b1:List Int):
  ∀(d j:Nat) (n:Nat) (st:Z4) (ca:List Int),j+d=ps.length->d<n->SG sz C nu st->ca.length<=st.1.2.2.length->
  zcl NN n b0 b1 (j:Int) st old ps ca=some (.inl ((),((old,250),())))\/
  ∃st' ca',zcl NN n b0 b1 (j:Int) st old ps ca=some (.inr (((),((),((),(b0,(b1,()))))),(st',((),(old,(ca',()))))))/\SG sz C nu st'/\rest st'=rest st/\ca'.length<=st'.1.2.2.length/\∃more,st'.1.2.2=st.1.2.2++more
 | _,_,0,_,_,_,h,_,_=>absurd h (ae _)
 | 0,j,n+1,st,ca,hj,_,hg,hc=>by rw[zlj];simp only[z5d];rw[X5 (decide_eq_false (by omega))];exact .inr ⟨st,ca,rfl,hg,rfl,hc,[],by simp⟩
 | d+1,j,n+1,st,ca,hj,hd,hg,hc=>by
  have hin:inB (j:Int) ps.length=true:=V7 (by omega) (by omega);obtain⟨st',c,t1,t2⟩:=hg.taken hC hn (b:=rdL ps (j:Int) []) (hb _ (z8x (by omega) (by omega)));have hq:=hg.q.len;rw[hg.used]at hq;have w:aa .i64 ((j:Int)+1)=((j+1:Nat):Int):=by grind[w64]
  rw[zlj];simp only[z5d,w];rw[W8 (decide_eq_true (by omega)),gd_t hin,t1];simp only[ac];rcases t2 with⟨rfl,rfl⟩ | ⟨i,rfl,g1,g2,g3,g4,g5,g6,g7⟩
  ·simp
  ·rw[X5 (decide_eq_false (by omega)),gd_t (Y9 (by omega) (by omega))];rcases save_l0 hp hb hC hn b0 b1 d (j+1) n st' (ca++[(i:Int)]) (by omega) (by omega) g1 (by grind)with h | ⟨st2,ca2,h1,h2,h3,h4,more,h5⟩
   ·exact .inl h
   grind
theorem yj1{d:W0}(hc:d.2.1.length<100000)(hl:d.2.2.length<100000):z4r NN d=some d:=by grind[z4r,gd_t,Y9]
theorem yp5{d:W0}(hc:d.2.1.length<100000)(hl:d.2.2.length<90000):zaw NN d=some (d.1,(d.2.1,d.2.2++[(true,(0,[]))])):=by grind[zaw,yj1,gd_t,Y9]
theorem yvi{a:X3}(hl:a.1.length<100000)(h:a.2.1=[]):zfl NN a=some (a.1,([],a.2.2)):=by
 obtain⟨n,hn⟩:∃n,NN=n+1:=⟨NN-1,by grind[W3]⟩;have hz:z6w NN NN (0:Int) a a.1=some (((),((),())),(a,((),(a.1,())))):=by rw[show z6w NN NN=z6w NN (n+1)from congrArg _ hn,zu5];simp_all[z6v]
 grind[zfl,gd_t,Y9]
def zc2(q:List Wt)(c:List (List Int)):List (List Int):=q.foldl (fun c w=>if w.1=true then c else setL c w.2.1 w.2.2) c
theorem ydy:∀(q:List Wt) (c:List (List Int)),(zc2 q c).length=c.length
 | [],_=>rfl
 | w::q,c=>by
  show(zc2 q (if w.1=true then c else setL c w.2.1 w.2.2)).length=_;rw[ydy q];split
  ·rfl
  ·exact za8 _ _ _
theorem ydx{i:Int}(hi:0<=i):∀(q:List Wt) (c:List (List Int)),(∀w∈q,w.1=false->0<=w.2.1/\w.2.1≠i)->rdL (zc2 q c) i []=rdL c i []
 | [],_,_=>rfl
 | w::q,c,h=>by
  show rdL (zc2 q (if w.1=true then c else setL c w.2.1 w.2.2)) i []=_;rw[ydx hi q _ fun x hx=>h x (ay _ hx)];split
  ·rfl
  ·rename_i hw;obtain⟨h1,h2⟩:=h w (by simp) (by simpa using hw);exact z4t h1 hi (fun e=>h2 e.symm)
theorem yir:∀(q:List Wt) (c:List (List Int)),(∀w∈q,w.1=false/\0<=w.2.1/\w.2.1<(c.length:Int))->(q.map fun w=>w.2.1).Nodup->∀w∈q,rdL (zc2 q c) w.2.1 []=w.2.2
 | [],_,_,_,w,hw=>by grind
 | v::q,c,h,hn,w,hw=>by
  obtain⟨h1,h2,h3⟩:=h v (by simp);rw[aC,List.nodup_cons]at hn;show rdL (zc2 q (if v.1=true then c else setL c v.2.1 v.2.2)) w.2.1 []=_;rw[h1,if_neg (by simp)];rcases ar.1 hw with rfl | hw
  ·rw[ydx h2 q _ fun x hx _=>⟨(h x (ay _ hx)).2.1,fun e=>hn.1 (aH.2 ⟨x,hx,e⟩)⟩];exact zix h2 h3
  ·exact yir q _ (fun x hx=>by rw[za8];exact h x (ay _ hx)) hn.2 w hw
theorem mem_setL2{α:Type}{l:List α}{i:Int}{y x:α}(h:x∈setL l i y):x∈l\/x=y:=List.mem_or_eq_of_mem_set h
theorem applyW_mem:∀(q:List Wt) (c:List (List Int)) (x:List Int),x∈zc2 q c->x∈c\/∃w∈q,w.1=false/\x=w.2.2
 | [],_,_,h=> .inl h
 | w::q,c,x,h=>by
  rcases applyW_mem q _ x h with h | ⟨v,hv,h1,h2⟩
  ·have h:x∈(if w.1=true then c else setL c w.2.1 w.2.2):=h;split at h
   ·exact .inl h
   ·rename_i hw;rcases mem_setL2 h with h | h
    ·exact .inl h
    ·exact .inr ⟨w,by simp,by simpa using hw,h⟩
  ·exact .inr ⟨v,ay _ hv,h1,h2⟩
theorem yjp{d:W0}{sz:Int}{q0:List Wt}:∀(post pre:List Wt) (n:Nat) (c:List (List Int)),d.2.2=pre++post->post.length<n->(pre++post).length<1000000->(∀w∈post,w.1=false->0<=w.2.1/\w.2.1<(c.length:Int))->
  zgs NN n (pre.length:Int) d sz c q0=some (((),()),((),((sz,((),())),(zc2 post c,(q0,())))))
 | _,_,0,_,_,h,_,_=>absurd h (ae _)
 | [],pre,n+1,c,hk,_,_,_=>by rw[zlk];simp only[z5e,hk,aj,bj,decide_false,cond_false];rfl
 | w::post,pre,n+1,c,hk,hn,hl,hw=>by
  simp only[ag]at hn;have hb:pre.length<9223372036854775807:=by grind
  have hlen:d.2.2.length=pre.length+(post.length+1):=by grind
  have hin:inB (pre.length:Int) d.2.2.length=true:=V7 (by omega) (by omega);have hrd:rdL d.2.2 (pre.length:Int) z2d=w:=by grind[V5]
  have hs:d.2.2=(pre++[w])++post:=by grind
  rw[zlk];simp only[z5e,hrd,U1 (q:=w) hb];rw[W8 (decide_eq_true (by omega)),gd_t hin];cases h1:w.1
  ·obtain⟨h2,h3⟩:=hw w (by simp) h1;rw[W8 (by rfl),gd_t hin,gd_t hin,gd_t (V7 h2 h3),yjp post (pre++[w]) n (setL c w.2.1 w.2.2) hs (by omega) (by grind) fun x hx hx1=>by grind[za8]]
   grind[zc2]
  ·rw[X5 (by rfl),yjp post (pre++[w]) n c hs (by omega) (by grind) fun x hx hx1=>hw x (ay _ hx) hx1]
   grind[zc2]
theorem x1z{d:W0}(hc:d.2.1.length<100000)(hl:d.2.2.length<100000)(hw:∀w∈d.2.2,w.1=false->0<=w.2.1/\w.2.1<(d.2.1.length:Int)):zgt NN d=some (d.1,(zc2 d.2.2 d.2.1,[])):=by
 have h:=yjp (d:=d) (sz:=d.1) (q0:=d.2.2) d.2.2 [] NN d.2.1 rfl (by grind[W3]) (by grind) hw;rw[show(([]:List Wt).length:Int)=0 from rfl]at h
 grind[zgt,yj1]
structure StOk (f:Z3) (st:Z4):Prop where
 sz:1<=st.1.1/\st.1.1<=1500
 nc:st.1.2.1.length<=60
 cl:∀c∈st.1.2.1,(c.length:Int)<=st.1.1
 qu:st.1.2.2=[]
 ml:st.2.2.2.2.2.1.length=f.1.length
 kl:st.2.2.2.2.2.2.1.length=f.1.length
 un:∀j:Nat,j<f.1.length->W5 f.1 (j:Int)=false->rdL st.2.2.2.2.2.1 (j:Int) 0= -1
 us:∀j:Nat,j<f.1.length->W5 f.1 (j:Int)=true->∃b,z3p NN (z74 (slA f.1 (j:Int)))=some b/\2<=rdL st.2.2.2.2.2.1 (j:Int) 0/\rdL st.2.2.2.2.2.1 (j:Int) 0<(st.1.2.1.length:Int)/\
  rdL st.1.2.1 (rdL st.2.2.2.2.2.1 (j:Int) 0) []=b/\z2a NN b=some (rdL st.2.2.2.2.2.2.1 (j:Int) 0)
 ne:∀j k:Nat,j<f.1.length->k<f.1.length->W5 f.1 (j:Int)=true->W5 f.1 (k:Int)=true->rdL st.2.2.2.2.2.1 (j:Int) 0=rdL st.2.2.2.2.2.1 (k:Int) 0->j=k
 ul:st.2.1.1.length=st.1.2.1.length
 al:st.2.1.2=([],0)
 u0:rdL st.2.1.1 0 false=true/\rdL st.2.1.1 1 false=true
 mu:∀j:Nat,j<f.1.length->W5 f.1 (j:Int)=true->rdL st.2.1.1 (rdL st.2.2.2.2.2.1 (j:Int) 0) false=true
 ca:st.2.2.2.2.2.2.2.length<=60
structure FC (f:Z3):Prop where
 pl:f.1.length<50000
 nd:∀i,W5 f.1 i=true->(slA f.1 i).2.1=false/\NodeF (z74 (slA f.1 i))
 el:f.2.2.1.length<=16
 es:∀e∈f.2.2.1,(∀m∈e.2.2.2.2,GM 1831 m)/\(e.2.2.2.2.length<1000/\e.2.2.2.1.length<=12)
 ms:(∀m∈f.2.2.2.2.2.2,GM 1831 m)/\f.2.2.2.2.2.2.length<1000
theorem ylm(ca:List Int)(st:Z4):z9s NN NN ca 0 st []=some (((),((),ca)),(st,((),()))):=by obtain⟨n,hn⟩:∃n,NN=n+1:=⟨NN-1,by grind[W3]⟩;rw[show z9s NN NN=z9s NN (n+1)from congrArg _ hn,y02];constructor<;>grind
theorem x2b{f:Z3}(hF:FC f){sz:Int}(hs:1<=sz/\sz<=1500){nc:Nat}(hnc:nc<=60){u:List Bool}{lo:Int}
  (hg:SG sz (az nc []) nc ((sz,(az nc [],[])),((u,([],0)),(lo,(0,(0,([],([],[])))))))):
  ∃r,znh NN ((sz,(az nc [],[])),((u,([],0)),(lo,(0,(0,([],([],[]))))))) f=some r/\
   (r.2≠0\/r.2=0/\∃d,zgt NN r.1.1=some d/\StOk f (d,r.1.2)):=by
 have hC:(az nc ([]:List Int)).length<50000:=by grind
 rcases nodes_first (f:=f) (old:=((sz,(az nc [],[])),((u,([],0)),(lo,(0,(0,([],([],[])))))))) rfl hF.pl hF.nd hC (show nc<50000 by omega) hg rfl with h | ⟨st',h,n1,n2,n3,n4,n5,n6,n7⟩
 ·simp_all[znh]
 ·obtain⟨ct,c1,c2⟩:=yqy (f:=f) (st:=st') (by have:=hF.pl;omega) (by rw[n2.ml];simp) (by rw[n2.cl];simp) hF.el hF.es hF.ms;obtain⟨ps,p1,p2,p3⟩:=yxy (b:=ct) (by omega) (size:=sz) hs.1;have hsz:st'.1.1=sz:=n1.size;have hz:((0:Nat):Int)=0:=rfl;have hl:=save_l0 (old:=((sz,(az nc [],[])),((u,([],0)),(lo,(0,(0,([],([],[])))))))) (ps:=ps) (by omega) (fun b hb=>by grind) hC (show nc<50000 by omega) [] ct ps.length 0 NN st' [] (by omega) (by grind[W3]) n1 (aZ _);rw[hz]at hl;simp only[znh,h,ac];rw[X5 (by rfl),c1];simp only[ac,hsz,p1];rcases hl with hl | ⟨st2,ca,l1,l2,l3,l4,more,l5⟩
  ·simp_all
  ·rw[l1];obtain⟨⟨s1,s2,s3⟩,⟨s4,s5,s6⟩,s7⟩:=st2;have e1:s1=sz:=l2.size;have e2:s2=az nc []:=l2.cells;subst e1;subst e2;have hq:=l2.q.len;have hu2:=l2.used;have hq:s3.length<=s4.length:=hq;have hu2:s4.length=nc:=hu2;have hca:ca.length<=s3.length:=l4;obtain⟨sup,u1,u2⟩:=yxw 1 (cat:=ct) (cells:=ca) (by omega) (by omega);have w1:aa .i64 ((0:Int)+1)=1:=by decide
   have m1:aB (1:Int) 2=1:=by decide
   have f1:zaw NN (s1,(az nc [],s3))=some (s1,(az nc [],s3++[(true,(0,[]))])):=yp5 (by grind) (by grind);obtain⟨d',e,d1,d2⟩:=yth (d:=(s1,(az nc [],s3++[(true,(0,[]))]))) (by grind) (by grind) 1 (b:=sup) (by omega);simp only[w1,m1,f1,u1,ac,d1];rcases d2 with⟨d2,_⟩ | ⟨rfl,d2,d3,d4,rfl⟩
   ·simp_all[G6]
   ·have d3:(1:Int)<((az nc ([]:List Int)).length:Int):=d3;have d4:(sup.length:Int)<=s1:=d4;rw[X5 (by rfl)];have f2:zaw NN (s1,(az nc [],s3++[(true,(0,[]))]++[(false,(1,sup))]))=some (s1,(az nc [],s3++[(true,(0,[]))]++[(false,(1,sup))]++[(true,(0,[]))])):=yp5 (by grind) (by grind);have hr5:(s5,s6)=(([]:List Int),(0:Int)):=(congrArg (fun x=>x.1) l3).trans n3;have hr7:s7=st'.2.2:=congrArg (fun x=>x.2) l3;simp only[cR.injEq]at hr5;obtain⟨rfl,rfl⟩:=hr5;have hcm:zfl NN (s4,(([]:List Int),(0:Int)))=some (s4,([],0)):=yvi (by grind) rfl;simp only[f2,ac,ah,aj,aJ,ylm,hcm];rw[gd_t (by decide),gd_t (by decide)];refine⟨_,rfl, .inr ⟨rfl, ?_⟩⟩;have hQ:QOk s1 (az nc ([]:List Int)).length s4 s3:=l2.q;rw[cn]at hQ d3;have hfl:∀w∈s3++[(true,((0:Int),([]:List Int)))]++[(false,((1:Int),sup))]++[(true,((0:Int),([]:List Int)))],w.1=false->0<=w.2.1/\w.2.1<((az nc ([]:List Int)).length:Int):=by
     intro w hw h1;rw[cn];simp only[am,bq]at hw;rcases hw with((hw | rfl) | rfl) | rfl
     ·obtain⟨_,a2,a3,_⟩:=hQ.all w hw;omega
     all_goals grind
    have hsy:=x1z (d:=(s1,(az nc [],s3++[(true,((0:Int),([]:List Int)))]++[(false,((1:Int),sup))]++[(true,((0:Int),([]:List Int)))]))) (by grind) (by grind) hfl;refine⟨_,hsy, ?_⟩;have hap:zc2 (s3++[(true,((0:Int),([]:List Int)))]++[(false,((1:Int),sup))]++[(true,((0:Int),([]:List Int)))]) (az nc [])=setL (zc2 s3 (az nc [])) 1 sup:=by simp[zc2]
    have hal:(zc2 s3 (az nc ([]:List Int))).length=nc:=by simp[ydy]
    have h5:s3=st'.1.2.2++more:=l5;have hMap:s7.2.2.2.1=st'.2.2.2.2.2.1:=by grind
    have hChk:s7.2.2.2.2.1=st'.2.2.2.2.2.2.1:=by grind
    refine⟨hs, ?_, ?_,rfl, ?_, ?_, ?_, ?_, ?_, ?_,rfl,⟨l2.low.1,l2.low.2⟩,fun j hj hu'=> ?_, ?_⟩
    ·simp_all
    ·show ∀c∈zc2 _ _,(c.length:Int)<=s1;intro c hc;rw[hap]at hc;rcases mem_setL2 hc with hc | rfl
     ·rcases applyW_mem _ _ _ hc with hc | ⟨w,hw,_,rfl⟩
      ·grind
      ·exact(hQ.all w hw).2.2.2.2.2
     omega
    ·show s7.2.2.2.1.length=_;rw[hMap];exact n2.ml
    ·show s7.2.2.2.2.1.length=_;rw[hChk];exact n2.cl
    ·intro j hj hu';show rdL s7.2.2.2.1 (j:Int) 0= -1;rw[hMap];exact n2.un j hj hu'
    ·intro j hj hu';obtain⟨b,b1,b2,b3⟩:=n2.us j hj hu';have hin:(false,(rdL st'.2.2.2.2.2.1 (j:Int) 0,b))∈s3:=by grind
     obtain⟨_,a2,a3,_⟩:=hQ.all _ hin;refine⟨b,b1, ?_, ?_, ?_, ?_⟩
     ·grind
     ·simp_all
     ·show rdL (zc2 _ _) (rdL s7.2.2.2.1 (j:Int) 0) []=b;rw[hMap,hap];have a2':2<=rdL st'.2.2.2.2.2.1 (j:Int) 0:=a2;rw[z4t (by decide) (by omega) (by omega)];exact yir s3 (az nc []) (fun w hw=>by
       obtain⟨c1,c2,c3,_⟩:=hQ.all w hw
       grind) hQ.nd _ hin
     grind
    ·intro j k hj hk hju hku he;have he:rdL s7.2.2.2.1 (j:Int) 0=rdL s7.2.2.2.1 (k:Int) 0:=he;rw[hMap]at he;exact n2.ne j k hj hk hju hku he
    ·show s4.length=(zc2 _ _).length;rw[hap,za8,hal];exact hu2
    ·obtain⟨b,b1,b2,b3⟩:=n2.us j hj hu';have hin:(false,(rdL st'.2.2.2.2.2.1 (j:Int) 0,b))∈s3:=by rw[h5];exact List.mem_append_left _ b2
     obtain⟨_,a2,a3,_,a5,_⟩:=hQ.all _ hin;show rdL s4 (rdL s7.2.2.2.1 (j:Int) 0) false=true;rw[hMap];exact a5
    ·show ca.length<=60;omega
theorem ye8{size n:Int}(hs:1<=size/\size<=65536)(hn:1<=n/\n<=4096):zej NN size n=some ((size,(az n.toNat [],[])),0):=by
 simp only[zej,zbu,zbv];rw[X5 (decide_eq_false (by omega)),X5 (decide_eq_false (by omega)),X5 (decide_eq_false (by omega)),X5 (decide_eq_false (by omega))]
 grind[maxB,gd_t]
theorem x2g{w:ztj}(h1:0<=w.1/\w.1<256)(h2:0<=w.2.1/\w.2.1<256):∃(size:Int) (n:Nat),zsm NN w=some (size,(az n [],[]))/\1<=size/\size<=1500/\1<=n/\n<=60:=by
 obtain⟨k,hk⟩:∃k:Nat,w.2.1=(k:Int):=⟨w.2.1.toNat,by omega⟩;have a1:aa .i64 w.2.1=(k:Int):=by grind[w64]
 have a2:aa .i64 ((30:Int)+(k:Int))=((30+k:Nat):Int):=by grind[w64]
 have a3:aB (k:Int) 24=((k%24:Nat):Int):=by grind
 have a4:aa .i64 ((4:Int)+((k%24:Nat):Int))=((4+k%24:Nat):Int):=by grind[w64]
 have b1:=ye8 (size:=((30+k:Nat):Int)) (n:=60) (by omega) (by omega);have b2:=ye8 (size:=((30+k:Nat):Int)) (n:=((4+k%24:Nat):Int)) (by omega) (by omega);have b3:=ye8 (size:=1500) (n:=((4+k%24:Nat):Int)) (by omega) (by omega);have b4:=ye8 (size:=1500) (n:=60) (by omega) (by omega);simp only[zsm,a1,a2,a3,a4]
 grind
theorem ytb{n first:Nat}(hn:n<100000):∀(d j:Nat) (m:Nat) (u:List Bool),j+d=n->d<m->u.length=j->(∀i:Nat,i<j->rdL u (i:Int) false=decide (i<first))->
  ∃u',zkp NN m (n:Int) (first:Int) (j:Int) 0 u []=some (((),()),((),(((),((),(0:Int))),(u',([],())))))/\u'.length=n/\∀i:Nat,i<n->rdL u' (i:Int) false=decide (i<first)
 | _,_,0,_,_,h,_,_=>absurd h (ae _)
 | 0,j,m+1,u,hj,_,hu,hx=>by
  rw[zog];simp only[z79]
  grind
 | d+1,j,m+1,u,hj,hm,hu,hx=>by
  rw[zog];simp only[z79,z8k (show j<1000000000 by omega)];rw[W8 (decide_eq_true (by omega)),gd_t (Y9 (by omega) (by omega))];refine ytb hn d (j+1) m _ (by omega) (by omega) (by grind) fun i hi=> ?_;rcases Nat.lt_succ_iff_lt_or_eq.1 hi with hi | rfl
  ·simp_all[rdL]
  ·have:rdL (u++[decide ((i:Int)<(first:Int))]) (i:Int) false=decide ((i:Int)<(first:Int)):=by simp_all[rdL]
   grind
theorem x2h{n first:Nat}(hn:1<=n/\n<=4096)(hf:first<=n):∃u,zwz NN (n:Int) (first:Int)=some ((u,([],0)),0)/\u.length=n/\∀i:Nat,i<n->rdL u (i:Int) false=decide (i<first):=by
 obtain⟨u,u1,u2,u3⟩:=ytb (n:=n) (first:=first) (by omega) n 0 NN [] (by omega) (by grind[W3]) rfl (fun i h=>absurd h (ae _));rw[show((0:Nat):Int)=0 from rfl]at u1;refine⟨u, ?_,u2,u3⟩;simp only[zwz,zbs,zbt,u1]
 grind
theorem x5z{leaf fan bl:Nat}{f:Z3}(h:FS 7 leaf fan bl f):FC f:=by
 refine⟨by have:=h.pi.len;omega,yne (h.up (by omega) (by omega)),h.ne,fun e he=> ?_, ?_⟩
 ·obtain⟨h1,h2,h3⟩:=h.es e he;exact⟨fun m hm=>(h1 m hm).mono (by omega),by grind[epM],h3⟩
 ·obtain⟨h1,h2⟩:=h.ms;exact⟨fun m hm=>(h1 m hm).mono (by omega),by omega⟩
theorem yqu{x:zed}(hx:okT zee x):∃m leaf fan bl,zsl NN x=some m/\(FS 7 leaf fan bl m.2.1/\(2<=leaf/\leaf<=5/\2<=fan/\fan<=4))/\(m.2.2≠0\/m.2.2=0/\StOk m.2.1 m.1):=by
 have hx:(Lit.int .u8 x.1).wf=true/\okT (.list w5) x.2.1/\(Lit.int .u8 x.2.2.1).wf=true/\(Lit.int .u8 x.2.2.2.1).wf=true/\(Lit.int .u8 x.2.2.2.2).wf=true:=hx;obtain⟨h1,h2,h3,h4,h5⟩:=hx;have h1:=z8w h1;have h3:=z8w h3;have h4:=z8w h4;have h5:=z8w h5;obtain⟨f,leaf,fan,bl,f1,f2,z1,z2,z3,z4,_⟩:=yvh (n:=x.1) (by omega) h2;obtain⟨sz,nc,d1,d2,d3,d4,d5⟩:=x2g (w:=x.2.2) (by omega) (by omega);obtain⟨k,hk⟩:∃k:Nat,x.2.2.2.2=(k:Int):=⟨x.2.2.2.2.toNat,by omega⟩;have e1:aa .i64 (aB x.2.2.2.2 4)=((k%4:Nat):Int):=by rw[hk,bM (by omega)];exact wnat (k%4) (by omega)
 have hlen:((az nc ([]:List Int)).length:Int)=(nc:Int):=by simp
 have e2:aa .i64 ((nc:Int)-2)=(nc:Int)-2:=w64 (by omega) (by omega);have e3:aa .i64 ((2:Int)+((k%4:Nat):Int))=((2+k%4:Nat):Int):=wnat (2+k%4) (by omega);simp only[zsl,f1,d1,ac,e1,zwy,hlen,e2,e3];rw[X5 (decide_eq_false (by omega))];by_cases hc:(nc:Int)-2<=((k%4:Nat):Int)
 ·rw[W8 (decide_eq_true hc)];simp only[ac];exact⟨_,leaf,fan,bl,by rw[W8 (by decide)],⟨f2,z1,z2,z3,z4⟩, .inl (show(1:Int)≠0 by decide)⟩
 ·rw[X5 (decide_eq_false hc)];obtain⟨u,u1,u2,u3⟩:=x2h (n:=nc) (first:=2+k%4) (by omega) (by omega);have g0:=u3 0 (by omega);have g1:=u3 1 (by omega);rw[decide_eq_true (by omega)]at g0 g1;have hg:SG sz (az nc []) nc ((sz,(az nc [],[])),((u,([],0)),(((k%4:Nat):Int),(0,(0,([],([],[]))))))):=⟨rfl,rfl,QOk.nil _ _ _,u2,g0,g1⟩;obtain⟨r,s1,s2⟩:=x2b (x5z f2) ⟨d2,d3⟩ d5 hg;rw[u1];simp only[ac,s1];rcases s2 with s2 | ⟨s2,d,s3,s4⟩
  ·have e4:(!(eqi r.2 0))=true:=by grind[G6]
   rw[W8 e4];simp only[ac];exact⟨_,leaf,fan,bl,by rw[W8 e4],⟨f2,z1,z2,z3,z4⟩, .inl s2⟩
  ·have e4:(!(eqi r.2 0))=false:=by simp_all
   rw[X5 e4];simp only[ac];exact⟨_,leaf,fan,bl,by rw[X5 e4,s3];rfl,⟨f2,z1,z2,z3,z4⟩, .inr ⟨rfl,s4⟩⟩
end Ds
