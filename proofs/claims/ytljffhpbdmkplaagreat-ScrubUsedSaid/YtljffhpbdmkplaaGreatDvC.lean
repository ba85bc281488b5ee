/- A call of yield, from the iterator's side. -/
import Derived.Test.YtljffhpbdmkplaaGreatDvB
import Derived.RangeFuncCalls
import Derived.OrdersIn
import Derived.Orders
import Derived.LoopNIn
set_option linter.all false
open Array renaming all_toList->eu,ext'->bC,getD_eq_getD_getElem?->bi,getElem?_append_left->cK,getElem?_eq_getElem->dC,getElem?_eq_some_iff->aS,map->cv,mem_def->cz,replicate->br
open Bool renaming and_eq_true->ab,and_self->c9,and_true->bv,not_eq_true'->au,or_eq_true->aA,true_and->aR
open List renaming all_cons->bc,all_eq_true->aE,append_nil->aj,filter_eq_self->cw,foldl_cons->bh,getD_eq_getElem?_getD->bg,getElem?_append_left->bN,getElem?_cons_succ->ce,getElem?_cons_zero->cZ,isEmpty_iff->bZ,length_cons->ag,map_congr_left->cg,map_cons->aC,mem_append->am,mem_cons->ar,mem_cons_of_mem->ay,mem_filter->aV,mem_map->aH,mem_range->bJ,of_mem_zip->eF,pairwise_append->bz,pairwise_cons->aD,range->bF,range'->dc,range'_succ->cQ,range_eq_range'->dj,take_of_length_le->bu
open Nat renaming add_zero->bD,beq->ax,ble->bG,blt->cj,blt_eq->cE,eq_of_beq_eq_true->af,le_of_lt->dQ,le_refl->ai,lt_irrefl->d6,lt_of_lt_of_le->aT
open Option renaming bind->eE,bind_assoc->aW,bind_eq_some_iff->aw,bind_some->ac,getD_some->dJ,isNone_iff_eq_none->aQ,isSome_iff_exists->bm,map_eq_some_iff->bS,map_map->eH,map_some->aK,some->aL,toList->dZ
namespace Go.Dv
open Go.RowKit
variable [LTab]
variable {R:Type}
abbrev RF(ro:Option Nat):Fence:={fn:=fun _=>True,depth:=none,alive:=false,round:=ro}
structure SoundR (P:Program) (id:Nat) (c:CtrR):Prop where
 tms:c.cin.tms=(LTab.tab id).ps.toList++(LTab.tab id).tms
 np:c.np=(LTab.tab id).ps.size
 once:(zx6 c.cin.tms&&c.cin.tms.all fun t=>cj t (LTab.tab id).nt)=true
 small:(LTab.tab id).nt<=4096
 round:∀(w:World) (S:Nat->Prop) (γ:Nat->Loc) (B:Nat->Prop) (v:c.cin.T) (tmps:Array Value) (l:Nat) (rec:Loop) {R:Type} (t:c.T) (K:Ex->St->List Nat->Option R) (r:R),
  MemRel w S γ (mofO c.cin.objs v.2) B->(∀k,B k->k<w.heap.size)->B l->¬S l->w.heap[l]? =some (.loop rec)->rec.state= .ready->rec.assign=(LTab.tab id).assign->rec.body=(LTab.tab id).body->tmps.size=(LTab.tab id).nt->
  RepAs w S γ (mofO c.cin.objs v.2) (mkL c.cin.sh v.1) (c.cin.tms.map fun t=>tmps.getD t undef)->c.F v=some t->c.out t K=some r->
  RoundIn (RF none) 0 P l rec.fn tmps rec.assign rec.body w fun e w'=>∃ex S' γ' τ ns,e= .returned (.bool (exN ex))/\w'.heap[l]? =some (.loop {rec with state:=(stOf ex.key).1,pending:=(stOf ex.key).2})/\K ex τ ns=some r/\
   BackOk (fun k=>k=l) B w S γ (mofO c.cin.objs v.2) w' S' γ' ⟨fun i=>bif ax i 0 then .bool (exN ex)else .undef,τ.m⟩ ns (.bool (exN ex))
theorem yif:∀(l:List (Nat×Value)) (a:Array Value),(l.foldl (fun t (p:Nat×Value)=>t.setIfInBounds p.1 p.2) a).size=a.size
 | [],_=>rfl
 | (p,v)::l,a=>by simp only[bh];rw[yif l];simp
theorem y0v{t:Nat}:∀(l:List (Nat×Value)) (a:Array Value),t∉l.map (·.1)->(l.foldl (fun t (p:Nat×Value)=>t.setIfInBounds p.1 p.2) a).getD t undef=a.getD t undef
 | [],_,_=>rfl
 | (p,v)::l,a,h=>by simp only[aC,ar,not_or]at h;simp only[bh];rw[y0v l _ h.2];simp[bi,Array.getElem?_setIfInBounds,Ne.symm h.1]
theorem yo2:∀(ps:List Nat) (vs:List Value) (a:Array Value),ps.Nodup->(∀p,p∈ps->p<a.size)->vs.length=ps.length->(ps.map fun t=>((ps.zip vs).foldl (fun t (p:Nat×Value)=>t.setIfInBounds p.1 p.2) a).getD t undef)=vs
 | [],vs,_,_,_,hl=>by cases vs with | nil=>rfl | cons _ _=>simp at hl
 | p::ps,[],_,_,_,hl=>by simp at hl
 | p::ps,v::vs,a,hn,hs,hl=>by
  simp only[List.nodup_cons]at hn;simp only[List.zip_cons_cons,bh,aC];congr 1
  ·rw[y0v]
   ·have:=hs p (by simp);simp[this]
   ·intro h;obtain⟨⟨q,x⟩,h1,h2⟩:=aH.1 h;simp only at h2;subst h2;exact hn.1 (eF h1).1
  ·exact yo2 ps vs _ hn.2 (fun q hq=>by simpa using hs q (by simp[hq])) (by simpa using hl)
theorem ym4(ps:Array Tmp)(args tmps:Array Value):(ps.zip args).foldl (fun tmps (t,a)=>tmps.setIfInBounds t a) tmps=(ps.toList.zip args.toList).foldl (fun t (p:Nat×Value)=>t.setIfInBounds p.1 p.2) tmps:=by rw[<-Array.foldl_toList,Array.toList_zip]
theorem ypn(ro:Option Nat){n:Nat}{P:Program}{l:Nat}{f:FuncId}{tmps:Array Value}{assign body:Code}{w:World}{R:Ending->World->Prop}(h:RoundIn (RF none) n P l f tmps assign body w R):RoundIn (RF ro) n P l f tmps assign body w R:=by
 cases ro with
 | none=>exact h
 | some l=>exact h
theorem x4e{P:Program}{E:Env}(hE:∀id c,E.rounds id=some c->SoundR P id c){X:Cx}{w:World}{S:Nat->Prop}{γ:Nat->Loc}{σ:St}{a:Act}(hrel:Rel X w S γ σ a){as:List AV}{vals:List Value}(hr:RepAs w S γ σ.m as vals){d n:Nat}(hd:d<a.tmps.size){x:Value}(hx:RepA w S γ σ.m (.yld n) x){σ':St}(h:yldA E σ d n as some=some σ'):
  ∃l fn tmps assign body,x= .func (.yield l) #[] #[]/\(Instr.yield l vals.toArray).run P w= .ok (.round l fn tmps assign body) w/\
   RoundIn (RF none) 0 P l fn tmps assign body w fun e w'=>∃v,e= .returned v/\∃S' γ',Rel X w' S' γ' σ' (a.put (some d) v):=by
 unfold yldA at h;split at h
 case h_2=>cases h
 rename_i id caps hn;split at h
 case h_2=>cases h
 rename_i c hc;split at h
 case h_2=>cases h
 rename_i v hv;obtain⟨hnp,h⟩:=X7 h;split at h
 case h_2=>cases h
 rename_i t ht;have hnp:=af hnp;have hR:=hE id c hc;obtain⟨id',cs',e',l,k1,k2,rfl⟩:=hx;rw[hn]at k1;cases k1;obtain⟨l',rec,hrng⟩:=hrel.mem.obj n _ hn;have hll:l'=l:=by have:=hrng.loc;rw[k2]at this;cases this;rfl
 subst hll;have hblk:(γ n).blk=some l':=by rw[Loc.blk,k2];rfl
 have hlen:=hr.length;have hys:=run_yield (P:=P) (args:=vals.toArray) hrng.heap (by simp[hlen,hnp,hR.np,hrng.ps]);refine⟨l',_,_,_,_,rfl,hys, ?_⟩;have keep0:Keeps σ.m γ (mupd σ.m n (.rng id caps none)) γ:=z0d hn rfl;have hrel1:Rel X w S γ ⟨σ.ρ,mupd σ.m n (.rng id caps none)⟩ a:=by
  have get:∀{k q},mupd σ.m n (.rng id caps none) k=some q->q.live=true->k≠n/\σ.m k=some q:=by
   intro k q hq hl;by_cases e:k=n
   ·subst e;rw[V9]at hq;cases hq;cases hl
   ·rw[X4 _ _ e]at hq;exact⟨e,hq⟩
  refine⟨⟨fun k q hq=> ?_,hrel.mem.low,fun k k' q q' b hq hq' hl hl'=> ?_,fun k q b hq hl=> ?_⟩,fun t=>RepA.mono (fun _ _=>rfl) (fun _ h=>h) keep0 _ _ (hrel.tm t),hrel.below,hrel.base_le,hrel.s0,hrel.snew,hrel.defers,zdt hrel.pin keep0 (fun k l _ hk=> ?_),hrel.pnhi,hrel.small⟩
  ·have hq:mupd σ.m n (.rng id caps none) k=some q:=hq;by_cases e:k=n
   ·subst e;rw[V9]at hq;cases hq;trivial
   ·rw[X4 _ _ e]at hq;exact ObjRel.later (hrel.mem.obj k q hq) (fun _ _=>rfl) (fun _ h=>h) keep0 rfl fun hl b hb=>⟨rfl,(ObjRel.notS (hrel.mem.obj k q hq) hl hb).1⟩
  ·obtain⟨e1,h1⟩:=get hq hl;obtain⟨e2,h2⟩:=get hq' hl';exact hrel.mem.apart k k' q q' b h1 h2 hl hl'
  ·obtain⟨e1,h1⟩:=get hq hl;exact hrel.mem.high k q b h1 hl
  ·intro hnone;have hk:mupd σ.m n (.rng id caps none) k≠none:=hk;by_cases e:k=n
   ·subst e;rw[hn]at hnone;cases hnone
   ·rw[X4 _ _ e]at hk;exact hk hnone
 have honce:=hR.once;simp only[ab,aE,cE]at honce;obtain⟨ho1,ho2⟩:=honce;have hnodup:=zht ho1;rw[hR.tms]at hnodup;obtain⟨nd1,nd2,nd3⟩:=List.nodup_append.1 hnodup;have hpsize:∀p,p∈(LTab.tab id).ps.toList->p<rec.tmps.size:=fun p hp=>by rw[hrng.size];exact ho2 p (by rw[hR.tms];exact List.mem_append_left _ hp)
 have hargs:RepAs w S γ (mupd σ.m n (.rng id caps none)) (as++caps) (c.cin.tms.map fun t=>(((rec.params.zip vals.toArray).foldl (fun tmps (t,a)=>tmps.setIfInBounds t a) rec.tmps)).getD t undef):=by
  rw[hR.tms,List.map_append,hrng.ps,ym4];refine RepAs.append ?_ ?_
  ·rw[yo2 _ _ _ nd1 hpsize (by simp[hlen,hnp,hR.np])];exact RepAs.mono (fun _ _=>rfl) (fun _ h=>h) keep0 _ _ hr
  ·have e:((LTab.tab id).tms.map fun t=>(((LTab.tab id).ps.toList.zip vals).foldl (fun t (p:Nat×Value)=>t.setIfInBounds p.1 p.2) rec.tmps).getD t undef)=(LTab.tab id).tms.map fun t=>rec.tmps.getD t undef:=by
    refine cg fun t ht=>y0v _ _ fun hm=> ?_;obtain⟨⟨q,y⟩,h1,h2⟩:=aH.1 hm;simp only at h2;subst h2;exact nd3 q (eF h1).1 q ht rfl
   simp only[List.toList_toArray];rw[e];exact RepAs.mono (fun _ _=>rfl) (fun _ h=>h) keep0 _ _ hrng.caps
 obtain⟨γi,g1,g2,hmi,hrep,hq,hdist⟩:=ydg (g:=fun src _=>zse (y05 c.cin.tms (as++caps)) (mupd σ.m n (.rng id caps none)) src) hrel1.mem (fun t=>zwp t hargs) (zoa c.cin.objs) hv;have hnames:∀n' d',z16 n' (renC (y05 c.cin.tms (as++caps)) (mupd σ.m n (.rng id caps none)) c.cin.objs)=some (some d')->∃q,mofO c.cin.objs v.2 n'=some q:=fun n' d' hlk=>by rw[zoa]at hlk;exact zr1 (g:=fun src _=>zse (y05 c.cin.tms (as++caps)) (mupd σ.m n (.rng id caps none)) src) hlk
 have hol:∀n' o,mupd σ.m n (.rng id caps none) n'=some o->o.live=true->(γ n').blk≠some l':=by
  intro n' o ho hl hb;by_cases e:n'=n
  ·subst e;rw[V9]at ho;cases ho;cases hl
  ·rw[X4 _ _ e]at ho;exact hrel.mem.apart n' n o _ l' ho hn hl rfl e hb hblk
 have lentl:∀n' q,mofO c.cin.objs v.2 n'=some q->q.live=true->(γi n').blk≠some l':=by
  intro n' q hn' hl hb;rcases hq n' q hn' with⟨d',t,xs,k1,k2,rfl⟩ | ⟨t,k1,rfl⟩ | ⟨d',l0,cs,s,z,k1,k2,k3,rfl⟩ | ⟨d',l0,cs,i2,ee,z,k1,k2,k3,rfl⟩
  ·rw[g1 _ _ k1]at hb;exact hol d' _ k2 rfl hb
  ·rw[Loc.blk,g2 _ k1]at hb;cases hb
  ·rw[g1 _ _ k1]at hb;exact hol d' _ k2 (by cases s<;>first | rfl | cases hl) hb
  ·rw[g1 _ _ k1]at hb;exact hol d' _ k2 rfl hb
 have hlt:=zcx hrng.heap;have hB'l:(fun k=>k<w.heap.size/\∀n q,mofO c.cin.objs v.2 n=some q->q.live=true->(γi n).blk≠some k) l':=⟨hlt,lentl⟩
 have hmi':MemRel w S γi (mofO c.cin.objs v.2) (fun k=>k<w.heap.size/\∀n q,mofO c.cin.objs v.2 n=some q->q.live=true->(γi n).blk≠some k):=
  ⟨hmi.obj,hmi.low,hmi.apart,fun n q b hn hlq hbk h=>h.2 n q hn hlq hbk⟩
 refine(hR.round w S γi _ v _ l' rec t _ σ' hmi' (fun k h=>h.1) hB'l hrng.notS hrng.heap hrng.state hrng.assign hrng.body ?_ hrep ht h).mono ?_
 ·rw[ym4,yif];exact hrng.size
 rintro e w' ⟨ex,S',γ',τ,ns,rfl,hheap,hback,hok⟩;refine⟨_,rfl, ?_⟩;rw[z8r]at hback;cases hbk:zfi (renC (y05 c.cin.tms (as++caps)) (mupd σ.m n (.rng id caps none)) c.cin.objs) ⟨σ.ρ,mupd σ.m n (.rng id caps none)⟩ (some d) d ⟨fun i=>bif ax i 0 then .bool (exN ex)else .undef,τ.m⟩ ns some with
 | none=>rw[hbk]at hback;cases hback
 | some σ2=>
  rw[hbk]at hback;simp only[ac,aL.injEq]at hback;subst hback;obtain⟨S2,γ2,hrel2,keep2,hSS,hwS,hsame,hrest⟩:=y4k hrel1 hnames g1 g2 hmi hq (ex:=fun k=>k=l') (fun b hb e=>hrng.notS (e▸hb)) (fun b hb e=>hrel.mem.high n _ b hn rfl (e▸hblk) hb) (fun n' o b ho hl hb e=>hol n' o ho hl (e▸hb)) rfl hok (dst:=some d) hd (aT hd hrel.small) hbk;obtain⟨q1,q2⟩:=hrest l' hB'l hrng.notS hol;have hn2:σ2.m n=some (.rng id caps none):=hsame n _ (V9 _ _ _) (fun k hk=>by
   obtain⟨q,hq'⟩:=hnames k n hk;rcases hq k q hq' with⟨d',t,xs,k1,k2,rfl⟩ | ⟨t,k1,rfl⟩ | ⟨d',l0,cs,s,z,k1,k2,k3,rfl⟩ | ⟨d',l0,cs,i2,ee,z,k1,k2,k3,rfl⟩<;>rw[hk]at k1<;>cases k1<;>(have k2:=(V9 σ.m n (MO.rng id caps none)).symm.trans k2;cases k2))
  have gn:γ2 n=γ n:=by obtain⟨_,_,_,h3⟩:=keep2 n _ (V9 _ _ _);exact h3
  have keep3:Keeps σ2.m γ2 (mupd σ2.m n (.rng id caps (some ex.key))) γ2:=z0d hn2 rfl;refine⟨S2,γ2,⟨⟨fun k q hq=> ?_,hrel2.mem.low,fun k k' q q' b hq hq' hl hl' hne hb hb'=> ?_,fun k q b hq hl hb=> ?_⟩,fun t=>RepA.mono (fun _ _=>rfl) (fun _ h=>h) keep3 _ _ (hrel2.tm t),hrel2.below,hrel2.base_le,hrel2.s0,hrel2.snew,hrel2.defers,zdt hrel2.pin keep3 (fun k l _ hk=> ?_),hrel2.pnhi,hrel2.small⟩⟩
  ·have hq:mupd σ2.m n (.rng id caps (some ex.key)) k=some q:=hq;by_cases e:k=n
   ·subst e;rw[V9]at hq;cases hq;refine⟨l',_,by rw[gn];exact k2,hheap,rfl,rfl,hrng.ps,hrng.assign,hrng.body,hrng.size, ?_,q1⟩;exact RepAs.mono hwS hSS ((keep0.trans keep2).trans keep3) _ _ hrng.caps
   ·rw[X4 _ _ e]at hq;exact ObjRel.later (hrel2.mem.obj k q hq) (fun _ _=>rfl) (fun _ h=>h) keep3 rfl fun hl b hb=>⟨rfl,(ObjRel.notS (hrel2.mem.obj k q hq) hl hb).1⟩
  ·have hq:mupd σ2.m n (.rng id caps (some ex.key)) k=some q:=hq;have hq':mupd σ2.m n (.rng id caps (some ex.key)) k'=some q':=hq';by_cases e:k=n
   ·subst e;have e':k'≠k:=fun e=>hne e.symm;rw[X4 _ _ e']at hq';rw[gn,hblk]at hb;cases hb;exact q2 k' q' hq' hl' hb'
   ·by_cases e':k'=n
    ·subst e';rw[gn,hblk]at hb';cases hb';rw[X4 _ _ e]at hq;exact q2 k q hq hl hb
    ·rw[X4 _ _ e]at hq;rw[X4 _ _ e']at hq';exact hrel2.mem.apart k k' q q' b hq hq' hl hl' hne hb hb'
  ·have hq:mupd σ2.m n (.rng id caps (some ex.key)) k=some q:=hq;by_cases e:k=n
   ·subst e;rw[gn]at hb;exact hrel.mem.high k _ b hn rfl hb
   ·rw[X4 _ _ e]at hq;exact hrel2.mem.high k q b hq hl hb
  ·intro hnone;have hk:mupd σ2.m n (.rng id caps (some ex.key)) k≠none:=hk;by_cases e:k=n
   ·subst e;rw[hn2]at hnone;cases hnone
   ·rw[X4 _ _ e]at hk;exact hk hnone
theorem ObjRel.more{w:World}{S S':Nat->Prop}{γ:Nat->Loc}{m m':Nat->Option MO}{k:Nat}{q:MO}(h:ObjRel w S γ m k q)(hS:∀b,S b->S' b)(hk:Keeps m γ m' γ)(hl:q.live=true->∀b,(γ k).blk=some b->¬S' b):ObjRel w S' γ m' k q:=
 ObjRel.later h (fun _ _=>rfl) hS hk rfl fun hlq b hb=>⟨rfl,hl hlq b hb⟩
theorem Rel.stillAt{X:Cx}{w:World}{S:Nat->Prop}{γ:Nat->Loc}{ρ:Nat->AV}{m:Nat->Option MO}{a:Act}(h:Rel X w S γ ⟨ρ,m⟩ a){n:Nat}{o o':MO}(hn:m n=some o)(hl:o.live=true)(hl':o'.live=false)(hk:o'.kind=o.kind)
  (ho:∀S':Nat->Prop,(∀b,S b->S' b)->(∀b,(γ n).blk=some b->S' b)->ObjRel w S' γ (mupd m n o') n o'):∃S',Rel X w S' γ ⟨ρ,mupd m n o'⟩ a:=by
 have hkk:=z0d (γ:=γ) hn hk;have old:∀k q,mupd m n o' k=some q->q.live=true->k≠n/\m k=some q:=by
  intro k q hq hlq;by_cases e:k=n
  ·subst e;rw[V9]at hq;cases hq;rw[hl']at hlq;cases hlq
  ·rw[X4 _ _ e]at hq;exact⟨e,hq⟩
 have hmark:∀D,w.heap[D]? =some (.deferred (some []))->(S D\/(γ n).blk=some D)->S D:=by
  rintro D hD (hs | hs)
  ·exact hs
  obtain⟨_,o',g1,g2⟩:=ObjRel.notS (h.mem.obj n o hn) hl hs;rw[hD]at g1;cases g1;exact absurd rfl (g2 _)
 have hpin:∀k l,X.pn k=some l->mupd m n o' k≠none->m k≠none:=by
  intro k _ _ hk;by_cases e:k=n
  ·subst e;rw[hn];simp
  ·rwa [X4 _ _ e]at hk
 refine⟨fun b=>S b\/(γ n).blk=some b,⟨fun k q hq=> ?_, ?_, ?_, ?_⟩,fun t=>RepA.mono (fun _ _=>rfl) (fun _ h=> .inl h) hkk _ _ (h.tm t),h.below,h.base_le,fun b hb=> .inl (h.s0 b hb), ?_,h.defers.mono (fun _ _ h=>h) hmark,zdt h.pin hkk hpin,h.pnhi,h.small⟩
 ·have hq:mupd m n o' k=some q:=hq;show ObjRel w _ γ (mupd m n o') k q;by_cases e:k=n
  ·subst e;rw[V9]at hq;cases hq;exact ho _ (fun _ h=> .inl h) fun _ h=> .inr h
  ·rw[X4 _ _ e]at hq;refine ObjRel.more (h.mem.obj k q hq) (fun _ h=> .inl h) hkk fun hlq b hb=> ?_;rintro(hs | hs)
   ·exact(ObjRel.notS (h.mem.obj k q hq) hlq hb).1 hs
   ·exact h.mem.apart k n q o b hq hn hlq hl e hb hs
 ·rintro b (hs | hs)
  ·exact h.mem.low b hs
  ·exact ObjRel.lt (h.mem.obj n o hn) hl hs
 ·intro k k' q q' b hq hq' hlq hlq' hne hb hb';obtain⟨_,h1⟩:=old k q hq hlq;obtain⟨_,h2⟩:=old k' q' hq' hlq';exact h.mem.apart k k' q q' b h1 h2 hlq hlq' hne hb hb'
 ·intro k q b hq hlq hb;obtain⟨_,h1⟩:=old k q hq hlq;exact h.mem.high k q b h1 hlq hb
 ·rintro b (hs | hs)
  ·exact h.snew b hs
  ·exact .inr (h.mem.high n o b hn hl hs)
theorem Rel.stillO{X:Cx}{w:World}{S:Nat->Prop}{γ:Nat->Loc}{ρ:Nat->AV}{m:Nat->Option MO}{a:Act}(h:Rel X w S γ ⟨ρ,m⟩ a)(n:Nat):∃S',Rel X w S' γ ⟨ρ,stillO m n⟩ a:=by
 unfold Dv.stillO;split
 ·rename_i cs hn;refine h.stillAt hn rfl rfl rfl fun S' hS hb=> ?_;obtain⟨b,vs,el,g1,g2,g3,g4,g5,g6⟩:=h.mem.obj n _ hn;exact⟨b,vs,el,g1,g2,RepAs.mono (fun _ _=>rfl) hS (z0d (o':= .box cs .still) hn rfl) cs vs g3,g4,(fun e=>by cases e),fun _=>hb b (by rw[Loc.blk,g1];rfl)⟩
 ·rename_i t xs hn;refine h.stillAt hn rfl rfl rfl fun S' hS hb=> ?_;have hob:RowRel w S (γ n) t xs .live:=h.mem.obj n _ hn;show RowRel w S' (γ n) t xs .still;refine⟨hob.len,hob.cap,hob.nil,fun a ha=> ?_⟩;obtain⟨b,arr,el,fz,g1,g2,g3,g4,g5,g6,g7⟩:=hob.row a ha;refine⟨b,arr,el,fz,g1,g2,g3,g4,fun i x hx=> ?_,(fun e=>by cases e),fun _=>hb b (by rw[Loc.blk,ha,g1];rfl)⟩;obtain⟨c,d1,d2⟩:=g5 i x hx;exact⟨c,RepT.mono (fun _ _=>rfl) hS t x c d1,d2⟩
 ·exact⟨S,h⟩
theorem Rel.stillL{X:Cx}{w:World}{γ:Nat->Loc}{ρ:Nat->AV}{a:Act}:∀(ns:List Nat) {S:Nat->Prop} {m:Nat->Option MO} (_:Rel X w S γ ⟨ρ,m⟩ a),∃S',Rel X w S' γ ⟨ρ,stillL m ns⟩ a
 | [],S,_,h=>⟨S,h⟩
 | n::ns,_,_,h=>by obtain⟨S1,h1⟩:=h.stillO n;exact Rel.stillL ns h1
theorem Rel.stillF{X:Cx}{w:World}{S:Nat->Prop}{γ:Nat->Loc}{ρ:Nat->AV}{m:Nat->Option MO}{a:Act}(h:Rel X w S γ ⟨ρ,m⟩ a)(n:Nat):∃S',Rel X w S' γ ⟨ρ,stillF m n⟩ a:=by
 unfold Dv.stillF;split
 ·rename_i t xs i r hn;split
  ·rename_i y hy;have hob:HoleRel w S γ m (γ n) t xs i r:=h.mem.obj n _ hn;obtain⟨b,arr,el,fz,h1,h2,h3,h4,h5,⟨u,h6,h7⟩,h8⟩:=hob.row;have hblk:(γ n).blk=some b:=by rw[Loc.blk,h1];rfl
   have hk:(MO.sl t (xs.set i y) .live).kind=(MO.sl t xs (.hole i r)).kind:=by simp[MO.kind]
   have hT:=zyu h.mem hy (show RepAs w S γ m [.own r] [u]from⟨u,[],rfl,h7,rfl⟩);have hkk:=z0d (γ:=γ) hn hk;have hpin:∀k l,X.pn k=some l->mupd m n (.sl t (xs.set i y) .live) k≠none->m k≠none:=by
    intro k _ _ hk;by_cases e:k=n
    ·subst e;rw[hn];simp
    ·rwa [X4 _ _ e]at hk
   refine⟨S,h.mem.write hn rfl hblk ⟨rfl,rfl,rfl,rfl,fun _ _=>rfl,arr,el,fz,h2⟩ hk h8 ?_,fun t=>RepA.mono (fun _ _=>rfl) (fun _ h=>h) hkk _ _ (h.tm t),h.below,h.base_le,h.s0,h.snew,h.defers,zdt h.pin hkk hpin,h.pnhi,h.small⟩;show RowRel w S (γ n) t (xs.set i y) .live;refine⟨by simpa using hob.len,hob.cap,fun e=>(by rw[h1]at e;cases e),fun a ha=> ?_⟩;rw[h1]at ha;cases ha;refine⟨b,arr,el,fz,rfl,h2,h3,h4,fun k z hz=> ?_,fun _=>h8,fun e=>by cases e⟩;by_cases e:k=i
   ·subst e;have hlt:=hob.lt;simp only[getq,List.getElem?_set_self hlt,aL.injEq]at hz;subst hz;refine⟨[u],hT,fun j v hj=> ?_⟩
    match j,hj with
    | 0,hj=>cases hj;rw[hob.one];simpa using h6
    | j+1,hj=>simp at hj
   ·refine h5 k z e ?_;simp only[getq]at hz|-
    rwa [List.getElem?_set_ne (Ne.symm e)]at hz
  ·exact⟨S,h⟩
 ·exact h.stillO n
theorem Rel.stillR{X:Cx}{w:World}{γ:Nat->Loc}{ρ:Nat->AV}{a:Act}:∀(ns:List Nat) {S:Nat->Prop} {m:Nat->Option MO} (_:Rel X w S γ ⟨ρ,m⟩ a),∃S',Rel X w S' γ ⟨ρ,stillR m ns⟩ a
 | [],S,_,h=>⟨S,h⟩
 | n::ns,_,_,h=>by obtain⟨S1,h1⟩:=h.stillF n;exact Rel.stillR ns h1
variable {R:Type}
theorem zi9(ro:Option Nat){P:Program}{f:FuncId}{args:Array Value}{w:World}{R:Ending->World->Prop}{n:Nat}(h:Calls P f args w R):CallsIn (RF ro) n P f args w R:=by
 have h:CallsIn (RF none) n P f args w R:=callsIn_wide.2 h;cases ro with
 | none=>exact h
 | some l=>exact CallsIn.inRound l h
theorem ynh{d:Nat}:∀{os:List MO} {m:Nat->Option MO} {k n:Nat},nm d (k+os.length)<=n->z1l m d k os n=m n
 | [],_,_,_,_=>rfl
 | o::os,m,k,n,h=>by simp only[ag]at h;simp only[z1l];rw[ynh (by unfold nm at h|-;omega),X4 _ _ (by unfold nm at h|-;omega)]
structure EnvOk (P:Program) (E:Env):Prop where
 ty:∀t ti,E.ty t=some ti->TIok P t ti
 eq:∀t n,E.eqt t n=true->EqOk P t n/\P.eqGuardType P.depth t=false
 call:∀f,z77 P f (fun as=>E.callK f as some)
 callM:∀f c,c∈E.callM f->zef P f c
 callF:∀f c,c∈E.callF f->ztv P f c
 rounds:∀id c,E.rounds id=some c->SoundR P id c
 meth:∀t name f,E.meth t name=some f->∀(v:Value) (w:World),(method (P.types.size+Made.depth) t v name).run P w= .ok (f,v) w
section core
variable {P:Program} {E:Env} (hE:EnvOk P E) {w:World} {S:Nat->Prop} {γ:Nat->Loc} {m:Nat->Option MO} {base:Nat->Prop} (hm:MemRel w S γ m base)
 {ev:Operand->AV} {el:Operand->Value} (hev:∀x,RepA w S γ m (ev x) (el x)) {K:AV->Option MO->Option R} {r:R}
include hE hm hev in
theorem x1q{o:Oper}(h:W2 E o.dst o.op ev m K=some r):CoreOk w S γ m o.dst ((execOp el o).run P w) K r:=by
 cases ho:o.op with
 | move x=>rw[ho]at h;exact yuy hev ho h
 | nilCheck x=>rw[ho]at h;exact ygz hev ho h
 | assign x=>rw[ho]at h;exact ylw hev ho h
 | pick c a b=>rw[ho]at h;exact yux hev ho h
 | alloc t=>exact yqc hE.ty hm ho h
 | box t x=>exact yxl hm hev ho h
 | build t ps=>exact yqa hE.ty hev ho h
 | buildSlice t n ps=>exact yat hE.ty hm hev ho h
 | load t x=>exact yuz hE.ty hm hev ho h
 | binOp op t x y t'=>exact yqb hE.ty hev hE.eq ho h
 | unOp op t x=>exact yuw hev ho h
 | convert q t x=>exact yjh hE.ty hm hev ho h
 | makeInterface t x=>exact y04 hE.ty hev ho h
 | makeFunc f a b=>exact yh0 hev ho h
 | makeSlice t n c=>exact yc7 hE.ty hev hm ho h
 | slice t x lo hi mx=>exact yq7 hE.ty hm hev ho h
 | fieldAddr s x f=>exact yc9 hE.ty hev ho h
 | field s x f=>exact yq9 hE.ty hev ho h
 | indexAddr t x i=>exact yc8 hE.ty hm hev ho h
 | index t x i=>exact yq8 hE.ty hev ho h
 | extract x i=>exact yjg hev ho h
 | call c=>
  obtain⟨callee,args,ts⟩:=c;cases callee with
  | value f=>rw[ho]at h;simp[W2]at h
  | invoke x n=>rw[ho]at h;simp[W2]at h
  | builtin b=>
   cases b with
   | len=>exact yxk hE.ty hev ho h
   | min=>exact yxi hev ho h
   | max=>exact yxj hev ho h
   | _=>rw[ho]at h;simp[W2]at h
 | _=>rw[ho]at h;simp[W2]at h
end core
section step
variable {ro:Option Nat} {P:Program} {E:Env} (hE:EnvOk P E) {X:Cx} {w:World} {S:Nat->Prop} {γ:Nat->Loc} {σ:St} {a:Act} (hrel:Rel X w S γ σ a)
include hrel in
theorem Rel.wrote{w':World}{γ':Nat->Loc}{m':Nat->Option MO}{ρ':Nat->AV}{a':Act}(hb:Bel X.B w w')(hdom:∀n,m' n≠none->σ.m n≠none\/n<4096)(hk:Keeps σ.m γ m' γ')(hm:MemRel w' S γ' m' X.B)(ht:∀t,RepA w' S γ' m' (ρ' t) (a'.tmps.getD t undef))(hd:a'.defers=a.defers)(hs:a'.tmps.size=a.tmps.size):
  Rel X w' S γ' ⟨ρ',m'⟩ a':=
 ⟨hm,ht,hrel.below.trans hb,hrel.base_le,hrel.s0,hrel.snew,by rw[hd];exact hrel.defers.mono hb.others (fun _ _ h=>h),
  zdt hrel.pin hk (fun n l hl hn=>(hdom n hn).elim id fun h=>by have:=hrel.pnhi n l hl;omega),hrel.pnhi,by rw[hs];exact hrel.small⟩
include hE hrel in
theorem yt5{o:Oper}{f:FuncId}{as:List AV}{vals:List Value}{σ':St}(hd:zi8 a.tmps.size o.dst)(hr:RepAs w S γ σ.m as vals)(h:zpi E σ.m f as (znw σ o.dst some)=some σ'):
  (∀w' (args:Array Value),(callFunc f args).run P w'= .ok (.enter f args) w')/\
  Calls P f vals.toArray w fun e w'=>∃v,e= .returned v/\∃S' γ',Rel X w' S' γ' σ' (a.put o.dst v):=by
 have fin:∀{S1:Nat->Prop} {bs:List AV} {r:AV},(∀b,S1 b->b<w.heap.size)->(∀b,S b->S1 b)->RepAs w S1 g0 m0 bs vals->E.callK f bs some=some r->(scal r=true\/S1=S)->znw σ o.dst some r=some σ'->
   (∀w' (args:Array Value),(callFunc f args).run P w'= .ok (.enter f args) w')/\
   Calls P f vals.toArray w fun e w'=>∃v,e= .returned v/\∃S' γ',Rel X w' S' γ' σ' (a.put o.dst v):=by
  intro S1 bs r hlow hS1 hbs hc hsc hdone;obtain⟨c1,c2⟩:=hE.call f w S1 bs vals r hlow hbs hc;refine⟨c1,c2.mono fun e w'=> ?_⟩;rintro⟨v,S',ls,rfl,hb,k1,k2,k3,k4⟩;refine⟨v,rfl, ?_⟩;obtain⟨S2,h1,h2,h3⟩:∃S2:Nat->Prop,(∀b,S b->S2 b)/\(∀b,S2 b->S b\/(w.heap.size<=b/\b<w'.heap.size))/\RepX w' S2 r v ls:=by
   rcases hsc with hsc | rfl
   ·exact⟨S,fun _ h=>h,fun _ h=> .inl h,ymn (S':=S) (fun b hb=>k1 b (hS1 b hb)) r v ls hsc k3⟩
   ·exact⟨S',k1,k2,k3⟩
  have hmem:=hrel.mem.grow hb;have hmem2:MemRel w' S2 γ σ.m X.B:=by
   refine⟨fun n o ho=> ?_,fun b hb'=> ?_,hmem.apart,hmem.high⟩
   ·refine ObjRel.later (hrel.mem.obj n o ho) (fun b hb'=>hb.block b (hrel.mem.low b hb')) h1 (Keeps.refl _ _) rfl fun hl b hbk=> ?_;have hlt:=ObjRel.lt (hrel.mem.obj n o ho) hl hbk;exact⟨hb.block b hlt,fun hs=>(h2 b hs).elim (ObjRel.notS (hrel.mem.obj n o ho) hl hbk).1 fun hs=>by omega⟩
   ·rcases h2 b hb' with hs | hs
    ·exact aT (hrel.mem.low b hs) hb.size
    ·exact hs.2
  have htm:∀t,RepA w' S2 γ σ.m (σ.ρ t) (a.tmps.getD t undef):=fun t=>RepA.mono (fun b hb'=>hb.block b (hrel.mem.low b hb')) h1 (Keeps.refl _ _) _ _ (hrel.tm t);have hfree:Free X.B γ σ.m ls:=by refine⟨fun l hl b hbl=>⟨fun hB=>by have:=hrel.size_le b hB;have:¬b<w.heap.size:=k4.new l hl b hbl;omega,fun k q hq hlq hbq=> ?_⟩,k4.once⟩;have:=ObjRel.lt (hrel.mem.obj k q hq) hlq hbq;have:¬b<w.heap.size:=k4.new l hl b hbl;omega
  have snew:∀b,S2 b->X.S0 b\/¬X.B b:=fun b hs=>by
   rcases h2 b hs with hs | hs
   ·exact hrel.snew b hs
   ·exact .inr fun hB=>by have:=hrel.size_le b hB;omega
  have hbel:=Below.bel hb hrel.size_le;have hmarks:MarksOk X.N w' S2 a.defers:=hrel.defers.mono hbel.others fun D hD hs=>by
   rcases h2 D hs with hs | hs
   ·exact hs
   ·have:=(aS.1 hD).1;omega
  unfold znw at hdone;split at hdone
  ·rename_i d hdst;obtain⟨hfr,hdone⟩:=X7 hdone;simp only[ab,few,cE]at hfr;obtain⟨hfl,hfr⟩:=hfr;cases hdone;obtain⟨γ',t1,t2,_⟩:=ynw (d:=d) r v ls 0 γ σ.m hmem2 h3 hfree hfr;refine⟨S2,γ',t1.mem, ?_,hrel.below.trans hbel,hrel.base_le,fun b h=>h1 b (hrel.s0 b h),snew,by rw[z9o];exact hmarks,zdt hrel.pin t1.keeps (fun n l hl hn=> ?_),hrel.pnhi,by rw[z0k];exact hrel.small⟩;rotate_left
   ·have:=hrel.pnhi n l hl;have hdl:d<4096:=by have:=hrel.small;rw[hdst]at hd;exact aT hd this
    have hn:z1l σ.m d 0 (impV d 0 r).2 n≠none:=hn
    rwa [ynh (d:=d) (k:=0) (n:=n) (os:=(impV d 0 r).2) (by unfold nm;omega)]at hn
   have:=zxx (a:=a) (ρ:=σ.ρ) (dst:=some d) (fun t=>RepA.mono (fun _ _=>rfl) (fun _ h=>h) t1.keeps _ _ (htm t)) t2 (by rw[hdst]at hd;exact hd);rw[hdst];exact this
  ·rename_i hdst;obtain⟨_,hdone⟩:=X7 hdone;cases hdone;refine⟨S2,γ,hmem2, ?_,hrel.below.trans hbel,hrel.base_le,fun b h=>h1 b (hrel.s0 b h),snew,by rw[z9o];exact hmarks,hrel.pin,hrel.pnhi,by rw[z0k];exact hrel.small⟩;rw[hdst];exact htm
 unfold zpi at h;split at h
 ·rename_i bs hbs;rw[E.callK_nat]at h;cases hr':E.callK f bs some with
  | none=>rw[hr']at h;cases h
  | some r=>rw[hr']at h;obtain⟨i1,_⟩:=y4l (S':=S) (y4f hrel.mem (fun _ h=>h) (fun h=>by cases h) 8) as bs vals hbs hr;exact fin hrel.mem.low (fun _ h=>h) i1 hr' (.inr rfl) h
 ·split at h
  ·rename_i bs hbs;rw[E.callK_nat]at h;cases hr':E.callK f bs some with
   | none=>rw[hr']at h;cases h
   | some r=>rw[hr']at h;obtain⟨hsc,h⟩:=X7 h;obtain⟨i1,_⟩:=y4l (S':=fun b=>b<w.heap.size) (y4f hrel.mem hrel.mem.low (fun _ b h=>h) 8) as bs vals hbs hr;exact fin (fun _ h=>h) hrel.mem.low i1 hr' (.inl hsc) h
  ·cases h
include hE hrel in
theorem x4y{o:Oper}{σ':St}(h:opB E o σ some=some σ')(hd:zi8 a.tmps.size o.dst){K:Act->World->Prop}{Q:Exit->Act->World->Prop}
  (hK:∀a' w' S' γ',Rel X w' S' γ' σ' a'->a'.tmps.size=a.tmps.size->K a' w'):o.wpIn (RF ro) 0 P a w K Q:=by
 have hev:∀x,RepA w S γ σ.m (σ.ev x) (a.eval x):=hrel.ev;have hnd:∀c,o.op≠ .defer c:=fun c e=>by
  unfold opB at h;rcases bif_some h with⟨h1,_⟩ | ⟨_,h⟩
  ·simp[preO,e]at h1
  ·rw[e]at h;simp[W2]at h
 unfold Oper.wpIn;refine⟨fun _ _=>trivial, ?_⟩;rw[Oper.semAt_eq _ _ _ hnd];unfold opB at h;rcases bif_some h with⟨_,h⟩ | ⟨_,h⟩
 ·unfold preS at h;split at h
  ·rename_i x args ts d ho hdst;split at h
   ·rename_i f caps hx;have hfv:=hev x;rw[hx]at hfv;split at h
    case h_2=>cases h
    rename_i l hl;obtain⟨us,vs,hxv,hargs⟩:=zrl hfv hl (RepAs.map hev args.toList);obtain⟨c1,c2⟩:=yd5 hrel hargs (dst:=some d) (d:=d) (by rw[hdst]at hd;exact hd) (by rw[hdst]at hd;exact aT hd hrel.small) (hE.callM f) h;have hrun:(execOp a.eval o).run P w= .ok (.enter f (us++(args.toList.map a.eval++vs)).toArray) w:=by
     simp only[execOp,ho,resolve,hxv,Deferred.ofValue,Sem.run_bind,Sem.run_pure,Result.andThen_ok,invoke];have:(us.toArray++cv a.eval args++vs.toArray)=(us++(args.toList.map a.eval++vs)).toArray:=by apply bC;simp
     rw[this];exact c1 w _
    rw[hrun,Oper.uponIn_enter];refine⟨fun _=>by contradiction,(zi9 ro c2).mono fun e w'=> ?_⟩;rintro⟨v,rfl,S',γ',hr,_⟩;rw[hdst];exact hK _ _ S' γ' hr (z0k _ _ _)
   ·rename_i n hx;have hfv:=hev x;rw[hx]at hfv;obtain⟨l,fn,tmps,as,bd,hxv,hy,hR⟩:=x4e hE.rounds hrel (RepAs.map hev args.toList) (d:=d) (by rw[hdst]at hd;exact hd) hfv h;have hrun:(execOp a.eval o).run P w= .ok (.round l fn tmps as bd) w:=by
     simp only[execOp,ho,resolve,hxv,Deferred.ofValue,Sem.run_bind,Sem.run_pure,Result.andThen_ok,invoke];have:(#[]++cv a.eval args)=(args.toList.map a.eval).toArray:=by apply bC;simp
     rw[this];exact hy
    rw[hrun,Oper.uponIn_round];refine⟨fun _=>by contradiction,(ypn ro hR).mono fun e w'=> ?_⟩;rintro⟨v,rfl,S',γ',hr⟩;rw[hdst];exact hK _ _ S' γ' hr (z0k _ _ _)
   ·cases h
  ·rename_i x name args ts d ho hdst;split at h
   ·rename_i t v hx;have hfv:=hev x;rw[hx]at hfv;obtain⟨u,hxv,hv⟩:=hfv;split at h
    ·rename_i f hf;have hargs:RepAs w S γ σ.m (v::args.toList.map σ.ev) (u::args.toList.map a.eval):=⟨u,_,rfl,hv,RepAs.map hev _⟩;obtain⟨c1,c2⟩:=yd5 hrel hargs (dst:=some d) (d:=d) (by rw[hdst]at hd;exact hd) (by rw[hdst]at hd;exact aT hd hrel.small) (hE.callM f) h;have hm:=hE.meth t name f hf u w;have hrun:(execOp a.eval o).run P w= .ok (.enter f (u::args.toList.map a.eval).toArray) w:=by
      simp only[execOp,ho,resolve,hxv,Sem.run_bind,Sem.run_pure,Result.andThen_ok,invoke];have h0:(#[Value.iface t u]++cv a.eval args)[0]? =some (.iface t u):=by rw[cK (by simp)];rfl
      have h1:(#[Value.iface t u]++cv a.eval args).extract 1 (#[Value.iface t u]++cv a.eval args).size=cv a.eval args:=by apply bC;simp;exact bu (by simp)
      rw[h0];simp only[h1,callMethod,Sem.run_bind,run_program,Result.andThen_ok,hm];have h2:(#[u]++cv a.eval args)=(u::args.toList.map a.eval).toArray:=by apply bC;simp
      rw[h2];exact c1 w _
     rw[hrun,Oper.uponIn_enter];refine⟨fun _=>by contradiction,(zi9 ro c2).mono fun e w'=> ?_⟩;rintro⟨v,rfl,S',γ',hr,_⟩;rw[hdst];exact hK _ _ S' γ' hr (z0k _ _ _)
    ·cases h
   ·cases h
  ·rename_i T x y d ho hdst;obtain⟨v,m',k1,w',γ',nx,k2,k3,k0,k4,k5,k6,x,rfl,k7⟩:=x4u (P:=P) hE.ty hrel.mem hev ho h;cases k1;rw[k2,Oper.uponIn_value];rw[hdst]at hd|-;refine hK _ _ S γ' (hrel.wrote k3 (fun n hn=>(k0 n hn).imp id fun e=>by have e:n=d:=e;subst e;exact aT hd hrel.small) k5 k4 (fun t=> ?_) (z9o _ _ _) (z0k _ _ _)) (z0k _ _ _);exact zxx (dst:=some d) (fun t=>RepA.mono k6 (fun _ h=>h) k5 _ _ (hrel.tm t)) k7 hd t
  ·cases h
 split at h
 ·
  rename_i t p x ho;obtain⟨m',k1,w',γ',nx,k2,k3,k0,k4,k5,k6,k7⟩:=ywf (P:=P) hE.ty hrel.mem hev ho h;simp only at k7;subst k7;cases k1;rw[k2,Oper.uponIn_skip];refine hK _ _ S γ' (hrel.wrote k3 (fun n hn=>(k0 n hn).imp id False.elim) k5 k4 (fun t=> ?_) (z9o _ _ _) (z0k _ _ _)) (z0k _ _ _);exact zxx (fun t=>RepA.mono k6 (fun _ h=>h) k5 _ _ (hrel.tm t)) (v:= .undef) (x:=undef) trivial hd t
 ·
  rename_i args ts ho;split at h
  ·rename_i d b1 b2 t1 t2 hdst ha ht;have ha':args= #[b1,b2]:=by apply bC;simpa using ha
   have ht':ts= #[t1,t2]:=by apply bC;simpa using ht
   subst ha';subst ht';obtain⟨v,m',k1,w',γ',nx,k2,k3,k0,k4,k5,k6,x,rfl,k7⟩:=x5f (P:=P) hE.ty hrel.mem hrel.size_le hev ho h;cases k1;rw[k2,Oper.uponIn_value];rw[hdst]at hd|-;refine hK _ _ S γ' (hrel.wrote k3 (fun n hn=>(k0 n hn).imp id fun e=>by have e:n=d:=e;subst e;exact aT hd hrel.small) k5 k4 (fun t=> ?_) (z9o _ _ _) (z0k _ _ _)) (z0k _ _ _);exact zxx (dst:=some d) (fun t=>RepA.mono k6 (fun _ h=>h) k5 _ _ (hrel.tm t)) k7 hd t
  ·cases h
 ·
  rename_i args ts ho;split at h
  ·rename_i b1 b2 t1 t2 ha ht;have ha':args= #[b1,b2]:=by apply bC;simpa using ha
   have ht':ts= #[t1,t2]:=by apply bC;simpa using ht
   subst ha';subst ht';obtain⟨v,m',k1,w',γ',nx,k2,k3,k0,k4,k5,k6,x,rfl,k7⟩:=x1r (P:=P) hE.ty hrel.mem hev ho h;cases k1;rw[k2,Oper.uponIn_value];refine hK _ _ S γ' (hrel.wrote k3 (fun n hn=>(k0 n hn).imp id False.elim) k5 k4 (fun t=> ?_) (z9o _ _ _) (z0k _ _ _)) (z0k _ _ _);exact zxx (fun t=>RepA.mono k6 (fun _ h=>h) k5 _ _ (hrel.tm t)) k7 hd t
  ·cases h
 ·
  rename_i x args ts ho;split at h
  ·rename_i f caps hx;have hfv:=hev x;rw[hx]at hfv;split at h
   case h_2=>cases h
   rename_i l hl;obtain⟨us,vs,hxv,hargs⟩:=zrl hfv hl (RepAs.map hev args.toList);obtain⟨c1,c2⟩:=yt5 hE hrel hd hargs h;have hrun:(execOp a.eval o).run P w= .ok (.enter f (us++(args.toList.map a.eval++vs)).toArray) w:=by
    simp only[execOp,ho,resolve,hxv,Deferred.ofValue,Sem.run_bind,Sem.run_pure,Result.andThen_ok,invoke];have:(us.toArray++cv a.eval args++vs.toArray)=(us++(args.toList.map a.eval++vs)).toArray:=by apply bC;simp
    rw[this];exact c1 w _
   rw[hrun,Oper.uponIn_enter];refine⟨fun _=>by contradiction,(zi9 ro c2).mono fun e w'=> ?_⟩;rintro⟨v,rfl,S',γ',hr⟩;exact hK _ _ S' γ' hr (z0k _ _ _)
  ·cases h
 ·
  rename_i x name args ts ho;split at h
  ·rename_i t v hx;have hfv:=hev x;rw[hx]at hfv;obtain⟨u,hxv,hv⟩:=hfv;split at h
   ·rename_i f hf;have hargs:RepAs w S γ σ.m (v::args.toList.map σ.ev) (u::args.toList.map a.eval):=⟨u,_,rfl,hv,RepAs.map hev _⟩;obtain⟨c1,c2⟩:=yt5 hE hrel hd hargs h;have hm:=hE.meth t name f hf u w;have hrun:(execOp a.eval o).run P w= .ok (.enter f (u::args.toList.map a.eval).toArray) w:=by
     simp only[execOp,ho,resolve,hxv,Sem.run_bind,Sem.run_pure,Result.andThen_ok,invoke];have h0:(#[Value.iface t u]++cv a.eval args)[0]? =some (.iface t u):=by rw[cK (by simp)];rfl
     have h1:(#[Value.iface t u]++cv a.eval args).extract 1 (#[Value.iface t u]++cv a.eval args).size=cv a.eval args:=by apply bC;simp;exact bu (by simp)
     rw[h0];simp only[h1,callMethod,Sem.run_bind,run_program,Result.andThen_ok,hm];have h2:(#[u]++cv a.eval args)=(u::args.toList.map a.eval).toArray:=by apply bC;simp
     rw[h2];exact c1 w _
    rw[hrun,Oper.uponIn_enter];refine⟨fun _=>by contradiction,(zi9 ro c2).mono fun e w'=> ?_⟩;rintro⟨v,rfl,S',γ',hr⟩;exact hK _ _ S' γ' hr (z0k _ _ _)
   ·cases h
  ·cases h
 ·
  obtain⟨x,w',v,ob,k1,k2,k3,k4⟩:=x1q hE hrel.mem hev h;rw[k1,Oper.uponIn_value];cases ob with
  | none=>simp only[aL.injEq]at k3;subst k3;exact hK _ _ S γ (hrel.val k2 k4 hd) (z0k _ _ _)
  | some ob=>
   obtain⟨d,l,hdst,hl,hnew,k4⟩:=k4;simp only[hdst]at k3;split at k3
   ·rename_i hmd;simp only[aL.injEq]at k3;subst k3;obtain⟨k5,k6⟩:=k4 hmd;rw[hdst]at hd|-;exact hK _ _ S _ (hrel.new k2 hmd k5 hnew k6 hd) (z0k _ _ _)
   ·cases k3
include hE hrel in
theorem yzl{o:Oper}{σ':St}(h:opA E o σ some=some σ')(hd:zi8 a.tmps.size o.dst){K:Act->World->Prop}{Q:Exit->Act->World->Prop}
  (hK:∀a' w' S' γ',Rel X w' S' γ' σ' a'->a'.tmps.size=a.tmps.size->K a' w'):o.wpIn (RF ro) 0 P a w K Q:=by
 obtain⟨S1,h1⟩:=Rel.stillL (za6 E o) (ρ:=σ.ρ) (m:=σ.m) hrel;obtain⟨σ1,k1,rfl⟩:=yn8 h;refine x4y hE h1 k1 hd fun a' w' S' γ' g1 g2=> ?_;obtain⟨S2,h2⟩:=Rel.stillL (zeb E o) (ρ:=σ1.ρ) (m:=σ1.m) g1;exact hK a' w' S2 γ' h2 g2
end step
variable {R:Type}
def z72(E:Env)(o:Oper)(ev:Operand->AV)(m:Nat->Option MO):Option (AV×List MO):=
 match o.op with
 | .call ⟨.value f,args,_⟩=>match ev f with
  | .clo f caps=>match cloArgs caps (args.toList.map ev)with | some l=>zpi E m f l fun r=>some (impV (o.dst.getD 0) 0 r) | none=>none
  | _=>none
 | .call ⟨.invoke x name,args,_⟩=>match ev x with
  | .iface t v=>match E.meth t name with
   | some f=>zpi E m f (v::args.toList.map ev) fun r=>some (impV (o.dst.getD 0) 0 r)
   | none=>none
  | _=>none
 | op=>W2 E o.dst op ev m fun v ob=>some (v,ob.toList)
def x4n:MO->MO
 | .box cs .live=> .box cs .still
 | .sl t xs .live=> .sl t xs .still
 | o=>o
def y0z(E:Env)(o:Oper)(os:List MO):List MO:=match zeb E o with | []=>os | _=>os.map x4n
def j9(E:Env)(o:Oper)(ev:Operand->AV)(m:Nat->Option MO):Option (AV×List MO):=(z72 E o ev m).map fun p=>(p.1,y0z E o p.2)
def extA(σ:St)(dst:Option Nat)(p:AV×List MO):Option St:=
 match dst with
 | some d=>gd (few p.2&&z6n σ.m d 0 p.2) (some ⟨upd σ.ρ d p.1,z1l σ.m d 0 p.2⟩)
 | none=>gd p.2.isEmpty (some σ)
theorem few0:few []=true:=rfl
theorem few1(o:MO):few [o]=true:=rfl
theorem zy2(d:Nat):nm d 0=d:=rfl
theorem yub(E:Env)(o:Oper)(σ:St)(hp:z2k E o=true):opB E o σ some=(z72 E o σ.ev σ.m).bind (extA σ o.dst):=by
 have hpre:preO E o=false:=by unfold z2k at hp;simp only[ab,au]at hp;exact hp.1
 have hp:(match o.op with | .store .. =>false | .call ⟨.builtin .append,_,_⟩=>false | .call ⟨.builtin .copy,_,_⟩=>false | _=>true)=true:=by unfold z2k at hp;simp only[ab]at hp;exact hp.2.2.2
 unfold opB z72;rw[hpre,cond_false];split
 ·rename_i ho;rw[ho]at hp;cases hp
 ·rename_i ho;rw[ho]at hp;cases hp
 ·rename_i ho;rw[ho]at hp;cases hp
 ·rename_i f args ts ho;simp only[ho];cases hf:σ.ev f with
  | clo f caps=>
   simp only;cases cloArgs caps (args.toList.map σ.ev)with
   | none=>rfl
   | some l=>
   simp only;rw[zeo (K:=znw σ o.dst some),zeo (K:=fun r=>some (impV (o.dst.getD 0) 0 r)),aW];congr 1;funext r;unfold znw extA;cases o.dst<;>rfl
  | _=>rfl
 ·rename_i x name args ts ho;simp only[ho];cases hf:σ.ev x with
  | iface t v=>
   simp only;cases E.meth t name with
   | none=>rfl
   | some f=>simp only;rw[zeo (K:=znw σ o.dst some),zeo (K:=fun r=>some (impV (o.dst.getD 0) 0 r)),aW];congr 1;funext r;unfold znw extA;cases o.dst<;>rfl
  | _=>rfl
 ·rename_i n1 n2 nc n3 n4
  have e:(match o.op with
   | .call ⟨.value f,args,_⟩=>match σ.ev f with
    | .clo f caps=>match cloArgs caps (args.toList.map σ.ev)with | some l=>zpi E σ.m f l fun r=>some (impV (o.dst.getD 0) 0 r) | none=>none
    | _=>none
   | .call ⟨.invoke x name,args,_⟩=>match σ.ev x with
    | .iface t v=>match E.meth t name with
     | some f=>zpi E σ.m f (v::args.toList.map σ.ev) fun r=>some (impV (o.dst.getD 0) 0 r)
     | none=>none
    | _=>none
   | op=>W2 E o.dst op σ.ev σ.m fun v ob=>some (v,ob.toList))=W2 E o.dst o.op σ.ev σ.m fun v ob=>some (v,ob.toList):=by
   split
   ·rename_i f args ts ho;exact absurd ho (n3 f args ts)
   ·rename_i x name args ts ho;exact absurd ho (n4 x name args ts)
   ·rfl
  refine Eq.trans ?_ (congrArg (fun z=>eE z (extA σ o.dst)) e).symm;refine(zre E _ _ _ _ _).trans (Eq.trans ?_ (congrArg (fun z=>eE z (extA σ o.dst)) (zre E _ _ _ _ _)).symm);rw[aW];congr 1;funext p;obtain⟨v,ob⟩:=p;cases ob with
  | none=>cases hd:o.dst<;>simp[extA,dZ,z6n,z1l,gd,St.put,putO,few0]
  | some ob=>
   cases hd:o.dst with
   | none=>simp[extA,dZ,gd]
   | some d=>cases hm:σ.m d<;>simp[extA,dZ,z6n,z1l,gd,zy2,hm,few1]
theorem yxr{E:Env}{d:Nat}{op:Op}(hb:yre E op=true){ev:Operand->AV}{m:Nat->Option MO}{q:AV×List MO}(h:W2 E (some d) op ev m (fun v ob=>some (v,ob.toList))=some q):∃t xs,q=(.own d,[.sl t xs .live]):=by
 cases op<;>simp only[yre]at hb<;>first | (cases hb;done) | skip
 ·rename_i t n ps;simp only[W2]at h;cases he:elemTy E t with
  | none=>rw[he]at h;cases h
  | some p=>
   obtain⟨e,ei,ty⟩:=p;rw[he]at h;simp only at h;obtain⟨_,h⟩:=X7 h;split at h
   ·cases h;exact⟨_,_,rfl⟩
   ·cases h
 ·rename_i q0 t x;split at hb
  ·rename_i ti hti;split at hb
   ·rename_i el hd;simp only[W2,hti]at h;cases hq:E.ty q0 with
    | none=>rw[hq]at h;cases h
    | some _=>
     rw[hq]at h;simp only[hd]at h;cases hv:ev x<;>rw[hv]at h<;>first | (cases h;done) | skip
     cases he:elemTy E t with
     | none=>rw[he]at h;cases h
     | some p=>
      obtain⟨e,ei,ty⟩:=p;rw[he]at h;simp only at h;split at h
      ·rename_i e1 e2;cases e2;obtain⟨_,h⟩:=X7 h;cases h;exact⟨_,_,rfl⟩
      ·cases h
   ·cases hb
  ·cases hb
theorem y7q(E:Env)(o:Oper)(σ:St)(hp:z2k E o=true):opA E o σ some=(j9 E o σ.ev σ.m).bind (extA σ o.dst):=by
 have hstill:za6 E o=[]:=by unfold z2k at hp;simp only[ab,bZ]at hp;exact hp.2.1
 have hb:yrf E o=true:=by unfold z2k at hp;simp only[ab]at hp;exact hp.2.2.1
 have hA:opA E o σ some=((z72 E o σ.ev σ.m).bind (extA σ o.dst)).bind fun σ'=>some ⟨σ'.ρ,stillL σ'.m (zeb E o)⟩:=by unfold opA;rw[hstill,yd0];show(opB E o σ some).bind _=_;rw[yub E o σ hp]
 rw[hA];unfold j9;cases hq:z72 E o σ.ev σ.m with
 | none=>rfl
 | some q=>
  simp only[ac,aK];unfold yrf at hb;simp only[aA,bZ]at hb;rcases hb with hb | hb
  ·have e:y0z E o q.2=q.2:=by unfold y0z;rw[hb]
   rw[e,hb];show(extA σ o.dst (q.1,q.2)).bind (fun σ'=>some σ')=extA σ o.dst (q.1,q.2);cases extA σ o.dst (q.1,q.2)<;>rfl
  ·simp only[ab]at hb;obtain⟨hop,hb⟩:=hb;unfold y4v at hb;split at hb
   ·rename_i d n' hd hb';have hn:=af hb;subst hn;have hq':W2 E o.dst o.op σ.ev σ.m (fun v ob=>some (v,ob.toList))=some q:=by
     unfold z72 at hq;split at hq
     ·rename_i h';rw[h']at hop;cases hop
     ·rename_i h';rw[h']at hop;cases hop
     ·exact hq
    rw[hd]at hq';obtain⟨ty,xs,rfl⟩:=yxr hop hq';have e:y0z E o [MO.sl ty xs .live]=[MO.sl ty xs .still]:=by unfold y0z;rw[hb'];rfl
    rw[e,hb',hd];simp only[extA,z6n,few1,aR,bv,z1l,zy2];cases hm:σ.m n' with
    | some _=>rfl
    | none=>
     simp only[gd,cond_true,ac,stillL,aL.injEq,St.mk.injEq,true_and];have:stillO (mupd σ.m n' (.sl ty xs .live)) n'=mupd (mupd σ.m n' (.sl ty xs .live)) n' (.sl ty xs .still):=by unfold stillO;rw[V9]
     rw[this];funext k;simp only[mupd];cases ax k n'<;>rfl
   ·cases hb
def resG(E:Env)(all:Array Oper)(o:Oper)(σ:St):Option (AV×List MO):=
 match o.guard with
 | none=>j9 E o σ.ev σ.m
 | some (j,want)=>
  match(all[j]?).bind (·.dst)with
  | none=>none
  | some t=>
   match σ.ρ t with
   | .bool b=>if b=want then j9 E o σ.ev σ.m else some (.tup [],[])
   | .tup []=>some (.tup [],[])
   | _=>none
theorem z90(E:Env)(all:Array Oper)(o:Oper)(σ:St)(hp:z2k E o=true):stepG E all o σ=(resG E all o σ).bind (extA σ o.dst):=by
 unfold stepG resG;cases hg:o.guard with
 | none=>exact y7q E o σ hp
 | some g=>
  obtain⟨j,want⟩:=g;simp only;cases ht:(all[j]?).bind (·.dst)with
  | none=>rfl
  | some t=>
   simp only;cases hv:σ.ρ t with
   | bool b=>
    simp only;by_cases hb:b=want
    ·rw[if_pos hb,if_pos hb];exact y7q E o σ hp
    ·rw[if_neg hb,if_neg hb];simp only[ac,extA,St.put,putO];cases o.dst<;>rfl
   | tup l=>
    cases l with
    | nil=>simp only[ac,extA,St.put,putO];cases o.dst<;>rfl
    | cons _ _=>rfl
   | _=>rfl
theorem zii{f g:Operand->AV}{l:List Operand}(h:∀x,x∈l->f x=g x):l.map f=l.map g:=cg h
theorem yhx{f g:Operand->AV}{x:Option Operand}(h:∀y,y∈x.toArray->f y=g y):x.map f=x.map g:=by
 cases x with
 | none=>rfl
 | some y=>simp[h y (by simp)]
theorem y8p{f g:Operand->AV}{ps:Array (Nat×Operand)}(h:∀y,y∈ps.toList.map (·.2)->f y=g y):(ps.toList.map fun p=>(p.1,f p.2))=ps.toList.map fun p=>(p.1,g p.2):=by refine cg fun p hp=> ?_;rw[h p.2 (aH.2 ⟨p,hp,rfl⟩)]
theorem ylx(E:Env)(dst:Option Nat)(op:Op)(ev ev':Operand->AV)(m:Nat->Option MO)(K:AV->Option MO->Option R)(h:∀x,x∈op.operands->ev x=ev' x):W2 E dst op ev m K=W2 E dst op ev' m K:=by
 cases op<;>simp only[Op.operands]at h<;>try rfl
 case move x=>simp only[W2,h x (by simp)]
 case nilCheck x=>simp only[W2,h x (by simp)]
 case assign x=>simp only[W2,h x (by simp)]
 case pick c a b=>simp only[W2,h c (by simp),h a (by simp),h b (by simp)]
 case box t x=>simp only[W2,h x (by simp)]
 case build t ps=>
  have:=y8p (ps:=ps) (f:=ev) (g:=ev') fun y hy=>h y (by simpa using hy);simp only[W2,this]
 case buildSlice t n ps=>
  have:=y8p (ps:=ps) (f:=ev) (g:=ev') fun y hy=>h y (by simpa using hy);simp only[W2,this]
 case load t a=>simp only[W2,h a (by simp)]
 case binOp op t x y t'=>simp only[W2,h x (by simp),h y (by simp)]
 case unOp op t x=>cases op<;>simp only[W2,h x (by simp)]
 case convert q t x=>simp only[W2,h x (by simp)]
 case makeInterface t x=>simp only[W2,h x (by simp)]
 case makeFunc f first caps=>
  have:caps.toList.map ev=caps.toList.map ev':=zii fun y hy=>h y (by simp;exact .inr (by simpa using hy));have this2:first.toList.map ev=first.toList.map ev':=zii fun y hy=>h y (by simp;exact .inl (by simpa using hy))
  cases f<;>simp only[W2,this,this2]
 case makeSlice t n c=>simp only[W2,h n (by simp),h c (by simp)]
 case slice t x lo hi mx=>
  have h1:lo.map ev=lo.map ev':=yhx fun y hy=>h y (by simp at hy|-;simp[hy]);have h2:hi.map ev=hi.map ev':=yhx fun y hy=>h y (by simp at hy|-;simp[hy]);cases mx with
  | none=>simp only[W2,h x (by simp),h1,h2]
  | some z=>simp only[W2,h x (by simp),h1,h2,h z (by simp)]
 case fieldAddr s x f=>simp only[W2,h x (by simp)]
 case field s x f=>simp only[W2,h x (by simp)]
 case indexAddr t x i=>simp only[W2,h x (by simp),h i (by simp)]
 case index t x i=>simp only[W2,h x (by simp),h i (by simp)]
 case extract x i=>simp only[W2,h x (by simp)]
 case call c=>
  obtain⟨callee,args,ts⟩:=c;have hargs:args.toList.map ev=args.toList.map ev':=zii fun y hy=>h y (by cases callee<;>simp[Call.operands]<;>simp at hy<;>simp[hy]);cases callee with
  | value f=>rfl
  | invoke x n=>rfl
  | builtin b=>
   cases b<;>try rfl
   case len=>
    have hx:∀x,args.toList=[x]->ev x=ev' x:=fun x hx=>h x (by simp[Call.operands];rw[<-Array.mem_toList_iff,hx];simp);simp only[W2];split
    ·rename_i x t ha ht;rw[hx x ha]
    ·rfl
   case min=>simp only[W2,hargs]
   case max=>simp only[W2,hargs]
theorem z9f(E:Env)(o:Oper)(ev ev':Operand->AV)(m:Nat->Option MO)(h:∀x,x∈o.op.operands->ev x=ev' x):j9 E o ev m=j9 E o ev' m:=by
 unfold j9;congr 1;unfold z72;split
 ·rename_i f args ts ho;rw[ho]at h;have hargs:args.toList.map ev=args.toList.map ev':=zii fun y hy=>h y (by simp[Op.operands,Call.operands];simp at hy;simp[hy]);rw[h f (by simp[Op.operands,Call.operands]),hargs]
 ·rename_i x name args ts ho;rw[ho]at h;have hargs:args.toList.map ev=args.toList.map ev':=zii fun y hy=>h y (by simp[Op.operands,Call.operands];simp at hy;simp[hy]);rw[h x (by simp[Op.operands,Call.operands]),hargs]
 ·exact ylx E _ _ _ _ _ _ h
def Ext(m m':Nat->Option MO):Prop:=∀n,m n≠none->m' n=m n
section mem
variable {w:World} {S:Nat->Prop} {γ:Nat->Loc} {m m':Nat->Option MO} {base:Nat->Prop} (hm:MemRel w S γ m base) (hx:Ext m m')
include hx in
theorem y75{n:Nat}{x:Value}(h:RepA w S γ m (.own n) x):m' n=m n:=by obtain⟨t,xs,s,h1,_⟩:=h;exact hx n (by rw[h1];simp)
include hx in
theorem ys9{n off:Nat}{x:Value}(h:RepA w S γ m (.ptr n off) x):m' n=m n:=by obtain⟨cs,s,b,h1,_⟩:=h;exact hx n (by rw[h1];simp)
include hx in
theorem x0v{n i off:Nat}{x:Value}(h:RepA w S γ m (.oel n i off) x):m' n=m n:=by obtain⟨t,xs,s,b,h1,_⟩:=h;exact hx n (by rw[h1];simp)
include hx in
theorem ydw{t:Ty}{v:AV}{x:Value}(h:RepA w S γ m v x):z4i m' t v=z4i m t v:=by cases v<;>simp only[z4i];rw[y75 hx h]
include hx in
theorem ylj{t:Ty}{v:AV}{x:Value}(h:RepA w S γ m v x):zb7 m' t v=zb7 m t v:=by cases v<;>simp only[zb7];rw[y75 hx h]
include hx in
theorem yx6{v:AV}{x:Value}(h:RepA w S γ m v x):lenA m' v=lenA m v:=by cases v<;>simp only[lenA];rw[y75 hx h]
include hx in
theorem yf7:∀(t:Ty) (cs:List AV) (vs:List Value),RepAs w S γ m cs vs->decP m' t cs=decP m t cs/\∀x r,decP m t cs=some (x,r)->∃us,RepAs w S γ m r us
 | .int k,[],vs,h=>⟨rfl,fun x r e=>by simp[decP]at e⟩
 | .int k,v::r,vs,h=>by
  obtain⟨u,us,rfl,h1,h2⟩:=h;cases v<;>refine⟨rfl,fun x r e=> ?_⟩<;>simp only[decP]at e<;>try (cases e;done)
  split at e
  ·cases e;exact⟨us,h2⟩
  ·cases e
 | .bool,[],vs,h=>⟨rfl,fun x r e=>by simp[decP]at e⟩
 | .bool,v::r,vs,h=>by
  obtain⟨u,us,rfl,h1,h2⟩:=h;cases v<;>refine⟨rfl,fun x r e=> ?_⟩<;>simp only[decP]at e<;>try (cases e;done)
  cases e;exact⟨us,h2⟩
 | .str,[],vs,h=>⟨rfl,fun x r e=>by simp[decP]at e⟩
 | .str,v::r,vs,h=>by
  obtain⟨u,us,rfl,h1,h2⟩:=h;cases v<;>refine⟨rfl,fun x r e=> ?_⟩<;>simp only[decP]at e<;>try (cases e;done)
  cases e;exact⟨us,h2⟩
 | .unit,cs,vs,h=>⟨rfl,fun x r e=>by simp only[decP]at e;cases e;exact⟨vs,h⟩⟩
 | .pair a b,cs,vs,h=>by
  obtain⟨e1,f1⟩:=yf7 a cs vs h;simp only[decP];rw[e1];cases hq:decP m a cs with
  | none=>exact⟨rfl,fun x r e=>by cases e⟩
  | some p=>
   obtain⟨x1,r1⟩:=p;obtain⟨us,hus⟩:=f1 x1 r1 hq;obtain⟨e2,f2⟩:=yf7 b r1 us hus;simp only;rw[e2];refine⟨rfl,fun x r e=> ?_⟩;split at e
   ·rename_i y r' hy;cases e;exact f2 _ _ hy
   ·cases e
 | .list t,[],vs,h=>⟨rfl,fun x r e=>by simp[decP]at e⟩
 | .list t,v::r,vs,h=>by
  obtain⟨u,us,rfl,h1,h2⟩:=h;simp only[decP];rw[ydw hx h1];refine⟨rfl,fun x r e=> ?_⟩;split at e
  ·cases e;exact⟨us,h2⟩
  ·cases e
include hx in
theorem yt2{t:Ty}{cs:List AV}{vs:List Value}(h:RepAs w S γ m cs vs):dec m' t cs=dec m t cs:=by unfold dec;rw[(yf7 hx t cs vs h).1]
include hx in
theorem yij{ev:Operand->AV}{el:Operand->Value}(hev:∀x,RepA w S γ m (ev x) (el x)){t:Ty}:∀(ps:List (Nat×Operand)) (acc:List t.T),y0x m' t (ps.map fun p=>(p.1,ev p.2)) acc=y0x m t (ps.map fun p=>(p.1,ev p.2)) acc
 | [],acc=>rfl
 | (i,x)::ps,acc=>by
  have hd:dec m' t (ev x).cells=dec m t (ev x).cells:=by
   have hr:=hev x;cases hv:ev x with
   | agg cs=>rw[hv]at hr;obtain⟨vs,_,h2,_⟩:=hr;exact yt2 hx h2
   | _=>rw[hv]at hr;exact yt2 hx (cs:=[_]) (vs:=[el x]) ⟨_,[],rfl,hr,rfl⟩
  simp only[aC,y0x,hd];cases dec m t (ev x).cells with
  | none=>rfl
  | some y=>simp only;cases cj i acc.length<;>simp[yij hev ps]
theorem y4m{f g:AV->Option AV}(h:∀v x,RepA w S γ m v x->f v=g v):∀(vs:List AV) (xs:List Value),RepAs w S γ m vs xs->mapO f vs=mapO g vs
 | [],_,_=>rfl
 | v::vs,xs,hr=>by obtain⟨u,us,rfl,h1,h2⟩:=hr;simp only[mapO,h v u h1,y4m h vs us h2]
include hm hx in
theorem y4g{lv:Bool}:∀(k:Nat) (v:AV) (x:Value),RepA w S γ m v x->seeV lv m' k v=seeV lv m k v
 | 0,_,_,_=>rfl
 | k+1,v,x,hr=>by
  have ih:=y4m (y4g (lv:=lv) k);cases v<;>simp only[seeV]
  case own n=>rw[y75 hx hr]
  case ptr n off=>
   rw[ys9 hx hr];obtain⟨cs0,s0,b,k1,k2,k3⟩:=hr;rw[k1];obtain⟨b',vs,el',h1,h2,h3,_⟩:=hm.obj n _ k1;cases s0<;>simp only[ih cs0 vs h3]
  case bx cs off=>
   obtain⟨b,vs,h1,h2,h3,_⟩:=hr;rw[ih cs vs h3]
  case clo f caps=>
   obtain⟨vs,h1,h2⟩:=hr;rw[ih caps vs h2]
  case iface t y=>
   obtain⟨u,h1,h2⟩:=hr;rw[y4g k y u h2]
  case agg cs=>
   obtain⟨vs,h1,h2,_⟩:=hr;rw[ih cs vs h2]
  case tup cs=>
   obtain⟨vs,h1,h2⟩:=hr;rw[ih cs vs h2]
include hm hx in
theorem yip(E:Env){f:FuncId}{as:List AV}{xs:List Value}(h:RepAs w S γ m as xs)(K:AV->Option R):zpi E m' f as K=zpi E m f as K:=by unfold zpi;rw[y4m (y4g hm hx (lv:=false) 8) as xs h,y4m (y4g hm hx (lv:=true) 8) as xs h]
include hx in
theorem yv0(E:Env){dst:Option Nat}{op:Op}{ev:Operand->AV}{el:Operand->Value}(hev:∀x,RepA w S γ m (ev x) (el x))(K:AV->Option MO->Option R):W2 E dst op ev m' K=W2 E dst op ev m K:=by
 cases op<;>try rfl
 case load t a=>
  simp only[W2];have h:=hev a;cases hv:ev a<;>rw[hv]at h<;>simp only
  ·rw[ys9 hx h]
  ·rw[x0v hx h]
 case unOp op t x=>cases op<;>rfl
 case makeFunc f a b=>cases f<;>rfl
 case convert q t x=>
  simp only[W2];have h:=hev x;cases E.ty q with
  | none=>rfl
  | some qi=>
   cases E.ty t with
   | none=>rfl
   | some ti=>simp only;have e:=fun t=>ylj (t:=t) hx h;cases ti.d<;>cases hv:ev x<;>rw[hv]at e<;>first | rfl | (simp only;rw[e])
 case slice t x lo hi mx=>
  simp only[W2];have h:=hev x;have e:=fun t=>ydw (t:=t) hx h;cases E.ty t with
  | none=>rfl
  | some ti=>simp only;cases ti.d<;>cases hv:ev x<;>rw[hv]at e<;>first | rfl | (simp only[e])
 case indexAddr t x i=>
  simp only[W2];have h:=hev x;cases hv:ev x<;>rw[hv]at h<;>simp only;rw[y75 hx h]
 case buildSlice t n ps=>
  simp only[W2];simp only[yij hx hev]
 case call c=>
  obtain⟨callee,args,ts⟩:=c;cases callee with
  | value f=>rfl
  | invoke x n=>rfl
  | builtin b=>
   cases b<;>try rfl
   simp only[W2];split
   ·rename_i x t _ _;have h:=hev x;have e:=yx6 hx h;cases E.ty t with
    | none=>rfl
    | some ti=>simp only;cases ti.d<;>cases hv:ev x<;>rw[hv]at e<;>first | rfl | (simp only[e])
   ·rfl
include hm hx in
theorem ypq(E:Env){o:Oper}{ev:Operand->AV}{el:Operand->Value}(hev:∀x,RepA w S γ m (ev x) (el x)):j9 E o ev m'=j9 E o ev m:=by
 unfold j9;congr 1;unfold z72;split
 ·rename_i f args ts ho;have h:=hev f;cases hv:ev f<;>rw[hv]at h<;>simp only;rename_i f' caps';cases hl:cloArgs caps' (args.toList.map ev)with
  | none=>rfl
  | some l=>obtain⟨us,vs,_,h2⟩:=zrl h hl (RepAs.map hev args.toList);exact yip hm hx E h2 _
 ·rename_i x name args ts ho;have h:=hev x;cases hv:ev x<;>rw[hv]at h<;>simp only;obtain⟨u,_,h2⟩:=h;split
  ·exact yip hm hx E (as:=_::_) ⟨u,_,rfl,h2,RepAs.map hev _⟩ _
  ·rfl
 ·exact yv0 hx E hev _
end mem
theorem zbn{all:Array Oper}{o:Oper}{t:Tmp}(h:t∉o.looksAt all):(∀x,x∈o.op.operands->x≠ .tmp t)/\∀j want,o.guard=some (j,want)->(all[j]?).bind (·.dst)≠some t:=by
 constructor
 ·intro x hx e;subst e;apply h;unfold Oper.looksAt;simp only[am];left;exact List.mem_filterMap.2 ⟨.tmp t,by simpa using hx,rfl⟩
 ·intro j want hg e;apply h;unfold Oper.looksAt;simp only[am,hg];right;rw[e];simp
theorem zcy{σ:St}{d:Nat}{v:AV}{m:Nat->Option MO}{x:Operand}(h:x≠ .tmp d):(⟨upd σ.ρ d v,m⟩:St).ev x=σ.ev x:=by
 cases x with
 | tmp t=>have:t≠d:=fun e=>h (by rw[e]);exact zgf _ _ this
 | _=>rfl
def Good(σ:St):Prop:=∃X w S γ a,Rel X w S γ σ a
theorem zr8(d:Nat):∀(os:List MO) (m:Nat->Option MO) (k n:Nat),z1l m d k os n=(match os[(n-nm d k)/4096]? with | some o=>if n=nm d (k+(n-nm d k)/4096)then some o else m n | none=>m n)
 | [],m,k,n=>by simp[z1l]
 | o::os,m,k,n=>by
  simp only[z1l];rw[zr8 d os _ (k+1) n];by_cases h0:n=nm d k
  ·subst h0;have e1:(nm d k-nm d (k+1))/4096=0:=by unfold nm;omega
   have e2:nm d k≠nm d (k+1+0):=by unfold nm;omega
   rw[e1];simp only[Nat.sub_self,Nat.zero_div,bD,cZ,if_true,V9];cases os[0]? with
   | none=>rfl
   | some q=>simp only;rw[if_neg (by unfold nm;omega)]
  ·rw[X4 _ _ h0];by_cases h1:∃i,n=nm d (k+1+i)
   ·obtain⟨i,hi⟩:=h1;have e1:(n-nm d (k+1))/4096=i:=by rw[hi];unfold nm;omega
    have e2:(n-nm d k)/4096=i+1:=by rw[hi];unfold nm;omega
    rw[e1,e2];simp only[ce];have e3:k+1+i=k+(i+1):=by omega
    rw[e3]
   ·have a1:n≠nm d (k+1+(n-nm d (k+1))/4096):=fun e=>h1 ⟨_,e⟩;have a2:n≠nm d (k+(n-nm d k)/4096):=by
     intro e;by_cases hz:(n-nm d k)/4096=0
     ·rw[hz]at e;exact h0 e
     ·exact h1 ⟨(n-nm d k)/4096-1,by rw[e];congr 1;rw[<-e];omega⟩
    simp only[a1,a2,if_false];generalize os[(n-nm d (k+1))/4096]? =q1;generalize(o::os)[(n-nm d k)/4096]? =q2;cases q1<;>cases q2<;>rfl
theorem x2t{d d' k k':Nat}(h:d<4096)(h':d'<4096)(hne:d≠d'):nm d k≠nm d' k':=by unfold nm;omega
theorem ypx{m:Nat->Option MO}{d d':Nat}{os os':List MO}(h:d<4096)(h':d'<4096)(hne:d≠d'):z1l (z1l m d 0 os) d' 0 os'=z1l (z1l m d' 0 os') d 0 os:=by
 funext n;rw[zr8,zr8,zr8,zr8];by_cases h1:n=nm d (0+(n-nm d 0)/4096)
 ·have h2:¬n=nm d' (0+(n-nm d' 0)/4096):=fun e=>x2t h h' hne (h1.symm.trans e);simp only[if_neg h2];generalize os[(n-nm d 0)/4096]? =q1;generalize os'[(n-nm d' 0)/4096]? =q2;cases q1<;>cases q2<;>rfl
 ·simp only[if_neg h1];generalize os[(n-nm d 0)/4096]? =q1;generalize os'[(n-nm d' 0)/4096]? =q2;cases q1<;>cases q2<;>rfl
theorem y85{m:Nat->Option MO}{d:Nat}:∀{os:List MO} {k:Nat},z6n m d k os=true->Ext m (z1l m d k os)
 | [],_,_=>fun _ _=>rfl
 | o::os,k,h=>by
  simp only[z6n,ab]at h;have hfree:m (nm d k)=none:=by
   have:=h.1;split at this
   ·assumption
   ·cases this
  have h2:z6n (mupd m (nm d k) o) d (k+1) os=true:=zpd d os m _ (k+1) (fun i hi=>X4 _ _ (fun e=>by have:=yyn e;omega)) h.2;intro n hn;simp only[z1l];have hne:n≠nm d k:=fun e=>hn (e▸hfree);rw[y85 h2 n (by rw[X4 _ _ hne];exact hn),X4 _ _ hne]
theorem Ext.trans_free{m m':Nat->Option MO}(h:Ext m m'){d:Nat}:∀{os:List MO} {k:Nat},z6n m' d k os=true->z6n m d k os=true
 | [],_,_=>rfl
 | o::os,k,hf=>by
  simp only[z6n,ab]at hf|-;refine⟨?_,Ext.trans_free h hf.2⟩;cases hq:m (nm d k)with
  | none=>rfl
  | some q=>have:=h (nm d k) (by rw[hq];simp);rw[this,hq]at hf;exact absurd hf.1 (by simp)
theorem yq3{m:Nat->Option MO}{d d':Nat}{os:List MO}(h:d<4096)(h':d'<4096)(hne:d≠d'):∀{os':List MO} {k:Nat},z6n m d' k os'=true->z6n (z1l m d 0 os) d' k os'=true:=by intro os' k hf;exact zpd d' os' m _ k (fun i _=>y8s d os m 0 _ (fun i' _=>x2t h' h (Ne.symm hne))) hf
theorem y7j{E:Env}{all:Array Oper}{o:Oper}{σ:St}(hg:Good σ){d:Option Nat}{p:AV×List MO}{σ':St}(hl:∀t,d=some t->t∉o.looksAt all)(he:extA σ d p=some σ'):resG E all o σ'=resG E all o σ:=by
 obtain⟨X,w,S,γ,a,hrel⟩:=hg;cases d with
 | none=>obtain⟨_,he⟩:=X7 he;cases he;rfl
 | some t=>
  obtain⟨hf,he⟩:=X7 he;simp only[ab]at hf;obtain⟨_,hf⟩:=hf;cases he;obtain⟨h1,h2⟩:=zbn (hl t rfl);have hp:j9 E o (⟨upd σ.ρ t p.1,z1l σ.m t 0 p.2⟩:St).ev (z1l σ.m t 0 p.2)=j9 E o σ.ev σ.m:=by rw[z9f E o _ σ.ev _ (fun x hx=>zcy (h1 x hx))];exact ypq hrel.mem (y85 hf) E hrel.ev
  unfold resG;cases hgd:o.guard with
  | none=>exact hp
  | some g=>
   obtain⟨j,want⟩:=g;simp only;cases ht:(all[j]?).bind (·.dst)with
   | none=>rfl
   | some u=>have hne:u≠t:=fun e=>h2 j want hgd (by rw[ht,e]);simp only[zgf _ _ hne,hp]
def Sub(m m':Nat->Option MO)(d:Nat):Prop:=m d=none/\∀k,k≠d->m' k=m k\/((∃t xs,m k=some (.sl t xs .live))/\∃t xs,m' k=some (.sl t xs .dead))
theorem yxv{E:Env}{m m':Nat->Option MO}{d:Nat}{t u:TypeId}{a b v:AV}(h:appA E m d t u a b (fun v m=>some (v,m))=some (v,m')):Sub m m' d/\v= .own d:=by
 unfold appA at h;split at h
 ·cases h
 ·split at h
  ·cases h
  ·rename_i ys _;split at h
   ·cases h
   ·rename_i hd;split at h
    ·obtain⟨_,h⟩:=X7 h;cases h;exact⟨⟨hd,fun k hk=> .inl (X4 _ _ hk)⟩,rfl⟩
    ·rename_i n;split at h
     ·rename_i t' xs hn;split at h
      ·obtain⟨_,h⟩:=X7 h;cases h;refine⟨⟨hd,fun k hk=> ?_⟩,rfl⟩;rw[X4 _ _ hk];by_cases e:k=n
       ·subst e;exact .inr ⟨⟨_,_,hn⟩,_,_,V9 _ _ _⟩
       ·exact .inl (X4 _ _ e)
      ·cases h
     ·cases h
    ·split at h
     ·obtain⟨_,h⟩:=X7 h;cases h;exact⟨⟨hd,fun k hk=> .inl (X4 _ _ hk)⟩,rfl⟩
     ·cases h
    ·cases h
theorem yx2{E:Env}{w:World}{S:Nat->Prop}{γ:Nat->Loc}{m m':Nat->Option MO}{d:Nat}(hs:Sub m m' d){dst:Option Nat}{t:TypeId}{p:Operand}{ev:Operand->AV}{x:Value}(hp:RepA w S γ m (ev p) x)
  {q:AV×List MO} (h:W2 E dst (.load t p) ev m' (fun v ob=>some (v,ob.toList))=some q):W2 E dst (.load t p) ev m (fun v ob=>some (v,ob.toList))=some q/\q.2=[]:=by
 have live:∀{k:Nat} {o:MO},m k≠none->m' k=some o->(∀t xs,o≠ .sl t xs .dead)->m k=some o:=by
  intro k o hk ho hne;have:k≠d:=fun e=>hk (by rw[e];exact hs.1);rcases hs.2 k this with h | ⟨_,t,xs,h⟩
  ·rw[<-h];exact ho
  ·rw[h]at ho;cases ho;exact absurd rfl (hne t xs)
 simp only[W2]at h|-;split at h
 ·cases h
 ·rename_i ti hti;split at h
  ·rename_i n off hv;rw[hv]at hp;obtain⟨cs0,s0,b,k1,_⟩:=hp;have hk:m n≠none:=by rw[k1];simp
   split at h
   ·rename_i cs hn;rw[live hk hn (fun _ _=>by simp)];simp only;split at h
    ·cases h;exact⟨rfl,rfl⟩
    ·cases h
   ·rename_i cs hn;rw[live hk hn (fun _ _=>by simp)];simp only;split at h
    ·cases h;exact⟨rfl,rfl⟩
    ·cases h
   ·cases h
  ·rename_i cs off hv;split at h
   ·cases h;exact⟨rfl,rfl⟩
   ·cases h
  ·rename_i t' x' off hv;split at h
   ·cases h;exact⟨rfl,rfl⟩
   ·cases h
  ·rename_i n i off hv;rw[hv]at hp;obtain⟨t0,xs0,s0,b,k1,_⟩:=hp;have hk:m n≠none:=by rw[k1];simp
   split at h
   ·rename_i t' xs hn;rw[live hk hn (fun _ _=>by simp)];simp only;split at h
    ·cases h;exact⟨rfl,rfl⟩
    ·cases h
   ·rename_i t' xs hn;rw[live hk hn (fun _ _=>by simp)];simp only;split at h
    ·cases h;exact⟨rfl,rfl⟩
    ·cases h
   ·rename_i t' xs j rr hn;rw[live hk hn (fun _ _=>by simp)];simp only;obtain⟨hg,hq⟩:=X7 h;rw[hg];simp only[gd,cond_true];split at hq
    ·cases hq;exact⟨rfl,rfl⟩
    ·cases hq
   ·cases h
  ·cases h
theorem ydv{w:World}{S:Nat->Prop}{γ:Nat->Loc}{m m':Nat->Option MO}{d:Nat}(hs:Sub m m' d){t:Ty}{v:AV}{x:Value}{xs:List t.T}(hv:RepA w S γ m v x)(h:z4i m' t v=some xs):z4i m t v=some xs:=by
 cases v with
 | own n=>
  obtain⟨t0,xs0,s0,k1,_⟩:=hv;have hk:n≠d:=fun e=>by rw[e,hs.1]at k1;cases k1
  rcases hs.2 n hk with h' | ⟨_,t',xs',h'⟩
  ·simp only[z4i]at h|-;rw[h']at h;exact h
  ·simp only[z4i]at h;rw[h']at h;cases h
 | _=>exact h
theorem ypi{E:Env}{dst:Option Nat}{T:TypeId}{y:Operand}{lo hi mx:Option Operand}{ev:Operand->AV}{m:Nat->Option MO}{q:AV×List MO}(h:W2 E dst (.slice T y lo hi mx) ev m (fun v ob=>some (v,ob.toList))=some q):q.2=[]:=by
 simp only[W2]at h
 (repeat' split at h)<;>first | (cases h;done) | (obtain⟨_,h⟩:=X7 h;cases h;rfl)
theorem ytt{E:Env}{w:World}{S:Nat->Prop}{γ:Nat->Loc}{m m':Nat->Option MO}{d:Nat}(hs:Sub m m' d){dst:Option Nat}{T:TypeId}{y:Operand}{lo hi mx:Option Operand}{ev:Operand->AV}{x:Value}(hp:RepA w S γ m (ev y) x)
  {q:AV×List MO} (h:W2 E dst (.slice T y lo hi mx) ev m' (fun v ob=>some (v,ob.toList))=some q):W2 E dst (.slice T y lo hi mx) ev m (fun v ob=>some (v,ob.toList))=some q/\q.2=[]:=by
 refine⟨?_,ypi h⟩;simp only[W2]at h|-;cases hT:E.ty T with
 | none=>rw[hT]at h;cases h
 | some ti=>
  rw[hT]at h;simp only at h|-;cases hd:ti.d with
  | str=>rw[hd]at h;cases hv:ev y<;>rw[hv]at h<;>first | (exact h;done) | cases h
  | slice e'=>
   rw[hd]at h;simp only at h|-;cases he:elemTy E T with
   | none=>rw[he]at h;cases h
   | some p=>
    obtain⟨e,ei,ty⟩:=p;rw[he]at h;simp only at h|-;cases ha:z4i m' ty (ev y)with
    | none=>rw[ha]at h;cases h
    | some xs=>rw[ha]at h;rw[ydv hs hp ha];exact h
  | _=>rw[hd]at h;cases h
theorem yv6(E:Env)(o:Oper):y0z E o []=[]:=by unfold y0z;split<;>rfl
theorem zo7{ρ:Nat->AV}{d d':Nat}{v v':AV}(h:d≠d'):upd (upd ρ d v) d' v'=upd (upd ρ d' v') d v:=by funext n;simp only[upd];cases h1:ax n d<;>cases h2:ax n d'<;>simp only[cond_true,cond_false];exact absurd ((af h1).symm.trans (af h2)) h
def appX(E:Env)(x:Oper)(m:Nat->Option MO)(d:Nat)(t u:TypeId)(a b:AV):Option (AV×(Nat->Option MO)):=
 (appA E m d t u a b fun v m=>some (v,m)).map fun q=>(q.1,stillL q.2 (zeb E x))
theorem born_cases{E:Env}{x:Oper}(hx:z81 E x=true){d:Nat}(hd:x.dst=some d):zeb E x=[]\/zeb E x=[d]:=by
 unfold z81 at hx;split at hx
 ·simp only[ab,aA,bZ]at hx;rcases hx.2.2.2.2 with h | h
  ·exact .inl h
  ·unfold y4v at h;rw[hd]at h;split at h
   ·rename_i d' n e h';cases e;rw[h',af h];exact .inr rfl
   ·cases h
 ·cases hx
theorem stillO_cases(m:Nat->Option MO)(d:Nat):(∃o o',m d=some o/\stillO m d=mupd m d o')/\(∀(m':Nat->Option MO),m' d=m d->∃o',stillO m d=mupd m d o'/\stillO m' d=mupd m' d o')\/∀(m':Nat->Option MO),m' d=m d->stillO m' d=m':=by
 unfold stillO;cases hd:m d with
 | none=>exact .inr fun m' h=>by rw[h]
 | some o=>
  cases o with
  | rng _ _ _=>exact .inr fun m' h=>by rw[h]
  | box cs s=>
   cases s with
   | live=>exact .inl ⟨⟨_,_,rfl,rfl⟩,fun m' h=>⟨_,rfl,by rw[h]⟩⟩
   | still=>exact .inr fun m' h=>by rw[h]
   | dead=>exact .inr fun m' h=>by rw[h]
   | hole _ _=>exact .inr fun m' h=>by rw[h]
  | sl t xs s=>
   cases s with
   | live=>exact .inl ⟨⟨_,_,rfl,rfl⟩,fun m' h=>⟨_,rfl,by rw[h]⟩⟩
   | still=>exact .inr fun m' h=>by rw[h]
   | dead=>exact .inr fun m' h=>by rw[h]
   | hole _ _=>exact .inr fun m' h=>by rw[h]
theorem yj2{m:Nat->Option MO}{d k:Nat}(h:k≠d):stillO m d k=m k:=by
 rcases stillO_cases m d with⟨⟨_,o',_,e⟩,_⟩ | e
 ·rw[e];exact X4 _ _ h
 ·rw[e m rfl]
theorem yfa{E:Env}{x:Oper}(hx:z81 E x=true){m m':Nat->Option MO}{d:Nat}(hd:x.dst=some d){t u:TypeId}{a b v:AV}(h:appX E x m d t u a b=some (v,m')):Sub m m' d/\v= .own d:=by
 unfold appX at h;obtain⟨q,hq,h⟩:=bS.1 h;injection h with h1 h2;obtain⟨k1,k2⟩:=yxv (m':=q.2) (v:=q.1) hq;subst h1 h2;refine⟨?_,k2⟩;rcases born_cases hx hd with e | e
 ·rw[e];exact k1
 ·rw[e];refine⟨k1.1,fun k hk=> ?_⟩;show stillO q.2 d k=m k\/_;have:=k1.2 k hk;rw[<-yj2 (m:=q.2) hk]at this;exact this
theorem ylf{m:Nat->Option MO}{d e:Nat}{ob:MO}(h:d≠e):stillO (mupd m e ob) d=mupd (stillO m d) e ob:=by
 rcases stillO_cases m d with⟨_,k⟩ | k
 ·obtain⟨o',k1,k2⟩:=k (mupd m e ob) (X4 _ _ h);rw[k1,k2];funext k;simp only[mupd];cases h1:ax k d<;>cases h2:ax k e<;>simp only[cond_true,cond_false];exact absurd ((af h1).symm.trans (af h2)) h
 ·rw[k m rfl,k (mupd m e ob) (X4 _ _ h)]
theorem zwt{E:Env}{all:Array Oper}{x:Oper}(hx:z81 E x=true):∃(args:Array Operand) (ts:Array TypeId) (d:Nat),x.op= .call ⟨.builtin .append,args,ts⟩/\x.dst=some d/\∀σ:St,stepG E all x σ=(match args.toList,ts.toList with
     | [a,b],[t,u]=>(appX E x σ.m d t u (σ.ev a) (σ.ev b)).bind fun q=>some ⟨upd σ.ρ d q.1,q.2⟩
     | _,_=>none):=by
 unfold z81 at hx;split at hx
 ·rename_i args ts hox;simp only[ab,aQ,au,bZ]at hx;obtain⟨gx,dx,px,sx,_⟩:=hx;obtain⟨d,hdx⟩:=bm.1 dx;refine⟨args,ts,d,hox,hdx,fun σ=> ?_⟩;unfold stepG;rw[gx];simp only;unfold opA;rw[sx];simp only[stillL];unfold opB;rw[px,hox,hdx];simp only[cond_false];have fin:∀(t u:TypeId) (a b:AV),appA E σ.m d t u a b (fun v m=>some (⟨upd σ.ρ d v,stillL m (zeb E x)⟩:St))=(appX E x σ.m d t u a b).bind fun q=>some ⟨upd σ.ρ d q.1,q.2⟩:=fun t u a b=>by
   unfold appX;rw[y4x];cases appA E σ.m d t u a b (fun v m=>some (v,m))<;>rfl
  rcases args.toList with _ | ⟨a,_ | ⟨b,_ | ⟨c,l⟩⟩⟩<;>rcases ts.toList with _ | ⟨t,_ | ⟨u,_ | ⟨v,l'⟩⟩⟩<;>first | rfl | exact fin ..
 ·cases hx
theorem ylg{E:Env}{all:Array Oper}{y:Oper}(hy:zns y=true):∃(t:TypeId) (p v:Operand),y.op= .store t p v/\y.dst=none/\∀σ:St,stepG E all y σ=ztw E t σ.m (σ.ev p) (σ.ev v) fun m=>some ⟨σ.ρ,m⟩:=by
 unfold zns at hy;split at hy
 ·rename_i t p v hop;simp only[ab,aQ]at hy;obtain⟨gy,dy⟩:=hy;refine⟨t,p,v,hop,dy,fun σ=> ?_⟩;have e1:za6 E y=[]:=by unfold za6;rw[dy]
  have e2:zeb E y=[]:=by unfold zeb;rw[dy]
  have e3:preO E y=false:=by unfold preO;rw[hop]
  unfold stepG;rw[gy];simp only;unfold opA;rw[e1,e2];simp only[stillL];unfold opB;rw[e3,hop,dy];rfl
 ·cases hy
theorem zgg{E:Env}{all:Array Oper}{y:Oper}(gy:y.guard=none)(py:z2k E y=true)(σ:St):stepG E all y σ=(j9 E y σ.ev σ.m).bind (extA σ y.dst):=by unfold stepG;rw[gy];simp only;rw[y7q E y σ py]
theorem y4h{E:Env}{o:Oper}(ho:zpy o.op=true)(ev:Operand->AV)(m m':Nat->Option MO):j9 E o ev m'=j9 E o ev m:=by
 unfold j9;congr 1;unfold z72;cases hop:o.op<;>rw[hop]at ho<;>first | (cases ho;done) | rfl | skip
 case unOp u t x=>cases u<;>rfl
 case call c=>
  obtain⟨callee,args,ts⟩:=c;cases callee with
  | value f=>cases ho
  | invoke x n=>cases ho
  | builtin b=>cases b<;>first | (cases ho;done) | rfl
theorem zrd{E:Env}{dst:Option Nat}{op:Op}(ho:zpy op=true\/zn2 op=true){ev:Operand->AV}{m:Nat->Option MO}{q:AV×List MO}(h:W2 E dst op ev m (fun v ob=>some (v,ob.toList))=some q):q.2=[]:=by
 cases op<;>first | (rcases ho with ho | ho<;>cases ho;done) | skip
 case unOp u t x=>cases u<;>simp only[W2]at h<;>first | (cases h;done) | (split at h<;>first | (cases h;done) | (cases h;rfl))
 case call c=>
  obtain⟨callee,args,ts⟩:=c;cases callee with
  | value f=>rcases ho with ho | ho<;>cases ho
  | invoke x n=>rcases ho with ho | ho<;>cases ho
  | builtin b=>
   cases b<;>first | (rcases ho with ho | ho<;>cases ho;done) | skip
   all_goals
    simp only[W2]at h
    (repeat' split at h)<;>first | (cases h;done) | (cases h;rfl)
 case binOp op t x y k=>
  simp only[W2]at h;obtain⟨_,h⟩:=X7 h;obtain⟨_,h⟩:=X7 h;split at h<;>first | (cases h;done) | (cases h;rfl)
 case pick c a b=>
  simp only[W2]at h;split at h
  ·rename_i x _;cases x<;>(cases h;rfl)
  ·cases h
 all_goals
  simp only[W2]at h
  (repeat' split at h)<;>first | (cases h;done) | (cases h;rfl) | (obtain⟨_,_,_,h2⟩:=zn5 h;clear h;(repeat' split at h2)<;>first | (cases h2;done) | (cases h2;rfl)) | (obtain⟨_,_,_,h⟩:=zn5 h;cases h;rfl) | (obtain⟨_,_,_,h⟩:=zn5 h;cases h;done) | (obtain⟨_,h⟩:=X7 h;(repeat' split at h)<;>first | (cases h;done) | (cases h;rfl))
theorem ylq{E:Env}{o:Oper}(ho:zpy o.op=true\/zn2 o.op=true){ev:Operand->AV}{m:Nat->Option MO}{q:AV×List MO}(h:j9 E o ev m=some q):q.2=[]:=by
 unfold j9 at h;obtain⟨q0,h0,rfl⟩:=bS.1 h;clear h;have h:=h0;have e:W2 E o.dst o.op ev m (fun v ob=>some (v,ob.toList))=some q0:=by
  unfold z72 at h;split at h
  ·rename_i hop;rw[hop]at ho;rcases ho with ho | ho<;>cases ho
  ·rename_i hop;rw[hop]at ho;rcases ho with ho | ho<;>cases ho
  ·exact h
 show y0z E o q0.2=[];rw[zrd ho e];exact yv6 E o
theorem zqx{E:Env}{all:Array Oper}{x:Oper}(ho:zpy x.op=true\/zn2 x.op=true)(gx:x.guard=none)(px:z2k E x=true){d:Nat}(hd:x.dst=some d){σ σ1:St}(h1:stepG E all x σ=some σ1):∃v,j9 E x σ.ev σ.m=some (v,[])/\σ1=⟨upd σ.ρ d v,σ.m⟩:=by rw[zgg gx px]at h1;obtain⟨q,hq,h1⟩:=aw.1 h1;have hn:=ylq ho hq;obtain⟨v,ob⟩:=q;simp only at hn;subst hn;rw[hd]at h1;simp only[extA,few0,z6n,c9,gd,cond_true,z1l,aL.injEq]at h1;exact⟨v,hq,h1.symm⟩
theorem y52{E:Env}{all:Array Oper}{x:Oper}(gx:x.guard=none)(px:z2k E x=true){d:Nat}(hd:x.dst=some d){σ:St}{v:AV}(h:j9 E x σ.ev σ.m=some (v,[])):stepG E all x σ=some ⟨upd σ.ρ d v,σ.m⟩:=by rw[zgg gx px,h,hd];simp only[ac,extA,few0,z6n,c9,gd,cond_true,z1l]
theorem ylc{E:Env}{all:Array Oper}{x y:Oper}{σ σ1 σ2:St}(ha:x.apart all y=true)(hx:ycu E x=true)(hy:z81 E y=true)(h1:stepG E all x σ=some σ1)(h2:stepG E all y σ1=some σ2):
  ∃σ1',stepG E all y σ=some σ1'/\stepG E all x σ1'=some σ2:=by
 obtain⟨a1,a2,a3⟩:=Oper.apart_spec ha;simp only[ycu,ab,aQ]at hx;obtain⟨ox,gx,dx,px⟩:=hx;obtain⟨d,hdx⟩:=bm.1 dx;obtain⟨v,hv,rfl⟩:=zqx (.inl ox) gx px hdx h1;obtain⟨args,ts,d',hoy,hdy,stepY⟩:=zwt (all:=all) hy;have hne:d≠d':=fun e=>a2 d hdx (by rw[hdy,e]);rw[stepY]at h2;split at h2
 ·rename_i a0 b0 t0 u0 hargs hts;have hyl:∀z,z∈y.op.operands->z≠ .tmp d:=(zbn (a1 d hdx)).1;have e1:(⟨upd σ.ρ d v,σ.m⟩:St).ev a0=σ.ev a0:=zcy (hyl a0 (by rw[hoy];have:a0∈args:=cz.2 (by rw[hargs];simp);simpa[Op.operands,Call.operands] using this));have e2:(⟨upd σ.ρ d v,σ.m⟩:St).ev b0=σ.ev b0:=zcy (hyl b0 (by rw[hoy];have:b0∈args:=cz.2 (by rw[hargs];simp);simpa[Op.operands,Call.operands] using this));rw[e1,e2]at h2;obtain⟨q,hq,h2⟩:=aw.1 h2;cases h2;refine⟨⟨upd σ.ρ d' q.1,q.2⟩, ?_, ?_⟩
  ·rw[stepY];simp only[hargs,hts,hq,ac]
  ·have hxl:∀z,z∈x.op.operands->z≠ .tmp d':=(zbn (a3 d' hdy)).1;have:=y52 (all:=all) (σ:=⟨upd σ.ρ d' q.1,q.2⟩) gx px hdx (v:=v) (by
    rw[z9f E x _ σ.ev _ (fun z hz=>zcy (hxl z hz)),y4h ox σ.ev σ.m q.2];exact hv)
   rw[this,zo7 hne]
 ·cases h2
section sub
variable {w:World} {S:Nat->Prop} {γ:Nat->Loc} {m m':Nat->Option MO} {d:Nat} (hs:Sub m m' d)
include hs
theorem zoc{k:Nat}{o:MO}(hk:m k≠none)(ho:m' k=some o)(hne:∀t xs,o≠ .sl t xs .dead):m k=some o:=by
 have:k≠d:=fun e=>hk (by rw[e];exact hs.1);rcases hs.2 k this with h | ⟨_,t,xs,h⟩
 ·rw[<-h];exact ho
 ·rw[h]at ho;cases ho;exact absurd rfl (hne t xs)
theorem ylh{t:Ty}{v:AV}{x:Value}{xs:List t.T}(hv:RepA w S γ m v x)(h:zb7 m' t v=some xs):zb7 m t v=some xs:=by
 cases v with
 | own n=>
  obtain⟨t0,xs0,s0,k1,_⟩:=hv;have hk:m n≠none:=by rw[k1];simp
  simp only[zb7]at h|-;split at h
  ·rename_i t' xs' hn;rw[zoc hs hk hn (fun _ _=>by simp)];exact h
  ·rename_i t' xs' hn;rw[zoc hs hk hn (fun _ _=>by simp)];exact h
  ·cases h
 | _=>exact h
theorem yx5{v:AV}{x:Value}{n:Int}(hv:RepA w S γ m v x)(h:lenA m' v=some n):lenA m v=some n:=by
 cases v with
 | own k=>
  obtain⟨t0,xs0,s0,k1,_⟩:=hv;have hk:m k≠none:=by rw[k1];simp
  simp only[lenA]at h|-;split at h
  ·rename_i t' xs' hn;rw[zoc hs hk hn (fun _ _=>by simp)];exact h
  ·rename_i t' xs' hn;rw[zoc hs hk hn (fun _ _=>by simp)];exact h
  ·cases h
 | _=>exact h
theorem yf4:∀(t:Ty) (cs:List AV) (vs:List Value) (x:t.T) (r:List AV),RepAs w S γ m cs vs->decP m' t cs=some (x,r)->decP m t cs=some (x,r)/\∃us,RepAs w S γ m r us
 | .int k,[],vs,x,r,h,e=>by simp[decP]at e
 | .int k,v::r0,vs,x,r,h,e=>by
  obtain⟨u,us,rfl,h1,h2⟩:=h;cases v<;>simp only[decP]at e⊢<;>first | (cases e;done) | skip
  split at e
  ·cases e;exact⟨rfl,us,h2⟩
  ·cases e
 | .bool,[],vs,x,r,h,e=>by simp[decP]at e
 | .bool,v::r0,vs,x,r,h,e=>by
  obtain⟨u,us,rfl,h1,h2⟩:=h;cases v<;>simp only[decP]at e⊢<;>first | (cases e;done) | skip
  cases e;exact⟨rfl,us,h2⟩
 | .str,[],vs,x,r,h,e=>by simp[decP]at e
 | .str,v::r0,vs,x,r,h,e=>by
  obtain⟨u,us,rfl,h1,h2⟩:=h;cases v<;>simp only[decP]at e⊢<;>first | (cases e;done) | skip
  cases e;exact⟨rfl,us,h2⟩
 | .unit,cs,vs,x,r,h,e=>by simp only[decP]at e|-;cases e;exact⟨rfl,vs,h⟩
 | .pair a b,cs,vs,x,r,h,e=>by
  simp only[decP]at e|-;split at e
  ·rename_i x1 r1 h1;obtain⟨e1,us,hus⟩:=yf4 a cs vs x1 r1 h h1;split at e
   ·rename_i y r2 h2;obtain⟨e2,us2,hus2⟩:=yf4 b r1 us y r2 hus h2;cases e;rw[e1];simp only[e2];exact⟨trivial,us2,hus2⟩
   ·cases e
  ·cases e
 | .list t,[],vs,x,r,h,e=>by simp[decP]at e
 | .list t,v::r0,vs,x,r,h,e=>by
  obtain⟨u,us,rfl,h1,h2⟩:=h;simp only[decP]at e|-;split at e
  ·rename_i xs hxs;rw[ydv hs h1 hxs];cases e;exact⟨rfl,us,h2⟩
  ·cases e
theorem yt1{t:Ty}{cs:List AV}{vs:List Value}{x:t.T}(h:RepAs w S γ m cs vs)(e:dec m' t cs=some x):dec m t cs=some x:=by
 unfold dec at e|-;split at e
 ·rename_i y hy;cases e;rw[(yf4 hs t cs vs _ _ h hy).1]
 ·cases e
theorem yih{ev:Operand->AV}{el:Operand->Value}(hev:∀x,RepA w S γ m (ev x) (el x)){t:Ty}:∀(ps:List (Nat×Operand)) (acc xs:List t.T),y0x m' t (ps.map fun p=>(p.1,ev p.2)) acc=some xs->y0x m t (ps.map fun p=>(p.1,ev p.2)) acc=some xs
 | [],acc,xs,h=>h
 | (i,x)::ps,acc,xs,h=>by
  simp only[aC,y0x]at h|-;split at h
  ·rename_i y hy;have hd:dec m t (ev x).cells=some y:=by
    have hr:=hev x;cases hv:ev x with
    | agg cs=>rw[hv]at hr hy;obtain⟨vs,_,h2,_⟩:=hr;exact yt1 hs h2 hy
    | _=>rw[hv]at hr hy;exact yt1 hs (cs:=[_]) (vs:=[el x]) ⟨_,[],rfl,hr,rfl⟩ hy
   rw[hd];rcases bif_some h with⟨h1,h2⟩ | ⟨_,h2⟩
   ·simp only[h1,cond_true];exact yih hev ps _ xs h2
   ·cases h2
  ·cases h
theorem yxh{E:Env}{dst:Option Nat}{op:Op}(ho:x2n op=true){ev:Operand->AV}{el:Operand->Value}(hev:∀x,RepA w S γ m (ev x) (el x)){q:AV×List MO}(h:W2 E dst op ev m' (fun v ob=>some (v,ob.toList))=some q):
  W2 E dst op ev m (fun v ob=>some (v,ob.toList))=some q/\q.2.length<=1:=by
 have pu:zpy op=true->W2 E dst op ev m (fun v ob=>some (v,ob.toList))=some q/\q.2.length<=1:=fun hp=>by
  have e:W2 E dst op ev m (fun v ob=>some (v,ob.toList))=W2 E dst op ev m' (fun v ob=>some (v,ob.toList)):=by
   cases op<;>first | (cases hp;done) | rfl | skip
   case unOp u t x=>cases u<;>rfl
   case call c=>
    obtain⟨callee,args,ts⟩:=c;cases callee with
    | value f=>cases hp
    | invoke x n=>cases hp
    | builtin b=>cases b<;>first | (cases hp;done) | rfl
  refine⟨e.trans h, ?_⟩;rw[zrd (.inl hp) h];simp
 cases op with
 | load t p=>obtain⟨h1,h2⟩:=yx2 hs (hev p) h;exact⟨h1,by rw[h2];simp⟩
 | slice T y lo hi mx=>obtain⟨h1,h2⟩:=ytt hs (hev y) h;exact⟨h1,by rw[h2];simp⟩
 | indexAddr T x i=>
  refine⟨?_,by rw[zrd (.inr rfl) h];simp⟩;simp only[W2]at h|-;split at h
  ·split at h
   ·split at h
    ·split at h
     ·split at h
      ·exact h
      ·exact h
      ·rename_i n hv;have hp:=hev x;rw[hv]at hp;obtain⟨t0,xs0,s0,k1,_⟩:=hp;have hk:m n≠none:=by rw[k1];simp
       split at h
       ·rename_i t' xs' hn;rw[zoc hs hk hn (fun _ _=>by simp)];exact h
       ·rename_i t' xs' hn;rw[zoc hs hk hn (fun _ _=>by simp)];exact h
       ·rename_i t' xs' j rr hn;rw[zoc hs hk hn (fun _ _=>by simp)];exact h
       ·cases h
      ·cases h
     ·cases h
    ·exact h
    ·cases h
   ·cases h
  ·cases h
 | index T x i=>exact⟨by simp only[W2]at h|-;exact h,by rw[zrd (.inr rfl) h];simp⟩
 | convert a b x=>
  simp only[W2]at h|-;split at h
  ·split at h
   ·cases h;exact⟨rfl,by simp⟩
   ·cases h;exact⟨rfl,by simp⟩
   ·cases h;exact⟨rfl,by simp⟩
   ·split at h
    ·split at h
     ·rename_i xs hxs;rw[ylh hs (hev x) hxs];cases h;exact⟨rfl,by simp⟩
     ·cases h
    ·cases h
   ·split at h
    ·obtain⟨h1,h⟩:=X7 h;cases h;exact⟨by rw[h1];rfl,by simp⟩
    ·cases h
   ·cases h
  ·cases h
 | buildSlice t n ps=>
  simp only[W2]at h|-;split at h
  ·obtain⟨h1,h⟩:=X7 h;split at h
   ·rename_i xs hxs;rw[yih hs hev _ _ _ hxs];cases h;exact⟨by rw[h1];rfl,by simp⟩
   ·cases h
  ·cases h
 | alloc t=>
  simp only[W2]at h|-;refine⟨h, ?_⟩
  repeat' split at h
  all_goals first | (cases h;done) | (cases h;simp)
 | makeSlice t n c=>
  simp only[W2]at h|-;refine⟨h, ?_⟩;split at h
  ·obtain⟨_,h⟩:=X7 h;cases h;simp
  ·cases h
 | call c=>
  obtain⟨callee,args,ts⟩:=c;cases callee with
  | value f=>cases ho
  | invoke x n=>cases ho
  | builtin b=>
   cases b with
   | len=>
    refine⟨?_,by rw[zrd (.inr rfl) h];simp⟩;simp only[W2]at h|-;split at h
    ·split at h
     ·split at h
      ·exact h
      ·split at h
       ·cases h
       ·split at h
        ·rename_i n hn;rw[yx5 hs (hev _) hn];exact h
        ·cases h
      ·exact h
      ·cases h
     ·cases h
    ·cases h
   | min=>exact pu rfl
   | max=>exact pu rfl
   | _=>cases ho
 | _=>exact pu ho
end sub
theorem yv7(E:Env)(o:Oper)(l:List MO):(y0z E o l).length<=l.length:=by unfold y0z;split<;>simp
theorem yqn{E:Env}{w:World}{S:Nat->Prop}{γ:Nat->Loc}{m:Nat->Option MO}{e d:Nat}{ob:MO}(he:m e=none)(hne:d≠e){t u:TypeId}{a b:AV}{x y:Value}(ha:RepA w S γ m a x)(hb:RepA w S γ m b y):
  appA E (mupd m e ob) d t u a b (fun v m=>some (v,m))=(appA E m d t u a b (fun v m=>some (v,m))).map fun q=>(q.1,mupd q.2 e ob):=by
 have look:∀{n:Nat},m n≠none->mupd m e ob n=m n:=fun {n} h=>X4 _ _ fun e'=>h (by rw[e',he]);have hsrc:∀ty,appSrc E (mupd m e ob) ty u b=appSrc E m ty u b:=fun ty=>by
  unfold appSrc;cases b with
  | own n=>obtain⟨t0,xs0,s0,k1,_⟩:=hb;simp only[zb7,look (show m n≠none by rw[k1];simp)]
  | _=>rfl
 have hcomm:∀{n:Nat} {o:MO},n≠e->mupd (mupd m e ob) n o=mupd (mupd m n o) e ob:=fun {n o} h=>by funext k;simp only[mupd];cases h1:ax k n<;>cases h2:ax k e<;>simp only[cond_true,cond_false];exact absurd ((af h1).symm.trans (af h2)) h
 have hcomm2:∀{m:Nat->Option MO} {o:MO},mupd (mupd m e ob) d o=mupd (mupd m d o) e ob:=fun {m o}=>by funext k;simp only[mupd];cases h1:ax k d<;>cases h2:ax k e<;>simp only[cond_true,cond_false];exact absurd ((af h1).symm.trans (af h2)) hne
 unfold appA;cases elemTy E t with
 | none=>rfl
 | some p=>
  obtain⟨e0,ei,ty⟩:=p;simp only[hsrc];cases appSrc E m ty u b with
  | none=>rfl
  | some ys=>
   simp only;rw[X4 _ _ hne];cases m d with
   | some _=>rfl
   | none=>
    simp only;cases a with
    | nils=>
     simp only;cases fits ys.length ei.bytes
     ·rfl
     ·simp only[gd,cond_true,aK,hcomm2]
    | own n=>
     obtain⟨t0,xs0,s0,k1,_⟩:=ha;have hk:m n≠none:=by rw[k1];simp
     simp only[look hk];cases hmn:m n with
     | none=>rfl
     | some o=>
      cases o with
      | sl t' xs st=>
       cases st<;>simp only<;>first | rfl | skip
       cases castL t' ty xs with
       | none=>rfl
       | some xs'=>
        simp only;cases fits (xs'.length+ys.length) ei.bytes
        ·rfl
        ·simp only[gd,cond_true,aK];rw[hcomm (fun e'=>hk (by rw[e',he])),hcomm2]
      | _=>rfl
    | clip t' xs=>
     simp only;cases castL t' ty xs with
     | none=>rfl
     | some xs'=>
      simp only;cases (cj 0 ys.length&&fits (xs'.length+ys.length) ei.bytes)
      ·rfl
      ·simp only[gd,cond_true,aK,hcomm2]
    | _=>rfl
theorem ydz{E:Env}{x:Oper}(hx:z81 E x=true){w:World}{S:Nat->Prop}{γ:Nat->Loc}{m:Nat->Option MO}{e d:Nat}(hd:x.dst=some d){ob:MO}(he:m e=none)(hne:d≠e){t u:TypeId}{a b:AV}{y z:Value}(ha:RepA w S γ m a y)(hb:RepA w S γ m b z):
  appX E x (mupd m e ob) d t u a b=(appX E x m d t u a b).map fun q=>(q.1,mupd q.2 e ob):=by
 unfold appX;rw[yqn he hne ha hb,eH,eH];congr 1;funext q;rcases born_cases hx hd with h | h
 ·simp only[Function.comp,h,stillL]
 ·simp only[Function.comp,h,stillL,ylf hne]
theorem x0j{E:Env}{all:Array Oper}{x y:Oper}{σ σ1 σ2:St}(hg:Good σ)(ha:x.apart all y=true)(hx:z81 E x=true)(hy:subX E y=true)(h1:stepG E all x σ=some σ1)(h2:stepG E all y σ1=some σ2):
  ∃σ1',stepG E all y σ=some σ1'/\stepG E all x σ1'=some σ2:=by
 obtain⟨X,w,S,γ,a,hrel⟩:=hg;obtain⟨a1,a2,a3⟩:=Oper.apart_spec ha;obtain⟨args,ts,d,hox,hdx,stepX⟩:=zwt (all:=all) hx;simp only[subX,ab,aQ]at hy;obtain⟨oy,gy,dy,py⟩:=hy;obtain⟨d',hdy⟩:=bm.1 dy;have hne:d≠d':=fun e=>a2 d hdx (by rw[hdy,e]);have stepY:=zgg (all:=all) gy py;rw[stepX]at h1;split at h1
 ·rename_i a0 b0 t0 u0 hargs hts;obtain⟨q,hq,h1⟩:=aw.1 h1;cases h1;obtain⟨hsub,hq1⟩:=yfa hx hdx hq;rw[stepY]at h2;obtain⟨r,hr,h2⟩:=aw.1 h2;have hpl:∀z,z∈y.op.operands->z≠ .tmp d:=(zbn (a1 d hdx)).1;rw[z9f E y _ σ.ev _ (fun z hz=>zcy (hpl z hz))]at hr;have key:j9 E y σ.ev σ.m=some r/\r.2.length<=1:=by
   unfold j9 at hr|-;obtain⟨q0,h0,rfl⟩:=bS.1 hr;have hc:∀mm,z72 E y σ.ev mm=W2 E y.dst y.op σ.ev mm (fun v ob=>some (v,ob.toList)):=fun mm=>by
    unfold z72;split
    ·rename_i hop;rw[hop]at oy;cases oy
    ·rename_i hop;rw[hop]at oy;cases oy
    ·rfl
   rw[hc]at h0|-;obtain⟨k1,k2⟩:=yxh hsub oy hrel.ev h0;rw[k1];exact⟨rfl,Nat.le_trans (yv7 E y q0.2) k2⟩
  obtain⟨hr',hlen⟩:=key;obtain⟨v,obs⟩:=r;rw[hdy]at h2;have hxl:∀z,z∈x.op.operands->z≠ .tmp d':=(zbn (a3 d' hdy)).1;have e1:∀mm,(⟨upd σ.ρ d' v,mm⟩:St).ev a0=σ.ev a0:=fun mm=>zcy (hxl a0 (by rw[hox];have:a0∈args:=cz.2 (by rw[hargs];simp);simpa[Op.operands,Call.operands] using this));have e2:∀mm,(⟨upd σ.ρ d' v,mm⟩:St).ev b0=σ.ev b0:=fun mm=>zcy (hxl b0 (by rw[hox];have:b0∈args:=cz.2 (by rw[hargs];simp);simpa[Op.operands,Call.operands] using this))
  match obs,hlen with
  | [],_=>
   simp only[extA,few0,z6n,c9,gd,cond_true,z1l,aL.injEq]at h2;subst h2;refine⟨⟨upd σ.ρ d' v,σ.m⟩, ?_, ?_⟩
   ·rw[stepY,hr',hdy];simp only[ac,extA,few0,z6n,c9,gd,cond_true,z1l]
   ·rw[stepX];simp only[hargs,hts,e1,e2,hq,ac];rw[zo7 hne]
  | [ob],_=>
   simp only[extA,few1,z6n,aR,bv,z1l,zy2]at h2;obtain⟨hf,h2⟩:=X7 h2;cases h2;have hm2:q.2 d'=none:=by
    cases hc:q.2 d' with
    | none=>rfl
    | some _=>simp only[hc]at hf;cases hf
   have hm:σ.m d'=none:=by
    rcases hsub.2 d' (fun e=>hne e.symm)with h | ⟨_,t,xs,h⟩
    ·rw[<-h];exact hm2
    ·rw[h]at hm2;cases hm2
   refine⟨⟨upd σ.ρ d' v,mupd σ.m d' ob⟩, ?_, ?_⟩
   ·rw[stepY,hr',hdy];simp only[ac,extA,few1,z6n,aR,bv,z1l,zy2,hm,gd,cond_true]
   ·rw[stepX];simp only[hargs,hts,e1,e2];rw[ydz hx hdx hm hne (hrel.ev a0) (hrel.ev b0),hq];simp only[aK,ac];rw[zo7 hne]
 ·cases h1
theorem ypd{E:Env}{all:Array Oper}{x y:Oper}{σ σ1 σ2:St}(ha:x.apart all y=true)(ox:zpy x.op=true\/zn2 x.op=true)(gx:x.guard=none)(dx:x.dst.isSome=true)(px:z2k E x=true)(hy:z81 E y=true)
  (hsame:∀m2 d' v,Sub σ.m m2 d'->j9 E x σ.ev σ.m=some v->j9 E x σ.ev m2=some v) (h1:stepG E all x σ=some σ1) (h2:stepG E all y σ1=some σ2):
  ∃σ1',stepG E all y σ=some σ1'/\stepG E all x σ1'=some σ2:=by
 obtain⟨a1,a2,a3⟩:=Oper.apart_spec ha;obtain⟨d,hdx⟩:=bm.1 dx;obtain⟨v,hv,rfl⟩:=zqx ox gx px hdx h1;obtain⟨args,ts,d',hoy,hdy,stepY⟩:=zwt (all:=all) hy;have hne:d≠d':=fun e=>a2 d hdx (by rw[hdy,e]);rw[stepY]at h2;split at h2
 ·rename_i a0 b0 t0 u0 hargs hts;have hyl:∀z,z∈y.op.operands->z≠ .tmp d:=(zbn (a1 d hdx)).1;have e1:(⟨upd σ.ρ d v,σ.m⟩:St).ev a0=σ.ev a0:=zcy (hyl a0 (by rw[hoy];have:a0∈args:=cz.2 (by rw[hargs];simp);simpa[Op.operands,Call.operands] using this));have e2:(⟨upd σ.ρ d v,σ.m⟩:St).ev b0=σ.ev b0:=zcy (hyl b0 (by rw[hoy];have:b0∈args:=cz.2 (by rw[hargs];simp);simpa[Op.operands,Call.operands] using this));rw[e1,e2]at h2;obtain⟨q,hq,h2⟩:=aw.1 h2;cases h2;refine⟨⟨upd σ.ρ d' q.1,q.2⟩, ?_, ?_⟩
  ·rw[stepY];simp only[hargs,hts,hq,ac]
  ·have hxl:∀z,z∈x.op.operands->z≠ .tmp d':=(zbn (a3 d' hdy)).1;have:=y52 (all:=all) (σ:=⟨upd σ.ρ d' q.1,q.2⟩) gx px hdx (v:=v) (by
    rw[z9f E x _ σ.ev _ (fun z hz=>zcy (hxl z hz))];exact hsame q.2 d' _ (yfa hy hdy hq).1 hv)
   rw[this,zo7 hne]
 ·cases h2
theorem yle{E:Env}{all:Array Oper}{x y:Oper}{σ σ1 σ2:St}(hg:Good σ)(ha:x.apart all y=true)(hx:yzo E x=true)(hy:z81 E y=true)(h1:stepG E all x σ=some σ1)(h2:stepG E all y σ1=some σ2):
  ∃σ1',stepG E all y σ=some σ1'/\stepG E all x σ1'=some σ2:=by
 obtain⟨X,w,S,γ,a,hrel⟩:=hg;obtain⟨a1,a2,a3⟩:=Oper.apart_spec ha;obtain⟨args,ts,d',hoy,hdy,stepY⟩:=zwt (all:=all) hy;have hx':(∃t n c,x.op= .makeSlice t n c)/\x.guard=none/\x.dst.isSome=true/\z2k E x=true:=by
  unfold yzo at hx;split at hx
  ·rename_i t n c hop;simp only[ab,aQ]at hx;exact⟨⟨t,n,c,hop⟩,hx⟩
  ·cases hx
 obtain⟨⟨T,n,c,hop⟩,gx,dx,px⟩:=hx';obtain⟨d,hdx⟩:=bm.1 dx;have hne:d≠d':=fun e=>a2 d hdx (by rw[hdy,e]);have stepX:=zgg (all:=all) gx px;have any:∀mm,j9 E x σ.ev mm=j9 E x σ.ev σ.m:=fun mm=>by unfold j9 z72;rw[hop];rfl
 rw[stepX]at h1;obtain⟨r,hr,h1⟩:=aw.1 h1;have hlen:∃ob,r.2=[ob]:=by
  unfold j9 at hr;obtain⟨q0,h0,rfl⟩:=bS.1 hr;unfold z72 at h0;rw[hop]at h0;simp only[W2]at h0;split at h0
  ·obtain⟨_,h0⟩:=X7 h0;cases h0;unfold y0z;split
   ·exact⟨_,rfl⟩
   ·exact⟨_,rfl⟩
  ·cases h0
 obtain⟨v,obs⟩:=r;obtain⟨ob,rfl⟩:=hlen;rw[hdx]at h1;simp only[extA,few1,z6n,aR,bv,z1l,zy2]at h1;obtain⟨hf,h1⟩:=X7 h1;cases h1;have hm:σ.m d=none:=by
  cases hc:σ.m d with
  | none=>rfl
  | some _=>simp only[hc]at hf;cases hf
 rw[stepY]at h2;split at h2
 ·rename_i a0 b0 t0 u0 hargs hts;have hyl:∀z,z∈y.op.operands->z≠ .tmp d:=(zbn (a1 d hdx)).1;have e1:∀mm,(⟨upd σ.ρ d v,mm⟩:St).ev a0=σ.ev a0:=fun mm=>zcy (hyl a0 (by rw[hoy];have:a0∈args:=cz.2 (by rw[hargs];simp);simpa[Op.operands,Call.operands] using this));have e2:∀mm,(⟨upd σ.ρ d v,mm⟩:St).ev b0=σ.ev b0:=fun mm=>zcy (hyl b0 (by rw[hoy];have:b0∈args:=cz.2 (by rw[hargs];simp);simpa[Op.operands,Call.operands] using this));simp only[e1,e2]at h2;rw[ydz hy hdy hm (fun e=>hne e.symm) (hrel.ev a0) (hrel.ev b0)]at h2;cases hq:appX E y σ.m d' t0 u0 (σ.ev a0) (σ.ev b0)with
  | none=>rw[hq]at h2;cases h2
  | some q=>
   rw[hq]at h2;simp only[aK,ac,aL.injEq]at h2;subst h2;have hq2:q.2 d=none:=by
    rcases(yfa hy hdy hq).1.2 d hne with h | ⟨⟨t,xs,h⟩,_⟩
    ·rw[h];exact hm
    ·rw[hm]at h;cases h
   refine⟨⟨upd σ.ρ d' q.1,q.2⟩, ?_, ?_⟩
   ·rw[stepY];simp only[hargs,hts,hq,ac]
   ·have hxl:∀z,z∈x.op.operands->z≠ .tmp d':=(zbn (a3 d' hdy)).1;rw[stepX,z9f E x _ σ.ev _ (fun z hz=>zcy (hxl z hz)),any,hr,hdx];simp only[ac,extA,few1,z6n,aR,bv,z1l,zy2,hq2,gd,cond_true];rw[zo7 hne]
 ·cases h2
theorem yhf{E:Env}{all:Array Oper}{x y:Oper}{σ σ1 σ2:St}(ha:x.apart all y=true)(ho:zpy x.op=true\/zn2 x.op=true)(gx:x.guard=none)(dx:x.dst.isSome=true)(px:z2k E x=true)(hy:zns y=true)(h1:stepG E all x σ=some σ1)(h2:stepG E all y σ1=some σ2)
  (hsame:∀m2 v,(∀t p u,y.op= .store t p u->ztw E t σ.m (σ.ev p) (σ.ev u) some=some m2)->j9 E x σ.ev σ.m=some v->j9 E x σ.ev m2=some v):
  ∃σ1',stepG E all y σ=some σ1'/\stepG E all x σ1'=some σ2:=by
 obtain⟨a1,a2,a3⟩:=Oper.apart_spec ha;obtain⟨d,hdx⟩:=bm.1 dx;obtain⟨v,hv,rfl⟩:=zqx ho gx px hdx h1;obtain⟨t,p,u,hoy,hdy,stepY⟩:=ylg (E:=E) (all:=all) hy;have hyl:∀z,z∈y.op.operands->z≠ .tmp d:=(zbn (a1 d hdx)).1;have e1:(⟨upd σ.ρ d v,σ.m⟩:St).ev p=σ.ev p:=zcy (hyl p (by rw[hoy];simp[Op.operands]));have e2:(⟨upd σ.ρ d v,σ.m⟩:St).ev u=σ.ev u:=zcy (hyl u (by rw[hoy];simp[Op.operands]));rw[stepY,e1,e2,zna]at h2;obtain⟨m2,hm2,h2⟩:=aw.1 h2;cases h2;refine⟨⟨σ.ρ,m2⟩, ?_, ?_⟩
 ·rw[stepY,zna,hm2];rfl
 ·exact y52 (σ:=⟨σ.ρ,m2⟩) gx px hdx (v:=v) (hsame m2 _ (fun t' p' u' h=>by rw[hoy]at h;cases h;exact hm2) hv)
theorem yiq{rl:List (Nat×Option Nat)}{σ σ':St}{dst:Option Nat}{d:Nat}{τ:St}{ns:List Nat}(h:zfi rl σ dst d τ ns some=some σ'):∃v,σ'.ρ=putO σ.ρ dst v:=by
 unfold zfi at h;split at h
 ·obtain⟨_,h⟩:=X7 h;split at h
  ·split at h
   ·cases h;exact⟨_,rfl⟩
   ·cases h
  ·cases h
 ·cases h
theorem zrc{σ σ':St}{dst:Option Nat}{d:Nat}{as:List AV}:∀{l:List CtrM},zi6 l σ dst d as some=some σ'->∃v,σ'.ρ=putO σ.ρ dst v
 | [],h=>by cases h
 | c::r,h=>by
  simp only[zi6]at h;split at h
  ·obtain⟨_,h⟩:=X7 h;split at h
   ·rename_i t _;rw[c.nat]at h;obtain⟨p,_,h2⟩:=aw.1 h;exact yiq h2
   ·cases h
  ·exact zrc h
theorem y7r{E:Env}{all:Array Oper}{x:Oper}(hx:memX E x=true):∃(g:FuncId) (args:Array Operand) (ts:Array TypeId) (d:Nat),x.op= .call ⟨.value (.func g),args,ts⟩/\x.dst=some d/\∀σ:St,stepG E all x σ=zi6 (E.callM g) σ (some d) d (args.toList.map σ.ev++[]) some:=by
 unfold memX at hx;split at hx
 ·rename_i g args ts hop;simp only[ab,aQ,bZ]at hx;obtain⟨px,gx,dx,sx,bx⟩:=hx;obtain⟨d,hd⟩:=bm.1 dx;refine⟨g,args,ts,d,hop,hd,fun σ=> ?_⟩;unfold stepG;rw[gx];simp only;unfold opA;rw[sx,bx];simp only[stillL];unfold opB;rw[px,cond_true];unfold preS;rw[hop,hd];simp only
  show(match(AV.clo g []:AV)with
   | .clo f caps=>match cloArgs caps (args.toList.map σ.ev)with | some l=>zi6 (E.callM f) σ (some d) d l some | none=>none
   | .yld n=>yldA E σ d n (args.toList.map σ.ev) some
   | _=>none)=_
  rfl
 ·cases hx
theorem ym1{rl:List (Nat×Option Nat)}{ρ ρ':Nat->AV}{m:Nat->Option MO}{d:Nat}{τ:St}{ns:List Nat}:zfi rl ⟨ρ',m⟩ (some d) d τ ns some=(zfi rl ⟨ρ,m⟩ (some d) d τ ns some).map fun σ'=>⟨upd ρ' d (σ'.ρ d),σ'.m⟩:=by
 unfold zfi;cases lents rl with
 | none=>rfl
 | some le=>
  simp only;cases ((cj ns.length 200&&zx6 (rl.map (·.1)))&&zx6 (le.map (·.1)++(z3g le d 0 ns).map (·.1)))&&zx6 (le.map (·.2)++(z3g le d 0 ns).map (·.2))
  ·rfl
  ·simp only[gd,cond_true];cases apL τ.m (le++z3g le d 0 ns) le m with
   | none=>rfl
   | some m1=>
    simp only;cases apN τ.m (le++z3g le d 0 ns) (z3g le d 0 ns) m1 with
    | none=>rfl
    | some m2=>simp only[aK,putO];rw[zo6]
theorem zvi{ρ ρ':Nat->AV}{m:Nat->Option MO}{d:Nat}{as:List AV}:∀(l:List CtrM),zi6 l ⟨ρ',m⟩ (some d) d as some=(zi6 l ⟨ρ,m⟩ (some d) d as some).map fun σ'=>(⟨upd ρ' d (σ'.ρ d),σ'.m⟩:St)
 | []=>rfl
 | c::r=>by
  simp only[zi6];cases getW (renC (argsA 0 as) m c.cin.objs) c.cin (argsA 0 as) m with
  | none=>exact zvi r
  | some v=>
   simp only;cases rangeIs 0 c.cin.tms as
   ·rfl
   ·simp only[gd,cond_true];cases c.F v with
    | none=>rfl
    | some t=>simp only;rw[c.nat,c.nat (K:=fun τ ns=>zfi (renC (argsA 0 as) m c.cin.objs) ⟨ρ,m⟩ (some d) d τ ns some),Option.map_bind];congr 1;funext p;exact ym1
theorem yfb{τ:Nat->Option MO}{rn:List (Nat×Nat)}{n:Nat}:∀{l:List (Nat×Nat)} {m m':Nat->Option MO},apL τ rn l m=some m'->(∀k e,(k,e)∈l->e≠n)->m' n=m n
 | [],m,m',h,_=>by cases h;rfl
 | (k,e)::r,m,m',h,hn=>by
  have he:n≠e:=fun q=>hn k e (by simp) q.symm;simp only[apL]at h;split at h
  ·rw[yfb h fun k' e' hm=>hn k' e' (by simp[hm]),X4 _ _ he]
  ·split at h
   ·rw[yfb h fun k' e' hm=>hn k' e' (by simp[hm]),X4 _ _ he]
   ·cases h
theorem you{τ:Nat->Option MO}{rn:List (Nat×Nat)}{n:Nat}{o:MO}:∀{l:List (Nat×Nat)} {m m':Nat->Option MO},apN τ rn l m=some m'->m n=some o->m' n=m n
 | [],m,m',h,_=>by cases h;rfl
 | (k,e)::r,m,m',h,ho=>by
  simp only[apN]at h;split at h
  ·split at h
   ·rename_i hme;have he:n≠e:=fun q=>by rw[q,hme]at ho;cases ho
    rw[you h (by rw[X4 _ _ he];exact ho),X4 _ _ he]
   ·cases h
  ·cases h
theorem y7u:∀{rl:List (Nat×Option Nat)} {le:List (Nat×Nat)},lents rl=some le->∀{k e:Nat},(k,e)∈le->(k,some e)∈rl
 | [],le,h,k,e,hm=>by cases h;cases hm
 | (n,some d)::r,le,h,k,e,hm=>by
  simp only[lents]at h;split at h
  ·rename_i l hl;cases h;rcases ar.1 hm with q | hm
   ·cases q;simp
   ·exact ay _ (y7u hl hm)
  ·cases h
 | (n,none)::r,le,h,k,e,hm=>by simp only[lents]at h;exact ay _ (y7u h hm)
theorem argsA_flat{as:List AV}(hf:as.all y4p=true):∀(k t:Nat),argsA k as t= .undef\/argsA k as t∈as/\y4p (argsA k as t)=true:=by
 induction as with
 | nil=>intro k t;exact .inl rfl
 | cons v vs ih=>
  intro k t;simp only[bc,ab]at hf;simp only[argsA];cases ax t k
  ·simp only[cond_false];rcases ih hf.2 (k+1) t with h | h
   ·exact .inl h
   ·exact .inr ⟨ay _ h.1,h.2⟩
  ·simp only[cond_true];exact .inr ⟨by simp,hf.1⟩
theorem ywg{as:List AV}(hf:as.all y4p=true){m:Nat->Option MO}{src:List Nat}(hs:yr5 src=true){e:Nat}(h:zse (argsA 0 as) m src=some e): .own e∈as:=by
 cases src with
 | nil=>cases h
 | cons t r=>
  have ht:bG 5000000 t=false:=by
   have:t<5000000:=by simpa[yr5] using hs
   cases hb:bG 5000000 t
   ·rfl
   ·have:=Nat.le_of_ble_eq_true hb;omega
  simp only[zse,ht,cond_false]at h;rcases argsA_flat hf 0 t with hv | ⟨hv,hv2⟩
  ·rw[hv]at h;cases r<;>cases h
  ·generalize argsA 0 as t=v at*;cases r with
   | nil=>
    cases v<;>first | (cases h;done) | (cases hv2;done) | skip
    cases h;exact hv
   | cons i r=>cases v<;>first | (cases hv2;done) | (cases h;done)
theorem ymv{ρ:Nat->AV}{m:Nat->Option MO}{k e:Nat}:∀{l:List (Nat×List Nat×OK)},(k,some e)∈renC ρ m l->∃src q,(k,src,q)∈l/\zse ρ m src=some e
 | [],h=>by cases h
 | (n,src,q)::r,h=>by
  simp only[renC]at h;rcases ar.1 h with h | h
  ·obtain⟨h1,h2⟩:=Prod.mk.inj h;subst h1;have h:=h2;exact⟨src,q, .head _,h.symm⟩
  ·obtain⟨s,q',h1,h2⟩:=ymv h;exact⟨s,q',ay _ h1,h2⟩
theorem yd6{σ σ':St}{d:Nat}{as:List AV}(hf:as.all y4p=true){n:Nat}{o:MO}(ho:σ.m n=some o)(hn:∀e, .own e∈as->e≠n):∀{l:List CtrM},l.all yeg=true->zi6 l σ (some d) d as some=some σ'->σ'.m n=σ.m n
 | [],_,h=>by cases h
 | c::r,hl,h=>by
  simp only[bc,ab]at hl;simp only[zi6]at h;split at h
  ·obtain⟨_,h⟩:=X7 h;split at h
   ·rw[c.nat]at h;obtain⟨p,_,h⟩:=aw.1 h;unfold zfi at h;split at h
    ·rename_i le hle;obtain⟨_,h⟩:=X7 h;split at h
     ·rename_i m1 hm1;split at h
      ·rename_i m2 hm2;cases h;have k1:m1 n=σ.m n:=yfb hm1 fun k e hm=>by
        obtain⟨src,q,h1,h2⟩:=ymv (y7u hle hm);exact hn e (ywg hf (by simpa using aE.1 hl.1 _ h1) h2)
       show m2 n=_;rw[you hm2 (by rw[k1];exact ho),k1]
      ·cases h
     ·cases h
    ·cases h
   ·cases h
  ·exact yd6 hf ho hn hl.2 h
theorem yme{E:Env}{all:Array Oper}{x y:Oper}{σ σ1 σ2:St}(ha:x.apart all y=true)(hx:memX E x=true)(oy:zpy y.op=true\/zn2 y.op=true)(gy:y.guard=none)(dy:y.dst.isSome=true)(py:z2k E y=true)
  (hsame:∀σ',stepG E all x σ=some σ'->j9 E y σ.ev σ'.m=j9 E y σ.ev σ.m) (h1:stepG E all x σ=some σ1) (h2:stepG E all y σ1=some σ2):
  ∃σ1',stepG E all y σ=some σ1'/\stepG E all x σ1'=some σ2:=by
 obtain⟨a1,a2,a3⟩:=Oper.apart_spec ha;obtain⟨g,args,ts,d,hox,hdx,stepX⟩:=y7r (all:=all) hx;obtain⟨d',hdy⟩:=bm.1 dy;have hne:d≠d':=fun e=>a2 d hdx (by rw[hdy,e]);have hs:=hsame σ1 h1;obtain⟨v,hv,rfl⟩:=zqx oy gy py hdy h2;rw[stepX]at h1;obtain⟨u,hu⟩:=zrc h1;have hyl:∀z,z∈y.op.operands->z≠ .tmp d:=(zbn (a1 d hdx)).1;have hev:∀z,z∈y.op.operands->σ1.ev z=σ.ev z:=fun z hz=>by
  cases z with
  | tmp t=>show σ1.ρ t=σ.ρ t;rw[hu];exact zgf _ _ fun e=>hyl _ hz (by rw[e])
  | _=>rfl
 rw[z9f E y _ σ.ev _ hev,hs]at hv;refine⟨⟨upd σ.ρ d' v,σ.m⟩,y52 gy py hdy hv, ?_⟩;have hxl:∀z,z∈x.op.operands->z≠ .tmp d':=(zbn (a3 d' hdy)).1;have hargs:args.toList.map (⟨upd σ.ρ d' v,σ.m⟩:St).ev=args.toList.map σ.ev:=zii fun z hz=>zcy (hxl z (by rw[hox];simp[Op.operands,Call.operands];exact .inr (by simpa using hz)));rw[stepX,hargs,zvi (ρ:=σ.ρ)];rw[show(⟨σ.ρ,σ.m⟩:St)=σ from rfl,h1];simp only[aK,hu,putO,zo6];rw[zo7 hne]
theorem ymd{E:Env}{all:Array Oper}{x y:Oper}{σ σ1 σ2:St}(ha:x.apart all y=true)(hy:memX E y=true)(ox:zpy x.op=true\/zn2 x.op=true)(gx:x.guard=none)(dx:x.dst.isSome=true)(px:z2k E x=true)
  (hsame:∀σ',stepG E all y σ=some σ'->j9 E x σ.ev σ'.m=j9 E x σ.ev σ.m) (h1:stepG E all x σ=some σ1) (h2:stepG E all y σ1=some σ2):
  ∃σ1',stepG E all y σ=some σ1'/\stepG E all x σ1'=some σ2:=by
 obtain⟨a1,a2,a3⟩:=Oper.apart_spec ha;obtain⟨g,args,ts,d',hoy,hdy,stepY⟩:=y7r (all:=all) hy;obtain⟨d,hdx⟩:=bm.1 dx;have hne:d≠d':=fun e=>a2 d hdx (by rw[hdy,e]);obtain⟨v,hv,rfl⟩:=zqx ox gx px hdx h1;have hyl:∀z,z∈y.op.operands->z≠ .tmp d:=(zbn (a1 d hdx)).1;have hargs:args.toList.map (⟨upd σ.ρ d v,σ.m⟩:St).ev=args.toList.map σ.ev:=zii fun z hz=>zcy (hyl z (by rw[hoy];simp[Op.operands,Call.operands];exact .inr (by simpa using hz)));rw[stepY,hargs,zvi (ρ:=σ.ρ)]at h2;rw[show(⟨σ.ρ,σ.m⟩:St)=σ from rfl]at h2;cases hq:zi6 (E.callM g) σ (some d') d' (args.toList.map σ.ev++[]) some with
 | none=>rw[hq]at h2;cases h2
 | some σ3=>
  rw[hq]at h2;simp only[aK,aL.injEq]at h2;subst h2;obtain⟨u,hu⟩:=zrc hq;have hstep:stepG E all y σ=some σ3:=by rw[stepY];exact hq
  refine⟨σ3,hstep, ?_⟩;have hxl:∀z,z∈x.op.operands->z≠ .tmp d':=(zbn (a3 d' hdy)).1;have hev:∀z,z∈x.op.operands->σ3.ev z=σ.ev z:=fun z hz=>by
   cases z with
   | tmp t=>show σ3.ρ t=σ.ρ t;rw[hu];exact zgf _ _ fun e=>hxl _ hz (by rw[e])
   | _=>rfl
  have:=y52 (all:=all) (σ:=σ3) gx px hdx (v:=v) (by rw[z9f E x _ σ.ev _ hev,hsame σ3 hstep];exact hv);rw[this,hu];simp only[putO,zo6];rw[zo7 (fun e=>hne e.symm)]
theorem swap{E:Env}{all:Array Oper}{x y:Oper}{σ σ1 σ2:St}(hg:Good σ)(ha:zoe E all x y=true)(sx:zke x=true)(sy:zke y=true)(h1:stepG E all x σ=some σ1)(h2:stepG E all y σ1=some σ2):
  ∃σ1',stepG E all y σ=some σ1'/\stepG E all x σ1'=some σ2:=by
 simp only[zoe,ab,aA]at ha;obtain⟨ha,hpl⟩:=ha;rcases hpl with⟨px,py⟩ | ⟨px,py⟩ | ⟨px,py | py⟩ | ⟨px,py⟩ | ⟨px,py⟩ | ⟨px,py⟩;rotate_left
 ·exact x0j hg ha px py h1 h2
 ·exact ylc ha px py h1 h2
 rotate_left
 ·exact yle hg ha px py h1 h2
 ·have hy:=py;simp only[ycu,ab,aQ]at hy;exact yme ha px (.inl hy.1) hy.2.1 hy.2.2.1 hy.2.2.2 (fun σ' _=>y4h hy.1 σ.ev σ.m σ'.m) h1 h2
 ·have hx:=px;simp only[ycu,ab,aQ]at hx;exact ymd ha py (.inl hx.1) hx.2.1 hx.2.2.1 hx.2.2.2 (fun σ' _=>y4h hx.1 σ.ev σ.m σ'.m) h1 h2
 rotate_right
 ·have hx:=px;simp only[ycu,ab,aQ]at hx;exact yhf ha (.inl hx.1) hx.2.1 hx.2.2.1 hx.2.2.2 py h1 h2 fun m2 v _ h=>by rw[y4h hx.1 σ.ev σ.m m2];exact h
 obtain⟨a1,a2,a3⟩:=Oper.apart_spec ha;rw[z90 E all x σ px]at h1;rw[z90 E all y σ1 py]at h2;cases hx:resG E all x σ with
 | none=>rw[hx]at h1;cases h1
 | some p=>
  rw[hx]at h1;simp only[ac]at h1;rw[y7j hg a1 h1]at h2;cases hy:resG E all y σ with
  | none=>rw[hy]at h2;cases h2
  | some q=>
   rw[hy]at h2;simp only[ac]at h2;cases hdx:x.dst with
   | none=>rw[hdx]at h1;obtain⟨hpe,h1⟩:=X7 h1;cases h1;refine⟨σ2,by rw[z90 E all y σ py,hy];exact h2, ?_⟩;rw[z90 E all x σ2 px,y7j hg a3 h2,hx,hdx];simp[extA,gd,hpe]
   | some d=>
    rw[hdx]at h1;obtain⟨hf1,h1⟩:=X7 h1;simp only[ab]at hf1;obtain⟨hl1,hf1⟩:=hf1;cases h1;cases hdy:y.dst with
    | none=>
     rw[hdy]at h2;obtain⟨hqe,h2⟩:=X7 h2;cases h2;have he:extA σ y.dst q=some σ:=by rw[hdy];simp[extA,gd,hqe]
     refine⟨σ,by rw[z90 E all y σ py,hy];exact he, ?_⟩;rw[z90 E all x σ px,hx,hdx];simp[extA,gd,hf1,hl1]
    | some d'=>
     rw[hdy]at h2;obtain⟨hf2,h2⟩:=X7 h2;simp only[ab]at hf2;obtain⟨hl2,hf2⟩:=hf2;cases h2;have hne:d≠d':=fun e=>a2 d hdx (by rw[hdy,e]);have hd:d<4096:=by rw[zke,hdx]at sx;simpa using sx
     have hd':d'<4096:=by rw[zke,hdy]at sy;simpa using sy
     have hf2':z6n σ.m d' 0 q.2=true:=Ext.trans_free (y85 hf1) hf2;have he:extA σ y.dst q=some ⟨upd σ.ρ d' q.1,z1l σ.m d' 0 q.2⟩:=by rw[hdy];simp[extA,gd,hf2',hl2]
     refine⟨_,by rw[z90 E all y σ py,hy];exact he, ?_⟩;rw[z90 E all x _ px,y7j hg a3 he,hx,hdx];simp only[ac,extA];rw[yq3 hd' hd (Ne.symm hne) hf1,hl1];simp only[c9,gd,cond_true,aL.injEq,St.mk.injEq];refine⟨?_,ypx hd' hd (Ne.symm hne)⟩;funext n;simp only[upd];cases h1:ax n d<;>cases h2:ax n d'<;>simp only[cond_true,cond_false];exact absurd ((af h1).symm.trans (af h2)) hne
section box
variable {R:Type} {m:Nat->Option MO} {n':Nat} {cs cs':List AV} {s s':Stat} (hm:m n'=some (.box cs s))
include hm
theorem yqj{t:Ty}{v:AV}:z4i (mupd m n' (.box cs' s')) t v=z4i m t v:=by
 cases v with
 | own n=>
  simp only[z4i];by_cases e:n=n'
  ·subst e;rw[V9,hm]
  ·rw[X4 _ _ e]
 | _=>rfl
theorem x1u{v:AV}:lenA (mupd m n' (.box cs' s')) v=lenA m v:=by
 cases v with
 | own n=>
  simp only[lenA];by_cases e:n=n'
  ·subst e;rw[V9,hm]
  ·rw[X4 _ _ e]
 | _=>rfl
theorem yxq{E:Env}{dst:Option Nat}{op:Op}(ho:zn2 op=true){ev:Operand->AV}(hl:∀t a off,op= .load t a->ev a≠ .ptr n' off)(K:AV->Option MO->Option R):W2 E dst op ev (mupd m n' (.box cs' s')) K=W2 E dst op ev m K:=by
 cases op<;>first | (cases ho;done) | rfl | skip
 case load t a=>
  simp only[W2];have h:=hl t a;cases hv:ev a<;>rw[hv]at h<;>simp only
  case ptr n off=>
   rw[X4];rintro rfl;exact h off rfl rfl
  case oel n i off=>
   by_cases e:n=n'
   ·subst e;rw[V9,hm]
   ·rw[X4 _ _ e]
 case slice t x lo hi mx=>
  simp only[W2];cases E.ty t with
  | none=>rfl
  | some ti=>simp only;cases ti.d<;>cases hv:ev x<;>first | rfl | (simp only[yqj hm])
 case indexAddr t x i=>
  simp only[W2];cases hv:ev x<;>simp only
  case own n=>
   by_cases e:n=n'
   ·subst e;rw[V9,hm]
   ·rw[X4 _ _ e]
 case call c=>
  obtain⟨callee,args,ts⟩:=c;cases callee with
  | value f=>cases ho
  | invoke x n=>cases ho
  | builtin b=>
   cases b<;>first | (cases ho;done) | skip
   simp only[W2];split
   ·rename_i x t _ _;cases E.ty t with
    | none=>rfl
    | some ti=>simp only;cases ti.d<;>cases hv:ev x<;>first | rfl | (simp only[x1u hm])
   ·rfl
theorem yv5{E:Env}{x:Oper}(ho:zn2 x.op=true){ev:Operand->AV}(hl:∀t a off,x.op= .load t a->ev a≠ .ptr n' off):j9 E x ev (mupd m n' (.box cs' s'))=j9 E x ev m:=by
 unfold j9;congr 1;unfold z72;split
 ·rename_i hop;rw[hop]at ho;cases ho
 ·rename_i hop;rw[hop]at ho;cases ho
 ·exact yxq hm ho hl _
end box
theorem zqs{ρ:Nat->AV}{dst:Option Nat}{v:AV}{t:Nat}(h:dst≠some t):putO ρ dst v t=ρ t:=by
 cases dst with
 | none=>rfl
 | some d=>exact zgf _ _ fun e=>h (by rw[e])
theorem x0t{E:Env}{o:Oper}{σ σ':St}(h:opB E o σ some=some σ'){t:Nat}(ht:o.dst≠some t):σ'.ρ t=σ.ρ t:=by
 unfold opB at h;rcases bif_some h with⟨_,h⟩ | ⟨_,h⟩
 ·unfold preS at h;split at h
  ·rename_i f args ts d _ hd;split at h
   ·split at h
    case h_2=>cases h
    obtain⟨v,e⟩:=zrc h;rw[e];exact zqs (by rw[<-hd];exact ht)
   ·unfold yldA at h;split at h
    ·split at h
     ·split at h
      ·obtain⟨_,h⟩:=X7 h;split at h
       ·rename_i c hc v hv g0 g1 g2 g3 t' ht';rw[c.nat]at h;obtain⟨p,_,h2⟩:=aw.1 h;rw[z8r]at h2;obtain⟨σ1,h3,h4⟩:=aw.1 h2;obtain⟨v,e⟩:=yiq h3;cases h4;show σ1.ρ t=_;rw[e];exact zqs (by rw[<-hd];exact ht)
       ·cases h
      ·cases h
     ·cases h
    ·cases h
   ·cases h
  ·rename_i x name args ts d _ hd;split at h
   ·split at h
    ·obtain⟨v,e⟩:=zrc h;rw[e];exact zqs (by rw[<-hd];exact ht)
    ·cases h
   ·cases h
  ·rename_i d _ hd;rw[yek]at h;obtain⟨p,_,h2⟩:=aw.1 h;cases h2;exact zgf _ _ fun e=>ht (by rw[hd,e])
  ·cases h
 ·split at h
  ·rw[zna]at h;obtain⟨p,_,h2⟩:=aw.1 h;cases h2;exact zqs ht
  ·split at h
   ·rename_i d _ _ _ _ hd _ _;rw[y4x]at h;obtain⟨p,_,h2⟩:=aw.1 h;cases h2;exact zgf _ _ fun e=>ht (by rw[hd,e])
   ·cases h
  ·split at h
   ·rw[y87]at h;obtain⟨p,_,h2⟩:=aw.1 h;cases h2;exact zqs ht
   ·cases h
  ·split at h
   ·split at h
    case h_2=>cases h
    rw[zeo]at h;obtain⟨p,_,h2⟩:=aw.1 h;unfold znw at h2;split at h2
    ·rename_i d hd;obtain⟨_,h2⟩:=X7 h2;cases h2;exact zgf _ _ fun e=>ht (by rw[hd,e])
    ·obtain⟨_,h2⟩:=X7 h2;cases h2;rfl
   ·cases h
  ·split at h
   ·split at h
    ·rw[zeo]at h;obtain⟨p,_,h2⟩:=aw.1 h;unfold znw at h2;split at h2
     ·rename_i d hd;obtain⟨_,h2⟩:=X7 h2;cases h2;exact zgf _ _ fun e=>ht (by rw[hd,e])
     ·obtain⟨_,h2⟩:=X7 h2;cases h2;rfl
    ·cases h
   ·cases h
  ·rw[zre]at h;obtain⟨p,_,h2⟩:=aw.1 h;split at h2
   ·cases h2;exact zqs ht
   ·split at h2
    ·rename_i d hd;split at h2
     ·cases h2;exact zgf _ _ fun e=>ht (by rw[hd,e])
     ·cases h2
    ·cases h2
theorem zig{E:Env}{all:Array Oper}{o:Oper}{σ σ':St}(h:stepG E all o σ=some σ'){t:Nat}(ht:o.dst≠some t):σ'.ρ t=σ.ρ t:=by
 have op:opA E o σ some=some σ'->σ'.ρ t=σ.ρ t:=fun h=>by obtain⟨σ1,h1,rfl⟩:=yn8 h;exact x0t h1 ht
 unfold stepG at h;split at h
 ·exact op h
 ·split at h
  ·cases h
  ·split at h
   ·split at h
    ·exact op h
    ·cases h;exact zqs ht
   ·cases h;exact zqs ht
   ·cases h
def runI(E:Env)(all:Array Oper):List Nat->St->Option St
 | [],σ=>some σ
 | i::l,σ=>match all[i]? with
  | none=>runI E all l σ
  | some o=>(stepG E all o σ).bind (runI E all l)
theorem zw8{E:Env}{all:Array Oper}{t:Nat}:∀{l:List Nat} {σ σ':St},runI E all l σ=some σ'->(∀k∈l,∀o,all[k]? =some o->o.dst≠some t)->σ'.ρ t=σ.ρ t
 | [],_,_,h,_=>by cases h;rfl
 | i::l,σ,σ',h,ht=>by
  simp only[runI]at h;split at h
  ·exact zw8 h fun k hk=>ht k (by simp[hk])
  ·rename_i o ho;obtain⟨σ1,h1,h2⟩:=aw.1 h;rw[zw8 h2 fun k hk=>ht k (by simp[hk]),zig h1 (ht i (by simp) o ho)]
theorem z3b{all:Array Oper}{b i j t:Nat}(h:zdu all b i j t=true){k:Nat}(hk:j<=k)(hb:k<i->b.testBit k=false){o:Oper}(ho:all[k]? =some o):o.dst≠some t:=by
 obtain⟨hlt,_⟩:=aS.1 ho;unfold zdu at h;simp only[aE,bJ,aA]at h;rcases h k hlt with(h | h) | h
 ·rw[cE]at h;omega
 ·rw[ab,cE]at h;rw[hb h.1]at h;cases h.2
 ·rw[ho]at h;simp only at h;intro e;rw[e]at h;simp at h
theorem x0i{E:Env}{all:Array Oper}{x y:Oper}{σ σ1 σ2 σf:St}{b i j:Nat}(hij:j<=i)(hxj:all[j]? =some x)(hyi:all[i]? =some y){l:List Nat}(hl:∀k∈l,j<=k/\(k<i->b.testBit k=false))(hxb:b.testBit j=false)(hd:yzt E all σf b i j x y=true)(h1:stepG E all x σ=some σ1)(h2:stepG E all y σ1=some σ2)(hf:runI E all l σ2=some σf):
  ∃σ1',stepG E all y σ=some σ1'/\stepG E all x σ1'=some σ2:=by
 have same:∀q,zdu all b i j q=true->σf.ρ q=σ.ρ q:=fun q hq=>by rw[zw8 hf fun k hk o ho=>z3b hq (hl k hk).1 (hl k hk).2 ho,zig h2 (z3b hq hij (fun h=>absurd h (d6 _)) hyi),zig h1 (z3b hq (ai _) (fun _=>hxb) hxj)]
 simp only[yzt,ab,aQ]at hd;obtain⟨ha,⟨ox,gx,dx,px⟩,py,hd⟩:=hd;refine yhf ha (.inr ox) gx dx px py h1 h2 fun m2 v hm2 hv=> ?_;split at hd
 ·rename_i t q u hop;simp only[ab]at hd;obtain⟨hq,hd⟩:=hd;split at hd
  ·rename_i n' off' hn';have hst:=hm2 t (.tmp q) u hop;have hev:σ.ev (.tmp q)= .ptr n' off':=by rw[<-hn'];exact(same q hq).symm
   rw[hev]at hst;unfold ztw at hst;split at hst
   ·cases hst
   ·obtain⟨_,hst⟩:=X7 hst;simp only at hst;split at hst
    ·rename_i cs hcs;obtain⟨_,hst⟩:=X7 hst;cases hst;rw[yv5 hcs ox fun t' a off hl'=> ?_]
     ·exact hv
     ·rw[hl']at hd;cases a with
      | tmp a=>
       simp only[ab]at hd;obtain⟨hna,hd⟩:=hd;have e:=same a hna;intro hc;have hc':σf.ρ a= .ptr n' off:=by rw[e];exact hc
       rw[hc']at hd;simp at hd
      | _=>simp at hd
    ·cases hst
  ·cases hd
 ·cases hd
theorem yi6{E:Env}{x:Oper}{σ σf:St}{m2:Nat->Option MO}{nl:Nat->Bool}(same:∀q,nl q=true->σf.ρ q=σ.ρ q)(h:zwf nl σf.ρ x.op=true)(hp:∀n off,(∃t a,x.op= .load t a/\σ.ev a= .ptr n off)->m2 n=σ.m n):z72 E x σ.ev m2=z72 E x σ.ev σ.m:=by
 unfold zwf at h;split at h
 ·rename_i t q hop;simp only[ab]at h;obtain⟨hq,hd⟩:=h;have hev:σ.ev (.tmp q)=σf.ρ q:=(same q hq).symm;unfold z72;rw[hop];simp only[W2];split
  ·rfl
  ·cases hc:σf.ρ q with
   | ptr n off=>have:=hp n off ⟨t, .tmp q,hop,by rw[hev,hc]⟩;rw[hev,hc];simp only[this]
   | bx _ _=>rw[hev,hc]
   | ro _ _ _=>rw[hev,hc]
   | _=>(rw[hc]at hd)<;>first | (cases hd;done) | (simp at hd;done)
 ·rename_i args ts hop;split at h
  ·rename_i q hargs;simp only[ab]at h;obtain⟨hq,hd⟩:=h;have hev:σ.ev (.tmp q)=σf.ρ q:=(same q hq).symm;unfold z72;rw[hop];simp only[W2,hargs];rcases ts.toList with _ | ⟨t,_ | ⟨u,l'⟩⟩<;>simp only;rw[hev];cases hc:σf.ρ q with
   | list _ _=>rfl
   | clip _ _=>rfl
   | str _=>rfl
   | nils=>rfl
   | _=>(rw[hc]at hd)<;>first | (cases hd;done) | (simp at hd;done)
  ·cases h
 ·rename_i T q lo hi mx hop;simp only[ab]at h;obtain⟨hq,hd⟩:=h;have hev:σ.ev (.tmp q)=σf.ρ q:=(same q hq).symm;unfold z72;rw[hop];simp only[W2];rw[hev];cases hc:σf.ρ q with
  | list _ _=>first | rfl | (simp only[z4i];done) | (cases E.ty T with | none=>rfl | some ti=>(cases ti with | mk a1 a2=>cases a1<;>first | rfl | (simp only[z4i];done)))
  | clip _ _=>first | rfl | (simp only[z4i];done) | (cases E.ty T with | none=>rfl | some ti=>(cases ti with | mk a1 a2=>cases a1<;>first | rfl | (simp only[z4i];done)))
  | str _=>first | rfl | (simp only[z4i];done) | (cases E.ty T with | none=>rfl | some ti=>(cases ti with | mk a1 a2=>cases a1<;>first | rfl | (simp only[z4i];done)))
  | nils=>first | rfl | (simp only[z4i];done) | (cases E.ty T with | none=>rfl | some ti=>(cases ti with | mk a1 a2=>cases a1<;>first | rfl | (simp only[z4i];done)))
  | _=>(rw[hc]at hd)<;>first | (cases hd;done) | (simp at hd;done)
 ·rename_i T q iop hop;simp only[ab]at h;obtain⟨hq,hd⟩:=h;have hev:σ.ev (.tmp q)=σf.ρ q:=(same q hq).symm;unfold z72;rw[hop];simp only[W2];rw[hev];cases hc:σf.ρ q with
  | list _ _=>rfl
  | clip _ _=>rfl
  | nils=>rfl
  | _=>(rw[hc]at hd)<;>first | (cases hd;done) | (simp at hd;done)
 ·rename_i T a iop hop;unfold z72;rw[hop];rfl
 ·cases h
theorem ypf{E:Env}{all:Array Oper}{x y:Oper}{σ σ1 σ2 σf:St}{b i j:Nat}(hg:Good σ)(hij:j<=i)(hxj:all[j]? =some x)(hyi:all[i]? =some y){l:List Nat}(hl:∀k∈l,j<=k/\(k<i->b.testBit k=false))(hxb:b.testBit j=false)(hd:yrb E all σf b i j x y=true)(h1:stepG E all x σ=some σ1)(h2:stepG E all y σ1=some σ2)(hf:runI E all l σ2=some σf):
  ∃σ1',stepG E all y σ=some σ1'/\stepG E all x σ1'=some σ2:=by
 have same:∀q,zdu all b i j q=true->σf.ρ q=σ.ρ q:=fun q hq=>by rw[zw8 hf fun k hk o ho=>z3b hq (hl k hk).1 (hl k hk).2 ho,zig h2 (z3b hq hij (fun h=>absurd h (d6 _)) hyi),zig h1 (z3b hq (ai _) (fun _=>hxb) hxj)]
 obtain⟨X,w,S,γ,a0,hrel⟩:=hg;simp only[yrb,ab,aQ]at hd;obtain⟨ha,⟨ox,gx,dx,px⟩,py,hd⟩:=hd;refine ypd ha (.inr ox) gx dx px py (fun m2 d' v hs hv=> ?_) h1 h2;have e:z72 E x σ.ev m2=z72 E x σ.ev σ.m:=yi6 same hd fun n off hq=>by
  obtain⟨t,a,_,hv'⟩:=hq;have hr:=hrel.ev a;rw[hv']at hr;obtain⟨cs,s,bb,k1,_⟩:=hr;have hn:n≠d':=fun e=>by rw[e,hs.1]at k1;cases k1
  rcases hs.2 n hn with h | ⟨⟨t,xs,h⟩,_⟩
  ·exact h
  ·rw[k1]at h;cases h
 unfold j9 at hv|-;rw[e];exact hv
theorem yno{E:Env}{all:Array Oper}{σ σf:St}{nl:Nat->Bool}(hg:Good σ)(same:∀q,nl q=true->σf.ρ q=σ.ρ q){c l:Oper}(hc:memX E c=true)(hlf:zwf nl σf.ρ l.op=true)
  (ha:(match c.op with
   | .call ⟨.value (.func g),args,_⟩=>((E.callM g).all yeg)&&args.toList.all fun a=>(match a with
    | .tmp q=>nl q&&y4p (σf.ρ q)
    | .const v=>y4p (ofV v)
    | _=>false)
   | _=>false)=true) {σ':St} (h:stepG E all c σ=some σ'):j9 E l σ.ev σ'.m=j9 E l σ.ev σ.m:=by
 obtain⟨X,w,S,γ,a0,hrel⟩:=hg;obtain⟨g,args,ts,d,hoc,hdc,stepC⟩:=y7r (all:=all) hc;rw[stepC]at h;rw[hoc]at ha;simp only[ab,aE]at ha;obtain⟨hs,hargs⟩:=ha;have hflat:(args.toList.map σ.ev++[]).all y4p=true:=by
  rw[aj,List.all_map,aE];intro a hm;have:=hargs a hm;cases a with
  | tmp q=>simp only[ab]at this;show y4p (σ.ρ q)=true;rw[<-same q this.1];exact this.2
  | const v=>exact this
  | _=>cases this
 unfold j9;congr 1;refine yi6 same hlf fun n off hq=> ?_;obtain⟨t,a,_,hv'⟩:=hq;have hr:=hrel.ev a;rw[hv']at hr;obtain⟨cs,s,bb,k1,_⟩:=hr;refine yd6 hflat k1 (fun e he hen=> ?_) (aE.2 hs) h;rw[aj]at he;obtain⟨z,_,hz⟩:=aH.1 he;have hr2:=hrel.ev z;rw[hz]at hr2;obtain⟨t0,xs0,s0,k2,_⟩:=hr2;rw[hen,k1]at k2;cases k2
theorem ype{E:Env}{all:Array Oper}{x y:Oper}{σ σ1 σ2 σf:St}{b i j:Nat}(hg:Good σ)(hij:j<=i)(hxj:all[j]? =some x)(hyi:all[i]? =some y){l:List Nat}(hl:∀k∈l,j<=k/\(k<i->b.testBit k=false))(hxb:b.testBit j=false)(hd:yb1 E all σf b i j x y x y=true\/yb1 E all σf b i j x y y x=true)(h1:stepG E all x σ=some σ1)(h2:stepG E all y σ1=some σ2)(hf:runI E all l σ2=some σf):
  ∃σ1',stepG E all y σ=some σ1'/\stepG E all x σ1'=some σ2:=by
 have same:∀q,zdu all b i j q=true->σf.ρ q=σ.ρ q:=fun q hq=>by rw[zw8 hf fun k hk o ho=>z3b hq (hl k hk).1 (hl k hk).2 ho,zig h2 (z3b hq hij (fun h=>absurd h (d6 _)) hyi),zig h1 (z3b hq (ai _) (fun _=>hxb) hxj)]
 rcases hd with hd | hd
 ·simp only[yb1,ab,aQ]at hd;obtain⟨ha,hc,⟨oy,gy,dy,py⟩,hlf,hm⟩:=hd;exact yme ha hc (.inr oy) gy dy py (fun σ' h=>yno hg same hc hlf hm h) h1 h2
 ·simp only[yb1,ab,aQ]at hd;obtain⟨ha,hc,⟨ox,gx,dx,px⟩,hlf,hm⟩:=hd;exact ymd ha hc (.inr ox) gx dx px (fun σ' h=>yno hg same hc hlf hm h) h1 h2
theorem x0k{E:Env}{all:Array Oper}{x y:Oper}{σ σ1 σ2 σf:St}{b i j:Nat}(hg:Good σ)(hij:j<=i)(hxj:all[j]? =some x)(hyi:all[i]? =some y){l:List Nat}(hl:∀k∈l,j<=k/\(k<i->b.testBit k=false))(hxb:b.testBit j=false)(hd:ygy E all σf b i j x y=true)(h1:stepG E all x σ=some σ1)(h2:stepG E all y σ1=some σ2)(hf:runI E all l σ2=some σf):
  ∃σ1',stepG E all y σ=some σ1'/\stepG E all x σ1'=some σ2:=by
 simp only[ygy,aA]at hd;rcases hd with hd | hd | hd
 ·exact x0i hij hxj hyi hl hxb hd h1 h2 hf
 ·exact ypf hg hij hxj hyi hl hxb hd h1 h2 hf
 ·exact ype hg hij hxj hyi hl hxb hd h1 h2 hf
theorem ytj{P:Program}{o:Oper}{a:Act}{w:World}{K:Act->World->Prop}(h:o.wpIn (RF none) 0 P a w K fun _ _ _=>False):∃a' w',K a' w':=by
 unfold Oper.wpIn at h;have h:=h.2;generalize(o.semAt (RF none).round a.eval).run P w=r at h;cases r with
 | ok n w'=>
  cases n<;>simp only[Oper.uponIn]at h
  case value v=>exact⟨_,_,h⟩
  case skip=>exact⟨_,_,h⟩
  case defer d=>exact⟨_,_,h⟩
  case enter f args=>
   obtain⟨e,w'',fr,hR,_⟩:=h.2.2 [] (fun _ h=>by cases h);cases e with
   | returned v=>exact⟨_,_,hR⟩
   | panicked c=>exact hR.elim
   | outgrown=>obtain⟨_,_,hf⟩:=hR;exact hf.elim
  case row row args=>
   obtain⟨v,w'',hR,_⟩:=h.2 default [] (fun _ h=>by cases h);exact⟨_,_,hR⟩
  case round l f tmps c1 c2=>
   obtain⟨e,w'',hR,_⟩:=h.2.2 default [] (fun _ h=>by cases h);cases e with
   | returned v=>exact⟨_,_,hR⟩
   | panicked c=>exact hR.elim
   | outgrown=>obtain⟨_,_,hf⟩:=hR;exact hf.elim
 | halt x w'=>cases x<;>simp only[Oper.uponIn]at h
section reg
variable {ro:Option Nat} {P:Program} {E:Env} (hE:EnvOk P E) {all:Array Oper} {Q:Exit->Act->World->Prop}
theorem ytk{X:Cx}{w:World}{S:Nat->Prop}{γ:Nat->Loc}{σ:St}{a:Act}(hrel:Rel X w S γ σ a){o:Oper}{j:Nat}{want:Bool}{t:Tmp}(hg:o.guard=some (j,want))(ht:(all[j]?).bind (·.dst)=some t){b:Bool}(hb:σ.ρ t= .bool b):
  Region.wanted o (yielded all a.tmps)=(b==want):=by
 have h:=hrel.tm t;rw[hb]at h;simp only[RepA]at h;have hq:a.tmps[t]? =some (.bool b):=by
  rw[bi]at h;cases hq:a.tmps[t]? with
  | none=>rw[hq]at h;simp[undef]at h
  | some v=>rw[hq]at h;simp at h;rw[h]
 simp only[Region.wanted,hg,yielded,ht,ac,hq];cases b<;>cases want<;>rfl
theorem yla{X:Cx}{w:World}{S:Nat->Prop}{γ:Nat->Loc}{σ:St}{a:Act}(hrel:Rel X w S γ σ a){o:Oper}{j:Nat}{want:Bool}{t:Tmp}(hg:o.guard=some (j,want))(ht:(all[j]?).bind (·.dst)=some t)(hb:σ.ρ t= .tup []):
  Region.wanted o (yielded all a.tmps)=false:=by
 have h:=hrel.tm t;rw[hb]at h;obtain⟨vs,h1,h2⟩:=h;rw[show vs=[]from h2]at h1;rw[bi]at h1;simp only[Region.wanted,hg,yielded,ht,ac];cases hq:a.tmps[t]? with
 | none=>rfl
 | some v=>rw[hq]at h1;simp at h1;rw[h1];rfl
include hE in
theorem y4e{X:Cx}{w:World}{S:Nat->Prop}{γ:Nat->Loc}{σ:St}{a:Act}(hrel:Rel X w S γ σ a){o:Oper}{σ':St}(h:stepG E all o σ=some σ')(hd:zi8 a.tmps.size o.dst){K:Act->World->Prop}
  (hK:∀a' w' S' γ',Rel X w' S' γ' σ' a'->a'.tmps.size=a.tmps.size->K a' w'):
  if Region.wanted o (yielded all a.tmps)then o.wpIn (RF ro) 0 P a w K Q else K (a.put o.dst undef) w:=by
 unfold stepG at h;split at h
 ·rename_i hg;rw[show Region.wanted o (yielded all a.tmps)=true by simp[Region.wanted,hg],if_pos rfl];exact yzl hE hrel h hd hK
 ·rename_i j want hg;split at h
  ·cases h
  ·rename_i t ht;split at h
   ·rename_i b hb;rw[ytk hrel hg ht hb];by_cases hbw:b=want
    ·rw[if_pos hbw]at h;subst hbw;rw[if_pos (by simp)];exact yzl hE hrel h hd hK
    ·rw[if_neg hbw]at h;rw[if_neg (by simpa using hbw)];cases h;exact hK _ _ S γ (hrel.val (v:= .tup []) (x:=undef) (Below.refl _ _) ⟨[],rfl,rfl⟩ hd) (z0k _ _ _)
   ·rename_i hb;rw[yla hrel hg ht hb,if_neg (by simp)];cases h;exact hK _ _ S γ (hrel.val (v:= .tup []) (x:=undef) (Below.refl _ _) ⟨[],rfl,rfl⟩ hd) (z0k _ _ _)
   ·cases h
include hE in
theorem yun{X:Cx}{w:World}{S:Nat->Prop}{γ:Nat->Loc}{σ:St}{a:Act}(hrel:Rel X w S γ σ a){o:Oper}{σ':St}(h:stepG E all o σ=some σ')(hd:zi8 a.tmps.size o.dst):
  ∃w' S' γ' a',Rel X w' S' γ' σ' a'/\a'.tmps.size=a.tmps.size:=by
 have hk:=y4e (ro:=none) hE (Q:=fun _ _ _=>False) hrel h hd (K:=fun a' w'=>∃S' γ',Rel X w' S' γ' σ' a'/\a'.tmps.size=a.tmps.size) fun a' w' S' γ' h1 h2=>⟨S',γ',h1,h2⟩;split at hk
 ·obtain⟨a',w',S',γ',h1,h2⟩:=ytj hk;exact⟨w',S',γ',a',h1,h2⟩
 ·obtain⟨S',γ',h1,h2⟩:=hk;exact⟨w,S',γ',_,h1,h2⟩
theorem yhj(E:Env)(all:Array Oper):∀(l:List Oper) (k:Nat) (σ:St),(∀j,l[j]? =all[k+j]?)->runG E all l σ=runI E all ((dc k l.length)) σ
 | [],_,_,_=>rfl
 | o::l,k,σ,h=>by have h0:all[k]? =some o:=(h 0).symm;simp only[runG,ag,cQ,runI,h0];congr 1;funext σ';exact yhj E all l (k+1) σ' fun j=>by have:=h (j+1);rw[ce]at this;rw[this];congr 1;omega
include hE in
theorem yjs:∀(l:List Nat) {X:Cx} {w:World} {S:Nat->Prop} {γ:Nat->Loc} {σ:St} {a:Act} (_:Rel X w S γ σ a) {σ':St} (_:runI E all l σ=some σ') (_:∀(i:Nat) (o:Oper),all[i]? =some o->zi8 a.tmps.size o.dst)
  (_:∀a' w' S' γ',Rel X w' S' γ' σ' a'->a'.tmps.size=a.tmps.size->Q .normal a' w'),wpOpsIn (RF ro) 0 P all Q l a w
 | [],_,_,S,γ,_,a,hrel,σ',h,_,hQ=>by simp only[runI,aL.injEq]at h;subst h;exact hQ _ _ S γ hrel rfl
 | i::l,_,_,_,_,σ,a,hrel,σ',h,hd,hQ=>by
  rw[wpOpsIn_cons];unfold wpOpIn;simp only[runI]at h;cases ho:all[i]? with
  | none=>rw[ho]at h;exact yjs l hrel h hd hQ
  | some o=>
   rw[ho]at h;simp only at h;simp only;cases hs:stepG E all o σ with
   | none=>rw[hs]at h;cases h
   | some σ1=>
    rw[hs]at h
    have hk:=y4e (ro:=ro) hE (Q:=Q) hrel hs (hd i o ho) (K:=wpOpsIn (RF ro) 0 P all Q l) fun a' w' S' γ' h1 h2=>
     yjs l h1 h (fun i o ho=>by rw[h2];exact hd i o ho) fun a'' w'' S'' γ'' k1 k2=>hQ a'' w'' S'' γ'' k1 (k2.trans h2)
    split
    ·rename_i hw;rw[if_pos hw]at hk;exact hk
    ·rename_i hw;rw[if_neg hw]at hk;exact⟨fun _ _=>trivial,hk⟩
theorem ypz{acc:List Nat}{o:Oper}{j:Nat}(h:(ygw acc o).testBit j=true):∃e,e∈o.after.toList/\Region.binds .any e=true/\(j=e.on\/(acc.getD e.on 0).testBit j=true):=by
 unfold ygw at h;have gen:∀(l:List Edge) (s:Nat),(l.foldl (fun s e=>bif Region.binds .any e then s ||| (2^e.on ||| acc.getD e.on 0)else s) s).testBit j=true->s.testBit j=true\/∃e,e∈l/\Region.binds .any e=true/\(j=e.on\/(acc.getD e.on 0).testBit j=true):=by
  intro l;induction l with
  | nil=>intro s h;exact .inl h
  | cons e l ih=>
   intro s h;simp only[bh]at h;rcases ih _ h with h | ⟨e',h1,h2⟩
   ·cases hb:Region.binds .any e with
    | false=>rw[hb]at h;exact .inl h
    | true=>
     rw[hb]at h;simp only[cond_true,Nat.testBit_or,aA]at h;rcases h with h | h | h
     ·exact .inl h
     ·rw[Nat.testBit_two_pow]at h;exact .inr ⟨e,by simp,hb, .inl (of_decide_eq_true h).symm⟩
     ·exact .inr ⟨e,by simp,hb, .inr h⟩
   ·exact .inr ⟨e',by simp[h1],h2⟩
 rcases gen _ 0 h with h | h
 ·simp at h
 ·exact h
theorem zrx:∀(os:List Oper) (acc:List Nat) (i:Nat),i<acc.length->(zl7 os acc).getD i 0=acc.getD i 0
 | [],_,_,_=>rfl
 | o::os,acc,i,h=>by simp only[zl7];rw[zrx os _ i (by simp;omega)];simp[bg,bN h]
theorem yi5:∀(os:List Oper) (acc:List Nat) (i j:Nat) (o:Oper),os[i]? =some o->((zl7 os acc).getD (acc.length+i) 0).testBit j=true->
  ∃e,e∈o.after.toList/\Region.binds .any e=true/\(j=e.on\/((zl7 os acc).getD e.on 0).testBit j=true)
 | [],_,_,_,_,h,_=>by simp at h
 | o'::os,acc,0,j,o,h,hb=>by
  simp only[cZ,aL.injEq]at h;subst h;simp only[zl7,bD]at hb|-;rw[zrx os _ _ (by simp)]at hb;simp only[bg,List.getElem?_concat_length,dJ]at hb;obtain⟨e,h1,h2,h3⟩:=ypz hb;refine⟨e,h1,h2,h3.imp id fun h=> ?_⟩;have hlt:e.on<acc.length:=by
   rcases Nat.lt_or_ge e.on acc.length with h' | h'
   ·exact h'
   ·simp[bg,List.getElem?_eq_none h']at h
  rw[zrx os _ _ (by simp;omega)];simpa[bg,bN hlt] using h
 | o'::os,acc,i+1,j,o,h,hb=>by
  simp only[ce]at h;simp only[zl7]at hb|-;refine yi5 os (acc++[ygw acc o']) i j o h ?_;have:(acc++[ygw acc o']).length+i=acc.length+(i+1):=by simp;omega
  rw[this];exact hb
include hE in
theorem y0n{b i:Nat}{o:Oper}(ho:all[i]? =some o)(hs:∀(k:Nat) (q:Oper),all[k]? =some q->zke q=true):∀(L1 L2:List Nat) {X:Cx} {w:World} {S:Nat->Prop} {γ:Nat->Loc} {σ:St} {a:Act} (_:Rel X w S γ σ a) (_:∀(i:Nat) (o:Oper),all[i]? =some o->zi8 a.tmps.size o.dst) {σ':St}
  (_:(L1++i::L2).Pairwise (·<·)) (_:runI E all (L1++i::L2) σ=some σ') (_:∀j,j∈L1->∀q,all[j]? =some q->zoe E all q o=true\/ygy E all σ' b i j q o=true) (_:∀j,j∈L1->b.testBit j=false),∃σ1,stepG E all o σ=some σ1/\runI E all (L1++L2) σ1=some σ'
 | [],L2,_,_,_,_,σ,a,_,_,σ',_,h,_,_=>by
  simp only[List.nil_append,runI,ho]at h|-;cases hst:stepG E all o σ with
  | none=>rw[hst]at h;cases h
  | some σ1=>rw[hst]at h;exact⟨σ1,rfl,h⟩
 | j::L1,L2,X,w,S,γ,σ,a,hrel,hd,σ',hsort,h,hap,hbits=>by
  simp only[List.cons_append,runI]at h|-;obtain⟨hj1,hj2⟩:=aD.1 hsort;cases hj:all[j]? with
  | none=>rw[hj]at h;simp only at h|-;exact y0n ho hs L1 L2 hrel hd hj2 h (fun k hk=>hap k (by simp[hk])) fun k hk=>hbits k (by simp[hk])
  | some q=>
   rw[hj]at h;simp only at h|-;cases hq:stepG E all q σ with
   | none=>rw[hq]at h;cases h
   | some σ1=>
    rw[hq]at h;obtain⟨w',S',γ',a',hrel',hsz⟩:=yun hE hrel hq (hd j q hj);obtain⟨σ2,k1,k2⟩:=y0n ho hs L1 L2 hrel' (fun i o ho=>by rw[hsz];exact hd i o ho) hj2 h (fun k hk=>hap k (by simp[hk])) fun k hk=>hbits k (by simp[hk]);have hji:j<=i:=dQ (hj1 i (by simp));have hrest:∀k∈L1++L2,j<=k/\(k<i->b.testBit k=false):=fun k hk=>⟨dQ (hj1 k (by
     rcases am.1 hk with hk | hk
     ·exact am.2 (.inl hk)
     ·exact am.2 (.inr (ay _ hk)))),fun hki=>by
     rcases am.1 hk with hk1 | hk1
     ·exact hbits k (by simp[hk1])
     ·have:=(aD.1 (bz.1 hj2).2.1).1 k hk1;omega⟩
    have hxb:=hbits j (by simp);rcases(hap j (by simp) q hj)with hh | hh
    ·obtain⟨σ1',z1,z2⟩:=swap ⟨X,w,S,γ,a,hrel⟩ hh (hs j q hj) (hs i o ho) hq k1;exact⟨σ1',z1,by rw[z2];exact k2⟩
    ·obtain⟨σ1',z1,z2⟩:=x0k ⟨X,w,S,γ,a,hrel⟩ hji hj ho hrest hxb hh hq k1 k2;exact⟨σ1',z1,by rw[z2];exact k2⟩
def remI(all:Array Oper)(listed:Array Bool):List Nat:=(bF all.size).filter fun i=> !listed.getD i true
structure OpenOk (E:Env) (all:Array Oper) (σf:St):Prop where
 small:∀(k:Nat) (q:Oper),all[k]? =some q->zke q=true
 edge:∀(i:Nat) (o:Oper),all[i]? =some o->∀e,e∈o.after.toList->Region.binds .any e=true->e.on<i
 pair:∀(i j:Nat) (x y:Oper),j<i->all[j]? =some x->all[i]? =some y->((zl7 all.toList []).getD i 0).testBit j=true\/(zoe E all x y=true\/ygy E all σf ((zl7 all.toList []).getD i 0) i j x y=true)
theorem ycz(h:yvl all=true):(∀(k:Nat) (q:Oper),all[k]? =some q->zke q=true)/\∀(i:Nat) (o:Oper),all[i]? =some o->∀e,e∈o.after.toList->Region.binds .any e=true->e.on<i:=by
 unfold yvl at h;simp only[ab,aE,bJ]at h;obtain⟨h1,h2⟩:=h;refine⟨fun k q hq=> ?_,fun i o ho e he hb=> ?_⟩
 ·rw[Array.all_eq_true]at h1;obtain⟨hk,e⟩:=aS.1 hq;rw[<-e];exact h1 k hk
 ·obtain⟨hi,_⟩:=aS.1 ho;have:=h2 i hi;rw[ho]at this;simp only[aE]at this;have:=this e he;rw[hb]at this;simpa using this
theorem openPairs_spec{i j:Nat}{x y:Oper}(hj:j<i)(hx:all[j]? =some x)(hy:all[i]? =some y):((zl7 all.toList []).getD i 0).testBit j=true\/(zoe E all x y=true\/(j,i)∈zx5 E all):=by
 obtain⟨hi,_⟩:=aS.1 hy;cases h1:((zl7 all.toList []).getD i 0).testBit j
 ·cases h2:zoe E all x y
  ·refine .inr (.inr ?_);unfold zx5;refine List.mem_flatMap.2 ⟨i,bJ.2 hi,aH.2 ⟨j,aV.2 ⟨bJ.2 hj, ?_⟩,rfl⟩⟩;rw[hx,hy];simp only[h1,h2,Bool.or_self,Bool.not_false]
  ·exact .inr (.inl rfl)
 ·exact .inl rfl
theorem yls(h:yr6 E all=true)(σf:St):OpenOk E all σf:=by
 unfold yr6 at h;simp only[ab,bZ]at h;obtain⟨h1,h2⟩:=h;obtain⟨a1,a2⟩:=ycz h1;refine⟨a1,a2,fun i j x y hj hx hy=> ?_⟩;rcases openPairs_spec (E:=E) hj hx hy with h | h | h
 ·exact .inl h
 ·exact .inr (.inl h)
 ·rw[h2]at h;cases h
theorem yjf{σf:St}(h:yjx E all σf=true):OpenOk E all σf:=by
 unfold yjx at h;simp only[ab,aE]at h;obtain⟨h1,h2⟩:=h;obtain⟨a1,a2⟩:=ycz h1;refine⟨a1,a2,fun i j x y hj hx hy=> ?_⟩;rcases openPairs_spec (E:=E) hj hx hy with h | h | h
 ·exact .inl h
 ·exact .inr (.inl h)
 ·have:=h2 _ h;simp only[hx,hy]at this;exact .inr (.inr this)
theorem y0d(listed:Array Bool):(remI all listed).Pairwise (·<·):=List.Pairwise.filter _ List.pairwise_lt_range
theorem zy4{listed:Array Bool}{i:Nat}:i∈remI all listed↔i<all.size/\listed.getD i true=false:=by simp[remI]
theorem yrz{listed:Array Bool}{i:Nat}{s t:List Nat}(hsz:listed.size=all.size)(h:remI all listed=s++i::t):remI all (listed.setIfInBounds i true)=s++t:=by
 have hsort:=y0d (all:=all) listed;rw[h]at hsort;obtain⟨p1,p2,p3⟩:=bz.1 hsort;have hi:i<all.size:=(zy4.1 (by rw[h];simp:i∈remI all listed)).1;have e:remI all (listed.setIfInBounds i true)=(remI all listed).filter fun k=>k !=i:=by
  unfold remI;rw[List.filter_filter];apply List.filter_congr;intro k hk;simp only[bJ]at hk;by_cases hki:k=i
  ·subst hki;simp[hsz,hk]
  ·have:(listed.setIfInBounds i true).getD k true=listed.getD k true:=by
    simp only[bi];rw[Array.getElem?_setIfInBounds_ne (Ne.symm hki)]
   rw[this];simp[hki]
 rw[e,h,List.filter_append,List.filter_cons];have h1:s.filter (fun k=>k !=i)=s:=cw.2 fun k hk=>by have:=p3 k hk i (by simp);simp;omega
 have h2:t.filter (fun k=>k !=i)=t:=cw.2 fun k hk=>by have:=(aD.1 p2).1 k hk;simp;omega
 rw[h1,h2];simp
include hE in
theorem y2s{σ':St}(hO:OpenOk E all σ'):∀(fuel:Nat) (listed:Array Bool) {X:Cx} {w:World} {S:Nat->Prop} {γ:Nat->Loc} {σ:St} {a:Act} (_:Rel X w S γ σ a) (_:listed.size=all.size) (_:(remI all listed).length<=fuel)
  (_:∀(k j:Nat),listed.getD k false=true->((zl7 all.toList []).getD k 0).testBit j=true->listed.getD j false=true) (_:runI E all (remI all listed) σ=some σ') (_:∀(i:Nat) (o:Oper),all[i]? =some o->zi8 a.tmps.size o.dst)
  (_:∀a' w' S' γ',Rel X w' S' γ' σ' a'->a'.tmps.size=a.tmps.size->Q .normal a' w'),wpAnyIn (RF ro) 0 P .any all Q fuel listed a w
 | fuel,listed,X,w,S,γ,σ,a,hrel,hsz,hlen,hdown,hrun,hd,hQ=>by
  have done:remI all listed=[]->Q .normal a w:=by intro h0;rw[h0]at hrun;simp only[runI,aL.injEq]at hrun;subst hrun;exact hQ a w S γ hrel rfl
  have toF:∀{i:Nat},i<all.size->listed.getD i true=false->listed.getD i false=false:=by
   intro i hi h;have hi':i<listed.size:=by omega
   simp[hi']at h|-;exact h
  have ofF:∀{i:Nat},i<all.size->listed.getD i false=false->listed.getD i true=false:=by
   intro i hi h;have hi':i<listed.size:=by omega
   simp[hi']at h|-;exact h
  have ready0:Region.ready .any all listed=[]->remI all listed=[]:=by
   intro hr;cases hrem:remI all listed with
   | nil=>rfl
   | cons i t=>
    exfalso;have hi:i∈remI all listed:=by rw[hrem];simp
    obtain⟨hi1,hi2⟩:=zy4.1 hi;have:i∈Region.ready .any all listed:=by
     unfold Region.ready;simp only[aV,bJ,ab,au];refine⟨hi1,hi2, ?_⟩;have ho:all[i]? =some all[i]:=dC hi1;rw[ho];simp only[aK,dJ];rw[<-eu];simp only[aE,aA,au];intro e he;cases hb:Region.binds .any e with
     | false=>exact .inl rfl
     | true=>
      right;have hlt:=hO.edge i _ ho e he hb;cases hq:listed.getD e.on false with
      | true=>rfl
      | false=>
       exfalso;have hm:e.on∈remI all listed:=zy4.2 ⟨by omega,ofF (by omega) hq⟩;have hsort:=y0d (all:=all) listed;rw[hrem]at hsort hm;rcases ar.1 hm with e1 | e1
       ·omega
       ·have:=(aD.1 hsort).1 _ e1;omega
    rw[hr]at this;cases this
  cases fuel with
  | zero=>
   have h0:remI all listed=[]:=List.eq_nil_of_length_eq_zero (by omega);refine⟨?_,done h0⟩;cases hr:Region.ready .any all listed with
   | nil=>rfl
   | cons i t=>
    exfalso;have hi:i∈Region.ready .any all listed:=by rw[hr];simp
    unfold Region.ready at hi;simp only[aV,bJ,ab,au]at hi;have:i∈remI all listed:=zy4.2 ⟨hi.1,hi.2.1⟩;rw[h0]at this;cases this
  | succ fuel=>
   refine⟨fun hr=>done (ready0 hr),fun i hi=> ?_⟩;have hi':=hi;unfold Region.ready at hi';simp only[aV,bJ,ab,au]at hi';obtain⟨hi1,hi2,hi3⟩:=hi';have ho:all[i]? =some all[i]:=dC hi1;rw[ho]at hi3;simp only[aK,dJ]at hi3;rw[<-eu]at hi3;simp only[aE,aA,au]at hi3;have hmem:i∈remI all listed:=zy4.2 ⟨hi1,hi2⟩;obtain⟨s,t,hst⟩:=List.append_of_mem hmem;have hsort:=y0d (all:=all) listed;rw[hst]at hsort;obtain⟨_,_,p3⟩:=bz.1 hsort;have hbit:∀j,((zl7 all.toList []).getD i 0).testBit j=true->listed.getD j false=true:=by
    intro j hj;obtain⟨e,e1,e2,e3⟩:=yi5 all.toList [] i j all[i] (by simp[hi1]) (by simpa using hj);have hon:listed.getD e.on false=true:=by
     rcases hi3 e e1 with h | h
     ·rw[e2]at h;cases h
     ·exact h
    rcases e3 with rfl | e3
    ·exact hon
    ·exact hdown e.on j hon e3
   rw[hst]at hrun;have hbits:∀j,j∈s->((zl7 all.toList []).getD i 0).testBit j=false:=fun j hj=>by
    cases h:((zl7 all.toList []).getD i 0).testBit j
    ·rfl
    ·exfalso;have h1:=hbit j h;have h2:j∈remI all listed:=by rw[hst];simp[hj]
     obtain⟨h3,h4⟩:=zy4.1 h2;rw[toF h3 h4]at h1;cases h1
   obtain⟨σ1,k1,k2⟩:=y0n hE ho hO.small s t hrel hd hsort hrun (fun j hj q hq=>by
    have hlt:j<i:=p3 j hj i (by simp);rcases hO.pair i j q all[i] hlt hq ho with h | h
    ·exfalso;rw[hbits j hj]at h;cases h
    ·exact h) hbits
   have hdown':∀(k j:Nat),(listed.setIfInBounds i true).getD k false=true->((zl7 all.toList []).getD k 0).testBit j=true->(listed.setIfInBounds i true).getD j false=true:=by
    intro k j hk hb;by_cases e:k=i
    ·subst e;exact getD_set_true (hbit j hb)
    ·rw[getD_set_ne false (Ne.symm e)]at hk;exact getD_set_true (hdown k j hk hb)
   have hlen':(remI all (listed.setIfInBounds i true)).length<=fuel:=by rw[yrz hsz hst];rw[hst]at hlen;simp at hlen|-;omega
   have hk:=y4e (ro:=ro) hE (Q:=Q) hrel k1 (hd i _ ho) (K:=wpAnyIn (RF ro) 0 P .any all Q fuel (listed.setIfInBounds i true)) fun a' w' S' γ' h1 h2=>
    y2s hO fuel (listed.setIfInBounds i true) h1 (by simpa using hsz) hlen' hdown' (by rw[yrz hsz hst];exact k2) (fun i o ho=>by rw[h2];exact hd i o ho) fun a'' w'' S'' γ'' z1 z2=>hQ a'' w'' S'' γ'' z1 (z2.trans h2)
   unfold wpOpIn;rw[ho];simp only;split
   ·rename_i hw;rw[if_pos hw]at hk;exact hk
   ·rename_i hw;rw[if_neg hw]at hk;exact⟨fun _ _=>trivial,hk⟩
include hE in
theorem ytx(hmix:P.follows .mixedOrders=true){id:Nat}{draw:Bool}{X:Cx}{w:World}{S:Nat->Prop}{γ:Nat->Loc}{σ:St}{a:Act}(hrel:Rel X w S γ σ a){σ':St}(hdr:draw=true->OpenOk E all σ')(hrun:runG E all all.toList σ=some σ')
  (hd:∀(i:Nat) (o:Oper),all[i]? =some o->zi8 a.tmps.size o.dst) (hQ:∀a' w' S' γ',Rel X w' S' γ' σ' a'->a'.tmps.size=a.tmps.size->Q .normal a' w'):(Code.region id all draw).wpIn (RF ro) 0 P Q a w:=by
 have hr:runI E all (bF all.size) σ=some σ':=by rw[yhj E all all.toList 0 σ (fun j=>by simp)]at hrun;rw[dj];simpa using hrun
 cases draw with
 | false=>exact wpIn_region (yjs hE _ hrel hr hd hQ)
 | true=>
  have hO:=hdr rfl;have hrel':Rel X {w with drawn:=w.drawn+1} S γ σ a:=by have hb:Below w.heap.size w {w with drawn:=w.drawn+1}:=⟨rfl,rfl,rfl,ai _,fun _ _=>rfl⟩;refine⟨hrel.mem.grow hb,fun t=>RepA.mono (w:=w) (w':={w with drawn:=w.drawn+1}) (fun _ _=>rfl) (fun _ h=>h) (Keeps.refl _ _) _ _ (hrel.tm t),hrel.below.trans (Below.bel hb hrel.size_le),hrel.base_le,hrel.s0,hrel.snew,MarksOk.mono (w:=w) (w':={w with drawn:=w.drawn+1}) (S:=S) (fun _ _ h=>h) (fun _ _ h=>h) hrel.defers,hrel.pin,hrel.pnhi,hrel.small⟩
  have hrem:remI all (br all.size false)=bF all.size:=by unfold remI;rw[cw];intro i hi;simp only[bJ]at hi;simp[hi]
  refine wpIn_region_any hmix (y2s hE hO all.size (br all.size false) hrel' (by simp) (by rw[hrem];simp) (fun k j hk _=> ?_) (by rw[hrem];exact hr) hd hQ);exfalso;simp only[bi]at hk;by_cases hk':k<all.size
  ·simp[hk']at hk
  ·simp[hk']at hk
end reg
variable {R:Type}
def yh7:List CtrM->St->Option Nat->Nat->List AV->(Ex->St->Option R)->Option R
 | [],_,_,_,_,_=>none
 | c::r,σ,dst,d,as,K=>
  match getW (renC (argsA 0 as) σ.m c.cin.objs) c.cin (argsA 0 as) σ.m with
  | some v=>gd (rangeIs 0 c.cin.tms as) (match c.F v with
   | some t=>c.out t fun τ ns=>bif isFlt (τ.ρ 0)then zfi (renC (argsA 0 as) σ.m c.cin.objs) σ none d ⟨fun _=> .undef,τ.m⟩ ns (K .flt)else zfi (renC (argsA 0 as) σ.m c.cin.objs) σ dst d τ ns (K .normal)
   | none=>none)
  | none=>yh7 r σ dst d as K
def fltE:PanicEntry:={v:= .iface LTab.flt (.agg #[]),recovered:=false}
theorem ynn{P:Program}{f:FuncId}{X:Cx}{w:World}{S:Nat->Prop}{γ:Nat->Loc}{σ:St}{a:Act}(hrel:Rel X w S γ σ a){as:List AV}{vals:List Value}(hr:RepAs w S γ σ.m as vals){dst:Option Nat}{d:Nat}(hdst:zi8 a.tmps.size dst)(hd:d<4096){K:Ex->St->Option R}{r:R}:∀{l:List CtrM},(∀c,c∈l->ztv P f c)->yh7 l σ dst d as K=some r->
  (∀w' (args:Array Value),(callFunc f args).run P w'= .ok (.enter f args) w')/\
  Calls P f vals.toArray w fun e w'=>∃S' γ' σ',(e= .panicked [fltE]/\Rel X w' S' γ' σ' a/\K .flt σ'=some r)\/∃v,e= .returned v/\Rel X w' S' γ' σ' (a.put dst v)/\K .normal σ'=some r
 | [],_,h=>by cases h
 | c::l,hl,h=>by
  simp only[yh7]at h;split at h
  ·rename_i v hv;obtain⟨hra,h⟩:=X7 h;split at h
   ·rename_i t ht;have htm:∀t,RepA w S γ σ.m (argsA 0 as t) (vals.getD t undef):=fun t=>by
     have:=zn6 (rest:=[]) 0 t hr
     grind
    obtain⟨γi,g1,g2,hmi,hrep,hq,hdist⟩:=ydg (g:=fun src _=>zse (argsA 0 as) σ.m src) hrel.mem htm (zoa c.cin.objs) hv;have hvals:c.cin.tms.map (fun t=>vals.getD t undef)=vals:=zrt hra hr.length (fun i=>by simp);rw[hvals]at hrep
    have hmi':MemRel w S γi (mofO c.cin.objs v.2) (fun k=>k<w.heap.size/\∀n q,mofO c.cin.objs v.2 n=some q->q.live=true->(γi n).blk≠some k):=
     ⟨hmi.obj,hmi.low,hmi.apart,fun n q b hn hlq hbk h=>h.2 n q hn hlq hbk⟩
    obtain⟨k1,k2⟩:=hl c (by simp) w S γi _ v vals t _ r hmi' (fun k h=>h.1) hrep ht h;refine⟨k1,k2.mono ?_⟩;rintro e w' ⟨x,S',γ',τ,ns,hends,hback,hok⟩;have hnames:∀n d',z16 n (renC (argsA 0 as) σ.m c.cin.objs)=some (some d')->∃q,mofO c.cin.objs v.2 n=some q:=fun n d' hlk=>by rw[zoa]at hlk;exact zr1 (g:=fun src _=>zse (argsA 0 as) σ.m src) hlk
    unfold Ends at hends;rcases bif_some hback with⟨hb,hback⟩ | ⟨hb,hback⟩
    ·rw[if_pos hb]at hends;rw[z8r]at hback;obtain⟨σ',hb1,hb2⟩:=aw.1 hback
     have hok':BackOk (fun _=>False) (fun k=>k<w.heap.size/\∀n q,mofO c.cin.objs v.2 n=some q->q.live=true->(γi n).blk≠some k) w S γi (mofO c.cin.objs v.2) w' S' γ' ⟨fun _=> .undef,τ.m⟩ ns x:=
      ⟨hok.bel,hok.s0,hok.snew,hok.mem,trivial,hok.pin,hok.dom⟩
     obtain⟨S'',γ'',h1,h2,_⟩:=y4k hrel hnames g1 g2 hmi hq (ex:=fun _=>False) (fun _ _ h=>h) (fun _ _ h=>h) (fun _ _ _ _ _ _ h=>h) rfl hok' (dst:=none) trivial hd hb1;exact⟨S'',γ'',σ', .inl ⟨hends,h1,hb2⟩⟩
    ·rw[if_neg (by grind)]at hends;rw[z8r]at hback;obtain⟨σ',hb1,hb2⟩:=aw.1 hback;obtain⟨S'',γ'',h1,h2,_⟩:=y4k hrel hnames g1 g2 hmi hq (ex:=fun _=>False) (fun _ _ h=>h) (fun _ _ h=>h) (fun _ _ _ _ _ _ h=>h) rfl hok hdst hd hb1
     grind
   grind
  ·exact ynn hrel hr hdst hd (fun c' hc'=>hl c' (ay _ hc')) h
variable (E:Env)
def fopA(o:Oper)(σ:St)(K:Ex->St->Option R):Option R:=
 match o.op with
 | .panic x=>match σ.ev x with
  | .iface t (.agg [])=>gd (ax t LTab.flt) (K .flt σ)
  | _=>none
 | .call ⟨.value f,args,_⟩=>match σ.ev f with
  | .clo g caps=>match E.callF g with
   | []=>opA E o σ (K .normal)
   | c::l=>match cloArgs caps (args.toList.map σ.ev),o.dst with
    | some as,some d=>yh7 (c::l) ⟨σ.ρ,stillL σ.m (za6 E o)⟩ (some d) d as K
    | _,_=>none
  | _=>opA E o σ (K .normal)
 | _=>opA E o σ (K .normal)
def zu8(all:Array Oper):List Oper->St->(Ex->St->Option R)->Option R
 | [],σ,K=>K .normal σ
 | o::rest,σ,K=>
  match o.guard with
  | none=>fopA E o σ (fun e σ'=>match e with
   | .normal=>zu8 all rest σ' K
   | .flt=>K .flt σ'
   | _=>none)
  | some (j,want)=>
   match(all[j]?).bind (·.dst)with
   | none=>none
   | some t=>
    match σ.ρ t with
    | .bool b=>
     bif b then
      (bif want then opA E o (σ.set t (.bool true)) (fun σ'=>zu8 all rest σ' K)else zu8 all rest ((σ.set t (.bool true)).put o.dst (.tup [])) K)
     else
      (bif want then zu8 all rest ((σ.set t (.bool false)).put o.dst (.tup [])) K else opA E o (σ.set t (.bool false)) (fun σ'=>zu8 all rest σ' K))
    | .tup []=>zu8 all rest (σ.put o.dst (.tup [])) K
    | _=>none
def x5s(o:Oper):Bool:=match o.op with
 | .panic _=>true
 | .call ⟨.value (.func g),_,_⟩=> !(E.callF g).isEmpty
 | _=>false
def x59(all:Array Oper):Bool:=all.any fun o=>x5s E o
variable {E}
section
variable {ro:Option Nat} {P:Program} (hE:EnvOk P E) {all:Array Oper} {Q:Exit->Act->World->Prop}
include hE in
theorem yz1{X:Cx}{w:World}{S:Nat->Prop}{γ:Nat->Loc}{σ:St}{a:Act}(hrel:Rel X w S γ σ a){o:Oper}(hd:zi8 a.tmps.size o.dst){K:Ex->St->Option R}{r:R}(h:fopA E o σ K=some r){N:Act->World->Prop}
  (hN:∀a' w' S' γ' σ',Rel X w' S' γ' σ' a'->a'.tmps.size=a.tmps.size->K .normal σ'=some r->N a' w')
  (hQ:∀a' w' S' γ' σ',Rel X w' S' γ' σ' a'->a'.tmps.size=a.tmps.size->K .flt σ'=some r->Q (.panic [fltE]) a' w'):o.wpIn (RF ro) 0 P a w N Q:=by
 have plain:opA E o σ (K .normal)=some r->o.wpIn (RF ro) 0 P a w N Q:=fun h=>by rw[zy0]at h;obtain⟨σ',h1,h2⟩:=aw.1 h;exact yzl hE hrel h1 hd fun a' w' S' γ' g1 g2=>hN a' w' S' γ' σ' g1 g2 h2
 unfold fopA at h;split at h
 ·rename_i x ho;split at h
  ·rename_i t hx;obtain⟨ht,h⟩:=X7 h;have ht:=af ht;have hev:=hrel.ev x;rw[hx]at hev;obtain⟨u,hu,hv⟩:=hev;obtain⟨vs,hu2,hv2,_⟩:=hv;have hvs:vs=[]:=hv2;subst hvs;have hnd:∀c,o.op≠ .defer c:=fun c e=>by rw[ho]at e;cases e
   unfold Oper.wpIn;refine⟨fun _ _=>trivial, ?_⟩;rw[Oper.semAt_eq _ _ _ hnd];have hrun:(execOp a.eval o).run P w= .halt (.panic (.iface LTab.flt (.agg #[]))) w:=by simp only[execOp,ho];rw[hu,hu2,ht];rfl
   rw[hrun,Oper.uponIn_panic];exact hQ a w S γ σ hrel rfl h
  ·cases h
 ·rename_i f args ts ho;split at h
  ·rename_i g caps hf;split at h
   ·exact plain h
   ·rename_i c l hcl;split at h
    ·rename_i as d hargs hdst;obtain⟨S1,hrel1⟩:=Rel.stillL (za6 E o) (ρ:=σ.ρ) (m:=σ.m) hrel;have hfv:=hrel1.ev f;rw[show(⟨σ.ρ,stillL σ.m (za6 E o)⟩:St).ev f=σ.ev f by cases f<;>rfl,hf]at hfv;have hmap:args.toList.map (⟨σ.ρ,stillL σ.m (za6 E o)⟩:St).ev=args.toList.map σ.ev:=cg fun x _=>by cases x<;>rfl
     have hrs:RepAs w S1 γ (stillL σ.m (za6 E o)) (args.toList.map (⟨σ.ρ,stillL σ.m (za6 E o)⟩:St).ev) (args.toList.map a.eval):=RepAs.map hrel1.ev args.toList;rw[hmap]at hrs;obtain⟨us,vs,hxv,hargs'⟩:=zrl hfv hargs hrs;rw[hdst]at hd;obtain⟨c1,c2⟩:=ynn hrel1 hargs' (dst:=some d) (d:=d) hd (aT hd hrel.small) (fun c' hc'=>hE.callF g c' (by rw[hcl];exact hc')) h;have hrun:(execOp a.eval o).run P w= .ok (.enter g (us++(args.toList.map a.eval++vs)).toArray) w:=by
      simp only[execOp,ho,resolve,hxv,Deferred.ofValue,Sem.run_bind,Sem.run_pure,Result.andThen_ok,invoke];have:(us.toArray++cv a.eval args++vs.toArray)=(us++(args.toList.map a.eval++vs)).toArray:=by apply bC;simp
      rw[this];exact c1 w _
     have hnd:∀c,o.op≠ .defer c:=fun c e=>by rw[ho]at e;cases e
     unfold Oper.wpIn;refine⟨fun _ _=>trivial, ?_⟩;rw[Oper.semAt_eq _ _ _ hnd,hrun,Oper.uponIn_enter];refine⟨fun _=>by contradiction,(zi9 ro c2).mono fun e w'=> ?_⟩;rintro⟨S',γ',σ',⟨rfl,g1,g2⟩ | ⟨v,rfl,g1,g2⟩⟩
     ·exact hQ a w' S' γ' σ' g1 rfl g2
     ·rw[hdst];exact hN _ w' S' γ' σ' g1 (z0k _ _ _) g2
    ·cases h
  ·exact plain h
 ·exact plain h
include hE in
theorem yk7:∀(l:List Oper) (k:Nat) (_:∀j,l[j]? =all[k+j]?) {X:Cx} {w:World} {S:Nat->Prop} {γ:Nat->Loc} {σ:St} {a:Act} (_:Rel X w S γ σ a) {K:Ex->St->Option R} {r:R} (_:zu8 E all l σ K=some r) (_:∀(i:Nat) (o:Oper),all[i]? =some o->zi8 a.tmps.size o.dst)
  (_:∀a' w' S' γ' σ',Rel X w' S' γ' σ' a'->a'.tmps.size=a.tmps.size->K .normal σ'=some r->Q .normal a' w')
  (_:∀a' w' S' γ' σ',Rel X w' S' γ' σ' a'->a'.tmps.size=a.tmps.size->K .flt σ'=some r->Q (.panic [fltE]) a' w'),wpOpsIn (RF ro) 0 P all Q (dc k l.length) a w
 | [],k,_,X,w,S,γ,σ,a,hrel,K,r,h,_,hN,_=>hN a w S γ σ hrel rfl h
 | o::rest,k,hl,X,w,S,γ,σ,a,hrel,K,r,h,hd,hN,hQ=>by
  have h0:all[k]? =some o:=(hl 0).symm;have hl':∀j,rest[j]? =all[k+1+j]? :=fun j=>by have:=hl (j+1);rw[ce]at this;rw[this];congr 1;omega
  have next:∀{σ1:St},stepG E all o σ=some σ1->zu8 E all rest σ1 K=some r->wpOpsIn (RF ro) 0 P all Q (dc k (o::rest).length) a w:=by
   intro σ1 h1 h2;rw[ag,cQ,wpOpsIn_cons];unfold wpOpIn;rw[h0];simp only
   have hk:=y4e (ro:=ro) hE (Q:=Q) hrel h1 (hd k o h0) (K:=wpOpsIn (RF ro) 0 P all Q (dc (k+1) rest.length)) fun a' w' S' γ' g1 g2=>
    yk7 rest (k+1) hl' g1 h2 (fun i o ho=>by rw[g2];exact hd i o ho) (fun a'' w'' S'' γ'' σ'' z1 z2 z3=>hN a'' w'' S'' γ'' σ'' z1 (z2.trans g2) z3) fun a'' w'' S'' γ'' σ'' z1 z2 z3=>hQ a'' w'' S'' γ'' σ'' z1 (z2.trans g2) z3
   split
   ·rename_i hw;rw[if_pos hw]at hk;exact hk
   ·rename_i hw;rw[if_neg hw]at hk;exact⟨fun _ _=>trivial,hk⟩
  unfold zu8 at h;split at h
  ·rename_i hg;rw[ag,cQ,wpOpsIn_cons];unfold wpOpIn;rw[h0];simp only;rw[if_pos (by simp[Region.wanted,hg])];exact yz1 hE hrel (hd k o h0) h (fun a' w' S' γ' σ' g1 g2 g3=>yk7 rest (k+1) hl' g1 g3 (fun i o ho=>by rw[g2];exact hd i o ho) (fun a'' w'' S'' γ'' σ'' z1 z2 z3=>hN a'' w'' S'' γ'' σ'' z1 (z2.trans g2) z3) fun a'' w'' S'' γ'' σ'' z1 z2 z3=>hQ a'' w'' S'' γ'' σ'' z1 (z2.trans g2) z3) hQ
  ·rename_i j want hg;split at h
   ·cases h
   ·rename_i t ht;split at h
    ·rename_i b hb;have fin:∀{b:Bool},σ.ρ t= .bool b->b=want->(opA E o (σ.set t (.bool b)) fun σ'=>zu8 E all rest σ' K)=some r->wpOpsIn (RF ro) 0 P all Q (dc k (o::rest).length) a w:=by
      intro b hb hw h;rw[zw4 hb,zy0]at h;cases ho:opA E o σ some with
      | none=>rw[ho]at h;cases h
      | some σ1=>rw[ho]at h;exact next (by simp only[stepG,hg,ht,hb,if_pos hw,ho]) h
     have skip:∀{b:Bool},σ.ρ t= .bool b->b≠want->zu8 E all rest ((σ.set t (.bool b)).put o.dst (.tup [])) K=some r->wpOpsIn (RF ro) 0 P all Q (dc k (o::rest).length) a w:=by intro b hb hw h;rw[zw4 hb]at h;exact next (by simp only[stepG,hg,ht,hb,if_neg hw]) h
     cases b<;>cases want
     ·exact fin hb rfl h
     ·exact skip hb (by simp) h
     ·exact skip hb (by simp) h
     ·exact fin hb rfl h
    ·rename_i hb;exact next (by simp only[stepG,hg,ht,hb]) h
    ·cases h
include hE in
theorem yq2{id:Nat}{X:Cx}{w:World}{S:Nat->Prop}{γ:Nat->Loc}{σ:St}{a:Act}(hrel:Rel X w S γ σ a){K:Ex->St->Option R}{r:R}(h:zu8 E all all.toList σ K=some r)
  (hd:∀(i:Nat) (o:Oper),all[i]? =some o->zi8 a.tmps.size o.dst)
  (hN:∀a' w' S' γ' σ',Rel X w' S' γ' σ' a'->a'.tmps.size=a.tmps.size->K .normal σ'=some r->Q .normal a' w')
  (hQ:∀a' w' S' γ' σ',Rel X w' S' γ' σ' a'->a'.tmps.size=a.tmps.size->K .flt σ'=some r->Q (.panic [fltE]) a' w'):(Code.region id all false).wpIn (RF ro) 0 P Q a w:=by
 refine wpIn_region ?_;have:=yk7 (ro:=ro) (Q:=Q) hE all.toList 0 (fun j=>by simp) hrel h hd hN hQ;rw[dj];simpa using this
end
variable {R:Type}
structure Lp where
 T:Type
 dom:St->Option (Option T)
 out:{R:Type}->T->(Ex->St->Option R)->Option R
def Lp.run(l:Lp)(σ:St)(K:Ex->St->Option R):Option R:=
 match l.dom σ with
 | some o=>match o with
  | some t=>l.out t K
  | none=>none
 | none=>none
abbrev Lps:=Nat->Option Lp
def viaA(l:Option Lp)(σ:St)(K:Ex->St->Option R)(d:Option R):Option R:=
 match l with
 | some l=>l.run σ K
 | none=>d
def zjk(E:Env)(Λ:Lps):Code->Nat->St->(Ex->St->Option R)->Option R
 | .skip,p,σ,K=>viaA (Λ p) σ K (K .normal σ)
 | .label _,p,σ,K=>viaA (Λ p) σ K (K .normal σ)
 | .region id ops draw,p,σ,K=>viaA (Λ p) σ K (bif x59 E ops then gd (!draw) (zu8 E ops ops.toList ⟨σ.ρ,stillR σ.m (E.still id)⟩ K)else bif !draw || yr6 E ops then opsA E ops ops.toList ⟨σ.ρ,stillR σ.m (E.still id)⟩ (K .normal)else opsA E ops ops.toList ⟨σ.ρ,stillR σ.m (E.still id)⟩ fun σ'=>gd (yjx E ops σ') (K .normal σ'))
 | .seq a b,p,σ,K=>viaA (Λ p) σ K (zjk E Λ a (2*p) σ fun e σ'=>match e with
  | .normal=>zjk E Λ b (2*p+1) σ' K
  | .exit i=>K (.exit i) σ'
  | .ret=>K .ret σ'
  | .flt=>K .flt σ')
 | .cond c x y,p,σ,K=>viaA (Λ p) σ K (match c with
  | .tmp t=>match σ.ρ t with
   | .bool b=>bif b then zjk E Λ x (2*p) (σ.set t (.bool true)) K else zjk E Λ y (2*p+1) (σ.set t (.bool false)) K
   | _=>none
  | _=>none)
 | .block id c,p,σ,K=>viaA (Λ p) σ K (zjk E Λ c (2*p) σ fun e σ'=>match e with
  | .exit i=>bif ax i id then K .normal σ' else K (.exit i) σ'
  | .normal=>K .normal σ'
  | .ret=>K .ret σ'
  | .flt=>K .flt σ')
 | .scope c,p,σ,K=>viaA (Λ p) σ K (zjk E Λ c (2*p) σ K)
 | .exit id,p,σ,K=>viaA (Λ p) σ K (K (.exit id) σ)
 | .ret,p,σ,K=>viaA (Λ p) σ K (K .ret σ)
 | .loop _,p,σ,K=>viaA (Λ p) σ K none
 | .rangeFunc ..,p,σ,K=>viaA (Λ p) σ K none
 | .goto _,p,σ,K=>viaA (Λ p) σ K none
 | .refuse _,p,σ,K=>viaA (Λ p) σ K none
def Ex.mod:Ex->Exit
 | .normal=> .normal
 | .exit id=> .exit id
 | .ret=> .ret
 | .flt=> .panic [{v:= .iface LTab.flt (.agg #[]),recovered:=false}]
def Post(X:Cx)(n:Nat)(K:Ex->St->Option R)(r:R):Exit->Act->World->Prop:=
 fun e a w=>∃e' σ' S' γ',e=e'.mod/\Rel X w S' γ' σ' a/\a.tmps.size=n/\K e' σ'=some r
def LpOk(P:Program)(n:Nat)(ro:Option Nat)(l:Lp)(c:Code):Prop:=
 ∀{R:Type} {X:Cx} {w:World} {S:Nat->Prop} {γ:Nat->Loc} {σ:St} {a:Act} {K:Ex->St->Option R} {r:R},
  Rel X w S γ σ a->a.tmps.size=n->l.run σ K=some r->c.wpIn (RF ro) 0 P (Post X n K r) a w
def obs1(Λ:Lps)(c:Code)(p:Nat):List (Lp×Code):=match Λ p with | some l=>[(l,c)] | none=>[]
def obs(Λ:Lps):Code->Nat->List (Lp×Code)
 | .seq a b,p=>obs1 Λ (.seq a b) p++(obs Λ a (2*p)++obs Λ b (2*p+1))
 | .cond c a b,p=>obs1 Λ (.cond c a b) p++(obs Λ a (2*p)++obs Λ b (2*p+1))
 | .block id c,p=>obs1 Λ (.block id c) p++obs Λ c (2*p)
 | .scope c,p=>obs1 Λ (.scope c) p++obs Λ c (2*p)
 | c,p=>obs1 Λ c p
def z4h(n:Nat):Code->Bool
 | .seq a b=>z4h n a&&z4h n b
 | .cond _ a b=>z4h n a&&z4h n b
 | .block _ c=>z4h n c
 | .scope c=>z4h n c
 | .region _ ops _=>ops.toList.all fun o=>match o.dst with | some d=>cj d n | none=>true
 | _=>true
section scope
variable {F:Fence} {n:Nat} {P:Program} {b:Frame} {a:Act} {k:List Item} {cs:List Frame} {w:World} {Q:Exit->Act->World->Prop}
theorem ze4{c:Code}:step P (lone (b.atR a (.code (.scope c)::k)) cs w)= .next (lone (b.atR a (.code c:: .inScope c::k)) cs w):=
 step_lone_go (by simp[_root_.Go.stepG,_root_.Go.stepG.exec,Frame.atR])
theorem yff{c:Code}:step P (lone (b.atR a (.inScope c::k)) cs w)= .next (lone (b.atR a k) cs w):=
 step_lone_go (by simp[_root_.Go.stepG,_root_.Go.stepG.exec,Frame.atR])
theorem zvr{c:Code}(h:c.wpIn F n P (Exit.noGoto Q) a w):(Code.scope c).wpIn F n P Q a w:=by
 intro b k cs hro hb hr;have h0:(lone (b.atR a (.code (.scope c)::k)) cs w).fenced P F:=fenced_calm hb hr rfl;obtain⟨e,a₁,w₁,hq,harr⟩:=h b (.inScope c::k) cs hro hb hr;cases e with
 | normal=>exact⟨.normal,a₁,w₁,hq, .head h0 ze4 (StepsIn.trans harr (.one (fenced_calm hb hr rfl) yff))⟩
 | exit id=>
  have hx:exitTo id (.inScope c::k)=exitTo id k:=by simp[exitTo]
  exact⟨_,a₁,w₁,hq,fun k' hk=> .head h0 ze4 (harr.1 k' (by grind)),
   fun hr' hk=>let⟨k₁,h1,h2⟩:=harr.2 hr' (by grind);⟨k₁,h1, .head h0 ze4 h2⟩⟩
 | goto l=>exact hq.elim
 | ret=>exact⟨_,a₁,w₁,hq, .of_steps (.one h0 ze4) harr⟩
 | panic ch=>exact⟨_,a₁,w₁,hq, .of_steps (.one h0 ze4) harr⟩
 | outgrown=>exact⟨_,a₁,w₁,hq, .of_steps (.one h0 ze4) harr⟩
end scope
section code
variable {ro:Option Nat} {P:Program} {E:Env} (hE:EnvOk P E) (hmix:P.follows .mixedOrders=true) {Λ:Lps} {n:Nat}
theorem z6k{c:Code}{p:Nat}(ho:∀x,x∈obs1 Λ c p->LpOk P n ro x.1 x.2){X:Cx}{w:World}{S:Nat->Prop}{γ:Nat->Loc}{σ:St}{a:Act}{K:Ex->St->Option R}{r:R}{d:Option R}
  (hrel:Rel X w S γ σ a) (hn:a.tmps.size=n) (h:viaA (Λ p) σ K d=some r) (hd:d=some r->c.wpIn (RF ro) 0 P (Post X n K r) a w):c.wpIn (RF ro) 0 P (Post X n K r) a w:=by
 unfold viaA at h;unfold obs1 at ho;cases hp:Λ p with
 | none=>grind
 | some l=>rw[hp]at h ho;exact ho (l,c) (by simp) hrel hn h
include hE hmix in
theorem z3d:∀(c:Code) (p:Nat) (_:∀x,x∈obs Λ c p->LpOk P n ro x.1 x.2) (_:z4h n c=true) {R:Type} {X:Cx} {w:World} {S:Nat->Prop} {γ:Nat->Loc} {σ:St} {a:Act} {K:Ex->St->Option R} {r:R}
  (_:Rel X w S γ σ a) (_:a.tmps.size=n) (_:zjk E Λ c p σ K=some r),c.wpIn (RF ro) 0 P (Post X n K r) a w
 | .skip,p,ho,hd,_,X,w,S,γ,σ,a,K,r,hrel,hn,h=>z6k ho hrel hn h fun h=>wpIn_skip ⟨.normal,σ,S,γ,rfl,hrel,hn,h⟩
 | .label _,p,ho,hd,_,X,w,S,γ,σ,a,K,r,hrel,hn,h=>z6k ho hrel hn h fun h=>wpIn_label ⟨.normal,σ,S,γ,rfl,hrel,hn,h⟩
 | .exit id,p,ho,hd,_,X,w,S,γ,σ,a,K,r,hrel,hn,h=>z6k ho hrel hn h fun h=>wpIn_exit ⟨.exit id,σ,S,γ,rfl,hrel,hn,h⟩
 | .ret,p,ho,hd,_,X,w,S,γ,σ,a,K,r,hrel,hn,h=>z6k ho hrel hn h fun h=>wpIn_ret ⟨.ret,σ,S,γ,rfl,hrel,hn,h⟩
 | .loop _,p,ho,hd,_,X,w,S,γ,σ,a,K,r,hrel,hn,h=>z6k ho hrel hn h fun h=>by cases h
 | .rangeFunc ..,p,ho,hd,_,X,w,S,γ,σ,a,K,r,hrel,hn,h=>z6k ho hrel hn h fun h=>by cases h
 | .goto _,p,ho,hd,_,X,w,S,γ,σ,a,K,r,hrel,hn,h=>z6k ho hrel hn h fun h=>by cases h
 | .refuse _,p,ho,hd,_,X,w,S,γ,σ,a,K,r,hrel,hn,h=>z6k ho hrel hn h fun h=>by cases h
 | .scope c,p,ho,hd,_,X,w,S,γ,σ,a,K,r,hrel,hn,h=>by refine z6k (fun x hx=>ho x (by simp only[obs,am];exact .inl hx)) hrel hn h fun h=> ?_;refine zvr (wpIn_mono (z3d c (2*p) (fun x hx=>ho x (by simp only[obs,am];exact .inr hx)) hd hrel hn h) ?_);rintro e a' w' ⟨e',σ',S',γ',rfl,h1,h2,h3⟩;cases e'<;>exact⟨_,σ',S',γ',rfl,h1,h2,h3⟩
 | .block id c,p,ho,hd,_,X,w,S,γ,σ,a,K,r,hrel,hn,h=>by
  refine z6k (fun x hx=>ho x (by simp only[obs,am];exact .inl hx)) hrel hn h fun h=> ?_;refine wpIn_block (wpIn_mono (z3d c (2*p) (fun x hx=>ho x (by simp only[obs,am];exact .inr hx)) hd hrel hn h) ?_);rintro e a' w' ⟨e',σ',S',γ',rfl,h1,h2,h3⟩;cases e' with
  | normal=>exact⟨.normal,σ',S',γ',rfl,h1,h2,h3⟩
  | ret=>exact⟨.ret,σ',S',γ',rfl,h1,h2,h3⟩
  | flt=>exact⟨.flt,σ',S',γ',rfl,h1,h2,h3⟩
  | exit i=>
   simp only[Ex.mod,Exit.inBlock];rcases bif_some h3 with⟨e,h3⟩ | ⟨e,h3⟩
   ·rw[if_pos (af e)];exact⟨.normal,σ',S',γ',rfl,h1,h2,h3⟩
   ·rw[if_neg (fun q=>by rw[q,Nat.beq_refl]at e;cases e)];exact⟨.exit i,σ',S',γ',rfl,h1,h2,h3⟩
 | .seq x y,p,ho,hd,_,X,w,S,γ,σ,a,K,r,hrel,hn,h=>by
  refine z6k (fun x hx=>ho x (by simp only[obs,am];exact .inl hx)) hrel hn h fun h=> ?_;simp only[z4h,ab]at hd;refine wpIn_seq (wpIn_mono (z3d x (2*p) (fun x hx=>ho x (by simp only[obs,am];exact .inr (.inl hx))) hd.1 hrel hn h) ?_);rintro e a' w' ⟨e',σ',S',γ',rfl,h1,h2,h3⟩;cases e' with
  | normal=>exact z3d y (2*p+1) (fun x hx=>ho x (by simp only[obs,am];exact .inr (.inr hx))) hd.2 h1 h2 h3
  | ret=>exact⟨.ret,σ',S',γ',rfl,h1,h2,h3⟩
  | flt=>exact⟨.flt,σ',S',γ',rfl,h1,h2,h3⟩
  | exit i=>exact⟨.exit i,σ',S',γ',rfl,h1,h2,h3⟩
 | .cond c x y,p,ho,hd,_,X,w,S,γ,σ,a,K,r,hrel,hn,h=>by
  refine z6k (fun x hx=>ho x (by simp only[obs,am];exact .inl hx)) hrel hn h fun h=> ?_;simp only[z4h,ab]at hd;cases c with
  | tmp t=>
   simp only at h;split at h
   ·rename_i b hb;have hv:a.eval (.tmp t)= .bool b:=by
     have:=hrel.tm t;rw[hb]at this;exact this
    have hset:σ.set t (.bool b)=σ:=zw4 hb;refine wpIn_cond hv ?_;cases b with
    | true=>simp only[cond_true]at h;rw[hset]at h;exact z3d x (2*p) (fun x hx=>ho x (by simp only[obs,am];exact .inr (.inl hx))) hd.1 hrel hn h
    | false=>simp only[cond_false]at h;rw[hset]at h;exact z3d y (2*p+1) (fun x hx=>ho x (by simp only[obs,am];exact .inr (.inr hx))) hd.2 hrel hn h
   ·cases h
  | _=>cases h
 | .region id ops draw,p,ho,hd,_,X,w,S,γ,σ,a,K,r,hrel,hn,h=>by
  refine z6k ho hrel hn h fun h=> ?_;obtain⟨S1,hrel1⟩:=Rel.stillR (E.still id) hrel;have hdd:∀(i:Nat) (o:Oper),ops[i]? =some o->zi8 a.tmps.size o.dst:=fun i o hi=>by
   simp only[z4h,aE]at hd;have:=hd o (by
    obtain⟨hi',e⟩:=aS.1 hi;rw[<-e];simp)
   cases hdst:o.dst with
   | none=>trivial
   | some d=>rw[hdst]at this;show d<a.tmps.size;rw[hn];simpa[cE] using this
  rcases bif_some h with⟨_,h⟩ | ⟨_,h⟩
  ·obtain⟨hdr,h⟩:=X7 h;cases draw
   ·exact yq2 hE hrel1 h hdd (fun a' w' S' γ' σ' k1 k2 k3=>⟨.normal,σ',S',γ',rfl,k1,k2.trans hn,k3⟩) fun a' w' S' γ' σ' k1 k2 k3=>⟨.flt,σ',S',γ',rfl,k1,k2.trans hn,k3⟩
   ·cases hdr
  obtain⟨σ',h1,h2,h3⟩:∃σ',(draw=true->OpenOk E ops σ')/\runG E ops ops.toList ⟨σ.ρ,Dv.stillR σ.m (E.still id)⟩=some σ'/\K .normal σ'=some r:=by
   rcases bif_some h with⟨e,h⟩ | ⟨_,h⟩
   ·obtain⟨σ',h2,h3⟩:=yel E ops ops.toList _ _ r h;refine⟨σ',fun hd=> ?_,h2,h3⟩;rw[hd]at e;exact yls (by simpa using e) σ'
   ·obtain⟨σ',h2,h3⟩:=yel E ops ops.toList _ _ r h;obtain⟨h4,h5⟩:=X7 h3;exact⟨σ',fun _=>yjf h4,h2,h5⟩
  exact ytx hE hmix hrel1 h1 h2 hdd fun a' w' S' γ' k1 k2=>⟨.normal,σ',S',γ',rfl,k1,k2.trans hn,h3⟩
end code
variable {R:Type}
def getC(c:Cut)(σ:St):Option c.T:=getM c σ.ρ (stillL σ.m c.sts)
section cut
variable {w:World} {S:Nat->Prop} {γ:Nat->Loc} {m:Nat->Option MO} {rl:List (Nat×Option Nat)} {m':Nat->Option MO} {γ':Nat->Loc}
theorem y7b{X:Cx}{σ:St}{a:Act}(h:Rel X w S γ σ a){c:Cut}{v:c.T}(hc:getM c σ.ρ σ.m=some v):∃γ',Rel X w S γ' (mkC c v) a:=by
 unfold getM at hc;obtain⟨γ',g1,_,k1,k2,hq,hdist⟩:=ydg (g:=fun src n=>bif bG 5000000 n then some n else zse σ.ρ σ.m src) h.mem h.tm (ymu c.objs) hc;refine⟨γ',k1,fun t=>zwp t k2,h.below,h.base_le,h.s0,h.snew,h.defers,fun n q l hn hl=> ?_,h.pnhi,h.small⟩;have hhi:=h.pnhi n l hl;have hself:∀{e},z16 n (renL σ.ρ σ.m c.objs)=some e->e=some n:=fun {e} h=>ymt hhi h;rcases hq n q hn with⟨d',t,xs,k1,k2,rfl⟩ | ⟨t,k1,rfl⟩ | ⟨d',l',cs,s,z,k1,k2,k3,rfl⟩ | ⟨d',l',cs,id,ee,z,k1,k2,k3,rfl⟩
 ·have:=hself k1;cases this;obtain⟨p1,p2⟩:=h.pin _ _ l k2 hl
  grind
 ·grind
 ·have:=hself k1;cases this;obtain⟨p1,p2⟩:=h.pin _ _ l k2 hl;exact⟨(g1 _ _ k1).trans p1,p2⟩
 ·have:=hself k1;cases this;obtain⟨p1,p2⟩:=h.pin _ _ l k2 hl;exact⟨(g1 _ _ k1).trans p1,p2⟩
theorem zua{X:Cx}{σ:St}{a:Act}(h:Rel X w S γ σ a){c:Cut}{v:c.T}(hc:getC c σ=some v):∃S' γ',Rel X w S' γ' (mkC c v) a:=by
 obtain⟨S',h'⟩:=Rel.stillL c.sts h;obtain⟨γ',h''⟩:=y7b h' hc
 grind
end cut
variable {R:Type}
def OutT(o:Nat×Cut):List (Nat×Cut)->Type
 | []=>o.2.T
 | o'::r=>o.2.T⊕OutT o' r
def z75(o:Nat×Cut):(l:List (Nat×Cut))->Ex->St->Option (OutT o l)
 | [],e,σ=>bif ax e.key o.1 then getC o.2 σ else none
 | o'::r,e,σ=>bif ax e.key o.1 then(match getC o.2 σ with | some v=>some (.inl v) | none=>none)else(match z75 o' r e σ with | some v=>some (.inr v) | none=>none)
def yav(o:Nat×Cut):(l:List (Nat×Cut))->OutT o l->(Ex->St->Option R)->Option R
 | [],t,K=>K (ycf o.1) (mkC o.2 t)
 | o'::r,t,K=>match t with
  | .inl v=>K (ycf o.1) (mkC o.2 v)
  | .inr v=>yav o' r v K
theorem y47{X:Cx}{w:World}{S:Nat->Prop}{γ:Nat->Loc}{σ:St}{a:Act}(h:Rel X w S γ σ a){e:Ex}{K:Ex->St->Option R}{r:R}:
  ∀{l:List (Nat×Cut)} {o:Nat×Cut} {t:OutT o l},z75 o l e σ=some t->yav o l t K=some r->∃σ' S' γ',Rel X w S' γ' σ' a/\K e σ'=some r
 | [],o,t,hg,ho=>by
  have hg:(bif ax e.key o.1 then getC o.2 σ else none)=some t:=hg;rcases bif_some hg with⟨hb,hg⟩ | ⟨_,hg⟩
  all_goals grind[yav,zua,af,zwr]
 | o'::l,o,t,hg,ho=>by
  rcases bif_some (by simpa only[z75] using hg)with⟨hb,hg⟩ | ⟨_,hg⟩
  ·split at hg
   ·rename_i v hv;cases hg;obtain⟨S',γ',h'⟩:=zua h hv;refine⟨_,S',γ',h', ?_⟩;simp only[yav]at ho;rw[<-af hb,zwr]at ho;exact ho
   ·cases hg
  ·split at hg
   ·rename_i v hv;cases hg;exact y47 h hv ho
   ·cases hg
def lpOf(cin:Cut)(o:Nat×Cut)(l:List (Nat×Cut))(F:cin.T->Option (OutT o l)):Lp where
 T:=OutT o l
 dom:=fun σ=>match getC cin σ with | some v=>some (F v) | none=>none
 out:=fun t K=>yav o l t K
def iter{A T:Type}(f:(A->Option T)->A->Option T):Nat->A->Option T
 | 0,_=>none
 | n+1,a=>f (iter f n) a
section loop
variable {ro:Option Nat} {P:Program} {E:Env} (hE:EnvOk P E) (hmix:P.follows .mixedOrders=true) {Λ:Lps} {nt:Nat}
include hE hmix in
theorem ywn{c:Code}{p:Nat}(hobs:∀x,x∈obs Λ c p->LpOk P nt ro x.1 x.2)(hd:z4h nt c=true){cin:Cut}{o:Nat×Cut}{l:List (Nat×Cut)}{F:cin.T->Option (OutT o l)}
  (hF:∀v,F v=zjk E Λ c p (mkC cin v) (z75 o l)):LpOk P nt ro (lpOf cin o l F) c:=by
 intro R X w S γ σ a K r hrel hn h;simp only[Lp.run,lpOf]at h;split at h
 ·rename_i o' ho';split at ho'
  ·rename_i v hv;cases ho';split at h
   ·rename_i t ht;obtain⟨S1,γ',hrel'⟩:=zua hrel hv;rw[hF]at ht;refine wpIn_mono (z3d hE hmix c p hobs hd hrel' hn ht) ?_;rintro e a' w' ⟨e',σ',S',γ'',rfl,h1,h2,h3⟩;obtain⟨σ'',S3,γ3,k1,k2⟩:=y47 h1 h3 h;exact⟨e',σ'',S3,γ3,rfl,k1,h2,k2⟩
   ·cases h
  ·cases ho'
 ·cases h
include hE hmix in
include hE hmix in
theorem y8u{c:Code}{p:Nat}(hobs:∀x,x∈obs Λ c p->LpOk P nt ro x.1 x.2)(hd:z4h nt c=true){cin:Cut}{o:Nat×Cut}{l:List (Nat×Cut)}{step:(cin.T->Option (OutT o l))->cin.T->Option (OutT o l)}
  (hF:∀rec v,step rec v=zjk E Λ c p (mkC cin v) (fun e σ=>match e with
   | .normal=>(match getC cin σ with | some v'=>rec v' | none=>none)
   | .exit i=>z75 o l (.exit i) σ
   | .ret=>z75 o l .ret σ
   | .flt=>z75 o l .flt σ)) {X:Cx} {K:Ex->St->Option R} {r:R} {t:OutT o l} (h:yav o l t K=some r):
  ∀(N:Nat) (v:cin.T) {w:World} {S:Nat->Prop} {γ:Nat->Loc} {a:Act},Rel X w S γ (mkC cin v) a->a.tmps.size=nt->iter step N v=some t->Code.roundsIn (RF ro) 0 P c (Post X nt K r) N a w
 | 0,_,_,_,_,_,_,_,ht=>by cases ht
 | n+1,v,w,S,γ,a,hrel,hn,ht=>by
  rw[roundsIn_succ];simp only[iter]at ht;rw[hF]at ht;refine wpIn_mono (z3d hE hmix c p hobs hd hrel hn ht) ?_;rintro e a' w' ⟨e',σ',S',γ'',rfl,h1,h2,h3⟩;cases e' with
  | normal=>
   simp only at h3;split at h3
   ·rename_i v' hv';obtain⟨S3,γ3,h4⟩:=zua h1 hv';exact y8u hobs hd hF h n v' h4 h2 h3
   ·cases h3
  | exit i=>obtain⟨σ'',S3,γ3,k1,k2⟩:=y47 h1 h3 h;exact⟨.exit i,σ'',S3,γ3,rfl,k1,h2,k2⟩
  | ret=>obtain⟨σ'',S3,γ3,k1,k2⟩:=y47 h1 h3 h;exact⟨.ret,σ'',S3,γ3,rfl,k1,h2,k2⟩
  | flt=>obtain⟨σ'',S3,γ3,k1,k2⟩:=y47 h1 h3 h;exact⟨.flt,σ'',S3,γ3,rfl,k1,h2,k2⟩
include hE hmix in
theorem x1e{c:Code}{p:Nat}(hobs:∀x,x∈obs Λ c p->LpOk P nt ro x.1 x.2)(hd:z4h nt c=true){cin:Cut}{o:Nat×Cut}{l:List (Nat×Cut)}{step:(cin.T->Option (OutT o l))->cin.T->Option (OutT o l)}
  (hF:∀rec v,step rec v=zjk E Λ c p (mkC cin v) (fun e σ=>match e with
   | .normal=>(match getC cin σ with | some v'=>rec v' | none=>none)
   | .exit i=>z75 o l (.exit i) σ
   | .ret=>z75 o l .ret σ
   | .flt=>z75 o l .flt σ)) (N:Nat):LpOk P nt ro (lpOf cin o l (iter step N)) (.loop c):=by
 intro R X w S γ σ a K r hrel hn h;simp only[Lp.run,lpOf]at h;split at h
 ·rename_i o' ho';split at ho'
  ·rename_i v hv;cases ho';split at h
   ·rename_i t ht;obtain⟨S1,γ',hrel'⟩:=zua hrel hv;exact wpIn_loop_rounds N (y8u hE hmix hobs hd hF h N v hrel' hn ht)
   ·cases h
  ·cases ho'
 ·cases h
end loop
variable {R:Type}
theorem yi4(σ:St)(dst:Option Nat)(d:Nat)(as:List AV)(K:Ex->St->Option R):∀l:List CtrM,yh7 l σ dst d as K=(yh7 l σ dst d as fun e σ'=>some (e,σ')).bind fun p=>K p.1 p.2
 | []=>rfl
 | c::r=>by
  simp only[yh7];cases getW (renC (argsA 0 as) σ.m c.cin.objs) c.cin (argsA 0 as) σ.m with
  | none=>exact yi4 σ dst d as K r
  | some v=>
   simp only[zbo];congr 1;cases c.F v with
   | none=>rfl
   | some t=>
    simp only;rw[c.nat,c.nat (K:=fun τ ns=>bif isFlt (τ.ρ 0)then zfi (renC (argsA 0 as) σ.m c.cin.objs) σ none d ⟨fun _=> .undef,τ.m⟩ ns (fun σ'=>some (Ex.flt,σ'))else zfi (renC (argsA 0 as) σ.m c.cin.objs) σ dst d τ ns (fun σ'=>some (Ex.normal,σ'))),aW];congr 1;funext p;cases isFlt (p.1.ρ 0)
    ·simp only[cond_false];rw[z8r,z8r (K:=fun σ'=>some (Ex.normal,σ')),aW];rfl
    ·simp only[cond_true];rw[z8r,z8r (K:=fun σ'=>some (Ex.flt,σ')),aW];rfl
theorem yxb(E:Env)(o:Oper)(σ:St)(K:Ex->St->Option R):fopA E o σ K=(fopA E o σ fun e σ'=>some (e,σ')).bind fun p=>K p.1 p.2:=by
 have plain:opA E o σ (K .normal)=(opA E o σ fun σ'=>some (Ex.normal,σ')).bind fun p=>K p.1 p.2:=by rw[zy0,zy0 (K:=fun σ'=>some (Ex.normal,σ')),aW];rfl
 unfold fopA;split
 all_goals grind[zbo,yi4]
def exF(N:St->Option R)(K:Ex->St->Option R):Ex->St->Option R
 | .normal,σ=>N σ
 | .flt,σ=>K .flt σ
 | _,_=>none
def yas(E:Env)(all:Array Oper):List Nat->St->(Ex->St->Option R)->Option R
 | [],σ,K=>K .normal σ
 | i::is,σ,K=>match all[i]? with
  | some o=>match o.guard with
   | none=>fopA E o σ (exF (fun σ'=>yas E all is σ' K) K)
   | some _=>none
  | none=>none
def ze2(i:Nat):List (List Nat)->List (List Nat)
 | []=>[]
 | (j::r)::l=>bif ax j i then r::ze2 i l else ze2 i l
 | []::l=>ze2 i l
def yax:List (List Nat)->Bool
 | []=>false
 | []::_=>true
 | _::l=>yax l
def covB(all:Array Oper):Nat->Array Bool->List (List Nat)->Bool
 | 0,listed,ords=>(Region.ready .any all listed).isEmpty&&yax ords
 | fuel+1,listed,ords=>bif (Region.ready .any all listed).isEmpty then yax ords else(Region.ready .any all listed).all fun i=>covB all fuel (listed.setIfInBounds i true) (ze2 i ords)
theorem y7y:∀{l:List (List Nat)},yax l=true->[]∈l
 | []::_,_=>by simp
 | (_::_)::l,h=>ay _ (y7y (l:=l) h)
theorem zmu{i:Nat}{r:List Nat}:∀{l:List (List Nat)},r∈ze2 i l->(i::r)∈l
 | (j::s)::l,h=>by
  simp only[ze2]at h;cases hb:ax j i with
  | true=>
   rw[hb]at h;rcases ar.1 h with e | h
   ·rw[e,af hb];simp
   ·exact ay _ (zmu h)
  | false=>rw[hb]at h;exact ay _ (zmu h)
 | []::l,h=>ay _ (zmu (l:=l) h)
section
variable {ro:Option Nat} {P:Program} {E:Env} (hE:EnvOk P E) {all:Array Oper} {Q:Exit->Act->World->Prop}
include hE in
theorem yym{K:Ex->St->Option R}{r:R}:∀(fuel:Nat) (listed:Array Bool) (ords:List (List Nat)) (_:covB all fuel listed ords=true) {X:Cx} {w:World} {S:Nat->Prop} {γ:Nat->Loc} {σ:St} {a:Act} (_:Rel X w S γ σ a) (_:∀l,l∈ords->yas E all l σ K=some r) (_:∀(i:Nat) (o:Oper),all[i]? =some o->zi8 a.tmps.size o.dst)
  (_:∀a' w' S' γ' σ',Rel X w' S' γ' σ' a'->a'.tmps.size=a.tmps.size->K .normal σ'=some r->Q .normal a' w')
  (_:∀a' w' S' γ' σ',Rel X w' S' γ' σ' a'->a'.tmps.size=a.tmps.size->K .flt σ'=some r->Q (.panic [fltE]) a' w'),wpAnyIn (RF ro) 0 P .any all Q fuel listed a w
 | 0,listed,ords,hc,X,w,S,γ,σ,a,hrel,hf,hd,hN,hQ=>by simp only[covB,ab,bZ]at hc;exact⟨hc.1,hN a w S γ σ hrel rfl (hf [] (y7y hc.2))⟩
 | fuel+1,listed,ords,hc,X,w,S,γ,σ,a,hrel,hf,hd,hN,hQ=>by
  simp only[covB]at hc;cases he:(Region.ready .any all listed).isEmpty;rotate_left
  ·rw[he,cond_true]at hc;have he':=bZ.1 he;exact wpAnyIn_done he' (hN a w S γ σ hrel rfl (hf [] (y7y hc))) _
  ·rw[he,cond_false]at hc;refine⟨fun h=>(by rw[h]at he;cases he),fun i hi=> ?_⟩;have hci:=aE.1 hc i hi;unfold wpOpIn;cases ho:all[i]? with
   | none=>
    obtain⟨x,hx⟩:∃x,x∈ze2 i ords:=by
     cases ht:ze2 i ords with
     | cons x _=>exact⟨x,by simp⟩
     | nil=>
      rw[ht]at hci;exfalso;have no:∀(fuel:Nat) (listed:Array Bool),covB all fuel listed []=false:=by
       intro fuel;induction fuel with
       | zero=>intro listed;simp[covB,yax]
       | succ n ih=>
        intro listed;simp only[covB];cases hr:Region.ready .any all listed with
        | nil=>rfl
        | cons y ys=>simp[ze2,ih]
      rw[no]at hci;cases hci
    have:=hf _ (zmu hx);simp only[yas,ho]at this;cases this
   | some o=>
    simp only;have hne:ze2 i ords≠[]:=fun ht=>by
     rw[ht]at hci;have no:∀(fuel:Nat) (listed:Array Bool),covB all fuel listed []=false:=by
      intro fuel;induction fuel with
      | zero=>intro listed;simp[covB,yax]
      | succ n ih=>
       intro listed;simp only[covB];cases hr:Region.ready .any all listed with
       | nil=>rfl
       | cons y ys=>simp[ze2,ih]
     rw[no]at hci;cases hci
    obtain⟨l0,hl0⟩:∃x,x∈ze2 i ords:=by
     cases ht:ze2 i ords with
     | cons x _=>exact⟨x,by simp⟩
     | nil=>exact absurd ht hne
    have h0:=hf _ (zmu hl0);have hg:o.guard=none:=by
     simp only[yas,ho]at h0;cases hg:o.guard with
     | none=>rfl
     | some g=>rw[hg]at h0;cases h0
    have stepE:∀l,l∈ze2 i ords->((fopA E o σ fun e σ'=>some (e,σ')).bind fun p=>exF (fun σ'=>yas E all l σ' K) K p.1 p.2)=some r:=fun l hl=>by have h:=hf _ (zmu hl);simp only[yas,ho,hg]at h;rw[yxb]at h;exact h
    obtain⟨p,hp,_⟩:=aw.1 (stepE l0 hl0);obtain⟨e1,σ1⟩:=p;have hstep:∀l,l∈ze2 i ords->exF (fun σ'=>yas E all l σ' K) K e1 σ1=some r:=fun l hl=>by have:=stepE l hl;rw[hp]at this;exact this
    rw[if_pos (by simp[Region.wanted,hg])];refine yz1 hE hrel (hd i o ho) (K:=fun e σ'=>some (e,σ')) hp (fun a' w' S' γ' σ' g1 g2 g3=> ?_) (fun a' w' S' γ' σ' g1 g2 g3=> ?_)
    ·cases g3;exact yym fuel (listed.setIfInBounds i true) (ze2 i ords) hci g1 (fun l hl=>hstep l hl) (fun i o ho=>by rw[g2];exact hd i o ho) (fun a'' w'' S'' γ'' σ'' z1 z2 z3=>hN a'' w'' S'' γ'' σ'' z1 (z2.trans g2) z3) fun a'' w'' S'' γ'' σ'' z1 z2 z3=>hQ a'' w'' S'' γ'' σ'' z1 (z2.trans g2) z3
    ·cases g3;exact hQ a' w' S' γ' _ g1 g2 (hstep l0 hl0)
include hE in
theorem x4x(hmix:P.follows .mixedOrders=true){n id:Nat}(hd:z4h n (.region id all true)=true){ords:List (List Nat)}(hcov:covB all all.size (br all.size false) ords=true){cin:Cut}{o:Nat×Cut}{l:List (Nat×Cut)}{F:cin.T->Option (OutT o l)}
  (hF:∀ord,ord∈ords->∀v,F v=yas E all ord ⟨(mkC cin v).ρ,stillR (mkC cin v).m (E.still id)⟩ (z75 o l)):LpOk P n ro (lpOf cin o l F) (.region id all true):=by
 intro R X w S γ σ a K r hrel hn h;simp only[Lp.run,lpOf]at h;split at h
 ·rename_i o' ho';split at ho'
  ·rename_i v hv;cases ho';split at h
   ·rename_i t ht;obtain⟨S1,γ',hrel1⟩:=zua hrel hv;obtain⟨S2,hrel2⟩:=Rel.stillR (E.still id) (ρ:=(mkC cin v).ρ) (m:=(mkC cin v).m) hrel1;have hrel':Rel X {w with drawn:=w.drawn+1} S2 γ' ⟨(mkC cin v).ρ,stillR (mkC cin v).m (E.still id)⟩ a:=by
     have hb:Below w.heap.size w {w with drawn:=w.drawn+1}:=⟨rfl,rfl,rfl,ai _,fun _ _=>rfl⟩;refine⟨hrel2.mem.grow hb,fun t=>RepA.mono (w:=w) (w':={w with drawn:=w.drawn+1}) (fun _ _=>rfl) (fun _ h=>h) (Keeps.refl _ _) _ _ (hrel2.tm t),hrel2.below.trans (Below.bel hb hrel2.size_le),hrel2.base_le,hrel2.s0,hrel2.snew,MarksOk.mono (w:=w) (w':={w with drawn:=w.drawn+1}) (S:=S2) (fun _ _ h=>h) (fun _ _ h=>h) hrel2.defers,hrel2.pin,hrel2.pnhi,hrel2.small⟩
    have hdd:∀(i:Nat) (o:Oper),all[i]? =some o->zi8 a.tmps.size o.dst:=fun i o hi=>by
     simp only[z4h,aE]at hd;have:=hd o (by
      obtain⟨hi',e⟩:=aS.1 hi;rw[<-e];simp)
     cases hdst:o.dst with
     | none=>trivial
     | some d=>rw[hdst]at this;show d<a.tmps.size;rw[hn];simpa[cE] using this
    have fin:∀(e:Ex) a' w' S' γ' σ',Rel X w' S' γ' σ' a'->a'.tmps.size=a.tmps.size->z75 o l e σ'=some t->Post X n K r e.mod a' w':=fun e a' w' S' γ' σ' g1 g2 g3=>by obtain⟨σ'',S3,γ3,k1,k2⟩:=y47 g1 g3 h;exact⟨e,σ'',S3,γ3,rfl,k1,g2.trans hn,k2⟩
    exact wpIn_region_any hmix (yym (ro:=ro) hE (K:=z75 o l) (r:=t) all.size _ ords hcov hrel' (fun ord hord=>by rw[<-hF ord hord v];exact ht) hdd (fun a' w' S' γ' σ' g1 g2 g3=>fin .normal a' w' S' γ' σ' g1 g2 g3) fun a' w' S' γ' σ' g1 g2 g3=>fin .flt a' w' S' γ' σ' g1 g2 g3)
   ·cases h
  ·cases ho'
 ·cases h
end
end Go.Dv
