/- A call of yield, from the iterator's side. -/
import Derived.Test.YtljffhpbdmkplaaGreatDvB
import Derived.RangeFuncCalls
import Derived.OrdersIn
import Derived.Orders
import Derived.LoopNIn
import Derived.Test.YtljffhpbdmkplaaGreatDvA
import Derived.RangeFuncLeaves
set_option linter.all false
open Array renaming all_toList->e8,ext'->bS,getD_eq_getD_getElem?->bL,getElem?_append_left->cV,getElem?_eq_getElem->dX,getElem?_eq_some_iff->bh,map->cO,mem_def->cN,replicate->cD
open Bool renaming and_eq_true->ac,and_self->cT,and_true->bV,not_eq_true'->aw,or_eq_true->ay,true_and->bv
open List renaming Pairwise->bi,all_append->cu,all_cons->br,all_eq_true->az,append_nil->ai,drop_drop->dp,drop_of_length_le->ej,drop_zero->eM,filter_eq_self->cn,foldl_cons->aU,foldl_nil->dW,getD_eq_getElem?_getD->aM,getElem?_append_left->aW,getElem?_cons_succ->cy,getElem?_cons_zero->cx,isEmpty_iff->cP,length_cons->af,map_append->bK,map_congr_left->dL,map_cons->ax,mem_append->ak,mem_cons->am,mem_cons_of_mem->aF,mem_filter->aB,mem_map->aH,mem_range->bM,of_mem_zip->fq,pairwise_append->bH,pairwise_cons->aI,range->bR,replicate->ar,take_of_length_le->bF
open Nat renaming add_zero->bG,beq->aC,beq_refl->cM,ble->ci,blt->cE,blt_eq->cQ,eq_of_beq_eq_true->ah,le_of_lt->eE,le_refl->al,lt_irrefl->d6,lt_of_lt_of_le->bo,zero_add->bk
open Option renaming bind->fp,bind_assoc->bA,bind_eq_some_iff->aG,bind_some->ab,getD_some->d9,isNone_iff_eq_none->bc,isSome_iff_exists->bu,map_eq_some_iff->bT,map_map->fv,map_some->aT,some->aR,toList->eS
open Prod renaming mk->cY
namespace Go.Dv
open Go.RowKit
variable [LTab]
variable {R:Type}
abbrev RF(ro:Option Nat):Fence:={fn:=fun _=>True,depth:=none,alive:=false,round:=ro}
structure SoundR (P:Program) (id:Nat) (c:CtrR):Prop where
 tms:c.cin.tms=(LTab.tab id).ps.toList++(LTab.tab id).tms
 np:c.np=(LTab.tab id).ps.size
 once:(zp4 c.cin.tms&&c.cin.tms.all fun t=>cE t (LTab.tab id).nt)=true
 small:(LTab.tab id).nt<=4096
 round:∀(w:World) (S:Nat->Prop) (γ:Nat->Loc) (B:Nat->Prop) (v:c.cin.T) (tmps:Array Value) (l:Nat) (rec:Loop) {R:Type} (t:c.T) (K:Ex->St->List Nat->Option R) (r:R),
  MemRel w S γ (mofO c.cin.objs v.2) B->(∀k,B k->k<w.heap.size)->B l->¬S l->w.heap[l]? =some (.loop rec)->rec.state= .ready->rec.assign=(LTab.tab id).assign->rec.body=(LTab.tab id).body->tmps.size=(LTab.tab id).nt->
  RepAs w S γ (mofO c.cin.objs v.2) (mkL c.cin.sh v.1) (c.cin.tms.map fun t=>tmps.getD t undef)->c.F v=some t->c.out t K=some r->
  RoundIn (RF none) 0 P l rec.fn tmps rec.assign rec.body w fun e w'=>∃ex S' γ' τ ns,e= .returned (.bool (exN ex))/\w'.heap[l]? =some (.loop {rec with state:=(stOf ex.key).1,pending:=(stOf ex.key).2})/\K ex τ ns=some r/\
   BackOk (fun k=>k=l) B w S γ (mofO c.cin.objs v.2) w' S' γ' ⟨fun i=>bif aC i 0 then .bool (exN ex)else .undef,τ.m⟩ ns (.bool (exN ex))
theorem y7b:∀(l:List (Nat×Value)) (a:Array Value),(l.foldl (fun t (p:Nat×Value)=>t.setIfInBounds p.1 p.2) a).size=a.size
 | [],_=>rfl
 | (p,v)::l,a=>by
  simp only[aU]
  rw[y7b l];simp
theorem zs8{t:Nat}:∀(l:List (Nat×Value)) (a:Array Value),t∉l.map (·.1)->(l.foldl (fun t (p:Nat×Value)=>t.setIfInBounds p.1 p.2) a).getD t undef=a.getD t undef
 | [],_,_=>rfl
 | (p,v)::l,a,h=>by
  simp only[ax,am,not_or]at h
  simp only[aU]
  rw[zs8 l _ h.2]
  simp[bL,Array.getElem?_setIfInBounds,Ne.symm h.1]
theorem yco:∀(ps:List Nat) (vs:List Value) (a:Array Value),ps.Nodup->(∀p,p∈ps->p<a.size)->vs.length=ps.length->(ps.map fun t=>((ps.zip vs).foldl (fun t (p:Nat×Value)=>t.setIfInBounds p.1 p.2) a).getD t undef)=vs
 | [],vs,_,_,_,hl=>by cases vs with | nil=>rfl | cons _ _=>simp at hl
 | p::ps,[],_,_,_,hl=>by simp at hl
 | p::ps,v::vs,a,hn,hs,hl=>by
  simp only[List.nodup_cons]at hn
  simp only[List.zip_cons_cons,aU,ax]
  congr 1
  ·rw[zs8]
   ·have:=hs p (by simp)
    simp[this]
   ·intro h
    obtain⟨⟨q,x⟩,h1,h2⟩:=aH.1 h
    simp only at h2
    subst h2
    exact hn.1 (fq h1).1
  ·exact yco ps vs _ hn.2 (fun q hq=>by simpa using hs q (by simp[hq])) (by simpa using hl)
theorem yay(ps:Array Tmp)(args tmps:Array Value):(ps.zip args).foldl (fun tmps (t,a)=>tmps.setIfInBounds t a) tmps=(ps.toList.zip args.toList).foldl (fun t (p:Nat×Value)=>t.setIfInBounds p.1 p.2) tmps:=by
 rw[<-Array.foldl_toList,Array.toList_zip]
theorem ydw(ro:Option Nat){n:Nat}{P:Program}{l:Nat}{f:FuncId}{tmps:Array Value}{assign body:Code}{w:World}{R:Ending->World->Prop}(h:RoundIn (RF none) n P l f tmps assign body w R):RoundIn (RF ro) n P l f tmps assign body w R:=by
 cases ro with
 | none=>exact h
 | some l=>exact h
theorem yq7{P:Program}{E:Env}(hE:∀id c,E.rounds id=some c->SoundR P id c){X:Cx}{w:World}{S:Nat->Prop}{γ:Nat->Loc}{σ:St}{a:Act}(hrel:Rel X w S γ σ a){as:List AV}{vals:List Value}(hr:RepAs w S γ σ.m as vals){d n:Nat}(hd:d<a.tmps.size){x:Value}(hx:RepA w S γ σ.m (.yld n) x){σ':St}(h:yldA E σ d n as some=some σ'):
  ∃l fn tmps assign body,x= .func (.yield l) #[] #[]/\(Instr.yield l vals.toArray).run P w= .ok (.round l fn tmps assign body) w/\
   RoundIn (RF none) 0 P l fn tmps assign body w fun e w'=>∃v,e= .returned v/\∃S' γ',Rel X w' S' γ' σ' (a.put (some d) v):=by
 unfold yldA at h
 split at h
 case h_2=>cases h
 rename_i id caps hn
 split at h
 case h_2=>cases h
 rename_i c hc
 split at h
 case h_2=>cases h
 rename_i v hv
 obtain⟨hnp,h⟩:=W0 h
 split at h
 case h_2=>cases h
 rename_i t ht
 have hnp:=ah hnp
 have hR:=hE id c hc
 obtain⟨id',cs',e',l,k1,k2,rfl⟩:=hx
 rw[hn]at k1;cases k1
 obtain⟨l',rec,hrng⟩:=hrel.mem.obj n _ hn
 have hll:l'=l:=by have:=hrng.loc;rw[k2]at this;cases this;rfl
 subst hll
 have hblk:(γ n).blk=some l':=by rw[Loc.blk,k2];rfl
 have hlen:=hr.length
 have hys:=run_yield (P:=P) (args:=vals.toArray) hrng.heap (by simp[hlen,hnp,hR.np,hrng.ps])
 refine⟨l',_,_,_,_,rfl,hys, ?_⟩
 have keep0:Keeps σ.m γ (mupd σ.m n (.rng id caps none)) γ:=G2 hn rfl
 have hrel1:Rel X w S γ ⟨σ.ρ,mupd σ.m n (.rng id caps none)⟩ a:=by
  have get:∀{k q},mupd σ.m n (.rng id caps none) k=some q->q.live=true->k≠n/\σ.m k=some q:=by
   intro k q hq hl
   by_cases e:k=n
   ·subst e;rw[W6]at hq;cases hq;cases hl
   ·rw[X1 _ _ e]at hq;exact⟨e,hq⟩
  refine⟨⟨fun k q hq=> ?_,hrel.mem.low,fun k k' q q' b hq hq' hl hl'=> ?_,fun k q b hq hl=> ?_⟩,fun t=>RepA.mono (fun _ _=>rfl) (fun _ h=>h) keep0 _ _ (hrel.tm t),hrel.below,hrel.base_le,hrel.s0,hrel.snew,hrel.defers,zax hrel.pin keep0 (fun k l _ hk=> ?_),hrel.pnhi,hrel.small⟩
  ·have hq:mupd σ.m n (.rng id caps none) k=some q:=hq
   by_cases e:k=n
   ·subst e;rw[W6]at hq;cases hq;trivial
   ·rw[X1 _ _ e]at hq
    exact ObjRel.later (hrel.mem.obj k q hq) (fun _ _=>rfl) (fun _ h=>h) keep0 rfl fun hl b hb=>⟨rfl,(ObjRel.notS (hrel.mem.obj k q hq) hl hb).1⟩
  ·obtain⟨e1,h1⟩:=get hq hl
   obtain⟨e2,h2⟩:=get hq' hl'
   exact hrel.mem.apart k k' q q' b h1 h2 hl hl'
  ·obtain⟨e1,h1⟩:=get hq hl
   exact hrel.mem.high k q b h1 hl
  ·intro hnone
   have hk:mupd σ.m n (.rng id caps none) k≠none:=hk
   by_cases e:k=n
   ·subst e;rw[hn]at hnone;cases hnone
   ·rw[X1 _ _ e]at hk;exact hk hnone
 have honce:=hR.once
 simp only[ac,az,cQ]at honce
 obtain⟨ho1,ho2⟩:=honce
 have hnodup:=zdi ho1
 rw[hR.tms]at hnodup
 obtain⟨nd1,nd2,nd3⟩:=List.nodup_append.1 hnodup
 have hpsize:∀p,p∈(LTab.tab id).ps.toList->p<rec.tmps.size:=fun p hp=>by
  rw[hrng.size];exact ho2 p (by rw[hR.tms];exact List.mem_append_left _ hp)
 have hargs:RepAs w S γ (mupd σ.m n (.rng id caps none)) (as++caps) (c.cin.tms.map fun t=>(((rec.params.zip vals.toArray).foldl (fun tmps (t,a)=>tmps.setIfInBounds t a) rec.tmps)).getD t undef):=by
  rw[hR.tms,bK,hrng.ps,yay]
  refine RepAs.append ?_ ?_
  ·rw[yco _ _ _ nd1 hpsize (by simp[hlen,hnp,hR.np])]
   exact RepAs.mono (fun _ _=>rfl) (fun _ h=>h) keep0 _ _ hr
  ·have e:((LTab.tab id).tms.map fun t=>(((LTab.tab id).ps.toList.zip vals).foldl (fun t (p:Nat×Value)=>t.setIfInBounds p.1 p.2) rec.tmps).getD t undef)=(LTab.tab id).tms.map fun t=>rec.tmps.getD t undef:=by
    refine dL fun t ht=>zs8 _ _ fun hm=> ?_
    obtain⟨⟨q,y⟩,h1,h2⟩:=aH.1 hm
    simp only at h2
    subst h2
    exact nd3 q (fq h1).1 q ht rfl
   simp only[List.toList_toArray]
   rw[e]
   exact RepAs.mono (fun _ _=>rfl) (fun _ h=>h) keep0 _ _ hrng.caps
 obtain⟨γi,g1,g2,hmi,hrep,hq,hdist⟩:=y90 (g:=fun src _=>zos (zrl c.cin.tms (as++caps)) (mupd σ.m n (.rng id caps none)) src) hrel1.mem (fun t=>zoo t hargs) (zoa c.cin.objs) hv
 have hnames:∀n' d',z00 n' (renC (zrl c.cin.tms (as++caps)) (mupd σ.m n (.rng id caps none)) c.cin.objs)=some (some d')->∃q,mofO c.cin.objs v.2 n'=some q:=fun n' d' hlk=>by
  rw[zoa]at hlk
  exact zou (g:=fun src _=>zos (zrl c.cin.tms (as++caps)) (mupd σ.m n (.rng id caps none)) src) hlk
 have hol:∀n' o,mupd σ.m n (.rng id caps none) n'=some o->o.live=true->(γ n').blk≠some l':=by
  intro n' o ho hl hb
  by_cases e:n'=n
  ·subst e;rw[W6]at ho;cases ho;cases hl
  ·rw[X1 _ _ e]at ho
   exact hrel.mem.apart n' n o _ l' ho hn hl rfl e hb hblk
 have lentl:∀n' q,mofO c.cin.objs v.2 n'=some q->q.live=true->(γi n').blk≠some l':=by
  intro n' q hn' hl hb
  rcases hq n' q hn' with⟨d',t,xs,k1,k2,rfl⟩ | ⟨t,k1,rfl⟩ | ⟨d',l0,cs,s,z,k1,k2,k3,rfl⟩ | ⟨d',l0,cs,i2,ee,z,k1,k2,k3,rfl⟩
  ·rw[g1 _ _ k1]at hb;exact hol d' _ k2 rfl hb
  ·rw[Loc.blk,g2 _ k1]at hb;cases hb
  ·rw[g1 _ _ k1]at hb;exact hol d' _ k2 (by cases s<;>first | rfl | cases hl) hb
  ·rw[g1 _ _ k1]at hb;exact hol d' _ k2 rfl hb
 have hlt:=zf5 hrng.heap
 have hB'l:(fun k=>k<w.heap.size/\∀n q,mofO c.cin.objs v.2 n=some q->q.live=true->(γi n).blk≠some k) l':=⟨hlt,lentl⟩
 have hmi':MemRel w S γi (mofO c.cin.objs v.2) (fun k=>k<w.heap.size/\∀n q,mofO c.cin.objs v.2 n=some q->q.live=true->(γi n).blk≠some k):=
  ⟨hmi.obj,hmi.low,hmi.apart,fun n q b hn hlq hbk h=>h.2 n q hn hlq hbk⟩
 refine(hR.round w S γi _ v _ l' rec t _ σ' hmi' (fun k h=>h.1) hB'l hrng.notS hrng.heap hrng.state hrng.assign hrng.body ?_ hrep ht h).mono ?_
 ·rw[yay,y7b];exact hrng.size
 rintro e w' ⟨ex,S',γ',τ,ns,rfl,hheap,hback,hok⟩
 refine⟨_,rfl, ?_⟩
 rw[zke]at hback
 cases hbk:zfw (renC (zrl c.cin.tms (as++caps)) (mupd σ.m n (.rng id caps none)) c.cin.objs) ⟨σ.ρ,mupd σ.m n (.rng id caps none)⟩ (some d) d ⟨fun i=>bif aC i 0 then .bool (exN ex)else .undef,τ.m⟩ ns some with
 | none=>rw[hbk]at hback;cases hback
 | some σ2=>
  rw[hbk]at hback
  simp only[ab,aR.injEq]at hback
  subst hback
  obtain⟨S2,γ2,hrel2,keep2,hSS,hwS,hsame,hrest⟩:=ycc hrel1 hnames g1 g2 hmi hq (ex:=fun k=>k=l') (fun b hb e=>hrng.notS (e▸hb)) (fun b hb e=>hrel.mem.high n _ b hn rfl (e▸hblk) hb) (fun n' o b ho hl hb e=>hol n' o ho hl (e▸hb)) rfl hok (dst:=some d) hd (bo hd hrel.small) hbk
  obtain⟨q1,q2⟩:=hrest l' hB'l hrng.notS hol
  have hn2:σ2.m n=some (.rng id caps none):=hsame n _ (W6 _ _ _) (fun k hk=>by
   obtain⟨q,hq'⟩:=hnames k n hk
   rcases hq k q hq' with⟨d',t,xs,k1,k2,rfl⟩ | ⟨t,k1,rfl⟩ | ⟨d',l0,cs,s,z,k1,k2,k3,rfl⟩ | ⟨d',l0,cs,i2,ee,z,k1,k2,k3,rfl⟩<;>rw[hk]at k1<;>cases k1<;>(have k2:=(W6 σ.m n (MO.rng id caps none)).symm.trans k2;cases k2))
  have gn:γ2 n=γ n:=by
   obtain⟨_,_,_,h3⟩:=keep2 n _ (W6 _ _ _)
   exact h3
  have keep3:Keeps σ2.m γ2 (mupd σ2.m n (.rng id caps (some ex.key))) γ2:=G2 hn2 rfl
  refine⟨S2,γ2,⟨⟨fun k q hq=> ?_,hrel2.mem.low,fun k k' q q' b hq hq' hl hl' hne hb hb'=> ?_,fun k q b hq hl hb=> ?_⟩,fun t=>RepA.mono (fun _ _=>rfl) (fun _ h=>h) keep3 _ _ (hrel2.tm t),hrel2.below,hrel2.base_le,hrel2.s0,hrel2.snew,hrel2.defers,zax hrel2.pin keep3 (fun k l _ hk=> ?_),hrel2.pnhi,hrel2.small⟩⟩
  ·have hq:mupd σ2.m n (.rng id caps (some ex.key)) k=some q:=hq
   by_cases e:k=n
   ·subst e
    rw[W6]at hq;cases hq
    refine⟨l',_,by rw[gn];exact k2,hheap,rfl,rfl,hrng.ps,hrng.assign,hrng.body,hrng.size, ?_,q1⟩
    exact RepAs.mono hwS hSS ((keep0.trans keep2).trans keep3) _ _ hrng.caps
   ·rw[X1 _ _ e]at hq
    exact ObjRel.later (hrel2.mem.obj k q hq) (fun _ _=>rfl) (fun _ h=>h) keep3 rfl fun hl b hb=>⟨rfl,(ObjRel.notS (hrel2.mem.obj k q hq) hl hb).1⟩
  ·have hq:mupd σ2.m n (.rng id caps (some ex.key)) k=some q:=hq
   have hq':mupd σ2.m n (.rng id caps (some ex.key)) k'=some q':=hq'
   by_cases e:k=n
   ·subst e
    have e':k'≠k:=fun e=>hne e.symm
    rw[X1 _ _ e']at hq'
    rw[gn,hblk]at hb;cases hb
    exact q2 k' q' hq' hl' hb'
   ·by_cases e':k'=n
    ·subst e'
     rw[gn,hblk]at hb';cases hb'
     rw[X1 _ _ e]at hq
     exact q2 k q hq hl hb
    ·rw[X1 _ _ e]at hq
     rw[X1 _ _ e']at hq'
     exact hrel2.mem.apart k k' q q' b hq hq' hl hl' hne hb hb'
  ·have hq:mupd σ2.m n (.rng id caps (some ex.key)) k=some q:=hq
   by_cases e:k=n
   ·subst e
    rw[gn]at hb
    exact hrel.mem.high k _ b hn rfl hb
   ·rw[X1 _ _ e]at hq
    exact hrel2.mem.high k q b hq hl hb
  ·intro hnone
   have hk:mupd σ2.m n (.rng id caps (some ex.key)) k≠none:=hk
   by_cases e:k=n
   ·subst e;rw[hn2]at hnone;cases hnone
   ·rw[X1 _ _ e]at hk;exact hk hnone
theorem ObjRel.more{w:World}{S S':Nat->Prop}{γ:Nat->Loc}{m m':Nat->Option MO}{k:Nat}{q:MO}(h:ObjRel w S γ m k q)(hS:∀b,S b->S' b)(hk:Keeps m γ m' γ)(hl:q.live=true->∀b,(γ k).blk=some b->¬S' b):ObjRel w S' γ m' k q:=
 ObjRel.later h (fun _ _=>rfl) hS hk rfl fun hlq b hb=>⟨rfl,hl hlq b hb⟩
theorem Rel.stillAt{X:Cx}{w:World}{S:Nat->Prop}{γ:Nat->Loc}{ρ:Nat->AV}{m:Nat->Option MO}{a:Act}(h:Rel X w S γ ⟨ρ,m⟩ a){n:Nat}{o o':MO}(hn:m n=some o)(hl:o.live=true)(hl':o'.live=false)(hk:o'.kind=o.kind)
  (ho:∀S':Nat->Prop,(∀b,S b->S' b)->(∀b,(γ n).blk=some b->S' b)->ObjRel w S' γ (mupd m n o') n o'):∃S',Rel X w S' γ ⟨ρ,mupd m n o'⟩ a:=by
 have hkk:=G2 (γ:=γ) hn hk
 have old:∀k q,mupd m n o' k=some q->q.live=true->k≠n/\m k=some q:=by
  intro k q hq hlq
  by_cases e:k=n
  ·subst e;rw[W6]at hq;cases hq;rw[hl']at hlq;cases hlq
  ·rw[X1 _ _ e]at hq;exact⟨e,hq⟩
 have hmark:∀D,w.heap[D]? =some (.deferred (some []))->(S D\/(γ n).blk=some D)->S D:=by
  rintro D hD (hs | hs)
  ·exact hs
  obtain⟨_,o',g1,g2⟩:=ObjRel.notS (h.mem.obj n o hn) hl hs
  rw[hD]at g1;cases g1
  exact absurd rfl (g2 _)
 have hpin:∀k l,X.pn k=some l->mupd m n o' k≠none->m k≠none:=by
  intro k _ _ hk
  by_cases e:k=n
  ·subst e;rw[hn];simp
  ·rwa [X1 _ _ e]at hk
 refine⟨fun b=>S b\/(γ n).blk=some b,⟨fun k q hq=> ?_, ?_, ?_, ?_⟩,fun t=>RepA.mono (fun _ _=>rfl) (fun _ h=> .inl h) hkk _ _ (h.tm t),h.below,h.base_le,fun b hb=> .inl (h.s0 b hb), ?_,h.defers.mono (fun _ _ h=>h) hmark,zax h.pin hkk hpin,h.pnhi,h.small⟩
 ·have hq:mupd m n o' k=some q:=hq
  show ObjRel w _ γ (mupd m n o') k q
  by_cases e:k=n
  ·subst e;rw[W6]at hq;cases hq
   exact ho _ (fun _ h=> .inl h) fun _ h=> .inr h
  ·rw[X1 _ _ e]at hq
   refine ObjRel.more (h.mem.obj k q hq) (fun _ h=> .inl h) hkk fun hlq b hb=> ?_
   rintro(hs | hs)
   ·exact(ObjRel.notS (h.mem.obj k q hq) hlq hb).1 hs
   ·exact h.mem.apart k n q o b hq hn hlq hl e hb hs
 ·rintro b (hs | hs)
  ·exact h.mem.low b hs
  ·exact ObjRel.lt (h.mem.obj n o hn) hl hs
 ·intro k k' q q' b hq hq' hlq hlq' hne hb hb'
  obtain⟨_,h1⟩:=old k q hq hlq
  obtain⟨_,h2⟩:=old k' q' hq' hlq'
  exact h.mem.apart k k' q q' b h1 h2 hlq hlq' hne hb hb'
 ·intro k q b hq hlq hb
  obtain⟨_,h1⟩:=old k q hq hlq
  exact h.mem.high k q b h1 hlq hb
 ·rintro b (hs | hs)
  ·exact h.snew b hs
  ·exact .inr (h.mem.high n o b hn hl hs)
theorem Rel.stillO{X:Cx}{w:World}{S:Nat->Prop}{γ:Nat->Loc}{ρ:Nat->AV}{m:Nat->Option MO}{a:Act}(h:Rel X w S γ ⟨ρ,m⟩ a)(n:Nat):∃S',Rel X w S' γ ⟨ρ,stillO m n⟩ a:=by
 unfold Dv.stillO
 split
 ·rename_i cs hn
  refine h.stillAt hn rfl rfl rfl fun S' hS hb=> ?_
  obtain⟨b,vs,el,g1,g2,g3,g4,g5,g6⟩:=h.mem.obj n _ hn
  exact⟨b,vs,el,g1,g2,RepAs.mono (fun _ _=>rfl) hS (G2 (o':= .box cs .still) hn rfl) cs vs g3,g4,(fun e=>by cases e),fun _=>hb b (by rw[Loc.blk,g1];rfl)⟩
 ·rename_i t xs hn
  refine h.stillAt hn rfl rfl rfl fun S' hS hb=> ?_
  have hob:RowRel w S (γ n) t xs .live:=h.mem.obj n _ hn
  show RowRel w S' (γ n) t xs .still
  refine⟨hob.len,hob.cap,hob.nil,fun a ha=> ?_⟩
  obtain⟨b,arr,el,fz,g1,g2,g3,g4,g5,g6,g7⟩:=hob.row a ha
  refine⟨b,arr,el,fz,g1,g2,g3,g4,fun i x hx=> ?_,(fun e=>by cases e),fun _=>hb b (by rw[Loc.blk,ha,g1];rfl)⟩
  obtain⟨c,d1,d2⟩:=g5 i x hx
  exact⟨c,RepT.mono (fun _ _=>rfl) hS t x c d1,d2⟩
 ·exact⟨S,h⟩
theorem Rel.stillL{X:Cx}{w:World}{γ:Nat->Loc}{ρ:Nat->AV}{a:Act}:∀(ns:List Nat) {S:Nat->Prop} {m:Nat->Option MO} (_:Rel X w S γ ⟨ρ,m⟩ a),∃S',Rel X w S' γ ⟨ρ,stillL m ns⟩ a
 | [],S,_,h=>⟨S,h⟩
 | n::ns,_,_,h=>by
  obtain⟨S1,h1⟩:=h.stillO n
  exact Rel.stillL ns h1
theorem Rel.stillF{X:Cx}{w:World}{S:Nat->Prop}{γ:Nat->Loc}{ρ:Nat->AV}{m:Nat->Option MO}{a:Act}(h:Rel X w S γ ⟨ρ,m⟩ a)(n:Nat):∃S',Rel X w S' γ ⟨ρ,stillF m n⟩ a:=by
 unfold Dv.stillF
 split
 ·rename_i t xs i r hn
  split
  ·rename_i y hy
   have hob:HoleRel w S γ m (γ n) t xs i r:=h.mem.obj n _ hn
   obtain⟨b,arr,el,fz,h1,h2,h3,h4,h5,⟨u,h6,h7⟩,h8⟩:=hob.row
   have hblk:(γ n).blk=some b:=by rw[Loc.blk,h1];rfl
   have hk:(MO.sl t (xs.set i y) .live).kind=(MO.sl t xs (.hole i r)).kind:=by simp[MO.kind]
   have hT:=zqj h.mem hy (show RepAs w S γ m [.own r] [u]from⟨u,[],rfl,h7,rfl⟩)
   have hkk:=G2 (γ:=γ) hn hk
   have hpin:∀k l,X.pn k=some l->mupd m n (.sl t (xs.set i y) .live) k≠none->m k≠none:=by
    intro k _ _ hk
    by_cases e:k=n
    ·subst e;rw[hn];simp
    ·rwa [X1 _ _ e]at hk
   refine⟨S,h.mem.write hn rfl hblk ⟨rfl,rfl,rfl,rfl,fun _ _=>rfl,arr,el,fz,h2⟩ hk h8 ?_,fun t=>RepA.mono (fun _ _=>rfl) (fun _ h=>h) hkk _ _ (h.tm t),h.below,h.base_le,h.s0,h.snew,h.defers,zax h.pin hkk hpin,h.pnhi,h.small⟩
   show RowRel w S (γ n) t (xs.set i y) .live
   refine⟨by simpa using hob.len,hob.cap,fun e=>(by rw[h1]at e;cases e),fun a ha=> ?_⟩
   rw[h1]at ha;cases ha
   refine⟨b,arr,el,fz,rfl,h2,h3,h4,fun k z hz=> ?_,fun _=>h8,fun e=>by cases e⟩
   by_cases e:k=i
   ·subst e
    have hlt:=hob.lt
    simp only[getq,List.getElem?_set_self hlt,aR.injEq]at hz
    subst hz
    refine⟨[u],hT,fun j v hj=> ?_⟩
    match j,hj with
    | 0,hj=>cases hj;rw[hob.one];simpa using h6
    | j+1,hj=>simp at hj
   ·refine h5 k z e ?_
    simp only[getq]at hz|-
    rwa [List.getElem?_set_ne (Ne.symm e)]at hz
  ·exact⟨S,h⟩
 ·exact h.stillO n
theorem Rel.stillR{X:Cx}{w:World}{γ:Nat->Loc}{ρ:Nat->AV}{a:Act}:∀(ns:List Nat) {S:Nat->Prop} {m:Nat->Option MO} (_:Rel X w S γ ⟨ρ,m⟩ a),∃S',Rel X w S' γ ⟨ρ,stillR m ns⟩ a
 | [],S,_,h=>⟨S,h⟩
 | n::ns,_,_,h=>by
  obtain⟨S1,h1⟩:=h.stillF n
  exact Rel.stillR ns h1
variable {R:Type}
theorem zho(ro:Option Nat){P:Program}{f:FuncId}{args:Array Value}{w:World}{R:Ending->World->Prop}{n:Nat}(h:Calls P f args w R):CallsIn (RF ro) n P f args w R:=by
 have h:CallsIn (RF none) n P f args w R:=callsIn_wide.2 h
 cases ro with
 | none=>exact h
 | some l=>exact CallsIn.inRound l h
theorem yc5{d:Nat}:∀{os:List MO} {m:Nat->Option MO} {k n:Nat},nm d (k+os.length)<=n->z02 m d k os n=m n
 | [],_,_,_,_=>rfl
 | o::os,m,k,n,h=>by
  simp only[af]at h
  simp only[z02]
  rw[yc5 (by unfold nm at h|-;omega),X1 _ _ (by unfold nm at h|-;omega)]
structure EnvOk (P:Program) (E:Env):Prop where
 ty:∀t ti,E.ty t=some ti->TIok P t ti
 eq:∀t n,E.eqt t n=true->EqOk P t n/\P.eqGuardType P.depth t=false
 call:∀f,z4i P f (fun as=>E.callK f as some)
 callM:∀f c,c∈E.callM f->zc9 P f c
 rounds:∀id c,E.rounds id=some c->SoundR P id c
 meth:∀t name f,E.meth t name=some f->∀(v:Value) (w:World),(method (P.types.size+Made.depth) t v name).run P w= .ok (f,v) w
section core
variable {P:Program} {E:Env} (hE:EnvOk P E) {w:World} {S:Nat->Prop} {γ:Nat->Loc} {m:Nat->Option MO} {base:Nat->Prop} (hm:MemRel w S γ m base)
 {ev:Operand->AV} {el:Operand->Value} (hev:∀x,RepA w S γ m (ev x) (el x)) {K:AV->Option MO->Option R} {r:R}
include hE hm hev in
theorem yoj{o:Oper}(h:X7 E o.dst o.op ev m K=some r):CoreOk w S γ m o.dst ((execOp el o).run P w) K r:=by
 cases ho:o.op with
 | move x=>rw[ho]at h;exact yii hev ho h
 | nilCheck x=>rw[ho]at h;exact y61 hev ho h
 | assign x=>rw[ho]at h;exact yar hev ho h
 | pick c a b=>rw[ho]at h;exact yih hev ho h
 | alloc t=>exact yeh hE.ty hm ho h
 | box t x=>exact yl3 hm hev ho h
 | build t ps=>exact yef hE.ty hev ho h
 | buildSlice t n ps=>exact y0d hE.ty hm hev ho h
 | load t x=>exact yij hE.ty hm hev ho h
 | binOp op t x y t'=>exact yeg hE.ty hev hE.eq ho h
 | unOp op t x=>exact yig hev ho h
 | convert q t x=>exact y89 hE.ty hm hev ho h
 | makeInterface t x=>exact zrk hE.ty hev ho h
 | makeFunc f a b=>exact y62 hev ho h
 | makeSlice t n c=>exact y1o hE.ty hev hm ho h
 | slice t x lo hi mx=>exact yec hE.ty hm hev ho h
 | fieldAddr s x f=>exact y1q hE.ty hev ho h
 | field s x f=>exact yee hE.ty hev ho h
 | indexAddr t x i=>exact y1p hE.ty hm hev ho h
 | index t x i=>exact yed hE.ty hev ho h
 | extract x i=>exact y88 hev ho h
 | call c=>
  obtain⟨callee,args,ts⟩:=c
  cases callee with
  | value f=>rw[ho]at h;simp[X7]at h
  | invoke x n=>rw[ho]at h;simp[X7]at h
  | builtin b=>
   cases b with
   | len=>exact yl2 hE.ty hev ho h
   | min=>exact yl0 hev ho h
   | max=>exact yl1 hev ho h
   | _=>rw[ho]at h;simp[X7]at h
 | _=>rw[ho]at h;simp[X7]at h
end core
section step
variable {ro:Option Nat} {P:Program} {E:Env} (hE:EnvOk P E) {X:Cx} {w:World} {S:Nat->Prop} {γ:Nat->Loc} {σ:St} {a:Act} (hrel:Rel X w S γ σ a)
include hrel in
theorem Rel.wrote{w':World}{γ':Nat->Loc}{m':Nat->Option MO}{ρ':Nat->AV}{a':Act}(hb:Bel X.B w w')(hdom:∀n,m' n≠none->σ.m n≠none\/n<4096)(hk:Keeps σ.m γ m' γ')(hm:MemRel w' S γ' m' X.B)(ht:∀t,RepA w' S γ' m' (ρ' t) (a'.tmps.getD t undef))(hd:a'.defers=a.defers)(hs:a'.tmps.size=a.tmps.size):
  Rel X w' S γ' ⟨ρ',m'⟩ a':=
 ⟨hm,ht,hrel.below.trans hb,hrel.base_le,hrel.s0,hrel.snew,by rw[hd];exact hrel.defers.mono hb.others (fun _ _ h=>h),
  zax hrel.pin hk (fun n l hl hn=>(hdom n hn).elim id fun h=>by have:=hrel.pnhi n l hl;omega),hrel.pnhi,by rw[hs];exact hrel.small⟩
include hE hrel in
theorem ygu{o:Oper}{f:FuncId}{as:List AV}{vals:List Value}{σ':St}(hd:zml a.tmps.size o.dst)(hr:RepAs w S γ σ.m as vals)(h:ziz E σ.m f as (zhm σ o.dst some)=some σ'):
  (∀w' (args:Array Value),(callFunc f args).run P w'= .ok (.enter f args) w')/\
  Calls P f vals.toArray w fun e w'=>∃v,e= .returned v/\∃S' γ',Rel X w' S' γ' σ' (a.put o.dst v):=by
 have fin:∀{S1:Nat->Prop} {bs:List AV} {r:AV},(∀b,S1 b->b<w.heap.size)->(∀b,S b->S1 b)->RepAs w S1 g0 m0 bs vals->E.callK f bs some=some r->(scal r=true\/S1=S)->zhm σ o.dst some r=some σ'->
   (∀w' (args:Array Value),(callFunc f args).run P w'= .ok (.enter f args) w')/\
   Calls P f vals.toArray w fun e w'=>∃v,e= .returned v/\∃S' γ',Rel X w' S' γ' σ' (a.put o.dst v):=by
  intro S1 bs r hlow hS1 hbs hc hsc hdone
  obtain⟨c1,c2⟩:=hE.call f w S1 bs vals r hlow hbs hc
  refine⟨c1,c2.mono fun e w'=> ?_⟩
  rintro⟨v,S',ls,rfl,hb,k1,k2,k3,k4⟩
  refine⟨v,rfl, ?_⟩
  obtain⟨S2,h1,h2,h3⟩:∃S2:Nat->Prop,(∀b,S b->S2 b)/\(∀b,S2 b->S b\/(w.heap.size<=b/\b<w'.heap.size))/\RepX w' S2 r v ls:=by
   rcases hsc with hsc | rfl
   ·exact⟨S,fun _ h=>h,fun _ h=> .inl h,ybg (S':=S) (fun b hb=>k1 b (hS1 b hb)) r v ls hsc k3⟩
   ·exact⟨S',k1,k2,k3⟩
  have hmem:=hrel.mem.grow hb
  have hmem2:MemRel w' S2 γ σ.m X.B:=by
   refine⟨fun n o ho=> ?_,fun b hb'=> ?_,hmem.apart,hmem.high⟩
   ·refine ObjRel.later (hrel.mem.obj n o ho) (fun b hb'=>hb.block b (hrel.mem.low b hb')) h1 (Keeps.refl _ _) rfl fun hl b hbk=> ?_
    have hlt:=ObjRel.lt (hrel.mem.obj n o ho) hl hbk
    exact⟨hb.block b hlt,fun hs=>(h2 b hs).elim (ObjRel.notS (hrel.mem.obj n o ho) hl hbk).1 fun hs=>by omega⟩
   ·rcases h2 b hb' with hs | hs
    ·exact bo (hrel.mem.low b hs) hb.size
    ·exact hs.2
  have htm:∀t,RepA w' S2 γ σ.m (σ.ρ t) (a.tmps.getD t undef):=fun t=>RepA.mono (fun b hb'=>hb.block b (hrel.mem.low b hb')) h1 (Keeps.refl _ _) _ _ (hrel.tm t)
  have hfree:Free X.B γ σ.m ls:=by
   refine⟨fun l hl b hbl=>⟨fun hB=>by have:=hrel.size_le b hB;have:¬b<w.heap.size:=k4.new l hl b hbl;omega,fun k q hq hlq hbq=> ?_⟩,k4.once⟩
   have:=ObjRel.lt (hrel.mem.obj k q hq) hlq hbq
   have:¬b<w.heap.size:=k4.new l hl b hbl
   omega
  have snew:∀b,S2 b->X.S0 b\/¬X.B b:=fun b hs=>by
   rcases h2 b hs with hs | hs
   ·exact hrel.snew b hs
   ·exact .inr fun hB=>by have:=hrel.size_le b hB;omega
  have hbel:=Below.bel hb hrel.size_le
  have hmarks:MarksOk X.N w' S2 a.defers:=hrel.defers.mono hbel.others fun D hD hs=>by
   rcases h2 D hs with hs | hs
   ·exact hs
   ·have:=(bh.1 hD).1;omega
  unfold zhm at hdone
  split at hdone
  ·rename_i d hdst
   obtain⟨hfr,hdone⟩:=W0 hdone
   simp only[ac,few,cQ]at hfr
   obtain⟨hfl,hfr⟩:=hfr
   cases hdone
   obtain⟨γ',t1,t2,_⟩:=ycj (d:=d) r v ls 0 γ σ.m hmem2 h3 hfree hfr
   refine⟨S2,γ',t1.mem, ?_,hrel.below.trans hbel,hrel.base_le,fun b h=>h1 b (hrel.s0 b h),snew,by rw[z78];exact hmarks,zax hrel.pin t1.keeps (fun n l hl hn=> ?_),hrel.pnhi,by rw[z8];exact hrel.small⟩
   rotate_left
   ·have:=hrel.pnhi n l hl
    have hdl:d<4096:=by have:=hrel.small;rw[hdst]at hd;exact bo hd this
    have hn:z02 σ.m d 0 (impV d 0 r).2 n≠none:=hn
    rwa [yc5 (d:=d) (k:=0) (n:=n) (os:=(impV d 0 r).2) (by unfold nm;omega)]at hn
   have:=zpo (a:=a) (ρ:=σ.ρ) (dst:=some d) (fun t=>RepA.mono (fun _ _=>rfl) (fun _ h=>h) t1.keeps _ _ (htm t)) t2 (by rw[hdst]at hd;exact hd)
   rw[hdst]
   exact this
  ·rename_i hdst
   obtain⟨_,hdone⟩:=W0 hdone
   cases hdone
   refine⟨S2,γ,hmem2, ?_,hrel.below.trans hbel,hrel.base_le,fun b h=>h1 b (hrel.s0 b h),snew,by rw[z78];exact hmarks,hrel.pin,hrel.pnhi,by rw[z8];exact hrel.small⟩
   rw[hdst];exact htm
 unfold ziz at h
 split at h
 ·rename_i bs hbs
  rw[E.callK_nat]at h
  cases hr':E.callK f bs some with
  | none=>rw[hr']at h;cases h
  | some r=>
   rw[hr']at h
   obtain⟨i1,_⟩:=zvb (S':=S) (zv7 hrel.mem (fun _ h=>h) (fun h=>by cases h) 8) as bs vals hbs hr
   exact fin hrel.mem.low (fun _ h=>h) i1 hr' (.inr rfl) h
 ·split at h
  ·rename_i bs hbs
   rw[E.callK_nat]at h
   cases hr':E.callK f bs some with
   | none=>rw[hr']at h;cases h
   | some r=>
    rw[hr']at h
    obtain⟨hsc,h⟩:=W0 h
    obtain⟨i1,_⟩:=zvb (S':=fun b=>b<w.heap.size) (zv7 hrel.mem hrel.mem.low (fun _ b h=>h) 8) as bs vals hbs hr
    exact fin (fun _ h=>h) hrel.mem.low i1 hr' (.inl hsc) h
  ·cases h
include hE hrel in
theorem yqn{o:Oper}{σ':St}(h:opB E o σ some=some σ')(hd:zml a.tmps.size o.dst){K:Act->World->Prop}{Q:Exit->Act->World->Prop}
  (hK:∀a' w' S' γ',Rel X w' S' γ' σ' a'->a'.tmps.size=a.tmps.size->K a' w'):o.wpIn (RF ro) 0 P a w K Q:=by
 have hev:∀x,RepA w S γ σ.m (σ.ev x) (a.eval x):=hrel.ev
 have hnd:∀c,o.op≠ .defer c:=fun c e=>by
  unfold opB at h
  rcases bif_some h with⟨h1,_⟩ | ⟨_,h⟩
  ·simp[preO,e]at h1
  ·rw[e]at h;simp[X7]at h
 unfold Oper.wpIn
 refine⟨fun _ _=>trivial, ?_⟩
 rw[Oper.semAt_eq _ _ _ hnd]
 unfold opB at h
 rcases bif_some h with⟨_,h⟩ | ⟨_,h⟩
 ·unfold preS at h
  split at h
  ·rename_i x args ts d ho hdst
   split at h
   ·rename_i f caps hx
    have hfv:=hev x
    rw[hx]at hfv
    split at h
    case h_2=>cases h
    rename_i l hl
    obtain⟨us,vs,hxv,hargs⟩:=zvl hfv hl (RepAs.map hev args.toList)
    obtain⟨c1,c2⟩:=y2k hrel hargs (dst:=some d) (d:=d) (by rw[hdst]at hd;exact hd) (by rw[hdst]at hd;exact bo hd hrel.small) (hE.callM f) h
    have hrun:(execOp a.eval o).run P w= .ok (.enter f (us++(args.toList.map a.eval++vs)).toArray) w:=by
     simp only[execOp,ho,resolve,hxv,Deferred.ofValue,Sem.run_bind,Sem.run_pure,Result.andThen_ok,invoke]
     have:(us.toArray++cO a.eval args++vs.toArray)=(us++(args.toList.map a.eval++vs)).toArray:=by
      apply bS;simp
     rw[this];exact c1 w _
    rw[hrun,Oper.uponIn_enter]
    refine⟨fun _=>by contradiction,(zho ro c2).mono fun e w'=> ?_⟩
    rintro⟨v,rfl,S',γ',hr,_⟩
    rw[hdst]
    exact hK _ _ S' γ' hr (z8 _ _ _)
   ·rename_i n hx
    have hfv:=hev x
    rw[hx]at hfv
    obtain⟨l,fn,tmps,as,bd,hxv,hy,hR⟩:=yq7 hE.rounds hrel (RepAs.map hev args.toList) (d:=d) (by rw[hdst]at hd;exact hd) hfv h
    have hrun:(execOp a.eval o).run P w= .ok (.round l fn tmps as bd) w:=by
     simp only[execOp,ho,resolve,hxv,Deferred.ofValue,Sem.run_bind,Sem.run_pure,Result.andThen_ok,invoke]
     have:(#[]++cO a.eval args)=(args.toList.map a.eval).toArray:=by
      apply bS;simp
     rw[this];exact hy
    rw[hrun,Oper.uponIn_round]
    refine⟨fun _=>by contradiction,(ydw ro hR).mono fun e w'=> ?_⟩
    rintro⟨v,rfl,S',γ',hr⟩
    rw[hdst]
    exact hK _ _ S' γ' hr (z8 _ _ _)
   ·cases h
  ·rename_i x name args ts d ho hdst
   split at h
   ·rename_i t v hx
    have hfv:=hev x
    rw[hx]at hfv
    obtain⟨u,hxv,hv⟩:=hfv
    split at h
    ·rename_i f hf
     have hargs:RepAs w S γ σ.m (v::args.toList.map σ.ev) (u::args.toList.map a.eval):=⟨u,_,rfl,hv,RepAs.map hev _⟩
     obtain⟨c1,c2⟩:=y2k hrel hargs (dst:=some d) (d:=d) (by rw[hdst]at hd;exact hd) (by rw[hdst]at hd;exact bo hd hrel.small) (hE.callM f) h
     have hm:=hE.meth t name f hf u w
     have hrun:(execOp a.eval o).run P w= .ok (.enter f (u::args.toList.map a.eval).toArray) w:=by
      simp only[execOp,ho,resolve,hxv,Sem.run_bind,Sem.run_pure,Result.andThen_ok,invoke]
      have h0:(#[Value.iface t u]++cO a.eval args)[0]? =some (.iface t u):=by
       rw[cV (by simp)];rfl
      have h1:(#[Value.iface t u]++cO a.eval args).extract 1 (#[Value.iface t u]++cO a.eval args).size=cO a.eval args:=by
       apply bS
       simp
       exact bF (by simp)
      rw[h0]
      simp only[h1,callMethod,Sem.run_bind,run_program,Result.andThen_ok,hm]
      have h2:(#[u]++cO a.eval args)=(u::args.toList.map a.eval).toArray:=by
       apply bS;simp
      rw[h2];exact c1 w _
     rw[hrun,Oper.uponIn_enter]
     refine⟨fun _=>by contradiction,(zho ro c2).mono fun e w'=> ?_⟩
     rintro⟨v,rfl,S',γ',hr,_⟩
     rw[hdst]
     exact hK _ _ S' γ' hr (z8 _ _ _)
    ·cases h
   ·cases h
  ·rename_i T x y d ho hdst
   obtain⟨v,m',k1,w',γ',nx,k2,k3,k0,k4,k5,k6,x,rfl,k7⟩:=yqm (P:=P) hE.ty hrel.mem hev ho h
   cases k1
   rw[k2,Oper.uponIn_value]
   rw[hdst]at hd|-
   refine hK _ _ S γ' (hrel.wrote k3 (fun n hn=>(k0 n hn).imp id fun e=>by have e:n=d:=e;subst e;exact bo hd hrel.small) k5 k4 (fun t=> ?_) (z78 _ _ _) (z8 _ _ _)) (z8 _ _ _)
   exact zpo (dst:=some d) (fun t=>RepA.mono k6 (fun _ h=>h) k5 _ _ (hrel.tm t)) k7 hd t
  ·cases h
 split at h
 ·
  rename_i t p x ho
  obtain⟨m',k1,w',γ',nx,k2,k3,k0,k4,k5,k6,k7⟩:=yjy (P:=P) hE.ty hrel.mem hev ho h
  simp only at k7
  subst k7
  cases k1
  rw[k2,Oper.uponIn_skip]
  refine hK _ _ S γ' (hrel.wrote k3 (fun n hn=>(k0 n hn).imp id False.elim) k5 k4 (fun t=> ?_) (z78 _ _ _) (z8 _ _ _)) (z8 _ _ _)
  exact zpo (fun t=>RepA.mono k6 (fun _ h=>h) k5 _ _ (hrel.tm t)) (v:= .undef) (x:=undef) trivial hd t
 ·
  rename_i args ts ho
  split at h
  ·rename_i d b1 b2 t1 t2 hdst ha ht
   have ha':args= #[b1,b2]:=by apply bS;simpa using ha
   have ht':ts= #[t1,t2]:=by apply bS;simpa using ht
   subst ha';subst ht'
   obtain⟨v,m',k1,w',γ',nx,k2,k3,k0,k4,k5,k6,x,rfl,k7⟩:=yr1 (P:=P) hE.ty hrel.mem hrel.size_le hev ho h
   cases k1
   rw[k2,Oper.uponIn_value]
   rw[hdst]at hd|-
   refine hK _ _ S γ' (hrel.wrote k3 (fun n hn=>(k0 n hn).imp id fun e=>by have e:n=d:=e;subst e;exact bo hd hrel.small) k5 k4 (fun t=> ?_) (z78 _ _ _) (z8 _ _ _)) (z8 _ _ _)
   exact zpo (dst:=some d) (fun t=>RepA.mono k6 (fun _ h=>h) k5 _ _ (hrel.tm t)) k7 hd t
  ·cases h
 ·
  rename_i args ts ho
  split at h
  ·rename_i b1 b2 t1 t2 ha ht
   have ha':args= #[b1,b2]:=by apply bS;simpa using ha
   have ht':ts= #[t1,t2]:=by apply bS;simpa using ht
   subst ha';subst ht'
   obtain⟨v,m',k1,w',γ',nx,k2,k3,k0,k4,k5,k6,x,rfl,k7⟩:=yok (P:=P) hE.ty hrel.mem hev ho h
   cases k1
   rw[k2,Oper.uponIn_value]
   refine hK _ _ S γ' (hrel.wrote k3 (fun n hn=>(k0 n hn).imp id False.elim) k5 k4 (fun t=> ?_) (z78 _ _ _) (z8 _ _ _)) (z8 _ _ _)
   exact zpo (fun t=>RepA.mono k6 (fun _ h=>h) k5 _ _ (hrel.tm t)) k7 hd t
  ·cases h
 ·
  rename_i x args ts ho
  split at h
  ·rename_i f caps hx
   have hfv:=hev x
   rw[hx]at hfv
   split at h
   case h_2=>cases h
   rename_i l hl
   obtain⟨us,vs,hxv,hargs⟩:=zvl hfv hl (RepAs.map hev args.toList)
   obtain⟨c1,c2⟩:=ygu hE hrel hd hargs h
   have hrun:(execOp a.eval o).run P w= .ok (.enter f (us++(args.toList.map a.eval++vs)).toArray) w:=by
    simp only[execOp,ho,resolve,hxv,Deferred.ofValue,Sem.run_bind,Sem.run_pure,Result.andThen_ok,invoke]
    have:(us.toArray++cO a.eval args++vs.toArray)=(us++(args.toList.map a.eval++vs)).toArray:=by
     apply bS;simp
    rw[this];exact c1 w _
   rw[hrun,Oper.uponIn_enter]
   refine⟨fun _=>by contradiction,(zho ro c2).mono fun e w'=> ?_⟩
   rintro⟨v,rfl,S',γ',hr⟩
   exact hK _ _ S' γ' hr (z8 _ _ _)
  ·cases h
 ·
  rename_i x name args ts ho
  split at h
  ·rename_i t v hx
   have hfv:=hev x
   rw[hx]at hfv
   obtain⟨u,hxv,hv⟩:=hfv
   split at h
   ·rename_i f hf
    have hargs:RepAs w S γ σ.m (v::args.toList.map σ.ev) (u::args.toList.map a.eval):=⟨u,_,rfl,hv,RepAs.map hev _⟩
    obtain⟨c1,c2⟩:=ygu hE hrel hd hargs h
    have hm:=hE.meth t name f hf u w
    have hrun:(execOp a.eval o).run P w= .ok (.enter f (u::args.toList.map a.eval).toArray) w:=by
     simp only[execOp,ho,resolve,hxv,Sem.run_bind,Sem.run_pure,Result.andThen_ok,invoke]
     have h0:(#[Value.iface t u]++cO a.eval args)[0]? =some (.iface t u):=by
      rw[cV (by simp)];rfl
     have h1:(#[Value.iface t u]++cO a.eval args).extract 1 (#[Value.iface t u]++cO a.eval args).size=cO a.eval args:=by
      apply bS
      simp
      exact bF (by simp)
     rw[h0]
     simp only[h1,callMethod,Sem.run_bind,run_program,Result.andThen_ok,hm]
     have h2:(#[u]++cO a.eval args)=(u::args.toList.map a.eval).toArray:=by
      apply bS;simp
     rw[h2];exact c1 w _
    rw[hrun,Oper.uponIn_enter]
    refine⟨fun _=>by contradiction,(zho ro c2).mono fun e w'=> ?_⟩
    rintro⟨v,rfl,S',γ',hr⟩
    exact hK _ _ S' γ' hr (z8 _ _ _)
   ·cases h
  ·cases h
 ·
  obtain⟨x,w',v,ob,k1,k2,k3,k4⟩:=yoj hE hrel.mem hev h
  rw[k1,Oper.uponIn_value]
  cases ob with
  | none=>
   simp only[aR.injEq]at k3
   subst k3
   exact hK _ _ S γ (hrel.val k2 k4 hd) (z8 _ _ _)
  | some ob=>
   obtain⟨d,l,hdst,hl,hnew,k4⟩:=k4
   simp only[hdst]at k3
   split at k3
   ·rename_i hmd
    simp only[aR.injEq]at k3
    subst k3
    obtain⟨k5,k6⟩:=k4 hmd
    rw[hdst]at hd|-
    exact hK _ _ S _ (hrel.new k2 hmd k5 hnew k6 hd) (z8 _ _ _)
   ·cases k3
include hE hrel in
theorem ypc{o:Oper}{σ':St}(h:opA E o σ some=some σ')(hd:zml a.tmps.size o.dst){K:Act->World->Prop}{Q:Exit->Act->World->Prop}
  (hK:∀a' w' S' γ',Rel X w' S' γ' σ' a'->a'.tmps.size=a.tmps.size->K a' w'):o.wpIn (RF ro) 0 P a w K Q:=by
 obtain⟨S1,h1⟩:=Rel.stillL (zhk E o) (ρ:=σ.ρ) (m:=σ.m) hrel
 obtain⟨σ1,k1,rfl⟩:=ybx h
 refine yqn hE h1 k1 hd fun a' w' S' γ' g1 g2=> ?_
 obtain⟨S2,h2⟩:=Rel.stillL (zbb E o) (ρ:=σ1.ρ) (m:=σ1.m) g1
 exact hK a' w' S2 γ' h2 g2
end step
variable {R:Type}
def z4f(E:Env)(o:Oper)(ev:Operand->AV)(m:Nat->Option MO):Option (AV×List MO):=
 match o.op with
 | .call ⟨.value f,args,_⟩=>match ev f with
  | .clo f caps=>match cloArgs caps (args.toList.map ev)with | some l=>ziz E m f l fun r=>some (impV (o.dst.getD 0) 0 r) | none=>none
  | _=>none
 | .call ⟨.invoke x name,args,_⟩=>match ev x with
  | .iface t v=>match E.meth t name with
   | some f=>ziz E m f (v::args.toList.map ev) fun r=>some (impV (o.dst.getD 0) 0 r)
   | none=>none
  | _=>none
 | op=>X7 E o.dst op ev m fun v ob=>some (v,ob.toList)
def yqf:MO->MO
 | .box cs .live=> .box cs .still
 | .sl t xs .live=> .sl t xs .still
 | o=>o
def zsb(E:Env)(o:Oper)(os:List MO):List MO:=match zbb E o with | []=>os | _=>os.map yqf
def J2(E:Env)(o:Oper)(ev:Operand->AV)(m:Nat->Option MO):Option (AV×List MO):=(z4f E o ev m).map fun p=>(p.1,zsb E o p.2)
def extA(σ:St)(dst:Option Nat)(p:AV×List MO):Option St:=
 match dst with
 | some d=>gd (few p.2&&z43 σ.m d 0 p.2) (some ⟨upd σ.ρ d p.1,z02 σ.m d 0 p.2⟩)
 | none=>gd p.2.isEmpty (some σ)
theorem few0:few []=true:=rfl
theorem few1(o:MO):few [o]=true:=rfl
theorem zpr(d:Nat):nm d 0=d:=rfl
theorem yhy(E:Env)(o:Oper)(σ:St)(hp:z0o E o=true):opB E o σ some=(z4f E o σ.ev σ.m).bind (extA σ o.dst):=by
 have hpre:preO E o=false:=by
  unfold z0o at hp
  simp only[ac,aw]at hp
  exact hp.1
 have hp:(match o.op with | .store .. =>false | .call ⟨.builtin .append,_,_⟩=>false | .call ⟨.builtin .copy,_,_⟩=>false | _=>true)=true:=by
  unfold z0o at hp
  simp only[ac]at hp
  exact hp.2.2.2
 unfold opB z4f
 rw[hpre,cond_false]
 split
 ·rename_i ho;rw[ho]at hp;cases hp
 ·rename_i ho;rw[ho]at hp;cases hp
 ·rename_i ho;rw[ho]at hp;cases hp
 ·rename_i f args ts ho
  simp only[ho]
  cases hf:σ.ev f with
  | clo f caps=>
   simp only
   cases cloArgs caps (args.toList.map σ.ev)with
   | none=>rfl
   | some l=>
   simp only
   rw[zbm (K:=zhm σ o.dst some),zbm (K:=fun r=>some (impV (o.dst.getD 0) 0 r)),bA]
   congr 1
   funext r
   unfold zhm extA
   cases o.dst<;>rfl
  | _=>rfl
 ·rename_i x name args ts ho
  simp only[ho]
  cases hf:σ.ev x with
  | iface t v=>
   simp only
   cases E.meth t name with
   | none=>rfl
   | some f=>
    simp only
    rw[zbm (K:=zhm σ o.dst some),zbm (K:=fun r=>some (impV (o.dst.getD 0) 0 r)),bA]
    congr 1
    funext r
    unfold zhm extA
    cases o.dst<;>rfl
  | _=>rfl
 ·rename_i n1 n2 nc n3 n4
  have e:(match o.op with
   | .call ⟨.value f,args,_⟩=>match σ.ev f with
    | .clo f caps=>match cloArgs caps (args.toList.map σ.ev)with | some l=>ziz E σ.m f l fun r=>some (impV (o.dst.getD 0) 0 r) | none=>none
    | _=>none
   | .call ⟨.invoke x name,args,_⟩=>match σ.ev x with
    | .iface t v=>match E.meth t name with
     | some f=>ziz E σ.m f (v::args.toList.map σ.ev) fun r=>some (impV (o.dst.getD 0) 0 r)
     | none=>none
    | _=>none
   | op=>X7 E o.dst op σ.ev σ.m fun v ob=>some (v,ob.toList))=X7 E o.dst o.op σ.ev σ.m fun v ob=>some (v,ob.toList):=by
   split
   ·rename_i f args ts ho;exact absurd ho (n3 f args ts)
   ·rename_i x name args ts ho;exact absurd ho (n4 x name args ts)
   ·rfl
  refine Eq.trans ?_ (congrArg (fun z=>fp z (extA σ o.dst)) e).symm
  refine(zkd E _ _ _ _ _).trans (Eq.trans ?_ (congrArg (fun z=>fp z (extA σ o.dst)) (zkd E _ _ _ _ _)).symm)
  rw[bA]
  congr 1
  funext p
  obtain⟨v,ob⟩:=p
  cases ob with
  | none=>cases hd:o.dst<;>simp[extA,eS,z43,z02,gd,St.put,putO,few0]
  | some ob=>
   cases hd:o.dst with
   | none=>simp[extA,eS,gd]
   | some d=>
    cases hm:σ.m d<;>simp[extA,eS,z43,z02,gd,zpr,hm,few1]
theorem yl7{E:Env}{d:Nat}{op:Op}(hb:yfb E op=true){ev:Operand->AV}{m:Nat->Option MO}{q:AV×List MO}(h:X7 E (some d) op ev m (fun v ob=>some (v,ob.toList))=some q):∃t xs,q=(.own d,[.sl t xs .live]):=by
 cases op<;>simp only[yfb]at hb<;>first | (cases hb;done) | skip
 ·rename_i t n ps
  simp only[X7]at h
  cases he:elemTy E t with
  | none=>rw[he]at h;cases h
  | some p=>
   obtain⟨e,ei,ty⟩:=p
   rw[he]at h
   simp only at h
   obtain⟨_,h⟩:=W0 h
   split at h
   ·cases h
    exact⟨_,_,rfl⟩
   ·cases h
 ·rename_i q0 t x
  split at hb
  ·rename_i ti hti
   split at hb
   ·rename_i el hd
    simp only[X7,hti]at h
    cases hq:E.ty q0 with
    | none=>rw[hq]at h;cases h
    | some _=>
     rw[hq]at h
     simp only[hd]at h
     cases hv:ev x<;>rw[hv]at h<;>first | (cases h;done) | skip
     cases he:elemTy E t with
     | none=>rw[he]at h;cases h
     | some p=>
      obtain⟨e,ei,ty⟩:=p
      rw[he]at h
      simp only at h
      split at h
      ·rename_i e1 e2
       cases e2
       obtain⟨_,h⟩:=W0 h
       cases h
       exact⟨_,_,rfl⟩
      ·cases h
   ·cases hb
  ·cases hb
theorem zxr(E:Env)(o:Oper)(σ:St)(hp:z0o E o=true):opA E o σ some=(J2 E o σ.ev σ.m).bind (extA σ o.dst):=by
 have hstill:zhk E o=[]:=by
  unfold z0o at hp
  simp only[ac,cP]at hp
  exact hp.2.1
 have hb:yfc E o=true:=by
  unfold z0o at hp
  simp only[ac]at hp
  exact hp.2.2.1
 have hA:opA E o σ some=((z4f E o σ.ev σ.m).bind (extA σ o.dst)).bind fun σ'=>some ⟨σ'.ρ,stillL σ'.m (zbb E o)⟩:=by
  unfold opA
  rw[hstill,y2f]
  show(opB E o σ some).bind _=_
  rw[yhy E o σ hp]
 rw[hA]
 unfold J2
 cases hq:z4f E o σ.ev σ.m with
 | none=>rfl
 | some q=>
  simp only[ab,aT]
  unfold yfc at hb
  simp only[ay,cP]at hb
  rcases hb with hb | hb
  ·have e:zsb E o q.2=q.2:=by unfold zsb;rw[hb]
   rw[e,hb]
   show(extA σ o.dst (q.1,q.2)).bind (fun σ'=>some σ')=extA σ o.dst (q.1,q.2)
   cases extA σ o.dst (q.1,q.2)<;>rfl
  ·simp only[ac]at hb
   obtain⟨hop,hb⟩:=hb
   unfold zvn at hb
   split at hb
   ·rename_i d n' hd hb'
    have hn:=ah hb
    subst hn
    have hq':X7 E o.dst o.op σ.ev σ.m (fun v ob=>some (v,ob.toList))=some q:=by
     unfold z4f at hq
     split at hq
     ·rename_i h';rw[h']at hop;cases hop
     ·rename_i h';rw[h']at hop;cases hop
     ·exact hq
    rw[hd]at hq'
    obtain⟨ty,xs,rfl⟩:=yl7 hop hq'
    have e:zsb E o [MO.sl ty xs .live]=[MO.sl ty xs .still]:=by unfold zsb;rw[hb'];rfl
    rw[e,hb',hd]
    simp only[extA,z43,few1,bv,bV,z02,zpr]
    cases hm:σ.m n' with
    | some _=>rfl
    | none=>
     simp only[gd,cond_true,ab,stillL,aR.injEq,St.mk.injEq,true_and]
     have:stillO (mupd σ.m n' (.sl ty xs .live)) n'=mupd (mupd σ.m n' (.sl ty xs .live)) n' (.sl ty xs .still):=by
      unfold stillO;rw[W6]
     rw[this]
     funext k
     simp only[mupd]
     cases aC k n'<;>rfl
   ·cases hb
def resG(E:Env)(all:Array Oper)(o:Oper)(σ:St):Option (AV×List MO):=
 match o.guard with
 | none=>J2 E o σ.ev σ.m
 | some (j,want)=>
  match(all[j]?).bind (·.dst)with
  | none=>none
  | some t=>
   match σ.ρ t with
   | .bool b=>if b=want then J2 E o σ.ev σ.m else some (.tup [],[])
   | .tup []=>some (.tup [],[])
   | _=>none
theorem z6d(E:Env)(all:Array Oper)(o:Oper)(σ:St)(hp:z0o E o=true):stepG E all o σ=(resG E all o σ).bind (extA σ o.dst):=by
 unfold stepG resG
 cases hg:o.guard with
 | none=>exact zxr E o σ hp
 | some g=>
  obtain⟨j,want⟩:=g
  simp only
  cases ht:(all[j]?).bind (·.dst)with
  | none=>rfl
  | some t=>
   simp only
   cases hv:σ.ρ t with
   | bool b=>
    simp only
    by_cases hb:b=want
    ·rw[if_pos hb,if_pos hb];exact zxr E o σ hp
    ·rw[if_neg hb,if_neg hb]
     simp only[ab,extA,St.put,putO]
     cases o.dst<;>rfl
   | tup l=>
    cases l with
    | nil=>
     simp only[ab,extA,St.put,putO]
     cases o.dst<;>rfl
    | cons _ _=>rfl
   | _=>rfl
theorem zdr{f g:Operand->AV}{l:List Operand}(h:∀x,x∈l->f x=g x):l.map f=l.map g:=dL h
theorem y6s{f g:Operand->AV}{x:Option Operand}(h:∀y,y∈x.toArray->f y=g y):x.map f=x.map g:=by
 cases x with
 | none=>rfl
 | some y=>simp[h y (by simp)]
theorem zyk{f g:Operand->AV}{ps:Array (Nat×Operand)}(h:∀y,y∈ps.toList.map (·.2)->f y=g y):(ps.toList.map fun p=>(p.1,f p.2))=ps.toList.map fun p=>(p.1,g p.2):=by
 refine dL fun p hp=> ?_
 rw[h p.2 (aH.2 ⟨p,hp,rfl⟩)]
theorem yas(E:Env)(dst:Option Nat)(op:Op)(ev ev':Operand->AV)(m:Nat->Option MO)(K:AV->Option MO->Option R)(h:∀x,x∈op.operands->ev x=ev' x):X7 E dst op ev m K=X7 E dst op ev' m K:=by
 cases op<;>simp only[Op.operands]at h<;>try rfl
 case move x=>simp only[X7,h x (by simp)]
 case nilCheck x=>simp only[X7,h x (by simp)]
 case assign x=>simp only[X7,h x (by simp)]
 case pick c a b=>simp only[X7,h c (by simp),h a (by simp),h b (by simp)]
 case box t x=>simp only[X7,h x (by simp)]
 case build t ps=>
  have:=zyk (ps:=ps) (f:=ev) (g:=ev') fun y hy=>h y (by simpa using hy)
  simp only[X7,this]
 case buildSlice t n ps=>
  have:=zyk (ps:=ps) (f:=ev) (g:=ev') fun y hy=>h y (by simpa using hy)
  simp only[X7,this]
 case load t a=>simp only[X7,h a (by simp)]
 case binOp op t x y t'=>simp only[X7,h x (by simp),h y (by simp)]
 case unOp op t x=>cases op<;>simp only[X7,h x (by simp)]
 case convert q t x=>simp only[X7,h x (by simp)]
 case makeInterface t x=>simp only[X7,h x (by simp)]
 case makeFunc f first caps=>
  have:caps.toList.map ev=caps.toList.map ev':=zdr fun y hy=>h y (by simp;exact .inr (by simpa using hy))
  have this2:first.toList.map ev=first.toList.map ev':=zdr fun y hy=>h y (by simp;exact .inl (by simpa using hy))
  cases f<;>simp only[X7,this,this2]
 case makeSlice t n c=>simp only[X7,h n (by simp),h c (by simp)]
 case slice t x lo hi mx=>
  have h1:lo.map ev=lo.map ev':=y6s fun y hy=>h y (by simp at hy|-;simp[hy])
  have h2:hi.map ev=hi.map ev':=y6s fun y hy=>h y (by simp at hy|-;simp[hy])
  cases mx with
  | none=>simp only[X7,h x (by simp),h1,h2]
  | some z=>simp only[X7,h x (by simp),h1,h2,h z (by simp)]
 case fieldAddr s x f=>simp only[X7,h x (by simp)]
 case field s x f=>simp only[X7,h x (by simp)]
 case indexAddr t x i=>simp only[X7,h x (by simp),h i (by simp)]
 case index t x i=>simp only[X7,h x (by simp),h i (by simp)]
 case extract x i=>simp only[X7,h x (by simp)]
 case call c=>
  obtain⟨callee,args,ts⟩:=c
  have hargs:args.toList.map ev=args.toList.map ev':=zdr fun y hy=>h y (by cases callee<;>simp[Call.operands]<;>simp at hy<;>simp[hy])
  cases callee with
  | value f=>rfl
  | invoke x n=>rfl
  | builtin b=>
   cases b<;>try rfl
   case len=>
    have hx:∀x,args.toList=[x]->ev x=ev' x:=fun x hx=>h x (by simp[Call.operands];rw[<-Array.mem_toList_iff,hx];simp)
    simp only[X7]
    split
    ·rename_i x t ha ht;rw[hx x ha]
    ·rfl
   case min=>simp only[X7,hargs]
   case max=>simp only[X7,hargs]
theorem z6q(E:Env)(o:Oper)(ev ev':Operand->AV)(m:Nat->Option MO)(h:∀x,x∈o.op.operands->ev x=ev' x):J2 E o ev m=J2 E o ev' m:=by
 unfold J2
 congr 1
 unfold z4f
 split
 ·rename_i f args ts ho
  rw[ho]at h
  have hargs:args.toList.map ev=args.toList.map ev':=zdr fun y hy=>h y (by simp[Op.operands,Call.operands];simp at hy;simp[hy])
  rw[h f (by simp[Op.operands,Call.operands]),hargs]
 ·rename_i x name args ts ho
  rw[ho]at h
  have hargs:args.toList.map ev=args.toList.map ev':=zdr fun y hy=>h y (by simp[Op.operands,Call.operands];simp at hy;simp[hy])
  rw[h x (by simp[Op.operands,Call.operands]),hargs]
 ·exact yas E _ _ _ _ _ _ h
def Ext(m m':Nat->Option MO):Prop:=∀n,m n≠none->m' n=m n
section mem
variable {w:World} {S:Nat->Prop} {γ:Nat->Loc} {m m':Nat->Option MO} {base:Nat->Prop} (hm:MemRel w S γ m base) (hx:Ext m m')
include hx in
theorem zx6{n:Nat}{x:Value}(h:RepA w S γ m (.own n) x):m' n=m n:=by
 obtain⟨t,xs,s,h1,_⟩:=h
 exact hx n (by rw[h1];simp)
include hx in
theorem yg2{n off:Nat}{x:Value}(h:RepA w S γ m (.ptr n off) x):m' n=m n:=by
 obtain⟨cs,s,b,h1,_⟩:=h
 exact hx n (by rw[h1];simp)
include hx in
theorem ynz{n i off:Nat}{x:Value}(h:RepA w S γ m (.oel n i off) x):m' n=m n:=by
 obtain⟨t,xs,s,b,h1,_⟩:=h
 exact hx n (by rw[h1];simp)
include hx in
theorem y35{t:Ty}{v:AV}{x:Value}(h:RepA w S γ m v x):z2k m' t v=z2k m t v:=by
 cases v<;>simp only[z2k]
 rw[zx6 hx h]
include hx in
theorem yac{t:Ty}{v:AV}{x:Value}(h:RepA w S γ m v x):z8t m' t v=z8t m t v:=by
 cases v<;>simp only[z8t]
 rw[zx6 hx h]
include hx in
theorem ykp{v:AV}{x:Value}(h:RepA w S γ m v x):lenA m' v=lenA m v:=by
 cases v<;>simp only[lenA]
 rw[zx6 hx h]
include hx in
theorem y4g:∀(t:Ty) (cs:List AV) (vs:List Value),RepAs w S γ m cs vs->decP m' t cs=decP m t cs/\∀x r,decP m t cs=some (x,r)->∃us,RepAs w S γ m r us
 | .int k,[],vs,h=>⟨rfl,fun x r e=>by simp[decP]at e⟩
 | .int k,v::r,vs,h=>by
  obtain⟨u,us,rfl,h1,h2⟩:=h
  cases v<;>refine⟨rfl,fun x r e=> ?_⟩<;>simp only[decP]at e<;>try (cases e;done)
  split at e
  ·cases e;exact⟨us,h2⟩
  ·cases e
 | .bool,[],vs,h=>⟨rfl,fun x r e=>by simp[decP]at e⟩
 | .bool,v::r,vs,h=>by
  obtain⟨u,us,rfl,h1,h2⟩:=h
  cases v<;>refine⟨rfl,fun x r e=> ?_⟩<;>simp only[decP]at e<;>try (cases e;done)
  cases e;exact⟨us,h2⟩
 | .str,[],vs,h=>⟨rfl,fun x r e=>by simp[decP]at e⟩
 | .str,v::r,vs,h=>by
  obtain⟨u,us,rfl,h1,h2⟩:=h
  cases v<;>refine⟨rfl,fun x r e=> ?_⟩<;>simp only[decP]at e<;>try (cases e;done)
  cases e;exact⟨us,h2⟩
 | .unit,cs,vs,h=>⟨rfl,fun x r e=>by simp only[decP]at e;cases e;exact⟨vs,h⟩⟩
 | .pair a b,cs,vs,h=>by
  obtain⟨e1,f1⟩:=y4g a cs vs h
  simp only[decP]
  rw[e1]
  cases hq:decP m a cs with
  | none=>exact⟨rfl,fun x r e=>by cases e⟩
  | some p=>
   obtain⟨x1,r1⟩:=p
   obtain⟨us,hus⟩:=f1 x1 r1 hq
   obtain⟨e2,f2⟩:=y4g b r1 us hus
   simp only
   rw[e2]
   refine⟨rfl,fun x r e=> ?_⟩
   split at e
   ·rename_i y r' hy;cases e;exact f2 _ _ hy
   ·cases e
 | .list t,[],vs,h=>⟨rfl,fun x r e=>by simp[decP]at e⟩
 | .list t,v::r,vs,h=>by
  obtain⟨u,us,rfl,h1,h2⟩:=h
  simp only[decP]
  rw[y35 hx h1]
  refine⟨rfl,fun x r e=> ?_⟩
  split at e
  ·cases e;exact⟨us,h2⟩
  ·cases e
include hx in
theorem ygr{t:Ty}{cs:List AV}{vs:List Value}(h:RepAs w S γ m cs vs):dec m' t cs=dec m t cs:=by
 unfold dec
 rw[(y4g hx t cs vs h).1]
include hx in
theorem y7f{ev:Operand->AV}{el:Operand->Value}(hev:∀x,RepA w S γ m (ev x) (el x)){t:Ty}:∀(ps:List (Nat×Operand)) (acc:List t.T),zsa m' t (ps.map fun p=>(p.1,ev p.2)) acc=zsa m t (ps.map fun p=>(p.1,ev p.2)) acc
 | [],acc=>rfl
 | (i,x)::ps,acc=>by
  have hd:dec m' t (ev x).cells=dec m t (ev x).cells:=by
   have hr:=hev x
   cases hv:ev x with
   | agg cs=>
    rw[hv]at hr
    obtain⟨vs,_,h2,_⟩:=hr
    exact ygr hx h2
   | _=>
    rw[hv]at hr
    exact ygr hx (cs:=[_]) (vs:=[el x]) ⟨_,[],rfl,hr,rfl⟩
  simp only[ax,zsa,hd]
  cases dec m t (ev x).cells with
  | none=>rfl
  | some y=>simp only;cases cE i acc.length<;>simp[y7f hev ps]
theorem zvc{f g:AV->Option AV}(h:∀v x,RepA w S γ m v x->f v=g v):∀(vs:List AV) (xs:List Value),RepAs w S γ m vs xs->mapO f vs=mapO g vs
 | [],_,_=>rfl
 | v::vs,xs,hr=>by
  obtain⟨u,us,rfl,h1,h2⟩:=hr
  simp only[mapO,h v u h1,zvc h vs us h2]
include hm hx in
theorem zv8{lv:Bool}:∀(k:Nat) (v:AV) (x:Value),RepA w S γ m v x->seeV lv m' k v=seeV lv m k v
 | 0,_,_,_=>rfl
 | k+1,v,x,hr=>by
  have ih:=zvc (zv8 (lv:=lv) k)
  cases v<;>simp only[seeV]
  case own n=>rw[zx6 hx hr]
  case ptr n off=>
   rw[yg2 hx hr]
   obtain⟨cs0,s0,b,k1,k2,k3⟩:=hr
   rw[k1]
   obtain⟨b',vs,el',h1,h2,h3,_⟩:=hm.obj n _ k1
   cases s0<;>simp only[ih cs0 vs h3]
  case bx cs off=>
   obtain⟨b,vs,h1,h2,h3,_⟩:=hr
   rw[ih cs vs h3]
  case clo f caps=>
   obtain⟨vs,h1,h2⟩:=hr
   rw[ih caps vs h2]
  case iface t y=>
   obtain⟨u,h1,h2⟩:=hr
   rw[zv8 k y u h2]
  case agg cs=>
   obtain⟨vs,h1,h2,_⟩:=hr
   rw[ih cs vs h2]
  case tup cs=>
   obtain⟨vs,h1,h2⟩:=hr
   rw[ih cs vs h2]
include hm hx in
theorem y7m(E:Env){f:FuncId}{as:List AV}{xs:List Value}(h:RepAs w S γ m as xs)(K:AV->Option R):ziz E m' f as K=ziz E m f as K:=by
 unfold ziz
 rw[zvc (zv8 hm hx (lv:=false) 8) as xs h,zvc (zv8 hm hx (lv:=true) 8) as xs h]
include hx in
theorem yik(E:Env){dst:Option Nat}{op:Op}{ev:Operand->AV}{el:Operand->Value}(hev:∀x,RepA w S γ m (ev x) (el x))(K:AV->Option MO->Option R):X7 E dst op ev m' K=X7 E dst op ev m K:=by
 cases op<;>try rfl
 case load t a=>
  simp only[X7]
  have h:=hev a
  cases hv:ev a<;>rw[hv]at h<;>simp only
  ·rw[yg2 hx h]
  ·rw[ynz hx h]
 case unOp op t x=>cases op<;>rfl
 case makeFunc f a b=>cases f<;>rfl
 case convert q t x=>
  simp only[X7]
  have h:=hev x
  cases E.ty q with
  | none=>rfl
  | some qi=>
   cases E.ty t with
   | none=>rfl
   | some ti=>
    simp only
    have e:=fun t=>yac (t:=t) hx h
    cases ti.d<;>cases hv:ev x<;>rw[hv]at e<;>first | rfl | (simp only;rw[e])
 case slice t x lo hi mx=>
  simp only[X7]
  have h:=hev x
  have e:=fun t=>y35 (t:=t) hx h
  cases E.ty t with
  | none=>rfl
  | some ti=>
   simp only
   cases ti.d<;>cases hv:ev x<;>rw[hv]at e<;>first | rfl | (simp only[e])
 case indexAddr t x i=>
  simp only[X7]
  have h:=hev x
  cases hv:ev x<;>rw[hv]at h<;>simp only
  rw[zx6 hx h]
 case buildSlice t n ps=>
  simp only[X7]
  simp only[y7f hx hev]
 case call c=>
  obtain⟨callee,args,ts⟩:=c
  cases callee with
  | value f=>rfl
  | invoke x n=>rfl
  | builtin b=>
   cases b<;>try rfl
   simp only[X7]
   split
   ·rename_i x t _ _
    have h:=hev x
    have e:=ykp hx h
    cases E.ty t with
    | none=>rfl
    | some ti=>
     simp only
     cases ti.d<;>cases hv:ev x<;>rw[hv]at e<;>first | rfl | (simp only[e])
   ·rfl
include hm hx in
theorem ydy(E:Env){o:Oper}{ev:Operand->AV}{el:Operand->Value}(hev:∀x,RepA w S γ m (ev x) (el x)):J2 E o ev m'=J2 E o ev m:=by
 unfold J2
 congr 1
 unfold z4f
 split
 ·rename_i f args ts ho
  have h:=hev f
  cases hv:ev f<;>rw[hv]at h<;>simp only
  rename_i f' caps'
  cases hl:cloArgs caps' (args.toList.map ev)with
  | none=>rfl
  | some l=>
   obtain⟨us,vs,_,h2⟩:=zvl h hl (RepAs.map hev args.toList)
   exact y7m hm hx E h2 _
 ·rename_i x name args ts ho
  have h:=hev x
  cases hv:ev x<;>rw[hv]at h<;>simp only
  obtain⟨u,_,h2⟩:=h
  split
  ·exact y7m hm hx E (as:=_::_) ⟨u,_,rfl,h2,RepAs.map hev _⟩ _
  ·rfl
 ·exact yik hx E hev _
end mem
theorem z91{all:Array Oper}{o:Oper}{t:Tmp}(h:t∉o.looksAt all):(∀x,x∈o.op.operands->x≠ .tmp t)/\∀j want,o.guard=some (j,want)->(all[j]?).bind (·.dst)≠some t:=by
 constructor
 ·intro x hx e
  subst e
  apply h
  unfold Oper.looksAt
  simp only[ak]
  left
  exact List.mem_filterMap.2 ⟨.tmp t,by simpa using hx,rfl⟩
 ·intro j want hg e
  apply h
  unfold Oper.looksAt
  simp only[ak,hg]
  right
  rw[e];simp
theorem zai{σ:St}{d:Nat}{v:AV}{m:Nat->Option MO}{x:Operand}(h:x≠ .tmp d):(⟨upd σ.ρ d v,m⟩:St).ev x=σ.ev x:=by
 cases x with
 | tmp t=>
  have:t≠d:=fun e=>h (by rw[e])
  exact zcn _ _ this
 | _=>rfl
def Good(σ:St):Prop:=∃X w S γ a,Rel X w S γ σ a
theorem zka(d:Nat):∀(os:List MO) (m:Nat->Option MO) (k n:Nat),z02 m d k os n=(match os[(n-nm d k)/4096]? with | some o=>if n=nm d (k+(n-nm d k)/4096)then some o else m n | none=>m n)
 | [],m,k,n=>by simp[z02]
 | o::os,m,k,n=>by
  simp only[z02]
  rw[zka d os _ (k+1) n]
  by_cases h0:n=nm d k
  ·subst h0
   have e1:(nm d k-nm d (k+1))/4096=0:=by unfold nm;omega
   have e2:nm d k≠nm d (k+1+0):=by unfold nm;omega
   rw[e1]
   simp only[Nat.sub_self,Nat.zero_div,bG,cx,if_true,W6]
   cases os[0]? with
   | none=>rfl
   | some q=>simp only;rw[if_neg (by unfold nm;omega)]
  ·rw[X1 _ _ h0]
   by_cases h1:∃i,n=nm d (k+1+i)
   ·obtain⟨i,hi⟩:=h1
    have e1:(n-nm d (k+1))/4096=i:=by rw[hi];unfold nm;omega
    have e2:(n-nm d k)/4096=i+1:=by rw[hi];unfold nm;omega
    rw[e1,e2]
    simp only[cy]
    have e3:k+1+i=k+(i+1):=by omega
    rw[e3]
   ·have a1:n≠nm d (k+1+(n-nm d (k+1))/4096):=fun e=>h1 ⟨_,e⟩
    have a2:n≠nm d (k+(n-nm d k)/4096):=by
     intro e
     by_cases hz:(n-nm d k)/4096=0
     ·rw[hz]at e;exact h0 e
     ·exact h1 ⟨(n-nm d k)/4096-1,by rw[e];congr 1;rw[<-e];omega⟩
    simp only[a1,a2,if_false]
    generalize os[(n-nm d (k+1))/4096]? =q1
    generalize(o::os)[(n-nm d k)/4096]? =q2
    cases q1<;>cases q2<;>rfl
theorem ypd{d d' k k':Nat}(h:d<4096)(h':d'<4096)(hne:d≠d'):nm d k≠nm d' k':=by unfold nm;omega
theorem ye2{m:Nat->Option MO}{d d':Nat}{os os':List MO}(h:d<4096)(h':d'<4096)(hne:d≠d'):z02 (z02 m d 0 os) d' 0 os'=z02 (z02 m d' 0 os') d 0 os:=by
 funext n
 rw[zka,zka,zka,zka]
 by_cases h1:n=nm d (0+(n-nm d 0)/4096)
 ·have h2:¬n=nm d' (0+(n-nm d' 0)/4096):=fun e=>ypd h h' hne (h1.symm.trans e)
  simp only[if_neg h2]
  generalize os[(n-nm d 0)/4096]? =q1
  generalize os'[(n-nm d' 0)/4096]? =q2
  cases q1<;>cases q2<;>rfl
 ·simp only[if_neg h1]
  generalize os[(n-nm d 0)/4096]? =q1
  generalize os'[(n-nm d' 0)/4096]? =q2
  cases q1<;>cases q2<;>rfl
theorem zy3{m:Nat->Option MO}{d:Nat}:∀{os:List MO} {k:Nat},z43 m d k os=true->Ext m (z02 m d k os)
 | [],_,_=>fun _ _=>rfl
 | o::os,k,h=>by
  simp only[z43,ac]at h
  have hfree:m (nm d k)=none:=by
   have:=h.1
   split at this
   ·assumption
   ·cases this
  have h2:z43 (mupd m (nm d k) o) d (k+1) os=true:=ziu d os m _ (k+1) (fun i hi=>X1 _ _ (fun e=>by have:=ym4 e;omega)) h.2
  intro n hn
  simp only[z02]
  have hne:n≠nm d k:=fun e=>hn (e▸hfree)
  rw[zy3 h2 n (by rw[X1 _ _ hne];exact hn),X1 _ _ hne]
theorem Ext.trans_free{m m':Nat->Option MO}(h:Ext m m'){d:Nat}:∀{os:List MO} {k:Nat},z43 m' d k os=true->z43 m d k os=true
 | [],_,_=>rfl
 | o::os,k,hf=>by
  simp only[z43,ac]at hf|-
  refine⟨?_,Ext.trans_free h hf.2⟩
  cases hq:m (nm d k)with
  | none=>rfl
  | some q=>have:=h (nm d k) (by rw[hq];simp);rw[this,hq]at hf;exact absurd hf.1 (by simp)
theorem ye8{m:Nat->Option MO}{d d':Nat}{os:List MO}(h:d<4096)(h':d'<4096)(hne:d≠d'):∀{os':List MO} {k:Nat},z43 m d' k os'=true->z43 (z02 m d 0 os) d' k os'=true:=by
 intro os' k hf
 exact ziu d' os' m _ k (fun i _=>zyn d os m 0 _ (fun i' _=>ypd h' h (Ne.symm hne))) hf
theorem zxj{E:Env}{all:Array Oper}{o:Oper}{σ:St}(hg:Good σ){d:Option Nat}{p:AV×List MO}{σ':St}(hl:∀t,d=some t->t∉o.looksAt all)(he:extA σ d p=some σ'):resG E all o σ'=resG E all o σ:=by
 obtain⟨X,w,S,γ,a,hrel⟩:=hg
 cases d with
 | none=>
  obtain⟨_,he⟩:=W0 he
  cases he;rfl
 | some t=>
  obtain⟨hf,he⟩:=W0 he
  simp only[ac]at hf
  obtain⟨_,hf⟩:=hf
  cases he
  obtain⟨h1,h2⟩:=z91 (hl t rfl)
  have hp:J2 E o (⟨upd σ.ρ t p.1,z02 σ.m t 0 p.2⟩:St).ev (z02 σ.m t 0 p.2)=J2 E o σ.ev σ.m:=by
   rw[z6q E o _ σ.ev _ (fun x hx=>zai (h1 x hx))]
   exact ydy hrel.mem (zy3 hf) E hrel.ev
  unfold resG
  cases hgd:o.guard with
  | none=>exact hp
  | some g=>
   obtain⟨j,want⟩:=g
   simp only
   cases ht:(all[j]?).bind (·.dst)with
   | none=>rfl
   | some u=>
    have hne:u≠t:=fun e=>h2 j want hgd (by rw[ht,e])
    simp only[zcn _ _ hne,hp]
def Sub(m m':Nat->Option MO)(d:Nat):Prop:=m d=none/\∀k,k≠d->m' k=m k\/((∃t xs,m k=some (.sl t xs .live))/\∃t xs,m' k=some (.sl t xs .dead))
theorem ylb{E:Env}{m m':Nat->Option MO}{d:Nat}{t u:TypeId}{a b v:AV}(h:appA E m d t u a b (fun v m=>some (v,m))=some (v,m')):Sub m m' d/\v= .own d:=by
 unfold appA at h
 split at h
 ·cases h
 ·split at h
  ·cases h
  ·rename_i ys _
   split at h
   ·cases h
   ·rename_i hd
    split at h
    ·obtain⟨_,h⟩:=W0 h
     cases h
     exact⟨⟨hd,fun k hk=> .inl (X1 _ _ hk)⟩,rfl⟩
    ·rename_i n
     split at h
     ·rename_i t' xs hn
      split at h
      ·obtain⟨_,h⟩:=W0 h
       cases h
       refine⟨⟨hd,fun k hk=> ?_⟩,rfl⟩
       rw[X1 _ _ hk]
       by_cases e:k=n
       ·subst e
        exact .inr ⟨⟨_,_,hn⟩,_,_,W6 _ _ _⟩
       ·exact .inl (X1 _ _ e)
      ·cases h
     ·cases h
    ·split at h
     ·obtain⟨_,h⟩:=W0 h
      cases h
      exact⟨⟨hd,fun k hk=> .inl (X1 _ _ hk)⟩,rfl⟩
     ·cases h
    ·cases h
theorem ykl{E:Env}{w:World}{S:Nat->Prop}{γ:Nat->Loc}{m m':Nat->Option MO}{d:Nat}(hs:Sub m m' d){dst:Option Nat}{t:TypeId}{p:Operand}{ev:Operand->AV}{x:Value}(hp:RepA w S γ m (ev p) x)
  {q:AV×List MO} (h:X7 E dst (.load t p) ev m' (fun v ob=>some (v,ob.toList))=some q):X7 E dst (.load t p) ev m (fun v ob=>some (v,ob.toList))=some q/\q.2=[]:=by
 have live:∀{k:Nat} {o:MO},m k≠none->m' k=some o->(∀t xs,o≠ .sl t xs .dead)->m k=some o:=by
  intro k o hk ho hne
  have:k≠d:=fun e=>hk (by rw[e];exact hs.1)
  rcases hs.2 k this with h | ⟨_,t,xs,h⟩
  ·rw[<-h];exact ho
  ·rw[h]at ho;cases ho;exact absurd rfl (hne t xs)
 simp only[X7]at h|-
 split at h
 ·cases h
 ·rename_i ti hti
  split at h
  ·rename_i n off hv
   rw[hv]at hp
   obtain⟨cs0,s0,b,k1,_⟩:=hp
   have hk:m n≠none:=by rw[k1];simp
   split at h
   ·rename_i cs hn
    rw[live hk hn (fun _ _=>by simp)]
    simp only
    split at h
    ·cases h;exact⟨rfl,rfl⟩
    ·cases h
   ·rename_i cs hn
    rw[live hk hn (fun _ _=>by simp)]
    simp only
    split at h
    ·cases h;exact⟨rfl,rfl⟩
    ·cases h
   ·cases h
  ·rename_i cs off hv
   split at h
   ·cases h;exact⟨rfl,rfl⟩
   ·cases h
  ·rename_i t' x' off hv
   split at h
   ·cases h;exact⟨rfl,rfl⟩
   ·cases h
  ·rename_i n i off hv
   rw[hv]at hp
   obtain⟨t0,xs0,s0,b,k1,_⟩:=hp
   have hk:m n≠none:=by rw[k1];simp
   split at h
   ·rename_i t' xs hn
    rw[live hk hn (fun _ _=>by simp)]
    simp only
    split at h
    ·cases h;exact⟨rfl,rfl⟩
    ·cases h
   ·rename_i t' xs hn
    rw[live hk hn (fun _ _=>by simp)]
    simp only
    split at h
    ·cases h;exact⟨rfl,rfl⟩
    ·cases h
   ·rename_i t' xs j rr hn
    rw[live hk hn (fun _ _=>by simp)]
    simp only
    obtain⟨hg,hq⟩:=W0 h
    rw[hg]
    simp only[gd,cond_true]
    split at hq
    ·cases hq;exact⟨rfl,rfl⟩
    ·cases hq
   ·cases h
  ·cases h
theorem y34{w:World}{S:Nat->Prop}{γ:Nat->Loc}{m m':Nat->Option MO}{d:Nat}(hs:Sub m m' d){t:Ty}{v:AV}{x:Value}{xs:List t.T}(hv:RepA w S γ m v x)(h:z2k m' t v=some xs):z2k m t v=some xs:=by
 cases v with
 | own n=>
  obtain⟨t0,xs0,s0,k1,_⟩:=hv
  have hk:n≠d:=fun e=>by rw[e,hs.1]at k1;cases k1
  rcases hs.2 n hk with h' | ⟨_,t',xs',h'⟩
  ·simp only[z2k]at h|-
   rw[h']at h;exact h
  ·simp only[z2k]at h
   rw[h']at h;cases h
 | _=>exact h
theorem yds{E:Env}{dst:Option Nat}{T:TypeId}{y:Operand}{lo hi mx:Option Operand}{ev:Operand->AV}{m:Nat->Option MO}{q:AV×List MO}(h:X7 E dst (.slice T y lo hi mx) ev m (fun v ob=>some (v,ob.toList))=some q):q.2=[]:=by
 simp only[X7]at h
 (repeat' split at h)<;>first | (cases h;done) | (obtain⟨_,h⟩:=W0 h;cases h;rfl)
theorem yhg{E:Env}{w:World}{S:Nat->Prop}{γ:Nat->Loc}{m m':Nat->Option MO}{d:Nat}(hs:Sub m m' d){dst:Option Nat}{T:TypeId}{y:Operand}{lo hi mx:Option Operand}{ev:Operand->AV}{x:Value}(hp:RepA w S γ m (ev y) x)
  {q:AV×List MO} (h:X7 E dst (.slice T y lo hi mx) ev m' (fun v ob=>some (v,ob.toList))=some q):X7 E dst (.slice T y lo hi mx) ev m (fun v ob=>some (v,ob.toList))=some q/\q.2=[]:=by
 refine⟨?_,yds h⟩
 simp only[X7]at h|-
 cases hT:E.ty T with
 | none=>rw[hT]at h;cases h
 | some ti=>
  rw[hT]at h
  simp only at h|-
  cases hd:ti.d with
  | str=>
   rw[hd]at h
   cases hv:ev y<;>rw[hv]at h<;>first | (exact h;done) | cases h
  | slice e'=>
   rw[hd]at h
   simp only at h|-
   cases he:elemTy E T with
   | none=>rw[he]at h;cases h
   | some p=>
    obtain⟨e,ei,ty⟩:=p
    rw[he]at h
    simp only at h|-
    cases ha:z2k m' ty (ev y)with
    | none=>rw[ha]at h;cases h
    | some xs=>
     rw[ha]at h
     rw[y34 hs hp ha]
     exact h
  | _=>rw[hd]at h;cases h
theorem yio(E:Env)(o:Oper):zsb E o []=[]:=by unfold zsb;split<;>rfl
theorem zht{ρ:Nat->AV}{d d':Nat}{v v':AV}(h:d≠d'):upd (upd ρ d v) d' v'=upd (upd ρ d' v') d v:=by
 funext n
 simp only[upd]
 cases h1:aC n d<;>cases h2:aC n d'<;>simp only[cond_true,cond_false]
 exact absurd ((ah h1).symm.trans (ah h2)) h
def appX(E:Env)(x:Oper)(m:Nat->Option MO)(d:Nat)(t u:TypeId)(a b:AV):Option (AV×(Nat->Option MO)):=
 (appA E m d t u a b fun v m=>some (v,m)).map fun q=>(q.1,stillL q.2 (zbb E x))
theorem born_cases{E:Env}{x:Oper}(hx:z5c E x=true){d:Nat}(hd:x.dst=some d):zbb E x=[]\/zbb E x=[d]:=by
 unfold z5c at hx
 split at hx
 ·simp only[ac,ay,cP]at hx
  rcases hx.2.2.2.2 with h | h
  ·exact .inl h
  ·unfold zvn at h
   rw[hd]at h
   split at h
   ·rename_i d' n e h'
    cases e
    rw[h',ah h]
    exact .inr rfl
   ·cases h
 ·cases hx
theorem stillO_cases(m:Nat->Option MO)(d:Nat):(∃o o',m d=some o/\stillO m d=mupd m d o')/\(∀(m':Nat->Option MO),m' d=m d->∃o',stillO m d=mupd m d o'/\stillO m' d=mupd m' d o')\/∀(m':Nat->Option MO),m' d=m d->stillO m' d=m':=by
 unfold stillO
 cases hd:m d with
 | none=>exact .inr fun m' h=>by rw[h]
 | some o=>
  cases o with
  | rng _ _ _=>exact .inr fun m' h=>by rw[h]
  | box cs s=>
   cases s with
   | live=>exact .inl ⟨⟨_,_,rfl,rfl⟩,fun m' h=>⟨_,rfl,by rw[h]⟩⟩
   | still=>exact .inr fun m' h=>by rw[h]
   | dead=>exact .inr fun m' h=>by rw[h]
   | hole _ _=>exact .inr fun m' h=>by rw[h]
  | sl t xs s=>
   cases s with
   | live=>exact .inl ⟨⟨_,_,rfl,rfl⟩,fun m' h=>⟨_,rfl,by rw[h]⟩⟩
   | still=>exact .inr fun m' h=>by rw[h]
   | dead=>exact .inr fun m' h=>by rw[h]
   | hole _ _=>exact .inr fun m' h=>by rw[h]
theorem y7u{m:Nat->Option MO}{d k:Nat}(h:k≠d):stillO m d k=m k:=by
 rcases stillO_cases m d with⟨⟨_,o',_,e⟩,_⟩ | e
 ·rw[e];exact X1 _ _ h
 ·rw[e m rfl]
theorem y4k{E:Env}{x:Oper}(hx:z5c E x=true){m m':Nat->Option MO}{d:Nat}(hd:x.dst=some d){t u:TypeId}{a b v:AV}(h:appX E x m d t u a b=some (v,m')):Sub m m' d/\v= .own d:=by
 unfold appX at h
 obtain⟨q,hq,h⟩:=bT.1 h
 injection h with h1 h2
 obtain⟨k1,k2⟩:=ylb (m':=q.2) (v:=q.1) hq
 subst h1 h2
 refine⟨?_,k2⟩
 rcases born_cases hx hd with e | e
 ·rw[e];exact k1
 ·rw[e]
  refine⟨k1.1,fun k hk=> ?_⟩
  show stillO q.2 d k=m k\/_
  have:=k1.2 k hk
  rw[<-y7u (m:=q.2) hk]at this
  exact this
theorem ya8{m:Nat->Option MO}{d e:Nat}{ob:MO}(h:d≠e):stillO (mupd m e ob) d=mupd (stillO m d) e ob:=by
 rcases stillO_cases m d with⟨_,k⟩ | k
 ·obtain⟨o',k1,k2⟩:=k (mupd m e ob) (X1 _ _ h)
  rw[k1,k2]
  funext k
  simp only[mupd]
  cases h1:aC k d<;>cases h2:aC k e<;>simp only[cond_true,cond_false]
  exact absurd ((ah h1).symm.trans (ah h2)) h
 ·rw[k m rfl,k (mupd m e ob) (X1 _ _ h)]
theorem zor{E:Env}{all:Array Oper}{x:Oper}(hx:z5c E x=true):∃(args:Array Operand) (ts:Array TypeId) (d:Nat),x.op= .call ⟨.builtin .append,args,ts⟩/\x.dst=some d/\∀σ:St,stepG E all x σ=(match args.toList,ts.toList with
     | [a,b],[t,u]=>(appX E x σ.m d t u (σ.ev a) (σ.ev b)).bind fun q=>some ⟨upd σ.ρ d q.1,q.2⟩
     | _,_=>none):=by
 unfold z5c at hx
 split at hx
 ·rename_i args ts hox
  simp only[ac,bc,aw,cP]at hx
  obtain⟨gx,dx,px,sx,_⟩:=hx
  obtain⟨d,hdx⟩:=bu.1 dx
  refine⟨args,ts,d,hox,hdx,fun σ=> ?_⟩
  unfold stepG
  rw[gx]
  simp only
  unfold opA
  rw[sx]
  simp only[stillL]
  unfold opB
  rw[px,hox,hdx]
  simp only[cond_false]
  have fin:∀(t u:TypeId) (a b:AV),appA E σ.m d t u a b (fun v m=>some (⟨upd σ.ρ d v,stillL m (zbb E x)⟩:St))=(appX E x σ.m d t u a b).bind fun q=>some ⟨upd σ.ρ d q.1,q.2⟩:=fun t u a b=>by
   unfold appX
   rw[zvp]
   cases appA E σ.m d t u a b (fun v m=>some (v,m))<;>rfl
  rcases args.toList with _ | ⟨a,_ | ⟨b,_ | ⟨c,l⟩⟩⟩<;>rcases ts.toList with _ | ⟨t,_ | ⟨u,_ | ⟨v,l'⟩⟩⟩<;>first | rfl | exact fin ..
 ·cases hx
theorem ya9{E:Env}{all:Array Oper}{y:Oper}(hy:zhj y=true):∃(t:TypeId) (p v:Operand),y.op= .store t p v/\y.dst=none/\∀σ:St,stepG E all y σ=zmb E t σ.m (σ.ev p) (σ.ev v) fun m=>some ⟨σ.ρ,m⟩:=by
 unfold zhj at hy
 split at hy
 ·rename_i t p v hop
  simp only[ac,bc]at hy
  obtain⟨gy,dy⟩:=hy
  refine⟨t,p,v,hop,dy,fun σ=> ?_⟩
  have e1:zhk E y=[]:=by unfold zhk;rw[dy]
  have e2:zbb E y=[]:=by unfold zbb;rw[dy]
  have e3:preO E y=false:=by unfold preO;rw[hop]
  unfold stepG
  rw[gy]
  simp only
  unfold opA
  rw[e1,e2]
  simp only[stillL]
  unfold opB
  rw[e3,hop,dy]
  rfl
 ·cases hy
theorem zco{E:Env}{all:Array Oper}{y:Oper}(gy:y.guard=none)(py:z0o E y=true)(σ:St):stepG E all y σ=(J2 E y σ.ev σ.m).bind (extA σ y.dst):=by
 unfold stepG
 rw[gy]
 simp only
 rw[zxr E y σ py]
theorem zv9{E:Env}{o:Oper}(ho:zjf o.op=true)(ev:Operand->AV)(m m':Nat->Option MO):J2 E o ev m'=J2 E o ev m:=by
 unfold J2
 congr 1
 unfold z4f
 cases hop:o.op<;>rw[hop]at ho<;>first | (cases ho;done) | rfl | skip
 case unOp u t x=>cases u<;>rfl
 case call c=>
  obtain⟨callee,args,ts⟩:=c
  cases callee with
  | value f=>cases ho
  | invoke x n=>cases ho
  | builtin b=>cases b<;>first | (cases ho;done) | rfl
theorem zkc{E:Env}{dst:Option Nat}{op:Op}(ho:zjf op=true\/zh1 op=true){ev:Operand->AV}{m:Nat->Option MO}{q:AV×List MO}(h:X7 E dst op ev m (fun v ob=>some (v,ob.toList))=some q):q.2=[]:=by
 cases op<;>first | (rcases ho with ho | ho<;>cases ho;done) | skip
 case unOp u t x=>cases u<;>simp only[X7]at h<;>first | (cases h;done) | (split at h<;>first | (cases h;done) | (cases h;rfl))
 case call c=>
  obtain⟨callee,args,ts⟩:=c
  cases callee with
  | value f=>rcases ho with ho | ho<;>cases ho
  | invoke x n=>rcases ho with ho | ho<;>cases ho
  | builtin b=>
   cases b<;>first | (rcases ho with ho | ho<;>cases ho;done) | skip
   all_goals
    simp only[X7]at h
    (repeat' split at h)<;>first | (cases h;done) | (cases h;rfl)
 case binOp op t x y k=>
  simp only[X7]at h
  obtain⟨_,h⟩:=W0 h
  obtain⟨_,h⟩:=W0 h
  split at h<;>first | (cases h;done) | (cases h;rfl)
 case pick c a b=>
  simp only[X7]at h
  split at h
  ·rename_i x _
   cases x<;>(cases h;rfl)
  ·cases h
 all_goals
  simp only[X7]at h
  (repeat' split at h)<;>first | (cases h;done) | (cases h;rfl) | (obtain⟨_,_,_,h2⟩:=zh4 h;clear h;(repeat' split at h2)<;>first | (cases h2;done) | (cases h2;rfl)) | (obtain⟨_,_,_,h⟩:=zh4 h;cases h;rfl) | (obtain⟨_,_,_,h⟩:=zh4 h;cases h;done) | (obtain⟨_,h⟩:=W0 h;(repeat' split at h)<;>first | (cases h;done) | (cases h;rfl))
theorem yal{E:Env}{o:Oper}(ho:zjf o.op=true\/zh1 o.op=true){ev:Operand->AV}{m:Nat->Option MO}{q:AV×List MO}(h:J2 E o ev m=some q):q.2=[]:=by
 unfold J2 at h
 obtain⟨q0,h0,rfl⟩:=bT.1 h
 clear h
 have h:=h0
 have e:X7 E o.dst o.op ev m (fun v ob=>some (v,ob.toList))=some q0:=by
  unfold z4f at h
  split at h
  ·rename_i hop;rw[hop]at ho;rcases ho with ho | ho<;>cases ho
  ·rename_i hop;rw[hop]at ho;rcases ho with ho | ho<;>cases ho
  ·exact h
 show zsb E o q0.2=[]
 rw[zkc ho e]
 exact yio E o
theorem zk2{E:Env}{all:Array Oper}{x:Oper}(ho:zjf x.op=true\/zh1 x.op=true)(gx:x.guard=none)(px:z0o E x=true){d:Nat}(hd:x.dst=some d){σ σ1:St}(h1:stepG E all x σ=some σ1):∃v,J2 E x σ.ev σ.m=some (v,[])/\σ1=⟨upd σ.ρ d v,σ.m⟩:=by
 rw[zco gx px]at h1
 obtain⟨q,hq,h1⟩:=aG.1 h1
 have hn:=yal ho hq
 obtain⟨v,ob⟩:=q
 simp only at hn
 subst hn
 rw[hd]at h1
 simp only[extA,few0,z43,cT,gd,cond_true,z02,aR.injEq]at h1
 exact⟨v,hq,h1.symm⟩
theorem zvt{E:Env}{all:Array Oper}{x:Oper}(gx:x.guard=none)(px:z0o E x=true){d:Nat}(hd:x.dst=some d){σ:St}{v:AV}(h:J2 E x σ.ev σ.m=some (v,[])):stepG E all x σ=some ⟨upd σ.ρ d v,σ.m⟩:=by
 rw[zco gx px,h,hd]
 simp only[ab,extA,few0,z43,cT,gd,cond_true,z02]
theorem ya6{E:Env}{all:Array Oper}{x y:Oper}{σ σ1 σ2:St}(ha:x.apart all y=true)(hx:y2b E x=true)(hy:z5c E y=true)(h1:stepG E all x σ=some σ1)(h2:stepG E all y σ1=some σ2):
  ∃σ1',stepG E all y σ=some σ1'/\stepG E all x σ1'=some σ2:=by
 obtain⟨a1,a2,a3⟩:=Oper.apart_spec ha
 simp only[y2b,ac,bc]at hx
 obtain⟨ox,gx,dx,px⟩:=hx
 obtain⟨d,hdx⟩:=bu.1 dx
 obtain⟨v,hv,rfl⟩:=zk2 (.inl ox) gx px hdx h1
 obtain⟨args,ts,d',hoy,hdy,stepY⟩:=zor (all:=all) hy
 have hne:d≠d':=fun e=>a2 d hdx (by rw[hdy,e])
 rw[stepY]at h2
 split at h2
 ·rename_i a0 b0 t0 u0 hargs hts
  have hyl:∀z,z∈y.op.operands->z≠ .tmp d:=(z91 (a1 d hdx)).1
  have e1:(⟨upd σ.ρ d v,σ.m⟩:St).ev a0=σ.ev a0:=zai (hyl a0 (by rw[hoy];have:a0∈args:=cN.2 (by rw[hargs];simp);simpa[Op.operands,Call.operands] using this))
  have e2:(⟨upd σ.ρ d v,σ.m⟩:St).ev b0=σ.ev b0:=zai (hyl b0 (by rw[hoy];have:b0∈args:=cN.2 (by rw[hargs];simp);simpa[Op.operands,Call.operands] using this))
  rw[e1,e2]at h2
  obtain⟨q,hq,h2⟩:=aG.1 h2
  cases h2
  refine⟨⟨upd σ.ρ d' q.1,q.2⟩, ?_, ?_⟩
  ·rw[stepY]
   simp only[hargs,hts,hq,ab]
  ·have hxl:∀z,z∈x.op.operands->z≠ .tmp d':=(z91 (a3 d' hdy)).1
   have:=zvt (all:=all) (σ:=⟨upd σ.ρ d' q.1,q.2⟩) gx px hdx (v:=v) (by
    rw[z6q E x _ σ.ev _ (fun z hz=>zai (hxl z hz)),zv9 ox σ.ev σ.m q.2];exact hv)
   rw[this,zht hne]
 ·cases h2
section sub
variable {w:World} {S:Nat->Prop} {γ:Nat->Loc} {m m':Nat->Option MO} {d:Nat} (hs:Sub m m' d)
include hs
theorem zhx{k:Nat}{o:MO}(hk:m k≠none)(ho:m' k=some o)(hne:∀t xs,o≠ .sl t xs .dead):m k=some o:=by
 have:k≠d:=fun e=>hk (by rw[e];exact hs.1)
 rcases hs.2 k this with h | ⟨_,t,xs,h⟩
 ·rw[<-h];exact ho
 ·rw[h]at ho;cases ho;exact absurd rfl (hne t xs)
theorem yaa{t:Ty}{v:AV}{x:Value}{xs:List t.T}(hv:RepA w S γ m v x)(h:z8t m' t v=some xs):z8t m t v=some xs:=by
 cases v with
 | own n=>
  obtain⟨t0,xs0,s0,k1,_⟩:=hv
  have hk:m n≠none:=by rw[k1];simp
  simp only[z8t]at h|-
  split at h
  ·rename_i t' xs' hn
   rw[zhx hs hk hn (fun _ _=>by simp)];exact h
  ·rename_i t' xs' hn
   rw[zhx hs hk hn (fun _ _=>by simp)];exact h
  ·cases h
 | _=>exact h
theorem yko{v:AV}{x:Value}{n:Int}(hv:RepA w S γ m v x)(h:lenA m' v=some n):lenA m v=some n:=by
 cases v with
 | own k=>
  obtain⟨t0,xs0,s0,k1,_⟩:=hv
  have hk:m k≠none:=by rw[k1];simp
  simp only[lenA]at h|-
  split at h
  ·rename_i t' xs' hn
   rw[zhx hs hk hn (fun _ _=>by simp)];exact h
  ·rename_i t' xs' hn
   rw[zhx hs hk hn (fun _ _=>by simp)];exact h
  ·cases h
 | _=>exact h
theorem y4d:∀(t:Ty) (cs:List AV) (vs:List Value) (x:t.T) (r:List AV),RepAs w S γ m cs vs->decP m' t cs=some (x,r)->decP m t cs=some (x,r)/\∃us,RepAs w S γ m r us
 | .int k,[],vs,x,r,h,e=>by simp[decP]at e
 | .int k,v::r0,vs,x,r,h,e=>by
  obtain⟨u,us,rfl,h1,h2⟩:=h
  cases v<;>simp only[decP]at e⊢<;>first | (cases e;done) | skip
  split at e
  ·cases e;exact⟨rfl,us,h2⟩
  ·cases e
 | .bool,[],vs,x,r,h,e=>by simp[decP]at e
 | .bool,v::r0,vs,x,r,h,e=>by
  obtain⟨u,us,rfl,h1,h2⟩:=h
  cases v<;>simp only[decP]at e⊢<;>first | (cases e;done) | skip
  cases e;exact⟨rfl,us,h2⟩
 | .str,[],vs,x,r,h,e=>by simp[decP]at e
 | .str,v::r0,vs,x,r,h,e=>by
  obtain⟨u,us,rfl,h1,h2⟩:=h
  cases v<;>simp only[decP]at e⊢<;>first | (cases e;done) | skip
  cases e;exact⟨rfl,us,h2⟩
 | .unit,cs,vs,x,r,h,e=>by
  simp only[decP]at e|-
  cases e;exact⟨rfl,vs,h⟩
 | .pair a b,cs,vs,x,r,h,e=>by
  simp only[decP]at e|-
  split at e
  ·rename_i x1 r1 h1
   obtain⟨e1,us,hus⟩:=y4d a cs vs x1 r1 h h1
   split at e
   ·rename_i y r2 h2
    obtain⟨e2,us2,hus2⟩:=y4d b r1 us y r2 hus h2
    cases e
    rw[e1]
    simp only[e2]
    exact⟨trivial,us2,hus2⟩
   ·cases e
  ·cases e
 | .list t,[],vs,x,r,h,e=>by simp[decP]at e
 | .list t,v::r0,vs,x,r,h,e=>by
  obtain⟨u,us,rfl,h1,h2⟩:=h
  simp only[decP]at e|-
  split at e
  ·rename_i xs hxs
   rw[y34 hs h1 hxs]
   cases e;exact⟨rfl,us,h2⟩
  ·cases e
theorem ygq{t:Ty}{cs:List AV}{vs:List Value}{x:t.T}(h:RepAs w S γ m cs vs)(e:dec m' t cs=some x):dec m t cs=some x:=by
 unfold dec at e|-
 split at e
 ·rename_i y hy
  cases e
  rw[(y4d hs t cs vs _ _ h hy).1]
 ·cases e
theorem y7d{ev:Operand->AV}{el:Operand->Value}(hev:∀x,RepA w S γ m (ev x) (el x)){t:Ty}:∀(ps:List (Nat×Operand)) (acc xs:List t.T),zsa m' t (ps.map fun p=>(p.1,ev p.2)) acc=some xs->zsa m t (ps.map fun p=>(p.1,ev p.2)) acc=some xs
 | [],acc,xs,h=>h
 | (i,x)::ps,acc,xs,h=>by
  simp only[ax,zsa]at h|-
  split at h
  ·rename_i y hy
   have hd:dec m t (ev x).cells=some y:=by
    have hr:=hev x
    cases hv:ev x with
    | agg cs=>
     rw[hv]at hr hy
     obtain⟨vs,_,h2,_⟩:=hr
     exact ygq hs h2 hy
    | _=>
     rw[hv]at hr hy
     exact ygq hs (cs:=[_]) (vs:=[el x]) ⟨_,[],rfl,hr,rfl⟩ hy
   rw[hd]
   rcases bif_some h with⟨h1,h2⟩ | ⟨_,h2⟩
   ·simp only[h1,cond_true]
    exact y7d hev ps _ xs h2
   ·cases h2
  ·cases h
theorem ykz{E:Env}{dst:Option Nat}{op:Op}(ho:yp8 op=true){ev:Operand->AV}{el:Operand->Value}(hev:∀x,RepA w S γ m (ev x) (el x)){q:AV×List MO}(h:X7 E dst op ev m' (fun v ob=>some (v,ob.toList))=some q):
  X7 E dst op ev m (fun v ob=>some (v,ob.toList))=some q/\q.2.length<=1:=by
 have pu:zjf op=true->X7 E dst op ev m (fun v ob=>some (v,ob.toList))=some q/\q.2.length<=1:=fun hp=>by
  have e:X7 E dst op ev m (fun v ob=>some (v,ob.toList))=X7 E dst op ev m' (fun v ob=>some (v,ob.toList)):=by
   cases op<;>first | (cases hp;done) | rfl | skip
   case unOp u t x=>cases u<;>rfl
   case call c=>
    obtain⟨callee,args,ts⟩:=c
    cases callee with
    | value f=>cases hp
    | invoke x n=>cases hp
    | builtin b=>cases b<;>first | (cases hp;done) | rfl
  refine⟨e.trans h, ?_⟩
  rw[zkc (.inl hp) h];simp
 cases op with
 | load t p=>
  obtain⟨h1,h2⟩:=ykl hs (hev p) h
  exact⟨h1,by rw[h2];simp⟩
 | slice T y lo hi mx=>
  obtain⟨h1,h2⟩:=yhg hs (hev y) h
  exact⟨h1,by rw[h2];simp⟩
 | indexAddr T x i=>
  refine⟨?_,by rw[zkc (.inr rfl) h];simp⟩
  simp only[X7]at h|-
  split at h
  ·split at h
   ·split at h
    ·split at h
     ·split at h
      ·exact h
      ·exact h
      ·rename_i n hv
       have hp:=hev x
       rw[hv]at hp
       obtain⟨t0,xs0,s0,k1,_⟩:=hp
       have hk:m n≠none:=by rw[k1];simp
       split at h
       ·rename_i t' xs' hn
        rw[zhx hs hk hn (fun _ _=>by simp)];exact h
       ·rename_i t' xs' hn
        rw[zhx hs hk hn (fun _ _=>by simp)];exact h
       ·rename_i t' xs' j rr hn
        rw[zhx hs hk hn (fun _ _=>by simp)];exact h
       ·cases h
      ·cases h
     ·cases h
    ·exact h
    ·cases h
   ·cases h
  ·cases h
 | index T x i=>exact⟨by simp only[X7]at h|-;exact h,by rw[zkc (.inr rfl) h];simp⟩
 | convert a b x=>
  simp only[X7]at h|-
  split at h
  ·split at h
   ·cases h;exact⟨rfl,by simp⟩
   ·cases h;exact⟨rfl,by simp⟩
   ·cases h;exact⟨rfl,by simp⟩
   ·split at h
    ·split at h
     ·rename_i xs hxs
      rw[yaa hs (hev x) hxs]
      cases h;exact⟨rfl,by simp⟩
     ·cases h
    ·cases h
   ·split at h
    ·obtain⟨h1,h⟩:=W0 h
     cases h
     exact⟨by rw[h1];rfl,by simp⟩
    ·cases h
   ·cases h
  ·cases h
 | buildSlice t n ps=>
  simp only[X7]at h|-
  split at h
  ·obtain⟨h1,h⟩:=W0 h
   split at h
   ·rename_i xs hxs
    rw[y7d hs hev _ _ _ hxs]
    cases h
    exact⟨by rw[h1];rfl,by simp⟩
   ·cases h
  ·cases h
 | alloc t=>
  simp only[X7]at h|-
  refine⟨h, ?_⟩
  repeat' split at h
  all_goals first | (cases h;done) | (cases h;simp)
 | makeSlice t n c=>
  simp only[X7]at h|-
  refine⟨h, ?_⟩
  split at h
  ·obtain⟨_,h⟩:=W0 h
   cases h;simp
  ·cases h
 | call c=>
  obtain⟨callee,args,ts⟩:=c
  cases callee with
  | value f=>cases ho
  | invoke x n=>cases ho
  | builtin b=>
   cases b with
   | len=>
    refine⟨?_,by rw[zkc (.inr rfl) h];simp⟩
    simp only[X7]at h|-
    split at h
    ·split at h
     ·split at h
      ·exact h
      ·split at h
       ·cases h
       ·split at h
        ·rename_i n hn
         rw[yko hs (hev _) hn];exact h
        ·cases h
      ·exact h
      ·cases h
     ·cases h
    ·cases h
   | min=>exact pu rfl
   | max=>exact pu rfl
   | _=>cases ho
 | _=>exact pu ho
end sub
theorem yip(E:Env)(o:Oper)(l:List MO):(zsb E o l).length<=l.length:=by
 unfold zsb
 split<;>simp
theorem yeq{E:Env}{w:World}{S:Nat->Prop}{γ:Nat->Loc}{m:Nat->Option MO}{e d:Nat}{ob:MO}(he:m e=none)(hne:d≠e){t u:TypeId}{a b:AV}{x y:Value}(ha:RepA w S γ m a x)(hb:RepA w S γ m b y):
  appA E (mupd m e ob) d t u a b (fun v m=>some (v,m))=(appA E m d t u a b (fun v m=>some (v,m))).map fun q=>(q.1,mupd q.2 e ob):=by
 have look:∀{n:Nat},m n≠none->mupd m e ob n=m n:=fun {n} h=>X1 _ _ fun e'=>h (by rw[e',he])
 have hsrc:∀ty,appSrc E (mupd m e ob) ty u b=appSrc E m ty u b:=fun ty=>by
  unfold appSrc
  cases b with
  | own n=>
   obtain⟨t0,xs0,s0,k1,_⟩:=hb
   simp only[z8t,look (show m n≠none by rw[k1];simp)]
  | _=>rfl
 have hcomm:∀{n:Nat} {o:MO},n≠e->mupd (mupd m e ob) n o=mupd (mupd m n o) e ob:=fun {n o} h=>by
  funext k
  simp only[mupd]
  cases h1:aC k n<;>cases h2:aC k e<;>simp only[cond_true,cond_false]
  exact absurd ((ah h1).symm.trans (ah h2)) h
 have hcomm2:∀{m:Nat->Option MO} {o:MO},mupd (mupd m e ob) d o=mupd (mupd m d o) e ob:=fun {m o}=>by
  funext k
  simp only[mupd]
  cases h1:aC k d<;>cases h2:aC k e<;>simp only[cond_true,cond_false]
  exact absurd ((ah h1).symm.trans (ah h2)) hne
 unfold appA
 cases elemTy E t with
 | none=>rfl
 | some p=>
  obtain⟨e0,ei,ty⟩:=p
  simp only[hsrc]
  cases appSrc E m ty u b with
  | none=>rfl
  | some ys=>
   simp only
   rw[X1 _ _ hne]
   cases m d with
   | some _=>rfl
   | none=>
    simp only
    cases a with
    | nils=>
     simp only
     cases fits ys.length ei.bytes
     ·rfl
     ·simp only[gd,cond_true,aT,hcomm2]
    | own n=>
     obtain⟨t0,xs0,s0,k1,_⟩:=ha
     have hk:m n≠none:=by rw[k1];simp
     simp only[look hk]
     cases hmn:m n with
     | none=>rfl
     | some o=>
      cases o with
      | sl t' xs st=>
       cases st<;>simp only<;>first | rfl | skip
       cases castL t' ty xs with
       | none=>rfl
       | some xs'=>
        simp only
        cases fits (xs'.length+ys.length) ei.bytes
        ·rfl
        ·simp only[gd,cond_true,aT]
         rw[hcomm (fun e'=>hk (by rw[e',he])),hcomm2]
      | _=>rfl
    | clip t' xs=>
     simp only
     cases castL t' ty xs with
     | none=>rfl
     | some xs'=>
      simp only
      cases (cE 0 ys.length&&fits (xs'.length+ys.length) ei.bytes)
      ·rfl
      ·simp only[gd,cond_true,aT,hcomm2]
    | _=>rfl
theorem y38{E:Env}{x:Oper}(hx:z5c E x=true){w:World}{S:Nat->Prop}{γ:Nat->Loc}{m:Nat->Option MO}{e d:Nat}(hd:x.dst=some d){ob:MO}(he:m e=none)(hne:d≠e){t u:TypeId}{a b:AV}{y z:Value}(ha:RepA w S γ m a y)(hb:RepA w S γ m b z):
  appX E x (mupd m e ob) d t u a b=(appX E x m d t u a b).map fun q=>(q.1,mupd q.2 e ob):=by
 unfold appX
 rw[yeq he hne ha hb,fv,fv]
 congr 1
 funext q
 rcases born_cases hx hd with h | h
 ·simp only[Function.comp,h,stillL]
 ·simp only[Function.comp,h,stillL,ya8 hne]
theorem ynp{E:Env}{all:Array Oper}{x y:Oper}{σ σ1 σ2:St}(hg:Good σ)(ha:x.apart all y=true)(hx:z5c E x=true)(hy:subX E y=true)(h1:stepG E all x σ=some σ1)(h2:stepG E all y σ1=some σ2):
  ∃σ1',stepG E all y σ=some σ1'/\stepG E all x σ1'=some σ2:=by
 obtain⟨X,w,S,γ,a,hrel⟩:=hg
 obtain⟨a1,a2,a3⟩:=Oper.apart_spec ha
 obtain⟨args,ts,d,hox,hdx,stepX⟩:=zor (all:=all) hx
 simp only[subX,ac,bc]at hy
 obtain⟨oy,gy,dy,py⟩:=hy
 obtain⟨d',hdy⟩:=bu.1 dy
 have hne:d≠d':=fun e=>a2 d hdx (by rw[hdy,e])
 have stepY:=zco (all:=all) gy py
 rw[stepX]at h1
 split at h1
 ·rename_i a0 b0 t0 u0 hargs hts
  obtain⟨q,hq,h1⟩:=aG.1 h1
  cases h1
  obtain⟨hsub,hq1⟩:=y4k hx hdx hq
  rw[stepY]at h2
  obtain⟨r,hr,h2⟩:=aG.1 h2
  have hpl:∀z,z∈y.op.operands->z≠ .tmp d:=(z91 (a1 d hdx)).1
  rw[z6q E y _ σ.ev _ (fun z hz=>zai (hpl z hz))]at hr
  have key:J2 E y σ.ev σ.m=some r/\r.2.length<=1:=by
   unfold J2 at hr|-
   obtain⟨q0,h0,rfl⟩:=bT.1 hr
   have hc:∀mm,z4f E y σ.ev mm=X7 E y.dst y.op σ.ev mm (fun v ob=>some (v,ob.toList)):=fun mm=>by
    unfold z4f
    split
    ·rename_i hop;rw[hop]at oy;cases oy
    ·rename_i hop;rw[hop]at oy;cases oy
    ·rfl
   rw[hc]at h0|-
   obtain⟨k1,k2⟩:=ykz hsub oy hrel.ev h0
   rw[k1]
   exact⟨rfl,Nat.le_trans (yip E y q0.2) k2⟩
  obtain⟨hr',hlen⟩:=key
  obtain⟨v,obs⟩:=r
  rw[hdy]at h2
  have hxl:∀z,z∈x.op.operands->z≠ .tmp d':=(z91 (a3 d' hdy)).1
  have e1:∀mm,(⟨upd σ.ρ d' v,mm⟩:St).ev a0=σ.ev a0:=fun mm=>zai (hxl a0 (by rw[hox];have:a0∈args:=cN.2 (by rw[hargs];simp);simpa[Op.operands,Call.operands] using this))
  have e2:∀mm,(⟨upd σ.ρ d' v,mm⟩:St).ev b0=σ.ev b0:=fun mm=>zai (hxl b0 (by rw[hox];have:b0∈args:=cN.2 (by rw[hargs];simp);simpa[Op.operands,Call.operands] using this))
  match obs,hlen with
  | [],_=>
   simp only[extA,few0,z43,cT,gd,cond_true,z02,aR.injEq]at h2
   subst h2
   refine⟨⟨upd σ.ρ d' v,σ.m⟩, ?_, ?_⟩
   ·rw[stepY,hr',hdy]
    simp only[ab,extA,few0,z43,cT,gd,cond_true,z02]
   ·rw[stepX]
    simp only[hargs,hts,e1,e2,hq,ab]
    rw[zht hne]
  | [ob],_=>
   simp only[extA,few1,z43,bv,bV,z02,zpr]at h2
   obtain⟨hf,h2⟩:=W0 h2
   cases h2
   have hm2:q.2 d'=none:=by
    cases hc:q.2 d' with
    | none=>rfl
    | some _=>simp only[hc]at hf;cases hf
   have hm:σ.m d'=none:=by
    rcases hsub.2 d' (fun e=>hne e.symm)with h | ⟨_,t,xs,h⟩
    ·rw[<-h];exact hm2
    ·rw[h]at hm2;cases hm2
   refine⟨⟨upd σ.ρ d' v,mupd σ.m d' ob⟩, ?_, ?_⟩
   ·rw[stepY,hr',hdy]
    simp only[ab,extA,few1,z43,bv,bV,z02,zpr,hm,gd,cond_true]
   ·rw[stepX]
    simp only[hargs,hts,e1,e2]
    rw[y38 hx hdx hm hne (hrel.ev a0) (hrel.ev b0),hq]
    simp only[aT,ab]
    rw[zht hne]
 ·cases h1
theorem ydn{E:Env}{all:Array Oper}{x y:Oper}{σ σ1 σ2:St}(ha:x.apart all y=true)(ox:zjf x.op=true\/zh1 x.op=true)(gx:x.guard=none)(dx:x.dst.isSome=true)(px:z0o E x=true)(hy:z5c E y=true)
  (hsame:∀m2 d' v,Sub σ.m m2 d'->J2 E x σ.ev σ.m=some v->J2 E x σ.ev m2=some v) (h1:stepG E all x σ=some σ1) (h2:stepG E all y σ1=some σ2):
  ∃σ1',stepG E all y σ=some σ1'/\stepG E all x σ1'=some σ2:=by
 obtain⟨a1,a2,a3⟩:=Oper.apart_spec ha
 obtain⟨d,hdx⟩:=bu.1 dx
 obtain⟨v,hv,rfl⟩:=zk2 ox gx px hdx h1
 obtain⟨args,ts,d',hoy,hdy,stepY⟩:=zor (all:=all) hy
 have hne:d≠d':=fun e=>a2 d hdx (by rw[hdy,e])
 rw[stepY]at h2
 split at h2
 ·rename_i a0 b0 t0 u0 hargs hts
  have hyl:∀z,z∈y.op.operands->z≠ .tmp d:=(z91 (a1 d hdx)).1
  have e1:(⟨upd σ.ρ d v,σ.m⟩:St).ev a0=σ.ev a0:=zai (hyl a0 (by rw[hoy];have:a0∈args:=cN.2 (by rw[hargs];simp);simpa[Op.operands,Call.operands] using this))
  have e2:(⟨upd σ.ρ d v,σ.m⟩:St).ev b0=σ.ev b0:=zai (hyl b0 (by rw[hoy];have:b0∈args:=cN.2 (by rw[hargs];simp);simpa[Op.operands,Call.operands] using this))
  rw[e1,e2]at h2
  obtain⟨q,hq,h2⟩:=aG.1 h2
  cases h2
  refine⟨⟨upd σ.ρ d' q.1,q.2⟩, ?_, ?_⟩
  ·rw[stepY]
   simp only[hargs,hts,hq,ab]
  ·have hxl:∀z,z∈x.op.operands->z≠ .tmp d':=(z91 (a3 d' hdy)).1
   have:=zvt (all:=all) (σ:=⟨upd σ.ρ d' q.1,q.2⟩) gx px hdx (v:=v) (by
    rw[z6q E x _ σ.ev _ (fun z hz=>zai (hxl z hz))];exact hsame q.2 d' _ (y4k hy hdy hq).1 hv)
   rw[this,zht hne]
 ·cases h2
theorem ya7{E:Env}{all:Array Oper}{x y:Oper}{σ σ1 σ2:St}(hg:Good σ)(ha:x.apart all y=true)(hx:yn1 E x=true)(hy:z5c E y=true)(h1:stepG E all x σ=some σ1)(h2:stepG E all y σ1=some σ2):
  ∃σ1',stepG E all y σ=some σ1'/\stepG E all x σ1'=some σ2:=by
 obtain⟨X,w,S,γ,a,hrel⟩:=hg
 obtain⟨a1,a2,a3⟩:=Oper.apart_spec ha
 obtain⟨args,ts,d',hoy,hdy,stepY⟩:=zor (all:=all) hy
 have hx':(∃t n c,x.op= .makeSlice t n c)/\x.guard=none/\x.dst.isSome=true/\z0o E x=true:=by
  unfold yn1 at hx
  split at hx
  ·rename_i t n c hop
   simp only[ac,bc]at hx
   exact⟨⟨t,n,c,hop⟩,hx⟩
  ·cases hx
 obtain⟨⟨T,n,c,hop⟩,gx,dx,px⟩:=hx'
 obtain⟨d,hdx⟩:=bu.1 dx
 have hne:d≠d':=fun e=>a2 d hdx (by rw[hdy,e])
 have stepX:=zco (all:=all) gx px
 have any:∀mm,J2 E x σ.ev mm=J2 E x σ.ev σ.m:=fun mm=>by
  unfold J2 z4f
  rw[hop];rfl
 rw[stepX]at h1
 obtain⟨r,hr,h1⟩:=aG.1 h1
 have hlen:∃ob,r.2=[ob]:=by
  unfold J2 at hr
  obtain⟨q0,h0,rfl⟩:=bT.1 hr
  unfold z4f at h0
  rw[hop]at h0
  simp only[X7]at h0
  split at h0
  ·obtain⟨_,h0⟩:=W0 h0
   cases h0
   unfold zsb
   split
   ·exact⟨_,rfl⟩
   ·exact⟨_,rfl⟩
  ·cases h0
 obtain⟨v,obs⟩:=r
 obtain⟨ob,rfl⟩:=hlen
 rw[hdx]at h1
 simp only[extA,few1,z43,bv,bV,z02,zpr]at h1
 obtain⟨hf,h1⟩:=W0 h1
 cases h1
 have hm:σ.m d=none:=by
  cases hc:σ.m d with
  | none=>rfl
  | some _=>simp only[hc]at hf;cases hf
 rw[stepY]at h2
 split at h2
 ·rename_i a0 b0 t0 u0 hargs hts
  have hyl:∀z,z∈y.op.operands->z≠ .tmp d:=(z91 (a1 d hdx)).1
  have e1:∀mm,(⟨upd σ.ρ d v,mm⟩:St).ev a0=σ.ev a0:=fun mm=>zai (hyl a0 (by rw[hoy];have:a0∈args:=cN.2 (by rw[hargs];simp);simpa[Op.operands,Call.operands] using this))
  have e2:∀mm,(⟨upd σ.ρ d v,mm⟩:St).ev b0=σ.ev b0:=fun mm=>zai (hyl b0 (by rw[hoy];have:b0∈args:=cN.2 (by rw[hargs];simp);simpa[Op.operands,Call.operands] using this))
  simp only[e1,e2]at h2
  rw[y38 hy hdy hm (fun e=>hne e.symm) (hrel.ev a0) (hrel.ev b0)]at h2
  cases hq:appX E y σ.m d' t0 u0 (σ.ev a0) (σ.ev b0)with
  | none=>rw[hq]at h2;cases h2
  | some q=>
   rw[hq]at h2
   simp only[aT,ab,aR.injEq]at h2
   subst h2
   have hq2:q.2 d=none:=by
    rcases(y4k hy hdy hq).1.2 d hne with h | ⟨⟨t,xs,h⟩,_⟩
    ·rw[h];exact hm
    ·rw[hm]at h;cases h
   refine⟨⟨upd σ.ρ d' q.1,q.2⟩, ?_, ?_⟩
   ·rw[stepY]
    simp only[hargs,hts,hq,ab]
   ·have hxl:∀z,z∈x.op.operands->z≠ .tmp d':=(z91 (a3 d' hdy)).1
    rw[stepX,z6q E x _ σ.ev _ (fun z hz=>zai (hxl z hz)),any,hr,hdx]
    simp only[ab,extA,few1,z43,bv,bV,z02,zpr,hq2,gd,cond_true]
    rw[zht hne]
 ·cases h2
theorem y6e{E:Env}{all:Array Oper}{x y:Oper}{σ σ1 σ2:St}(ha:x.apart all y=true)(ho:zjf x.op=true\/zh1 x.op=true)(gx:x.guard=none)(dx:x.dst.isSome=true)(px:z0o E x=true)(hy:zhj y=true)(h1:stepG E all x σ=some σ1)(h2:stepG E all y σ1=some σ2)
  (hsame:∀m2 v,(∀t p u,y.op= .store t p u->zmb E t σ.m (σ.ev p) (σ.ev u) some=some m2)->J2 E x σ.ev σ.m=some v->J2 E x σ.ev m2=some v):
  ∃σ1',stepG E all y σ=some σ1'/\stepG E all x σ1'=some σ2:=by
 obtain⟨a1,a2,a3⟩:=Oper.apart_spec ha
 obtain⟨d,hdx⟩:=bu.1 dx
 obtain⟨v,hv,rfl⟩:=zk2 ho gx px hdx h1
 obtain⟨t,p,u,hoy,hdy,stepY⟩:=ya9 (E:=E) (all:=all) hy
 have hyl:∀z,z∈y.op.operands->z≠ .tmp d:=(z91 (a1 d hdx)).1
 have e1:(⟨upd σ.ρ d v,σ.m⟩:St).ev p=σ.ev p:=zai (hyl p (by rw[hoy];simp[Op.operands]))
 have e2:(⟨upd σ.ρ d v,σ.m⟩:St).ev u=σ.ev u:=zai (hyl u (by rw[hoy];simp[Op.operands]))
 rw[stepY,e1,e2,zh7]at h2
 obtain⟨m2,hm2,h2⟩:=aG.1 h2
 cases h2
 refine⟨⟨σ.ρ,m2⟩, ?_, ?_⟩
 ·rw[stepY,zh7,hm2];rfl
 ·exact zvt (σ:=⟨σ.ρ,m2⟩) gx px hdx (v:=v) (hsame m2 _ (fun t' p' u' h=>by rw[hoy]at h;cases h;exact hm2) hv)
theorem y7n{rl:List (Nat×Option Nat)}{σ σ':St}{dst:Option Nat}{d:Nat}{τ:St}{ns:List Nat}(h:zfw rl σ dst d τ ns some=some σ'):∃v,σ'.ρ=putO σ.ρ dst v:=by
 unfold zfw at h
 split at h
 ·obtain⟨_,h⟩:=W0 h
  split at h
  ·split at h
   ·cases h;exact⟨_,rfl⟩
   ·cases h
  ·cases h
 ·cases h
theorem zkb{σ σ':St}{dst:Option Nat}{d:Nat}{as:List AV}:∀{l:List CtrM},zdk l σ dst d as some=some σ'->∃v,σ'.ρ=putO σ.ρ dst v
 | [],h=>by cases h
 | c::r,h=>by
  simp only[zdk]at h
  split at h
  ·obtain⟨_,h⟩:=W0 h
   split at h
   ·rename_i t _
    rw[c.nat]at h
    obtain⟨p,_,h2⟩:=aG.1 h
    exact y7n h2
   ·cases h
  ·exact zkb h
theorem zxt{E:Env}{all:Array Oper}{x:Oper}(hx:memX E x=true):∃(g:FuncId) (args:Array Operand) (ts:Array TypeId) (d:Nat),x.op= .call ⟨.value (.func g),args,ts⟩/\x.dst=some d/\∀σ:St,stepG E all x σ=zdk (E.callM g) σ (some d) d (args.toList.map σ.ev++[]) some:=by
 unfold memX at hx
 split at hx
 ·rename_i g args ts hop
  simp only[ac,bc,cP]at hx
  obtain⟨px,gx,dx,sx,bx⟩:=hx
  obtain⟨d,hd⟩:=bu.1 dx
  refine⟨g,args,ts,d,hop,hd,fun σ=> ?_⟩
  unfold stepG
  rw[gx]
  simp only
  unfold opA
  rw[sx,bx]
  simp only[stillL]
  unfold opB
  rw[px,cond_true]
  unfold preS
  rw[hop,hd]
  simp only
  show(match(AV.clo g []:AV)with
   | .clo f caps=>match cloArgs caps (args.toList.map σ.ev)with | some l=>zdk (E.callM f) σ (some d) d l some | none=>none
   | .yld n=>yldA E σ d n (args.toList.map σ.ev) some
   | _=>none)=_
  rfl
 ·cases hx
theorem yav{rl:List (Nat×Option Nat)}{ρ ρ':Nat->AV}{m:Nat->Option MO}{d:Nat}{τ:St}{ns:List Nat}:zfw rl ⟨ρ',m⟩ (some d) d τ ns some=(zfw rl ⟨ρ,m⟩ (some d) d τ ns some).map fun σ'=>⟨upd ρ' d (σ'.ρ d),σ'.m⟩:=by
 unfold zfw
 cases lents rl with
 | none=>rfl
 | some le=>
  simp only
  cases ((cE ns.length 200&&zp4 (rl.map (·.1)))&&zp4 (le.map (·.1)++(w7 le d 0 ns).map (·.1)))&&zp4 (le.map (·.2)++(w7 le d 0 ns).map (·.2))
  ·rfl
  ·simp only[gd,cond_true]
   cases apL τ.m (le++w7 le d 0 ns) le m with
   | none=>rfl
   | some m1=>
    simp only
    cases apN τ.m (le++w7 le d 0 ns) (w7 le d 0 ns) m1 with
    | none=>rfl
    | some m2=>
     simp only[aT,putO]
     rw[zhs]
theorem znu{ρ ρ':Nat->AV}{m:Nat->Option MO}{d:Nat}{as:List AV}:∀(l:List CtrM),zdk l ⟨ρ',m⟩ (some d) d as some=(zdk l ⟨ρ,m⟩ (some d) d as some).map fun σ'=>(⟨upd ρ' d (σ'.ρ d),σ'.m⟩:St)
 | []=>rfl
 | c::r=>by
  simp only[zdk]
  cases getW (renC (argsA 0 as) m c.cin.objs) c.cin (argsA 0 as) m with
  | none=>exact znu r
  | some v=>
   simp only
   cases rangeIs 0 c.cin.tms as
   ·rfl
   ·simp only[gd,cond_true]
    cases c.F v with
    | none=>rfl
    | some t=>
     simp only
     rw[c.nat,c.nat (K:=fun τ ns=>zfw (renC (argsA 0 as) m c.cin.objs) ⟨ρ,m⟩ (some d) d τ ns some),Option.map_bind]
     congr 1
     funext p
     exact yav
theorem y4l{τ:Nat->Option MO}{rn:List (Nat×Nat)}{n:Nat}:∀{l:List (Nat×Nat)} {m m':Nat->Option MO},apL τ rn l m=some m'->(∀k e,(k,e)∈l->e≠n)->m' n=m n
 | [],m,m',h,_=>by cases h;rfl
 | (k,e)::r,m,m',h,hn=>by
  have he:n≠e:=fun q=>hn k e (by simp) q.symm
  simp only[apL]at h
  split at h
  ·rw[y4l h fun k' e' hm=>hn k' e' (by simp[hm]),X1 _ _ he]
  ·split at h
   ·rw[y4l h fun k' e' hm=>hn k' e' (by simp[hm]),X1 _ _ he]
   ·cases h
theorem yd6{τ:Nat->Option MO}{rn:List (Nat×Nat)}{n:Nat}{o:MO}:∀{l:List (Nat×Nat)} {m m':Nat->Option MO},apN τ rn l m=some m'->m n=some o->m' n=m n
 | [],m,m',h,_=>by cases h;rfl
 | (k,e)::r,m,m',h,ho=>by
  simp only[apN]at h
  split at h
  ·split at h
   ·rename_i hme
    have he:n≠e:=fun q=>by rw[q,hme]at ho;cases ho
    rw[yd6 h (by rw[X1 _ _ he];exact ho),X1 _ _ he]
   ·cases h
  ·cases h
theorem zxv:∀{rl:List (Nat×Option Nat)} {le:List (Nat×Nat)},lents rl=some le->∀{k e:Nat},(k,e)∈le->(k,some e)∈rl
 | [],le,h,k,e,hm=>by cases h;cases hm
 | (n,some d)::r,le,h,k,e,hm=>by
  simp only[lents]at h
  split at h
  ·rename_i l hl
   cases h
   rcases am.1 hm with q | hm
   ·cases q;simp
   ·exact aF _ (zxv hl hm)
  ·cases h
 | (n,none)::r,le,h,k,e,hm=>by
  simp only[lents]at h
  exact aF _ (zxv h hm)
theorem argsA_flat{as:List AV}(hf:as.all zvg=true):∀(k t:Nat),argsA k as t= .undef\/argsA k as t∈as/\zvg (argsA k as t)=true:=by
 induction as with
 | nil=>intro k t;exact .inl rfl
 | cons v vs ih=>
  intro k t
  simp only[br,ac]at hf
  simp only[argsA]
  cases aC t k
  ·simp only[cond_false]
   rcases ih hf.2 (k+1) t with h | h
   ·exact .inl h
   ·exact .inr ⟨aF _ h.1,h.2⟩
  ·simp only[cond_true];exact .inr ⟨by simp,hf.1⟩
theorem yjz{as:List AV}(hf:as.all zvg=true){m:Nat->Option MO}{src:List Nat}(hs:yf6 src=true){e:Nat}(h:zos (argsA 0 as) m src=some e): .own e∈as:=by
 cases src with
 | nil=>cases h
 | cons t r=>
  have ht:ci 5000000 t=false:=by
   have:t<5000000:=by simpa[yf6] using hs
   cases hb:ci 5000000 t
   ·rfl
   ·have:=Nat.le_of_ble_eq_true hb;omega
  simp only[zos,ht,cond_false]at h
  rcases argsA_flat hf 0 t with hv | ⟨hv,hv2⟩
  ·rw[hv]at h
   cases r<;>cases h
  ·generalize argsA 0 as t=v at*
   cases r with
   | nil=>
    cases v<;>first | (cases h;done) | (cases hv2;done) | skip
    cases h;exact hv
   | cons i r=>cases v<;>first | (cases hv2;done) | (cases h;done)
theorem ybp{ρ:Nat->AV}{m:Nat->Option MO}{k e:Nat}:∀{l:List (Nat×List Nat×OK)},(k,some e)∈renC ρ m l->∃src q,(k,src,q)∈l/\zos ρ m src=some e
 | [],h=>by cases h
 | (n,src,q)::r,h=>by
  simp only[renC]at h
  rcases am.1 h with h | h
  ·obtain⟨h1,h2⟩:=cY.inj h
   subst h1
   have h:=h2
   exact⟨src,q, .head _,h.symm⟩
  ·obtain⟨s,q',h1,h2⟩:=ybp h
   exact⟨s,q',aF _ h1,h2⟩
theorem y2l{σ σ':St}{d:Nat}{as:List AV}(hf:as.all zvg=true){n:Nat}{o:MO}(ho:σ.m n=some o)(hn:∀e, .own e∈as->e≠n):∀{l:List CtrM},l.all y3p=true->zdk l σ (some d) d as some=some σ'->σ'.m n=σ.m n
 | [],_,h=>by cases h
 | c::r,hl,h=>by
  simp only[br,ac]at hl
  simp only[zdk]at h
  split at h
  ·obtain⟨_,h⟩:=W0 h
   split at h
   ·rw[c.nat]at h
    obtain⟨p,_,h⟩:=aG.1 h
    unfold zfw at h
    split at h
    ·rename_i le hle
     obtain⟨_,h⟩:=W0 h
     split at h
     ·rename_i m1 hm1
      split at h
      ·rename_i m2 hm2
       cases h
       have k1:m1 n=σ.m n:=y4l hm1 fun k e hm=>by
        obtain⟨src,q,h1,h2⟩:=ybp (zxv hle hm)
        exact hn e (yjz hf (by simpa using az.1 hl.1 _ h1) h2)
       show m2 n=_
       rw[yd6 hm2 (by rw[k1];exact ho),k1]
      ·cases h
     ·cases h
    ·cases h
   ·cases h
  ·exact y2l hf ho hn hl.2 h
theorem yb8{E:Env}{all:Array Oper}{x y:Oper}{σ σ1 σ2:St}(ha:x.apart all y=true)(hx:memX E x=true)(oy:zjf y.op=true\/zh1 y.op=true)(gy:y.guard=none)(dy:y.dst.isSome=true)(py:z0o E y=true)
  (hsame:∀σ',stepG E all x σ=some σ'->J2 E y σ.ev σ'.m=J2 E y σ.ev σ.m) (h1:stepG E all x σ=some σ1) (h2:stepG E all y σ1=some σ2):
  ∃σ1',stepG E all y σ=some σ1'/\stepG E all x σ1'=some σ2:=by
 obtain⟨a1,a2,a3⟩:=Oper.apart_spec ha
 obtain⟨g,args,ts,d,hox,hdx,stepX⟩:=zxt (all:=all) hx
 obtain⟨d',hdy⟩:=bu.1 dy
 have hne:d≠d':=fun e=>a2 d hdx (by rw[hdy,e])
 have hs:=hsame σ1 h1
 obtain⟨v,hv,rfl⟩:=zk2 oy gy py hdy h2
 rw[stepX]at h1
 obtain⟨u,hu⟩:=zkb h1
 have hyl:∀z,z∈y.op.operands->z≠ .tmp d:=(z91 (a1 d hdx)).1
 have hev:∀z,z∈y.op.operands->σ1.ev z=σ.ev z:=fun z hz=>by
  cases z with
  | tmp t=>
   show σ1.ρ t=σ.ρ t
   rw[hu];exact zcn _ _ fun e=>hyl _ hz (by rw[e])
  | _=>rfl
 rw[z6q E y _ σ.ev _ hev,hs]at hv
 refine⟨⟨upd σ.ρ d' v,σ.m⟩,zvt gy py hdy hv, ?_⟩
 have hxl:∀z,z∈x.op.operands->z≠ .tmp d':=(z91 (a3 d' hdy)).1
 have hargs:args.toList.map (⟨upd σ.ρ d' v,σ.m⟩:St).ev=args.toList.map σ.ev:=zdr fun z hz=>zai (hxl z (by rw[hox];simp[Op.operands,Call.operands];exact .inr (by simpa using hz)))
 rw[stepX,hargs,znu (ρ:=σ.ρ)]
 rw[show(⟨σ.ρ,σ.m⟩:St)=σ from rfl,h1]
 simp only[aT,hu,putO,zhs]
 rw[zht hne]
theorem yb7{E:Env}{all:Array Oper}{x y:Oper}{σ σ1 σ2:St}(ha:x.apart all y=true)(hy:memX E y=true)(ox:zjf x.op=true\/zh1 x.op=true)(gx:x.guard=none)(dx:x.dst.isSome=true)(px:z0o E x=true)
  (hsame:∀σ',stepG E all y σ=some σ'->J2 E x σ.ev σ'.m=J2 E x σ.ev σ.m) (h1:stepG E all x σ=some σ1) (h2:stepG E all y σ1=some σ2):
  ∃σ1',stepG E all y σ=some σ1'/\stepG E all x σ1'=some σ2:=by
 obtain⟨a1,a2,a3⟩:=Oper.apart_spec ha
 obtain⟨g,args,ts,d',hoy,hdy,stepY⟩:=zxt (all:=all) hy
 obtain⟨d,hdx⟩:=bu.1 dx
 have hne:d≠d':=fun e=>a2 d hdx (by rw[hdy,e])
 obtain⟨v,hv,rfl⟩:=zk2 ox gx px hdx h1
 have hyl:∀z,z∈y.op.operands->z≠ .tmp d:=(z91 (a1 d hdx)).1
 have hargs:args.toList.map (⟨upd σ.ρ d v,σ.m⟩:St).ev=args.toList.map σ.ev:=zdr fun z hz=>zai (hyl z (by rw[hoy];simp[Op.operands,Call.operands];exact .inr (by simpa using hz)))
 rw[stepY,hargs,znu (ρ:=σ.ρ)]at h2
 rw[show(⟨σ.ρ,σ.m⟩:St)=σ from rfl]at h2
 cases hq:zdk (E.callM g) σ (some d') d' (args.toList.map σ.ev++[]) some with
 | none=>rw[hq]at h2;cases h2
 | some σ3=>
  rw[hq]at h2
  simp only[aT,aR.injEq]at h2
  subst h2
  obtain⟨u,hu⟩:=zkb hq
  have hstep:stepG E all y σ=some σ3:=by rw[stepY];exact hq
  refine⟨σ3,hstep, ?_⟩
  have hxl:∀z,z∈x.op.operands->z≠ .tmp d':=(z91 (a3 d' hdy)).1
  have hev:∀z,z∈x.op.operands->σ3.ev z=σ.ev z:=fun z hz=>by
   cases z with
   | tmp t=>
    show σ3.ρ t=σ.ρ t
    rw[hu];exact zcn _ _ fun e=>hxl _ hz (by rw[e])
   | _=>rfl
  have:=zvt (all:=all) (σ:=σ3) gx px hdx (v:=v) (by rw[z6q E x _ σ.ev _ hev,hsame σ3 hstep];exact hv)
  rw[this,hu]
  simp only[putO,zhs]
  rw[zht (fun e=>hne e.symm)]
theorem swap{E:Env}{all:Array Oper}{x y:Oper}{σ σ1 σ2:St}(hg:Good σ)(ha:zhz E all x y=true)(sx:zf7 x=true)(sy:zf7 y=true)(h1:stepG E all x σ=some σ1)(h2:stepG E all y σ1=some σ2):
  ∃σ1',stepG E all y σ=some σ1'/\stepG E all x σ1'=some σ2:=by
 simp only[zhz,ac,ay]at ha
 obtain⟨ha,hpl⟩:=ha
 rcases hpl with⟨px,py⟩ | ⟨px,py⟩ | ⟨px,py | py⟩ | ⟨px,py⟩ | ⟨px,py⟩ | ⟨px,py⟩
 rotate_left
 ·exact ynp hg ha px py h1 h2
 ·exact ya6 ha px py h1 h2
 rotate_left
 ·exact ya7 hg ha px py h1 h2
 ·have hy:=py
  simp only[y2b,ac,bc]at hy
  exact yb8 ha px (.inl hy.1) hy.2.1 hy.2.2.1 hy.2.2.2 (fun σ' _=>zv9 hy.1 σ.ev σ.m σ'.m) h1 h2
 ·have hx:=px
  simp only[y2b,ac,bc]at hx
  exact yb7 ha py (.inl hx.1) hx.2.1 hx.2.2.1 hx.2.2.2 (fun σ' _=>zv9 hx.1 σ.ev σ.m σ'.m) h1 h2
 rotate_right
 ·have hx:=px
  simp only[y2b,ac,bc]at hx
  exact y6e ha (.inl hx.1) hx.2.1 hx.2.2.1 hx.2.2.2 py h1 h2 fun m2 v _ h=>by rw[zv9 hx.1 σ.ev σ.m m2];exact h
 obtain⟨a1,a2,a3⟩:=Oper.apart_spec ha
 rw[z6d E all x σ px]at h1
 rw[z6d E all y σ1 py]at h2
 cases hx:resG E all x σ with
 | none=>rw[hx]at h1;cases h1
 | some p=>
  rw[hx]at h1
  simp only[ab]at h1
  rw[zxj hg a1 h1]at h2
  cases hy:resG E all y σ with
  | none=>rw[hy]at h2;cases h2
  | some q=>
   rw[hy]at h2
   simp only[ab]at h2
   cases hdx:x.dst with
   | none=>
    rw[hdx]at h1
    obtain⟨hpe,h1⟩:=W0 h1
    cases h1
    refine⟨σ2,by rw[z6d E all y σ py,hy];exact h2, ?_⟩
    rw[z6d E all x σ2 px,zxj hg a3 h2,hx,hdx]
    simp[extA,gd,hpe]
   | some d=>
    rw[hdx]at h1
    obtain⟨hf1,h1⟩:=W0 h1
    simp only[ac]at hf1
    obtain⟨hl1,hf1⟩:=hf1
    cases h1
    cases hdy:y.dst with
    | none=>
     rw[hdy]at h2
     obtain⟨hqe,h2⟩:=W0 h2
     cases h2
     have he:extA σ y.dst q=some σ:=by rw[hdy];simp[extA,gd,hqe]
     refine⟨σ,by rw[z6d E all y σ py,hy];exact he, ?_⟩
     rw[z6d E all x σ px,hx,hdx]
     simp[extA,gd,hf1,hl1]
    | some d'=>
     rw[hdy]at h2
     obtain⟨hf2,h2⟩:=W0 h2
     simp only[ac]at hf2
     obtain⟨hl2,hf2⟩:=hf2
     cases h2
     have hne:d≠d':=fun e=>a2 d hdx (by rw[hdy,e])
     have hd:d<4096:=by rw[zf7,hdx]at sx;simpa using sx
     have hd':d'<4096:=by rw[zf7,hdy]at sy;simpa using sy
     have hf2':z43 σ.m d' 0 q.2=true:=Ext.trans_free (zy3 hf1) hf2
     have he:extA σ y.dst q=some ⟨upd σ.ρ d' q.1,z02 σ.m d' 0 q.2⟩:=by rw[hdy];simp[extA,gd,hf2',hl2]
     refine⟨_,by rw[z6d E all y σ py,hy];exact he, ?_⟩
     rw[z6d E all x _ px,zxj hg a3 he,hx,hdx]
     simp only[ab,extA]
     rw[ye8 hd' hd (Ne.symm hne) hf1,hl1]
     simp only[cT,gd,cond_true,aR.injEq,St.mk.injEq]
     refine⟨?_,ye2 hd' hd (Ne.symm hne)⟩
     funext n
     simp only[upd]
     cases h1:aC n d<;>cases h2:aC n d'<;>simp only[cond_true,cond_false]
     exact absurd ((ah h1).symm.trans (ah h2)) hne
section box
variable {R:Type} {m:Nat->Option MO} {n':Nat} {cs cs':List AV} {s s':Stat} (hm:m n'=some (.box cs s))
include hm
theorem yem{t:Ty}{v:AV}:z2k (mupd m n' (.box cs' s')) t v=z2k m t v:=by
 cases v with
 | own n=>
  simp only[z2k]
  by_cases e:n=n'
  ·subst e;rw[W6,hm]
  ·rw[X1 _ _ e]
 | _=>rfl
theorem yoo{v:AV}:lenA (mupd m n' (.box cs' s')) v=lenA m v:=by
 cases v with
 | own n=>
  simp only[lenA]
  by_cases e:n=n'
  ·subst e;rw[W6,hm]
  ·rw[X1 _ _ e]
 | _=>rfl
theorem yl6{E:Env}{dst:Option Nat}{op:Op}(ho:zh1 op=true){ev:Operand->AV}(hl:∀t a off,op= .load t a->ev a≠ .ptr n' off)(K:AV->Option MO->Option R):X7 E dst op ev (mupd m n' (.box cs' s')) K=X7 E dst op ev m K:=by
 cases op<;>first | (cases ho;done) | rfl | skip
 case load t a=>
  simp only[X7]
  have h:=hl t a
  cases hv:ev a<;>rw[hv]at h<;>simp only
  case ptr n off=>
   rw[X1]
   rintro rfl
   exact h off rfl rfl
  case oel n i off=>
   by_cases e:n=n'
   ·subst e;rw[W6,hm]
   ·rw[X1 _ _ e]
 case slice t x lo hi mx=>
  simp only[X7]
  cases E.ty t with
  | none=>rfl
  | some ti=>
   simp only
   cases ti.d<;>cases hv:ev x<;>first | rfl | (simp only[yem hm])
 case indexAddr t x i=>
  simp only[X7]
  cases hv:ev x<;>simp only
  case own n=>
   by_cases e:n=n'
   ·subst e;rw[W6,hm]
   ·rw[X1 _ _ e]
 case call c=>
  obtain⟨callee,args,ts⟩:=c
  cases callee with
  | value f=>cases ho
  | invoke x n=>cases ho
  | builtin b=>
   cases b<;>first | (cases ho;done) | skip
   simp only[X7]
   split
   ·rename_i x t _ _
    cases E.ty t with
    | none=>rfl
    | some ti=>
     simp only
     cases ti.d<;>cases hv:ev x<;>first | rfl | (simp only[yoo hm])
   ·rfl
theorem yin{E:Env}{x:Oper}(ho:zh1 x.op=true){ev:Operand->AV}(hl:∀t a off,x.op= .load t a->ev a≠ .ptr n' off):J2 E x ev (mupd m n' (.box cs' s'))=J2 E x ev m:=by
 unfold J2
 congr 1
 unfold z4f
 split
 ·rename_i hop;rw[hop]at ho;cases ho
 ·rename_i hop;rw[hop]at ho;cases ho
 ·exact yl6 hm ho hl _
end box
theorem zjx{ρ:Nat->AV}{dst:Option Nat}{v:AV}{t:Nat}(h:dst≠some t):putO ρ dst v t=ρ t:=by
 cases dst with
 | none=>rfl
 | some d=>exact zcn _ _ fun e=>h (by rw[e])
theorem ynx{E:Env}{o:Oper}{σ σ':St}(h:opB E o σ some=some σ'){t:Nat}(ht:o.dst≠some t):σ'.ρ t=σ.ρ t:=by
 unfold opB at h
 rcases bif_some h with⟨_,h⟩ | ⟨_,h⟩
 ·unfold preS at h
  split at h
  ·rename_i f args ts d _ hd
   split at h
   ·split at h
    case h_2=>cases h
    obtain⟨v,e⟩:=zkb h
    rw[e];exact zjx (by rw[<-hd];exact ht)
   ·unfold yldA at h
    split at h
    ·split at h
     ·split at h
      ·obtain⟨_,h⟩:=W0 h
       split at h
       ·rename_i c hc v hv g0 g1 g2 g3 t' ht'
        rw[c.nat]at h
        obtain⟨p,_,h2⟩:=aG.1 h
        rw[zke]at h2
        obtain⟨σ1,h3,h4⟩:=aG.1 h2
        obtain⟨v,e⟩:=y7n h3
        cases h4
        show σ1.ρ t=_
        rw[e];exact zjx (by rw[<-hd];exact ht)
       ·cases h
      ·cases h
     ·cases h
    ·cases h
   ·cases h
  ·rename_i x name args ts d _ hd
   split at h
   ·split at h
    ·obtain⟨v,e⟩:=zkb h
     rw[e];exact zjx (by rw[<-hd];exact ht)
    ·cases h
   ·cases h
  ·rename_i d _ hd
   rw[y3v]at h
   obtain⟨p,_,h2⟩:=aG.1 h
   cases h2
   exact zcn _ _ fun e=>ht (by rw[hd,e])
  ·cases h
 ·split at h
  ·rw[zh7]at h
   obtain⟨p,_,h2⟩:=aG.1 h
   cases h2
   exact zjx ht
  ·split at h
   ·rename_i d _ _ _ _ hd _ _
    rw[zvp]at h
    obtain⟨p,_,h2⟩:=aG.1 h
    cases h2
    exact zcn _ _ fun e=>ht (by rw[hd,e])
   ·cases h
  ·split at h
   ·rw[zy5]at h
    obtain⟨p,_,h2⟩:=aG.1 h
    cases h2
    exact zjx ht
   ·cases h
  ·split at h
   ·split at h
    case h_2=>cases h
    rw[zbm]at h
    obtain⟨p,_,h2⟩:=aG.1 h
    unfold zhm at h2
    split at h2
    ·rename_i d hd
     obtain⟨_,h2⟩:=W0 h2
     cases h2
     exact zcn _ _ fun e=>ht (by rw[hd,e])
    ·obtain⟨_,h2⟩:=W0 h2
     cases h2;rfl
   ·cases h
  ·split at h
   ·split at h
    ·rw[zbm]at h
     obtain⟨p,_,h2⟩:=aG.1 h
     unfold zhm at h2
     split at h2
     ·rename_i d hd
      obtain⟨_,h2⟩:=W0 h2
      cases h2
      exact zcn _ _ fun e=>ht (by rw[hd,e])
     ·obtain⟨_,h2⟩:=W0 h2
      cases h2;rfl
    ·cases h
   ·cases h
  ·rw[zkd]at h
   obtain⟨p,_,h2⟩:=aG.1 h
   split at h2
   ·cases h2;exact zjx ht
   ·split at h2
    ·rename_i d hd
     split at h2
     ·cases h2;exact zcn _ _ fun e=>ht (by rw[hd,e])
     ·cases h2
    ·cases h2
theorem zdp{E:Env}{all:Array Oper}{o:Oper}{σ σ':St}(h:stepG E all o σ=some σ'){t:Nat}(ht:o.dst≠some t):σ'.ρ t=σ.ρ t:=by
 have op:opA E o σ some=some σ'->σ'.ρ t=σ.ρ t:=fun h=>by
  obtain⟨σ1,h1,rfl⟩:=ybx h
  exact ynx h1 ht
 unfold stepG at h
 split at h
 ·exact op h
 ·split at h
  ·cases h
  ·split at h
   ·split at h
    ·exact op h
    ·cases h;exact zjx ht
   ·cases h;exact zjx ht
   ·cases h
def runI(E:Env)(all:Array Oper):List Nat->St->Option St
 | [],σ=>some σ
 | i::l,σ=>match all[i]? with
  | none=>runI E all l σ
  | some o=>(stepG E all o σ).bind (runI E all l)
theorem zo9{E:Env}{all:Array Oper}{t:Nat}:∀{l:List Nat} {σ σ':St},runI E all l σ=some σ'->(∀k∈l,∀o,all[k]? =some o->o.dst≠some t)->σ'.ρ t=σ.ρ t
 | [],_,_,h,_=>by cases h;rfl
 | i::l,σ,σ',h,ht=>by
  simp only[runI]at h
  split at h
  ·exact zo9 h fun k hk=>ht k (by simp[hk])
  ·rename_i o ho
   obtain⟨σ1,h1,h2⟩:=aG.1 h
   rw[zo9 h2 fun k hk=>ht k (by simp[hk]),zdp h1 (ht i (by simp) o ho)]
theorem z19{all:Array Oper}{b i j t:Nat}(h:zay all b i j t=true){k:Nat}(hk:j<=k)(hb:k<i->b.testBit k=false){o:Oper}(ho:all[k]? =some o):o.dst≠some t:=by
 obtain⟨hlt,_⟩:=bh.1 ho
 unfold zay at h
 simp only[az,bM,ay]at h
 rcases h k hlt with(h | h) | h
 ·rw[cQ]at h;omega
 ·rw[ac,cQ]at h
  rw[hb h.1]at h;cases h.2
 ·rw[ho]at h
  simp only at h
  intro e
  rw[e]at h
  simp at h
theorem yno{E:Env}{all:Array Oper}{x y:Oper}{σ σ1 σ2 σf:St}{b i j:Nat}(hij:j<=i)(hxj:all[j]? =some x)(hyi:all[i]? =some y){l:List Nat}(hl:∀k∈l,j<=k/\(k<i->b.testBit k=false))(hxb:b.testBit j=false)(hd:yn6 E all σf b i j x y=true)(h1:stepG E all x σ=some σ1)(h2:stepG E all y σ1=some σ2)(hf:runI E all l σ2=some σf):
  ∃σ1',stepG E all y σ=some σ1'/\stepG E all x σ1'=some σ2:=by
 have same:∀q,zay all b i j q=true->σf.ρ q=σ.ρ q:=fun q hq=>by
  rw[zo9 hf fun k hk o ho=>z19 hq (hl k hk).1 (hl k hk).2 ho,zdp h2 (z19 hq hij (fun h=>absurd h (d6 _)) hyi),zdp h1 (z19 hq (al _) (fun _=>hxb) hxj)]
 simp only[yn6,ac,bc]at hd
 obtain⟨ha,⟨ox,gx,dx,px⟩,py,hd⟩:=hd
 refine y6e ha (.inr ox) gx dx px py h1 h2 fun m2 v hm2 hv=> ?_
 split at hd
 ·rename_i t q u hop
  simp only[ac]at hd
  obtain⟨hq,hd⟩:=hd
  split at hd
  ·rename_i n' off' hn'
   have hst:=hm2 t (.tmp q) u hop
   have hev:σ.ev (.tmp q)= .ptr n' off':=by rw[<-hn'];exact(same q hq).symm
   rw[hev]at hst
   unfold zmb at hst
   split at hst
   ·cases hst
   ·obtain⟨_,hst⟩:=W0 hst
    simp only at hst
    split at hst
    ·rename_i cs hcs
     obtain⟨_,hst⟩:=W0 hst
     cases hst
     rw[yin hcs ox fun t' a off hl'=> ?_]
     ·exact hv
     ·rw[hl']at hd
      cases a with
      | tmp a=>
       simp only[ac]at hd
       obtain⟨hna,hd⟩:=hd
       have e:=same a hna
       intro hc
       have hc':σf.ρ a= .ptr n' off:=by rw[e];exact hc
       rw[hc']at hd
       simp at hd
      | _=>simp at hd
    ·cases hst
  ·cases hd
 ·cases hd
theorem y71{E:Env}{x:Oper}{σ σf:St}{m2:Nat->Option MO}{nl:Nat->Bool}(same:∀q,nl q=true->σf.ρ q=σ.ρ q)(h:zof nl σf.ρ x.op=true)(hp:∀n off,(∃t a,x.op= .load t a/\σ.ev a= .ptr n off)->m2 n=σ.m n):z4f E x σ.ev m2=z4f E x σ.ev σ.m:=by
 unfold zof at h
 split at h
 ·rename_i t q hop
  simp only[ac]at h
  obtain⟨hq,hd⟩:=h
  have hev:σ.ev (.tmp q)=σf.ρ q:=(same q hq).symm
  unfold z4f
  rw[hop]
  simp only[X7]
  split
  ·rfl
  ·cases hc:σf.ρ q with
   | ptr n off=>
    have:=hp n off ⟨t, .tmp q,hop,by rw[hev,hc]⟩
    rw[hev,hc]
    simp only[this]
   | bx _ _=>rw[hev,hc]
   | ro _ _ _=>rw[hev,hc]
   | _=>(rw[hc]at hd)<;>first | (cases hd;done) | (simp at hd;done)
 ·rename_i args ts hop
  split at h
  ·rename_i q hargs
   simp only[ac]at h
   obtain⟨hq,hd⟩:=h
   have hev:σ.ev (.tmp q)=σf.ρ q:=(same q hq).symm
   unfold z4f
   rw[hop]
   simp only[X7,hargs]
   rcases ts.toList with _ | ⟨t,_ | ⟨u,l'⟩⟩<;>simp only
   rw[hev]
   cases hc:σf.ρ q with
   | list _ _=>rfl
   | clip _ _=>rfl
   | str _=>rfl
   | nils=>rfl
   | _=>(rw[hc]at hd)<;>first | (cases hd;done) | (simp at hd;done)
  ·cases h
 ·rename_i T q lo hi mx hop
  simp only[ac]at h
  obtain⟨hq,hd⟩:=h
  have hev:σ.ev (.tmp q)=σf.ρ q:=(same q hq).symm
  unfold z4f
  rw[hop]
  simp only[X7]
  rw[hev]
  cases hc:σf.ρ q with
  | list _ _=>first | rfl | (simp only[z2k];done) | (cases E.ty T with | none=>rfl | some ti=>(cases ti with | mk a1 a2=>cases a1<;>first | rfl | (simp only[z2k];done)))
  | clip _ _=>first | rfl | (simp only[z2k];done) | (cases E.ty T with | none=>rfl | some ti=>(cases ti with | mk a1 a2=>cases a1<;>first | rfl | (simp only[z2k];done)))
  | str _=>first | rfl | (simp only[z2k];done) | (cases E.ty T with | none=>rfl | some ti=>(cases ti with | mk a1 a2=>cases a1<;>first | rfl | (simp only[z2k];done)))
  | nils=>first | rfl | (simp only[z2k];done) | (cases E.ty T with | none=>rfl | some ti=>(cases ti with | mk a1 a2=>cases a1<;>first | rfl | (simp only[z2k];done)))
  | _=>(rw[hc]at hd)<;>first | (cases hd;done) | (simp at hd;done)
 ·rename_i T q iop hop
  simp only[ac]at h
  obtain⟨hq,hd⟩:=h
  have hev:σ.ev (.tmp q)=σf.ρ q:=(same q hq).symm
  unfold z4f
  rw[hop]
  simp only[X7]
  rw[hev]
  cases hc:σf.ρ q with
  | list _ _=>rfl
  | clip _ _=>rfl
  | nils=>rfl
  | _=>(rw[hc]at hd)<;>first | (cases hd;done) | (simp at hd;done)
 ·rename_i T a iop hop
  unfold z4f
  rw[hop]
  rfl
 ·cases h
theorem ydp{E:Env}{all:Array Oper}{x y:Oper}{σ σ1 σ2 σf:St}{b i j:Nat}(hg:Good σ)(hij:j<=i)(hxj:all[j]? =some x)(hyi:all[i]? =some y){l:List Nat}(hl:∀k∈l,j<=k/\(k<i->b.testBit k=false))(hxb:b.testBit j=false)(hd:yfa E all σf b i j x y=true)(h1:stepG E all x σ=some σ1)(h2:stepG E all y σ1=some σ2)(hf:runI E all l σ2=some σf):
  ∃σ1',stepG E all y σ=some σ1'/\stepG E all x σ1'=some σ2:=by
 have same:∀q,zay all b i j q=true->σf.ρ q=σ.ρ q:=fun q hq=>by
  rw[zo9 hf fun k hk o ho=>z19 hq (hl k hk).1 (hl k hk).2 ho,zdp h2 (z19 hq hij (fun h=>absurd h (d6 _)) hyi),zdp h1 (z19 hq (al _) (fun _=>hxb) hxj)]
 obtain⟨X,w,S,γ,a0,hrel⟩:=hg
 simp only[yfa,ac,bc]at hd
 obtain⟨ha,⟨ox,gx,dx,px⟩,py,hd⟩:=hd
 refine ydn ha (.inr ox) gx dx px py (fun m2 d' v hs hv=> ?_) h1 h2
 have e:z4f E x σ.ev m2=z4f E x σ.ev σ.m:=y71 same hd fun n off hq=>by
  obtain⟨t,a,_,hv'⟩:=hq
  have hr:=hrel.ev a
  rw[hv']at hr
  obtain⟨cs,s,bb,k1,_⟩:=hr
  have hn:n≠d':=fun e=>by rw[e,hs.1]at k1;cases k1
  rcases hs.2 n hn with h | ⟨⟨t,xs,h⟩,_⟩
  ·exact h
  ·rw[k1]at h;cases h
 unfold J2 at hv|-
 rw[e];exact hv
theorem ycb{E:Env}{all:Array Oper}{σ σf:St}{nl:Nat->Bool}(hg:Good σ)(same:∀q,nl q=true->σf.ρ q=σ.ρ q){c l:Oper}(hc:memX E c=true)(hlf:zof nl σf.ρ l.op=true)
  (ha:(match c.op with
   | .call ⟨.value (.func g),args,_⟩=>((E.callM g).all y3p)&&args.toList.all fun a=>(match a with
    | .tmp q=>nl q&&zvg (σf.ρ q)
    | .const v=>zvg (ofV v)
    | _=>false)
   | _=>false)=true) {σ':St} (h:stepG E all c σ=some σ'):J2 E l σ.ev σ'.m=J2 E l σ.ev σ.m:=by
 obtain⟨X,w,S,γ,a0,hrel⟩:=hg
 obtain⟨g,args,ts,d,hoc,hdc,stepC⟩:=zxt (all:=all) hc
 rw[stepC]at h
 rw[hoc]at ha
 simp only[ac,az]at ha
 obtain⟨hs,hargs⟩:=ha
 have hflat:(args.toList.map σ.ev++[]).all zvg=true:=by
  rw[ai,List.all_map,az]
  intro a hm
  have:=hargs a hm
  cases a with
  | tmp q=>
   simp only[ac]at this
   show zvg (σ.ρ q)=true
   rw[<-same q this.1];exact this.2
  | const v=>exact this
  | _=>cases this
 unfold J2
 congr 1
 refine y71 same hlf fun n off hq=> ?_
 obtain⟨t,a,_,hv'⟩:=hq
 have hr:=hrel.ev a
 rw[hv']at hr
 obtain⟨cs,s,bb,k1,_⟩:=hr
 refine y2l hflat k1 (fun e he hen=> ?_) (az.2 hs) h
 rw[ai]at he
 obtain⟨z,_,hz⟩:=aH.1 he
 have hr2:=hrel.ev z
 rw[hz]at hr2
 obtain⟨t0,xs0,s0,k2,_⟩:=hr2
 rw[hen,k1]at k2;cases k2
theorem ydo{E:Env}{all:Array Oper}{x y:Oper}{σ σ1 σ2 σf:St}{b i j:Nat}(hg:Good σ)(hij:j<=i)(hxj:all[j]? =some x)(hyi:all[i]? =some y){l:List Nat}(hl:∀k∈l,j<=k/\(k<i->b.testBit k=false))(hxb:b.testBit j=false)(hd:y0l E all σf b i j x y x y=true\/y0l E all σf b i j x y y x=true)(h1:stepG E all x σ=some σ1)(h2:stepG E all y σ1=some σ2)(hf:runI E all l σ2=some σf):
  ∃σ1',stepG E all y σ=some σ1'/\stepG E all x σ1'=some σ2:=by
 have same:∀q,zay all b i j q=true->σf.ρ q=σ.ρ q:=fun q hq=>by
  rw[zo9 hf fun k hk o ho=>z19 hq (hl k hk).1 (hl k hk).2 ho,zdp h2 (z19 hq hij (fun h=>absurd h (d6 _)) hyi),zdp h1 (z19 hq (al _) (fun _=>hxb) hxj)]
 rcases hd with hd | hd
 ·simp only[y0l,ac,bc]at hd
  obtain⟨ha,hc,⟨oy,gy,dy,py⟩,hlf,hm⟩:=hd
  exact yb8 ha hc (.inr oy) gy dy py (fun σ' h=>ycb hg same hc hlf hm h) h1 h2
 ·simp only[y0l,ac,bc]at hd
  obtain⟨ha,hc,⟨ox,gx,dx,px⟩,hlf,hm⟩:=hd
  exact yb7 ha hc (.inr ox) gx dx px (fun σ' h=>ycb hg same hc hlf hm h) h1 h2
theorem ynq{E:Env}{all:Array Oper}{x y:Oper}{σ σ1 σ2 σf:St}{b i j:Nat}(hg:Good σ)(hij:j<=i)(hxj:all[j]? =some x)(hyi:all[i]? =some y){l:List Nat}(hl:∀k∈l,j<=k/\(k<i->b.testBit k=false))(hxb:b.testBit j=false)(hd:y60 E all σf b i j x y=true)(h1:stepG E all x σ=some σ1)(h2:stepG E all y σ1=some σ2)(hf:runI E all l σ2=some σf):
  ∃σ1',stepG E all y σ=some σ1'/\stepG E all x σ1'=some σ2:=by
 simp only[y60,ay]at hd
 rcases hd with hd | hd | hd
 ·exact yno hij hxj hyi hl hxb hd h1 h2 hf
 ·exact ydp hg hij hxj hyi hl hxb hd h1 h2 hf
 ·exact ydo hg hij hxj hyi hl hxb hd h1 h2 hf
theorem yh7{P:Program}{o:Oper}{a:Act}{w:World}{K:Act->World->Prop}(h:o.wpIn (RF none) 0 P a w K fun _ _ _=>False):∃a' w',K a' w':=by
 unfold Oper.wpIn at h
 have h:=h.2
 generalize(o.semAt (RF none).round a.eval).run P w=r at h
 cases r with
 | ok n w'=>
  cases n<;>simp only[Oper.uponIn]at h
  case value v=>exact⟨_,_,h⟩
  case skip=>exact⟨_,_,h⟩
  case defer d=>exact⟨_,_,h⟩
  case enter f args=>
   obtain⟨e,w'',fr,hR,_⟩:=h.2.2 [] (fun _ h=>by cases h)
   cases e with
   | returned v=>exact⟨_,_,hR⟩
   | panicked c=>exact hR.elim
   | outgrown=>obtain⟨_,_,hf⟩:=hR;exact hf.elim
  case row row args=>
   obtain⟨v,w'',hR,_⟩:=h.2 default [] (fun _ h=>by cases h)
   exact⟨_,_,hR⟩
  case round l f tmps c1 c2=>
   obtain⟨e,w'',hR,_⟩:=h.2.2 default [] (fun _ h=>by cases h)
   cases e with
   | returned v=>exact⟨_,_,hR⟩
   | panicked c=>exact hR.elim
   | outgrown=>obtain⟨_,_,hf⟩:=hR;exact hf.elim
 | halt x w'=>cases x<;>simp only[Oper.uponIn]at h
section reg
variable {ro:Option Nat} {P:Program} {E:Env} (hE:EnvOk P E) {all:Array Oper} {Q:Exit->Act->World->Prop}
theorem yh8{X:Cx}{w:World}{S:Nat->Prop}{γ:Nat->Loc}{σ:St}{a:Act}(hrel:Rel X w S γ σ a){o:Oper}{j:Nat}{want:Bool}{t:Tmp}(hg:o.guard=some (j,want))(ht:(all[j]?).bind (·.dst)=some t){b:Bool}(hb:σ.ρ t= .bool b):
  Region.wanted o (yielded all a.tmps)=(b==want):=by
 have h:=hrel.tm t
 rw[hb]at h
 simp only[RepA]at h
 have hq:a.tmps[t]? =some (.bool b):=by
  rw[bL]at h
  cases hq:a.tmps[t]? with
  | none=>rw[hq]at h;simp[undef]at h
  | some v=>rw[hq]at h;simp at h;rw[h]
 simp only[Region.wanted,hg,yielded,ht,ab,hq]
 cases b<;>cases want<;>rfl
theorem ya4{X:Cx}{w:World}{S:Nat->Prop}{γ:Nat->Loc}{σ:St}{a:Act}(hrel:Rel X w S γ σ a){o:Oper}{j:Nat}{want:Bool}{t:Tmp}(hg:o.guard=some (j,want))(ht:(all[j]?).bind (·.dst)=some t)(hb:σ.ρ t= .tup []):
  Region.wanted o (yielded all a.tmps)=false:=by
 have h:=hrel.tm t
 rw[hb]at h
 obtain⟨vs,h1,h2⟩:=h
 rw[show vs=[]from h2]at h1
 rw[bL]at h1
 simp only[Region.wanted,hg,yielded,ht,ab]
 cases hq:a.tmps[t]? with
 | none=>rfl
 | some v=>rw[hq]at h1;simp at h1;rw[h1];rfl
include hE in
theorem y3o{X:Cx}{w:World}{S:Nat->Prop}{γ:Nat->Loc}{σ:St}{a:Act}(hrel:Rel X w S γ σ a){o:Oper}{σ':St}(h:stepG E all o σ=some σ')(hd:zml a.tmps.size o.dst){K:Act->World->Prop}
  (hK:∀a' w' S' γ',Rel X w' S' γ' σ' a'->a'.tmps.size=a.tmps.size->K a' w'):
  if Region.wanted o (yielded all a.tmps)then o.wpIn (RF ro) 0 P a w K Q else K (a.put o.dst undef) w:=by
 unfold stepG at h
 split at h
 ·rename_i hg
  rw[show Region.wanted o (yielded all a.tmps)=true by simp[Region.wanted,hg],if_pos rfl]
  exact ypc hE hrel h hd hK
 ·rename_i j want hg
  split at h
  ·cases h
  ·rename_i t ht
   split at h
   ·rename_i b hb
    rw[yh8 hrel hg ht hb]
    by_cases hbw:b=want
    ·rw[if_pos hbw]at h
     subst hbw
     rw[if_pos (by simp)]
     exact ypc hE hrel h hd hK
    ·rw[if_neg hbw]at h
     rw[if_neg (by simpa using hbw)]
     cases h
     exact hK _ _ S γ (hrel.val (v:= .tup []) (x:=undef) (Below.refl _ _) ⟨[],rfl,rfl⟩ hd) (z8 _ _ _)
   ·rename_i hb
    rw[ya4 hrel hg ht hb,if_neg (by simp)]
    cases h
    exact hK _ _ S γ (hrel.val (v:= .tup []) (x:=undef) (Below.refl _ _) ⟨[],rfl,rfl⟩ hd) (z8 _ _ _)
   ·cases h
include hE in
theorem yi9{X:Cx}{w:World}{S:Nat->Prop}{γ:Nat->Loc}{σ:St}{a:Act}(hrel:Rel X w S γ σ a){o:Oper}{σ':St}(h:stepG E all o σ=some σ')(hd:zml a.tmps.size o.dst):
  ∃w' S' γ' a',Rel X w' S' γ' σ' a'/\a'.tmps.size=a.tmps.size:=by
 have hk:=y3o (ro:=none) hE (Q:=fun _ _ _=>False) hrel h hd (K:=fun a' w'=>∃S' γ',Rel X w' S' γ' σ' a'/\a'.tmps.size=a.tmps.size) fun a' w' S' γ' h1 h2=>⟨S',γ',h1,h2⟩
 split at hk
 ·obtain⟨a',w',S',γ',h1,h2⟩:=yh7 hk
  exact⟨w',S',γ',a',h1,h2⟩
 ·obtain⟨S',γ',h1,h2⟩:=hk
  exact⟨w,S',γ',_,h1,h2⟩
theorem y6h(E:Env)(all:Array Oper):∀(l:List Oper) (k:Nat) (σ:St),(∀j,l[j]? =all[k+j]?)->runG E all l σ=runI E all ((List.range' k l.length)) σ
 | [],_,_,_=>rfl
 | o::l,k,σ,h=>by
  have h0:all[k]? =some o:=(h 0).symm
  simp only[runG,af,List.range'_succ,runI,h0]
  congr 1
  funext σ'
  exact y6h E all l (k+1) σ' fun j=>by have:=h (j+1);rw[cy]at this;rw[this];congr 1;omega
include hE in
theorem y8k:∀(l:List Nat) {X:Cx} {w:World} {S:Nat->Prop} {γ:Nat->Loc} {σ:St} {a:Act} (_:Rel X w S γ σ a) {σ':St} (_:runI E all l σ=some σ') (_:∀(i:Nat) (o:Oper),all[i]? =some o->zml a.tmps.size o.dst)
  (_:∀a' w' S' γ',Rel X w' S' γ' σ' a'->a'.tmps.size=a.tmps.size->Q .normal a' w'),wpOpsIn (RF ro) 0 P all Q l a w
 | [],_,_,S,γ,_,a,hrel,σ',h,_,hQ=>by
  simp only[runI,aR.injEq]at h
  subst h
  exact hQ _ _ S γ hrel rfl
 | i::l,_,_,_,_,σ,a,hrel,σ',h,hd,hQ=>by
  rw[wpOpsIn_cons]
  unfold wpOpIn
  simp only[runI]at h
  cases ho:all[i]? with
  | none=>
   rw[ho]at h
   exact y8k l hrel h hd hQ
  | some o=>
   rw[ho]at h
   simp only at h
   simp only
   cases hs:stepG E all o σ with
   | none=>rw[hs]at h;cases h
   | some σ1=>
    rw[hs]at h
    have hk:=y3o (ro:=ro) hE (Q:=Q) hrel hs (hd i o ho) (K:=wpOpsIn (RF ro) 0 P all Q l) fun a' w' S' γ' h1 h2=>
     y8k l h1 h (fun i o ho=>by rw[h2];exact hd i o ho) fun a'' w'' S'' γ'' k1 k2=>hQ a'' w'' S'' γ'' k1 (k2.trans h2)
    split
    ·rename_i hw;rw[if_pos hw]at hk;exact hk
    ·rename_i hw;rw[if_neg hw]at hk;exact⟨fun _ _=>trivial,hk⟩
theorem ye4{acc:List Nat}{o:Oper}{j:Nat}(h:(y5y acc o).testBit j=true):∃e,e∈o.after.toList/\Region.binds .any e=true/\(j=e.on\/(acc.getD e.on 0).testBit j=true):=by
 unfold y5y at h
 have gen:∀(l:List Edge) (s:Nat),(l.foldl (fun s e=>bif Region.binds .any e then s ||| (2^e.on ||| acc.getD e.on 0)else s) s).testBit j=true->s.testBit j=true\/∃e,e∈l/\Region.binds .any e=true/\(j=e.on\/(acc.getD e.on 0).testBit j=true):=by
  intro l
  induction l with
  | nil=>intro s h;exact .inl h
  | cons e l ih=>
   intro s h
   simp only[aU]at h
   rcases ih _ h with h | ⟨e',h1,h2⟩
   ·cases hb:Region.binds .any e with
    | false=>rw[hb]at h;exact .inl h
    | true=>
     rw[hb]at h
     simp only[cond_true,Nat.testBit_or,ay]at h
     rcases h with h | h | h
     ·exact .inl h
     ·rw[Nat.testBit_two_pow]at h
      exact .inr ⟨e,by simp,hb, .inl (of_decide_eq_true h).symm⟩
     ·exact .inr ⟨e,by simp,hb, .inr h⟩
   ·exact .inr ⟨e',by simp[h1],h2⟩
 rcases gen _ 0 h with h | h
 ·simp at h
 ·exact h
theorem zkr:∀(os:List Oper) (acc:List Nat) (i:Nat),i<acc.length->(zfs os acc).getD i 0=acc.getD i 0
 | [],_,_,_=>rfl
 | o::os,acc,i,h=>by
  simp only[zfs]
  rw[zkr os _ i (by simp;omega)]
  simp[aM,aW h]
theorem y70:∀(os:List Oper) (acc:List Nat) (i j:Nat) (o:Oper),os[i]? =some o->((zfs os acc).getD (acc.length+i) 0).testBit j=true->
  ∃e,e∈o.after.toList/\Region.binds .any e=true/\(j=e.on\/((zfs os acc).getD e.on 0).testBit j=true)
 | [],_,_,_,_,h,_=>by simp at h
 | o'::os,acc,0,j,o,h,hb=>by
  simp only[cx,aR.injEq]at h
  subst h
  simp only[zfs,bG]at hb|-
  rw[zkr os _ _ (by simp)]at hb
  simp only[aM,List.getElem?_concat_length,d9]at hb
  obtain⟨e,h1,h2,h3⟩:=ye4 hb
  refine⟨e,h1,h2,h3.imp id fun h=> ?_⟩
  have hlt:e.on<acc.length:=by
   rcases Nat.lt_or_ge e.on acc.length with h' | h'
   ·exact h'
   ·simp[aM,List.getElem?_eq_none h']at h
  rw[zkr os _ _ (by simp;omega)]
  simpa[aM,aW hlt] using h
 | o'::os,acc,i+1,j,o,h,hb=>by
  simp only[cy]at h
  simp only[zfs]at hb|-
  refine y70 os (acc++[y5y acc o']) i j o h ?_
  have:(acc++[y5y acc o']).length+i=acc.length+(i+1):=by simp;omega
  rw[this];exact hb
include hE in
theorem zrz{b i:Nat}{o:Oper}(ho:all[i]? =some o)(hs:∀(k:Nat) (q:Oper),all[k]? =some q->zf7 q=true):∀(L1 L2:List Nat) {X:Cx} {w:World} {S:Nat->Prop} {γ:Nat->Loc} {σ:St} {a:Act} (_:Rel X w S γ σ a) (_:∀(i:Nat) (o:Oper),all[i]? =some o->zml a.tmps.size o.dst) {σ':St}
  (_:(L1++i::L2).Pairwise (·<·)) (_:runI E all (L1++i::L2) σ=some σ') (_:∀j,j∈L1->∀q,all[j]? =some q->zhz E all q o=true\/y60 E all σ' b i j q o=true) (_:∀j,j∈L1->b.testBit j=false),∃σ1,stepG E all o σ=some σ1/\runI E all (L1++L2) σ1=some σ'
 | [],L2,_,_,_,_,σ,a,_,_,σ',_,h,_,_=>by
  simp only[List.nil_append,runI,ho]at h|-
  cases hst:stepG E all o σ with
  | none=>rw[hst]at h;cases h
  | some σ1=>rw[hst]at h;exact⟨σ1,rfl,h⟩
 | j::L1,L2,X,w,S,γ,σ,a,hrel,hd,σ',hsort,h,hap,hbits=>by
  simp only[List.cons_append,runI]at h|-
  obtain⟨hj1,hj2⟩:=aI.1 hsort
  cases hj:all[j]? with
  | none=>
   rw[hj]at h
   simp only at h|-
   exact zrz ho hs L1 L2 hrel hd hj2 h (fun k hk=>hap k (by simp[hk])) fun k hk=>hbits k (by simp[hk])
  | some q=>
   rw[hj]at h
   simp only at h|-
   cases hq:stepG E all q σ with
   | none=>rw[hq]at h;cases h
   | some σ1=>
    rw[hq]at h
    obtain⟨w',S',γ',a',hrel',hsz⟩:=yi9 hE hrel hq (hd j q hj)
    obtain⟨σ2,k1,k2⟩:=zrz ho hs L1 L2 hrel' (fun i o ho=>by rw[hsz];exact hd i o ho) hj2 h (fun k hk=>hap k (by simp[hk])) fun k hk=>hbits k (by simp[hk])
    have hji:j<=i:=eE (hj1 i (by simp))
    have hrest:∀k∈L1++L2,j<=k/\(k<i->b.testBit k=false):=fun k hk=>⟨eE (hj1 k (by
     rcases ak.1 hk with hk | hk
     ·exact ak.2 (.inl hk)
     ·exact ak.2 (.inr (aF _ hk)))),fun hki=>by
     rcases ak.1 hk with hk1 | hk1
     ·exact hbits k (by simp[hk1])
     ·have:=(aI.1 (bH.1 hj2).2.1).1 k hk1
      omega⟩
    have hxb:=hbits j (by simp)
    rcases(hap j (by simp) q hj)with hh | hh
    ·obtain⟨σ1',z1,z2⟩:=swap ⟨X,w,S,γ,a,hrel⟩ hh (hs j q hj) (hs i o ho) hq k1
     exact⟨σ1',z1,by rw[z2];exact k2⟩
    ·obtain⟨σ1',z1,z2⟩:=ynq ⟨X,w,S,γ,a,hrel⟩ hji hj ho hrest hxb hh hq k1 k2
     exact⟨σ1',z1,by rw[z2];exact k2⟩
def remI(all:Array Oper)(listed:Array Bool):List Nat:=(bR all.size).filter fun i=> !listed.getD i true
structure OpenOk (E:Env) (all:Array Oper) (σf:St):Prop where
 small:∀(k:Nat) (q:Oper),all[k]? =some q->zf7 q=true
 edge:∀(i:Nat) (o:Oper),all[i]? =some o->∀e,e∈o.after.toList->Region.binds .any e=true->e.on<i
 pair:∀(i j:Nat) (x y:Oper),j<i->all[j]? =some x->all[i]? =some y->((zfs all.toList []).getD i 0).testBit j=true\/(zhz E all x y=true\/y60 E all σf ((zfs all.toList []).getD i 0) i j x y=true)
theorem y2e(h:yj7 all=true):(∀(k:Nat) (q:Oper),all[k]? =some q->zf7 q=true)/\∀(i:Nat) (o:Oper),all[i]? =some o->∀e,e∈o.after.toList->Region.binds .any e=true->e.on<i:=by
 unfold yj7 at h
 simp only[ac,az,bM]at h
 obtain⟨h1,h2⟩:=h
 refine⟨fun k q hq=> ?_,fun i o ho e he hb=> ?_⟩
 ·rw[Array.all_eq_true]at h1
  obtain⟨hk,e⟩:=bh.1 hq
  rw[<-e];exact h1 k hk
 ·obtain⟨hi,_⟩:=bh.1 ho
  have:=h2 i hi
  rw[ho]at this
  simp only[az]at this
  have:=this e he
  rw[hb]at this
  simpa using this
theorem openPairs_spec{i j:Nat}{x y:Oper}(hj:j<i)(hx:all[j]? =some x)(hy:all[i]? =some y):((zfs all.toList []).getD i 0).testBit j=true\/(zhz E all x y=true\/(j,i)∈zp3 E all):=by
 obtain⟨hi,_⟩:=bh.1 hy
 cases h1:((zfs all.toList []).getD i 0).testBit j
 ·cases h2:zhz E all x y
  ·refine .inr (.inr ?_)
   unfold zp3
   refine List.mem_flatMap.2 ⟨i,bM.2 hi,aH.2 ⟨j,aB.2 ⟨bM.2 hj, ?_⟩,rfl⟩⟩
   rw[hx,hy]
   simp only[h1,h2,Bool.or_self,Bool.not_false]
  ·exact .inr (.inl rfl)
 ·exact .inl rfl
theorem yan(h:yf7 E all=true)(σf:St):OpenOk E all σf:=by
 unfold yf7 at h
 simp only[ac,cP]at h
 obtain⟨h1,h2⟩:=h
 obtain⟨a1,a2⟩:=y2e h1
 refine⟨a1,a2,fun i j x y hj hx hy=> ?_⟩
 rcases openPairs_spec (E:=E) hj hx hy with h | h | h
 ·exact .inl h
 ·exact .inr (.inl h)
 ·rw[h2]at h;cases h
theorem y87{σf:St}(h:y8p E all σf=true):OpenOk E all σf:=by
 unfold y8p at h
 simp only[ac,az]at h
 obtain⟨h1,h2⟩:=h
 obtain⟨a1,a2⟩:=y2e h1
 refine⟨a1,a2,fun i j x y hj hx hy=> ?_⟩
 rcases openPairs_spec (E:=E) hj hx hy with h | h | h
 ·exact .inl h
 ·exact .inr (.inl h)
 ·have:=h2 _ h
  simp only[hx,hy]at this
  exact .inr (.inr this)
theorem zrq(listed:Array Bool):(remI all listed).Pairwise (·<·):=bi.filter _ List.pairwise_lt_range
theorem zpt{listed:Array Bool}{i:Nat}:i∈remI all listed↔i<all.size/\listed.getD i true=false:=by simp[remI]
theorem zx4{listed:Array Bool}{i:Nat}{s t:List Nat}(hsz:listed.size=all.size)(h:remI all listed=s++i::t):remI all (listed.setIfInBounds i true)=s++t:=by
 have hsort:=zrq (all:=all) listed
 rw[h]at hsort
 obtain⟨p1,p2,p3⟩:=bH.1 hsort
 have hi:i<all.size:=(zpt.1 (by rw[h];simp:i∈remI all listed)).1
 have e:remI all (listed.setIfInBounds i true)=(remI all listed).filter fun k=>k !=i:=by
  unfold remI
  rw[List.filter_filter]
  apply List.filter_congr
  intro k hk
  simp only[bM]at hk
  by_cases hki:k=i
  ·subst hki
   simp[hsz,hk]
  ·have:(listed.setIfInBounds i true).getD k true=listed.getD k true:=by
    simp only[bL]
    rw[Array.getElem?_setIfInBounds_ne (Ne.symm hki)]
   rw[this]
   simp[hki]
 rw[e,h,List.filter_append,List.filter_cons]
 have h1:s.filter (fun k=>k !=i)=s:=cn.2 fun k hk=>by have:=p3 k hk i (by simp);simp;omega
 have h2:t.filter (fun k=>k !=i)=t:=cn.2 fun k hk=>by have:=(aI.1 p2).1 k hk;simp;omega
 rw[h1,h2]
 simp
include hE in
theorem ztv{σ':St}(hO:OpenOk E all σ'):∀(fuel:Nat) (listed:Array Bool) {X:Cx} {w:World} {S:Nat->Prop} {γ:Nat->Loc} {σ:St} {a:Act} (_:Rel X w S γ σ a) (_:listed.size=all.size) (_:(remI all listed).length<=fuel)
  (_:∀(k j:Nat),listed.getD k false=true->((zfs all.toList []).getD k 0).testBit j=true->listed.getD j false=true) (_:runI E all (remI all listed) σ=some σ') (_:∀(i:Nat) (o:Oper),all[i]? =some o->zml a.tmps.size o.dst)
  (_:∀a' w' S' γ',Rel X w' S' γ' σ' a'->a'.tmps.size=a.tmps.size->Q .normal a' w'),wpAnyIn (RF ro) 0 P .any all Q fuel listed a w
 | fuel,listed,X,w,S,γ,σ,a,hrel,hsz,hlen,hdown,hrun,hd,hQ=>by
  have done:remI all listed=[]->Q .normal a w:=by
   intro h0
   rw[h0]at hrun
   simp only[runI,aR.injEq]at hrun
   subst hrun
   exact hQ a w S γ hrel rfl
  have toF:∀{i:Nat},i<all.size->listed.getD i true=false->listed.getD i false=false:=by
   intro i hi h
   have hi':i<listed.size:=by omega
   simp[hi']at h|-
   exact h
  have ofF:∀{i:Nat},i<all.size->listed.getD i false=false->listed.getD i true=false:=by
   intro i hi h
   have hi':i<listed.size:=by omega
   simp[hi']at h|-
   exact h
  have ready0:Region.ready .any all listed=[]->remI all listed=[]:=by
   intro hr
   cases hrem:remI all listed with
   | nil=>rfl
   | cons i t=>
    exfalso
    have hi:i∈remI all listed:=by rw[hrem];simp
    obtain⟨hi1,hi2⟩:=zpt.1 hi
    have:i∈Region.ready .any all listed:=by
     unfold Region.ready
     simp only[aB,bM,ac,aw]
     refine⟨hi1,hi2, ?_⟩
     have ho:all[i]? =some all[i]:=dX hi1
     rw[ho]
     simp only[aT,d9]
     rw[<-e8]
     simp only[az,ay,aw]
     intro e he
     cases hb:Region.binds .any e with
     | false=>exact .inl rfl
     | true=>
      right
      have hlt:=hO.edge i _ ho e he hb
      cases hq:listed.getD e.on false with
      | true=>rfl
      | false=>
       exfalso
       have hm:e.on∈remI all listed:=zpt.2 ⟨by omega,ofF (by omega) hq⟩
       have hsort:=zrq (all:=all) listed
       rw[hrem]at hsort hm
       rcases am.1 hm with e1 | e1
       ·omega
       ·have:=(aI.1 hsort).1 _ e1;omega
    rw[hr]at this
    cases this
  cases fuel with
  | zero=>
   have h0:remI all listed=[]:=List.eq_nil_of_length_eq_zero (by omega)
   refine⟨?_,done h0⟩
   cases hr:Region.ready .any all listed with
   | nil=>rfl
   | cons i t=>
    exfalso
    have hi:i∈Region.ready .any all listed:=by rw[hr];simp
    unfold Region.ready at hi
    simp only[aB,bM,ac,aw]at hi
    have:i∈remI all listed:=zpt.2 ⟨hi.1,hi.2.1⟩
    rw[h0]at this;cases this
  | succ fuel=>
   refine⟨fun hr=>done (ready0 hr),fun i hi=> ?_⟩
   have hi':=hi
   unfold Region.ready at hi'
   simp only[aB,bM,ac,aw]at hi'
   obtain⟨hi1,hi2,hi3⟩:=hi'
   have ho:all[i]? =some all[i]:=dX hi1
   rw[ho]at hi3
   simp only[aT,d9]at hi3
   rw[<-e8]at hi3
   simp only[az,ay,aw]at hi3
   have hmem:i∈remI all listed:=zpt.2 ⟨hi1,hi2⟩
   obtain⟨s,t,hst⟩:=List.append_of_mem hmem
   have hsort:=zrq (all:=all) listed
   rw[hst]at hsort
   obtain⟨_,_,p3⟩:=bH.1 hsort
   have hbit:∀j,((zfs all.toList []).getD i 0).testBit j=true->listed.getD j false=true:=by
    intro j hj
    obtain⟨e,e1,e2,e3⟩:=y70 all.toList [] i j all[i] (by simp[hi1]) (by simpa using hj)
    have hon:listed.getD e.on false=true:=by
     rcases hi3 e e1 with h | h
     ·rw[e2]at h;cases h
     ·exact h
    rcases e3 with rfl | e3
    ·exact hon
    ·exact hdown e.on j hon e3
   rw[hst]at hrun
   have hbits:∀j,j∈s->((zfs all.toList []).getD i 0).testBit j=false:=fun j hj=>by
    cases h:((zfs all.toList []).getD i 0).testBit j
    ·rfl
    ·exfalso
     have h1:=hbit j h
     have h2:j∈remI all listed:=by rw[hst];simp[hj]
     obtain⟨h3,h4⟩:=zpt.1 h2
     rw[toF h3 h4]at h1;cases h1
   obtain⟨σ1,k1,k2⟩:=zrz hE ho hO.small s t hrel hd hsort hrun (fun j hj q hq=>by
    have hlt:j<i:=p3 j hj i (by simp)
    rcases hO.pair i j q all[i] hlt hq ho with h | h
    ·exfalso
     rw[hbits j hj]at h;cases h
    ·exact h) hbits
   have hdown':∀(k j:Nat),(listed.setIfInBounds i true).getD k false=true->((zfs all.toList []).getD k 0).testBit j=true->(listed.setIfInBounds i true).getD j false=true:=by
    intro k j hk hb
    by_cases e:k=i
    ·subst e;exact getD_set_true (hbit j hb)
    ·rw[getD_set_ne false (Ne.symm e)]at hk
     exact getD_set_true (hdown k j hk hb)
   have hlen':(remI all (listed.setIfInBounds i true)).length<=fuel:=by
    rw[zx4 hsz hst]
    rw[hst]at hlen
    simp at hlen|-
    omega
   have hk:=y3o (ro:=ro) hE (Q:=Q) hrel k1 (hd i _ ho) (K:=wpAnyIn (RF ro) 0 P .any all Q fuel (listed.setIfInBounds i true)) fun a' w' S' γ' h1 h2=>
    ztv hO fuel (listed.setIfInBounds i true) h1 (by simpa using hsz) hlen' hdown' (by rw[zx4 hsz hst];exact k2) (fun i o ho=>by rw[h2];exact hd i o ho) fun a'' w'' S'' γ'' z1 z2=>hQ a'' w'' S'' γ'' z1 (z2.trans h2)
   unfold wpOpIn
   rw[ho]
   simp only
   split
   ·rename_i hw;rw[if_pos hw]at hk;exact hk
   ·rename_i hw;rw[if_neg hw]at hk;exact⟨fun _ _=>trivial,hk⟩
include hE in
theorem yhk(hmix:P.follows .mixedOrders=true){id:Nat}{draw:Bool}{X:Cx}{w:World}{S:Nat->Prop}{γ:Nat->Loc}{σ:St}{a:Act}(hrel:Rel X w S γ σ a){σ':St}(hdr:draw=true->OpenOk E all σ')(hrun:runG E all all.toList σ=some σ')
  (hd:∀(i:Nat) (o:Oper),all[i]? =some o->zml a.tmps.size o.dst) (hQ:∀a' w' S' γ',Rel X w' S' γ' σ' a'->a'.tmps.size=a.tmps.size->Q .normal a' w'):(Code.region id all draw).wpIn (RF ro) 0 P Q a w:=by
 have hr:runI E all (bR all.size) σ=some σ':=by
  rw[y6h E all all.toList 0 σ (fun j=>by simp)]at hrun
  rw[List.range_eq_range']
  simpa using hrun
 cases draw with
 | false=>exact wpIn_region (y8k hE _ hrel hr hd hQ)
 | true=>
  have hO:=hdr rfl
  have hrel':Rel X {w with drawn:=w.drawn+1} S γ σ a:=by
   have hb:Below w.heap.size w {w with drawn:=w.drawn+1}:=⟨rfl,rfl,rfl,al _,fun _ _=>rfl⟩
   refine⟨hrel.mem.grow hb,fun t=>RepA.mono (w:=w) (w':={w with drawn:=w.drawn+1}) (fun _ _=>rfl) (fun _ h=>h) (Keeps.refl _ _) _ _ (hrel.tm t),hrel.below.trans (Below.bel hb hrel.size_le),hrel.base_le,hrel.s0,hrel.snew,MarksOk.mono (w:=w) (w':={w with drawn:=w.drawn+1}) (S:=S) (fun _ _ h=>h) (fun _ _ h=>h) hrel.defers,hrel.pin,hrel.pnhi,hrel.small⟩
  have hrem:remI all (cD all.size false)=bR all.size:=by
   unfold remI
   rw[cn]
   intro i hi
   simp only[bM]at hi
   simp[hi]
  refine wpIn_region_any hmix (ztv hE hO all.size (cD all.size false) hrel' (by simp) (by rw[hrem];simp) (fun k j hk _=> ?_) (by rw[hrem];exact hr) hd hQ)
  exfalso
  simp only[bL]at hk
  by_cases hk':k<all.size
  ·simp[hk']at hk
  ·simp[hk']at hk
end reg
variable {R:Type}
structure Lp where
 T:Type
 dom:St->Option (Option T)
 out:{R:Type}->T->(Ex->St->Option R)->Option R
def Lp.run(l:Lp)(σ:St)(K:Ex->St->Option R):Option R:=
 match l.dom σ with
 | some o=>match o with
  | some t=>l.out t K
  | none=>none
 | none=>none
abbrev Lps:=Nat->Option Lp
def viaA(l:Option Lp)(σ:St)(K:Ex->St->Option R)(d:Option R):Option R:=
 match l with
 | some l=>l.run σ K
 | none=>d
def zcj(E:Env)(Λ:Lps):Code->Nat->St->(Ex->St->Option R)->Option R
 | .skip,p,σ,K=>viaA (Λ p) σ K (K .normal σ)
 | .label _,p,σ,K=>viaA (Λ p) σ K (K .normal σ)
 | .region id ops draw,p,σ,K=>viaA (Λ p) σ K (bif !draw || yf7 E ops then opsA E ops ops.toList ⟨σ.ρ,stillR σ.m (E.still id)⟩ (K .normal)else opsA E ops ops.toList ⟨σ.ρ,stillR σ.m (E.still id)⟩ fun σ'=>gd (y8p E ops σ') (K .normal σ'))
 | .seq a b,p,σ,K=>viaA (Λ p) σ K (zcj E Λ a (2*p) σ fun e σ'=>match e with
  | .normal=>zcj E Λ b (2*p+1) σ' K
  | .exit i=>K (.exit i) σ'
  | .ret=>K .ret σ')
 | .cond c x y,p,σ,K=>viaA (Λ p) σ K (match c with
  | .tmp t=>match σ.ρ t with
   | .bool b=>bif b then zcj E Λ x (2*p) (σ.set t (.bool true)) K else zcj E Λ y (2*p+1) (σ.set t (.bool false)) K
   | _=>none
  | _=>none)
 | .block id c,p,σ,K=>viaA (Λ p) σ K (zcj E Λ c (2*p) σ fun e σ'=>match e with
  | .exit i=>bif aC i id then K .normal σ' else K (.exit i) σ'
  | .normal=>K .normal σ'
  | .ret=>K .ret σ')
 | .scope c,p,σ,K=>viaA (Λ p) σ K (zcj E Λ c (2*p) σ K)
 | .exit id,p,σ,K=>viaA (Λ p) σ K (K (.exit id) σ)
 | .ret,p,σ,K=>viaA (Λ p) σ K (K .ret σ)
 | .loop _,p,σ,K=>viaA (Λ p) σ K none
 | .rangeFunc ..,p,σ,K=>viaA (Λ p) σ K none
 | .goto _,p,σ,K=>viaA (Λ p) σ K none
 | .refuse _,p,σ,K=>viaA (Λ p) σ K none
def Ex.mod:Ex->Exit
 | .normal=> .normal
 | .exit id=> .exit id
 | .ret=> .ret
def Post(X:Cx)(n:Nat)(K:Ex->St->Option R)(r:R):Exit->Act->World->Prop:=
 fun e a w=>∃e' σ' S' γ',e=e'.mod/\Rel X w S' γ' σ' a/\a.tmps.size=n/\K e' σ'=some r
def LpOk(P:Program)(n:Nat)(ro:Option Nat)(l:Lp)(c:Code):Prop:=
 ∀{R:Type} {X:Cx} {w:World} {S:Nat->Prop} {γ:Nat->Loc} {σ:St} {a:Act} {K:Ex->St->Option R} {r:R},
  Rel X w S γ σ a->a.tmps.size=n->l.run σ K=some r->c.wpIn (RF ro) 0 P (Post X n K r) a w
def obs1(Λ:Lps)(c:Code)(p:Nat):List (Lp×Code):=match Λ p with | some l=>[(l,c)] | none=>[]
def obs(Λ:Lps):Code->Nat->List (Lp×Code)
 | .seq a b,p=>obs1 Λ (.seq a b) p++(obs Λ a (2*p)++obs Λ b (2*p+1))
 | .cond c a b,p=>obs1 Λ (.cond c a b) p++(obs Λ a (2*p)++obs Λ b (2*p+1))
 | .block id c,p=>obs1 Λ (.block id c) p++obs Λ c (2*p)
 | .scope c,p=>obs1 Λ (.scope c) p++obs Λ c (2*p)
 | c,p=>obs1 Λ c p
def z41(n:Nat):Code->Bool
 | .seq a b=>z41 n a&&z41 n b
 | .cond _ a b=>z41 n a&&z41 n b
 | .block _ c=>z41 n c
 | .scope c=>z41 n c
 | .region _ ops _=>ops.toList.all fun o=>match o.dst with | some d=>cE d n | none=>true
 | _=>true
section scope
variable {F:Fence} {n:Nat} {P:Program} {b:Frame} {a:Act} {k:List Item} {cs:List Frame} {w:World} {Q:Exit->Act->World->Prop}
theorem zb3{c:Code}:step P (lone (b.atR a (.code (.scope c)::k)) cs w)= .next (lone (b.atR a (.code c:: .inScope c::k)) cs w):=
 step_lone_go (by simp[_root_.Go.stepG,_root_.Go.stepG.exec,Frame.atR])
theorem y4p{c:Code}:step P (lone (b.atR a (.inScope c::k)) cs w)= .next (lone (b.atR a k) cs w):=
 step_lone_go (by simp[_root_.Go.stepG,_root_.Go.stepG.exec,Frame.atR])
theorem zo3{c:Code}(h:c.wpIn F n P (Exit.noGoto Q) a w):(Code.scope c).wpIn F n P Q a w:=by
 intro b k cs hro hb hr
 have h0:(lone (b.atR a (.code (.scope c)::k)) cs w).fenced P F:=fenced_calm hb hr rfl
 obtain⟨e,a₁,w₁,hq,harr⟩:=h b (.inScope c::k) cs hro hb hr
 cases e with
 | normal=>exact⟨.normal,a₁,w₁,hq, .head h0 zb3 (StepsIn.trans harr (.one (fenced_calm hb hr rfl) y4p))⟩
 | exit id=>
  have hx:exitTo id (.inScope c::k)=exitTo id k:=by simp[exitTo]
  exact⟨_,a₁,w₁,hq,fun k' hk=> .head h0 zb3 (harr.1 k' (by rw[hx];exact hk)),
   fun hr' hk=>let⟨k₁,h1,h2⟩:=harr.2 hr' (by rw[hx];exact hk);⟨k₁,h1, .head h0 zb3 h2⟩⟩
 | goto l=>exact hq.elim
 | ret=>exact⟨_,a₁,w₁,hq, .of_steps (.one h0 zb3) harr⟩
 | panic ch=>exact⟨_,a₁,w₁,hq, .of_steps (.one h0 zb3) harr⟩
 | outgrown=>exact⟨_,a₁,w₁,hq, .of_steps (.one h0 zb3) harr⟩
end scope
section code
variable {ro:Option Nat} {P:Program} {E:Env} (hE:EnvOk P E) (hmix:P.follows .mixedOrders=true) {Λ:Lps} {n:Nat}
theorem z40{c:Code}{p:Nat}(ho:∀x,x∈obs1 Λ c p->LpOk P n ro x.1 x.2){X:Cx}{w:World}{S:Nat->Prop}{γ:Nat->Loc}{σ:St}{a:Act}{K:Ex->St->Option R}{r:R}{d:Option R}
  (hrel:Rel X w S γ σ a) (hn:a.tmps.size=n) (h:viaA (Λ p) σ K d=some r) (hd:d=some r->c.wpIn (RF ro) 0 P (Post X n K r) a w):c.wpIn (RF ro) 0 P (Post X n K r) a w:=by
 unfold viaA at h
 unfold obs1 at ho
 cases hp:Λ p with
 | none=>rw[hp]at h;exact hd h
 | some l=>
  rw[hp]at h ho
  exact ho (l,c) (by simp) hrel hn h
include hE hmix in
theorem z2p:∀(c:Code) (p:Nat) (_:∀x,x∈obs Λ c p->LpOk P n ro x.1 x.2) (_:z41 n c=true) {R:Type} {X:Cx} {w:World} {S:Nat->Prop} {γ:Nat->Loc} {σ:St} {a:Act} {K:Ex->St->Option R} {r:R}
  (_:Rel X w S γ σ a) (_:a.tmps.size=n) (_:zcj E Λ c p σ K=some r),c.wpIn (RF ro) 0 P (Post X n K r) a w
 | .skip,p,ho,hd,_,X,w,S,γ,σ,a,K,r,hrel,hn,h=>z40 ho hrel hn h fun h=>wpIn_skip ⟨.normal,σ,S,γ,rfl,hrel,hn,h⟩
 | .label _,p,ho,hd,_,X,w,S,γ,σ,a,K,r,hrel,hn,h=>z40 ho hrel hn h fun h=>wpIn_label ⟨.normal,σ,S,γ,rfl,hrel,hn,h⟩
 | .exit id,p,ho,hd,_,X,w,S,γ,σ,a,K,r,hrel,hn,h=>z40 ho hrel hn h fun h=>wpIn_exit ⟨.exit id,σ,S,γ,rfl,hrel,hn,h⟩
 | .ret,p,ho,hd,_,X,w,S,γ,σ,a,K,r,hrel,hn,h=>z40 ho hrel hn h fun h=>wpIn_ret ⟨.ret,σ,S,γ,rfl,hrel,hn,h⟩
 | .loop _,p,ho,hd,_,X,w,S,γ,σ,a,K,r,hrel,hn,h=>z40 ho hrel hn h fun h=>by cases h
 | .rangeFunc ..,p,ho,hd,_,X,w,S,γ,σ,a,K,r,hrel,hn,h=>z40 ho hrel hn h fun h=>by cases h
 | .goto _,p,ho,hd,_,X,w,S,γ,σ,a,K,r,hrel,hn,h=>z40 ho hrel hn h fun h=>by cases h
 | .refuse _,p,ho,hd,_,X,w,S,γ,σ,a,K,r,hrel,hn,h=>z40 ho hrel hn h fun h=>by cases h
 | .scope c,p,ho,hd,_,X,w,S,γ,σ,a,K,r,hrel,hn,h=>by
  refine z40 (fun x hx=>ho x (by simp only[obs,ak];exact .inl hx)) hrel hn h fun h=> ?_
  refine zo3 (wpIn_mono (z2p c (2*p) (fun x hx=>ho x (by simp only[obs,ak];exact .inr hx)) hd hrel hn h) ?_)
  rintro e a' w' ⟨e',σ',S',γ',rfl,h1,h2,h3⟩
  cases e'<;>exact⟨_,σ',S',γ',rfl,h1,h2,h3⟩
 | .block id c,p,ho,hd,_,X,w,S,γ,σ,a,K,r,hrel,hn,h=>by
  refine z40 (fun x hx=>ho x (by simp only[obs,ak];exact .inl hx)) hrel hn h fun h=> ?_
  refine wpIn_block (wpIn_mono (z2p c (2*p) (fun x hx=>ho x (by simp only[obs,ak];exact .inr hx)) hd hrel hn h) ?_)
  rintro e a' w' ⟨e',σ',S',γ',rfl,h1,h2,h3⟩
  cases e' with
  | normal=>exact⟨.normal,σ',S',γ',rfl,h1,h2,h3⟩
  | ret=>exact⟨.ret,σ',S',γ',rfl,h1,h2,h3⟩
  | exit i=>
   simp only[Ex.mod,Exit.inBlock]
   rcases bif_some h3 with⟨e,h3⟩ | ⟨e,h3⟩
   ·rw[if_pos (ah e)]
    exact⟨.normal,σ',S',γ',rfl,h1,h2,h3⟩
   ·rw[if_neg (fun q=>by rw[q,cM]at e;cases e)]
    exact⟨.exit i,σ',S',γ',rfl,h1,h2,h3⟩
 | .seq x y,p,ho,hd,_,X,w,S,γ,σ,a,K,r,hrel,hn,h=>by
  refine z40 (fun x hx=>ho x (by simp only[obs,ak];exact .inl hx)) hrel hn h fun h=> ?_
  simp only[z41,ac]at hd
  refine wpIn_seq (wpIn_mono (z2p x (2*p) (fun x hx=>ho x (by simp only[obs,ak];exact .inr (.inl hx))) hd.1 hrel hn h) ?_)
  rintro e a' w' ⟨e',σ',S',γ',rfl,h1,h2,h3⟩
  cases e' with
  | normal=>exact z2p y (2*p+1) (fun x hx=>ho x (by simp only[obs,ak];exact .inr (.inr hx))) hd.2 h1 h2 h3
  | ret=>exact⟨.ret,σ',S',γ',rfl,h1,h2,h3⟩
  | exit i=>exact⟨.exit i,σ',S',γ',rfl,h1,h2,h3⟩
 | .cond c x y,p,ho,hd,_,X,w,S,γ,σ,a,K,r,hrel,hn,h=>by
  refine z40 (fun x hx=>ho x (by simp only[obs,ak];exact .inl hx)) hrel hn h fun h=> ?_
  simp only[z41,ac]at hd
  cases c with
  | tmp t=>
   simp only at h
   split at h
   ·rename_i b hb
    have hv:a.eval (.tmp t)= .bool b:=by
     have:=hrel.tm t
     rw[hb]at this
     exact this
    have hset:σ.set t (.bool b)=σ:=y3q hb
    refine wpIn_cond hv ?_
    cases b with
    | true=>
     simp only[cond_true]at h
     rw[hset]at h
     exact z2p x (2*p) (fun x hx=>ho x (by simp only[obs,ak];exact .inr (.inl hx))) hd.1 hrel hn h
    | false=>
     simp only[cond_false]at h
     rw[hset]at h
     exact z2p y (2*p+1) (fun x hx=>ho x (by simp only[obs,ak];exact .inr (.inr hx))) hd.2 hrel hn h
   ·cases h
  | _=>cases h
 | .region id ops draw,p,ho,hd,_,X,w,S,γ,σ,a,K,r,hrel,hn,h=>by
  refine z40 ho hrel hn h fun h=> ?_
  obtain⟨σ',h1,h2,h3⟩:∃σ',(draw=true->OpenOk E ops σ')/\runG E ops ops.toList ⟨σ.ρ,Dv.stillR σ.m (E.still id)⟩=some σ'/\K .normal σ'=some r:=by
   rcases bif_some h with⟨e,h⟩ | ⟨_,h⟩
   ·obtain⟨σ',h2,h3⟩:=y3w E ops ops.toList _ _ r h
    refine⟨σ',fun hd=> ?_,h2,h3⟩
    rw[hd]at e
    exact yan (by simpa using e) σ'
   ·obtain⟨σ',h2,h3⟩:=y3w E ops ops.toList _ _ r h
    obtain⟨h4,h5⟩:=W0 h3
    exact⟨σ',fun _=>y87 h4,h2,h5⟩
  obtain⟨S1,hrel1⟩:=Rel.stillR (E.still id) hrel
  refine yhk hE hmix hrel1 h1 h2 (fun i o hi=> ?_) fun a' w' S' γ' k1 k2=>⟨.normal,σ',S',γ',rfl,k1,k2.trans hn,h3⟩
  simp only[z41,az]at hd
  have:=hd o (by
   obtain⟨hi',e⟩:=bh.1 hi
   rw[<-e];simp)
  cases hdst:o.dst with
  | none=>trivial
  | some d=>
   rw[hdst]at this
   show d<a.tmps.size
   rw[hn];simpa[cQ] using this
end code
variable {R:Type}
def getC(c:Cut)(σ:St):Option c.T:=getM c σ.ρ (stillL σ.m c.sts)
section cut
variable {w:World} {S:Nat->Prop} {γ:Nat->Loc} {m:Nat->Option MO} {rl:List (Nat×Option Nat)} {m':Nat->Option MO} {γ':Nat->Loc}
theorem y94{X:Cx}{σ:St}{a:Act}(h:Rel X w S γ σ a){c:Cut}{v:c.T}(hc:getM c σ.ρ σ.m=some v):∃γ',Rel X w S γ' (mkC c v) a:=by
 unfold getM at hc
 obtain⟨γ',g1,_,k1,k2,hq,hdist⟩:=y90 (g:=fun src n=>bif ci 5000000 n then some n else zos σ.ρ σ.m src) h.mem h.tm (ybo c.objs) hc
 refine⟨γ',k1,fun t=>zoo t k2,h.below,h.base_le,h.s0,h.snew,h.defers,fun n q l hn hl=> ?_,h.pnhi,h.small⟩
 have hhi:=h.pnhi n l hl
 have hself:∀{e},z00 n (renL σ.ρ σ.m c.objs)=some e->e=some n:=fun {e} h=>ybn hhi h
 rcases hq n q hn with⟨d',t,xs,k1,k2,rfl⟩ | ⟨t,k1,rfl⟩ | ⟨d',l',cs,s,z,k1,k2,k3,rfl⟩ | ⟨d',l',cs,id,ee,z,k1,k2,k3,rfl⟩
 ·have:=hself k1;cases this
  obtain⟨p1,p2⟩:=h.pin _ _ l k2 hl
  exact⟨(g1 _ _ k1).trans p1,p2⟩
 ·have:=hself k1;cases this
 ·have:=hself k1;cases this
  obtain⟨p1,p2⟩:=h.pin _ _ l k2 hl
  exact⟨(g1 _ _ k1).trans p1,p2⟩
 ·have:=hself k1;cases this
  obtain⟨p1,p2⟩:=h.pin _ _ l k2 hl
  exact⟨(g1 _ _ k1).trans p1,p2⟩
theorem zql{X:Cx}{σ:St}{a:Act}(h:Rel X w S γ σ a){c:Cut}{v:c.T}(hc:getC c σ=some v):∃S' γ',Rel X w S' γ' (mkC c v) a:=by
 obtain⟨S',h'⟩:=Rel.stillL c.sts h
 obtain⟨γ',h''⟩:=y94 h' hc
 exact⟨S',γ',h''⟩
end cut
variable {R:Type}
def OutT(o:Nat×Cut):List (Nat×Cut)->Type
 | []=>o.2.T
 | o'::r=>o.2.T⊕OutT o' r
def z7j(o:Nat×Cut):(l:List (Nat×Cut))->Ex->St->Option (OutT o l)
 | [],e,σ=>bif aC e.key o.1 then getC o.2 σ else none
 | o'::r,e,σ=>bif aC e.key o.1 then(match getC o.2 σ with | some v=>some (.inl v) | none=>none)else(match z7j o' r e σ with | some v=>some (.inr v) | none=>none)
def y0g(o:Nat×Cut):(l:List (Nat×Cut))->OutT o l->(Ex->St->Option R)->Option R
 | [],t,K=>K (y1x o.1) (mkC o.2 t)
 | o'::r,t,K=>match t with
  | .inl v=>K (y1x o.1) (mkC o.2 v)
  | .inr v=>y0g o' r v K
theorem y5u{X:Cx}{w:World}{S:Nat->Prop}{γ:Nat->Loc}{σ:St}{a:Act}(h:Rel X w S γ σ a){e:Ex}{K:Ex->St->Option R}{r:R}:
  ∀{l:List (Nat×Cut)} {o:Nat×Cut} {t:OutT o l},z7j o l e σ=some t->y0g o l t K=some r->∃σ' S' γ',Rel X w S' γ' σ' a/\K e σ'=some r
 | [],o,t,hg,ho=>by
  have hg:(bif aC e.key o.1 then getC o.2 σ else none)=some t:=hg
  rcases bif_some hg with⟨hb,hg⟩ | ⟨_,hg⟩
  ·obtain⟨S',γ',h'⟩:=zql h hg
   refine⟨_,S',γ',h', ?_⟩
   simp only[y0g]at ho
   rw[<-ah hb,zop]at ho
   exact ho
  ·cases hg
 | o'::l,o,t,hg,ho=>by
  rcases bif_some (by simpa only[z7j] using hg)with⟨hb,hg⟩ | ⟨_,hg⟩
  ·split at hg
   ·rename_i v hv
    cases hg
    obtain⟨S',γ',h'⟩:=zql h hv
    refine⟨_,S',γ',h', ?_⟩
    simp only[y0g]at ho
    rw[<-ah hb,zop]at ho
    exact ho
   ·cases hg
  ·split at hg
   ·rename_i v hv
    cases hg
    exact y5u h hv ho
   ·cases hg
def lpOf(cin:Cut)(o:Nat×Cut)(l:List (Nat×Cut))(F:cin.T->Option (OutT o l)):Lp where
 T:=OutT o l
 dom:=fun σ=>match getC cin σ with | some v=>some (F v) | none=>none
 out:=fun t K=>y0g o l t K
def iter{A T:Type}(f:(A->Option T)->A->Option T):Nat->A->Option T
 | 0,_=>none
 | n+1,a=>f (iter f n) a
section loop
variable {ro:Option Nat} {P:Program} {E:Env} (hE:EnvOk P E) (hmix:P.follows .mixedOrders=true) {Λ:Lps} {nt:Nat}
include hE hmix in
theorem ybu{c:Code}{p:Nat}(hobs:∀x,x∈obs Λ c p->LpOk P nt ro x.1 x.2)(hd:z41 nt c=true){cin:Cut}{o:Nat×Cut}{l:List (Nat×Cut)}{F:cin.T->Option (OutT o l)}
  (hF:∀v,F v=zcj E Λ c p (mkC cin v) (z7j o l)):LpOk P nt ro (lpOf cin o l F) c:=by
 intro R X w S γ σ a K r hrel hn h
 simp only[Lp.run,lpOf]at h
 split at h
 ·rename_i o' ho'
  split at ho'
  ·rename_i v hv
   cases ho'
   split at h
   ·rename_i t ht
    obtain⟨S1,γ',hrel'⟩:=zql hrel hv
    rw[hF]at ht
    refine wpIn_mono (z2p hE hmix c p hobs hd hrel' hn ht) ?_
    rintro e a' w' ⟨e',σ',S',γ'',rfl,h1,h2,h3⟩
    obtain⟨σ'',S3,γ3,k1,k2⟩:=y5u h1 h3 h
    exact⟨e',σ'',S3,γ3,rfl,k1,h2,k2⟩
   ·cases h
  ·cases ho'
 ·cases h
include hE hmix in
theorem yhw{c:Code}{p:Nat}(hobs:∀x,x∈obs Λ c p->LpOk P nt ro x.1 x.2)(hd:z41 nt c=true){cin:Cut}{o:Nat×Cut}{l:List (Nat×Cut)}{F:cin.T->Option (OutT o l)}
  (hF:∀v t,F v=some t->zcj E Λ c p (mkC cin v) (z7j o l)=some t):LpOk P nt ro (lpOf cin o l F) c:=by
 intro R X w S γ σ a K r hrel hn h
 refine ybu (F:=fun v=>zcj E Λ c p (mkC cin v) (z7j o l)) hE hmix hobs hd (fun v=>rfl) hrel hn ?_
 simp only[Lp.run,lpOf]at h|-
 split at h
 ·rename_i o' ho'
  split at ho'
  ·rename_i v hv
   cases ho'
   split at h
   ·rename_i t ht
    simp only[hv,hF v t ht]
    exact h
   ·cases h
  ·cases ho'
 ·cases h
include hE hmix in
theorem zyp{c:Code}{p:Nat}(hobs:∀x,x∈obs Λ c p->LpOk P nt ro x.1 x.2)(hd:z41 nt c=true){cin:Cut}{o:Nat×Cut}{l:List (Nat×Cut)}{step:(cin.T->Option (OutT o l))->cin.T->Option (OutT o l)}
  (hF:∀rec v,step rec v=zcj E Λ c p (mkC cin v) (fun e σ=>match e with
   | .normal=>(match getC cin σ with | some v'=>rec v' | none=>none)
   | .exit i=>z7j o l (.exit i) σ
   | .ret=>z7j o l .ret σ)) {X:Cx} {K:Ex->St->Option R} {r:R} {t:OutT o l} (h:y0g o l t K=some r):
  ∀(N:Nat) (v:cin.T) {w:World} {S:Nat->Prop} {γ:Nat->Loc} {a:Act},Rel X w S γ (mkC cin v) a->a.tmps.size=nt->iter step N v=some t->Code.roundsIn (RF ro) 0 P c (Post X nt K r) N a w
 | 0,_,_,_,_,_,_,_,ht=>by cases ht
 | n+1,v,w,S,γ,a,hrel,hn,ht=>by
  rw[roundsIn_succ]
  simp only[iter]at ht
  rw[hF]at ht
  refine wpIn_mono (z2p hE hmix c p hobs hd hrel hn ht) ?_
  rintro e a' w' ⟨e',σ',S',γ'',rfl,h1,h2,h3⟩
  cases e' with
  | normal=>
   simp only at h3
   split at h3
   ·rename_i v' hv'
    obtain⟨S3,γ3,h4⟩:=zql h1 hv'
    exact zyp hobs hd hF h n v' h4 h2 h3
   ·cases h3
  | exit i=>
   obtain⟨σ'',S3,γ3,k1,k2⟩:=y5u h1 h3 h
   exact⟨.exit i,σ'',S3,γ3,rfl,k1,h2,k2⟩
  | ret=>
   obtain⟨σ'',S3,γ3,k1,k2⟩:=y5u h1 h3 h
   exact⟨.ret,σ'',S3,γ3,rfl,k1,h2,k2⟩
include hE hmix in
theorem yo7{c:Code}{p:Nat}(hobs:∀x,x∈obs Λ c p->LpOk P nt ro x.1 x.2)(hd:z41 nt c=true){cin:Cut}{o:Nat×Cut}{l:List (Nat×Cut)}{step:(cin.T->Option (OutT o l))->cin.T->Option (OutT o l)}
  (hF:∀rec v,step rec v=zcj E Λ c p (mkC cin v) (fun e σ=>match e with
   | .normal=>(match getC cin σ with | some v'=>rec v' | none=>none)
   | .exit i=>z7j o l (.exit i) σ
   | .ret=>z7j o l .ret σ)) (N:Nat):LpOk P nt ro (lpOf cin o l (iter step N)) (.loop c):=by
 intro R X w S γ σ a K r hrel hn h
 simp only[Lp.run,lpOf]at h
 split at h
 ·rename_i o' ho'
  split at ho'
  ·rename_i v hv
   cases ho'
   split at h
   ·rename_i t ht
    obtain⟨S1,γ',hrel'⟩:=zql hrel hv
    exact wpIn_loop_rounds N (zyp hE hmix hobs hd hF h N v hrel' hn ht)
   ·cases h
  ·cases ho'
 ·cases h
end loop
variable {R:Type}
inductive RS where
 | int (k:IntKind)
 | bool
 | str
 | list (t:Ty)
 | val (t:Ty)
 | fresh (t:Ty)
 | ro (t:Ty) (off:Nat)
 | nilp
 | nili
 | nilf
 | nil
 | cons (a b:RS)
 | agg (l:RS)
 | tup (l:RS)
 | clo (f:FuncId) (l:RS)
 | iface (t:TypeId) (a:RS)
 | bx (l:RS) (off:Nat)
def RS.T:RS->Type
 | .int _=>Int
 | .bool=>Bool
 | .str=>List UInt8
 | .list t=>List t.T
 | .val t=>t.T
 | .fresh t=>List t.T
 | .ro t _=>t.T
 | .cons a b=>a.T×b.T
 | .agg l=>l.T
 | .tup l=>l.T
 | .clo _ l=>l.T
 | .iface _ a=>a.T
 | .bx l _=>l.T
 | _=>Unit
def mkX:(s:RS)->s.T->List AV
 | .int k,n=>[.int k n]
 | .bool,b=>[.bool b]
 | .str,s=>[.str s]
 | .list t,xs=>[.list t xs]
 | .val t,x=>[.agg (enc t x)]
 | .fresh t,xs=>[.fresh t xs]
 | .ro t off,x=>[.ro t x off]
 | .nilp,_=>[.nilp]
 | .nili,_=>[.nili]
 | .nilf,_=>[.nilf]
 | .nil,_=>[]
 | .cons a b,x=>mkX a x.1++mkX b x.2
 | .agg l,x=>[.agg (mkX l x)]
 | .tup l,x=>[.tup (mkX l x)]
 | .clo f l,x=>[.clo f (mkX l x)]
 | .iface t a,x=>match mkX a x with
  | [v]=>[.iface t v]
  | _=>[]
 | .bx l off,x=>[.bx (mkX l x) off]
def zqk{α:Type}:Option (α×List AV×List (Option Nat))->Option α
 | some (x,[],[])=>some x
 | _=>none
def y4n{α:Type}:Option (α×List AV×List (Option Nat))->Option (α×List (Option Nat))
 | some (x,[],ns)=>some (x,ns)
 | _=>none
def getX(m:Nat->Option MO):(s:RS)->List AV->Option (s.T×List AV×List (Option Nat))
 | .int k, .int k' n::r=>match ikEq k' k with | some _=>some (n,r,[]) | none=>none
 | .bool, .bool b::r=>some (b,r,[])
 | .str, .str s::r=>some (s,r,[])
 | .list t,v::r=>match z2k m t v with | some xs=>some (xs,r,[]) | none=>none
 | .val t, .agg cs::r=>match dec m t cs with | some x=>some (x,r,[]) | none=>none
 | .fresh t, .own n::r=>match m n with
  | some (.sl t' xs .live)=>match castL t' t xs with | some xs=>some (xs,r,[some n]) | none=>none
  | _=>none
 | .fresh _, .nils::r=>some ([],r,[none])
 | .ro t off, .ro t' x off'::r=>bif aC off' off then(match yja t' t x with | some x=>some (x,r,[]) | none=>none)else none
 | .nilp, .nilp::r=>some ((),r,[])
 | .nili, .nili::r=>some ((),r,[])
 | .nilf, .nilf::r=>some ((),r,[])
 | .nil,r=>some ((),r,[])
 | .cons a b,r=>match getX m a r with
  | some (x,r',ns)=>match getX m b r' with
   | some (y,r'',ns')=>some ((x,y),r'',ns++ns')
   | none=>none
  | none=>none
 | .agg l, .agg cs::r=>match y4n (getX m l cs)with | some (x,ns)=>some (x,r,ns) | none=>none
 | .tup l, .tup cs::r=>match y4n (getX m l cs)with | some (x,ns)=>some (x,r,ns) | none=>none
 | .clo f l, .clo f' cs::r=>bif aC f' f then(match zqk (getX m l cs)with | some x=>some (x,r,[]) | none=>none)else none
 | .iface t a, .iface t' v::r=>bif aC t' t then(match zqk (getX m a [v])with | some x=>some (x,r,[]) | none=>none)else none
 | .bx l off, .bx cs off'::r=>bif aC off' off then(match zqk (getX m l cs)with | some x=>some (x,r,[]) | none=>none)else none
 | .bx l off, .ptr n off'::r=>bif aC off' off then(match m n with
  | some (.box cs .still)=>match zqk (getX m l cs)with | some x=>some (x,r,[]) | none=>none
  | _=>none)else none
 | _,_=>none
def hasN(n:Nat):List (Option Nat)->Bool
 | []=>false
 | some k::r=>aC n k || hasN n r
 | none::r=>hasN n r
def ye0:List (Option Nat)->Bool
 | []=>true
 | some n::r=> !(hasN n r)&&ye0 r
 | none::r=>ye0 r
def resT(o:RS):List RS->Type
 | []=>o.T
 | o'::r=>o.T⊕resT o' r
def get1(m:Nat->Option MO)(s:RS)(v:AV):Option s.T:=match y4n (getX m s [v])with
 | some (x,ns)=>bif ye0 ns then some x else none
 | none=>none
def y0j(m:Nat->Option MO)(o:RS):(l:List RS)->AV->Option (resT o l)
 | [],v=>get1 m o v
 | o'::r,v=>match get1 m o v with
  | some x=>some (.inl x)
  | none=>match y0j m o' r v with | some x=>some (.inr x) | none=>none
def one1(l:List AV)(K:AV->Option R):Option R:=match l with | [v]=>K v | _=>none
def y0f(o:RS):(l:List RS)->resT o l->(AV->Option R)->Option R
 | [],x,K=>one1 (mkX o x) K
 | o'::r,x,K=>match x with
  | .inl x=>one1 (mkX o x) K
  | .inr x=>y0f o' r x K
theorem ybz(l:List AV)(K:AV->Option R):one1 l K=(one1 l some).bind K:=by
 unfold one1;split<;>rfl
theorem y2c(K:AV->Option R):∀(l:List RS) (o:RS) (x:resT o l),y0f o l x K=(y0f o l x some).bind K
 | [],o,x=>ybz ..
 | o'::r,o,x=>by
  cases x with
  | inl x=>exact ybz ..
  | inr x=>exact y2c K r o' x
section res
variable {w:World} {S:Nat->Prop} {γ:Nat->Loc} {m:Nat->Option MO} {base:Nat->Prop}
def locN(γ:Nat->Loc):Option Nat->Loc
 | some n=>γ n
 | none=>⟨none,0⟩
def FoundX(w:World)(S:Nat->Prop)(γ:Nat->Loc)(m:Nat->Option MO)(vs':List AV)(vs r:List AV)(ns:List (Option Nat))(xs:List Value):Prop:=
 ∃xs1 xs2 vs1,xs=xs1++xs2/\vs=vs1++r/\RepXs w S vs' xs1 (ns.map (locN γ))/\RepAs w S γ m r xs2/\(∀n,some n∈ns->∃q,m n=some q/\q.live=true)/\(V0 vs1=true->vs'.all AV.oneX=true)
theorem RepXs.nil':RepXs w S [] [] []:=⟨rfl,rfl⟩
theorem RepXs.cons'{c:AV}{cs:List AV}{u:Value}{us:List Value}{l1 l2:List Loc}(h:RepX w S c u l1)(h':RepXs w S cs us l2):RepXs w S (c::cs) (u::us) (l1++l2):=⟨u,us,l1,l2,rfl,rfl,h,h'⟩
theorem RepXs.append':∀{cs ds:List AV} {us vs:List Value} {l1 l2:List Loc},RepXs w S cs us l1->RepXs w S ds vs l2->RepXs w S (cs++ds) (us++vs) (l1++l2)
 | [],_,us,vs,l1,l2,h,h'=>by
  obtain⟨rfl,rfl⟩:=h
  exact h'
 | c::cs,ds,us,vs,l1,l2,h,h'=>by
  obtain⟨u,us',k1,k2,rfl,rfl,h1,h2⟩:=h
  have:=(h2.append' h')
  rw[List.append_assoc]
  exact⟨u,us'++vs,k1,k2++l2,rfl,rfl,h1,this⟩
def flat(v:AV):Bool:=match v with
 | .fresh _ _=>false
 | .agg _=>false
 | .tup _=>false
 | _=>true
theorem RepX.of{v:AV}{x:Value}(h:RepA w S g0 m0 v x)(hf:flat v=true):RepX w S v x []:=by
 cases v<;>first | exact⟨rfl,h⟩ | cases hf
mutual
theorem RepX.dead:∀(v:AV) (x:Value),RepX w S v x []->RepA w S g0 m0 v x/\(v.oneX=true->v.one=true)
 | .fresh t xs,x,h=>by obtain⟨l,e,_⟩:=h;cases e
 | .agg cs,x,h=>by
  obtain⟨vs,h1,h2,h3⟩:=h
  obtain⟨k1,k2⟩:=RepXs.dead cs vs h2
  exact⟨⟨vs,h1,k1,k2 h3⟩,fun h=>h⟩
 | .tup cs,x,h=>by
  obtain⟨vs,h1,h2⟩:=h
  obtain⟨k1,k2⟩:=RepXs.dead cs vs h2
  exact⟨⟨vs,h1,k1⟩,fun h=>h⟩
 | .undef,x,h=>⟨h.2,fun h=>h⟩
 | .int _ _,x,h=>⟨h.2,fun h=>h⟩
 | .bool _,x,h=>⟨h.2,fun h=>h⟩
 | .str _,x,h=>⟨h.2,fun h=>h⟩
 | .nils,x,h=>⟨h.2,fun h=>h⟩
 | .nilp,x,h=>⟨h.2,fun h=>h⟩
 | .nilf,x,h=>⟨h.2,fun h=>h⟩
 | .nili,x,h=>⟨h.2,fun h=>h⟩
 | .list _ _,x,h=>⟨h.2,fun h=>h⟩
 | .clip _ _,x,h=>⟨h.2,fun h=>h⟩
 | .own _,x,h=>⟨h.2,fun h=>h⟩
 | .ptr _ _,x,h=>⟨h.2,fun h=>h⟩
 | .oel _ _ _,x,h=>⟨h.2,fun h=>h⟩
 | .bx _ _,x,h=>⟨h.2,fun h=>h⟩
 | .ro _ _ _,x,h=>⟨h.2,fun h=>h⟩
 | .clo _ _,x,h=>⟨h.2,fun h=>h⟩
 | .iface _ _,x,h=>⟨h.2,fun h=>h⟩
theorem RepXs.dead:∀(vs:List AV) (xs:List Value),RepXs w S vs xs []->RepAs w S g0 m0 vs xs/\(vs.all AV.oneX=true->V0 vs=true)
 | [],xs,h=>⟨h.1,fun _=>rfl⟩
 | v::vs,xs,h=>by
  obtain⟨u,us,l1,l2,rfl,e,h1,h2⟩:=h
  obtain⟨rfl,rfl⟩:=List.append_eq_nil_iff.1 e.symm
  obtain⟨a1,a2⟩:=RepX.dead v u h1
  obtain⟨b1,b2⟩:=RepXs.dead vs us h2
  refine⟨⟨u,us,rfl,a1,b1⟩,fun h=> ?_⟩
  simp only[br,ac]at h
  simp only[V0,br,ac]
  exact⟨a2 h.1,by simpa[V0] using b2 h.2⟩
end
theorem FoundX.one{v v':AV}{r:List AV}{ns:List (Option Nat)}{xs:List Value}(h:RepAs w S γ m (v::r) xs)(hv:∀u,RepA w S γ m v u->RepX w S v' u (ns.map (locN γ)))(hn:∀n,some n∈ns->∃q,m n=some q/\q.live=true)(ho:v.one=true->v'.oneX=true):FoundX w S γ m [v'] (v::r) r ns xs:=by
 obtain⟨u,us,rfl,h1,h2⟩:=h
 refine⟨[u],us,[v],rfl,rfl, ?_,h2,hn,fun h=> ?_⟩
 ·have:=RepXs.cons' (hv u h1) RepXs.nil'
  rwa [ai]at this
 ·simp only[V0,br,List.all_nil,bV]at h|-
  exact ho h
theorem FoundX.flat{v v':AV}{r:List AV}{xs:List Value}(h:RepAs w S γ m (v::r) xs)(hv:∀u,RepA w S γ m v u->RepA w S g0 m0 v' u)(hf:flat v'=true)(ho:v.one=true->v'.oneX=true):FoundX w S γ m [v'] (v::r) r [] xs:=
 .one h (fun u hu=>RepX.of (hv u hu) hf) (fun n hn=>by cases hn) ho
theorem zfv{α:Type}{o:Option (α×List AV×List (Option Nat))}{x:α}(h:zqk o=some x):o=some (x,[],[]):=by
 unfold zqk at h
 split at h
 ·cases h;rfl
 ·cases h
theorem znk{α:Type}{o:Option (α×List AV×List (Option Nat))}{p:α×List (Option Nat)}(h:y4n o=some p):o=some (p.1,[],p.2):=by
 unfold y4n at h
 split at h
 ·cases h;rfl
 ·cases h
theorem FoundX.within{vs' vs:List AV}{xs:List Value}(h:FoundX w S γ m vs' vs [] [] xs):RepAs w S g0 m0 vs' xs/\(V0 vs=true->V0 vs'=true):=by
 obtain⟨xs1,xs2,vs1,rfl,e,k1,k2,k3,k4⟩:=h
 simp only[ai]at e;subst e
 rw[show xs2=[]from k2,ai]
 obtain⟨a,b⟩:=RepXs.dead vs' xs1 k1
 exact⟨a,fun h=>b (k4 h)⟩
theorem encX:∀{t:Ty} {x:t.T} {cs:List Value},RepT w S t x cs->RepXs w S (enc t x) cs []
 | .int _,_,_,h=>by rw[show _=_ from h];exact RepXs.cons' (l1:=[]) ⟨rfl,rfl⟩ RepXs.nil'
 | .bool,_,_,h=>by rw[show _=_ from h];exact RepXs.cons' (l1:=[]) ⟨rfl,rfl⟩ RepXs.nil'
 | .str,_,_,h=>by rw[show _=_ from h];exact RepXs.cons' (l1:=[]) ⟨rfl,rfl⟩ RepXs.nil'
 | .unit,_,_,h=>by rw[show _=_ from h];exact RepXs.nil'
 | .pair a b,x,_,h=>by
  obtain⟨c,d,rfl,h1,h2⟩:=h
  exact(encX h1).append' (encX h2)
 | .list t,xs,cs,h=>by
  have h':=h
  obtain⟨ao,cap,rfl,_⟩:=h
  exact RepXs.cons' (l1:=[]) ⟨rfl,h'⟩ RepXs.nil'
theorem y3y:∀(t:Ty) (x:t.T),(enc t x).all AV.oneX=true
 | .int _,_=>rfl
 | .bool,_=>rfl
 | .str,_=>rfl
 | .unit,_=>rfl
 | .pair a b,x=>by simp only[enc,cu,y3y a x.1,y3y b x.2,cT]
 | .list _,_=>rfl
theorem yks(hm:MemRel w S γ m base)(s:RS):∀(vs r:List AV) (x:s.T) (ns:List (Option Nat)) (xs:List Value),getX m s vs=some (x,r,ns)->RepAs w S γ m vs xs->FoundX w S γ m (mkX s x) vs r ns xs:=by
 induction s with
 | nil=>
  intro vs r x ns xs h hv
  simp only[getX,aR.injEq,cY.injEq]at h
  obtain⟨_,rfl,rfl⟩:=h
  exact⟨[],xs,[],rfl,rfl,RepXs.nil',hv,fun n hn=>(by cases hn),fun _=>rfl⟩
 | cons a b iha ihb=>
  intro vs r x ns xs h hv
  simp only[getX]at h
  split at h
  ·rename_i x1 r1 n1 h1
   split at h
   ·rename_i y1 r2 n2 h2
    cases h
    obtain⟨xs1,xs2,vs1,rfl,rfl,k1,k2,k3,k4⟩:=iha vs r1 x1 n1 xs h1 hv
    obtain⟨ys1,ys2,us1,rfl,rfl,l1,l2,l3,l4⟩:=ihb r1 r y1 n2 xs2 h2 k2
    refine⟨xs1++ys1,ys2,vs1++us1,by simp,by simp, ?_,l2,fun n hn=> ?_,fun h=> ?_⟩
    ·rw[bK];exact k1.append' l1
    ·rcases ak.1 hn with hn | hn
     ·exact k3 n hn
     ·exact l3 n hn
    ·rw[z1b,ac]at h
     show(mkX a x1++mkX b y1).all AV.oneX=true
     rw[cu,ac]
     exact⟨k4 h.1,l4 h.2⟩
   ·cases h
  ·cases h
 | int k=>
  intro vs r x ns xs h hv
  cases vs with
  | nil=>simp[getX]at h
  | cons v vs=>
   cases v<;>simp only[getX]at h<;>try (cases h;done)
   split at h
   ·rename_i e _
    obtain⟨e⟩:=e
    subst e
    cases h
    exact .flat hv (fun _ h=>h) rfl fun h=>h
   ·cases h
 | bool=>
  intro vs r x ns xs h hv
  cases vs with
  | nil=>simp[getX]at h
  | cons v vs=>
   cases v<;>simp only[getX]at h<;>try (cases h;done)
   cases h
   exact .flat hv (fun _ h=>h) rfl fun h=>h
 | str=>
  intro vs r x ns xs h hv
  cases vs with
  | nil=>simp[getX]at h
  | cons v vs=>
   cases v<;>simp only[getX]at h<;>try (cases h;done)
   cases h
   exact .flat hv (fun _ h=>h) rfl fun h=>h
 | list t=>
  intro vs r x ns xs h hv
  cases vs with
  | nil=>simp[getX]at h
  | cons v vs=>
   simp only[getX]at h
   split at h
   ·rename_i ys hys
    cases h
    exact .flat hv (fun u hu=>zm3 hm hys hu) rfl fun _=>rfl
   ·cases h
 | val t=>
  intro vs r x ns xs h hv
  cases vs with
  | nil=>simp[getX]at h
  | cons v vs=>
   cases v<;>simp only[getX]at h<;>try (cases h;done)
   rename_i cs
   split at h
   ·rename_i y hy
    cases h
    obtain⟨u,us,rfl,⟨zs,h1,h2,h3⟩,h4⟩:=hv
    refine⟨[u],us,[.agg cs],rfl,rfl, ?_,h4,fun n hn=>(by cases hn),fun h=>h⟩
    exact RepXs.cons' (c:= .agg (enc t x)) (l1:=[]) ⟨zs,h1,encX (zqj hm hy h2),y3y t x⟩ RepXs.nil'
   ·cases h
 | fresh t=>
  intro vs r x ns xs h hv
  cases vs with
  | nil=>simp[getX]at h
  | cons v vs=>
   cases v<;>simp only[getX]at h<;>try (cases h;done)
   ·cases h
    refine .one hv (fun u hu=> ?_) (fun n hn=>by simp at hn) fun _=>rfl
    simp only[RepA]at hu
    exact⟨⟨none,0⟩,rfl,hu,⟨al _,Nat.zero_le _,fun _=>rfl,fun a ha=>by cases ha⟩⟩
   ·rename_i n
    split at h
    ·rename_i t' ys hn
     split at h
     ·rename_i zs hz
      cases h
      have e:=zaj (s:= .live) hz
      rw[e]at hn
      refine .one hv (fun u hu=> ?_) (fun k hk=> ?_) fun _=>rfl
      ·obtain⟨t0,xs0,s0,h1,h2⟩:=hu
       rw[hn]at h1;cases h1
       exact⟨γ n,rfl,h2,hm.obj n _ hn⟩
      ·simp only[List.mem_singleton,aR.injEq]at hk
       subst hk
       exact⟨_,hn,rfl⟩
     ·cases h
    ·cases h
 | ro t off=>
  intro vs r x ns xs h hv
  cases vs with
  | nil=>simp[getX]at h
  | cons v vs=>
   cases v<;>simp only[getX]at h<;>try (cases h;done)
   rcases bif_some h with⟨e,h⟩ | ⟨_,h⟩
   ·split at h
    ·rename_i y hy
     cases h
     obtain⟨e',rfl⟩:=y31 hy
     subst e'
     have:=ah e
     subst this
     exact .flat hv (fun _ h=>h) rfl fun h=>h
    ·cases h
   ·cases h
 | nilp=>
  intro vs r x ns xs h hv
  cases vs with
  | nil=>simp[getX]at h
  | cons v vs=>
   cases v<;>simp only[getX]at h<;>try (cases h;done)
   cases h
   exact .flat hv (fun _ h=>h) rfl fun h=>h
 | nili=>
  intro vs r x ns xs h hv
  cases vs with
  | nil=>simp[getX]at h
  | cons v vs=>
   cases v<;>simp only[getX]at h<;>try (cases h;done)
   cases h
   exact .flat hv (fun _ h=>h) rfl fun h=>h
 | nilf=>
  intro vs r x ns xs h hv
  cases vs with
  | nil=>simp[getX]at h
  | cons v vs=>
   cases v<;>simp only[getX]at h<;>try (cases h;done)
   cases h
   exact .flat hv (fun _ h=>h) rfl fun h=>h
 | agg l ih=>
  intro vs r x ns xs h hv
  cases vs with
  | nil=>simp[getX]at h
  | cons v vs=>
   cases v<;>simp only[getX]at h<;>try (cases h;done)
   rename_i cs
   split at h
   ·rename_i y n1 hy
    cases h
    have hk:=fun us h2=>ih cs [] _ _ us (znk hy) h2
    obtain⟨u0,us0,rfl,⟨us,h1,h2,h3⟩,h4⟩:=hv
    obtain⟨xs1,xs2,vs1,rfl,e,k1,k2,k3,k4⟩:=hk us h2
    simp only[ai]at e;subst e
    rw[show xs2=[]from k2,ai]at h1
    refine⟨[u0],us0,[.agg _],rfl,rfl, ?_,h4,k3,fun h=>h⟩
    have:=RepXs.cons' (c:= .agg (mkX l x)) (u:=u0) (w:=w) (S:=S) ⟨xs1,h1,k1,k4 h3⟩ RepXs.nil'
    rwa [ai]at this
   ·cases h
 | tup l ih=>
  intro vs r x ns xs h hv
  cases vs with
  | nil=>simp[getX]at h
  | cons v vs=>
   cases v<;>simp only[getX]at h<;>try (cases h;done)
   rename_i cs
   split at h
   ·rename_i y n1 hy
    cases h
    have hk:=fun us h2=>ih cs [] _ _ us (znk hy) h2
    obtain⟨u0,us0,rfl,⟨us,h1,h2⟩,h4⟩:=hv
    obtain⟨xs1,xs2,vs1,rfl,e,k1,k2,k3,k4⟩:=hk us h2
    rw[show xs2=[]from k2,ai]at h1
    refine⟨[u0],us0,[.tup _],rfl,rfl, ?_,h4,k3,fun h=>h⟩
    have:=RepXs.cons' (c:= .tup (mkX l x)) (u:=u0) (w:=w) (S:=S) ⟨xs1,h1,k1⟩ RepXs.nil'
    rwa [ai]at this
   ·cases h
 | clo f l ih=>
  intro vs r x ns xs h hv
  cases vs with
  | nil=>simp[getX]at h
  | cons v vs=>
   cases v<;>simp only[getX]at h<;>try (cases h;done)
   rename_i f' cs
   rcases bif_some h with⟨e,h⟩ | ⟨_,h⟩
   ·have:=ah e
    subst this
    split at h
    ·rename_i y hy
     cases h
     refine .flat hv (fun u hu=> ?_) rfl fun h=>h
     obtain⟨us,h1,h2⟩:=hu
     exact⟨us,h1,(ih cs [] _ _ us (zfv hy) h2).within.1⟩
    ·cases h
   ·cases h
 | iface t a ih=>
  intro vs r x ns xs h hv
  cases vs with
  | nil=>simp[getX]at h
  | cons v vs=>
   cases v<;>simp only[getX]at h<;>try (cases h;done)
   rename_i t' y
   rcases bif_some h with⟨e,h⟩ | ⟨_,h⟩
   ·have:=ah e
    subst this
    split at h
    ·rename_i z hz
     cases h
     obtain⟨u,us,rfl,⟨u',h1,h2⟩,h3⟩:=hv
     have hk:=(ih [y] [] _ _ [u'] (zfv hz) (.one h2)).within.1
     have hlen:=hk.length
     have he:∃v',mkX a x=[v']:=by
      cases hq:mkX a x with
      | nil=>rw[hq]at hlen;simp at hlen
      | cons v' q=>rw[hq]at hlen;cases q with
       | nil=>exact⟨v',rfl⟩
       | cons _ _=>simp at hlen
     obtain⟨v',he⟩:=he
     have hmk:mkX (.iface t' a) x=[.iface t' v']:=by simp only[mkX];rw[he]
     rw[hmk]
     rw[he]at hk
     obtain⟨q,e,k1⟩:=hk.one'
     cases e
     refine⟨[u],us,[.iface t' y],rfl,rfl, ?_,h3,fun n hn=>(by cases hn),fun _=>rfl⟩
     exact RepXs.cons' (l1:=[]) (RepX.of (v:= .iface t' v') ⟨u',h1,k1⟩ rfl) RepXs.nil'
    ·cases h
   ·cases h
 | bx l off ih=>
  intro vs r x ns xs h hv
  cases vs with
  | nil=>simp[getX]at h
  | cons v vs=>
   cases v<;>simp only[getX]at h<;>try (cases h;done)
   ·rename_i n off'
    rcases bif_some h with⟨e,h⟩ | ⟨_,h⟩
    ·have:=ah e
     subst this
     split at h
     ·rename_i cs hn
      split at h
      ·rename_i y hy
       cases h
       refine .flat hv (fun u hu=> ?_) rfl fun h=>rfl
       obtain⟨cs0,s0,b,j1,j2,j3⟩:=hu
       obtain⟨b',us,el',g1,g2,g3,g4,g5,g6⟩:=hm.obj n _ hn
       rw[j2]at g1;cases g1
       obtain⟨i1,i2⟩:=(ih cs [] _ _ us (zfv hy) g3).within
       exact⟨b,us,j3,g6 (by simp),i1,i2 g4,fun j u hj=>by rw[bk,cell_of_row w b j _ _ _ g2];simpa using hj⟩
      ·cases h
     ·cases h
    ·cases h
   ·rename_i cs off'
    rcases bif_some h with⟨e,h⟩ | ⟨_,h⟩
    ·have:=ah e
     subst this
     split at h
     ·rename_i y hy
      cases h
      refine .flat hv (fun u hu=> ?_) rfl fun h=>h
      obtain⟨b,us,h1,h2,h3,h4,h5⟩:=hu
      obtain⟨i1,i2⟩:=(ih cs [] _ _ us (zfv hy) h3).within
      exact⟨b,us,h1,h2,i1,i2 h4,h5⟩
     ·cases h
    ·cases h
theorem zxz{n:Nat}:∀{l:List (Option Nat)},hasN n l=false->some n∉l
 | [],_,h=>by cases h
 | some k::l,hn,h=>by
  simp only[hasN,Bool.or_eq_false_iff]at hn
  rcases am.1 h with e | h
  ·cases e;rw[cM]at hn;cases hn.1
  ·exact zxz hn.2 h
 | none::l,hn,h=>by
  simp only[hasN]at hn
  rcases am.1 h with e | h
  ·cases e
  ·exact zxz hn h
theorem y8u(hm:MemRel w S γ m base):∀{ns:List (Option Nat)},ye0 ns=true->(∀n,some n∈ns->∃q,m n=some q/\q.live=true)->Locs base (ns.map (locN γ))
 | [],_,_=>⟨fun _ h=>(by cases h),bi.nil⟩
 | none::ns,h,hl=>by
  have ih:=y8u hm (ns:=ns) h fun n hn=>hl n (aF _ hn)
  refine⟨fun l hl b hb=> ?_, ?_⟩
  ·simp only[ax,am]at hl
   rcases hl with rfl | hl
   ·cases hb
   ·exact ih.new l hl b hb
  ·simp only[ax,aI]
   exact⟨fun l' _ b hb=>(by cases hb),ih.once⟩
 | some n::ns,h,hl=>by
  simp only[ye0,ac,aw]at h
  have ih:=y8u hm (ns:=ns) h.2 fun n hn=>hl n (aF _ hn)
  obtain⟨q,hq,hlq⟩:=hl n (by simp)
  refine⟨fun l hl b hb=> ?_, ?_⟩
  ·simp only[ax,am]at hl
   rcases hl with rfl | hl
   ·exact hm.high n q b hq hlq hb
   ·exact ih.new l hl b hb
  ·simp only[ax,aI]
   refine⟨fun l' hl' b hb hb'=> ?_,ih.once⟩
   simp only[aH]at hl'
   obtain⟨o,ho,rfl⟩:=hl'
   cases o with
   | none=>cases hb'
   | some k=>
    obtain⟨q',hq',hlq'⟩:=hl k (aF _ ho)
    have hne:n≠k:=fun e=>zxz h.1 (e▸ho)
    exact hm.apart n k q q' b hq hq' hlq hlq' hne hb hb'
theorem ygk(hm:MemRel w S γ m base){s:RS}{v:AV}{x:s.T}{u:Value}(h:get1 m s v=some x)(hv:RepA w S γ m v u):∃v' ls,mkX s x=[v']/\RepX w S v' u ls/\Locs base ls:=by
 unfold get1 at h
 split at h
 ·rename_i y ns hy
  rcases bif_some h with⟨ho,h⟩ | ⟨_,h⟩
  ·cases h
   obtain⟨xs1,xs2,vs1,e,e',k1,k2,k3,k4⟩:=yks hm s [v] [] _ _ [u] (znk hy) (.one hv)
   rw[show xs2=[]from k2,ai]at e
   subst e
   cases hq:mkX s x with
   | nil=>simp only[hq]at k1;obtain⟨e,_⟩:=k1;cases e
   | cons v' q=>
    simp only[hq]at k1
    obtain⟨a,b,l1,l2,e,e2,i1,i2⟩:=k1
    cases e
    cases q with
    | cons _ _=>obtain⟨_,_,_,_,e,_⟩:=i2;cases e
    | nil=>
     obtain⟨_,rfl⟩:=i2
     rw[ai]at e2
     subst e2
     exact⟨v',_,rfl,i1,y8u hm ho k3⟩
  ·cases h
 ·cases h
theorem y79(hm:MemRel w S γ m base){v:AV}{u:Value}(hv:RepA w S γ m v u){K:AV->Option R}{r:R}:∀{l:List RS} {o:RS} {x:resT o l},y0j m o l v=some x->y0f o l x K=some r->∃v' ls,K v'=some r/\RepX w S v' u ls/\Locs base ls
 | [],o,x,h,ho=>by
  obtain⟨v',ls,e,h1,h2⟩:=ygk hm h hv
  have ho:one1 (mkX o x) K=some r:=ho
  rw[e]at ho
  exact⟨v',ls,ho,h1,h2⟩
 | o'::l,o,x,h,ho=>by
  simp only[y0j]at h
  split at h
  ·rename_i y hy
   cases h
   obtain⟨v',ls,e,h1,h2⟩:=ygk hm hy hv
   have ho:one1 (mkX o y) K=some r:=ho
   rw[e]at ho
   exact⟨v',ls,ho,h1,h2⟩
  ·split at h
   ·rename_i y hy
    cases h
    exact y79 hm hv hy ho
   ·cases h
end res
def nlEq:List Nat->List Nat->Bool
 | [],[]=>true
 | a::as,b::bs=>aC a b&&nlEq as bs
 | _,_=>false
theorem y8s:∀{a b:List Nat},nlEq a b=true->a=b
 | [],[],_=>rfl
 | a::as,b::bs,h=>by
  simp only[nlEq,ac]at h
  rw[ah h.1,y8s h.2]
 | [],_::_,h=>by cases h
 | _::_,[],h=>by cases h
def eqSh(P:Program):Nat->TypeId->Option (List Nat)
 | 0,_=>none
 | d+1,t=>match P.underlying t,P.info? t with
  | some .bool,some _=>some [1]
  | some (.int _),some _=>some [0]
  | some .string,some _=>some [2]
  | some (.struct fs),some i=>bif P.stoodInHeld t then none else
   (match fs.toList.foldl (fun o f=>match o with
    | some ks=>bif aC f.offset ks.length&&(f.name != "_")then(match eqSh P d f.type with | some n=>some (ks++n) | none=>none)else none
    | none=>none) (some [])with
   | some n=>bif aC i.size n.length then some n else none
   | none=>none)
  | _,_=>none
def eqFs(P:Program)(d:Nat)(o:Option (List Nat))(fs:List Field):Option (List Nat):=
 fs.foldl (fun o f=>match o with
    | some ks=>bif aC f.offset ks.length&&(f.name != "_")then(match eqSh P d f.type with | some n=>some (ks++n) | none=>none)else none
    | none=>none) o
theorem zy4(P:Program)(d:Nat):∀fs,eqFs P d none fs=none
 | []=>rfl
 | f::fs=>by simpa[eqFs] using zy4 P d fs
theorem y7h{P:Program}{d:Nat}{off n:List Nat}{f:Field}{fs:List Field}(h:eqFs P d (some off) (f::fs)=some n):f.offset=off.length/\f.name≠ "_" /\∃k,eqSh P d f.type=some k/\eqFs P d (some (off++k)) fs=some n:=by
 unfold eqFs at h
 simp only[aU]at h
 cases hc:(aC f.offset off.length&&(f.name != "_"))with
 | false=>rw[hc]at h;have:=zy4 P d fs;unfold eqFs at this;rw[cond_false,this]at h;cases h
 | true=>
  rw[hc]at h
  simp only[cond_true]at h
  simp only[ac,bne_iff_ne]at hc
  cases hk:eqSh P d f.type with
  | none=>rw[hk]at h;have:=zy4 P d fs;unfold eqFs at this;rw[this]at h;cases h
  | some k=>
   rw[hk]at h
   exact⟨ah hc.1,hc.2,k,rfl,h⟩
def eqB(P:Program)(t:Nat)(n:List Nat):Bool:=
 (match P.underlying t with | some (.struct _)=>true | _=>false)&&((match eqSh P 20 t with | some k=>nlEq k n | none=>false)&& !(P.eqGuardType P.depth t))
theorem zbs:∀cs:List AV,(z5l cs).length=cs.length
 | []=>rfl
 | _::cs=>by simp[z5l,zbs cs]
theorem zu9:∀(cs:List AV) (k:Nat),z5l (cs.take k)=(z5l cs).take k
 | [],k=>by simp[z5l]
 | _::_,0=>rfl
 | c::cs,k+1=>by simp[z5l,zu9 cs k]
theorem zua:∀(cs:List AV) (k:Nat),z5l (cs.drop k)=(z5l cs).drop k
 | [],k=>by simp[z5l]
 | _::_,0=>rfl
 | c::cs,k+1=>by simp[z5l,zua cs k]
theorem zft{a b:AV}{as bs:List AV}{r:Bool}(h:z6h (a::as) (b::bs)=some r):∃x y,y0k a b=some x/\z6h as bs=some y/\r=(x&&y):=by
 simp only[z6h]at h
 split at h
 ·rename_i x hx
  split at h
  ·rename_i y hy
   cases h
   exact⟨x,y,hx,hy,rfl⟩
  ·cases h
 ·cases h
theorem zpx:∀(k:Nat) {cs ds:List AV} {r:Bool},z6h cs ds=some r->∃x y,z6h (cs.take k) (ds.take k)=some x/\z6h (cs.drop k) (ds.drop k)=some y/\r=(x&&y)
 | 0,cs,ds,r,h=>⟨true,r,rfl,h,by simp⟩
 | k+1,[],[],r,h=>by cases h;exact⟨true,true,rfl,rfl,rfl⟩
 | k+1,[],_::_,r,h=>by cases h
 | k+1,_::_,[],r,h=>by cases h
 | k+1,a::as,b::bs,r,h=>by
  obtain⟨x,y,h1,h2,rfl⟩:=zft h
  obtain⟨z,u,k1,k2,rfl⟩:=zpx k h2
  refine⟨x&&z,u, ?_,k2,by rw[Bool.and_assoc]⟩
  simp only[List.take_succ_cons,z6h,h1,k1]
theorem ziv:∀{cs ds:List AV} {r:Bool},z6h cs ds=some r->ds.length=cs.length
 | [],[],_,_=>rfl
 | [],_::_,_,h=>by cases h
 | _::_,[],_,h=>by cases h
 | a::as,b::bs,r,h=>by
  obtain⟨x,y,h1,h2,rfl⟩:=zft h
  simp[ziv h2]
section eq
variable {P:Program} {w:World} {S:Nat->Prop} {γ:Nat->Loc} {m:Nat->Option MO}
theorem zb9{t:TypeId}{d:TypeDesc}(hu:P.underlying t=some d)(hd:(match d with | .struct _=>false | .array _ _=>false | _=>true)=true){xs:Array Value}{off:Nat}{v:Value}(hx:(xs.toList.drop off).take 1=[v]):(part t xs off).run P w= .ok v w:=by
 have h1:xs[off]? =some v:=by
  have:(xs.toList.drop off)[0]? =some v:=by
   cases hq:xs.toList.drop off with
   | nil=>rw[hq]at hx;cases hx
   | cons a l=>rw[hq]at hx;simp at hx;simp[hx]
  simpa using this
 cases d<;>first | cases hd;done | simp[part,isAgg,run_underlying hu,h1]
theorem zyh{t:TypeId}{i:TypeInfo}(h:P.info? t=some i):(sizeOf t).run P w= .ok i.size w:=by
 simp[sizeOf,run_typeInfo w h]
theorem ygp:∀(d:Nat) {D:Nat} (_:d<=D) {t:TypeId} {ks:List Nat} (_:eqSh P d t=some ks) {xs ys:Array Value} {off:Nat} {vs us:List Value} (_:(xs.toList.drop off).take ks.length=vs) (_:(ys.toList.drop off).take ks.length=us) {cs ds:List AV} {b:Bool}
  (_:z5l cs=ks) (_:RepAs w S γ m cs vs) (_:RepAs w S γ m ds us) (_:z6h cs ds=some b),∃a c,(part t xs off).run P w= .ok a w/\(part t ys off).run P w= .ok c w/\(Op.equalIn D t a c).run P w= .ok b w
 | 0,D,_,t,ks,h,_,_,_,_,_,_,_,_,_,_,_,_,_,_=>by cases h
 | d+1,0,hD,_,_,_,_,_,_,_,_,_,_,_,_,_,_,_,_,_=>by omega
 | d+1,D+1,hD,t,ks,h,xs,ys,off,vs,us,hx,hy,cs,ds,b,hk,hr,hr',he=>by
  unfold eqSh at h
  have one:∀{n:Nat},ks=[n]->∃c e x u v,cs=[c]/\ds=[e]/\vs=[u]/\us=[v]/\ymf c=n/\y0k c e=some x/\b=x/\RepA w S γ m c u/\RepA w S γ m e v:=by
   intro n hn
   have hl:=zbs cs
   rw[hk,hn]at hl
   match cs,ds,hl,hk,hr,hr',he with
   | [c],[],_,_,_,_,he=>cases he
   | [c],[e],_,hk,hr,hr',he=>
    obtain⟨u,us',rfl,k1,k2⟩:=hr
    obtain⟨v,vs',rfl,k3,k4⟩:=hr'
    obtain⟨x,y,j1,j2,rfl⟩:=zft he
    cases j2
    rw[hn]at hk
    simp only[z5l,List.cons.injEq,and_true]at hk
    exact⟨c,e,x,u,v,rfl,rfl,by rw[show us'=[]from k2],by rw[show vs'=[]from k4],hk,j1,by simp,k1,k3⟩
   | [c],_::_::_,_,_,_,_,he=>
    obtain⟨x,y,j1,j2,rfl⟩:=zft he
    cases j2
  split at h
  ·rename_i i hu hi
   cases h
   obtain⟨c,e,x,u,v,rfl,rfl,rfl,rfl,k1,k2,rfl,k3,k4⟩:=one rfl
   refine⟨u,v,zb9 hu rfl hx,zb9 hu rfl hy, ?_⟩
   cases c<;>cases k1
   cases e<;>simp only[y0k]at k2<;>try (cases k2;done)
   cases k2
   simp only[RepA]at k3 k4
   subst k3;subst k4
   exact run_equalIn_bool' w D t _ _ hu
  ·rename_i k i hu hi
   cases h
   obtain⟨c,e,x,u,v,rfl,rfl,rfl,rfl,k1,k2,rfl,k3,k4⟩:=one rfl
   refine⟨u,v,zb9 hu rfl hx,zb9 hu rfl hy, ?_⟩
   cases c<;>cases k1
   cases e<;>simp only[y0k]at k2<;>try (cases k2;done)
   split at k2
   ·rename_i q _
    have:=zxa (by assumption)
    subst this
    cases k2
    simp only[RepA]at k3 k4
    subst k3;subst k4
    exact run_equalIn_int w D t _ _ _ _ hu
   ·cases k2
  ·rename_i i hu hi
   cases h
   obtain⟨c,e,x,u,v,rfl,rfl,rfl,rfl,k1,k2,rfl,k3,k4⟩:=one rfl
   refine⟨u,v,zb9 hu rfl hx,zb9 hu rfl hy, ?_⟩
   cases c<;>cases k1
   cases e<;>simp only[y0k]at k2<;>try (cases k2;done)
   cases k2
   simp only[RepA]at k3 k4
   subst k3;subst k4
   rw[run_equalIn_string w D t _ _ hu]
   simp[eqs,ByteArray.toList_eq]
  ·rename_i fs i hu hi
   rcases bif_some h with⟨_,h⟩ | ⟨hst,h⟩
   ·cases h
   ·split at h
    ·rename_i n hn
     rcases bif_some h with⟨hsz,h⟩ | ⟨_,h⟩
     ·simp only[aR.injEq]at h
      subst h
      have hsz:=ah hsz
      have pt:∀{zs:Array Value} {us:List Value},(zs.toList.drop off).take n.length=us->(part t zs off).run P w= .ok (.agg us.toArray) w:=by
       intro zs us hz
       have e:zs.extract off (off+i.size)=us.toArray:=by
        apply bS
        simp only[Array.toList_extract,List.extract_eq_take_drop]
        rw[<-hz,hsz]
        congr 1
        omega
       simp only[part,isAgg,Sem.run_bind,run_underlying hu,Result.andThen_ok,Sem.run_pure,if_true,zyh hi]
       rw[e]
      refine⟨_,_,pt hx,pt hy, ?_⟩
      have hfo:P.underlying t=some (.struct (P.fieldsOf t)):=by simp[Program.fieldsOf,hu]
      rw[run_equalIn_struct w D t _ _ hfo hst]
      have hfs:(P.fieldsOf t).toList=fs.toList:=by simp[Program.fieldsOf,hu]
      rw[hfs]
      have go:∀(l:List Field) (o:List Nat),eqFs P d (some o) l=some n->∀{b:Bool},z6h (cs.drop o.length) (ds.drop o.length)=some b->(Op.eqFields D vs.toArray us.toArray l).run P w= .ok b w:=by
       intro l
       induction l with
       | nil=>
        intro o ho b hb
        simp only[eqFs,dW,aR.injEq]at ho
        subst ho
        have hl:=zbs cs
        rw[hk]at hl
        rw[ej (by omega),ej (by rw[ziv he];omega)]at hb
        cases hb
        simp[Op.eqFields]
       | cons f l ih=>
        intro o ho b hb
        obtain⟨h1,h2,k,h3,h4⟩:=y7h ho
        obtain⟨x,y,j1,j2,rfl⟩:=zpx k.length hb
        have hkk:z5l ((cs.drop o.length).take k.length)=k:=by
         rw[zu9,zua,hk]
         have pre:∀(l:List Field) (o n:List Nat),eqFs P d (some o) l=some n->∃z,n=o++z:=by
          intro l
          induction l with
          | nil=>intro o n h;simp only[eqFs,dW,aR.injEq]at h;exact⟨[],by simp[h]⟩
          | cons f l ih=>
           intro o n h
           obtain⟨_,_,k,_,h4⟩:=y7h h
           obtain⟨z,rfl⟩:=ih _ _ h4
           exact⟨k++z,by simp⟩
         obtain⟨z,rfl⟩:=pre l _ _ h4
         simp
        obtain⟨a,c,i1,i2,i3⟩:=ygp d (D:=D) (by omega) h3 (xs:=vs.toArray) (ys:=us.toArray) (off:=o.length) rfl rfl hkk (by simpa using(hr.drop o.length).take k.length) (by simpa using(hr'.drop o.length).take k.length) j1
        simp only[Op.eqFields,if_pos h2,Sem.run_bind,h1,i1,i2,i3,Result.andThen_ok]
        cases x with
        | false=>simp
        | true=>
         simp only[Bool.not_true,Bool.false_eq_true,if_false,bv]
         exact ih (o++k) h4 (by rw[List.length_append,<-dp,<-dp];exact j2)
      exact go fs.toList [] hn (by simpa using he)
     ·cases h
    ·cases h
  ·cases h
theorem yqx{t:TypeId}{n:List Nat}(h:eqB P t n=true):EqOk P t n/\P.eqGuardType P.depth t=false:=by
 simp only[eqB,ac,aw]at h
 obtain⟨h1,h2,h3⟩:=h
 refine⟨fun w S γ m cs ds vs us b hk hr hr' he=> ?_,h3⟩
 split at h2
 ·rename_i k hk'
  have:=y8s h2
  subst this
  have hl:=zbs cs
  rw[hk]at hl
  obtain⟨a,c,i1,i2,i3⟩:=ygp 20 (D:=10000) (by omega) hk' (xs:=vs.toArray) (ys:=us.toArray) (off:=0) (vs:=vs) (us:=us) (by simp only[eM];exact bF (by rw[hr.length,hl];exact al _)) (by simp only[eM];exact bF (by rw[hr'.length,ziv he,hl];exact al _)) hk hr hr' he
  have pt:∀{zs:List Value},zs.length=k.length->(part t zs.toArray 0).run P w= .ok (.agg zs.toArray) w:=by
   intro zs hz
   unfold eqSh at hk'
   split at h1
   ·rename_i fs hu
    rw[hu]at hk'
    cases hi:P.info? t with
    | none=>rw[hi]at hk';simp at hk'
    | some i=>
     rw[hi]at hk'
     simp only at hk'
     rcases bif_some hk' with⟨_,h⟩ | ⟨hst,h⟩
     ·cases h
     ·split at h
      ·rename_i n hn
       rcases bif_some h with⟨hsz,h⟩ | ⟨_,h⟩
       ·cases h
        have hsz:=ah hsz
        simp only[part,isAgg,Sem.run_bind,run_underlying hu,Result.andThen_ok,Sem.run_pure,if_true,zyh hi]
        have e:zs.toArray.extract 0 (0+i.size)=zs.toArray:=by
         apply bS
         simp[hsz,<-hz]
        rw[e]
       ·cases h
      ·cases h
   ·cases h1
  rw[pt (by rw[hr.length,hl])]at i1
  rw[pt (by rw[hr'.length,ziv he,hl])]at i2
  cases i1;cases i2
  exact i3
 ·cases h2
end eq
variable {R:Type}
def ldA(E:Env)(m:Nat->Option MO)(t:TypeId)(a:AV):Option AV:=
 match E.ty t with
 | none=>none
 | some ti=>match a with
  | .ptr n off=>match m n with
   | some (.box cs _)=>z0i ti off cs
   | _=>none
  | .bx cs off=>z0i ti off cs
  | _=>none
def rv1(E:Env)(σ:St):ResultVar->Option AV
 | .tmp t=>some (σ.ρ t)
 | .cell a t=>ldA E σ.m t (σ.ρ a)
def mapR(E:Env)(σ:St):List ResultVar->Option (List AV)
 | []=>some []
 | x::xs=>match rv1 E σ x with
  | some v=>match mapR E σ xs with
   | some vs=>some (v::vs)
   | none=>none
  | none=>none
def retV:List AV->AV
 | [v]=>v
 | vs=> .tup vs
def K6:Nat:=1000000
def finA(E:Env)(rs:List ResultVar)(σ:St)(K:(Nat->Option MO)->AV->Option R):Option R:=
 match mapR E ⟨σ.ρ,stillR σ.m (E.still K6)⟩ rs with
 | some vs=>K (stillR σ.m (E.still K6)) (retV vs)
 | none=>none
def yn5(E:Env)(Λ:Lps)(c:Code)(rs:List ResultVar)(nt:Nat)(as:List AV)(o:RS)(l:List RS):Option (resT o l):=
 gd ((ci as.length nt&&ci nt 4096)&&ci rs.length 4) (zcj E Λ c 1 ⟨argsA 0 as,m0⟩ fun e σ=>match e with
  | .normal=>finA E rs σ fun m v=>y0j m o l v
  | .ret=>finA E rs σ fun m v=>y0j m o l v
  | .exit _=>none)
def zhn(ash:Sh)(o:RS)(l:List RS)(F:ash.T->Option (resT o l)):Ctr where
 T:=resT o l
 dom:=fun as=>match zak (getP m0 [] ash as)with | some v=>some (F v) | none=>none
 out:=fun x K=>y0f o l x K
 nat:=fun x K=>y2c K l o x
def Ctr.run(c:Ctr)(as:List AV)(K:AV->Option R):Option R:=
 match c.dom as with
 | some o=>match o with
  | some t=>c.out t K
  | none=>none
 | none=>none
theorem yl5(E:Env)(f:FuncId)(as:List AV)(K:AV->Option R):E.callK f as K=match E.call f as with | some c=>c.run as K | none=>none:=rfl
def y9r:List (Nat×Ctr)->FuncId->List AV->Option Ctr
 | [],_,_=>none
 | (g,c)::r,f,as=>bif aC f g then(match c.dom as with | some _=>some c | none=>y9r r f as)else y9r r f as
theorem zy0{f:FuncId}{as:List AV}{c:Ctr}:∀{l:List (Nat×Ctr)},y9r l f as=some c->(f,c)∈l
 | [],h=>by cases h
 | (g,c')::r,h=>by
  simp only[y9r]at h
  cases hb:aC f g with
  | true=>
   rw[hb]at h
   simp only[cond_true]at h
   have e:=ah hb
   split at h
   ·cases h;rw[e];simp
   ·exact aF _ (zy0 h)
  | false=>
   rw[hb]at h
   exact aF _ (zy0 h)
def TabOk(P:Program):List (Nat×Ctr)->Prop
 | []=>True
 | (g,c)::r=>(z4i P g fun as=>c.run as some)/\TabOk P r
theorem TabOk.mem{P:Program}{f:FuncId}{c:Ctr}:∀{l:List (Nat×Ctr)},TabOk P l->(f,c)∈l->z4i P f fun as=>c.run as some
 | (g,c')::r,h,hm=>by
  rcases am.1 hm with e | hm
  ·cases e;exact h.1
  ·exact TabOk.mem h.2 hm
theorem yjw{P:Program}{E:Env}{l:List (Nat×Ctr)}(he:E.call=y9r l)(h:TabOk P l)(f:FuncId):z4i P f fun as=>E.callK f as some:=by
 intro w S as vals r hlow hrep hc
 simp only[yl5,he]at hc
 split at hc
 ·rename_i c hf
  exact h.mem (zy0 hf) w S as vals r hlow hrep hc
 ·cases hc
def y66:List (Nat×TI)->TypeId->Option TI
 | [],_=>none
 | (k,ti)::r,t=>bif aC t k then some ti else y66 r t
theorem zoi{P:Program}:∀{l:List (Nat×TI)},(l.all fun r=>tiOk P r.1 r.2)=true->∀t ti,y66 l t=some ti->TIok P t ti
 | [],_,_,_,h=>by cases h
 | (k,q)::r,ha,t,ti,h=>by
  simp only[br,ac]at ha
  rcases bif_some (by simpa only[y66] using h)with⟨hb,h2⟩ | ⟨_,h2⟩
  ·have e:=ah hb
   cases h2
   rw[e];exact yhd ha.1
  ·exact zoi ha.2 t ti h2
def yea:List (Nat×String×Nat)->TypeId->String->Option FuncId
 | [],_,_=>none
 | (k,s,f)::r,t,n=>bif aC t k then(match decEq n s with | isTrue _=>some f | isFalse _=>yea r t n)else yea r t n
def ya3(P:Program):List (Nat×String×Nat)->Prop
 | []=>True
 | (k,s,f)::r=>(∀(v:Value) (w:World),(method (P.types.size+Made.depth) k v s).run P w= .ok (f,v) w)/\ya3 P r
theorem y4c{P:Program}:∀{l:List (Nat×String×Nat)},ya3 P l->∀t n f,yea l t n=some f->∀(v:Value) (w:World),(method (P.types.size+Made.depth) t v n).run P w= .ok (f,v) w
 | [],_,_,_,_,h=>by cases h
 | (k,s,g)::r,hm,t,n,f,h=>by
  simp only[yea]at h
  rcases bif_some h with⟨hb,h2⟩ | ⟨_,h2⟩
  ·have e:=ah hb
   split at h2
   ·rename_i e2 _
    cases h2
    rw[e,e2];exact hm.1
   ·exact y4c hm.2 t n f h2
  ·exact y4c hm.2 t n f h2
def hasT(t:Nat)(n:List Nat):List (Nat×List Nat)->Bool
 | []=>false
 | k::r=>(aC t k.1&&nlEq n k.2) || hasT t n r
theorem ygi{P:Program}:∀{l:List (Nat×List Nat)},(l.all fun r=>eqB P r.1 r.2)=true->∀t n,hasT t n l=true->EqOk P t n/\P.eqGuardType P.depth t=false
 | [],_,_,_,h=>by cases h
 | k::r,hq,t,n,h=>by
  simp only[br,ac]at hq
  simp only[hasT,ay,ac]at h
  rcases h with h | h
  ·rw[ah h.1,y8s h.2];exact yqx hq.1
  ·exact ygi hq.2 t n h
def y5z:List (Nat×CtrM)->FuncId->List CtrM
 | [],_=>[]
 | (g,c)::r,f=>bif aC f g then c::y5z r f else y5z r f
def y9y(P:Program):List (Nat×CtrM)->Prop
 | []=>True
 | (g,c)::r=>zc9 P g c/\y9y P r
theorem zy1{P:Program}:∀{l:List (Nat×CtrM)},y9y P l->∀f c,c∈y5z l f->zc9 P f c
 | [],_,_,_,h=>by cases h
 | (g,c')::r,ht,f,c,h=>by
  simp only[y5z]at h
  cases hb:aC f g with
  | true=>
   rw[hb]at h
   rcases am.1 h with e | h
   ·rw[e,ah hb];exact ht.1
   ·exact zy1 ht.2 f c h
  | false=>rw[hb]at h;exact zy1 ht.2 f c h
def yj9:List (Nat×CtrR)->Nat->Option CtrR
 | [],_=>none
 | (g,c)::r,f=>bif aC f g then some c else yj9 r f
def y9x(P:Program):List (Nat×CtrR)->Prop
 | []=>True
 | (g,c)::r=>SoundR P g c/\y9x P r
theorem ycr{P:Program}:∀{l:List (Nat×CtrR)},y9x P l->∀f c,yj9 l f=some c->SoundR P f c
 | [],_,_,_,h=>by cases h
 | (g,c')::r,ht,f,c,h=>by
  simp only[yj9]at h
  cases hb:aC f g with
  | true=>
   rw[hb]at h
   cases h
   rw[ah hb];exact ht.1
  | false=>rw[hb]at h;exact ycr ht.2 f c h
def ypl(ty:List (Nat×TI))(eqs:List (Nat×List Nat))(ms:List (Nat×String×Nat))(still:List (Nat×List Nat))(pre:List Nat)(tab:List (Nat×Ctr))(tabM:List (Nat×CtrM):=[])(tabR:List (Nat×CtrR):=[]):Env where
 ty:=y66 ty
 call:=y9r tab
 callM:=y5z tabM
 rounds:=yj9 tabR
 meth:=yea ms
 eqt:=fun t n=>hasT t n eqs
 still:=fun r=>(still.find? fun p=>aC p.1 r).elim [] fun p=>p.2
 pre:=fun d=>pre.any fun k=>aC d k
theorem ykf{P:Program}{ty:List (Nat×TI)}{eqs:List (Nat×List Nat)}{ms:List (Nat×String×Nat)}{still:List (Nat×List Nat)}{pre:List Nat}{tab:List (Nat×Ctr)}{tabM:List (Nat×CtrM)}{tabR:List (Nat×CtrR)}(h1:(ty.all fun r=>tiOk P r.1 r.2)=true)(h2:(eqs.all fun r=>eqB P r.1 r.2)=true)(h3:ya3 P ms)(h4:TabOk P tab)(h5:y9y P tabM:=by trivial)(h6:y9x P tabR:=by trivial):EnvOk P (ypl ty eqs ms still pre tab tabM tabR):=
 ⟨zoi h1,fun t n h=>ygi h2 t n h,yjw rfl h4,zy1 h5,ycr h6,y4c h3⟩
def zkj:Code->List Bool->Code
 | c,[]=>c
 | .seq a b,x::l=>bif x then zkj b l else zkj a l
 | .cond _ a b,x::l=>bif x then zkj b l else zkj a l
 | .block _ c,_::l=>zkj c l
 | .scope c,_::l=>zkj c l
 | .loop c,_::l=>zkj c l
 | .rangeFunc _ _ a b,x::l=>bif x then zkj b l else zkj a l
 | c,_=>c
theorem ObjRel.lives{w:World}{S:Nat->Prop}{γ:Nat->Loc}{m:Nat->Option MO}{n:Nat}{o:MO}(h:ObjRel w S γ m n o){w':World}(hw:o.live=true->∀b,(γ n).blk=some b->w'.heap[b]? =w.heap[b]?)(hS:∀b,S b->w'.heap[b]? =w.heap[b]?):ObjRel w' S γ m n o:=
 ObjRel.later h hS (fun _ h=>h) (Keeps.refl _ _) rfl fun hl b hb=>⟨hw hl b hb,(ObjRel.notS h hl hb).1⟩
theorem Rel.unmark{X:Cx}{w:World}{S:Nat->Prop}{γ:Nat->Loc}{σ:St}{a:Act}{d:Deferred}{ds:List Deferred}(h:Rel X w S γ σ a)(hd:a.defers=d::ds)(hN:X.w0.heap.size<=X.N):
  ∃D,d={target:= .collected D,args:= #[]}/\w.heap[D]? =some (.deferred (some []))/\Rel X (w.putObj D (.deferred none)) S γ σ {a with defers:=ds}:=by
 have hm:=h.defers
 rw[hd]at hm
 obtain⟨⟨D,h1,h2,h3,h4⟩,h5,h6⟩:=hm
 have hw:∀n o,σ.m n=some o->o.live=true->∀b,(γ n).blk=some b->(w.putObj D (.deferred none)).heap[b]? =w.heap[b]? :=fun n o ho hl b hb=>World.putObj_heap_other fun e=>by
  obtain⟨_,o',g1,g2⟩:=ObjRel.notS (h.mem.obj n o ho) hl hb
  rw[e,h2]at g1;cases g1
  exact absurd rfl (g2 _)
 have hS:∀b,S b->(w.putObj D (.deferred none)).heap[b]? =w.heap[b]? :=fun b hb=>World.putObj_heap_other (fun e=>h3 (e▸hb))
 have hbel:Bel X.B X.w0 (w.putObj D (.deferred none)):=by
  have hb:=h.below
  refine⟨hb.os,hb.tape,hb.output, ?_,fun k hk=>(World.putObj_heap_other (fun e=>by have:=h.base_le k hk;omega)).trans (hb.block k hk),fun k ds hk=> ?_⟩
  ·rw[World.putObj_size];exact hb.size
  ·have hlt:=(bh.1 hk).1
   rw[World.putObj_heap_other (by omega)];exact hb.others k ds hk
 refine⟨D,h1,h2,⟨⟨fun n o ho=>ObjRel.lives (h.mem.obj n o ho) (hw n o ho) hS,fun b hb=>by rw[World.putObj_size];exact h.mem.low b hb,h.mem.apart,h.mem.high⟩,fun t=>RepA.mono hS (fun _ h=>h) (Keeps.refl _ _) _ _ (h.tm t),hbel,h.base_le,h.s0,h.snew, ?_,h.pin,h.pnhi,h.small⟩⟩
 have go:∀{l:List Deferred},(∀d',d'∈l->d'≠d)->MarksOk X.N w S l->MarksOk X.N (w.putObj D (.deferred none)) S l:=by
  intro l
  induction l with
  | nil=>intro _ _;trivial
  | cons e l ih=>
   rintro hn ⟨⟨D',e1,e2,e3,e4⟩,e5,e6⟩
   refine⟨⟨D',e1, ?_,e3,e4⟩,e5,ih (fun d' hd'=>hn d' (aF _ hd')) e6⟩
   have:D'≠D:=fun q=>hn e (by simp) (by rw[e1,h1,q])
   rw[World.putObj_heap_other this];exact e2
 exact go h5 h6
section fn
variable {P:Program} {E:Env} (hE:EnvOk P E) (hmix:P.follows .mixedOrders=true) {Λ:Lps}
include hE in
theorem yqu{w:World}{S:Nat->Prop}{γ:Nat->Loc}{m:Nat->Option MO}{base:Nat->Prop}(hm:MemRel w S γ m base){t:TypeId}{a v:AV}{x:Value}(h:ldA E m t a=some v)(hx:RepA w S γ m a x):
  ∃y,(do loadVar t (<-asAddr x):Sem Value).run P w= .ok y w/\RepA w S γ m v y:=by
 unfold ldA at h
 split at h
 ·cases h
 ·rename_i ti hti
  split at h
  ·rename_i n off
   obtain⟨cs0,s0,b,k1,k2,k3⟩:=hx
   split at h
   ·rename_i cs s hn
    obtain⟨b',vs,el',g1,g2,g3,g4,g5,g6⟩:=hm.obj n _ hn
    rw[k2]at g1;cases g1
    obtain⟨y,h1,h2⟩:=y8l (P:=P) hE.ty hti g3 g4 (b:=b) (o:=0) (fun j u hj=>by rw[bk,cell_of_row w b j _ _ _ g2];simpa using hj) h
    refine⟨y, ?_,h2⟩
    rw[bk]at h1
    subst k3
    simp[asAddr,h1]
   ·cases h
  ·rename_i cs off
   obtain⟨b,vs,k1,k2,k3,k4,k5⟩:=hx
   obtain⟨y,h1,h2⟩:=y8l (P:=P) hE.ty hti k3 k4 (b:=b) (o:=0) k5 h
   refine⟨y, ?_,h2⟩
   rw[bk]at h1
   subst k1
   simp[asAddr,h1]
  ·cases h
def rvM(tmps:Array Value):ResultVar->Sem Value
 | .tmp t=>pure (tmps.getD t undef)
 | .cell a t=>do loadVar t (<-asAddr (tmps.getD a undef))
theorem yai(fn:Func)(tmps:Array Value):results fn tmps=(do
  let vs<-fn.results.mapM (rvM tmps)
  pure (if h:vs.size=1 then vs[0]else .tuple vs)):=by
 unfold results
 congr 1
include hE in
theorem yqi{X:Cx}{w:World}{S:Nat->Prop}{γ:Nat->Loc}{σ:St}{a:Act}(h:Rel X w S γ σ a){x:ResultVar}{v:AV}(hv:rv1 E σ x=some v):
  ∃y,(rvM a.tmps x).run P w= .ok y w/\RepA w S γ σ.m v y:=by
 cases x with
 | tmp t=>
  cases hv
  exact⟨_,rfl,h.tm t⟩
 | cell p t=>exact yqu hE h.mem hv (h.tm p)
inductive Runs (P:Program) (w:World) (tmps:Array Value):List ResultVar->List Value->Prop
 | nil:Runs P w tmps [] []
 | cons {x:ResultVar} {y:Value} {xs:List ResultVar} {ys:List Value} (h:(rvM tmps x).run P w= .ok y w) (t:Runs P w tmps xs ys):Runs P w tmps (x::xs) (y::ys)
include hE in
theorem y8t{X:Cx}{w:World}{S:Nat->Prop}{γ:Nat->Loc}{σ:St}{a:Act}(h:Rel X w S γ σ a):∀{xs:List ResultVar} {vs:List AV},mapR E σ xs=some vs->
  ∃ys,RepAs w S γ σ.m vs ys/\Runs P w a.tmps xs ys
 | [],vs,hv=>by cases hv;exact⟨[],rfl, .nil⟩
 | x::xs,vs,hv=>by
  simp only[mapR]at hv
  split at hv
  ·rename_i v h1
   split at hv
   ·rename_i vs' h2
    cases hv
    obtain⟨y,k1,k2⟩:=yqi (P:=P) hE h h1
    obtain⟨ys,l1,l2⟩:=y8t h h2
    exact⟨y::ys,⟨y,ys,rfl,k2,l1⟩, .cons k1 l2⟩
   ·cases hv
  ·cases hv
def zpm:List Value->Value
 | [v]=>v
 | vs=> .tuple (List.toArray vs)
theorem ybm{w:World}{S:Nat->Prop}{γ:Nat->Loc}{m:Nat->Option MO}{vs:List AV}{ys:List Value}(h:RepAs w S γ m vs ys):RepA w S γ m (retV vs) (zpm ys):=by
 match vs,h with
 | [],h=>rw[show ys=[]from h];exact⟨[],rfl,rfl⟩
 | [v],h=>
  obtain⟨u,us,rfl,h1,h2⟩:=h
  rw[show us=[]from h2];exact h1
 | v::v'::vs,h=>
  have h0:=h
  obtain⟨u,us,rfl,h1,u',us',rfl,h2,h3⟩:=h
  exact⟨_,rfl,h0⟩
theorem y22{fn:Func}{tmps:Array Value}{w:World}{ys:List Value}(h:Runs P w tmps fn.results.toList ys)(hl:fn.results.toList.length<=4):(results fn tmps).run P w= .ok (zpm ys) w:=by
 rw[yai]
 have e:fn.results=fn.results.toList.toArray:=by simp
 generalize fn.results.toList=xs at h hl e
 rw[e]
 match xs,ys,h,hl with
 | [],[],_,_=>simp[zpm]
 | [x],[y], .cons h1 .nil,_=>simp[zpm,h1]
 | [x,x2],[y,y2], .cons h1 (.cons h2 .nil),_=>simp[zpm,h1,h2]
 | [x,x2,x3],[y,y2,y3], .cons h1 (.cons h2 (.cons h3 .nil)),_=>simp[zpm,h1,h2,h3]
 | [x,x2,x3,x4],[y,y2,y3,y4], .cons h1 (.cons h2 (.cons h3 (.cons h4 .nil))),_=>simp[zpm,h1,h2,h3,h4]
 | _::_::_::_::_::_,_,_,hl=>simp only[af]at hl;omega
include hE hmix in
theorem ykv{f:FuncId}{fn:Func}{c:Code}(hf:P.funcs[f]? =some fn)(hb:fn.body=some c)(hname:(fn.name== "runtime.NumGoroutine")=false)(hobs:∀x,x∈obs Λ c 1->LpOk P fn.ntmps none x.1 x.2)(hd:z41 fn.ntmps c=true)
  {ash:Sh} {o:RS} {l:List RS} {F:ash.T->Option (resT o l)} (hF:∀v,F v=yn5 E Λ c fn.results.toList fn.ntmps (mkL ash v) o l):z4i P f fun as=>(zhn ash o l F).run as some:=by
 intro w S as vals r hlow hrep h
 refine⟨fun w' args=>by simp[callFunc,Sem.run_bind,run_program,Result.andThen_ok,hf,hb,(by simpa using hname:¬fn.name= "runtime.NumGoroutine")], ?_⟩
 simp only[Ctr.run,zhn]at h
 split at h
 ·rename_i o' ho'
  split at ho'
  ·rename_i v hv
   cases ho'
   split at h
   ·rename_i t ht
    rw[hF]at ht
    have hm0:MemRel w S g0 m0 (fun k=>k<w.heap.size):=⟨fun n q hq=>(by cases hq),hlow,fun n n' q q' b hq=>(by cases hq),fun n q b hq=>(by cases hq)⟩
    have hren:Ren g0 m0 [] m0 g0:=⟨fun n d h=>(by cases h),fun n h=>(by cases h)⟩
    obtain⟨xs1,xs2,vs1,e1,e2,k1,k2,k3⟩:=zog hm0 hren ash as [] v vals (z05 hv) hrep
    rw[show xs2=[]from k2,ai]at e1
    subst e1
    unfold yn5 at ht
    obtain⟨hlen,ht⟩:=W0 ht
    simp only[ac,Nat.ble_eq]at hlen
    have hvl:=k1.length
    have hrel:Rel ⟨fun k=>k<w.heap.size,w,S,fun _=>none,w.heap.size,al _⟩ w S g0 ⟨argsA 0 (mkL ash v),m0⟩ {tmps:=vals.toArray++cD (fn.ntmps-vals.toArray.size) undef,defers:=[]}:=by
     refine⟨hm0,fun t=> ?_,Bel.refl _ _,fun _ h=>h,fun _ h=>h,fun _ h=> .inl h,trivial,fun n o l hq=>(by cases hq),fun n l hl=>(by cases hl),by simp;omega⟩
     have:=zpc (rest:=ar (fn.ntmps-vals.length) undef) 0 t k1
     have e:vals.toArray++cD (fn.ntmps-vals.toArray.size) undef=(vals++ar (fn.ntmps-vals.length) undef).toArray:=by
      apply bS;simp
     show RepA w S g0 m0 _ ((vals.toArray++cD (fn.ntmps-vals.toArray.size) undef).getD t undef)
     rw[e]
     simpa[bL,aM] using this
    refine callsIn_wide.1 (callsIn_of_wp_marks (n:=0) hf hb trivial (wpIn_mono (z2p (ro:=none) hE hmix c 1 hobs hd hrel (by simp;omega) ht) ?_))
    have fin:∀(ds:List Deferred) {a':Act} {w':World} {S':Nat->Prop} {γ':Nat->Loc} {σ':St},Rel ⟨fun k=>k<w.heap.size,w,S,fun _=>none,w.heap.size,al _⟩ w' S' γ' σ' a'->a'.defers=ds->(finA E fn.results.toList σ' fun m v=>y0j m o l v)=some t->
      LeavesInM (RF none) 0 P fn a'.tmps (fun e w'=>∃x S'' ls,e= .returned x/\Below w.heap.size w w'/\(∀b,S b->S'' b)/\(∀b,S'' b->S b\/(w.heap.size<=b/\b<w'.heap.size))/\RepX w' S'' r x ls/\Locs (fun k=>k<w.heap.size) ls) ds .returning w':=by
     intro ds
     induction ds with
     | nil=>
      intro a' w' S' γ' σ' h1 hdn h2
      obtain⟨S2,h1⟩:=Rel.stillR (E.still K6) h1
      unfold finA at h2
      split at h2
      ·rename_i vs hvs
       obtain⟨ys,j1,j2⟩:=y8t (P:=P) hE h1 hvs
       obtain⟨v',ls,i1,i2,i3⟩:=y79 h1.mem (ybm j1) h2 h
       cases i1
       refine⟨_,y22 j2 hlen.2,_,S2,ls,rfl,h1.below.below,h1.s0,fun b hb=>(h1.snew b hb).imp id fun h=>⟨?_,h1.mem.low b hb⟩,i2,i3⟩
       have h:¬b<w.heap.size:=h
       omega
      ·cases h2
     | cons d ds ih=>
      intro a' w' S' γ' σ' h1 hdn h2
      obtain⟨D,e1,e2,h1⟩:=h1.unmark hdn (al _)
      refine⟨by simp, .inl ⟨D,_,by rw[e1],run_takeDeferred e2, ?_⟩⟩
      exact ih (a':={a' with defers:=ds}) h1 rfl h2
    rintro e a' w' ⟨e',σ',S',γ',rfl,h1,h2,h3⟩
    cases e' with
    | normal=>exact fin _ h1 rfl h3
    | ret=>exact fin _ h1 rfl h3
    | exit i=>cases h3
   ·cases h
  ·cases ho'
 ·cases h
end fn
def OutM(o:Cut):List Cut->Type
 | []=>o.T
 | o'::r=>o.T⊕OutM o' r
def resS(m:Nat->Option MO)(v:AV):St:=⟨fun i=>bif aC i 0 then v else .undef,m⟩
def y9p(m:Nat->Option MO)(v:AV)(o:Cut):(l:List Cut)->Option (OutM o l)
 | []=>getM o (resS m v).ρ m
 | o'::r=>match getM o (resS m v).ρ m with
  | some x=>some (.inl x)
  | none=>match y9p m v o' r with | some x=>some (.inr x) | none=>none
def y9k(o:Cut):(l:List Cut)->OutM o l->(St->List Nat->Option R)->Option R
 | [],x,K=>K (mkC o x) (o.objs.map (·.1))
 | o'::r,x,K=>match x with
  | .inl x=>K (mkC o x) (o.objs.map (·.1))
  | .inr x=>y9k o' r x K
theorem y6r(K:St->List Nat->Option R):∀(l:List Cut) (o:Cut) (x:OutM o l),y9k o l x K=(y9k o l x fun τ ns=>some (τ,ns)).bind fun p=>K p.1 p.2
 | [],o,x=>rfl
 | o'::r,o,x=>by
  cases x with
  | inl x=>rfl
  | inr x=>exact y6r K r o' x
def ctrM(cin o:Cut)(l:List Cut)(F:cin.T->Option (OutM o l)):CtrM where
 cin:=cin
 T:=OutM o l
 F:=F
 out:=fun x K=>y9k o l x K
 nat:=fun x K=>y6r K l o x
def yn4(E:Env)(Λ:Lps)(c:Code)(rs:List ResultVar)(nt:Nat)(cin:Cut)(v:cin.T)(o:Cut)(l:List Cut):Option (OutM o l):=
 gd (((ci (mkL cin.sh v.1).length nt&&ci nt 4096)&&ci rs.length 4)&&cin.objs.all fun p=>ci 5000000 p.1) (zcj E Λ c 1 ⟨argsA 0 (mkL cin.sh v.1),mofO cin.objs v.2⟩ fun e σ=>match e with
  | .normal=>finA E rs σ fun m r=>y9p m r o l
  | .ret=>finA E rs σ fun m r=>y9p m r o l
  | .exit _=>none)
theorem zhw{n:Nat}:∀{l:List (Nat×List Nat×OK)} {v:OT l},mofO l v n≠none->n∈l.map (·.1)
 | [],_,h=>absurd rfl h
 | (k,src,ok)::l,v,h=>by
  simp only[mofO]at h
  cases hb:aC n k with
  | true=>rw[ah hb];simp
  | false=>rw[hb]at h;simp only[ax,am];exact .inr (zhw h)
theorem ycl{X:Cx}{w:World}{S:Nat->Prop}{γ:Nat->Loc}{m:Nat->Option MO}{v:AV}{u:Value}(h:Rel X w S γ (resS m v) {tmps:= #[u],defers:=[]}){K:St->List Nat->Option R}{r:R}:∀{l:List Cut} {o:Cut} {x:OutM o l},y9p m v o l=some x->y9k o l x K=some r->
  ∃γ' τ ns,Rel X w S γ' τ {tmps:= #[u],defers:=[]}/\K τ ns=some r/\∀n,τ.m n≠none->n∈ns
 | [],o,x,hg,ho=>by
  obtain⟨γ',h'⟩:=y94 h hg
  exact⟨γ',_,_,h',ho,fun n hn=>zhw hn⟩
 | o'::l,o,x,hg,ho=>by
  simp only[y9p]at hg
  split at hg
  ·rename_i y hy
   cases hg
   obtain⟨γ',h'⟩:=y94 h hy
   exact⟨γ',_,_,h',ho,fun n hn=>zhw hn⟩
  ·split at hg
   ·rename_i y hy
    cases hg
    exact ycl h hy ho
   ·cases hg
section fnM
variable {P:Program} {E:Env} (hE:EnvOk P E) (hmix:P.follows .mixedOrders=true) {Λ:Lps}
include hE hmix in
theorem yib{f:FuncId}{fn:Func}{c:Code}(hf:P.funcs[f]? =some fn)(hb:fn.body=some c)(hname:(fn.name== "runtime.NumGoroutine")=false)(hobs:∀x,x∈obs Λ c 1->LpOk P fn.ntmps none x.1 x.2)(hd:z41 fn.ntmps c=true)
  {cin o:Cut} {l:List Cut} {F:cin.T->Option (OutM o l)} (hF:∀v,F v=yn4 E Λ c fn.results.toList fn.ntmps cin v o l):zc9 P f (ctrM cin o l F):=by
 intro w S γ B (v:cin.T) vals R (t:OutM o l) K r hm hBs hrep ht hout
 refine⟨fun w' args=>by simp[callFunc,Sem.run_bind,run_program,Result.andThen_ok,hf,hb,(by simpa using hname:¬fn.name= "runtime.NumGoroutine")], ?_⟩
 have ht:F v=some t:=ht
 have hout:y9k o l t K=some r:=hout
 have hm:MemRel w S γ (mofO cin.objs v.2) B:=hm
 have hrep:RepAs w S γ (mofO cin.objs v.2) (mkL cin.sh v.1) vals:=hrep
 rw[hF]at ht
 unfold yn4 at ht
 obtain⟨hlen,ht⟩:=W0 ht
 simp only[ac,Nat.ble_eq,az]at hlen
 obtain⟨⟨⟨hl1,hl2⟩,hl3⟩,hl4⟩:=hlen
 have hvl:=hrep.length
 have hhi:∀n,mofO cin.objs v.2 n≠none->5000000<=n:=fun n hn=>by
  obtain⟨p,h1,h2⟩:=aH.1 (zhw hn)
  rw[<-h2];exact hl4 p h1
 have hrel:Rel ⟨B,w,S,fun n=>(mofO cin.objs v.2 n).map fun q=>(γ n,q.kind),w.heap.size,al _⟩ w S γ ⟨argsA 0 (mkL cin.sh v.1),mofO cin.objs v.2⟩ {tmps:=vals.toArray++cD (fn.ntmps-vals.toArray.size) undef,defers:=[]}:=by
  refine⟨hm,fun t=> ?_,Bel.refl _ _,hBs,fun _ h=>h,fun _ h=> .inl h,trivial,fun n o l hq hl=> ?_,fun n l hl=> ?_,by simp;omega⟩
  ·have:=zpc (rest:=ar (fn.ntmps-vals.length) undef) 0 t hrep
   have e:vals.toArray++cD (fn.ntmps-vals.toArray.size) undef=(vals++ar (fn.ntmps-vals.length) undef).toArray:=by
    apply bS;simp
   show RepA w S γ _ _ ((vals.toArray++cD (fn.ntmps-vals.toArray.size) undef).getD t undef)
   rw[e]
   simpa[bL,aM] using this
  ·have hq:mofO cin.objs v.2 n=some o:=hq
   simp only[hq,aT,aR.injEq]at hl
   subst hl;exact⟨rfl,rfl⟩
  ·refine hhi n fun h=> ?_
   simp only[h]at hl;cases hl
 refine callsIn_wide.1 (callsIn_of_wp_marks (n:=0) hf hb trivial (wpIn_mono (z2p (ro:=none) hE hmix c 1 hobs hd hrel (by simp;omega) ht) ?_))
 have fin:∀(ds:List Deferred) {a':Act} {w':World} {S':Nat->Prop} {γ':Nat->Loc} {σ':St},Rel ⟨B,w,S,fun n=>(mofO cin.objs v.2 n).map fun q=>(γ n,q.kind),w.heap.size,al _⟩ w' S' γ' σ' a'->a'.defers=ds->(finA E fn.results.toList σ' fun m r=>y9p m r o l)=some t->
   LeavesInM (RF none) 0 P fn a'.tmps (fun e w'=>∃x S' γ' τ ns,e= .returned x/\K τ ns=some r/\BackOk (fun _=>False) B w S γ (mofO cin.objs v.2) w' S' γ' τ ns x) ds .returning w':=by
  intro ds
  induction ds with
  | nil=>
   intro a' w' S' γ' σ' h1 hdn h2
   obtain⟨S2,h1⟩:=Rel.stillR (E.still K6) h1
   unfold finA at h2
   split at h2
   ·rename_i vs hvs
    obtain⟨ys,j1,j2⟩:=y8t (P:=P) hE h1 hvs
    have hres:=ybm j1
    have h3:Rel ⟨B,w,S,fun n=>(mofO cin.objs v.2 n).map fun q=>(γ n,q.kind),w.heap.size,al _⟩ w' S2 γ' (resS (stillR σ'.m (E.still K6)) (retV vs)) {tmps:= #[zpm ys],defers:=[]}:=by
     refine⟨h1.mem,fun t=> ?_,h1.below,h1.base_le,h1.s0,h1.snew,trivial,h1.pin,h1.pnhi,by simp⟩
     show RepA _ _ _ _ (bif aC t 0 then retV vs else .undef) _
     cases t with
     | zero=>exact hres
     | succ t=>trivial
    obtain⟨γ3,τ,ns,i1,i2,i3⟩:=ycl h3 h2 hout
    refine⟨_,y22 j2 hl3,_,S2,γ3,τ,ns,rfl,i2,⟨i1.below.weak (fun k h=>h.1),i1.s0,i1.snew,i1.mem,i1.tm 0,fun n q q' hq hq'=> ?_,i3⟩⟩
    exact i1.pin n q' (γ n,q.kind) hq' (by simp only[hq,aT])
   ·cases h2
  | cons d ds ih=>
   intro a' w' S' γ' σ' h1 hdn h2
   obtain⟨D,e1,e2,h1⟩:=h1.unmark hdn (al _)
   refine⟨by simp, .inl ⟨D,_,by rw[e1],run_takeDeferred e2, ?_⟩⟩
   exact ih (a':={a' with defers:=ds}) h1 rfl h2
 rintro e a' w' ⟨e',σ',S',γ',rfl,h1,h2,h3⟩
 cases e' with
 | normal=>exact fin _ h1 rfl h3
 | ret=>exact fin _ h1 rfl h3
 | exit i=>cases h3
end fnM
theorem y2z{P:Program}{f:FuncId}{ash:Sh}{o:RS}{l:List RS}{F:ash.T->Option (resT o l)}(hF:∀v,F v=none):z4i P f fun as=>(zhn ash o l F).run as some:=by
 intro w S as vals r hlow hrep h
 simp only[Ctr.run,zhn]at h
 split at h
 ·rename_i o' ho'
  split at ho'
  ·cases ho'
   rw[hF]at h;cases h
  ·cases ho'
 ·cases h
theorem yif{P:Program}{f:FuncId}{cin o:Cut}{l:List Cut}{F:cin.T->Option (OutM o l)}(hF:∀v,F v=none):zc9 P f (ctrM cin o l F):=by
 intro w S γ B v vals R t K r hm hBs hrep ht hout
 exact absurd ((hF v).symm.trans ht) (by intro h;cases h)
end Go.Dv
