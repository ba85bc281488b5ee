/- Contracts of library functions, from the kit's shelf. -/
import Derived.Test.YtljffhpbdmkplaaGreatDvG
import Derived.Shelf.Spec.SlicesGrow
import Derived.Shelf.Small.Strs
import Derived.Shelf.SlLaysN
import Derived.Shelf.RegionOpenPlain
import Derived.Deep.LoopGhost
import Derived.Lib.Walk
import Derived.Lib.SliceRun
import Derived.Laws.AppendOwn
import Derived.Shelf.Spec.SlicesInsert
import Derived.Shelf.Spec.SlicesInsertGrow
import Derived.RangeFuncNested
import Derived.Test.YtljffhpbdmkplaaGreatDvC
import Derived.KernelRfl
import Derived.Shelf.Sort.Plain
import Derived.Shelf.Slices.In.SortNone
import Derived.Shelf.Bytes.SlClone
set_option linter.all false
open Array renaming getElem?_modify->dg
open Bool renaming and_eq_true->ab
open List renaming cons->bW,eq_nil_of_length_eq_zero->aF,getElem?_eq_getElem->aI,getElem?_eq_some_iff->aO,length->ak,mem_cons->ar,pairwise_singleton->cd
open Nat renaming beq->ax,ble->bG,blt->cj,eq_of_beq_eq_true->af,le_refl->ai,zero_add->bk,zero_le->aZ
open Option renaming map_some->aK,some->aL
namespace Go.Dv
open Go.RowKit
variable [LTab]
theorem zmt{P:Program}{f:FuncId}{fn:Func}{c:Code}(hf:P.funcs[f]? =some fn)(hb:fn.body=some c)(hname:(fn.name== "runtime.NumGoroutine")=false)(w':World)(args:Array Value):(callFunc f args).run P w'= .ok (.enter f args) w':=by simp_all[callFunc]
theorem x1b{w:World}{S:Nat->Prop}(hlow:∀b,S b->b<w.heap.size):MemRel w S g0 m0 (fun k=>k<w.heap.size):=
 ⟨fun n q hq=>(by cases hq),hlow,fun n n' q q' b hq=>(by cases hq),fun n q b hq=>(by cases hq)⟩
theorem yta{w:World}{S:Nat->Prop}(hlow:∀b,S b->b<w.heap.size){ash:Sh}{o:RS}{l:List RS}{F:ash.T->Option (resT o l)}{avs:List AV}{vals:List Value}{r:AV}(hrep:RepAs w S g0 m0 avs vals)(h:(znz ash o l F).run avs some=some r):
  ∃v t,F v=some t/\yau o l t some=some r/\RepAs w S g0 m0 (mkL ash v) vals:=by
 simp only[Ctr.run,znz]at h;split at h
 ·rename_i o' ho';split at ho'
  ·rename_i v hv;cases ho';split at h
   ·rename_i t ht;have hren:Ren g0 m0 [] m0 g0:=⟨fun n d h=>(by cases h),fun n h=>(by cases h)⟩;obtain⟨xs1,xs2,vs1,e1,e2,k1,k2,k3⟩:=zwh (x1b hlow) hren ash avs [] v vals (z1o hv) hrep;rw[show xs2=[]from k2,List.append_nil]at e1
    grind
   grind
  grind
 grind
end Go.Dv
namespace Go.Dv
open Go.RowKit Go.Lib Go.Shelf Go.Proofs
structure CloneL (P:Program) (ρ:Shelf.Ren):Prop where
 mixed:P.follows .mixedOrders=true
 f41:Bears P (ρ.f 41) (SlBodyN.n41 ρ)
 t4:P.underlying (ρ.t 4)=some .bool
 a4:∀w,(isAgg (ρ.t 4)).run P w= .ok false w
 z4:∀w,(Go.sizeOf (ρ.t 4)).run P w= .ok 1 w
 v4:∀w,(zeroValue (ρ.t 4)).run P w= .ok (Value.bool false) w
 t22:P.underlying (ρ.t 22)=some (.slice (ρ.t 23))
 a22:∀w,(isAgg (ρ.t 22)).run P w= .ok false w
 z22:∀w,(Go.sizeOf (ρ.t 22)).run P w= .ok 1 w
 v22:∀w,(zeroValue (ρ.t 22)).run P w= .ok (Value.slice none 0 0) w
section
variable {P:Program} {ρ:Shelf.Ren}
set_option maxHeartbeats 2000000 in
set_option maxRecDepth 100000 in
theorem yqe(L:CloneL P ρ)(i0:TypeInfo)(z:Value)(k by':Nat)(hi:P.info? (ρ.t 23)=some i0)(hz0:i0.zero=some z)(hz1:i0.size=k)(hz2:i0.bytes=by')(hzs:z.cells.size=k)(hk:0<k)
  (b off:Nat) (sp:Option Nat) (n c:Nat) (news:List Value) (w:World) (hl:news.length=n*k) (hbig:n*by'<=140737488355328) (h63:n<=maxLen) (h1:∀u∈news,u.oneCell'=true) (hc:∀j u,news[j]? =some u->sp=none/\w.cell? ⟨b,off+j,none⟩=some u):
  Calls P (ρ.f 41) #[.slice (some ⟨b,off,sp⟩) n c] w fun e w'=>∃v',e= .returned v'/\w'.ownsRow w.heap.size (ρ.t 23) k v' n news/\v'≠ .slice none 0 0/\Below w.heap.size w w':=by
 have mixed:=L.mixed;have t4:=L.t4;have a4:=L.a4;have z4:=L.z4;have v4:=L.v4;have t22:=L.t22;have a22:=L.a22;have z22:=L.z22;have v22:=L.v22;have q22:∀(w:World) (a:Option Addr) (n c n' c':Nat),(binOp .eql (ρ.t 22) (.slice a n c) (.slice none n' c')).run P w= .ok (.bool a.isNone) w:=fun w a n c n' c'=>Lib.run_eql_slice_nil w _ _ a n c n' c' L.t22;have u22:∀w,Sem.run P (underlying (ρ.t 22)) w= .ok (TypeDesc.slice (ρ.t 23)) w:=run_underlying t22;have z23:∀w,(Go.sizeOf (ρ.t 23)).run P w= .ok k w:=fun w=>by simp[Go.sizeOf,typeInfo,hi,hz1]
 have A:Aside (∀j u,news[j]? =some u->sp=none/\w.cell? ⟨b,off+j,none⟩=some u):=hc;have A1:Aside (∀u∈news,u.oneCell'=true):=h1;clear hc h1;obtain⟨_,_,FG⟩:=L.f41
 go_enter FG,SlBodyN.n41_ntmps ρ
 go_wp2_with (at_builtin;refine wpList_append_own _ rfl _ _ (ρ.t 22) rfl w.heap.size (ρ.t 23) i0 z k by' t22 hi hz0 hz1 hz2 hzs hk _ _ _ rfl (World.ownsRow_made w #[] 0 (ai _) (aZ _) (by simp)) ⟨b,off,sp⟩ n c news rfl ?qc1 ?qc2 ?qc3 ?qc4 ?qc5 ?qc6 ?_)
 case qc1=>exact hl
 case qc2=>
  intro j u hj;obtain⟨e,hj⟩:=A.out j u hj;subst e;rw[Addr.add_lit];exact Lib.cell?_alloc_some _ hj
 case qc3=>exact A1.out
 case qc4=>omega
 case qc5=>rw[bk];exact hbig
 case qc6=>simp
 intro v' w1 hown hgrow hnil
 go_wp2
 go_ret
 refine⟨v',rfl,by simpa using hown, ?_, ?_⟩
 ·exact hnil
 ·exact((Below.refl _ w).alloc (ai _) _).grown hgrow (by simp) (by intro k hk;simp[Value.ownBlock]at hk;omega)
set_option maxHeartbeats 1000000 in
theorem yv2(L:CloneL P ρ)(n c:Nat)(w:World):Calls P (ρ.f 41) #[.slice none n c] w fun e w'=>e= .returned (.slice none 0 0)/\w'=w:=by
 have mixed:=L.mixed;have t4:=L.t4;have a4:=L.a4;have z4:=L.z4;have v4:=L.v4;have t22:=L.t22;have a22:=L.a22;have z22:=L.z22;have v22:=L.v22;have q22:∀(w:World) (a:Option Addr) (n c n' c':Nat),(binOp .eql (ρ.t 22) (.slice a n c) (.slice none n' c')).run P w= .ok (.bool a.isNone) w:=fun w a n c n' c'=>Lib.run_eql_slice_nil w _ _ a n c n' c' L.t22;obtain⟨_,_,FG⟩:=L.f41
 go_enter FG,SlBodyN.n41_ntmps ρ
 go_wp2
 go_ret
 exact⟨rfl,rfl⟩
end
section
variable [LTab] {P:Program} {ρ:Shelf.Ren}
theorem yd9{w:World}{S:Nat->Prop}{t:Ty}{xs:List t.T}{b off n cap:Nat}{sp:Option Nat}(ht:0<t.size)(h:RepT w S (.list t) xs [.slice (some ⟨b,off,sp⟩) n cap]):
  ∃news,news.length=ak xs*t.size/\(∀j u,news[j]? =some u->sp=none/\w.cell? ⟨b,off+j,none⟩=some u)/\Rows w S t news xs/\∀u∈news,u.oneCell'=true:=by
 obtain⟨ao,cap',hu,hle,hnil,hsp,hel⟩:=h;simp only[bW.injEq,Value.slice.injEq,and_true]at hu;obtain⟨rfl,_,_⟩:=hu;have hcell:∀q,q<ak xs*t.size->∃u,w.cell? ⟨b,off+q,none⟩=some u/\u.oneCell'=true:=by
  intro q hq;have hi:q/t.size<ak xs:=by simp_all[Nat.div_lt_iff_lt_mul]
  have hj:q%t.size<t.size:=Nat.mod_lt _ ht;obtain⟨a',c,e1,_,e2,e3⟩:=hel (q/t.size) (xs[q/t.size]'hi) (aI hi);cases e1;have hcl:=e2.length;have hjc:q%t.size<c.length:=by omega
  refine⟨c[q%t.size], ?_,e2.one _ (List.getElem_mem hjc)⟩;have:=e3 (q%t.size) c[q%t.size] (aI hjc)
  grind[Nat.div_add_mod]
 refine⟨(List.range (ak xs*t.size)).map fun q=>(w.cell? ⟨b,off+q,none⟩).getD undef,by simp, ?_, ?_, ?_⟩
 ·grind
 ·intro i y hy;obtain⟨a',c,e1,_,e2,e3⟩:=hel i y hy;cases e1;refine⟨c,e2,fun j u hj=> ?_⟩;have hjl:=(aO.1 hj).1;have hcl:=e2.length;have hle:=zdv (s:=t.size) (zkd hy);have:=e3 j u hj
  grind
 grind
theorem y97(L:CloneL P ρ){ei:TI}{ty:Ty}(h1:TIok P (ρ.t 23) ei)(h2:ei.ty=some ty){fn:Func}{c:Code}(hf:P.funcs[ρ.f 41]? =some fn)(hb:fn.body=some c)(hname:(fn.name== "runtime.NumGoroutine")=false):
  z77 P (ρ.f 41) fun avs=>(znz (.list ty) (.fresh ty) [] (fun(xs:List ty.T)=>gd (fits xs.length ei.bytes) (some xs))).run avs some:=by
 intro w S avs vals r hlow hrep h;refine⟨zmt hf hb hname, ?_⟩;obtain⟨xs,t,hF,hout,hvals⟩:=yta hlow hrep h;obtain⟨u,us,rfl,k1,k2⟩:=hvals;rw[show us=[]from k2];obtain⟨hc,hF⟩:=X7 hF;cases hF;have hr:r= .fresh ty xs:=by
  have:some (AV.fresh ty xs)=some r:=hout
  grind
 subst hr;obtain⟨i,z,z1,z2,z3,z4,z5,z6⟩:=h1.inf;obtain⟨y1,y2,y3,y4⟩:=h1.ty ty h2;have k1:RepT w S (.list ty) xs [u]:=k1;have hfit:ak xs<maxB/\ak xs*ei.bytes<maxB:=by grind[fits]
 have mx:maxB=4398046511104:=rfl;have k1':=k1;obtain⟨ao,cap,hu,hle,hnil,hsp,hel⟩:=k1;simp only[bW.injEq,and_true]at hu;subst hu;cases ao with
 | none=>
  have hx:xs=[]:=aF (by grind);subst hx;refine(yv2 L _ _ w).mono fun e w'=> ?_;rintro⟨rfl,rfl⟩;refine⟨_,S,[⟨none,0⟩],rfl,Below.refl _ _,fun _ h=>h,fun _ h=> .inl h,⟨_,rfl,rfl,⟨ai _,aZ _,fun _=>rfl,fun a ha=>(by grind)⟩⟩,⟨fun l hl b hb=> ?_,cd _ _⟩⟩
  grind[Loc.blk]
 | some a=>
  obtain⟨b,off,sp⟩:=a;obtain⟨news,n1,n2,n3,n4⟩:=yd9 (show 0<ty.size by omega) k1';refine(yqe L i z ei.size ei.bytes z1 z4 z2 z3 z6 y2 b off sp (ak xs) cap news w (by grind) (by omega) (by grind[maxLen]) n4 n2).mono fun e w'=> ?_;rintro⟨v',rfl,hown,hnn,bel⟩;obtain⟨ol,ho⟩:=hown;rcases ho with⟨ho,_⟩ | ⟨g,cp,cur,rfl,hg,hheap,hn,hm,hsz,htk⟩
  ·grind
  ·refine⟨_,S,[⟨some ⟨g,0,none⟩,cp⟩],rfl,bel,fun _ h=>h,fun _ h=> .inl h,⟨_,rfl,rfl,⟨hn,hm,fun e=>(by cases e),fun a ea=> ?_⟩⟩,⟨fun l hl b' hb'=> ?_,cd _ _⟩⟩
   ·cases ea;refine⟨g,cur,_,(0,0),rfl,hheap,by grind,fun i _ hi=>by omega,fun i x hx=> ?_,fun _ hS=>by grind,fun e=>(by cases e)⟩;obtain⟨c',c1,c2⟩:=n3 i x hx;refine⟨c',RepT.mono (fun b hb=>bel.block b (hlow b hb)) (fun _ h=>h) _ _ _ c1,fun j u hj=> ?_⟩
    grind
   grind[Loc.blk]
end
section
variable {P:Program} {ρ:Shelf.Ren}
end
end Go.Dv
namespace Go.Dv
open Go.RowKit
section
variable [LTab] {w:World} {S:Nat->Prop} {t:Ty} {xs:List t.T} {l:Loc} {s:Stat}
end
section
variable [LTab]
end
end Go.Dv
namespace Go.Dv
open Go.RowKit
variable [LTab]
variable {R:Type}
def zxz(o:Nat×Cut):(l:List (Nat×Cut))->OutT o l->(Ex->St->List Nat->Option R)->Option R
 | [],t,K=>K (ycf o.1) (mkC o.2 t) (o.2.objs.map (·.1))
 | o'::r,t,K=>match t with
  | .inl v=>K (ycf o.1) (mkC o.2 v) (o.2.objs.map (·.1))
  | .inr v=>zxz o' r v K
theorem y8q(K:Ex->St->List Nat->Option R):∀(l:List (Nat×Cut)) (o:Nat×Cut) (t:OutT o l),zxz o l t K=(zxz o l t fun e τ ns=>some (e,τ,ns)).bind fun p=>K p.1 p.2.1 p.2.2
 | [],o,t=>rfl
 | o'::r,o,t=>by
  cases t with
  | inl v=>rfl
  | inr v=>exact y8q K r o' v
def yss(o:Nat×Cut)(l:List (Nat×Cut))(e:Ex)(σ:St):Option (OutT o l):=match e with
 | .flt=>none
 | e=>z75 o l e σ
def ctrR(np:Nat)(cin:Cut)(o:Nat×Cut)(l:List (Nat×Cut))(F:cin.T->Option (OutT o l)):CtrR where
 np:=np
 cin:=cin
 T:=OutT o l
 F:=F
 out:=fun t K=>zxz o l t K
 nat:=fun t K=>y8q K l o t
theorem yse{X:Cx}{w:World}{S:Nat->Prop}{γ:Nat->Loc}{σ:St}{a:Act}(h:Rel X w S γ σ a){e:Ex}{K:Ex->St->List Nat->Option R}{r:R}:
  ∀{l:List (Nat×Cut)} {o:Nat×Cut} {t:OutT o l},z75 o l e σ=some t->zxz o l t K=some r->∃τ ns S' γ',Rel X w S' γ' τ a/\K e τ ns=some r/\∀n,τ.m n≠none->n∈ns
 | [],o,t,hg,ho=>by
  have hg:(bif ax e.key o.1 then getC o.2 σ else none)=some t:=hg;rcases bif_some hg with⟨hb,hg⟩ | ⟨_,hg⟩
  ·obtain⟨S',γ',h'⟩:=zua h hg;have ho:K (ycf o.1) (mkC o.2 t) (o.2.objs.map (·.1))=some r:=ho;rw[<-af hb,zwr]at ho;exact⟨_,_,S',γ',h',ho,fun n hn=>zdw hn⟩
  ·cases hg
 | o'::l,o,t,hg,ho=>by
  rcases bif_some (by simpa only[z75] using hg)with⟨hb,hg⟩ | ⟨_,hg⟩
  ·split at hg
   ·rename_i v hv;cases hg;obtain⟨S',γ',h'⟩:=zua h hv;have ho:K (ycf o.1) (mkC o.2 v) (o.2.objs.map (·.1))=some r:=ho;rw[<-af hb,zwr]at ho;exact⟨_,_,S',γ',h',ho,fun n hn=>zdw hn⟩
   ·cases hg
  ·split at hg
   ·rename_i v hv;cases hg;exact yse h hv ho
   ·cases hg
theorem Rel.touch{X:Cx}{w:World}{S:Nat->Prop}{γ:Nat->Loc}{σ:St}{a:Act}(h:Rel X w S γ σ a){l:Nat}{r:Loop}(hl:w.heap[l]? =some (.loop r))(hS:¬S l)(hB:X.B l)(o:Obj){w1:World}(hw1:Bel (fun k=>X.B k/\k≠l) w1 (w.putObj l o)):
  MemRel (w.putObj l o) S γ σ.m X.B/\(∀t,RepA (w.putObj l o) S γ σ.m (σ.ρ t) (a.tmps.getD t undef)):=by
 have hw:∀b,S b->(w.putObj l o).heap[b]? =w.heap[b]? :=fun b hb=>World.putObj_heap_other fun e=>hS (e▸hb);refine⟨⟨fun n q hq=>ObjRel.lives (h.mem.obj n q hq) (fun hlq b hb=>World.putObj_heap_other fun e=>h.mem.high n q b hq hlq hb (e▸hB)) hw,fun b hb=>by rw[World.putObj_size];exact h.mem.low b hb,h.mem.apart,h.mem.high⟩,fun t=>RepA.mono hw (fun _ h=>h) (Keeps.refl _ _) _ _ (h.tm t)⟩
theorem yka{w:World}{l:Nat}{r:Loop}(hl:w.heap[l]? =some (.loop r))(o:Obj)(B:Nat->Prop):Bel (fun k=>B k/\k≠l) w (w.putObj l o):=
 ⟨rfl,rfl,rfl,by rw[World.putObj_size];exact ai _,fun k hk=>World.putObj_heap_other hk.2,fun k ds hk=>by
  have:k≠l:=fun e=>by rw[e,hl]at hk;cases hk
  rw[World.putObj_heap_other this];exact hk⟩
section rounds
variable {P:Program} {E:Env} (hE:EnvOk P E) (hmix:P.follows .mixedOrders=true)
include hE hmix in
theorem ywj{id np:Nat}{cin:Cut}{o:Nat×Cut}{l:List (Nat×Cut)}{F:cin.T->Option (OutT o l)}{Λa Λb:Lps}{pa pb:Nat}
  (htms:cin.tms=(LTab.tab id).ps.toList++(LTab.tab id).tms) (hnp:np=(LTab.tab id).ps.size) (honce:(zx6 cin.tms&&cin.tms.all fun t=>cj t (LTab.tab id).nt)=true) (hsmall:bG (LTab.tab id).nt 4096=true)
  (hpin:(cin.objs.all fun p=>bG 5000000 p.1)=true)
  (hoA:∀ro x,x∈obs Λa (LTab.tab id).assign pa->LpOk P (LTab.tab id).nt ro x.1 x.2) (hoB:∀ro x,x∈obs Λb (LTab.tab id).body pb->LpOk P (LTab.tab id).nt ro x.1 x.2)
  (hdA:z4h (LTab.tab id).nt (LTab.tab id).assign=true) (hdB:z4h (LTab.tab id).nt (LTab.tab id).body=true)
  (hF:∀v,F v=zjk E Λa (LTab.tab id).assign pa (mkC cin v) (fun e σ=>match e with
   | .normal=>zjk E Λb (LTab.tab id).body pb σ (yss o l)
   | _=>none)):SoundR P id (ctrR np cin o l F):=by
 refine⟨htms,hnp,honce,by simpa using hsmall, ?_⟩;intro w S γ B (v:cin.T) tmps ln rec R (t:OutT o l) K r hm hBs hBl hSl hheap hready hassign hbody hsize hrep ht hout;have ht:F v=some t:=ht;have hout:zxz o l t K=some r:=hout;have hm:MemRel w S γ (mofO cin.objs v.2) B:=hm;rw[hF]at ht;rw[hassign,hbody];have hsm:(LTab.tab id).nt<=4096:=by simpa using hsmall
 have hhi:∀n,mofO cin.objs v.2 n≠none->5000000<=n:=fun n hn=>by obtain⟨p,h1,h2⟩:=List.mem_map.1 (zdw hn);have:=List.all_eq_true.1 hpin p h1;rw[<-h2];simpa using this
 have hrel:Rel ⟨B,w,S,fun n=>(mofO cin.objs v.2 n).map fun q=>(γ n,q.kind),w.heap.size,ai _⟩ w S γ (mkC cin v) {tmps:=tmps,defers:=[]}:=by
  refine⟨hm,fun t=>zwp t hrep,Bel.refl _ _,hBs,fun _ h=>h,fun _ h=> .inl h,trivial,fun n o l hq hl=> ?_,fun n l hl=> ?_,by simp only;omega⟩
  ·have hq:mofO cin.objs v.2 n=some o:=hq;simp only[hq,aK,aL.injEq]at hl;subst hl;exact⟨rfl,rfl⟩
  ·refine hhi n fun h=> ?_;simp only[h]at hl;cases hl
 refine roundIn_of_wpIn (F:=RF none) trivial (wpIn_mono (z3d (ro:=some ln) hE hmix _ pa (hoA (some ln)) hdA hrel hsize ht) ?_);rintro e a1 w1 ⟨e1,σ1,S1,γ1,rfl,h1,h2,h3⟩;cases e1 with
 | ret=>cases h3
 | exit i=>cases h3
 | flt=>cases h3
 | normal=>
  have hl1:w1.heap[ln]? =some (.loop rec):=(h1.below.block ln hBl).trans hheap;have hS1:¬S1 ln:=fun h=>(h1.snew ln h).elim hSl fun h=>h hBl;refine⟨_,run_beginRound hl1 hready, ?_⟩;have hb1:=yka hl1 (.loop {rec with state:= .busy}) B;obtain⟨hm2,htm2⟩:=h1.touch hl1 hS1 hBl (.loop {rec with state:= .busy}) hb1;have hmk:MarksOk w.heap.size (w1.putObj ln (.loop {rec with state:= .busy})) S1 a1.defers:=h1.defers.mono (fun k ds hk=>hb1.others k ds hk) (fun _ _ h=>h)
  have hrel2:Rel ⟨B,w1.putObj ln (.loop {rec with state:= .busy}),S,fun n=>(mofO cin.objs v.2 n).map fun q=>(γ n,q.kind),w.heap.size,by rw[World.putObj_size];exact h1.below.size⟩ (w1.putObj ln (.loop {rec with state:= .busy})) S1 γ1 σ1 a1:=
   ⟨hm2,htm2,Bel.refl _ _,fun k hk=>by rw[World.putObj_size];exact h1.size_le k hk,h1.s0,h1.snew,hmk,h1.pin,h1.pnhi,h1.small⟩
  have hl2:(w1.putObj ln (.loop {rec with state:= .busy})).heap[ln]? =some (.loop {rec with state:= .busy}):=World.putObj_heap_same (zcx hl1);refine wpIn_mono (z3d (ro:=some ln) hE hmix _ pb (hoB (some ln)) hdB hrel2 h2 h3) ?_;rintro e a3 w3 ⟨ex,σ3,S3,γ3,rfl,g1,g2,g3⟩;have hnf:ex≠ .flt:=fun e=>by rw[e]at g3;cases g3
  have g3:z75 o l ex σ3=some t:=by cases ex<;>first | exact g3 | exact absurd rfl hnf
  obtain⟨τ,ns,S4,γ4,j1,j2,j3⟩:=yse g1 g3 hout;have hl3:w3.heap[ln]? =some (.loop {rec with state:= .busy}):=(j1.below.block ln hBl).trans hl2;have hS4:¬S4 ln:=fun h=>(j1.snew ln h).elim hSl fun h=>h hBl
  have fin:∀jump:Option Code,((stOf ex.key).1=if jump.isNone then LoopState.ready else .done)->(stOf ex.key).2=jump->jump.isNone=exN ex->
    ∃y w',(Instr.endRound ln jump).run P w3= .ok y w'/\∃ex S' γ' τ ns,Ending.returned y= .returned (.bool (exN ex))/\w'.heap[ln]? =some (.loop {rec with state:=(stOf ex.key).1,pending:=(stOf ex.key).2})/\K ex τ ns=some r/\
     BackOk (fun k=>k=ln) B w S γ (mofO cin.objs v.2) w' S' γ' ⟨fun i=>bif ax i 0 then .bool (exN ex)else .undef,τ.m⟩ ns (.bool (exN ex)):=by
   intro jump e1 e2 e3;have hb3:=yka hl3 (.loop {rec with state:=(stOf ex.key).1,pending:=(stOf ex.key).2}) B;obtain⟨hm4,_⟩:=j1.touch hl3 hS4 hBl (.loop {rec with state:=(stOf ex.key).1,pending:=(stOf ex.key).2}) hb3;refine⟨_,w3.putObj ln (.loop {rec with state:=(stOf ex.key).1,pending:=(stOf ex.key).2}), ?_,ex,S4,γ4,τ,ns,rfl,World.putObj_heap_same (zcx hl3),j2, ?_⟩
   ·rw[run_endRound jump hl3,e1,e2,e3]
   ·refine⟨?_,j1.s0,j1.snew,hm4,rfl,fun n q q' hq hq'=>j1.pin n q' (γ n,q.kind) hq' (by simp only[hq,aK]),j3⟩;exact((h1.below.weak fun k hk=>hk.1).trans hb1).trans ((j1.below.weak fun k hk=>hk.1).trans hb3)
  cases ex with
  | normal=>rw[<-hassign,<-hbody];exact fin none rfl rfl rfl
  | ret=>rw[<-hassign,<-hbody];exact fin (some .ret) rfl rfl rfl
  | exit i=>rw[<-hassign,<-hbody];exact fin (some (.exit i)) rfl rfl rfl
  | flt=>exact absurd rfl hnf
end rounds
def k9(id:Nat):Nat:=3000000+id
def rngA(E:Env)(id:Nat)(g:Operand)(σ:St)(K:Ex->St->Option R):Option R:=
 match σ.ev g with
 | .clo f gc=>match cloArgs gc [.yld (k9 id)]with
  | some l=>match σ.m (k9 id)with
   | none=>gd (bG id 1000000) (zi6 (E.callM f) ⟨σ.ρ,mupd σ.m (k9 id) (.rng id ((LTab.tab id).tms.map σ.ρ) (some 0))⟩ none 4000 l fun σ2=>
     match σ2.m (k9 id)with
     | some (.rng _ cs (some e))=>gd (!(ax e 2))<| K (ycf e) ⟨σ2.ρ,mupd σ2.m (k9 id) (.rng id cs none)⟩
     | _=>none)
   | some _=>none
  | none=>none
 | _=>none
section stmt
variable {P:Program} {E:Env} (hE:EnvOk P E)
include hE in
theorem x4r{n id:Nat}{g:Operand}{cin:Cut}{o:Nat×Cut}{l:List (Nat×Cut)}{F:cin.T->Option (OutT o l)}(hn:(LTab.tab id).nt=n)(hF:∀v,F v=rngA E id g (mkC cin v) (z75 o l)):
  LpOk P n none (lpOf cin o l F) (.rangeFunc g (LTab.tab id).ps (LTab.tab id).assign (LTab.tab id).body):=by
 intro R X w S γ σ a K r hrel hsize h;simp only[Lp.run,lpOf]at h;split at h
 case h_2=>cases h
 rename_i o' ho';split at ho'
 case h_2=>cases ho'
 rename_i v hv;cases ho';split at h
 case h_2=>cases h
 rename_i t ht;obtain⟨S1,γ1,hrel1⟩:=zua hrel hv;rw[hF]at ht;unfold rngA at ht;split at ht
 case h_2=>cases ht
 rename_i f gc hg;split at ht
 case h_2=>cases ht
 rename_i gl hgl;split at ht
 case h_2=>cases ht
 rename_i hfree;obtain⟨hid,ht⟩:=X7 ht;have hid:id<=1000000:=by simpa using hid
 generalize hσ:mkC cin v=σ1 at*;have hgv:=hrel1.ev g;rw[hg]at hgv;rw[zx8]at ht;cases hms:zi6 (E.callM f) ⟨σ1.ρ,mupd σ1.m (k9 id) (.rng id ((LTab.tab id).tms.map σ1.ρ) (some 0))⟩ none 4000 gl some with
 | none=>rw[hms]at ht;cases ht
 | some σ2=>
 rw[hms]at ht;simp only[Option.bind_some]at ht;split at ht
 case h_2=>cases ht
 rename_i id' cs e hσ2;obtain⟨hne,ht⟩:=X7 ht;have hne:e≠2:=fun h=>by rw[h]at hne;cases hne
 refine wpIn_rangeFunc ?_;intro fn _;obtain⟨rec,hrec⟩:∃rec:Loop,rec={state:= .ready,pending:=none,fn:=fn,tmps:=a.tmps,params:=(LTab.tab id).ps,assign:=(LTab.tab id).assign,body:=(LTab.tab id).body,defers:=w.heap.size}:=⟨_,rfl⟩;obtain⟨W1,hW1⟩:∃W1,(w.alloc (.deferred (some []))).alloc (.loop rec)=W1:=⟨_,rfl⟩;have hL1:W1.heap[w.heap.size+1]? =some (.loop rec):=by rw[<-hW1];have:=World.alloc_heap_new (w.alloc (.deferred (some []))) (.loop rec);rwa [World.size_alloc]at this
 have hK1:W1.heap[w.heap.size]? =some (.deferred (some [])):=by rw[<-hW1];exact(Below.heap_alloc _ _ _ (by simp)).trans (World.alloc_heap_new w _)
 have hb1:Below w.heap.size w W1:=by rw[<-hW1];exact((Below.refl _ w).alloc (ai _) _).alloc (by simp) _
 have hsz:=hrel1.size_le;have hbel1:=Below.bel hb1 hsz;have hkeep1:Keeps σ1.m γ1 (mupd σ1.m (k9 id) (.rng id ((LTab.tab id).tms.map σ1.ρ) (some 0))) (gupd γ1 (k9 id) ⟨some ⟨w.heap.size+1,0,none⟩,0⟩):=Keeps.new hfree;have hcaps:RepAs W1 S1 (gupd γ1 (k9 id) ⟨some ⟨w.heap.size+1,0,none⟩,0⟩) (mupd σ1.m (k9 id) (.rng id ((LTab.tab id).tms.map σ1.ρ) (some 0))) ((LTab.tab id).tms.map σ1.ρ) ((LTab.tab id).tms.map fun t=>rec.tmps.getD t undef):=by rw[hrec];exact RepAs.mono (fun b hs=>hb1.block b (hrel1.mem.low b hs)) (fun _ h=>h) hkeep1 _ _ (yev hrel1.tm _)
 have hmem1:MemRel W1 S1 (gupd γ1 (k9 id) ⟨some ⟨w.heap.size+1,0,none⟩,0⟩) (mupd σ1.m (k9 id) (.rng id ((LTab.tab id).tms.map σ1.ρ) (some 0))) X.B:=by refine hrel1.mem.add hb1 hfree ?_ hsz (fun b hb=>by simp[Loc.blk]at hb;omega);refine⟨w.heap.size+1,rec,by rw[J0],hL1,by rw[hrec];rfl,by rw[hrec];rfl,by rw[hrec],by rw[hrec],by rw[hrec],by rw[hrec];exact hsize.trans hn.symm,hcaps,fun hs=> ?_⟩;have:=hrel1.mem.low _ hs;omega
 have hnot:∀{l:List Deferred},MarksOk X.N w S1 l->∀d',d'∈l->d'≠{target:= .collected w.heap.size,args:= #[]}:=by
  intro l;induction l with
  | nil=>intro _ d' hd';cases hd'
  | cons x l ih=>
   rintro⟨⟨D,e1,e2,_,_⟩,_,h3⟩ d' hd' he;rcases ar.1 hd' with q | hd'
   ·rw[q,e1]at he;have:D=w.heap.size:=by cases he;rfl
    have:=zcx e2;omega
   ·exact ih h3 d' hd' he
 have hrel2:Rel X W1 S1 (gupd γ1 (k9 id) ⟨some ⟨w.heap.size+1,0,none⟩,0⟩) ⟨σ1.ρ,mupd σ1.m (k9 id) (.rng id ((LTab.tab id).tms.map σ1.ρ) (some 0))⟩ {a with defers:=[{target:= .collected w.heap.size,args:= #[]}]++a.defers}:=by
  refine⟨hmem1,fun t=>RepA.mono (fun b hs=>hb1.block b (hrel1.mem.low b hs)) (fun _ h=>h) hkeep1 _ _ (hrel1.tm t),hrel1.below.trans hbel1,hrel1.base_le,hrel1.s0,hrel1.snew,⟨⟨_,rfl,hK1,fun hs=> ?_,Nat.le_trans X.nle hrel1.below.size⟩,hnot hrel1.defers,hrel1.defers.mono hbel1.others (fun _ _ h=>h)⟩,zdt hrel1.pin hkeep1 (fun k l hl hk=> ?_),hrel1.pnhi,hrel1.small⟩
  ·have:=hrel1.mem.low _ hs;omega
  ·have:=hrel1.pnhi k l hl;have hk:mupd σ1.m (k9 id) (.rng id ((LTab.tab id).tms.map σ1.ρ) (some 0)) k≠none:=hk
   rwa [X4 _ _ (show k≠k9 id by unfold k9;omega)]at hk
 obtain⟨gus,gvs,hgx,hargs⟩:=zrl (xs:=[Value.func (.yield (w.heap.size+1)) #[] #[]]) (RepA.mono (fun b hs=>hb1.block b (hrel1.mem.low b hs)) (fun _ h=>h) hkeep1 _ _ hgv) hgl
  (show RepAs W1 S1 (gupd γ1 (k9 id) ⟨some ⟨w.heap.size+1,0,none⟩,0⟩) (mupd σ1.m (k9 id) (.rng id ((LTab.tab id).tms.map σ1.ρ) (some 0))) [.yld (k9 id)] [Value.func (.yield (w.heap.size+1)) #[] #[]]from
   ⟨_,_,rfl,⟨id,_,_,_,V9 _ _ _,by rw[J0],rfl⟩,rfl⟩)
 obtain⟨c1,c2⟩:=yd5 hrel2 hargs (dst:=none) (d:=4000) trivial (by omega) (hE.callM f) hms
 refine⟨w.heap.size+1,[{target:= .collected w.heap.size,args:= #[]}],W1,{target:= .fn (.func f) gvs.toArray,args:=gus.toArray++ #[Value.func (.yield (w.heap.size+1)) #[] #[]]},W1,f,
  (gus++([Value.func (.yield (w.heap.size+1)) #[] #[]]++gvs)).toArray,W1, ?_, ?_,fun _ _=>trivial, ?_,fun h=>by contradiction, ?_⟩
 ·rw[<-hW1,hrec];exact run_enterLoop_outer _ _ _ _ _
 ·simp only[resolve,hgx];simp[go_sem]
 ·have:=c1 W1 (gus++([Value.func (.yield (w.heap.size+1)) #[] #[]]++gvs)).toArray;have e:(gus.toArray++ #[Value.func (.yield (w.heap.size+1)) #[] #[]]++gvs.toArray)=(gus++([Value.func (.yield (w.heap.size+1)) #[] #[]]++gvs)).toArray:=by
   apply Array.ext';simp
  rw[<-e]at this|-;simp only[invoke];exact this
 ·refine(zi9 none c2).mono ?_;rintro en w' ⟨y,rfl,S',γ',h1,hk⟩;obtain⟨o2,k1,k2,k3⟩:=hk (k9 id) _ (V9 _ _ _);rw[hσ2]at k1;cases k1;have hid':id=id':=by simp only[MO.kind,Prod.mk.injEq]at k2;omega
  cases hid';obtain⟨l',rec',hr⟩:=h1.mem.obj _ _ hσ2;have hloc:=hr.loc;rw[k3,J0]at hloc;cases hloc;have hblk:(γ' (k9 id)).blk=some (w.heap.size+1):=by rw[Loc.blk,hr.loc];rfl
  have hnb:rec'.state≠ .busy:=by
   rw[hr.state]
   match e with
   | 0=>simp[stOf]
   | 1=>simp[stOf]
   | 2=>simp[stOf]
   | i+3=>simp[stOf]
  refine⟨_,_,run_endLoop hr.heap hnb, ?_⟩;have hXl:¬X.B (w.heap.size+1):=h1.mem.high _ _ _ hσ2 rfl hblk;have hb4:=yka hr.heap (.loop {rec' with state:= .exhausted}) X.B;have hbel4:Bel X.B w' (w'.putObj (w.heap.size+1) (.loop {rec' with state:= .exhausted})):=hb4.weak fun k hk=>⟨hk,fun e=>hXl (e▸hk)⟩;have hw4:∀b,S' b->(w'.putObj (w.heap.size+1) (.loop {rec' with state:= .exhausted})).heap[b]? =w'.heap[b]? :=fun b hb=>World.putObj_heap_other fun e=>hr.notS (e▸hb);have hkeep4:Keeps σ2.m γ' (mupd σ2.m (k9 id) (.rng id cs none)) γ':=z0d hσ2 rfl;have get:∀{k q},mupd σ2.m (k9 id) (.rng id cs none) k=some q->q.live=true->k≠k9 id/\σ2.m k=some q:=by
   intro k q hq hl;by_cases e:k=k9 id
   ·subst e;rw[V9]at hq;cases hq;cases hl
   ·rw[X4 _ _ e]at hq;exact⟨e,hq⟩
  have h4:Rel X (w'.putObj (w.heap.size+1) (.loop {rec' with state:= .exhausted})) S' γ' ⟨σ2.ρ,mupd σ2.m (k9 id) (.rng id cs none)⟩ {a with defers:=[{target:= .collected w.heap.size,args:= #[]}]++a.defers}:=by
   refine⟨⟨fun k q hq=> ?_,fun b hb=>by rw[World.putObj_size];exact h1.mem.low b hb,fun k k' q q' b hq hq' hl hl'=> ?_,fun k q b hq hl=> ?_⟩,fun t=>RepA.mono hw4 (fun _ h=>h) hkeep4 _ _ (h1.tm t),h1.below.trans hbel4,h1.base_le,h1.s0,h1.snew,h1.defers.mono hbel4.others (fun _ _ h=>h),zdt h1.pin hkeep4 (fun k l _ hk=> ?_),h1.pnhi,h1.small⟩
   ·have hq:mupd σ2.m (k9 id) (.rng id cs none) k=some q:=hq;by_cases e:k=k9 id
    ·subst e;rw[V9]at hq;cases hq;trivial
    ·rw[X4 _ _ e]at hq;exact ObjRel.later (h1.mem.obj k q hq) hw4 (fun _ h=>h) hkeep4 rfl fun hl b hb=>⟨World.putObj_heap_other fun e'=>h1.mem.apart k (k9 id) q _ b hq hσ2 hl rfl e hb (e'▸hblk),(ObjRel.notS (h1.mem.obj k q hq) hl hb).1⟩
   ·obtain⟨e1,g1⟩:=get hq hl;obtain⟨e2,g2⟩:=get hq' hl';exact h1.mem.apart k k' q q' b g1 g2 hl hl'
   ·obtain⟨e1,g1⟩:=get hq hl;exact h1.mem.high k q b g1 hl
   ·intro hnone;have hk:mupd σ2.m (k9 id) (.rng id cs none) k≠none:=hk;by_cases e:k=k9 id
    ·subst e;rw[hσ2]at hnone;cases hnone
    ·rw[X4 _ _ e]at hk;exact hk hnone
  obtain⟨σ5,S5,γ5,g1,g2⟩:=y47 h4 ht h;generalize(w'.putObj (w.heap.size+1) (.loop {rec' with state:= .exhausted}))=W4 at g1|-;rw[hr.pending]
  match e,hne,g2 with
  | 0,_,g2=>exact⟨.normal,σ5,S5,γ5,rfl,g1,hsize,g2⟩
  | 1,_,g2=>exact wpIn_ret ⟨.ret,σ5,S5,γ5,rfl,g1,hsize,g2⟩
  | 2,h,_=>exact absurd rfl h
  | i+3,_,g2=>exact wpIn_exit ⟨.exit i,σ5,S5,γ5,rfl,g1,hsize,g2⟩
end stmt
end Go.Dv
namespace Go.Dv
open Go.RowKit
def z9x(fn:Func):Code:=match fn.body with | some c=>c | none=> .skip
def fnOk(fn:Func):Bool:=(match fn.body with | some _=>true | none=>false)&&(!(fn.name== "runtime.NumGoroutine")&&z4h fn.ntmps (z9x fn))
theorem ydi{fn:Func}(h:fnOk fn=true):fn.body=some (z9x fn)/\(fn.name== "runtime.NumGoroutine")=false/\z4h fn.ntmps (z9x fn)=true:=by
 simp only[fnOk,ab,Bool.not_eq_true']at h;refine⟨?_,h.2.1,h.2.2⟩;have h1:=h.1;unfold z9x;cases hb:fn.body with
 | some c=>rfl
 | none=>rw[hb]at h1;cases h1
def yyl:Nat->Nat->List Bool->List Bool
 | 0,_,l=>l
 | k+1,p,l=>bif bG p 1 then l else yyl k (p/2) (ax (p%2) 1::l)
def cA(c:Code)(p:Nat):Code:=zrk c (yyl 400 p [])
def itF{Φ:Type}(bot:Φ)(G:Φ->Φ):Nat->Φ
 | 0=>bot
 | n+1=>G (itF bot G n)
theorem yey{Φ A T:Type}{G:Φ->Φ}{app:Φ->A->Option T}{cur:(A->Option T)->Φ}(hc:∀φ,cur (app φ)=φ)(ha:∀f v,app (cur f) v=f v):∀n,(iter (fun rec v=>app (G (cur rec)) v) n:A->Option T)=app (itF (cur fun _=>none) G n)
 | 0=>by funext v;exact(ha (fun _=>none) v).symm
 | n+1=>by funext v;show app (G (cur (iter (fun rec v=>app (G (cur rec)) v) n))) v=_;rw[yey hc ha n,hc];rfl
structure CuS (T:Type) where
 Fn:Type->Type
 ap:{R:Type}->Fn R->T->R
 cu:{R:Type}->(T->R)->Fn R
 h1:∀{R:Type} (f:T->R) (x:T),ap (cu f) x=f x
 h2:∀{R:Type} (f:Fn R),cu (ap f)=f
def cuV(T:Type):CuS T:=⟨fun R=>T->R,fun f=>f,fun f=>f,fun _ _=>rfl,fun _=>rfl⟩
def cuU:CuS Unit:=⟨fun R=>R,fun f _=>f,fun f=>f (),fun _ _=>rfl,fun _=>rfl⟩
def cuP{A B:Type}(a:CuS A)(b:CuS B):CuS (A×B):=⟨fun R=>a.Fn (b.Fn R),fun f x=>b.ap (a.ap f x.1) x.2,fun f=>a.cu fun x=>b.cu fun y=>f (x,y),fun f x=>by rw[a.h1,b.h1],fun f=>by simp only[b.h2,a.h2]⟩
def Sh.c:(s:Sh)->CuS s.T
 | .int _=>cuV _
 | .bool=>cuV _
 | .str=>cuV _
 | .list _=>cuV _
 | .val _=>cuV _
 | .ro _ _=>cuV _
 | .cons a b=>cuP a.c b.c
 | .agg l=>l.c
 | .tup l=>l.c
 | .clo _ l=>l.c
 | .iface _ l=>l.c
 | .bx l _=>l.c
 | .own _=>cuU
 | .ptr _ _=>cuU
 | .nils=>cuU
 | .nilp=>cuU
 | .nili=>cuU
 | .nilf=>cuU
 | .nil=>cuU
 | .yld _=>cuU
def OK.c:(k:OK)->CuS k.T
 | .sl _=>cuV _
 | .box l=>l.c
 | .boxS l=>l.c
 | .boxV _=>cuV _
 | .boxC _=>cuU
 | .rng _ l _=>l.c
def oc:(l:List (Nat×List Nat×OK))->CuS (OT l)
 | []=>cuU
 | (_,_,k)::r=>cuP k.c (oc r)
def Cut.c(c:Cut):CuS c.T:=cuP c.sh.c (oc c.objs)
inductive CI where
 | v (t:Nat) (s:Sh)
 | b (t:Nat) (k:Ty)
 | z (t:Nat) (l:List AV)
 | s (t:Nat) (k:Ty)
def CI.t:CI->Nat
 | .v t _=>t
 | .b t _=>t
 | .z t _=>t
 | .s t _=>t
def cuO:Nat->List CI->List (Nat×List Nat×OK)
 | _,[]=>[]
 | n, .v _ _::r=>cuO n r
 | n, .b t k::r=>(n,[t], .boxV k)::cuO (n+1) r
 | n, .z t l::r=>(n,[t], .boxC l)::cuO (n+1) r
 | n, .s t k::r=>(n,[t], .sl k)::cuO (n+1) r
def yvp:Sh->Option Sh->Sh
 | s,none=>s
 | s,some r=> .cons s r
def cuH:Nat->List CI->Option Sh
 | _,[]=>none
 | n, .v _ s::r=>some (yvp s (cuH n r))
 | n, .s _ _::r=>some (yvp (.own n) (cuH (n+1) r))
 | n,_::r=>some (yvp (.ptr n 0) (cuH (n+1) r))
def cu(l:List CI):Cut:=⟨l.map CI.t,(cuH 2000000 l).getD .nil,cuO 2000000 l,[]⟩
def sq(l:List Sh):Sh:=(l.foldr (fun s r=>some (yvp s r)) none).getD .nil
variable [LTab]
structure SC (P:Program) where
 f:Nat
 c:Ctr
 h:z77 P f fun xs=>c.run xs some
structure SM (P:Program) where
 f:Nat
 c:CtrM
 h:zef P f c
structure SR (P:Program) where
 f:Nat
 c:CtrR
 h:SoundR P f c
structure SW (P:Program) where
 f:Nat
 c:CtrM
 h:ztv P f c
structure SE (P:Program) where
 e:Env
 ok:EnvOk P e
 mix:P.follows .mixedOrders=true
section tabs
variable {P:Program}
noncomputable def tabC:List (SC P)->List (Nat×Ctr)
 | []=>[]
 | s::r=>(s.f,s.c)::tabC r
theorem yro:∀l:List (SC P),TabOk P (tabC l)
 | []=>trivial
 | s::r=>⟨s.h,yro r⟩
noncomputable def tabM:List (SM P)->List (Nat×CtrM)
 | []=>[]
 | s::r=>(s.f,s.c)::tabM r
theorem yrn:∀l:List (SM P),yl5 P (tabM l)
 | []=>trivial
 | s::r=>⟨s.h,yrn r⟩
noncomputable def tabR:List (SR P)->List (Nat×CtrR)
 | []=>[]
 | s::r=>(s.f,s.c)::tabR r
theorem yrm:∀l:List (SR P),yl4 P (tabR l)
 | []=>trivial
 | s::r=>⟨s.h,yrm r⟩
noncomputable def tabW:List (SW P)->List (Nat×CtrM)
 | []=>[]
 | s::r=>(s.f,s.c)::tabW r
theorem yrl:∀l:List (SW P),yl6 P (tabW l)
 | []=>trivial
 | s::r=>⟨s.h,yrl r⟩
structure SL (P:Program) (nt:Nat) (c0:Code) where
 p:Nat
 lp:Lp
 all:Bool
 ok:∀ro,all=true\/ro=none->LpOk P nt ro lp (cA c0 p)
variable {nt:Nat} {c0:Code}
def lamS:List (SL P nt c0)->Lps
 | [],_=>none
 | s::r,p=>bif ax p s.p then some s.lp else lamS r p
def obsS:List (SL P nt c0)->List (Lp×Code)
 | []=>[]
 | s::r=>(s.lp,cA c0 s.p)::obsS r
def allS:List (SL P nt c0)->Bool
 | []=>true
 | s::r=>s.all&&allS r
theorem zqt{ro:Option Nat}:∀{l:List (SL P nt c0)},allS l=true\/ro=none->∀x,x∈obsS l->LpOk P nt ro x.1 x.2
 | [],_,_,h=>by cases h
 | s::r,ha,x,h=>by
  have h1:s.all=true\/ro=none:=ha.imp (fun h=>by simp only[allS,ab]at h;exact h.1) id;have h2:allS r=true\/ro=none:=ha.imp (fun h=>by simp only[allS,ab]at h;exact h.2) id;rcases ar.1 h with e | h
  ·rw[e];exact s.ok ro h1
  ·exact zqt h2 x h
theorem tri{α β γ:Type _}{a a':α}{b b':β}{c c':γ}(h:(a,b,c)=(a',b',c')):a=a'/\b=b'/\c=c':=by injection h with h1 h2;injection h2 with h2 h3;exact⟨h1,h2,h3⟩
noncomputable def fz(e:SE P){f:Nat}{fn:Func}(hf:P.funcs[f]? =some fn)(l:List (SL P fn.ntmps (z9x fn)))(ash:Sh)(o:RS)(lo:List RS)(F:ash.c.Fn (Option (resT o lo)))
  (h:(fnOk fn,obs (lamS l) (z9x fn) 1,ash.c.ap F)=(true,obsS l,fun v=>yzs e.e (lamS l) (z9x fn) fn.results.toList fn.ntmps (mkL ash v) o lo):=by kernel_rfl):SC P:=
 ⟨f,znz ash o lo (ash.c.ap F),by
  obtain⟨h1,h2,h3⟩:=tri h;obtain⟨k1,k2,k3⟩:=ydi h1;exact yxe e.ok e.mix hf k1 k2 (fun x hx=>zqt (ro:=none) (.inr rfl) x (h2▸hx)) k3 (fun v=>congrFun h3 v)⟩
noncomputable def mz(e:SE P){f:Nat}{fn:Func}(hf:P.funcs[f]? =some fn)(l:List (SL P fn.ntmps (z9x fn)))(cin o:Cut)(lo:List Cut)(F:cin.c.Fn (Option (OutM o lo)))
  (h:(fnOk fn,obs (lamS l) (z9x fn) 1,cin.c.ap F)=(true,obsS l,fun v=>yzr e.e (lamS l) (z9x fn) fn.results.toList fn.ntmps cin v o lo):=by kernel_rfl):SM P:=
 ⟨f,ctrM cin o lo (cin.c.ap F),by
  obtain⟨h1,h2,h3⟩:=tri h;obtain⟨k1,k2,k3⟩:=ydi h1;exact yup e.ok e.mix hf k1 k2 (fun x hx=>zqt (ro:=none) (.inr rfl) x (h2▸hx)) k3 (fun v=>congrFun h3 v)⟩
noncomputable def wz(e:SE P){f:Nat}{fn:Func}(hf:P.funcs[f]? =some fn)(l:List (SL P fn.ntmps (z9x fn)))(cin o:Cut)(lo:List Cut)(F:cin.c.Fn (Option (OutM o lo)))
  (h:(fnOk fn,obs (lamS l) (z9x fn) 1,cin.c.ap F)=(true,obsS l,fun v=>yra e.e (lamS l) (z9x fn) fn.results.toList fn.ntmps cin v o lo):=by kernel_rfl):SW P:=
 ⟨f,ctrM cin o lo (cin.c.ap F),by
  obtain⟨h1,h2,h3⟩:=tri h;obtain⟨k1,k2,k3⟩:=ydi h1;exact yuq e.ok e.mix hf k1 k2 (fun x hx=>zqt (ro:=none) (.inr rfl) x (h2▸hx)) k3 (fun v=>congrFun h3 v)⟩
noncomputable def tz{f:Nat}{fn:Func}(hf:P.funcs[f]? =some fn)(hT:x02 P f)(s:SW P)(h0:fnOk fn=true:=by kernel_rfl)(hcap:∀v,cloArgs (mkL s.c.cin.sh v) []=some (mkL s.c.cin.sh v):=by intro _;rfl):SM P:=
 ⟨f,tryM s.f s.c,yto hT (fun w' args=>by
  obtain⟨k1,k2,_⟩:=ydi h0;simp[callFunc,Sem.run_bind,run_program,Result.andThen_ok,hf,k1,(by simpa using k2:¬fn.name= "runtime.NumGoroutine")]) s.h hcap⟩
def x2p:Code->Nat | .region id _ _=>id | _=>0
def ygq:Code->Array Oper | .region _ ops _=>ops | _=> #[]
noncomputable def oz(e:SE P)(p:Nat)(ords:List (List Nat))(cin:Cut)(o:Nat×Cut)(lo:List (Nat×Cut))(F:cin.c.Fn (Option (OutT o lo)))
  (h:((z4h nt (cA c0 p),covB (ygq (cA c0 p)) (ygq (cA c0 p)).size (Array.replicate (ygq (cA c0 p)).size false) ords),cA c0 p,ords.map fun _=>cin.c.ap F)=
   ((true,true), .region (x2p (cA c0 p)) (ygq (cA c0 p)) true,ords.map fun ord v=>yas e.e (ygq (cA c0 p)) ord ⟨(mkC cin v).ρ,stillR (mkC cin v).m (e.e.still (x2p (cA c0 p)))⟩ (z75 o lo)):=by kernel_rfl):SL P nt c0:=
 ⟨p,lpOf cin o lo (cin.c.ap F),true,fun ro _=>by
  obtain⟨h1,h2,h3⟩:=tri h;injection h1 with h1 h4;rw[h2]at h1;rw[h2];exact x4x e.ok e.mix h1 h4 fun ord hord v=>congrFun (List.map_inj_left.1 h3 ord hord) v⟩
noncomputable def pz(e:SE P)(l:List (SL P nt c0))(p:Nat)(cin:Cut)(o:Nat×Cut)(lo:List (Nat×Cut))(F:cin.c.Fn (Option (OutT o lo)))
  (h:(z4h nt (cA c0 p),obs (lamS l) (cA c0 p) p,cin.c.ap F)=(true,obsS l,fun v=>zjk e.e (lamS l) (cA c0 p) p (mkC cin v) (z75 o lo)):=by kernel_rfl):SL P nt c0:=
 ⟨p,lpOf cin o lo (cin.c.ap F),allS l,fun ro hr=>by
  obtain⟨h1,h2,h3⟩:=tri h;exact ywn e.ok e.mix (fun x hx=>zqt hr x (h2▸hx)) h1 (fun v=>congrFun h3 v)⟩
noncomputable def lz(N:Nat)(e:SE P)(l:List (SL P nt c0))(p:Nat)(cin:Cut)(o:Nat×Cut)(lo:List (Nat×Cut))(G:cin.c.Fn (Option (OutT o lo))->cin.c.Fn (Option (OutT o lo)))
  (h:(cA c0 p,(z4h nt (cA c0 (2*p)),obs (lamS l) (cA c0 (2*p)) (2*p)),fun rec=>cin.c.ap (G (cin.c.cu rec)))=(.loop (cA c0 (2*p)),(true,obsS l),fun rec v=>zjk e.e (lamS l) (cA c0 (2*p)) (2*p) (mkC cin v) (fun e σ=>match e with
   | .normal=>(match getC cin σ with | some v'=>rec v' | none=>none)
   | .exit i=>z75 o lo (.exit i) σ
   | .ret=>z75 o lo .ret σ
   | .flt=>z75 o lo .flt σ)):=by kernel_rfl):SL P nt c0:=
 ⟨p,lpOf cin o lo (cin.c.ap (itF (cin.c.cu fun _=>none) G N)),allS l,fun ro hr=>by
  obtain⟨h1,h2,h3⟩:=tri h;injection h2 with h2 h4;rw[h1,<-yey cin.c.h2 cin.c.h1 N];exact x1e e.ok e.mix (fun x hx=>zqt hr x (h4▸hx)) h2 (fun rec v=>congrFun (congrFun h3 rec) v) N⟩
noncomputable def gz(e:SE P)(id:Nat)(p:Nat)(g:Operand)(cin:Cut)(o:Nat×Cut)(lo:List (Nat×Cut))(F:cin.c.Fn (Option (OutT o lo)))
  (h:((LTab.tab id).nt,cA c0 p,cin.c.ap F)=(nt, .rangeFunc g (LTab.tab id).ps (LTab.tab id).assign (LTab.tab id).body,fun v=>rngA e.e id g (mkC cin v) (z75 o lo)):=by kernel_rfl):SL P nt c0:=
 ⟨p,lpOf cin o lo (cin.c.ap F),false,fun ro hr=>by
  obtain⟨h1,h2,h3⟩:=tri h;rcases hr with hr | hr
  ·cases hr
  ·rw[hr,h2];exact x4r e.ok h1 (fun v=>congrFun h3 v)⟩
noncomputable def rz(e:SE P)(id:Nat)(la lb:List (SL P nt c0))(pa pb:Nat)(cin:Cut)(o:Nat×Cut)(lo:List (Nat×Cut))(F:cin.c.Fn (Option (OutT o lo)))
  (h:(((LTab.tab id).nt,cin.tms,zx6 cin.tms&&(cin.tms.all fun t=>cj t (LTab.tab id).nt)&&(bG (LTab.tab id).nt 4096&&cin.objs.all fun p=>bG 5000000 p.1)&&(z4h nt (LTab.tab id).assign&&z4h nt (LTab.tab id).body)&&(allS la&&allS lb)),
    (obs (lamS la) (LTab.tab id).assign pa,obs (lamS lb) (LTab.tab id).body pb),cin.c.ap F)=
   ((nt,(LTab.tab id).ps.toList++(LTab.tab id).tms,true),(obsS la,obsS lb),fun v=>zjk e.e (lamS la) (LTab.tab id).assign pa (mkC cin v) (fun e' σ=>match e' with
   | .normal=>zjk e.e (lamS lb) (LTab.tab id).body pb σ (yss o lo)
   | _=>none)):=by kernel_rfl):SR P:=
 ⟨id,ctrR (LTab.tab id).ps.size cin o lo (cin.c.ap F),by
  obtain⟨h1,h2,h3⟩:=tri h;obtain⟨g1,g2,g3⟩:=tri h1;injection h2 with k1 k2;simp only[ab]at g3;obtain⟨⟨⟨⟨q1,q2⟩,q3,q4⟩,q5,q6⟩,q7,q8⟩:=g3;rw[<-g1]at q5 q6;refine ywj e.ok e.mix g2 rfl (by simp only[ab];exact⟨q1,q2⟩) q3 q4 ?_ ?_ q5 q6 (fun v=>congrFun h3 v)
  ·intro ro x hx;rw[g1];exact zqt (.inl q7) x (k1▸hx)
  ·intro ro x hx;rw[g1];exact zqt (.inl q8) x (k2▸hx)⟩
noncomputable def recz{f:Nat}{Φ:Type}(c:Φ->Ctr)(bot:Φ)(G:Φ->Φ)(h0:z77 P f fun xs=>(c bot).run xs some)(h:∀self,(z77 P f fun xs=>(c self).run xs some)->z77 P f fun xs=>(c (G self)).run xs some)(n:Nat):SC P:=
 ⟨f,c (itF bot G n),by
  induction n with
  | zero=>exact h0
  | succ n ih=>exact h _ ih⟩
noncomputable def x5k{f:Nat}{Φ:Type}(c:Φ->CtrM)(bot:Φ)(G:Φ->Φ)(h0:zef P f (c bot))(h:∀self,zef P f (c self)->zef P f (c (G self)))(n:Nat):SM P:=
 ⟨f,c (itF bot G n),by
  induction n with
  | zero=>exact h0
  | succ n ih=>exact h _ ih⟩
end tabs
end Go.Dv
namespace Go.Dv
open Go.RowKit
variable [LTab]
def za1(xs:List Int):List Int:=xs.mergeSort fun x y=>decide (x<=y)
theorem zkl(xs:List Int):(za1 xs).length=xs.length:=List.length_mergeSort ..
def sortIn:Cut:={tms:=[0],sh:= .own 5000000,objs:=[(5000000,[0], .sl (.int .i64))],sts:=[]}
def sortOut:Cut:={tms:=[0],sh:= .tup .nil,objs:=[(5000000,[5000000], .sl (.int .i64))],sts:=[]}
def x2o(v:sortIn.T):Option (OutM sortOut []):=gd (cj (show List Int from v.2.1).length 4611686018427387904) (some ((),(za1 (show List Int from v.2.1),())))
theorem ynx{w:World}{os:Array Obj}{k:Nat}(h:k<w.heap.size):(Sort.grow w os).heap[k]? =w.heap[k]? :=by show(w.heap++os)[k]? =_;rw[Array.getElem?_append_left h]
theorem ypo{α:Type} [Inhabited α]{enc:α->Value}{w:World}{blk off:Nat}{d:Array α}{k:Nat}(h:k≠blk):(Sort.putRow enc w blk off d).heap[k]? =w.heap[k]? :=by show(w.heap.modify blk _)[k]? =_;rw[dg,if_neg (fun e=>h e.symm)]
theorem yu5{α:Type} [Inhabited α]{enc:α->Value}{w:World}{blk off:Nat}{d:Array α}{arr:Array Value}{el:TypeId}{fz:Nat×Nat}(h:w.heap[blk]? =some (.cells arr el fz)):
  (Sort.putRow enc w blk off d).heap[blk]? =some (.cells (Sort.putCells enc off d arr) el fz):=by
 show(w.heap.modify blk _)[blk]? =_;rw[dg,if_pos rfl,h];rfl
theorem ypg{P:Program}{ρ:Shelf.Ren}(L:Proofs.Lays.n189 P ρ){fn:Func}{c:Code}(hf:P.funcs[ρ.f 189]? =some fn)(hb:fn.body=some c)(hname:(fn.name== "runtime.NumGoroutine")=false):
  zef P (ρ.f 189) (ctrM sortIn sortOut [] x2o):=by
 intro w S γ B v vals R t K r hm hB hrep hF hout;refine⟨zmt hf hb hname, ?_⟩;obtain⟨u0,xs,u1⟩:=v;have hF:x2o (u0,xs,u1)=some t:=hF;obtain⟨hbig,hF⟩:=X7 hF;simp only[Nat.blt_eq]at hbig;cases hF;obtain⟨xs',hxs⟩:∃xs':List Int,xs'=(show List Int from xs):=⟨_,rfl⟩;have hbig:ak (α:=Int) xs'<4611686018427387904:=by rw[hxs];exact hbig
 have hK:K (mkC sortOut ((),(za1 xs',()))) [5000000]=some r:=by rw[hxs];exact hout
 have hm5:mofO sortIn.objs (xs,u1) 5000000=some (.sl (.int .i64) xs' .live):=by rw[hxs];rfl
 obtain⟨va,us,rfl,k1,k2⟩:=hrep;rw[show us=[]from k2];obtain⟨t0,zs0,s0,z1,hva⟩:=k1;have z1:mofO sortIn.objs (xs,u1) 5000000=some (.sl t0 zs0 s0):=z1;rw[hm5]at z1;cases z1;have hob:RowRel w S (γ 5000000) (.int .i64) xs' .live:=hm.obj 5000000 _ hm5;have hmo:∀n q,(mkC sortOut ((),(za1 xs',()))).m n=some q->n=5000000/\q= .sl (.int .i64) (za1 xs') .live:=by
  intro n q hq;have hq:mofO sortOut.objs (za1 xs',()) n=some q:=hq;simp only[sortOut,mofO]at hq;cases hb:ax n 5000000 with
  | true=>rw[hb]at hq;simp only[cond_true]at hq;exact⟨af hb,(aL.inj hq).symm⟩
  | false=>rw[hb]at hq;cases hq
 have hmi:∀n q,mofO sortIn.objs (xs,u1) n=some q->n=5000000/\q= .sl (.int .i64) xs' .live:=by
  intro n q hq;have hq0:=hq;simp only[sortIn,mofO]at hq;cases hb:ax n 5000000 with
  | true=>have e:=af hb;subst e;rw[hm5]at hq0;exact⟨rfl,(aL.inj hq0).symm⟩
  | false=>rw[hb]at hq;cases hq
 have hso:(mkC sortOut ((),(za1 xs',()))).m 5000000=some (.sl (.int .i64) (za1 xs') .live):=rfl
 have fin:∀(w':World),Bel B w w'->(∀b,S b->w'.heap[b]? =w.heap[b]?)->RowRel w' S (γ 5000000) (.int .i64) (za1 xs') .live->
   ∃x S' γ' τ ns,Ending.returned (Value.tuple #[])= .returned x/\K τ ns=some r/\BackOk (fun _=>False) B w S γ (mofO sortIn.objs (xs,u1)) w' S' γ' τ ns x:=by
  intro w' hbel hS hrow;refine⟨_,S,γ,_,_,rfl,hK,hbel.weak fun k hk=>hk.1,fun _ h=>h,fun _ h=> .inl h,⟨fun n q hq=> ?_,fun b hb=>Nat.lt_of_lt_of_le (hm.low b hb) hbel.size,fun n n' q q' b hq hq' _ _ hne _ _=>hne ((hmo n q hq).1.trans (hmo n' q' hq').1.symm),fun n q b hq _ hb=> ?_⟩, ?_,fun n q q' h1 h2=> ?_,fun n hn=> ?_⟩
  ·obtain⟨rfl,rfl⟩:=hmo n q hq;exact hrow
  ·obtain⟨rfl,rfl⟩:=hmo n q hq;exact hm.high 5000000 _ b hm5 rfl hb
  ·exact⟨[],rfl,rfl⟩
  ·obtain⟨rfl,rfl⟩:=hmo n q' h2;obtain⟨_,rfl⟩:=hmi _ q h1;refine⟨rfl, ?_⟩;show(1+_,ak (α:=Int) (za1 xs'))=(1+_,ak (α:=Int) xs');rw[zkl]
  ·cases hq:(mkC sortOut ((),(za1 xs',()))).m n with
   | none=>exact absurd hq hn
   | some q=>rw[(hmo n q hq).1];simp
 have hva:va= .slice (γ 5000000).a (ak (α:=Int) xs') (γ 5000000).cap:=hva;have hblen:ak (α:=Int) xs'<=(γ 5000000).cap:=hob.len;rw[hva];by_cases h0:ak (α:=Int) xs'=0
 ·have hnil:xs'=[]:=aF h0;rw[h0];refine(Proofs.Any.slices_Sort_int_none L (γ 5000000).a (γ 5000000).cap w).mono fun e w'=> ?_;rintro⟨rfl,rfl⟩;have es:za1 xs'=xs':=by rw[hnil];exact List.mergeSort_nil
  exact fin w' (Bel.refl _ _) (fun _ _=>rfl) (by rw[es];exact hob)
 ·cases hla:(γ 5000000).a with
  | none=>have h1:=hob.nil hla;omega
  | some ad=>
   obtain⟨g,arr,el,fz,a1,a2,a3,a4,a5,a6,a7⟩:=hob.row _ hla;subst a1;have hS:=a6 rfl;have hlt:=zcx a2;have hblk:(γ 5000000).blk=some g:=by simp[Loc.blk,hla]
   have hgB:=hm.high 5000000 _ g hm5 rfl hblk;have hsz:arr.size=(γ 5000000).cap:=by rw[a3];exact Nat.mul_one _
   have hle:ak (α:=Int) xs'<=arr.size:=by rw[hsz];exact hblen
   have hcell:∀j (hj:j<ak (α:=Int) xs'),arr[j]? =some (.int .i64 (xs'[j])):=by
    intro j hj;obtain⟨c,c1,c2⟩:=a5 j (xs'[j]) (show xs'[j]? =some xs'[j]from aI hj);have c1:c=[Value.int .i64 (xs'[j])]:=c1;subst c1;have:=c2 0 _ rfl;have e1:j*(Ty.int .i64).size+0=j:=by show j*1+0=j;omega
    rw[e1]at this;exact this
   have hH:Sort.Holds (Value.int .i64) w g 0 xs'.toArray:=by
    intro j hj;have hj':j<ak (α:=Int) xs':=by simpa using hj
    refine⟨?_, ?_⟩
    ·rw[bk,cell_of_row w g _ _ _ _ a2,hcell j hj'];congr 2;simp[hj']
    ·have:=a4.weak (0+j) (by omega);simp only[World.frozen?,a2];obtain⟨lo,hi'⟩:=fz;simpa using this
   refine(Proofs.Any.slices_Sort_int L g 0 (γ 5000000).cap xs' w hH hlt hbig).mono fun e w'=> ?_;rintro⟨rfl,n,os,rfl⟩;show ∃x S' γ' τ ns,_/\_/\BackOk (fun _=>False) B w S γ _ (Sort.grow (Sort.putRow (Value.int .i64) (Sort.ahead w n) g 0 (za1 xs').toArray) os) S' γ' τ ns x;have hget:∀k,k<w.heap.size->k≠g->(Sort.grow (Sort.putRow (Value.int .i64) (Sort.ahead w n) g 0 (za1 xs').toArray) os).heap[k]? =w.heap[k]? :=by intro k hk hne;rw[ynx (by show k<(w.heap.modify g _).size;simpa using hk),ypo hne];rfl
   have hput:(Sort.grow (Sort.putRow (Value.int .i64) (Sort.ahead w n) g 0 (za1 xs').toArray) os).heap[g]? =some (.cells (Sort.putCells (Value.int .i64) 0 (za1 xs').toArray arr) el fz):=by rw[ynx (by show g<(w.heap.modify g _).size;simpa using hlt)];exact yu5 a2
   refine fin _ ⟨rfl,rfl,rfl, ?_,fun k hk=>hget k (hB k hk) (fun e=>hgB (e▸hk)),fun k ds hk=> ?_⟩ (fun b hb=>hget b (hm.low b hb) (fun e=>hS (e▸hb))) ?_
   ·show _<=((w.heap.modify g _)++os).size;simp
   ·rw[hget k (zcx hk) (fun e=>by rw[e,a2]at hk;cases hk)];exact hk
   ·have hps:(Sort.putCells (Value.int .i64) 0 (za1 xs').toArray arr).size=arr.size:=by simp[Sort.putCells]
    refine⟨(show ak (α:=Int) (za1 xs')<=_ by rw[zkl];exact hblen),hob.cap,hob.nil,fun a ha=> ?_⟩;rw[hla]at ha;cases ha;refine⟨g,_,el,fz,rfl,hput,by rw[hps];exact a3,by rw[hps];exact a4,fun i x hx=> ?_,fun _=>hS,fun e=>(by cases e)⟩;refine⟨[.int .i64 x],rfl,fun j u hj=> ?_⟩;have hx':(za1 xs')[i]? =some x:=hx;have hil:=(aO.1 hx').1;rw[zkl]at hil;cases j with
    | succ j=>simp at hj
    | zero=>
     simp only[List.getElem?_cons_zero,aL.injEq]at hj;subst hj;have e1:i*(Ty.int .i64).size+0=i:=by show i*1+0=i;omega
     rw[e1];unfold Sort.putCells;rw[Array.getElem?_mapIdx,hcell i hil];have hs:=zkl xs';have hi2:i<(za1 xs').length:=by omega
     simp only[aK,aZ,true_and,bk,List.size_toArray,hi2,if_true,Nat.sub_zero];congr 2;have hg:(za1 xs')[i]=x:=(aO.1 hx').2;have hg2:(za1 xs').toArray[i]! =x:=by rw[getElem!_pos (za1 xs').toArray i (by simpa using hi2)];simpa using hg
     exact hg2
end Go.Dv
namespace Go.Dv
open Go.RowKit Go.Lib Go.Shelf Go.Proofs
section
variable {P:Program} {ρ:Shelf.Ren}
set_option maxHeartbeats 2000000 in
set_option maxRecDepth 100000 in
theorem ym0(L:SlLaysK.n4 P ρ)(i0:TypeInfo)(z:Value)(k by':Nat)(hi:P.info? (ρ.t 5)=some i0)(hz0:i0.zero=some z)(hz1:i0.size=k)(hz2:i0.bytes=by')(hzs:z.cells.size=k)(hk:0<k)
  (b off:Nat) (sp:Option Nat) (n c:Nat) (news:List Value) (w:World) (hl:news.length=n*k) (hbig:n*by'<=140737488355328) (h63:n<=maxLen) (h1:∀u∈news,u.oneCell'=true) (hc:∀j u,news[j]? =some u->sp=none/\w.cell? ⟨b,off+j,none⟩=some u):
  Calls P (ρ.f 4) #[.slice (some ⟨b,off,sp⟩) n c] w fun e w'=>∃v',e= .returned v'/\w'.ownsRow w.heap.size (ρ.t 5) k v' n news/\v'≠ .slice none 0 0/\Below w.heap.size w w':=by
 have mixed:=L.mixed;have t4:=L.t4;have a4:=L.a4;have z4:=L.z4;have v4:=L.v4;have t22:=L.t22;have a22:=L.a22;have z22:=L.z22;have v22:=L.v22;have q22:∀(w:World) (a:Option Addr) (n c n' c':Nat),(binOp .eql (ρ.t 22) (.slice a n c) (.slice none n' c')).run P w= .ok (.bool a.isNone) w:=fun w a n c n' c'=>Lib.run_eql_slice_nil w _ _ a n c n' c' L.t22;have u22:∀w,Sem.run P (underlying (ρ.t 22)) w= .ok (TypeDesc.slice (ρ.t 5)) w:=run_underlying t22;have z5:∀w,(Go.sizeOf (ρ.t 5)).run P w= .ok k w:=fun w=>by simp[Go.sizeOf,typeInfo,hi,hz1]
 have A:Aside (∀j u,news[j]? =some u->sp=none/\w.cell? ⟨b,off+j,none⟩=some u):=hc;have A1:Aside (∀u∈news,u.oneCell'=true):=h1;clear hc h1
 go_enter L.f4,SlBodyK.n4_ntmps ρ
 go_wp2_with (at_builtin;refine wpList_append_own _ rfl _ _ (ρ.t 22) rfl w.heap.size (ρ.t 5) i0 z k by' t22 hi hz0 hz1 hz2 hzs hk _ _ _ rfl (World.ownsRow_made w #[] 0 (ai _) (aZ _) (by simp)) ⟨b,off,sp⟩ n c news rfl ?qc1 ?qc2 ?qc3 ?qc4 ?qc5 ?qc6 ?_)
 case qc1=>exact hl
 case qc2=>
  intro j u hj;obtain⟨e,hj⟩:=A.out j u hj;subst e;rw[Addr.add_lit];exact Lib.cell?_alloc_some _ hj
 case qc3=>exact A1.out
 case qc4=>omega
 case qc5=>rw[bk];exact hbig
 case qc6=>simp
 intro v' w1 hown hgrow hnil
 go_wp2
 go_ret
 refine⟨v',rfl,by simpa using hown, ?_, ?_⟩
 ·exact hnil
 ·exact((Below.refl _ w).alloc (ai _) _).grown hgrow (by simp) (by intro k hk;simp[Value.ownBlock]at hk;omega)
set_option maxHeartbeats 1000000 in
theorem yqk(L:SlLaysK.n4 P ρ)(n c:Nat)(w:World):Calls P (ρ.f 4) #[.slice none n c] w fun e w'=>e= .returned (.slice none 0 0)/\w'=w:=by
 have mixed:=L.mixed;have t4:=L.t4;have a4:=L.a4;have z4:=L.z4;have v4:=L.v4;have t22:=L.t22;have a22:=L.a22;have z22:=L.z22;have v22:=L.v22;have q22:∀(w:World) (a:Option Addr) (n c n' c':Nat),(binOp .eql (ρ.t 22) (.slice a n c) (.slice none n' c')).run P w= .ok (.bool a.isNone) w:=fun w a n c n' c'=>Lib.run_eql_slice_nil w _ _ a n c n' c' L.t22
 go_enter L.f4,SlBodyK.n4_ntmps ρ
 go_wp2
 go_ret
 exact⟨rfl,rfl⟩
end
section
variable [LTab] {P:Program} {ρ:Shelf.Ren}
theorem yji(L:SlLaysK.n4 P ρ){ei:TI}{ty:Ty}(h1:TIok P (ρ.t 5) ei)(h2:ei.ty=some ty){fn:Func}{c:Code}(hf:P.funcs[ρ.f 4]? =some fn)(hb:fn.body=some c)(hname:(fn.name== "runtime.NumGoroutine")=false):
  z77 P (ρ.f 4) fun avs=>(znz (.list ty) (.fresh ty) [] (fun(xs:List ty.T)=>gd (fits xs.length ei.bytes) (some xs))).run avs some:=by
 intro w S avs vals r hlow hrep h;refine⟨zmt hf hb hname, ?_⟩;obtain⟨xs,t,hF,hout,hvals⟩:=yta hlow hrep h;obtain⟨u,us,rfl,k1,k2⟩:=hvals;rw[show us=[]from k2];obtain⟨hc,hF⟩:=X7 hF;cases hF;have hr:r= .fresh ty xs:=by
  have:some (AV.fresh ty xs)=some r:=hout
  grind
 subst hr;obtain⟨i,z,z1,z2,z3,z4,z5,z6⟩:=h1.inf;obtain⟨y1,y2,y3,y4⟩:=h1.ty ty h2;have k1:RepT w S (.list ty) xs [u]:=k1;have hfit:ak xs<maxB/\ak xs*ei.bytes<maxB:=by grind[fits]
 have mx:maxB=4398046511104:=rfl;have k1':=k1;obtain⟨ao,cap,hu,hle,hnil,hsp,hel⟩:=k1;simp only[bW.injEq,and_true]at hu;subst hu;cases ao with
 | none=>
  have hx:xs=[]:=aF (by grind);subst hx;refine(yqk L _ _ w).mono fun e w'=> ?_;rintro⟨rfl,rfl⟩;refine⟨_,S,[⟨none,0⟩],rfl,Below.refl _ _,fun _ h=>h,fun _ h=> .inl h,⟨_,rfl,rfl,⟨ai _,aZ _,fun _=>rfl,fun a ha=>(by grind)⟩⟩,⟨fun l hl b hb=> ?_,cd _ _⟩⟩
  grind[Loc.blk]
 | some a=>
  obtain⟨b,off,sp⟩:=a;obtain⟨news,n1,n2,n3,n4⟩:=yd9 (show 0<ty.size by omega) k1';refine(ym0 L i z ei.size ei.bytes z1 z4 z2 z3 z6 y2 b off sp (ak xs) cap news w (by grind) (by omega) (by grind[maxLen]) n4 n2).mono fun e w'=> ?_;rintro⟨v',rfl,hown,hnn,bel⟩;obtain⟨ol,ho⟩:=hown;rcases ho with⟨ho,_⟩ | ⟨g,cp,cur,rfl,hg,hheap,hn,hm,hsz,htk⟩
  ·grind
  ·refine⟨_,S,[⟨some ⟨g,0,none⟩,cp⟩],rfl,bel,fun _ h=>h,fun _ h=> .inl h,⟨_,rfl,rfl,⟨hn,hm,fun e=>(by cases e),fun a ea=> ?_⟩⟩,⟨fun l hl b' hb'=> ?_,cd _ _⟩⟩
   ·cases ea;refine⟨g,cur,_,(0,0),rfl,hheap,by grind,fun i _ hi=>by omega,fun i x hx=> ?_,fun _ hS=>by grind,fun e=>(by cases e)⟩;obtain⟨c',c1,c2⟩:=n3 i x hx;refine⟨c',RepT.mono (fun b hb=>bel.block b (hlow b hb)) (fun _ h=>h) _ _ _ c1,fun j u hj=> ?_⟩
    grind
   grind[Loc.blk]
end
end Go.Dv
