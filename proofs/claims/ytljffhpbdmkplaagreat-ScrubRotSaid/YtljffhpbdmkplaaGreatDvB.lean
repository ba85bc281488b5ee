/- Places: fields and elements; parts of slices and strings. -/
import Derived.Test.YtljffhpbdmkplaaGreatDvA
set_option linter.all false
open Array renaming ext'->bS,length_toList->cq,toList_append->eO,toList_setIfInBounds->dM
open Bool renaming and_eq_true->ac,and_true->bV,not_eq_true'->aw
open List renaming all_cons->br,append_assoc->au,append_nil->ai,cons->cg,cons_append->aY,eq_nil_of_length_eq_zero->aN,getD_eq_getElem?_getD->aM,getElem?_append_left->aW,getElem?_append_right->aV,getElem?_cons_succ->cy,getElem?_drop->cj,getElem?_eq_getElem->aK,getElem?_eq_some_iff->aD,getElem?_take->bY,getElem?_toArray->eI,length->ap,length_cons->af,length_nil->aq,length_replicate->bE,length_take->aQ,map_append->bK,map_cons->ax,map_nil->bO,mem_append_left->bp,mem_append_right->bz,mem_cons->am,mem_cons_of_mem->aF,mem_map->aH,nodup_append->cf,nodup_cons->bU,range->bR,replicate->ar,singleton_append->dw,toArray->cr,toList_toArray->dK
open Nat renaming add_assoc->bW,add_mul->cC,add_zero->bG,beq->aC,beq_eq->cz,beq_refl->cM,ble->ci,blt->cE,blt_eq->cQ,eq_of_beq_eq_true->ah,le_refl->al,lt_or_gt_of_ne->eR,min->fj,min_zero->eV,mul_comm->eG,mul_le_mul_right->bB,mul_one->eN,zero_add->bk,zero_le->bm
open Option renaming bind_assoc->bA,bind_none->dC,bind_some->ab,map_none->di,map_some->aT,some->aR
namespace Go.Dv
open Go.RowKit
variable [LTab]
variable {R:Type}
section core
variable {P:Program} {E:Env} (hE:∀t ti,E.ty t=some ti->TIok P t ti) {w:World} {S:Nat->Prop} {γ:Nat->Loc} {m:Nat->Option MO} {base:Nat->Prop} (hm:MemRel w S γ m base)
 {ev:Operand->AV} {el:Operand->Value} (hev:∀x,RepA w S γ m (ev x) (el x)) {K:AV->Option MO->Option R} {r:R}
def yn0(v:AV)(n:Nat):Option AV:=match v with
 | .ptr k off=>some (.ptr k (off+n))
 | .bx cs off=>some (.bx cs (off+n))
 | .ro t y off=>some (.ro t y (off+n))
 | .oel k i off=>some (.oel k i (off+n))
 | _=>none
theorem y6w{v v':AV}{x:Value}{n:Nat}(h:RepA w S γ m v x)(hv:yn0 v n=some v'):∃b o,x= .pointer (some ⟨b,o,none⟩)/\RepA w S γ m v' (.pointer (some ⟨b,o+n,none⟩)):=by
 unfold yn0 at hv
 split at hv
 ·cases hv
  obtain⟨cs,s,b,h1,h2,rfl⟩:=h
  exact⟨b,_,rfl,cs,s,b,h1,h2,rfl⟩
 ·cases hv
  obtain⟨b,vs,rfl,h2⟩:=h
  exact⟨b,_,rfl,b,vs,rfl,h2⟩
 ·cases hv
  obtain⟨b,o,cs,rfl,h2⟩:=h
  exact⟨b,_,rfl,b,o,cs,by rw[bW],h2⟩
 ·cases hv
  obtain⟨t,xs,s,b,h1,h2,h3,rfl⟩:=h
  exact⟨b,_,rfl,t,xs,s,b,h1,h2,h3,by rw[bW]⟩
 ·cases hv
theorem zyo{v:AV}{n:Nat}{r:R}(h:(match v with
  | .ptr k off=>K (.ptr k (off+n)) none
  | .bx cs off=>K (.bx cs (off+n)) none
  | .ro t y off=>K (.ro t y (off+n)) none
  | .oel k i off=>K (.oel k i (off+n)) none
  | _=>none)=some r):∃v',yn0 v n=some v'/\K v' none=some r:=by
 split at h
 ·exact⟨_,rfl,h⟩
 ·exact⟨_,rfl,h⟩
 ·exact⟨_,rfl,h⟩
 ·exact⟨_,rfl,h⟩
 ·cases h
include hE in
theorem yg3{t:TypeId}{ti:TI}(hti:E.ty t=some ti){cs:List AV}{vs:List Value}(hr:RepAs w S γ m cs vs)(ha:V0 cs=true){off:Nat}{v:AV}(hv:z0i ti off cs=some v):
  ∃x,(part t vs.toArray off).run P w= .ok x w/\RepA w S γ m v x:=by
 unfold z0i at hv
 rcases bif_some hv with⟨h1,h2⟩ | ⟨_,h2⟩
 ·have h1':off+ti.size<=cs.length:=by simpa using h1
  have hlen:=hr.length
  have hr':RepAs w S γ m ((cs.drop off).take ti.size) ((vs.drop off).take ti.size):=RepAs.take _ (RepAs.drop _ hr)
  refine⟨_, ?_,y6y h2 hr' (zj1 _ (zj2 _ ha))⟩
  unfold part
  rw[Sem.run_bind,zu5 hE w hti]
  cases hg:ti.d.agg with
  | true=>
   simp[G1 hE w hti,aggV]
  | false=>
   have h1:=(hE t ti hti).one hg
   have hlt:off<vs.length:=by omega
   simp[aggV,hlt,h1]
 ·cases h2
include hE hev in
theorem y1q{o:Oper}{s:TypeId}{x:Operand}{f:Nat}(ho:o.op= .fieldAddr s x f)(h:X7 E o.dst o.op ev m K=some r):CoreOk w S γ m o.dst ((execOp el o).run P w) K r:=by
 rw[ho]at h
 simp only[X7]at h
 split at h
 ·rename_i ti hti
  obtain⟨d,hd1,hd2⟩:=z2l hE w hti
  split at h
  ·rename_i fs hfs
   rw[hfs]at hd2
   obtain⟨a,rfl,rfl⟩:=znl hd2
   split at h
   ·rename_i fo ft hf
    obtain⟨fd,g1,g2,g3⟩:=y7g hf
    split at h
    ·rename_i fi hfi
     obtain⟨hpos,h⟩:=W0 h
     have hpos:0<fi.size:=by simpa using hpos
     obtain⟨v',hv',hk⟩:=zyo h
     obtain⟨b,off,hx,hrep⟩:=y6w (hev x) hv'
     refine .pure ?_ hrep hk
     have hs:(sizeOf fd.type).run P w= .ok fi.size w:=by rw[g3];exact G1 hE w hfi
     have hne:fi.size≠0:=by omega
     simp[execOp,ho,Instr.fieldAt,hd1,g1,hx,Instr.sureAddr,fieldPlace,hs,hne,zf8,g2]
    ·cases h
   ·cases h
  ·cases h
 ·cases h
theorem ye5{t:Ty}{xs:List t.T}{x:Value}(h:RepT w S (.list t) xs [x]){i:Int}(hi:inB i xs.length=true):
  ∃b o cap,x= .slice (some ⟨b,o,none⟩) xs.length cap/\RepA w S γ m (.ro t (rd t xs i) 0) (.pointer (some ⟨b,o+i.toNat*t.size,none⟩)):=by
 obtain⟨ao,cap,k1,k2,k3,k4,k5⟩:=h
 simp only[cg.injEq,and_true]at k1
 obtain⟨a,c,e,hs,hr,hc⟩:=k5 i.toNat _ (ynu hi)
 subst e
 have hl0:xs.length≠0:=by
  simp only[inB,ac,decide_eq_true_eq]at hi
  omega
 have ha:=zvq (k4 a rfl hl0)
 refine⟨a.block,a.off,cap,by rw[k1];congr 2,a.block,a.off+i.toNat*t.size,c,rfl,hs,hr,hc⟩
include hE hm hev in
theorem y1p{o:Oper}{T:TypeId}{x i:Operand}(ho:o.op= .indexAddr T x i)(h:X7 E o.dst o.op ev m K=some r):CoreOk w S γ m o.dst ((execOp el o).run P w) K r:=by
 rw[ho]at h
 simp only[X7]at h
 have hx:=hev x
 have hi:=hev i
 split at h
 ·rename_i ki iv hiv
  rw[hiv]at hi;simp only[RepA]at hi
  split at h
  ·rename_i ti hti
   obtain⟨d,hd1,hd2⟩:=z2l hE w hti
   split at h
   ·rename_i e hte
    rw[hte]at hd2
    have:=zl2 hd2;subst this
    split at h
    ·rename_i ei hei
     have hs:=G1 hE w hei
     have fin:∀{t:Ty} {xs:List t.T},RepT w S (.list t) xs [el x]->(aC t.size ei.size&&inB iv xs.length)=true->K (.ro t (rd t xs iv) 0) none=some r->CoreOk w S γ m o.dst ((execOp el o).run P w) K r:=by
      intro t xs hrep hb hk
      simp only[ac,cz]at hb
      obtain⟨b,oo,cap,k1,k2⟩:=ye5 (γ:=γ) (m:=m) hrep hb.2
      refine .pure ?_ k2 hk
      have hin:=hb.2
      simp only[inB,ac,decide_eq_true_eq]at hin
      simp[execOp,ho,Instr.indexAt,hi,k1,asIntOf,hd1,hin.1,hin.2,hs,zf8,hb.1]
     split at h
     ·rename_i t xs he
      obtain⟨hb,h⟩:=W0 h
      rw[he]at hx
      exact fin hx hb h
     ·rename_i t xs he
      obtain⟨hb,h⟩:=W0 h
      rw[he]at hx
      exact fin hx.2 hb h
     ·rename_i n he
      rw[he]at hx
      split at h
      ·rename_i t xs hn
       obtain⟨hb,h⟩:=W0 h
       simp only[ac,cz]at hb
       obtain⟨t0,xs0,s0,k1,k2⟩:=hx
       have hob:RowRel w S (γ n) t xs .live:=hm.obj n _ hn
       rw[hn]at k1;cases k1
       have hin:=hb.2
       simp only[inB,ac,decide_eq_true_eq]at hin
       have hlt:iv.toNat<xs.length:=by omega
       cases ha:(γ n).a with
       | none=>
        have h1:=hob.nil ha
        have h2:=hob.len
        omega
       | some a=>
        obtain⟨b,arr,el',fz,e1,e2,_⟩:=hob.row a ha
        subst e1
        rw[ha]at k2
        refine .pure (v:= .oel n iv.toNat 0) (x:= .pointer (some ⟨b,iv.toNat*ei.size,none⟩)) ?_ ⟨t,xs, .live,b,hn,ha,hlt,by rw[hb.1];rfl⟩ h
        simp[execOp,ho,Instr.indexAt,hi,k2,asIntOf,hd1,hin.1,hin.2,hs,zf8]
      ·rename_i t xs hn
       obtain⟨hb,h⟩:=W0 h
       have hrep:RepT w S (.list t) xs [el x]:=by
        obtain⟨t0,xs0,s0,k1,k2⟩:=hx
        have hob:RowRel w S (γ n) t xs .still:=hm.obj n _ hn
        rw[hn]at k1;cases k1
        rw[k2]
        refine zx3 hob (fun _ h=>h) fun a ha=> ?_
        obtain⟨b,_,_,_,e1,_,_,_,_,_,e7⟩:=hob.row a ha
        subst e1;exact e7 rfl
       exact fin hrep hb h
      ·rename_i t xs j r hn
       obtain⟨hb,h⟩:=W0 h
       simp only[ac,cz]at hb
       obtain⟨t0,xs0,s0,k1,k2⟩:=hx
       have hob:HoleRel w S γ m (γ n) t xs j r:=hm.obj n _ hn
       rw[hn]at k1;cases k1
       have hin:=hb.2
       simp only[inB,ac,decide_eq_true_eq]at hin
       have hlt:iv.toNat<xs.length:=by omega
       obtain⟨b,arr,el',fz,ha,e2,_⟩:=hob.row
       rw[ha]at k2
       refine .pure (v:= .oel n iv.toNat 0) (x:= .pointer (some ⟨b,iv.toNat*ei.size,none⟩)) ?_ ⟨t,xs, .hole j r,b,hn,ha,hlt,by rw[hb.1];rfl⟩ h
       simp[execOp,ho,Instr.indexAt,hi,k2,asIntOf,hd1,hin.1,hin.2,hs,zf8]
      ·cases h
     ·cases h
    ·cases h
   ·rename_i len e hte
    rw[hte]at hd2
    have:=zv6 hd2;subst this
    split at h
    ·rename_i ei hei
     have hs:=G1 hE w hei
     obtain⟨j,hj,hb,h⟩:=zh4 h
     obtain⟨v',hv',hk⟩:=zyo h
     obtain⟨b,off,hx,hrep⟩:=y6w (hev x) hv'
     refine .pure ?_ hrep hk
     have h0:(0:Int)<=(j:Int):=by omega
     have h1:(j:Int)<(len:Int):=by omega
     simp[execOp,ho,Instr.indexAt,hi,hj,hx,asIntOf,hd1,h0,hb,hs,zf8,Instr.sureAddr]
    ·cases h
   ·cases h
  ·cases h
 ·cases h
include hE hev in
theorem yed{o:Oper}{T:TypeId}{x i:Operand}(ho:o.op= .index T x i)(h:X7 E o.dst o.op ev m K=some r):CoreOk w S γ m o.dst ((execOp el o).run P w) K r:=by
 rw[ho]at h
 simp only[X7]at h
 have hx:=hev x
 have hi:=hev i
 split at h
 ·rename_i ki iv hiv
  rw[hiv]at hi;simp only[RepA]at hi
  split at h
  ·rename_i ti hti
   obtain⟨d,hd1,hd2⟩:=z2l hE w hti
   split at h
   ·rename_i s hts hs
    rw[hts]at hd2
    have:=zhu hd2;subst this
    rw[hs]at hx;simp only[RepA]at hx
    obtain⟨hb,h⟩:=W0 h
    simp only[inB,ac,decide_eq_true_eq]at hb
    have hlt:iv.toNat<s.length:=by omega
    refine .pure (v:= .int .u8 (bt s iv)) (x:= .int .u8 (bt s iv)) ?_ rfl h
    have hg:(⟨s.toArray⟩:ByteArray)[iv.toNat]? =some s[iv.toNat]:=by
     rw[getElem?_pos _ _ (by simpa[ByteArray.size] using hlt)]
     rfl
    simp[execOp,ho,Instr.index,hi,hx,asIntOf,hd1,hb.1,hg,bt,hlt]
   ·rename_i len e cs hts hcs
    rw[hts]at hd2
    have:=zv6 hd2;subst this
    rw[hcs]at hx
    obtain⟨vs,hxv,hr,ha⟩:=hx
    split at h
    ·rename_i ei hei
     obtain⟨j,hj,hb,h2⟩:=zh4 h
     clear h
     subst hj
     split at h2
     ·rename_i v hv
      obtain⟨y,hy,hv'⟩:=yg3 (P:=P) hE hei hr ha hv
      refine .pure (x:=y) ?_ hv' h2
      have hs:=G1 hE w hei
      have h0:(0:Int)<=(j:Int):=by omega
      have h1:((j:Int))<(len:Int):=by omega
      simp[execOp,ho,Instr.index,hi,hxv,asIntOf,hd1,h0,hb,hs,hy]
     ·cases h2
    ·cases h
   ·cases h
  ·cases h
 ·cases h
include hE hev in
theorem yee{o:Oper}{T:TypeId}{x:Operand}{f:Nat}(ho:o.op= .field T x f)(h:X7 E o.dst o.op ev m K=some r):CoreOk w S γ m o.dst ((execOp el o).run P w) K r:=by
 rw[ho]at h
 simp only[X7]at h
 have hx:=hev x
 split at h
 ·rename_i ti hti
  obtain⟨d,hd1,hd2⟩:=z2l hE w hti
  split at h
  ·rename_i fs cs hfs hcs
   rw[hfs]at hd2
   obtain⟨a,rfl,rfl⟩:=znl hd2
   rw[hcs]at hx
   obtain⟨vs,hxv,hr,ha⟩:=hx
   split at h
   ·rename_i fo ft hf
    obtain⟨fd,g1,g2,g3⟩:=y7g hf
    split at h
    ·rename_i fi hfi
     split at h
     ·rename_i v hv
      obtain⟨y,hy,hv'⟩:=yg3 (P:=P) hE hfi hr ha hv
      refine .pure (x:=y) ?_ hv' h
      simp[execOp,ho,Instr.field,hxv,hd1,g1,g2,g3,asAgg,hy]
     ·cases h
    ·cases h
   ·cases h
  ·cases h
 ·cases h
end core
variable {R:Type}
section core
variable {P:Program} {E:Env} (hE:∀t ti,E.ty t=some ti->TIok P t ti) {w:World} {S:Nat->Prop} {γ:Nat->Loc} {m:Nat->Option MO} {base:Nat->Prop} (hm:MemRel w S γ m base)
 {ev:Operand->AV} {el:Operand->Value} (hev:∀x,RepA w S γ m (ev x) (el x)) {K:AV->Option MO->Option R} {r:R}
include hev in
theorem bound_ok{lo:Option Operand}{d l:Int}(h:zkk (lo.map ev) d=some l):(lo=none/\l=d)\/∃x k,lo=some x/\el x= .int k l:=by
 cases lo with
 | none=>simp only[di,zkk,aR.injEq]at h;exact .inl ⟨rfl,h.symm⟩
 | some x=>
  have hx:=hev x
  cases hq:ev x<;>rw[hq]at hx<;>simp only[aT,hq,zkk]at h<;>try (cases h;done)
  cases h
  exact .inr ⟨x,_,rfl,hx⟩
theorem z7z{P:Program}{w:World}{k:IntKind}{i:Int}{y:Nat}{c:BoundsCode}(h0:0<=i)(h1:i<=y):(Instr.sliceBound (.int k i) y c).run P w= .ok i.toNat w:=by
 simp[Instr.sliceBound,asIntOf,h0,h1]
include hev in
theorem zeb{isS:Bool}{len cap:Nat}{lo hi:Option Operand}{l h:Int}(hl:zkk (lo.map ev) 0=some l)(hh:zkk (hi.map ev) len=some h)(h0:0<=l)(h1:l<=h)(h2:h<=len)(h3:len<=cap):
  (Instr.sliceBounds isS len cap (lo.map el) (hi.map el) none).run P w= .ok (l.toNat,h.toNat,cap) w:=by
 have hc:h<=(cap:Int):=by omega
 have hn:(h.toNat:Int)=h:=by omega
 have e1:((match hi.map el with | some v=>Instr.sliceBound v cap (if isS=true then .sliceAcap else .sliceAlen) | none=>pure len):Sem Nat).run P w= .ok h.toNat w:=by
  rcases bound_ok hev hh with⟨rfl,rfl⟩ | ⟨x,k,rfl,e⟩
  ·simp
  ·simp only[aT,e]
   exact z7z (by omega) hc
 have e2:((match lo.map el with | some v=>Instr.sliceBound v h.toNat .sliceB | none=>pure 0):Sem Nat).run P w= .ok l.toNat w:=by
  rcases bound_ok hev hl with⟨rfl,rfl⟩ | ⟨x,k,rfl,e⟩
  ·simp
  ·simp only[aT,e]
   exact z7z h0 (by omega)
 cases hi with
 | none=>
  cases lo with
  | none=>simp only[di]at e1 e2|-;simp[Instr.sliceBounds]at e1 e2|-;exact⟨e2,e1⟩
  | some x=>simp only[di,aT]at e1 e2|-;simp[Instr.sliceBounds]at e1|-;rw[<-e1]at e2;rw[e2];simp[e1]
 | some y=>
  cases lo with
  | none=>simp only[di,aT]at e1 e2|-;simp[Instr.sliceBounds,e1]at e2|-;exact e2
  | some x=>simp only[aT]at e1 e2|-;simp[Instr.sliceBounds,e1,e2]
theorem yia{α:Type}{xs:List α}{l h:Int}{i:Nat}{x:α}(hx:getq (cut2 xs l h) i=some x):getq xs (l.toNat+i)=some x:=by
 unfold getq cut2 at*
 rw[bY]at hx
 split at hx
 ·rwa [cj]at hx
 ·cases hx
theorem ze3{α:Type}{xs:List α}{l h:Int}(_h0:0<=l)(h1:l<=h)(h2:h<=xs.length):(cut2 xs l h).length=h.toNat-l.toNat:=by
 simp[cut2];omega
theorem ycv{t:Ty}{xs:List t.T}{ao:Option Addr}{cap mx:Nat}{l h:Int}(hr:RepT w S (.list t) xs [.slice ao xs.length cap])(_h0:0<=l)(h1:l<=h)(h2:h<=xs.length)(h3:h<=mx)(h4:mx<=cap):
  RepT w S (.list t) (cut2 xs l h) [.slice (if mx=l.toNat then ao else ao.map (·.add (l.toNat*t.size))) (h.toNat-l.toNat) (mx-l.toNat)]:=by
 obtain⟨ao',cap',k1,k2,k3,k4,k5⟩:=hr
 simp only[cg.injEq,and_true,Value.slice.injEq]at k1
 obtain⟨rfl,-,rfl⟩:=k1
 refine⟨_,mx-l.toNat,by rw[ze3 (xs:=xs) _h0 h1 h2],by rw[ze3 (xs:=xs) _h0 h1 h2];omega, ?_, ?_, ?_⟩
 ·intro e
  split at e
  ·have:=k3 e;omega
  ·cases ao with
   | none=>have:=k3 rfl;omega
   | some a=>simp at e
 ·intro a e hn0
  have hx0:xs.length≠0:=by
   rw[ze3 (xs:=xs) _h0 h1 h2]at hn0
   omega
  split at e
  ·exact k4 a e hx0
  ·cases ao with
   | none=>simp at e
   | some b=>
    simp only[aT,aR.injEq]at e
    subst e
    have:=k4 b rfl hx0
    unfold Addr.add
    split<;>simp[this]
 ·intro i x hx
  have hx':=yia hx
  have hi:=zf6 hx
  rw[ze3 (xs:=xs) _h0 h1 h2]at hi
  obtain⟨a,c,e,hs,hrr,hc⟩:=k5 _ x hx'
  subst e
  have hx0:xs.length≠0:=by omega
  have ha:=zvq (k4 a rfl hx0)
  have hne:mx≠l.toNat:=by omega
  rw[if_neg hne]
  refine⟨a.add (l.toNat*t.size),c,rfl, ?_,hrr, ?_⟩
  ·rw[ha,zf8];exact hs
  ·rw[ha,zf8]
   have:a.off+(l.toNat+i)*t.size=a.off+l.toNat*t.size+i*t.size:=by rw[cC,bW]
   rw[this]at hc
   exact hc
include hE hm hev in
theorem yec{o:Oper}{T:TypeId}{x:Operand}{lo hi mx:Option Operand}(ho:o.op= .slice T x lo hi mx)(h:X7 E o.dst o.op ev m K=some r):CoreOk w S γ m o.dst ((execOp el o).run P w) K r:=by
 rw[ho]at h
 simp only[X7]at h
 have hx:=hev x
 split at h
 ·rename_i ti hti
  obtain⟨d,hd1,hd2⟩:=z2l hE w hti
  split at h
  ·rename_i s hts hs
   rw[hts]at hd2
   have:=zhu hd2;subst this
   rw[hs]at hx;simp only[RepA]at hx
   split at h
   ·split at h
    ·rename_i l hh hl' hh'
     obtain⟨hb,h⟩:=W0 h
     simp only[ac,decide_eq_true_eq]at hb
     obtain⟨b0,b1,b2⟩:=hb
     have hsz:(⟨s.toArray⟩:ByteArray).size=s.length:=by simp[ByteArray.size]
     have hrun:=zeb (P:=P) (w:=w) hev (isS:=false) (len:=s.length) (cap:=s.length) hl' hh' b0 b1 b2 (al _)
     refine .pure (v:= .str (cut2 s l hh)) (x:= .string ⟨(cut2 s l hh).toArray⟩) ?_ rfl h
     have hex:(⟨s.toArray⟩:ByteArray).extract l.toNat hh.toNat=⟨(cut2 s l hh).toArray⟩:=by
      apply ByteArray.ext
      simp[cut2]
     simp[execOp,ho,Instr.sliceAt,Instr.slice,hx,hd1,hsz,hrun,hex]
    ·cases h
   ·cases h
  ·rename_i e hts
   rw[hts]at hd2
   have:=zl2 hd2;subst this
   split at h
   ·rename_i ee ei ty he
    obtain⟨e1,e2,e3⟩:=z6i hE he
    have hs:=G1 hE w e2
    obtain⟨d',hd1',hd2'⟩:=z2l hE w hti
    have hee:(underlying T).run P w= .ok (.slice ee) w:=run_underlying e1 w
    rw[hee]at hd1
    cases hd1
    split at h
    ·rename_i xs hxs
     have hrep:=zm3 hm hxs hx
     obtain⟨ao,cap,k1,k2⟩:=hrep
     simp only[cg.injEq,and_true]at k1
     have hrep:RepT w S (.list ty) xs [.slice ao (ap xs) cap]:=⟨ao,cap,rfl,k2⟩
     split at h
     ·rename_i l hh hl' hh'
      split at h
      ·obtain⟨hb,h⟩:=W0 h
       simp only[ac,decide_eq_true_eq,cz]at hb
       obtain⟨b3,b0,b1,b2⟩:=hb
       have hrun:=zeb (P:=P) (w:=w) hev (isS:=true) (len:=ap xs) (cap:=cap) hl' hh' b0 b1 b2 k2.1
       have hfin:=ycv hrep b0 b1 b2 (mx:=cap) (by have:=k2.1;omega) (al _)
       refine .pure (v:= .list ty (cut2 xs l hh)) (x:=_) ?_ hfin h
       simp[execOp,ho,Instr.sliceAt,Instr.slice,k1,hee,hrun,hs,b3]
      ·rename_i mx'
       have hmx:=hev mx'
       split at h
       ·rename_i kq q hq
        rw[hq]at hmx;simp only[RepA]at hmx
        obtain⟨hb,h⟩:=W0 h
        simp only[ac,decide_eq_true_eq,cz]at hb
        obtain⟨b3,⟨b0,b1,b2⟩,b4,b5⟩:=hb
        have b4:q=hh:=by simpa[eqi] using b4
        subst b4
        have hcapq:q<=(cap:Int):=by have:=k2.1;omega
        have hfin:=ycv hrep b0 b1 b2 (mx:=q.toNat) (by omega) (by omega)
        have hlen:(cut2 xs l q).length=q.toNat-l.toNat:=ze3 (xs:=xs) b0 b1 b2
        have hrun:(Instr.sliceBounds true (ap xs) cap (lo.map el) (hi.map el) (some (el mx'))).run P w= .ok (l.toNat,q.toNat,q.toNat) w:=by
         have hqn:(q.toNat:Int)=q:=by omega
         have m1:(Instr.sliceBound (el mx') cap .slice3Acap).run P w= .ok q.toNat w:=by rw[hmx];exact z7z (by omega) hcapq
         have m2:∀y k,hi=some y->el y= .int k q->(Instr.sliceBound (el y) q.toNat .slice3B).run P w= .ok q.toNat w:=by
          intro y k _ e;rw[e];exact z7z (by omega) (by omega)
         have m3:((match lo.map el with | some v=>Instr.sliceBound v q.toNat .slice3C | none=>pure 0):Sem Nat).run P w= .ok l.toNat w:=by
          rcases bound_ok hev hl' with⟨rfl,rfl⟩ | ⟨x,k,rfl,e⟩
          ·simp
          ·simp only[aT,e]
           exact z7z b0 (by omega)
         cases hi with
         | none=>simp at b5
         | some y=>
          rcases bound_ok hev hh' with⟨e,_⟩ | ⟨y',k,e,e'⟩
          ·cases e
          ·cases e
           cases lo with
           | none=>simp[Instr.sliceBounds,m1,m2 y k rfl e']at m3|-;exact m3
           | some x=>simp only[aT]at m3|-;simp[Instr.sliceBounds,m1,m2 y k rfl e',m3]
        refine .pure (v:= .clip ty (cut2 xs l q)) (x:=_) ?_ ⟨?_,hfin⟩ h
        ·simp[execOp,ho,Instr.sliceAt,Instr.slice,k1,hee,hrun,hs,b3]
        ·exact⟨_,by rw[hlen]⟩
       ·cases h
     ·cases h
    ·cases h
   ·cases h
  ·cases h
 ·cases h
end core
variable {R:Type}
theorem zys(off:Nat):∀(vs:List Value) (k:Nat) (cells:Array Value),off+k+vs.length<=cells.size->
  (List.foldl (fun cs (x:Value×Nat)=>cs.setIfInBounds (off+x.2) x.1) cells (vs.zipIdx k)).toList=cells.toList.take (off+k)++vs++cells.toList.drop (off+k+vs.length)
 | [],k,cells,_=>by simp
 | v::vs,k,cells,h=>by
  simp only[af]at h
  simp only[List.zipIdx_cons,List.foldl_cons]
  have hi:off+k<cells.size:=by omega
  have ih:=zys off vs (k+1) (cells.setIfInBounds (off+k) v) (by simp;omega)
  rw[ih]
  have e:=list_seg_step cells.toList (off+k) v vs (by simp;omega)
  rw[<-bW]
  simpa[dM,bW] using e
theorem y7c{place:Nat->Option (Nat×Nat)}{cells:Array Value}{i:Nat}{v:Value}{rest:List (Nat×Value)}{off size:Nat}(hp:place i=some (off,size))(hs:v.cells.size=size)(hl:off+size<=cells.size):
  Instr.fill place cells ((i,v)::rest)=Instr.fill place (cells.toList.take off++v.cells.toList++cells.toList.drop (off+size)).toArray rest:=by
 simp only[Instr.fill,hp]
 rw[if_neg (by simp[hs];omega)]
 congr 1
 apply bS
 have:=zys off v.cells.toList 0 cells (by simp[hs];omega)
 simp only[bG,cq,hs]at this
 rw[<-this]
 rw[<-Array.foldl_toList,Array.toList_zipIdx]
theorem zy2{w:World}{S:Nat->Prop}{γ:Nat->Loc}{m:Nat->Option MO}{ev:Operand->AV}{el:Operand->Value}(hev:∀x,RepA w S γ m (ev x) (el x)){place:Nat->Option (Nat×Nat)}:
  ∀(parts:List (Nat×Operand)) (cells:List AV) (vals:Array Value) (cs:List AV),RepAs w S γ m cells vals.toList->V0 cells=true->
   y9s place cells (parts.map fun p=>(p.1,ev p.2))=some cs->∃vs,Instr.fill place vals (parts.map fun p=>(p.1,el p.2))=some vs/\RepAs w S γ m cs vs.toList/\V0 cs=true/\cs.length=cells.length
 | [],cells,vals,cs,hr,ha,h=>by
  simp only[bO,y9s,aR.injEq]at h
  subst h
  exact⟨vals,rfl,hr,ha,rfl⟩
 | (i,x)::parts,cells,vals,cs,hr,ha,h=>by
  simp only[ax,y9s]at h
  split at h
  ·cases h
  ·rename_i off size hp
   rcases bif_some h with⟨hb,h⟩ | ⟨_,h⟩
   ·simp only[ac,cz,Nat.ble_eq]at hb
    obtain⟨⟨b1,b2⟩,b3⟩:=hb
    have hc:=zpa (hev x) b3
    have hl:=hc.length
    have hl2:=hr.length
    simp only[cq]at hl hl2
    have hr':RepAs w S γ m (z06 off (ev x).cells cells) (vals.toList.take off++(el x).cells.toList++vals.toList.drop (off+size)):=by
     unfold z06
     rw[b1]
     exact((hr.take off).append hc).append (hr.drop _)
    have ha':V0 (z06 off (ev x).cells cells)=true:=by
     unfold z06
     rw[z1b,z1b,zj1 _ ha,zj2 _ ha,b3];rfl
    obtain⟨vs,k1,k2,k3,k4⟩:=zy2 hev parts _ (vals.toList.take off++(el x).cells.toList++vals.toList.drop (off+size)).toArray cs (by simpa using hr') ha' h
    refine⟨vs, ?_,k2,k3, ?_⟩
    ·simp only[ax]
     rw[y7c hp (by omega) (by omega)]
     exact k1
    ·rw[k4];simp[z06];omega
   ·cases h
section core
variable {P:Program} {E:Env} (hE:∀t ti,E.ty t=some ti->TIok P t ti) {w:World} {S:Nat->Prop} {γ:Nat->Loc} {m:Nat->Option MO} {base:Nat->Prop} (hm:MemRel w S γ m base)
 {ev:Operand->AV} {el:Operand->Value} (hev:∀x,RepA w S γ m (ev x) (el x)) {K:AV->Option MO->Option R} {r:R}
include hE in
theorem ybd:∀{fs:List Field} {l:List (Nat×Nat)},ydt E (fs.map fun f=>(f.offset,f.type))=some l->(fs.mapM fun f=>(do pure (f.offset,<-sizeOf f.type):Sem (Nat×Nat))).run P w= .ok l w
 | [],l,h=>by simp only[bO,ydt,aR.injEq]at h;subst h;simp
 | f::fs,l,h=>by
  simp only[ax,ydt]at h
  split at h
  ·rename_i ti hti
   split at h
   ·rename_i l' hl'
    cases h
    have ih:=ybd hl'
    simp only[List.mapM_cons,Sem.run_bind,G1 hE w hti,Result.andThen_ok,Sem.run_pure,ih]
   ·cases h
  ·cases h
include hE hev in
theorem yef{o:Oper}{t:TypeId}{parts:Array (Nat×Operand)}(ho:o.op= .build t parts)(h:X7 E o.dst o.op ev m K=some r):CoreOk w S γ m o.dst ((execOp el o).run P w) K r:=by
 rw[ho]at h
 simp only[X7]at h
 split at h
 ·rename_i ti hti
  obtain⟨d,hd1,hd2⟩:=z2l hE w hti
  obtain⟨z,z1,z2,z3⟩:=znm hE w hti
  have hz:RepAs w S γ m (ti.zero.map Z.av) z.cells.toList:=y3i z2
  have hp:(parts.map fun(i,x)=>(i,el x)).toList=parts.toList.map fun p=>(p.1,el p.2):=by simp
  split at h
  ·rename_i fs hfs
   rw[hfs]at hd2
   obtain⟨a,rfl,rfl⟩:=znl hd2
   split at h
   ·rename_i l hl
    have hsz:=ybd (P:=P) hE (w:=w) hl
    split at h
    ·rename_i cs hcs
     obtain⟨vs,k1,k2,k3,_⟩:=zy2 hev parts.toList _ z.cells cs hz (zo0 _) hcs
     refine .pure (v:= .agg cs) (x:= .agg vs) ?_ ⟨vs.toList,by simp,k2,k3⟩ h
     have hm':(a.mapM fun f=>(do pure (f.offset,<-sizeOf f.type):Sem (Nat×Nat))).run P w= .ok l.toArray w:=by
      rw[Array.mapM_eq_mapM_toList]
      simp only[Sem.run_map,hsz,Result.andThen_ok]
     have hpl:(fun i:Nat=>l.toArray[i]?)=fun i:Nat=>l[i]? :=by funext i;simp
     simp only[execOp,ho,Instr.build,Sem.run_bind,z1,hd1,Result.andThen_ok,hm',hp,hpl,k1]
     rfl
    ·cases h
   ·cases h
  ·rename_i n e hte
   rw[hte]at hd2
   have:=zv6 hd2;subst this
   split at h
   ·rename_i ei hei
    have hs:=G1 hE w hei
    split at h
    ·rename_i cs hcs
     obtain⟨vs,k1,k2,k3,_⟩:=zy2 hev parts.toList _ z.cells cs hz (zo0 _) hcs
     refine .pure (v:= .agg cs) (x:= .agg vs) ?_ ⟨vs.toList,by simp,k2,k3⟩ h
     simp only[execOp,ho,Instr.build,Sem.run_bind,z1,hd1,Result.andThen_ok,hs,hp,k1]
     rfl
    ·cases h
   ·cases h
  ·cases h
 ·cases h
end core
def RowArr(w:World)(S:Nat->Prop)(t:Ty)(arr:List Value)(xs:List t.T):Prop:=
 arr.length=xs.length*t.size/\∀i (x:t.T),getq xs i=some x->∃c,RepT w S t x c/\∀j u,c[j]? =some u->arr[i*t.size+j]? =some u
theorem z7r{i k s:Nat}(h:i<k):i*s+s<=k*s:=by
 have:(i+1)*s<=k*s:=bB s h
 rwa [cC,Nat.one_mul]at this
def Rows(w:World)(S:Nat->Prop)(t:Ty)(arr:List Value)(xs:List t.T):Prop:=
 ∀i (x:t.T),getq xs i=some x->∃c,RepT w S t x c/\∀j u,c[j]? =some u->arr[i*t.size+j]? =some u
theorem Rows.set{w:World}{S:Nat->Prop}{t:Ty}{arr:List Value}{xs:List t.T}(h2:Rows w S t arr xs){i:Nat}{x:t.T}{c:List Value}(hi:i<xs.length)(hx:RepT w S t x c)(hle:i*t.size+t.size<=arr.length):
  Rows w S t (arr.take (i*t.size)++c++arr.drop (i*t.size+t.size)) (xs.set i x):=by
 have hc:=hx.length
 intro k y hy
 by_cases e:k=i
 ·subst e
  have:y=x:=by
   have hy':(xs.set k x)[k]? =some y:=hy
   simp[hi]at hy'
   exact hy'.symm
  subst this
  refine⟨c,hx,fun j u hj=> ?_⟩
  have hjl:=(aD.1 hj).1
  rw[au,aV (by simp;omega),aW (by simp;omega)]
  rw[<-hj];congr 1
  simp;omega
 ·have hy':getq xs k=some y:=by
   have hy':(xs.set i x)[k]? =some y:=hy
   rw[List.getElem?_set_ne (Ne.symm e)]at hy'
   exact hy'
  obtain⟨d,k1,k2⟩:=h2 k y hy'
  refine⟨d,k1,fun j u hj=> ?_⟩
  have hjl:=(aD.1 hj).1
  have hd:=k1.length
  have:=k2 j u hj
  rw[<-this]
  rcases eR e with hlt | hgt
  ·have:=z7r (s:=t.size) hlt
   rw[au,aW (by simp;omega),bY,if_pos (by omega)]
  ·have:=z7r (s:=t.size) hgt
   rw[aV (by simp;omega),cj]
   congr 1
   simp;omega
theorem RowArr.set{w:World}{S:Nat->Prop}{t:Ty}{arr:List Value}{xs:List t.T}(h:RowArr w S t arr xs){i:Nat}{x:t.T}{c:List Value}(hi:i<xs.length)(hx:RepT w S t x c):
  RowArr w S t (arr.take (i*t.size)++c++arr.drop (i*t.size+t.size)) (xs.set i x):=by
 have hle:=z7r (s:=t.size) hi
 have hc:=hx.length
 have h1:=h.1
 exact⟨by simp;omega,Rows.set h.2 hi hx (by omega)⟩
theorem RowArr.made{w:World}{S:Nat->Prop}{t:Ty}{z:Array Value}(hz:RepT w S t t.dflt z.toList)(n:Nat):RowArr w S t (madeCells z (n*t.size)).toList (ar n t.dflt):=by
 have hzs:z.size=t.size:=by have:=hz.length;simpa using this
 refine⟨by simp[madeCells],fun i x hx=> ?_⟩
 have hi:=zf6 hx
 simp only[bE]at hi
 have hxe:x=t.dflt:=by
  have hx':(ar n t.dflt)[i]? =some x:=hx
  simp[hi]at hx'
  exact hx'.symm
 subst hxe
 refine⟨z.toList,hz,fun j u hj=> ?_⟩
 have hjl:j<z.size:=by have:=(aD.1 hj).1;simpa using this
 have hle:=z7r (s:=t.size) hi
 have hlt:i*t.size+j<n*t.size:=by omega
 have hmod:(i*t.size+j)%z.size=j:=by rw[hzs,eG,Nat.mul_add_mod,Nat.mod_eq_of_lt (by omega)]
 simp[madeCells,hlt,hmod,hjl]
 simp[hjl]at hj
 exact hj
theorem y7e{w:World}{S:Nat->Prop}{γ:Nat->Loc}{m:Nat->Option MO}{base:Nat->Prop}(hm:MemRel w S γ m base){ev:Operand->AV}{el:Operand->Value}(hev:∀x,RepA w S γ m (ev x) (el x)){t:Ty}:
  ∀(parts:List (Nat×Operand)) (arr:Array Value) (acc xs:List t.T),RowArr w S t arr.toList acc->zsa m t (parts.map fun p=>(p.1,ev p.2)) acc=some xs->
   ∃vs,Instr.fill (fun i=>some (i*t.size,t.size)) arr (parts.map fun p=>(p.1,el p.2))=some vs/\RowArr w S t vs.toList xs/\xs.length=acc.length
 | [],arr,acc,xs,hr,h=>by
  simp only[bO,zsa,aR.injEq]at h
  subst h
  exact⟨arr,rfl,hr,rfl⟩
 | (i,x)::parts,arr,acc,xs,hr,h=>by
  simp only[ax,zsa]at h
  split at h
  ·rename_i y hy
   rcases bif_some h with⟨hb,h⟩ | ⟨_,h⟩
   ·have hi:i<acc.length:=by simpa[cQ] using hb
    have hone:V0 (ev x).cells=true:=yoh hy
    have hc:=zpa (hev x) hone
    have hT:=zqj hm hy hc
    have hl:=hT.length
    simp only[cq]at hl
    have hle:=z7r (s:=t.size) hi
    have hl2:=hr.1
    simp only[cq]at hl2
    obtain⟨vs,k1,k2,k3⟩:=y7e hm hev parts (arr.toList.take (i*t.size)++(el x).cells.toList++arr.toList.drop (i*t.size+t.size)).toArray (acc.set i y) xs (by simpa using hr.set hi hT) h
    refine⟨vs, ?_,k2,by simpa using k3⟩
    simp only[ax]
    rw[y7c (off:=i*t.size) (size:=t.size) rfl hl (by omega)]
    exact k1
   ·cases h
  ·cases h
section core2
variable {P:Program} {E:Env} (hE:∀t ti,E.ty t=some ti->TIok P t ti) {w:World} {S:Nat->Prop} {γ:Nat->Loc} {m:Nat->Option MO} {base:Nat->Prop} (hm:MemRel w S γ m base)
 {ev:Operand->AV} {el:Operand->Value} (hev:∀x,RepA w S γ m (ev x) (el x)) {K:AV->Option MO->Option R} {r:R}
include hE hm hev in
theorem y0d{o:Oper}{t:TypeId}{n:Nat}{parts:Array (Nat×Operand)}(ho:o.op= .buildSlice t n parts)(h:X7 E o.dst o.op ev m K=some r):CoreOk w S γ m o.dst ((execOp el o).run P w) K r:=by
 rw[ho]at h
 simp only[X7]at h
 split at h
 ·rename_i e ei ty d he hd
  obtain⟨e1,e2,e3⟩:=z6i hE he
  obtain⟨y1,y2,y3,y4⟩:=(hE e _ e2).ty _ e3
  obtain⟨hb,h⟩:=W0 h
  have hb:n*ei.size<=16777216:=by simpa using hb
  split at h
  ·rename_i xs hxs
   obtain⟨z,z1,z2,z3⟩:=znm hE w e2
   rw[y4]at z2
   have hz:RepT w S ty ty.dflt z.cells.toList:=zv3 z2
   have hmade:=RowArr.made hz n
   obtain⟨vs,k1,k2,k3⟩:=y7e hm hev parts.toList (madeCells z.cells (n*ty.size)) _ xs hmade hxs
   simp only[bE]at k3
   have hp:(parts.map fun(i,x)=>(i,el x)).toList=parts.toList.map fun p=>(p.1,el p.2):=by simp
   have hs:=G1 hE w e2
   refine CoreOk.newRow (w':=w.alloc (.cells vs e)) (xs:=xs) (arr:=vs) (cap:=n) hm hd ?_ (zj0 _ _) (heap_alloc_new w _) ?_ (by omega) (by unfold maxLen;have:=Nat.le_mul_of_pos_right n y2;omega) (fun i _ hi=>by simp at hi) (fun i x hx=> ?_) h
   ·rw[k3]
    rw[y1]at k1
    have hn:¬n*ei.size>2^24:=by omega
    by_cases h0:n*ei.size=0
    ·have hmc:madeCells z.cells 0= #[]:=by simp[madeCells]
     rw[h0,hmc]at k1
     simp[execOp,ho,Instr.buildSlice,run_underlying e1,hs,h0,Array.range_zero',k1,newRow]
    ·have hmc:(Array.range (n*ei.size)).map (z.cells[·%z.cells.size]!)=madeCells z.cells (n*ei.size):=rfl
     simp only[execOp,ho,Instr.buildSlice,Sem.run_bind,run_underlying e1,Result.andThen_ok,hs,Sem.run_ite,if_neg hn,if_neg h0,z1,Sem.run_pure,hmc,hp,k1]
     rfl
   ·have:=k2.1;simp only[cq]at this;rw[this,k3]
   ·obtain⟨c,f1,f2⟩:=k2.2 i x hx
    exact⟨c,f1,fun j u hj=>by have:=f2 j u hj;simpa using this⟩
  ·cases h
 ·cases h
include hE hev in
theorem y1o{o:Oper}{t:TypeId}{n c:Operand}(hm:MemRel w S γ m base)(ho:o.op= .makeSlice t n c)(h:X7 E o.dst o.op ev m K=some r):CoreOk w S γ m o.dst ((execOp el o).run P w) K r:=by
 rw[ho]at h
 simp only[X7]at h
 have hn:=hev n
 have hc:=hev c
 split at h
 ·rename_i e ei ty d k1 n' k2 c' he hd hn' hc'
  rw[hn']at hn;rw[hc']at hc
  simp only[RepA]at hn hc
  obtain⟨e1,e2,e3⟩:=z6i hE he
  obtain⟨y1,y2,y3,y4⟩:=(hE e _ e2).ty _ e3
  obtain⟨hb,h⟩:=W0 h
  simp only[ac,decide_eq_true_eq]at hb
  obtain⟨⟨b1,b2⟩,b3,b4⟩:=hb
  obtain⟨i,z,z1,z2,z3,z4,z5,z6⟩:=(hE e _ e2).inf
  rw[y4]at z5
  have hz:RepT w S ty ty.dflt z.cells.toList:=zv3 z5
  have hb':(i.bytes:Int)*c'<=281474976710656:=by rw[z3,Int.mul_comm];unfold maxB at b4;omega
  have hrun:=run_make (P:=P) w t e i z e1 z1 z4 k1 k2 n' c' b1 b2 hb' (by unfold maxB at b3;omega)
  have hmade:=RowArr.made hz c'.toNat
  have hmade2:=RowArr.made hz n'.toNat
  refine CoreOk.newRow (w':=w.alloc (.cells (madeCells z.cells (c'.toNat*i.size)) e)) (xs:=ar n'.toNat ty.dflt) (cap:=c'.toNat) hm hd ?_ (zj0 _ _) (heap_alloc_new w _) ?_ (by simp;omega) (by unfold maxLen;unfold maxB at b3;omega) (fun i _ hi=>by simp at hi) (fun i x hx=> ?_) h
  ·simp only[execOp,ho,hn,hc]
   rw[Sem.run_bind,hrun]
   simp
  ·rw[size_madeCells,z2,y1]
  ·have hi:=zf6 hx
   simp only[bE]at hi
   have hxe:x=ty.dflt:=by
    have hx':(ar n'.toNat ty.dflt)[i]? =some x:=hx
    simp[hi]at hx'
    exact hx'.symm
   have hic:i<c'.toNat:=by omega
   obtain⟨c,f1,f2⟩:=hmade.2 i ty.dflt (by simp[getq,hic])
   rw[hxe]
   refine⟨c,f1,fun j u hj=> ?_⟩
   have:=f2 j u hj
   rw[z2,<-y1]
   simpa using this
 ·cases h
include hE hev in
theorem yl2{o:Oper}{args:Array Operand}{ts:Array TypeId}(ho:o.op= .call ⟨.builtin .len,args,ts⟩)(h:X7 E o.dst o.op ev m K=some r):CoreOk w S γ m o.dst ((execOp el o).run P w) K r:=by
 rw[ho]at h
 simp only[X7]at h
 split at h
 ·rename_i x t hx' ht'
  have ha:args= #[x]:=by apply bS;simpa using hx'
  have hts:ts= #[t]:=by apply bS;simpa using ht'
  subst ha;subst hts
  have hx:=hev x
  split at h
  ·rename_i ti hti
   obtain⟨d,hd1,hd2⟩:=z2l hE w hti
   split at h
   ·rename_i hts
    rw[hts]at hd2
    have:=zhu hd2;subst this
    split at h
    ·rename_i s hs
     rw[hs]at hx;simp only[RepA]at hx
     refine .pure (v:= .int .i64 s.length) (x:= .int .i64 s.length) ?_ rfl h
     have hsz:(⟨s.toArray⟩:ByteArray).size=s.length:=by simp[ByteArray.size]
     simp[execOp,ho,resolve,invoke,builtin,Builtin.len_,hd1,hx,goInt,hsz]
    ·cases h
   ·rename_i e hts
    rw[hts]at hd2
    have:=zl2 hd2;subst this
    split at h
    ·cases h
    ·split at h
     ·rename_i hns _ n hl
      have hsl:∃ao cap,el x= .slice ao n.toNat cap/\(n.toNat:Int)=n:=by
       unfold lenA at hl
       split at hl
       ·rename_i t' xs he
        rw[he]at hx
        obtain⟨ao,cap,k1,_⟩:=hx
        simp only[cg.injEq,and_true]at k1
        cases hl
        exact⟨ao,cap,k1,rfl⟩
       ·rename_i t' xs he
        rw[he]at hx
        obtain⟨_,ao,cap,k1,_⟩:=hx
        simp only[cg.injEq,and_true]at k1
        cases hl
        exact⟨ao,cap,k1,rfl⟩
       ·rename_i he
        rw[he]at hx;simp only[RepA]at hx
        cases hl
        exact⟨none,0,hx,rfl⟩
       ·rename_i s he
        exact absurd he (hns s)
       ·rename_i k he
        rw[he]at hx
        obtain⟨t0,xs0,s0,k1,k2⟩:=hx
        split at hl
        ·rename_i _ t1 xs1 hn1
         rw[k1]at hn1;cases hn1;cases hl
         exact⟨_,_,k2,rfl⟩
        ·rename_i _ t1 xs1 hn1
         rw[k1]at hn1;cases hn1;cases hl
         exact⟨_,_,k2,rfl⟩
        ·cases hl
       ·cases hl
      obtain⟨ao,cap,e1,e2⟩:=hsl
      refine .pure (v:= .int .i64 n) (x:= .int .i64 n) ?_ rfl h
      simp[execOp,ho,resolve,invoke,builtin,Builtin.len_,hd1,e1,goInt]
      omega
     ·cases h
   ·rename_i n e hts
    rw[hts]at hd2
    have:=zv6 hd2;subst this
    refine .pure (v:= .int .i64 n) (x:= .int .i64 n) ?_ rfl h
    simp[execOp,ho,resolve,invoke,builtin,Builtin.len_,hd1,goInt]
   ·cases h
  ·cases h
 ·cases h
include hev in
theorem yl0{o:Oper}{args:Array Operand}{ts:Array TypeId}(ho:o.op= .call ⟨.builtin .min,args,ts⟩)(h:X7 E o.dst o.op ev m K=some r):CoreOk w S γ m o.dst ((execOp el o).run P w) K r:=by
 rw[ho]at h
 simp only[X7]at h
 obtain⟨l,hl⟩:∃l,args=cr l:=⟨args.toList,by simp⟩
 subst hl
 simp only at h
 match l,ho,h with
 | [x,y],ho,h=>
  have hx:=hev x
  have hy:=hev y
  simp only[ax,bO]at h
  split at h
  ·rename_i a b hab
   simp only[cg.injEq,and_true]at hab
   rw[hab.1]at hx;rw[hab.2]at hy
   simp only[RepA]at hx hy
   refine .pure (v:= .str (bif lts a b || eqs a b then a else b)) (x:= .string ⟨(bif lts a b || eqs a b then a else b).toArray⟩) ?_ rfl h
   simp only[execOp,ho,resolve,invoke,builtin,Builtin.min_,Builtin.min2,hx,hy,Op.stringOp,asBool,lts,eqs,List.map_toArray,ax,bO,Sem.run_bind,Sem.run_pure,Result.andThen_ok,List.foldlM_cons,List.foldlM_nil,ByteArray.toList_mk]
   cases (Op.bytesLess a b || a==b)<;>rfl
  ·rename_i k a l' b hab
   simp only[cg.injEq,and_true]at hab
   rw[hab.1]at hx;rw[hab.2]at hy
   simp only[RepA]at hx hy
   split at h
   ·rename_i hk
    have hk:=zxa hk
    subst hk
    refine .pure (v:= .int k (bif decide (b<a)then b else a)) (x:= .int k (bif decide (b<a)then b else a)) ?_ rfl h
    by_cases hq:b<a<;>simp[execOp,ho,resolve,invoke,builtin,Builtin.min_,Builtin.min2,hx,hy,hq]
   ·cases h
  ·cases h
 | [],ho,h=>simp at h
 | [_],ho,h=>simp at h
 | _::_::_::_,ho,h=>simp at h
include hev in
theorem yl1{o:Oper}{args:Array Operand}{ts:Array TypeId}(ho:o.op= .call ⟨.builtin .max,args,ts⟩)(h:X7 E o.dst o.op ev m K=some r):CoreOk w S γ m o.dst ((execOp el o).run P w) K r:=by
 rw[ho]at h
 simp only[X7]at h
 obtain⟨l,hl⟩:∃l,args=cr l:=⟨args.toList,by simp⟩
 subst hl
 simp only at h
 match l,ho,h with
 | [x,y],ho,h=>
  have hx:=hev x
  have hy:=hev y
  simp only[ax,bO]at h
  split at h
  ·rename_i a b hab
   simp only[cg.injEq,and_true]at hab
   rw[hab.1]at hx;rw[hab.2]at hy
   simp only[RepA]at hx hy
   refine .pure (v:= .str (bif !(lts a b)then a else b)) (x:= .string ⟨(bif !(lts a b)then a else b).toArray⟩) ?_ rfl h
   simp[execOp,ho,resolve,invoke,builtin,Builtin.max_,Builtin.max2,hx,hy,Op.stringOp,asBool,lts]
   cases (Op.bytesLess a b)<;>simp
  ·rename_i k a l' b hab
   simp only[cg.injEq,and_true]at hab
   rw[hab.1]at hx;rw[hab.2]at hy
   simp only[RepA]at hx hy
   split at h
   ·rename_i hk
    have hk:=zxa hk
    subst hk
    refine .pure (v:= .int k (bif decide (a<b)then b else a)) (x:= .int k (bif decide (a<b)then b else a)) ?_ rfl h
    by_cases hq:a<b<;>simp[execOp,ho,resolve,invoke,builtin,Builtin.max_,Builtin.max2,hx,hy,hq]
   ·cases h
  ·cases h
 | [],ho,h=>simp at h
 | [_],ho,h=>simp at h
 | _::_::_::_,ho,h=>simp at h
end core2
variable {R:Type}
theorem z7o(P:Program)(g o:Nat)(t:TypeId)(fz:Nat×Nat):∀(vs:List Value) (i:Nat) (cur:Array Value) (w:World),w.heap[g]? =some (.cells cur t fz)->fzW cur.size fz->o+i+vs.length<=cur.size->(∀v∈vs,v.oneCell'=true)->
  (storeCells ⟨g,o,none⟩ vs i).run P w= .ok () (w.setRow g (cur.toList.take (o+i)++vs++cur.toList.drop (o+i+vs.length)).toArray)
 | [],i,cur,w,hg,_,_,_=>by
  simp only[storeCells,ai,aq,bG,List.take_append_drop,Array.toArray_toList]
  rw[setRow_self w g cur t fz hg]
  rfl
 | v::rest,i,cur,w,hg,hz,hl,h1=>by
  have hi:o+i<cur.size:=by simp at hl;omega
  have hadd:(⟨g,o,none⟩:Addr).add i=⟨g,o+i,none⟩:=by unfold Addr.add;split<;>simp_all
  have hcell:w.cell? ⟨g,o+i,none⟩=some cur[o+i]:=by simp[World.cell?,hg,hi]
  have hfro:w.frozen? ⟨g,o+i,none⟩=false:=by
   have:=hz (o+i) hi
   simp only[World.frozen?,hg]
   obtain⟨lo,hi'⟩:=fz
   simpa using this
  have hst:(store ((⟨g,o,none⟩:Addr).add i) v).run P w= .ok () (w.setRow g (cur.setIfInBounds (o+i) v)):=by
   rw[hadd,run_store P w _ v _ (h1 v (by simp)),hcell]
   simp[hfro,setCell_eq_setRow w g (o+i) cur t fz v hg]
  have ih:=z7o P g o t fz rest (i+1) (cur.setIfInBounds (o+i) v) (w.setRow g (cur.setIfInBounds (o+i) v)) (setRow_heap w g cur _ t _ hg) (by simpa using hz) (by simp at hl|-;omega) (fun x hx=>h1 x (by simp[hx]))
  simp only[storeCells,Sem.run_bind,hst,Result.andThen_ok,ih,setRow_setRow]
  congr 3
  have e:=list_seg_step cur.toList (o+i) v rest (by simp at hl|-;omega)
  simpa[dM,bW] using e
structure Wrote (b:Nat) (w w':World):Prop where
 os:w'.os=w.os
 tape:w'.tape=w.tape
 output:w'.output=w.output
 size:w'.heap.size=w.heap.size
 block:∀k,k≠b->w'.heap[k]? =w.heap[k]?
 cells:∃arr el fz,w.heap[b]? =some (.cells arr el fz)
theorem Wrote.setRow(w:World)(g:Nat)(cs:Array Value){arr:Array Value}{el:TypeId}{fz:Nat×Nat}(hg:w.heap[g]? =some (.cells arr el fz)):Wrote g w (w.setRow g cs):=
 ⟨rfl,rfl,rfl,by simp,fun k hk=>setRow_other w g k cs hk,arr,el,fz,hg⟩
theorem Wrote.below{b:Nat}{base:Nat->Prop}{w w':World}(h:Wrote b w w')(hb:¬base b):Bel base w w':=
 ⟨h.os,h.tape,h.output,by rw[h.size];exact al _,fun k hk=>h.block k (fun e=>hb (e▸hk)),fun k ds hk=>by
  have hne:k≠b:=fun e=>by
   obtain⟨arr,el,fz,hg⟩:=h.cells
   rw[e,hg]at hk;cases hk
  rw[h.block k hne];exact hk⟩
theorem MemRel.write{w w':World}{S:Nat->Prop}{γ:Nat->Loc}{m:Nat->Option MO}{base:Nat->Prop}{n b:Nat}{o o':MO}(h:MemRel w S γ m base)(hn:m n=some o)(hl:o.live=true)(hb:(γ n).blk=some b)(hw:Wrote b w w')
  (hk:o'.kind=o.kind) (hS:¬S b) (ho:ObjRel w' S γ (mupd m n o') n o'):MemRel w' S γ (mupd m n o') base:=by
 have keep:Keeps m γ (mupd m n o') γ:=by
  intro k q hq
  by_cases e:k=n
  ·subst e;rw[hn]at hq;cases hq;exact⟨o',W6 _ _ _,hk,rfl⟩
  ·exact⟨q,by rw[X1 _ _ e];exact hq,rfl,rfl⟩
 refine⟨fun k q hq=> ?_,fun c hc=>by rw[hw.size];exact h.low c hc, ?_, ?_⟩
 ·by_cases e:k=n
  ·subst e;rw[W6]at hq;cases hq;exact ho
  ·rw[X1 _ _ e]at hq
   exact ObjRel.later (h.obj k q hq) (fun c hc=>hw.block c (fun e=>hS (e▸hc))) (fun _ h=>h) keep rfl fun hlq c hc=>
    ⟨hw.block c (fun e'=>h.apart k n q o b hq hn hlq hl e (e'▸hc) hb),(ObjRel.notS (h.obj k q hq) hlq hc).1⟩
 ·intro k k' q q' c hq hq' hlq hlq' hne hc hc'
  have get:∀{k:Nat} {q:MO},mupd m n o' k=some q->q.live=true->∃q0,m k=some q0/\q0.live=true:=by
   intro k q hq hlq
   by_cases e:k=n
   ·subst e;exact⟨o,hn,hl⟩
   ·rw[X1 _ _ e]at hq;exact⟨q,hq,hlq⟩
  obtain⟨q0,a1,a2⟩:=get hq hlq
  obtain⟨q1,b1,b2⟩:=get hq' hlq'
  exact h.apart k k' q0 q1 c a1 b1 a2 b2 hne hc hc'
 ·intro k q c hq hlq hc
  by_cases e:k=n
  ·subst e;exact h.high k o c hn hl hc
  ·rw[X1 _ _ e]at hq;exact h.high k q c hq hlq hc
theorem G2{γ:Nat->Loc}{m:Nat->Option MO}{n:Nat}{o o':MO}(hn:m n=some o)(hk:o'.kind=o.kind):Keeps m γ (mupd m n o') γ:=by
 intro k q hq
 by_cases e:k=n
 ·subst e;rw[hn]at hq;cases hq;exact⟨o',W6 _ _ _,hk,rfl⟩
 ·exact⟨q,by rw[X1 _ _ e];exact hq,rfl,rfl⟩
theorem zp8{m:Nat->Option MO}{n:Nat}{o o':MO}(hn:m n=some o){dd:Nat->Prop}:∀k,mupd m n o' k≠none->m k≠none\/dd k:=by
 intro k hk
 by_cases e:k=n
 ·subst e;exact .inl (by rw[hn];simp)
 ·rw[X1 _ _ e]at hk;exact .inl hk
theorem zxb{m:Nat->Option MO}{d:Nat}{o:MO}:∀k,mupd m d o k≠none->m k≠none\/k=d:=by
 intro k hk
 by_cases e:k=d
 ·exact .inr e
 ·rw[X1 _ _ e]at hk;exact .inl hk
theorem yct{m m':Nat->Option MO}{n:Nat}{o o':MO}{dd:Nat->Prop}(hn:m n=some o)(h:∀k,m' k≠none->mupd m n o' k≠none\/dd k):∀k,m' k≠none->m k≠none\/dd k:=by
 intro k hk
 rcases h k hk with h | h
 ·by_cases e:k=n
  ·subst e;exact .inl (by rw[hn];simp)
  ·rw[X1 _ _ e]at h;exact .inl h
 ·exact .inr h
def WOk(dd:Nat->Prop)(base:Nat->Prop)(w:World)(S:Nat->Prop)(γ:Nat->Loc)(m:Nat->Option MO)(run:Result Next)(out:Option AV)(m':Nat->Option MO):Prop:=
 ∃w' γ' nx,run= .ok nx w'/\Bel base w w'/\(∀n,m' n≠none->m n≠none\/dd n)/\MemRel w' S γ' m' base/\Keeps m γ m' γ'/\(∀b,S b->w'.heap[b]? =w.heap[b]?)/\
  (match out with
  | none=>nx= .skip
  | some v=>∃x,nx= .value x/\RepA w' S γ' m' v x)
theorem yqh{arr c x:List Value}{p off n s:Nat}(hc:c.length=s)(ho:off+n<=s)(h:∀j u,c[j]? =some u->arr[p+j]? =some u):
  arr.take (p+off)++x++arr.drop (p+off+n)=arr.take p++(c.take off++x++c.drop (off+n))++arr.drop (p+s):=by
 have hd:arr.drop p=c++arr.drop (p+s):=by
  apply List.ext_getElem?
  intro j
  rw[cj]
  by_cases hj:j<s
  ·rw[aW (by omega)]
   exact(h j (c[j]'(by omega)) (aK (by omega))).trans (aK (by omega)).symm
  ·rw[aV (by omega),cj]
   congr 1;omega
 have h1:arr.take (p+off)=arr.take p++c.take off:=by
  rw[List.take_add,hd,List.take_append_of_le_length (by omega)]
 have h2:arr.drop (p+off+n)=c.drop (off+n)++arr.drop (p+s):=by
  rw[bW,<-List.drop_drop,hd,List.drop_append_of_le_length (by omega)]
 rw[h1,h2]
 simp
def zmb(E:Env)(t:TypeId)(m:Nat->Option MO)(p v:AV)(K:(Nat->Option MO)->Option R):Option R:=
 match E.ty t with
 | none=>none
 | some ti=>
  gd (aC v.cells.length ti.size&&V0 v.cells) (match p with
  | .ptr n off=>match m n with
   | some (.box cs .live)=>gd (ci (off+ti.size) cs.length) (K (mupd m n (.box (z06 off v.cells cs) .live)))
   | _=>none
  | .oel n i off=>match m n with
   | some (.sl t' xs .live)=>gd (ci (off+ti.size) t'.size) (match dec m t' (z06 off v.cells (enc t' (xs.getD i t'.dflt)))with
    | some y=>K (mupd m n (.sl t' (xs.set i y) .live))
    | none=>match v with
     | .own r=>gd (aC t'.size 1) (K (mupd m n (.sl t' xs (.hole i r))))
     | _=>none)
   | _=>none
  | _=>none)
theorem zea{P:Program}{E:Env}(hE:∀t ti,E.ty t=some ti->TIok P t ti){w:World}{t:TypeId}{ti:TI}(hti:E.ty t=some ti){b off:Nat}{v:Value}(hv:v.cells.size=ti.size){cur:Array Value}{el:TypeId}{fz:Nat×Nat}
  (hg:w.heap[b]? =some (.cells cur el fz)) (hz:fzW cur.size fz) (hl:off+ti.size<=cur.size) (h1:∀u∈v.cells.toList,u.oneCell'=true):
  (storeVar t ⟨b,off,none⟩ v).run P w= .ok () (w.setRow b (cur.toList.take off++v.cells.toList++cur.toList.drop (off+ti.size)).toArray):=by
 have hs:=G1 hE w hti
 have hst:=z7o P b off el fz v.cells.toList 0 cur w hg hz (by simp[hv];omega) h1
 simp only[bG,cq,hv]at hst
 unfold storeVar
 simp[hs,hv,hst]
theorem yjy{P:Program}{E:Env}(hE:∀t ti,E.ty t=some ti->TIok P t ti){w:World}{S:Nat->Prop}{γ:Nat->Loc}{m:Nat->Option MO}{base:Nat->Prop}(hm:MemRel w S γ m base){ev:Operand->AV}{el:Operand->Value}(hev:∀x,RepA w S γ m (ev x) (el x))
  {o:Oper} {t:TypeId} {p x:Operand} (ho:o.op= .store t p x) {K:(Nat->Option MO)->Option R} {r:R} (h:zmb E t m (ev p) (ev x) K=some r):∃m',K m'=some r/\WOk (fun _=>False) base w S γ m ((execOp el o).run P w) none m':=by
 unfold zmb at h
 have hp:=hev p
 have hx:=hev x
 split at h
 ·cases h
 ·rename_i ti hti
  obtain⟨hb,h⟩:=W0 h
  simp only[ac,cz]at hb
  have hc:=zpa hx hb.2
  have hcl:=hc.length
  simp only[cq]at hcl
  have hone:=zkz hb.2 hc
  split at h
  ·rename_i n off hn
   rw[hn]at hp
   obtain⟨cs0,s0,b,p1,p2,p3⟩:=hp
   split at h
   ·rename_i cs hmn
    obtain⟨hle,h⟩:=W0 h
    have hle:off+ti.size<=cs.length:=by simpa using hle
    obtain⟨b',vs,el',h1,h2,h3,h4,h5,h6⟩:=hm.obj n _ hmn
    rw[p2]at h1;cases h1
    have hvl:=h3.length
    have hrun:=zea (P:=P) hE hti (b:=b) (off:=off) (v:=el x) (by omega) h2 (fun i _ hi=>by simp at hi) (by simp;omega) hone
    have hS:=h5 rfl
    have hW:=Wrote.setRow w b (vs.take off++(el x).cells.toList++vs.drop (off+ti.size)).toArray h2
    have hk:(MO.box (z06 off (ev x).cells cs) .live).kind=(MO.box cs .live).kind:=rfl
    have hblk:(γ n).blk=some b:=by simp[Loc.blk,p2]
    refine⟨_,h,w.setRow b (vs.take off++(el x).cells.toList++vs.drop (off+ti.size)).toArray,γ, .skip, ?_,hW.below (hm.high n _ b hmn rfl hblk),zp8 hmn, ?_,G2 hmn hk,fun k hk=>hW.block k (fun e=>hS (e▸hk)),rfl⟩
    ·simp only[execOp,ho,Instr.storeAt,p3,Instr.sureAddr]
     simp only[]at hrun
     simp[hrun]
    ·refine hm.write hmn rfl hblk hW hk hS ?_
     refine⟨b,_,el',p2,setRow_heap w b _ _ _ _ h2, ?_, ?_,fun _=>hS,fun e=>absurd rfl e⟩
     ·have hcells:RepAs w S γ m (z06 off (ev x).cells cs) (vs.take off++(el x).cells.toList++vs.drop (off+ti.size)):=by
       unfold z06
       rw[hb.1]
       exact((h3.take off).append hc).append (h3.drop _)
      have:=RepAs.mono (fun k hk=>hW.block k (fun e=>hS (e▸hk))) (fun _ h=>h) (G2 (γ:=γ) hmn hk) _ _ hcells
      simpa using this
     ·unfold z06
      rw[z1b,z1b,zj1 _ h4,zj2 _ h4,hb.2];rfl
   ·cases h
  ·rename_i n i off hn
   rw[hn]at hp
   obtain⟨t0,xs0,s0,b,p1,p2,p3,p4⟩:=hp
   split at h
   ·rename_i t' xs hmn
    obtain⟨hle,h⟩:=W0 h
    have hle:off+ti.size<=t'.size:=by simpa using hle
    split at h
    ·rename_i y hy
     have hob:RowRel w S (γ n) t' xs .live:=hm.obj n _ hmn
     rw[hmn]at p1;cases p1
     obtain⟨b',arr,el',fz,e1,e2,e3,e4,e5,e6,_⟩:=hob.row _ p2
     cases e1
     have hS:=e6 rfl
     obtain⟨c,c1,c2⟩:=e5 i xs0[i] (by simp[getq,p3])
     have hget:xs0.getD i t0.dflt=xs0[i]:=by simp[p3]
     rw[hget]at hy
     have hcl':=c1.length
     have hcells:RepAs w S γ m (z06 off (ev x).cells (enc t0 xs0[i])) (c.take off++(el x).cells.toList++c.drop (off+ti.size)):=by
      unfold z06
      rw[hb.1]
      exact((c1.enc.take off).append hc).append (c1.enc.drop _)
     have hT:=zqj hm hy hcells
     have hcap:=hob.len
     have hfit:=z7r (s:=t0.size) (Nat.lt_of_lt_of_le p3 hcap)
     have hseg:arr.toList.take (i*t0.size+off)++(el x).cells.toList++arr.toList.drop (i*t0.size+off+ti.size)=
       arr.toList.take (i*t0.size)++(c.take off++(el x).cells.toList++c.drop (off+ti.size))++arr.toList.drop (i*t0.size+t0.size):=
      yqh hcl' hle (fun j u hj=>by have:=c2 j u hj;simpa using this)
     have hrun:=zea (P:=P) hE hti (b:=b) (off:=i*t0.size+off) (v:=el x) (by omega) e2 e4.weak (by omega) hone
     rw[hseg]at hrun
     have hW:=Wrote.setRow w b (arr.toList.take (i*t0.size)++(c.take off++(el x).cells.toList++c.drop (off+ti.size))++arr.toList.drop (i*t0.size+t0.size)).toArray e2
     have hk:(MO.sl t0 (xs0.set i y) .live).kind=(MO.sl t0 xs0 .live).kind:=by simp[MO.kind]
     have hblk:(γ n).blk=some b:=by simp[Loc.blk,p2]
     refine⟨_,h,_,γ, .skip, ?_,hW.below (hm.high n _ b hmn rfl hblk),zp8 hmn, ?_,G2 hmn hk,fun k hk=>hW.block k (fun e=>hS (e▸hk)),rfl⟩
     ·simp only[execOp,ho,Instr.storeAt,p4,Instr.sureAddr]
      simp[hrun]
     ·refine hm.write hmn rfl hblk hW hk hS ?_
      show RowRel _ S (γ n) t0 (xs0.set i y) .live
      have hlen:(arr.toList.take (i*t0.size)++(c.take off++(el x).cells.toList++c.drop (off+ti.size))++arr.toList.drop (i*t0.size+t0.size)).length=arr.size:=by simp;omega
      refine⟨by simpa using hcap,hob.cap,hob.nil,fun a ha=> ?_⟩
      rw[p2]at ha;cases ha
      refine⟨b,_,el',fz,rfl,setRow_heap w b _ _ _ _ e2,by rw[<-e3];simpa using hlen, ?_, ?_,fun _=>hS,fun e=>(by cases e)⟩
      ·have:(arr.toList.take (i*t0.size)++(c.take off++(el x).cells.toList++c.drop (off+ti.size))++arr.toList.drop (i*t0.size+t0.size)).toArray.size=arr.size:=by simpa using hlen
       rw[this];exact e4
      ·have hrows:Rows w S t0 arr.toList xs0:=fun k z hz=>by
        obtain⟨d,d1,d2⟩:=e5 k z hz
        exact⟨d,d1,fun j u hj=>by have:=d2 j u hj;simpa using this⟩
       have:=Rows.set hrows p3 hT (by simp;omega)
       intro k z hz
       obtain⟨d,d1,d2⟩:=this k z hz
       exact⟨d,RepT.mono (fun k hk=>hW.block k (fun e=>hS (e▸hk))) (fun _ h=>h) t0 z d d1,fun j u hj=>by have:=d2 j u hj;simpa using this⟩
    ·split at h
     case h_2=>cases h
     rename_i r hr
     obtain⟨h1,hq⟩:=W0 h
     clear h
     have h1:t'.size=1:=by simpa using h1
     have hob:RowRel w S (γ n) t' xs .live:=hm.obj n _ hmn
     rw[hmn]at p1;cases p1
     obtain⟨b',arr,el',fz,e1,e2,e3,e4,e5,e6,_⟩:=hob.row _ p2
     cases e1
     have hS:=e6 rfl
     have hcap:=hob.len
     have hlen1:(ev x).cells.length=1:=by rw[hr];rfl
     have hti1:ti.size=1:=by rw[<-hb.1];exact hlen1
     have hoff:off=0:=by omega
     subst hoff
     simp only[bG]at p4
     rw[hr]at hx
     have hxx:∃ao len cap,el x= .slice ao len cap:=by
      obtain⟨_,_,_,_,q⟩:=hx
      exact⟨_,_,_,q⟩
     obtain⟨ao,ln,cp,hxx⟩:=hxx
     have hcells1:(el x).cells.toList=[el x]:=by rw[hxx];rfl
     have hsz:(i:Nat)<arr.size:=by rw[e3,h1];omega
     have hrun:=zea (P:=P) hE hti (b:=b) (off:=i*t0.size) (v:=el x) (by omega) e2 e4.weak (by rw[h1];omega) hone
     have hW:=Wrote.setRow w b (arr.toList.take (i*t0.size)++(el x).cells.toList++arr.toList.drop (i*t0.size+ti.size)).toArray e2
     have hk:(MO.sl t0 xs0 (.hole i r)).kind=(MO.sl t0 xs0 .live).kind:=rfl
     have hblk:(γ n).blk=some b:=by simp[Loc.blk,p2]
     have hwk:∀k,S k->(w.setRow b (arr.toList.take (i*t0.size)++(el x).cells.toList++arr.toList.drop (i*t0.size+ti.size)).toArray).heap[k]? =w.heap[k]? :=fun k hk=>hW.block k (fun e=>hS (e▸hk))
     refine⟨_,hq,_,γ, .skip, ?_,hW.below (hm.high n _ b hmn rfl hblk),zp8 hmn, ?_,G2 hmn hk,hwk,rfl⟩
     ·simp only[execOp,ho,Instr.storeAt,p4,Instr.sureAddr]
      simp[hrun]
     ·refine hm.write hmn rfl hblk hW hk hS ?_
      show HoleRel _ S γ _ (γ n) t0 xs0 i r
      have hlen:(arr.toList.take (i*t0.size)++(el x).cells.toList++arr.toList.drop (i*t0.size+ti.size)).length=arr.size:=by rw[hcells1,hti1,h1];simp;omega
      have hget:∀k,k≠i->(arr.toList.take (i*t0.size)++(el x).cells.toList++arr.toList.drop (i*t0.size+ti.size)).toArray[k]? =arr[k]? :=by
       intro k hk
       rw[hcells1,hti1,h1]
       simp only[eN,bG,eI,au,dw]
       rcases eR hk with hlt | hgt
       ·rw[aW (by simp;omega),bY,if_pos hlt];simp
       ·rw[aV (by simp;omega)]
        have:k-(List.take i arr.toList).length=(k-i-1)+1:=by simp;omega
        rw[this,cy,cj]
        have:i+1+(k-i-1)=k:=by omega
        rw[this];simp
      refine⟨hob.len,hob.cap,h1,p3,b,_,el',fz,p2,setRow_heap w b _ _ _ _ e2,by rw[<-e3];simpa using hlen, ?_, ?_,⟨el x, ?_,RepA.mono hwk (fun _ h=>h) (G2 hmn hk) _ _ hx⟩,hS⟩
      ·have:(arr.toList.take (i*t0.size)++(el x).cells.toList++arr.toList.drop (i*t0.size+ti.size)).toArray.size=arr.size:=by simpa using hlen
       rw[this];exact e4
      ·intro k z hk hz
       obtain⟨d,d1,d2⟩:=e5 k z hz
       refine⟨d,RepT.mono hwk (fun _ h=>h) t0 z d d1,fun j u hj=> ?_⟩
       have hdl:=d1.length
       have:j<d.length:=(aD.1 hj).1
       have:=d2 j u hj
       rw[hget _ (by rw[h1];omega)]
       exact this
      ·rw[hcells1,hti1,h1]
       simp only[eN,bG,eI,au,dw]
       rw[aV (by simp;exact Nat.min_le_left _ _)]
       have:i-(List.take i arr.toList).length=0:=by simp;omega
       rw[this];rfl
   ·cases h
  ·cases h
variable {R:Type}
def RepSee(w:World)(S:Nat->Prop)(t:Ty)(xs:List t.T)(x:Value):Prop:=
 ∃ao cap,x= .slice ao xs.length cap/\xs.length<=cap/\(ao=none->cap=0)/\(∀a,ao=some a->xs.length≠0->a.spot=none)/\
  ∀i (y:t.T),getq xs i=some y->∃a c,ao=some a/\RepT w S t y c/\CellsAt w a.block (a.off+i*t.size) c
theorem RepSee.of{w:World}{S:Nat->Prop}{t:Ty}{xs:List t.T}{x:Value}(h:RepT w S (.list t) xs [x]):RepSee w S t xs x:=by
 obtain⟨ao,cap,k1,k2,k3,k4,k5⟩:=h
 simp only[cg.injEq,and_true]at k1
 refine⟨ao,cap,k1,k2,k3,k4,fun i y hy=> ?_⟩
 obtain⟨a,c,h1,_,h2,h3⟩:=k5 i y hy
 exact⟨a,c,h1,h2,h3⟩
theorem RowRel.see{w:World}{S:Nat->Prop}{l:Loc}{t:Ty}{xs:List t.T}{s:Stat}(h:RowRel w S l t xs s):RepSee w S t xs (.slice l.a xs.length l.cap):=by
 refine⟨l.a,l.cap,rfl,h.len,h.nil,fun a e=> ?_,fun i x e=> ?_⟩
 ·obtain⟨b,arr,el,fz,e1,_⟩:=h.row a e
  subst e1;exact fun _=>rfl
 ·cases ha:l.a with
  | none=>
   have h1:=h.nil ha
   have h2:=h.len
   have:=zf6 e
   omega
  | some a=>
   obtain⟨b,arr,el,fz,e1,e2,e3,e4,e5,e6⟩:=h.row a ha
   obtain⟨c,k1,k2⟩:=e5 i x e
   refine⟨a,c,rfl,k1, ?_⟩
   subst e1
   intro j u hj
   rw[cell_of_row w b _ _ _ _ e2]
   have:=k2 j u hj
   simpa using this
theorem zyd{w:World}{S:Nat->Prop}{γ:Nat->Loc}{m:Nat->Option MO}{base:Nat->Prop}(hm:MemRel w S γ m base){t:Ty}{v:AV}{x:Value}{xs:List t.T}(h:z8t m t v=some xs)(hv:RepA w S γ m v x):RepSee w S t xs x:=by
 unfold z8t at h
 split at h
 ·obtain⟨e,rfl⟩:=z0b h
  subst e;exact .of hv
 ·obtain⟨e,rfl⟩:=z0b h
  subst e;exact .of hv.2
 ·cases h
  simp only[RepA]at hv;subst hv
  exact .of y3r
 ·rename_i n
  obtain⟨t0,xs0,s0,k1,k2⟩:=hv
  have fin:∀{s:Stat},s= .live\/s= .still->m n=some (.sl t0 xs0 s)->RepSee w S t0 xs0 x:=by
   intro s hs hn
   have hob:ObjRel w S γ m n (.sl t0 xs0 s):=hm.obj n _ hn
   have hob:RowRel w S (γ n) t0 xs0 s:=by rcases hs with rfl | rfl<;>exact hob
   rw[k2]
   exact hob.see
  split at h
  ·rename_i t' xs' hn
   obtain⟨e,rfl⟩:=z0b h
   rw[k1]at hn;cases hn
   subst e
   exact fin (by simp) k1
  ·rename_i t' xs' hn
   obtain⟨e,rfl⟩:=z0b h
   rw[k1]at hn;cases hn
   subst e
   exact fin (by simp) k1
  ·cases h
 ·cases h
structure Src (P:Program) (w:World) (S:Nat->Prop) (t:Ty) (ys:List t.T) (x:Value) (news:List Value):Prop where
 len:news.length=ys.length*t.size
 lenOf:∀w',(Builtin.lenOf x).run P w'= .ok ys.length w'
 cells:∀w',(∀a,w'.cell? a=w.cell? a)->(Builtin.firstCells t.size ys.length x).run P w'= .ok news.toArray w'
 rows:Rows w S t news ys
 one:∀u∈news,u.oneCell'=true
theorem RepT.one{w:World}{S:Nat->Prop}{t:Ty}{x:t.T}{c:List Value}(h:RepT w S t x c):∀u∈c,u.oneCell'=true:=
 zkz (γ:=fun _=>⟨none,0⟩) (m:=fun _=>none) (z5d t x) h.enc
theorem y1z{P:Program}{w:World}{S:Nat->Prop}{t:Ty}{ys:List t.T}{x:Value}(ht:0<t.size)(h:RepSee w S t ys x):∃news,Src P w S t ys x news:=by
 obtain⟨ao,cap,rfl,k2,k3,k4,k5⟩:=h
 cases ao with
 | none=>
  have hys:ys=[]:=aN (by have:=k3 rfl;omega)
  subst hys
  refine⟨[],by simp,fun w'=>by simp[Builtin.lenOf],fun w' _=>by simp[Builtin.firstCells],fun i y hy=>by simp[getq]at hy,by simp⟩
 | some a=>
  by_cases hx0:ys.length=0
  ·have:ys=[]:=aN hx0
   subst this
   refine⟨[],by simp,fun w'=>by simp[Builtin.lenOf],fun w' _=> ?_,fun i y hy=>by simp[getq]at hy,by simp⟩
   exact run_firstCells_some w' t.size 0 a _ cap [] (by simp) fun j v hj=>by simp at hj
  have ha:=zvq (k4 a rfl hx0)
  have hcell:∀q,q<ys.length*t.size->∃u,w.cell? ⟨a.block,a.off+q,none⟩=some u/\u.oneCell'=true:=by
   intro q hq
   have hi:q/t.size<ys.length:=by rw[Nat.div_lt_iff_lt_mul ht];exact hq
   have hj:q%t.size<t.size:=Nat.mod_lt _ ht
   obtain⟨a',c,e1,e2,e3⟩:=k5 (q/t.size) ys[q/t.size] (by simp[getq,hi])
   cases e1
   have hcl:=e2.length
   have hjc:q%t.size<c.length:=by omega
   refine⟨c[q%t.size], ?_,e2.one _ (List.getElem_mem hjc)⟩
   have:=e3 (q%t.size) c[q%t.size] (aK hjc)
   rw[<-this]
   congr 2
   have:=Nat.div_add_mod q t.size
   rw[eG]at this
   omega
  refine⟨(bR (ys.length*t.size)).map fun q=>(w.cell? ⟨a.block,a.off+q,none⟩).getD undef,by simp,fun w'=>by simp[Builtin.lenOf], ?_, ?_, ?_⟩
  ·intro w' hw'
   refine run_firstCells_some w' t.size ys.length a _ cap _ (by simp) fun j v hj=> ?_
   have hjl:=(aD.1 hj).1
   simp only[List.length_map,List.length_range]at hjl
   obtain⟨u,hu,_⟩:=hcell j hjl
   have hj':some u=some v:=by rw[<-hj];simp[hjl,hu]
   rw[ha,zf8,hw',hu]
   exact hj'
  ·intro i y hy
   obtain⟨a',c,e1,e2,e3⟩:=k5 i y hy
   cases e1
   refine⟨c,e2,fun j u hj=> ?_⟩
   have hjl:=(aD.1 hj).1
   have hcl:=e2.length
   have hle:=z7r (s:=t.size) (zf6 hy)
   have:=e3 j u hj
   have hlt:i*t.size+j<ys.length*t.size:=by omega
   rw[bW]at this
   simp[hlt,this]
  ·intro u hu
   simp only[aH,List.mem_range]at hu
   obtain⟨q,hq,rfl⟩:=hu
   obtain⟨u,h1,h2⟩:=hcell q hq
   rw[h1];exact h2
theorem yns{P:Program}{w:World}{S:Nat->Prop}(s:List UInt8):Src P w S (.int .u8) (w5 s) (.string ⟨s.toArray⟩) (s.map fun b=>Value.int .u8 b.toNat):=by
 have hl:(w5 s).length=s.length:=by simp[w5]
 refine⟨?_,fun w'=> ?_,fun w' _=> ?_, ?_,by simp[Value.oneCell']⟩
 ·exact(by rw[hl];simp:(s.map fun b=>Value.int .u8 b.toNat).length=(w5 s).length*1)
 ·exact(by rw[hl];simp[Builtin.lenOf,ByteArray.size]:(Builtin.lenOf (.string ⟨s.toArray⟩)).run P w'= .ok (w5 s).length w')
 ·have:(Builtin.firstCells 1 s.length (.string ⟨s.toArray⟩)).run P w'= .ok (s.map fun b=>Value.int .u8 b.toNat).toArray w':=by
   simp[Builtin.firstCells]
  rw[<-hl]at this
  exact this
 ·intro i y hy
  have hy':(w5 s)[i]? =some y:=hy
  unfold w5 at hy'
  rw[List.getElem?_map]at hy'
  cases hs:s[i]? with
  | none=>rw[hs]at hy';cases hy'
  | some b=>
   rw[hs]at hy'
   have hy':(b.toNat:Int)=y:=aR.inj hy'
   subst hy'
   refine⟨[.int .u8 (b.toNat:Int)],rfl,fun j u hj=> ?_⟩
   cases j with
   | succ j=>simp at hj
   | zero=>
    simp only[List.getElem?_cons_zero]at hj
    simp[Ty.size,hs]
    exact aR.inj hj
theorem Rows.app{w:World}{S:Nat->Prop}{t:Ty}{A B Z:List Value}{xs ys:List t.T}(hA:Rows w S t A xs)(hl:A.length=xs.length*t.size)(hB:Rows w S t B ys)(hlB:B.length=ys.length*t.size):Rows w S t (A++B++Z) (xs++ys):=by
 intro i y hy
 have hy':(xs++ys)[i]? =some y:=hy
 by_cases hi:i<xs.length
 ·rw[aW hi]at hy'
  obtain⟨c,c1,c2⟩:=hA i y hy'
  have:=z7r (s:=t.size) hi
  have hcl:=c1.length
  refine⟨c,c1,fun j u hj=> ?_⟩
  have hjl:=(aD.1 hj).1
  rw[au,aW (by omega)]
  exact c2 j u hj
 ·rw[aV (by omega)]at hy'
  obtain⟨c,c1,c2⟩:=hB (i-xs.length) y hy'
  have hcl:=c1.length
  have hlt:i-xs.length<ys.length:=(aD.1 hy').1
  have hm:=z7r (s:=t.size) hlt
  refine⟨c,c1,fun j u hj=> ?_⟩
  have hjl:=(aD.1 hj).1
  have e:i*t.size=xs.length*t.size+(i-xs.length)*t.size:=by rw[<-cC];congr 1;omega
  rw[au,aV (by omega),aW (by omega)]
  have:=c2 j u hj
  rw[<-this];congr 1;omega
theorem Rows.mono{w w':World}{S:Nat->Prop}{t:Ty}{A:List Value}{xs:List t.T}(h:Rows w S t A xs)(hw:∀b,S b->w'.heap[b]? =w.heap[b]?):Rows w' S t A xs:=by
 intro i y hy
 obtain⟨c,c1,c2⟩:=h i y hy
 exact⟨c,RepT.mono hw (fun _ h=>h) t y c c1,c2⟩
section runs
variable {P:Program} (w:World) {t u e:TypeId} {ty:TypeId} {i:TypeInfo} {z:Value} {du:TypeDesc} (ht:P.underlying t=some (.slice e)) (hu:P.underlying u=some du) (hdu:(∃e',du= .slice e')\/du= .string) (hi:P.info? e=some i) (hz:i.zero=some z)
include ht hu hdu hi
theorem zx1{g sLen sCap n:Nat}{cur:Array Value}{el:TypeId}{fz:Nat×Nat}(hg:w.heap[g]? =some (.cells cur el fz))(hfz:fzW cur.size fz){x:Value}{news:List Value}
  (hlen:(Builtin.lenOf x).run P w= .ok n w) (hcells:(Builtin.firstCells i.size n x).run P w= .ok news.toArray w) (h1:∀u∈news,u.oneCell'=true) (hroom:sLen+n<=sCap) (hfit:sLen*i.size+news.length<=cur.size):
  (Builtin.append_ #[t,u] ty #[.slice (some ⟨g,0,none⟩) sLen sCap,x]).run P w=
   .ok (.slice (some ⟨g,0,none⟩) (sLen+n) sCap) (w.setRow g (cur.toList.take (sLen*i.size)++news++cur.toList.drop (sLen*i.size+news.length)).toArray):=by
 have hst:=z7o P g (sLen*i.size) el fz news 0 cur w hg hfz (by simpa using hfit) h1
 simp only[bG]at hst
 rcases hdu with⟨e',rfl⟩ | rfl<;>simp[Builtin.append_,run_underlying ht,run_underlying hu,sizeOf,typeInfo,hi,hlen,hroom,hcells,Addr.add_lit,hst]
include hz in
theorem zx2{ao:Option Addr}{sLen sCap n:Nat}{x:Value}{olds news:List Value}
  (hlen:(Builtin.lenOf x).run P w= .ok n w) (hcells:(Builtin.firstCells i.size n x).run P w.drew= .ok news.toArray w.drew) (holds:(Builtin.firstCells i.size sLen (.slice ao sLen sCap)).run P w.drew= .ok olds.toArray w.drew)
  (hg:sCap<sLen+n) (h63:((sLen+n:Nat):Int)<=9223372036854775807) (hfit:Builtin.nextslicecap (sLen+n) sCap*i.bytes<=281474976710656):
  (Builtin.append_ #[t,u] ty #[.slice ao sLen sCap,x]).run P w=
   .ok (.slice (some ⟨w.heap.size,0,none⟩) (sLen+n) (grownCap w (sLen+n) sCap e))
    (w.drew.alloc (.cells (olds.toArray++news.toArray++Builtin.zeroCells z.cells (grownCap w (sLen+n) sCap e-(sLen+n))) e)):=by
 have hn:¬(sLen+n<=sCap):=by omega
 have h63':¬(9223372036854775807<((sLen:Int)+(n:Int))):=by omega
 have h48':¬(281474976710656<Builtin.nextslicecap (sLen+n) sCap*i.bytes):=by omega
 rcases hdu with⟨e',rfl⟩ | rfl<;>
 ·simp[Builtin.append_,run_underlying ht,run_underlying hu,sizeOf,typeInfo,zeroValue,hi,hz,hlen,hn,h63',h48',Question.forced,hcells,holds,newRow,grownCap]
  congr 2
  apply bS
  simp[au]
end runs
def appSrc(E:Env)(m:Nat->Option MO)(t:Ty)(u:TypeId)(b:AV):Option (List t.T):=
 match E.ty u with
 | some ui=>match ui.d with
  | .str=>match b with
   | .str s=>castL (.int .u8) t (w5 s)
   | _=>none
  | .slice _=>z8t m t b
  | _=>none
 | none=>none
def fits(n bytes:Nat):Bool:=decide (n<maxB)&&decide (n*bytes<maxB)
def appA(E:Env)(m:Nat->Option MO)(d:Nat)(t u:TypeId)(a b:AV)(K:AV->(Nat->Option MO)->Option R):Option R:=
 match elemTy E t with
 | none=>none
 | some (_,ei,ty)=>
  match appSrc E m ty u b with
  | none=>none
  | some ys=>
   match m d with
   | some _=>none
   | none=>
    match a with
    | .nils=>gd (fits ys.length ei.bytes) (K (.own d) (mupd m d (.sl ty ys .live)))
    | .own n=>match m n with
     | some (.sl t' xs .live)=>match castL t' ty xs with
      | some xs=>gd (fits (xs.length+ys.length) ei.bytes) (K (.own d) (mupd (mupd m n (.sl ty xs .dead)) d (.sl ty (xs++ys) .live)))
      | none=>none
     | _=>none
    | .clip t' xs=>match castL t' ty xs with
     | some xs=>gd (cE 0 ys.length&&fits (xs.length+ys.length) ei.bytes) (K (.own d) (mupd m d (.sl ty (xs++ys) .live)))
     | none=>none
    | _=>none
theorem yiq{P:Program}{E:Env}(hE:∀t ti,E.ty t=some ti->TIok P t ti){w:World}{S:Nat->Prop}{γ:Nat->Loc}{m:Nat->Option MO}{base:Nat->Prop}(hm:MemRel w S γ m base){t:Ty}(ht:0<t.size){u:TypeId}{b:AV}{x:Value}{ys:List t.T}
  (h:appSrc E m t u b=some ys) (hb:RepA w S γ m b x):(∃du,P.underlying u=some du/\((∃e',du= .slice e')\/du= .string))/\∃news,Src P w S t ys x news:=by
 unfold appSrc at h
 split at h
 ·rename_i ui hui
  obtain⟨d,hd1,hd2⟩:=(hE u _ hui).und
  split at h
  ·rename_i hd
   rw[hd]at hd2
   have:=zhu hd2;subst this
   split at h
   ·rename_i s
    obtain⟨e,rfl⟩:=z0b h
    subst e
    simp only[RepA]at hb;subst hb
    exact⟨⟨_,hd1, .inr rfl⟩,_,yns s⟩
   ·cases h
  ·rename_i e hd
   rw[hd]at hd2
   have:=zl2 hd2;subst this
   exact⟨⟨_,hd1, .inl ⟨_,rfl⟩⟩,y1z ht (zyd hm h hb)⟩
  ·cases h
 ·cases h
theorem MemRel.kill{w:World}{S:Nat->Prop}{γ:Nat->Loc}{m:Nat->Option MO}{base:Nat->Prop}{n:Nat}{t:Ty}{xs:List t.T}(h:MemRel w S γ m base)(hn:m n=some (.sl t xs .live)):MemRel w S γ (mupd m n (.sl t xs .dead)) base:=by
 have hk:Keeps m γ (mupd m n (.sl t xs .dead)) γ:=G2 hn rfl
 have get:∀{k:Nat} {q:MO},mupd m n (.sl t xs .dead) k=some q->q.live=true->m k=some q:=by
  intro k q hq hl
  by_cases e:k=n
  ·subst e;rw[W6]at hq;cases hq;simp[MO.live]at hl
  ·rwa [X1 _ _ e]at hq
 refine⟨fun k q hq=> ?_,h.low,fun k k' q q' c hq hq' hl hl' hne hc hc'=>h.apart k k' q q' c (get hq hl) (get hq' hl') hl hl' hne hc hc',fun k q c hq hl hc=>h.high k q c (get hq hl) hl hc⟩
 by_cases e:k=n
 ·subst e;rw[W6]at hq;cases hq;trivial
 ·rw[X1 _ _ e]at hq
  exact ObjRel.grow (h.obj k q hq) h.low (Below.refl _ _) hk rfl
theorem MemRel.addAt{w w':World}{S:Nat->Prop}{γ:Nat->Loc}{m:Nat->Option MO}{base:Nat->Prop}{d g:Nat}{ob:MO}{l:Loc}(h:MemRel w S γ m base)(hW:Wrote g w w')(hfree:∀k q,m k=some q->q.live=true->(γ k).blk≠some g)
  (hstill:∀k q,m k=some q->ObjRel w' S γ m k q) (hbase:¬base g) (hd:m d=none) (hl:l.blk=some g) (ho:ObjRel w' S (gupd γ d l) (mupd m d ob) d ob):MemRel w' S (gupd γ d l) (mupd m d ob) base:=by
 refine⟨fun k q hq=> ?_,fun b hb=>by rw[hW.size];exact h.low b hb, ?_, ?_⟩
 ·by_cases e:k=d
  ·subst e;rw[W6]at hq;cases hq;exact ho
  ·rw[X1 _ _ e]at hq
   exact ObjRel.grow (hstill k q hq) (fun b hb=>by rw[hW.size];exact h.low b hb) (Below.refl _ _) (Keeps.new hd) (z2y _ _ e)
 ·intro k k' q q' c hq hq' hlq hlq' hne hc hc'
  by_cases e:k=d
  ·subst e
   have e':k'≠k:=fun e=>hne e.symm
   rw[U6]at hc;rw[X1 _ _ e']at hq';rw[z2y _ _ e']at hc'
   rw[hl]at hc;cases hc
   exact hfree k' q' hq' hlq' hc'
  ·by_cases e':k'=d
   ·subst e'
    rw[U6]at hc';rw[X1 _ _ e]at hq;rw[z2y _ _ e]at hc
    rw[hl]at hc';cases hc'
    exact hfree k q hq hlq hc
   ·rw[X1 _ _ e]at hq;rw[z2y _ _ e]at hc;rw[X1 _ _ e']at hq';rw[z2y _ _ e']at hc'
    exact h.apart k k' q q' c hq hq' hlq hlq' hne hc hc'
 ·intro k q c hq hlq hc
  by_cases e:k=d
  ·subst e;rw[U6,hl]at hc;cases hc;exact hbase
  ·rw[X1 _ _ e]at hq;rw[z2y _ _ e]at hc;exact h.high k q c hq hlq hc
theorem ObjRel.other{w w':World}{S:Nat->Prop}{γ:Nat->Loc}{m:Nat->Option MO}{g k:Nat}{q:MO}(h:ObjRel w S γ m k q)(hW:Wrote g w w')(hS:¬S g)(hne:q.live=true->(γ k).blk≠some g):ObjRel w' S γ m k q:=
 ObjRel.later h (fun c hc=>hW.block c (fun e=>hS (e▸hc))) (fun _ h=>h) (Keeps.refl _ _) rfl fun hlq c hc=>⟨hW.block c (fun e=>hne hlq (e▸hc)),(ObjRel.notS h hlq hc).1⟩
theorem zaj{t' t:Ty}{xs:List t'.T}{ys:List t.T}(h:castL t' t xs=some ys){s:Stat}:MO.sl t' xs s=MO.sl t ys s:=by
 obtain⟨e,rfl⟩:=z0b h
 subst e;rfl
theorem y8z{P:Program}{E:Env}(hE:∀t ti,E.ty t=some ti->TIok P t ti){w:World}{S:Nat->Prop}{γ:Nat->Loc}{m:Nat->Option MO}{base:Nat->Prop}(hm:MemRel w S γ m base)(hbw:∀k,base k->k<w.heap.size){t u e:TypeId}{ei:TI}{ty:Ty}{du:TypeDesc}
  (e1:P.underlying t=some (.slice e)) (e2:E.ty e=some ei) (e3:ei.ty=some ty) (hu:P.underlying u=some du) (hdu:(∃e',du= .slice e')\/du= .string) {d:Nat} (hd:m d=none) {ao:Option Addr} {cap:Nat} {x:Value} {xs ys:List ty.T} {news olds:List Value}
  (hsrc:Src P w S ty ys x news) (holds:(Builtin.firstCells ty.size xs.length (.slice ao xs.length cap)).run P w.drew= .ok olds.toArray w.drew) (hol:olds.length=xs.length*ty.size) (hor:Rows w S ty olds xs) (hg:cap<xs.length+ys.length)
  (hfit:fits (xs.length+ys.length) ei.bytes=true) {rt:TypeId}:
  WOk (fun n=>n=d) base w S γ m (((Builtin.append_ #[t,u] rt #[.slice ao xs.length cap,x]).run P w).andThen fun v w'=> .ok (.value v) w') (some (.own d)) (mupd m d (.sl ty (xs++ys) .live)):=by
 obtain⟨i,z,z1,z2,z3,z4,z5,z6⟩:=(hE e _ e2).inf
 obtain⟨y1,y2,y3,y4⟩:=(hE e _ e2).ty _ e3
 simp only[fits,ac,decide_eq_true_eq]at hfit
 obtain⟨f1,f2⟩:=hfit
 have hsz:i.size=ty.size:=by omega
 have hrun:=zx2 (P:=P) w (ty:=rt) e1 hu hdu z1 z4 (ao:=ao) (sLen:=xs.length) (sCap:=cap) (n:=ys.length) (x:=x) (olds:=olds) (news:=news) (hsrc.lenOf w) (by rw[hsz];exact hsrc.cells w.drew (fun _=>rfl)) (by rw[hsz];exact holds) hg
  (by unfold maxB at f1;omega) (growslice_fits hg (by rw[z3];unfold maxB at f2;omega))
 have hge:=grownCap_ge w (xs.length+ys.length) cap e
 have hle:=grownCap_le_maxLen w (xs.length+ys.length) cap e (by unfold maxLen;unfold maxB at f1;omega)
 have hbel:Below w.heap.size w (w.drew.alloc (.cells (olds.toArray++news.toArray++Builtin.zeroCells z.cells (grownCap w (xs.length+ys.length) cap e-(xs.length+ys.length))) e)):=
  (Below.refl _ _).drew.alloc (al _) _
 have hheap:=heap_alloc_new w.drew (.cells (olds.toArray++news.toArray++Builtin.zeroCells z.cells (grownCap w (xs.length+ys.length) cap e-(xs.length+ys.length))) e)
 refine⟨_,gupd γ d ⟨some ⟨w.heap.size,0,none⟩,grownCap w (xs.length+ys.length) cap e⟩,_,by rw[hrun];rfl,Below.bel hbel hbw,zxb, ?_,Keeps.new hd,fun b hb=>hbel.block b (hm.low b hb),_,rfl, ?_⟩
 ·refine hm.add hbel hd ?_ hbw ?_
  ·show RowRel _ S (gupd γ d _ d) ty (xs++ys) .live
   rw[U6]
   refine⟨by simpa using hge,hle,fun e=>(by cases e),fun a ea=> ?_⟩
   cases ea
   refine⟨w.heap.size,_,e,(0,0),rfl,hheap, ?_,fun i _ hi=>by simp at hi, ?_,fun _ hs=> ?_,fun e=>(by cases e)⟩
   ·simp only[Array.size_append,List.size_toArray,size_zeroCells,hol,hsrc.len,z6,<-y1,<-cC]
    congr 1
    omega
   ·have hr:=Rows.app hor hol hsrc.rows hsrc.len (Z:=(Builtin.zeroCells z.cells (grownCap w (xs.length+ys.length) cap e-(xs.length+ys.length))).toList)
    have hr:=hr.mono (w':=w.drew.alloc (.cells (olds.toArray++news.toArray++Builtin.zeroCells z.cells (grownCap w (xs.length+ys.length) cap e-(xs.length+ys.length))) e)) fun b hb=>hbel.block b (hm.low b hb)
    intro k y hy
    obtain⟨c,c1,c2⟩:=hr k y hy
    refine⟨c,c1,fun j u hj=> ?_⟩
    rw[<-Array.getElem?_toList,eO,eO,dK,dK]
    exact c2 j u hj
   ·have:=hm.low _ hs;omega
  ·intro b hb
   simp[Loc.blk]at hb
   omega
 ·exact⟨ty,xs++ys, .live,W6 _ _ _,by rw[U6];simp⟩
theorem yr1{P:Program}{E:Env}(hE:∀t ti,E.ty t=some ti->TIok P t ti){w:World}{S:Nat->Prop}{γ:Nat->Loc}{m:Nat->Option MO}{base:Nat->Prop}(hm:MemRel w S γ m base)(hbw:∀k,base k->k<w.heap.size){ev:Operand->AV}{el:Operand->Value}(hev:∀x,RepA w S γ m (ev x) (el x))
  {o:Oper} {a b:Operand} {t u:TypeId} (ho:o.op= .call ⟨.builtin .append, #[a,b], #[t,u]⟩) {d:Nat} {K:AV->(Nat->Option MO)->Option R} {r:R} (h:appA E m d t u (ev a) (ev b) K=some r):
  ∃v m',K v m'=some r/\WOk (fun n=>n=d) base w S γ m ((execOp el o).run P w) (some v) m':=by
 unfold appA at h
 have ha:=hev a
 have hb:=hev b
 split at h
 ·cases h
 ·rename_i e ei ty he
  obtain⟨e1,e2,e3⟩:=z6i hE he
  obtain⟨i,z,z1,z2,z3,z4,z5,z6⟩:=(hE e _ e2).inf
  obtain⟨y1,y2,y3,y4⟩:=(hE e _ e2).ty _ e3
  have hsz:i.size=ty.size:=by omega
  split at h
  ·cases h
  ·rename_i ys hys
   obtain⟨⟨du,hu,hdu⟩,news,hsrc⟩:=yiq (P:=P) hE hm (by omega) hys hb
   split at h
   ·cases h
   ·rename_i hd
    have hexec:∀v,el a=v->(execOp el o).run P w=((Builtin.append_ #[t,u] o.type #[v,el b]).run P w).andThen fun v w'=> .ok (.value v) w':=by
     intro v hv
     simp[execOp,ho,resolve,invoke,builtin,hv]
    split at h
    ·
     rename_i hea
     rw[hea]at ha;simp only[RepA]at ha
     obtain⟨hfit,h⟩:=W0 h
     refine⟨_,_,h, ?_⟩
     rw[hexec _ ha]
     by_cases hn:ys.length=0
     ·have:ys=[]:=aN hn
      subst this
      have hl:=hsrc.lenOf w
      have hc:=hsrc.cells w (fun _=>rfl)
      have hnews:news=[]:=aN (by have:=hsrc.len;simpa using this)
      subst hnews
      have hrun:(Builtin.append_ #[t,u] o.type #[.slice none 0 0,el b]).run P w= .ok (.slice none 0 0) w:=by
       have hl':(Builtin.lenOf (el b)).run P w= .ok 0 w:=hl
       have hc':(Builtin.firstCells i.size 0 (el b)).run P w= .ok #[] w:=by rw[hsz];exact hc
       rcases hdu with⟨e',rfl⟩ | rfl<;>simp[Builtin.append_,run_underlying e1,run_underlying hu,sizeOf,typeInfo,z1,hl',hc']
      refine⟨w,gupd γ d ⟨none,0⟩,_,by rw[hrun];rfl,Bel.refl _ _,zxb, ?_,Keeps.new hd,fun _ _=>rfl,_,rfl,⟨ty,[], .live,W6 _ _ _,by rw[U6];rfl⟩⟩
      refine hm.add (Below.refl _ _) hd ?_ hbw (fun b hb=>by simp[Loc.blk]at hb)
      show RowRel w S (gupd γ d _ d) ty [] .live
      rw[U6]
      exact⟨al _,bm _,fun _=>rfl,fun a e=>(by cases e)⟩
     ·have:=y8z (P:=P) hE hm hbw e1 e2 e3 hu hdu hd (ao:=none) (cap:=0) (xs:=[]) (olds:=[]) hsrc (by simp[Builtin.firstCells]) (by simp) (fun i y hy=>by simp[getq]at hy) (by simp;omega) (by simpa using hfit) (rt:=o.type)
      simpa using this
    ·
     rename_i n hea
     rw[hea]at ha
     split at h
     ·rename_i t' xs' hmn
      split at h
      ·rename_i xs hxs
       rw[zaj hxs]at hmn
       obtain⟨hfit,h⟩:=W0 h
       obtain⟨t0,xs0,s0,k1,k2⟩:=ha
       rw[hmn]at k1;cases k1
       have hob:RowRel w S (γ n) ty xs .live:=hm.obj n _ hmn
       refine⟨_,_,h, ?_⟩
       rw[hexec _ k2]
       have hkill:=hm.kill hmn
       have hkk:Keeps m γ (mupd m n (.sl ty xs .dead)) γ:=G2 hmn rfl
       have hnd:d≠n:=fun e=>by rw[e,hmn]at hd;cases hd
       have hd':mupd m n (.sl ty xs .dead) d=none:=by rw[X1 _ _ hnd];exact hd
       have fin:∀{run:Result Next} {v:AV} {m':Nat->Option MO},WOk (fun n=>n=d) base w S γ (mupd m n (.sl ty xs .dead)) run (some v) m'->WOk (fun n=>n=d) base w S γ m run (some v) m':=by
        rintro run v m' ⟨w',γ',nx,c1,c2,c0,c3,c4,c5,c6⟩
        exact⟨w',γ',nx,c1,c2,yct hmn c0,c3,hkk.trans c4,c5,c6⟩
       apply fin
       by_cases hroom:xs.length+ys.length<=(γ n).cap
       ·cases hla:(γ n).a with
        | none=>
         have hcap:=hob.nil hla
         have hx0:xs=[]:=aN (by omega)
         have hy0:ys=[]:=aN (by omega)
         subst hx0;subst hy0
         have hl':(Builtin.lenOf (el b)).run P w= .ok 0 w:=hsrc.lenOf w
         have hnews:news=[]:=aN (by have:=hsrc.len;simpa using this)
         subst hnews
         have hc':(Builtin.firstCells i.size 0 (el b)).run P w= .ok #[] w:=by rw[hsz];exact hsrc.cells w (fun _=>rfl)
         have hrun:(Builtin.append_ #[t,u] o.type #[.slice none 0 (γ n).cap,el b]).run P w= .ok (.slice none 0 0) w:=by
          rw[hcap]
          rcases hdu with⟨e',rfl⟩ | rfl<;>simp[Builtin.append_,run_underlying e1,run_underlying hu,sizeOf,typeInfo,z1,hl',hc']
         refine⟨w,gupd γ d ⟨none,0⟩,_,by rw[aq,hrun];rfl,Bel.refl _ _,zxb, ?_,Keeps.new hd',fun _ _=>rfl,_,rfl,⟨ty,[], .live,W6 _ _ _,by rw[U6];rfl⟩⟩
         refine hkill.add (Below.refl _ _) hd' ?_ hbw (fun b hb=>by simp[Loc.blk]at hb)
         show RowRel w S (gupd γ d _ d) ty [] .live
         rw[U6]
         exact⟨al _,bm _,fun _=>rfl,fun a e=>(by cases e)⟩
        | some ad=>
         obtain⟨g,arr,el',fz,a1,a2,a3,a4,a5,a6,a7⟩:=hob.row _ hla
         subst a1
         have hS:=a6 rfl
         have hblk:(γ n).blk=some g:=by simp[Loc.blk,hla]
         have hfitarr:xs.length*ty.size+news.length<=arr.size:=by rw[hsrc.len,a3,<-cC];exact bB _ hroom
         have hrun:=zx1 (P:=P) w (ty:=o.type) e1 hu hdu z1 (sLen:=xs.length) (sCap:=(γ n).cap) a2 a4.weak (hsrc.lenOf w) (by rw[hsz];exact hsrc.cells w (fun _=>rfl)) hsrc.one hroom (by rw[hsz];exact hfitarr)
         rw[hsz]at hrun
         have hW:=Wrote.setRow w g (arr.toList.take (xs.length*ty.size)++news++arr.toList.drop (xs.length*ty.size+news.length)).toArray a2
         have hlow:=hm.high n _ g hmn rfl hblk
         have hfree:∀k q,mupd m n (.sl ty xs .dead) k=some q->q.live=true->(γ k).blk≠some g:=by
          intro k q hq hl hbk
          by_cases e:k=n
          ·subst e;rw[W6]at hq;cases hq;simp[MO.live]at hl
          ·rw[X1 _ _ e]at hq
           exact hm.apart k n q _ g hq hmn hl rfl e hbk hblk
         have harr:(arr.toList.take (xs.length*ty.size)++news++arr.toList.drop (xs.length*ty.size+news.length)).length=arr.size:=by simp;omega
         refine⟨_,gupd γ d ⟨some ⟨g,0,none⟩,(γ n).cap⟩,_,by rw[hrun];rfl,hW.below hlow,zxb, ?_,Keeps.new hd',fun k hk=>hW.block k (fun e=>hS (e▸hk)),_,rfl,⟨ty,xs++ys, .live,W6 _ _ _,by rw[U6];simp⟩⟩
         refine hkill.addAt hW hfree (fun k q hq=>(hkill.obj k q hq).other hW hS (hfree k q hq)) hlow hd' rfl ?_
         show RowRel _ S (gupd γ d _ d) ty (xs++ys) .live
         rw[U6]
         refine⟨by simpa using hroom,hob.cap,fun e=>(by cases e),fun a ea=> ?_⟩
         cases ea
         refine⟨g,_,el',fz,rfl,setRow_heap w g _ _ _ _ a2,by rw[<-a3];simpa using harr, ?_, ?_,fun _=>hS,fun e=>(by cases e)⟩
         ·have:(arr.toList.take (xs.length*ty.size)++news++arr.toList.drop (xs.length*ty.size+news.length)).toArray.size=arr.size:=by simpa using harr
          rw[this];exact a4
         ·have hA:Rows w S ty (arr.toList.take (xs.length*ty.size)) xs:=by
           intro k y hy
           obtain⟨c,c1,c2⟩:=a5 k y hy
           refine⟨c,c1,fun j u hj=> ?_⟩
           have hjl:=(aD.1 hj).1
           have hcl:=c1.length
           have:=z7r (s:=ty.size) (zf6 hy)
           rw[bY,if_pos (by omega)]
           have:=c2 j u hj
           simpa using this
          have hr:=Rows.app hA (by simp;omega) hsrc.rows hsrc.len (Z:=arr.toList.drop (xs.length*ty.size+news.length))
          have hr:=hr.mono (w':=w.setRow g (arr.toList.take (xs.length*ty.size)++news++arr.toList.drop (xs.length*ty.size+news.length)).toArray) fun k hk=>hW.block k (fun e=>hS (e▸hk))
          intro k y hy
          obtain⟨c,c1,c2⟩:=hr k y hy
          exact⟨c,c1,fun j u hj=>by have:=c2 j u hj;simpa using this⟩
       ·have hsee:=hob.see
        obtain⟨olds,hso⟩:=y1z (P:=P) (by omega) hsee
        exact y8z (P:=P) hE hkill hbw e1 e2 e3 hu hdu hd' (xs:=xs) (olds:=olds) hsrc (hso.cells w.drew (fun _=>rfl)) hso.len hso.rows (by omega) hfit (rt:=o.type)
      ·cases h
     ·cases h
    ·
     rename_i t' xs' hea
     rw[hea]at ha
     split at h
     ·rename_i xs hxs
      obtain⟨hfit,h⟩:=W0 h
      simp only[ac,cQ]at hfit
      obtain⟨hpos,hfit⟩:=hfit
      obtain⟨e,rfl⟩:=z0b hxs
      subst e
      obtain⟨⟨ao,k1⟩,hrep⟩:=ha
      refine⟨_,_,h, ?_⟩
      rw[hexec _ k1]
      rw[k1]at hrep
      obtain⟨olds,hso⟩:=y1z (P:=P) (by omega) (RepSee.of hrep)
      exact y8z (P:=P) hE hm hbw e1 e2 e3 hu hdu hd (olds:=olds) hsrc (hso.cells w.drew (fun _=>rfl)) hso.len hso.rows (by omega) hfit (rt:=o.type)
     ·cases h
    ·cases h
end Go.Dv
namespace Go.Dv
open Go.RowKit
def y0e{α:Type}(xs ys:List α):List α:=ys.take xs.length++xs.drop ys.length
theorem zuv{α:Type}(xs ys:List α):(y0e xs ys).length=xs.length:=by
 simp only[y0e,List.length_append,aQ,List.length_drop];omega
variable [LTab]
variable {R:Type}
def y9t(E:Env)(m:Nat->Option MO)(t:TypeId)(a b:AV)(K:AV->(Nat->Option MO)->Option R):Option R:=
 match elemTy E t with
 | none=>none
 | some (_,_,ty)=>
  match z8t m ty b with
  | none=>none
  | some ys=>match a with
   | .own n=>match m n with
    | some (.sl t' xs .live)=>match castL t' ty xs with
     | some xs=>K (.int .i64 (min ys.length xs.length:Nat)) (mupd m n (.sl ty (y0e xs ys) .live))
     | none=>none
    | _=>none
   | _=>none
theorem RepSee.front{w:World}{S:Nat->Prop}{t:Ty}{xs:List t.T}{ao:Option Addr}{L cap:Nat}(n:Nat)(h:RepSee w S t xs (.slice ao L cap)):RepSee w S t (xs.take n) (.slice ao (min n xs.length) cap):=by
 obtain⟨ao',cap',k1,k2,k3,k4,k5⟩:=h
 cases k1
 refine⟨ao,cap,by rw[aQ],by rw[aQ];omega,k3,(fun a e hn=>k4 a e (fun h0=>hn (by rw[aQ,h0];exact eV _))),fun i y hy=> ?_⟩
 have hy':(xs.take n)[i]? =some y:=hy
 rw[bY]at hy'
 split at hy'
 ·exact k5 i y hy'
 ·cases hy'
theorem yok{P:Program}{E:Env}(hE:∀t ti,E.ty t=some ti->TIok P t ti){w:World}{S:Nat->Prop}{γ:Nat->Loc}{m:Nat->Option MO}{base:Nat->Prop}(hm:MemRel w S γ m base){ev:Operand->AV}{el:Operand->Value}(hev:∀x,RepA w S γ m (ev x) (el x))
  {o:Oper} {a b:Operand} {t u:TypeId} (ho:o.op= .call ⟨.builtin .copy, #[a,b], #[t,u]⟩) {K:AV->(Nat->Option MO)->Option R} {r:R} (h:y9t E m t (ev a) (ev b) K=some r):
  ∃v m',K v m'=some r/\WOk (fun _=>False) base w S γ m ((execOp el o).run P w) (some v) m':=by
 unfold y9t at h
 have ha:=hev a
 have hb:=hev b
 split at h
 ·cases h
 rename_i e ei ty he
 obtain⟨e1,e2,e3⟩:=z6i hE he
 obtain⟨i,z,z1,z2,z3,z4,z5,z6⟩:=(hE e _ e2).inf
 obtain⟨y1,y2,y3,y4⟩:=(hE e _ e2).ty _ e3
 have hsz:i.size=ty.size:=by omega
 split at h
 ·cases h
 rename_i ys hys
 have hsee:=zyd hm hys hb
 split at h
 case h_2=>cases h
 rename_i n hea
 rw[hea]at ha
 split at h
 case h_2=>cases h
 rename_i t' xs' hmn
 split at h
 case h_2=>cases h
 rename_i xs hxs
 rw[zaj hxs]at hmn
 obtain⟨t0,xs0,s0,k1,k2⟩:=ha
 rw[hmn]at k1;cases k1
 have hob:RowRel w S (γ n) ty xs .live:=hm.obj n _ hmn
 refine⟨_,_,h, ?_⟩
 obtain⟨ao,cap,hx,hxcap,hxn,hxs0,hxe⟩:=hsee
 have hsee':RepSee w S ty ys (.slice ao ys.length cap):=⟨ao,cap,rfl,hxcap,hxn,hxs0,hxe⟩
 obtain⟨news,hsrc⟩:=y1z (P:=P) (by omega) (hsee'.front xs.length)
 have hN:(ys.take xs.length).length=fj ys.length xs.length:=by rw[aQ];exact Nat.min_comm _ _
 have hexec:∀v,el a=v->(execOp el o).run P w=((Builtin.copy_ #[t,u] o.type #[v,el b]).run P w).andThen fun v w'=> .ok (.value v) w':=by
  intro v hv
  simp[execOp,ho,resolve,invoke,builtin,hv]
 have hfc:(Builtin.firstCells i.size (fj ys.length xs.length) (.slice ao ys.length cap)).run P w= .ok news.toArray w:=by
  have:=hsrc.cells w (fun _=>rfl)
  rw[hN,<-hsz]at this
  cases ao<;>exact this
 rw[hexec _ k2,hx]
 have hkind:(MO.sl ty (y0e xs ys) .live).kind=(MO.sl ty xs .live).kind:=by simp[MO.kind,zuv]
 cases hla:(γ n).a with
 | none=>
  have hcap:=hob.nil hla
  have hx0:xs=[]:=aN (by have:=hob.len;omega)
  subst hx0
  have hc0:y0e ([]:List ty.T) ys=[]:=by simp[y0e]
  have hmm:mupd m n (.sl ty (y0e [] ys) .live)=m:=by
   funext k
   by_cases e:k=n
   ·subst e;rw[W6,hmn,hc0]
   ·rw[X1 _ _ e]
  rw[hmm]
  have hrun:(Builtin.copy_ #[t,u] o.type #[.slice none ([]:List ty.T).length (γ n).cap, .slice ao ys.length cap]).run P w= .ok (goInt 0) w:=by
   have hm0:fj ys.length 0=0:=eV _
   have hfc0:(Builtin.firstCells i.size 0 (.slice ao ys.length cap)).run P w= .ok news.toArray w:=by
    have:=hfc
    rw[show fj ys.length ([]:List ty.T).length=0 from eV _]at this
    exact this
   simp[Builtin.copy_,run_underlying e1,Builtin.lenOf,sizeOf,typeInfo,z1,hm0,hfc0]
  refine⟨w,γ,_,by rw[hrun];rfl,Bel.refl _ _,fun _ h=> .inl h,hm,Keeps.refl _ _,fun _ _=>rfl,_,rfl, ?_⟩
  show Value.int .i64 _=_
  simp
 | some ad=>
  obtain⟨g,arr,el',fz,a1,a2,a3,a4,a5,a6,a7⟩:=hob.row _ hla
  subst a1
  have hS:=a6 rfl
  have hblk:(γ n).blk=some g:=by simp[Loc.blk,hla]
  have hnl:news.length=(fj ys.length xs.length)*ty.size:=by rw[hsrc.len,hN]
  have hfit:news.length<=arr.size:=by
   rw[hnl,a3];exact bB _ (Nat.le_trans (Nat.min_le_right _ _) hob.len)
  have hst:=z7o P g 0 el' fz news 0 arr w a2 a4.weak (by omega) hsrc.one
  simp only[bG,List.take_zero,List.nil_append,bk]at hst
  have hrun:(Builtin.copy_ #[t,u] o.type #[.slice (some ⟨g,0,none⟩) xs.length (γ n).cap, .slice ao ys.length cap]).run P w= .ok (goInt (fj ys.length xs.length)) (w.setRow g (news++arr.toList.drop news.length).toArray):=by
   simp[Builtin.copy_,run_underlying e1,Builtin.lenOf,sizeOf,typeInfo,z1,hfc,hst]
  have hW:=Wrote.setRow w g (news++arr.toList.drop news.length).toArray a2
  refine⟨_,γ,_,by rw[hrun];rfl,hW.below (hm.high n _ g hmn rfl hblk),zp8 hmn, ?_,G2 hmn hkind,fun k hk=>hW.block k (fun e=>hS (e▸hk)),_,rfl, ?_⟩
  ·refine hm.write hmn rfl hblk hW hkind hS ?_
   show RowRel _ S (γ n) ty (y0e xs ys) .live
   have hlen:(news++arr.toList.drop news.length).length=arr.size:=by simp;omega
   refine⟨by rw[zuv];exact hob.len,hob.cap,hob.nil,fun a ha=> ?_⟩
   rw[hla]at ha;cases ha
   refine⟨g,_,el',fz,rfl,setRow_heap w g _ _ _ _ a2,by rw[<-a3];simpa using hlen, ?_, ?_,fun _=>hS,fun e=>(by cases e)⟩
   ·have:(news++arr.toList.drop news.length).toArray.size=arr.size:=by simpa using hlen
    rw[this];exact a4
   ·have hr:Rows w S ty (news++arr.toList.drop news.length) (y0e xs ys):=by
     intro k y hy
     have hy':(ys.take xs.length++xs.drop ys.length)[k]? =some y:=hy
     by_cases hk:k<(ys.take xs.length).length
     ·rw[aW hk]at hy'
      obtain⟨c,c1,c2⟩:=hsrc.rows k y hy'
      have hstep:=z7r (s:=ty.size) hk
      have hcl:=c1.length
      refine⟨c,c1,fun j u hj=> ?_⟩
      have hjl:=(aD.1 hj).1
      rw[aW (by rw[hsrc.len];omega)]
      exact c2 j u hj
     ·rw[aV (by omega),cj]at hy'
      have hlt:=(aD.1 hy').1
      have hmin:(ys.take xs.length).length=ys.length:=by rw[aQ];omega
      rw[hmin]at hk hy'
      have ek:ys.length+(k-ys.length)=k:=by omega
      rw[ek]at hy'
      obtain⟨c,c1,c2⟩:=a5 k y hy'
      have hle:ys.length*ty.size<=k*ty.size:=bB _ (by omega)
      refine⟨c,c1,fun j u hj=> ?_⟩
      rw[aV (by rw[hsrc.len,hmin];omega),cj]
      have:=c2 j u hj
      rw[hsrc.len,hmin]
      have e2:ys.length*ty.size+(k*ty.size+j-ys.length*ty.size)=k*ty.size+j:=by omega
      rw[e2]
      simpa using this
    have hr:=hr.mono (w':=w.setRow g (news++arr.toList.drop news.length).toArray) fun k hk=>hW.block k (fun e=>hS (e▸hk))
    intro k y hy
    obtain⟨c,c1,c2⟩:=hr k y hy
    exact⟨c,c1,fun j u hj=>by have:=c2 j u hj;simpa using this⟩
  ·rfl
variable {R:Type}
def nm(d k:Nat):Nat:=d+4096*k
mutual
def impV(d k:Nat):AV->AV×List MO
 | .fresh t xs=>(.own (nm d k),[.sl t xs .live])
 | .agg cs=>(.agg (impL d k cs).1,(impL d k cs).2)
 | .tup vs=>(.tup (impL d k vs).1,(impL d k vs).2)
 | v=>(v,[])
def impL(d k:Nat):List AV->List AV×List MO
 | []=>([],[])
 | v::vs=>((impV d k v).1::(impL d (k+(impV d k v).2.length) vs).1,(impV d k v).2++(impL d (k+(impV d k v).2.length) vs).2)
end
def z02(m:Nat->Option MO)(d:Nat):Nat->List MO->(Nat->Option MO)
 | _,[]=>m
 | k,o::os=>z02 (mupd m (nm d k) o) d (k+1) os
def few(l:List MO):Bool:=cE l.length 200
def z43(m:Nat->Option MO)(d:Nat):Nat->List MO->Bool
 | _,[]=>true
 | k,_::os=>(match m (nm d k)with | none=>true | some _=>false)&&z43 m d (k+1) os
def mapO(f:AV->Option AV):List AV->Option (List AV)
 | []=>some []
 | v::vs=>match f v with
  | some x=>match mapO f vs with | some xs=>some (x::xs) | none=>none
  | none=>none
def seeV(lv:Bool)(m:Nat->Option MO):Nat->AV->Option AV
 | 0,_=>none
 | k+1,v=>match v with
  | .undef=>none
  | .fresh _ _=>none
  | .oel _ _ _=>none
  | .yld _=>none
  | .own n=>match m n with
   | some (.sl t xs .still)=>some (.list t xs)
   | some (.sl t xs .live)=>bif lv then some (.list t xs)else none
   | _=>none
  | .ptr n off=>match m n with
   | some (.box cs .still)=>match mapO (seeV lv m k) cs with | some cs=>some (.bx cs off) | none=>none
   | some (.box cs .live)=>bif lv then(match mapO (seeV lv m k) cs with | some cs=>some (.bx cs off) | none=>none)else none
   | _=>none
  | .bx cs off=>match mapO (seeV lv m k) cs with | some cs=>some (.bx cs off) | none=>none
  | .clo f caps=>match mapO (seeV lv m k) caps with | some caps=>some (.clo f caps) | none=>none
  | .iface t x=>match seeV lv m k x with | some x=>some (.iface t x) | none=>none
  | .agg cs=>match mapO (seeV lv m k) cs with | some cs=>some (.agg cs) | none=>none
  | .tup cs=>match mapO (seeV lv m k) cs with | some cs=>some (.tup cs) | none=>none
  | v=>some v
def y5v:Ty->Bool
 | .list _=>false
 | .pair a b=>y5v a&&y5v b
 | _=>true
mutual
def scal:AV->Bool
 | .int _ _=>true
 | .bool _=>true
 | .str _=>true
 | .nils=>true
 | .nilp=>true
 | .nilf=>true
 | .nili=>true
 | .fresh t _=>y5v t
 | .agg cs=>ydv cs
 | .tup cs=>ydv cs
 | _=>false
def ydv:List AV->Bool
 | []=>true
 | v::vs=>scal v&&ydv vs
end
variable (E:Env)
def ziz(m:Nat->Option MO)(f:FuncId)(as:List AV)(K:AV->Option R):Option R:=
 match mapO (seeV false m 8) as with
 | some bs=>E.callK f bs K
 | none=>match mapO (seeV true m 8) as with
  | some bs=>E.callK f bs fun r=>gd (scal r) (K r)
  | none=>none
def zhm(σ:St)(dst:Option Nat)(K:St->Option R)(r:AV):Option R:=
 match dst with
 | some d=>gd (few (impV d 0 r).2&&z43 σ.m d 0 (impV d 0 r).2) (K ⟨upd σ.ρ d (impV d 0 r).1,z02 σ.m d 0 (impV d 0 r).2⟩)
 | none=>gd (impV 0 0 r).2.isEmpty (K σ)
def preA(m:Nat->Option MO)(d:Nat)(T:TypeId)(a h:AV)(K:AV->(Nat->Option MO)->Option R):Option R:=
 match elemTy E T with
 | none=>none
 | some (_,ei,ty)=>
  match m d with
  | some _=>none
  | none=>match a with
   | .own n=>match m n with
    | some (.sl t' xs .live)=>match castL t' ty xs with
     | some xs=>match h with
      | .int _ q=>gd (aC ty.size ei.size&&(decide (0<=q)&&decide (q<=xs.length))) (K (.own d) (mupd (mupd m n (.sl ty xs .dead)) d (.sl ty (xs.take q.toNat) .live)))
      | _=>none
     | none=>none
    | _=>none
   | _=>none
def exN:Ex->Bool
 | .normal=>true
 | _=>false
def yldA(σ:St)(d n:Nat)(as:List AV)(K:St->Option R):Option R:=
 match σ.m n with
 | some (.rng id caps (some 0))=>match E.rounds id with
  | some c=>match getW (renC (zrl c.cin.tms (as++caps)) (mupd σ.m n (.rng id caps none)) c.cin.objs) c.cin (zrl c.cin.tms (as++caps)) (mupd σ.m n (.rng id caps none))with
   | some v=>gd (aC as.length c.np) (match c.F v with
    | some t=>c.out t fun e τ ns=>zfw (renC (zrl c.cin.tms (as++caps)) (mupd σ.m n (.rng id caps none)) c.cin.objs) ⟨σ.ρ,mupd σ.m n (.rng id caps none)⟩ (some d) d ⟨fun i=>bif aC i 0 then .bool (exN e)else .undef,τ.m⟩ ns fun σ'=>
      K ⟨σ'.ρ,mupd σ'.m n (.rng id caps (some e.key))⟩
    | none=>none)
   | none=>none
  | none=>none
 | _=>none
def preO(o:Oper):Bool:=match o.op,o.dst with
 | .slice ..,some d=>E.pre d
 | .call ..,some d=>E.pre d
 | _,_=>false
def preS(o:Oper)(σ:St)(K:St->Option R):Option R:=
 match o.op,o.dst with
 | .call ⟨.value f,args,_⟩,some d=>match σ.ev f with
  | .clo f caps=>match cloArgs caps (args.toList.map σ.ev)with | some l=>zdk (E.callM f) σ (some d) d l K | none=>none
  | .yld n=>yldA E σ d n (args.toList.map σ.ev) K
  | _=>none
 | .call ⟨.invoke x name,args,_⟩,some d=>match σ.ev x with
  | .iface t v=>match E.meth t name with
   | some f=>zdk (E.callM f) σ (some d) d (v::args.toList.map σ.ev) K
   | none=>none
  | _=>none
 | .slice T x none (some y) none,some d=>preA E σ.m d T (σ.ev x) (σ.ev y) fun v m=>K ⟨upd σ.ρ d v,m⟩
 | _,_=>none
def stillO(m:Nat->Option MO)(n:Nat):Nat->Option MO:=
 match m n with
 | some (.box cs .live)=>mupd m n (.box cs .still)
 | some (.sl t xs .live)=>mupd m n (.sl t xs .still)
 | _=>m
def stillL(m:Nat->Option MO):List Nat->(Nat->Option MO)
 | []=>m
 | n::ns=>stillL (stillO m n) ns
def stillF(m:Nat->Option MO)(n:Nat):Nat->Option MO:=
 match m n with
 | some (.sl t xs (.hole i r))=>match dec m t [.own r]with
  | some y=>mupd m n (.sl t (xs.set i y) .live)
  | none=>m
 | _=>stillO m n
def stillR(m:Nat->Option MO):List Nat->(Nat->Option MO)
 | []=>m
 | n::ns=>stillR (stillF m n) ns
def opB(o:Oper)(σ:St)(K:St->Option R):Option R:=bif preO E o then preS E o σ K else
 match o.op with
 | .store t p x=>zmb E t σ.m (σ.ev p) (σ.ev x) fun m=>K ⟨putO σ.ρ o.dst .undef,m⟩
 | .call ⟨.builtin .append,args,ts⟩=>match o.dst,args.toList,ts.toList with
  | some d,[a,b],[t,u]=>appA E σ.m d t u (σ.ev a) (σ.ev b) fun v m=>K ⟨upd σ.ρ d v,m⟩
  | _,_,_=>none
 | .call ⟨.builtin .copy,args,ts⟩=>match args.toList,ts.toList with
  | [a,b],[t,_]=>y9t E σ.m t (σ.ev a) (σ.ev b) fun v m=>K ⟨putO σ.ρ o.dst v,m⟩
  | _,_=>none
 | .call ⟨.value f,args,_⟩=>match σ.ev f with
  | .clo f caps=>match cloArgs caps (args.toList.map σ.ev)with | some l=>ziz E σ.m f l (zhm σ o.dst K) | none=>none
  | _=>none
 | .call ⟨.invoke x name,args,_⟩=>match σ.ev x with
  | .iface t v=>match E.meth t name with
   | some f=>ziz E σ.m f (v::args.toList.map σ.ev) (zhm σ o.dst K)
   | none=>none
  | _=>none
 | op=>X7 E o.dst op σ.ev σ.m fun v ob=>match ob with
  | none=>K (σ.put o.dst v)
  | some ob=>match o.dst with
   | some d=>match σ.m d with
    | none=>K ⟨upd σ.ρ d v,mupd σ.m d ob⟩
    | some _=>none
   | none=>none
def zhk(o:Oper):List Nat:=match o.dst with | some d=>E.still (2000000+d) | none=>[]
def zbb(o:Oper):List Nat:=match o.dst with | some d=>E.still (3000000+d) | none=>[]
def opA(o:Oper)(σ:St)(K:St->Option R):Option R:=opB E o ⟨σ.ρ,stillL σ.m (zhk E o)⟩ fun σ'=>K ⟨σ'.ρ,stillL σ'.m (zbb E o)⟩
def opsA(all:Array Oper):List Oper->St->(St->Option R)->Option R
 | [],σ,K=>K σ
 | o::rest,σ,K=>
  match o.guard with
  | none=>opA E o σ (fun σ'=>opsA all rest σ' K)
  | some (j,want)=>
   match(all[j]?).bind (·.dst)with
   | none=>none
   | some t=>
    match σ.ρ t with
    | .bool b=>
     bif b then
      (bif want then opA E o (σ.set t (.bool true)) (fun σ'=>opsA all rest σ' K)else opsA all rest ((σ.set t (.bool true)).put o.dst (.tup [])) K)
     else
      (bif want then opsA all rest ((σ.set t (.bool false)).put o.dst (.tup [])) K else opA E o (σ.set t (.bool false)) (fun σ'=>opsA all rest σ' K))
    | .tup []=>opsA all rest (σ.put o.dst (.tup [])) K
    | _=>none
def zvn(o:Oper):Bool:=match o.dst,zbb E o with | some d,[n]=>aC n d | _,_=>false
def yfb:Op->Bool
 | .buildSlice .. =>true
 | .convert _ t _=>(match E.ty t with | some ti=>(match ti.d with | .slice _=>true | _=>false) | none=>false)
 | _=>false
def yfc(o:Oper):Bool:=(zbb E o).isEmpty || (yfb E o.op&&zvn E o)
def z0o(o:Oper):Bool:= !(preO E o)&&((zhk E o).isEmpty&&(yfc E o&&
 match o.op with
 | .store .. =>false
 | .call ⟨.builtin .append,_,_⟩=>false
 | .call ⟨.builtin .copy,_,_⟩=>false
 | _=>true))
def z5c(o:Oper):Bool:=match o.op with
 | .call ⟨.builtin .append,_,_⟩=>o.guard.isNone&&(o.dst.isSome&&(!(preO E o)&&((zhk E o).isEmpty&&((zbb E o).isEmpty || zvn E o))))
 | _=>false
def zjf:Op->Bool
 | .move _=>true
 | .assign _=>true
 | .nilCheck _=>true
 | .binOp .. =>true
 | .unOp .. =>true
 | .pick .. =>true
 | .fieldAddr .. =>true
 | .field .. =>true
 | .extract .. =>true
 | .build .. =>true
 | .call ⟨.builtin .min,_,_⟩=>true
 | .call ⟨.builtin .max,_,_⟩=>true
 | _=>false
def y2b(o:Oper):Bool:=zjf o.op&&(o.guard.isNone&&(o.dst.isSome&&z0o E o))
def zhj(o:Oper):Bool:=match o.op with
 | .store .. =>o.guard.isNone&&o.dst.isNone
 | _=>false
def yp8:Op->Bool
 | .load .. =>true
 | .slice .. =>true
 | .indexAddr .. =>true
 | .index .. =>true
 | .convert .. =>true
 | .buildSlice .. =>true
 | .makeSlice .. =>true
 | .alloc .. =>true
 | .call ⟨.builtin .len,_,_⟩=>true
 | op=>zjf op
def subX(o:Oper):Bool:=yp8 o.op&&(o.guard.isNone&&(o.dst.isSome&&z0o E o))
def yn1(o:Oper):Bool:=match o.op with
 | .makeSlice .. =>o.guard.isNone&&(o.dst.isSome&&z0o E o)
 | _=>false
def memX(o:Oper):Bool:=match o.op with
 | .call ⟨.value (.func _),_,_⟩=>preO E o&&(o.guard.isNone&&(o.dst.isSome&&((zhk E o).isEmpty&&(zbb E o).isEmpty)))
 | _=>false
def zhz(all:Array Oper)(x y:Oper):Bool:=x.apart all y&&((z0o E x&&z0o E y) || ((z5c E x&&subX E y) || ((y2b E x&&(z5c E y || zhj y)) || ((yn1 E x&&z5c E y) || ((memX E x&&y2b E y) || (y2b E x&&memX E y))))))
def zh1:Op->Bool
 | .load .. =>true
 | .indexAddr .. =>true
 | .index .. =>true
 | .slice .. =>true
 | .call ⟨.builtin .len,_,_⟩=>true
 | _=>false
def zay(all:Array Oper)(b i j t:Nat):Bool:=(bR all.size).all fun k=>(cE k j || (cE k i&&b.testBit k)) || (match all[k]? with | some o=>(match o.dst with | some d=> !(aC d t) | none=>true) | none=>true)
def yn6(all:Array Oper)(σf:St)(b i j:Nat)(x y:Oper):Bool:=
 x.apart all y&&((zh1 x.op&&(x.guard.isNone&&(x.dst.isSome&&z0o E x)))&&(zhj y&&match y.op with
  | .store _ (.tmp q) _=>zay all b i j q&&(match σf.ρ q with
   | .ptr n' _=>(match x.op with
    | .load _ (.tmp a)=>zay all b i j a&&(match σf.ρ a with
     | .ptr n _=> !(aC n n')
     | .bx _ _=>true
     | .ro _ _ _=>true
     | .oel _ _ _=>true
     | _=>false)
    | .load _ _=>false
    | _=>true)
   | _=>false)
  | _=>false))
def zof(nl:Nat->Bool)(ρ:Nat->AV):Op->Bool
 | .load _ (.tmp a)=>nl a&&(match ρ a with
  | .ptr _ _=>true
  | .bx _ _=>true
  | .ro _ _ _=>true
  | _=>false)
 | .call ⟨.builtin .len,args,_⟩=>(match args.toList with
  | [.tmp a]=>nl a&&(match ρ a with
   | .list _ _=>true
   | .clip _ _=>true
   | .str _=>true
   | .nils=>true
   | _=>false)
  | _=>false)
 | .slice _ (.tmp a) _ _ _=>nl a&&(match ρ a with
   | .list _ _=>true
   | .clip _ _=>true
   | .str _=>true
   | .nils=>true
   | _=>false)
 | .indexAddr _ (.tmp a) _=>nl a&&(match ρ a with
   | .list _ _=>true
   | .clip _ _=>true
   | .nils=>true
   | _=>false)
 | .index .. =>true
 | _=>false
def yfa(all:Array Oper)(σf:St)(b i j:Nat)(x y:Oper):Bool:=
 x.apart all y&&((zh1 x.op&&(x.guard.isNone&&(x.dst.isSome&&z0o E x)))&&(z5c E y&&zof (zay all b i j) σf.ρ x.op))
def zvg:AV->Bool
 | .int _ _=>true
 | .bool _=>true
 | .str _=>true
 | .nils=>true
 | .nilp=>true
 | .nilf=>true
 | .nili=>true
 | .list _ _=>true
 | .clip _ _=>true
 | .own _=>true
 | _=>false
def yf6(src:List Nat):Bool:=match src with | []=>true | t::_=>cE t 5000000
def y3p(c:CtrM):Bool:=c.cin.objs.all fun p=>yf6 p.2.1
def y0l(all:Array Oper)(σf:St)(b i j:Nat)(x y c l:Oper):Bool:=
 x.apart all y&&(memX E c&&((zh1 l.op&&(l.guard.isNone&&(l.dst.isSome&&z0o E l)))&&(zof (zay all b i j) σf.ρ l.op&&match c.op with
  | .call ⟨.value (.func g),args,_⟩=>((E.callM g).all y3p)&&args.toList.all fun a=>(match a with
   | .tmp q=>zay all b i j q&&zvg (σf.ρ q)
   | .const v=>zvg (ofV v)
   | _=>false)
  | _=>false)))
def y60(all:Array Oper)(σf:St)(b i j:Nat)(x y:Oper):Bool:=yn6 E all σf b i j x y || (yfa E all σf b i j x y || (y0l E all σf b i j x y x y || y0l E all σf b i j x y y x))
def y5y(acc:List Nat)(o:Oper):Nat:=
 o.after.toList.foldl (fun s e=>bif Region.binds .any e then s ||| (2^e.on ||| acc.getD e.on 0)else s) 0
def zfs:List Oper->List Nat->List Nat
 | [],acc=>acc
 | o::os,acc=>zfs os (acc++[y5y acc o])
def zf7(o:Oper):Bool:=match o.dst with | some d=>cE d 4096 | none=>true
def yj7(all:Array Oper):Bool:=all.all zf7&&(bR all.size).all fun i=>(match all[i]? with | some o=>o.after.toList.all fun e=> !Region.binds .any e || cE e.on i | none=>true)
def zp3(all:Array Oper):List (Nat×Nat):=
 let b:=zfs all.toList []
 (bR all.size).flatMap fun i=>((bR i).filter fun j=> !((b.getD i 0).testBit j || (match all[j]?,all[i]? with | some x,some y=>zhz E all x y | _,_=>false))).map fun j=>(j,i)
def yf7(all:Array Oper):Bool:=yj7 all&&(zp3 E all).isEmpty
def y8p(all:Array Oper)(σf:St):Bool:=yj7 all&&(let bs:=zfs all.toList [];(zp3 E all).all fun p=>match all[p.1]?,all[p.2]? with | some x,some y=>y60 E all σf (bs.getD p.2 0) p.2 p.1 x y | _,_=>false)
end Go.Dv
namespace Go.Dv
open Go.RowKit
variable [LTab]
variable {R:Type}
theorem zbl{A:Type}(b:Bool)(x:Option A)(f:A->Option R):(gd b x).bind f=gd b (x.bind f):=by cases b<;>rfl
theorem zvo{A:Type}(b:Bool)(x y:Option A)(f:A->Option R):(bif b then x else y).bind f=bif b then x.bind f else y.bind f:=by cases b<;>rfl
theorem zpb{A:Type}(i:Int)(k:Nat->Option A)(f:A->Option R):∀n,(armN i k n).bind f=armN i (fun j=>(k j).bind f) n
 | 0=>rfl
 | n+1=>by
  simp only[armN]
  rw[zvo,zpb i k f n]
set_option maxHeartbeats 4000000 in
theorem zkd(E:Env)(dst:Option Nat)(op:Op)(ev:Operand->AV)(m:Nat->Option MO)(K:AV->Option MO->Option R):
  X7 E dst op ev m K=(X7 E dst op ev m fun v ob=>some (v,ob)).bind fun p=>K p.1 p.2:=by
 unfold X7
 split<;>(repeat' split)<;>first | rfl | (simp only[zbl,zvo,ab,dC];done) | (rw[zpb];done) | (rw[zpb];congr 1;done) | (rw[zpb];congr 1;funext j;(repeat' split)<;>rfl) | (simp only[zbl,zvo,ab,dC];congr 1;(repeat' split)<;>rfl)
theorem zh7(E:Env)(t:TypeId)(m:Nat->Option MO)(p v:AV)(K:(Nat->Option MO)->Option R):zmb E t m p v K=(zmb E t m p v some).bind K:=by
 unfold zmb
 (repeat' split)<;>first | rfl | (simp only[zbl,ab,dC];done) | (simp only[zbl,ab,dC];congr 1;(repeat' split)<;>first | rfl | (simp only[zbl,ab];done))
theorem zvp(E:Env)(m:Nat->Option MO)(d:Nat)(t u:TypeId)(a b:AV)(K:AV->(Nat->Option MO)->Option R):appA E m d t u a b K=(appA E m d t u a b fun v m=>some (v,m)).bind fun p=>K p.1 p.2:=by
 unfold appA
 (repeat' split)<;>first | rfl | (simp only[zbl,ab];done)
theorem zy5(E:Env)(m:Nat->Option MO)(t:TypeId)(a b:AV)(K:AV->(Nat->Option MO)->Option R):y9t E m t a b K=(y9t E m t a b fun v m=>some (v,m)).bind fun p=>K p.1 p.2:=by
 unfold y9t
 (repeat' split)<;>rfl
theorem y3v(E:Env)(m:Nat->Option MO)(d:Nat)(T:TypeId)(a h:AV)(K:AV->(Nat->Option MO)->Option R):preA E m d T a h K=(preA E m d T a h fun v m=>some (v,m)).bind fun p=>K p.1 p.2:=by
 unfold preA
 (repeat' split)<;>first | rfl | (simp only[zbl,ab];done)
theorem zbm(E:Env)(m:Nat->Option MO)(f:FuncId)(as:List AV)(K:AV->Option R):ziz E m f as K=(ziz E m f as some).bind K:=by
 unfold ziz
 split
 ·exact E.callK_nat ..
 ·split
  ·rw[E.callK_nat (K:=fun r=>gd (scal r) (K r)),E.callK_nat (K:=fun r=>gd (scal r) (some r)),bA]
   congr 1
   funext r
   rw[zbl,ab]
  ·rfl
theorem yie(σ:St)(dst:Option Nat)(K:St->Option R)(r:AV):zhm σ dst K r=(zhm σ dst some r).bind K:=by
 unfold zhm
 split<;>simp only[zbl,ab]
theorem y32(E:Env)(m:Nat->Option MO)(f:FuncId)(as:List AV)(σ:St)(dst:Option Nat)(K:St->Option R):ziz E m f as (zhm σ dst K)=(ziz E m f as (zhm σ dst some)).bind K:=by
 rw[zbm,zbm (K:=zhm σ dst some),bA]
 congr 1
 funext r
 exact yie σ dst K r
theorem zke(rl:List (Nat×Option Nat))(σ:St)(dst:Option Nat)(d:Nat)(τ:St)(ns:List Nat)(K:St->Option R):zfw rl σ dst d τ ns K=(zfw rl σ dst d τ ns some).bind K:=by
 unfold zfw
 cases lents rl with
 | none=>rfl
 | some le=>
  simp only[zbl]
  congr 1
  cases apL τ.m (le++w7 le d 0 ns) le σ.m with
  | none=>rfl
  | some m1=>
   simp only
   cases apN τ.m (le++w7 le d 0 ns) (w7 le d 0 ns) m1<;>rfl
theorem zp5(σ:St)(dst:Option Nat)(d:Nat)(as:List AV)(K:St->Option R):∀l:List CtrM,zdk l σ dst d as K=(zdk l σ dst d as some).bind K
 | []=>rfl
 | c::r=>by
  simp only[zdk]
  cases getW (renC (argsA 0 as) σ.m c.cin.objs) c.cin (argsA 0 as) σ.m with
  | none=>exact zp5 σ dst d as K r
  | some v=>
   simp only[zbl]
   congr 1
   cases c.F v with
   | none=>rfl
   | some t=>
    simp only
    rw[c.nat,c.nat (K:=fun τ ns=>zfw (renC (argsA 0 as) σ.m c.cin.objs) σ dst d τ ns some),bA]
    congr 1
    funext p
    exact zke ..
theorem yeo(rl:List (Nat×Option Nat))(σ:St)(dst:Option Nat)(d:Nat)(τ:St)(ns:List Nat)(g:St->St)(K:St->Option R):(zfw rl σ dst d τ ns fun σ'=>K (g σ'))=(zfw rl σ dst d τ ns fun σ'=>some (g σ')).bind K:=by
 rw[zke,zke (K:=fun σ'=>some (g σ')),bA]
 rfl
theorem yka{A:Type}(c:CtrR)(t:c.T)(K:Ex->St->List Nat->Option R)(K':Ex->St->List Nat->Option A)(f:A->Option R)(h:∀e τ ns,K e τ ns=(K' e τ ns).bind f):c.out t K=(c.out t K').bind f:=by
 rw[c.nat,c.nat (K:=K'),bA]
 congr 1
 funext p
 exact h ..
theorem yjq(E:Env)(σ:St)(d n:Nat)(as:List AV)(K:St->Option R):yldA E σ d n as K=(yldA E σ d n as some).bind K:=by
 unfold yldA
 split
 ·split
  ·rename_i c _
   split
   ·simp only[zbl]
    congr 1
    split
    ·rename_i t _
     refine yka c t _ _ K fun e τ ns=> ?_
     exact yeo _ _ _ _ _ _ (fun σ'=>⟨σ'.ρ,mupd σ'.m n (.rng _ _ (some e.key))⟩) K
    ·rfl
   ·rfl
  ·rfl
 ·rfl
theorem y2f(E:Env)(o:Oper)(σ:St)(K:St->Option R):opB E o σ K=(opB E o σ some).bind K:=by
 unfold opB
 rw[zvo]
 congr 1
 ·unfold preS
  split
  ·split
   ·split
    ·exact zp5 ..
    ·rfl
   ·exact yjq ..
   ·rfl
  ·split
   ·split
    ·exact zp5 ..
    ·rfl
   ·rfl
  ·rw[y3v,y3v (K:=fun v m=>some (⟨upd σ.ρ _ v,m⟩:St)),bA]
   congr 1
  ·rfl
 split
 ·rw[zh7,zh7 (K:=fun m=>some (⟨putO σ.ρ o.dst .undef,m⟩:St)),bA]
  congr 1
 ·split
  ·rw[zvp,zvp (K:=fun v m=>some (⟨upd σ.ρ _ v,m⟩:St)),bA]
   congr 1
  ·rfl
 ·split
  ·rw[zy5,zy5 (K:=fun v m=>some (⟨putO σ.ρ o.dst v,m⟩:St)),bA]
   congr 1
  ·rfl
 ·split
  ·split
   ·exact y32 _ _ _ _ _ _ _
   ·rfl
  ·rfl
 ·split
  ·split
   ·exact y32 _ _ _ _ _ _ _
   ·rfl
  ·rfl
 ·refine(zkd E _ _ _ _ _).trans (Eq.trans ?_ (congrArg (fun z=>Option.bind z K) (zkd E _ _ _ _ _)).symm)
  rw[bA]
  congr 1
  funext p
  (repeat' split)<;>rfl
theorem yg5(E:Env)(o:Oper)(σ:St)(K:St->Option R):opA E o σ K=(opA E o σ some).bind K:=by
 unfold opA
 rw[y2f,y2f (K:=fun σ'=>some (⟨σ'.ρ,stillL σ'.m (zbb E o)⟩:St)),bA]
 rfl
theorem ybx{E:Env}{o:Oper}{σ σ':St}(h:opA E o σ some=some σ'):∃σ1,opB E o ⟨σ.ρ,stillL σ.m (zhk E o)⟩ some=some σ1/\σ'=⟨σ1.ρ,stillL σ1.m (zbb E o)⟩:=by
 unfold opA at h
 rw[y2f]at h
 obtain⟨σ1,h1,h2⟩:=Option.bind_eq_some_iff.1 h
 exact⟨σ1,h1,by cases h2;rfl⟩
def stepG(E:Env)(all:Array Oper)(o:Oper)(σ:St):Option St:=
 match o.guard with
 | none=>opA E o σ some
 | some (j,want)=>
  match(all[j]?).bind (·.dst)with
  | none=>none
  | some t=>
   match σ.ρ t with
   | .bool b=>if b=want then opA E o σ some else some (σ.put o.dst (.tup []))
   | .tup []=>some (σ.put o.dst (.tup []))
   | _=>none
def runG(E:Env)(all:Array Oper):List Oper->St->Option St
 | [],σ=>some σ
 | o::rest,σ=>(stepG E all o σ).bind (runG E all rest)
theorem y3q{σ:St}{t:Nat}{v:AV}(h:σ.ρ t=v):σ.set t v=σ:=by
 cases σ with
 | mk ρ m=>
  simp only[St.set,St.mk.injEq,and_true]
  funext i
  by_cases e:i=t
  ·subst e;rw[zhs];exact h.symm
  ·rw[zcn _ _ e]
theorem y3w(E:Env)(all:Array Oper):∀(l:List Oper) (σ:St) (K:St->Option R) (r:R),opsA E all l σ K=some r->∃σ',runG E all l σ=some σ'/\K σ'=some r
 | [],σ,K,r,h=>⟨σ,rfl,h⟩
 | o::rest,σ,K,r,h=>by
  unfold opsA at h
  have step:∀{σ1:St},stepG E all o σ=some σ1->opsA E all rest σ1 K=some r->∃σ',runG E all (o::rest) σ=some σ'/\K σ'=some r:=by
   intro σ1 h1 h2
   obtain⟨σ',k1,k2⟩:=y3w E all rest σ1 K r h2
   exact⟨σ',by simp only[runG,h1,ab];exact k1,k2⟩
  split at h
  ·rename_i hg
   rw[yg5]at h
   cases ho:opA E o σ some with
   | none=>rw[ho]at h;cases h
   | some σ1=>
    rw[ho]at h
    exact step (by simp only[stepG,hg,ho]) h
  ·rename_i j want hg
   split at h
   ·cases h
   ·rename_i t ht
    split at h
    ·rename_i b hb
     have fin:∀{b:Bool},σ.ρ t= .bool b->b=want->(opA E o (σ.set t (.bool b)) fun σ'=>opsA E all rest σ' K)=some r->∃σ',runG E all (o::rest) σ=some σ'/\K σ'=some r:=by
      intro b hb hw h
      rw[y3q hb,yg5]at h
      cases ho:opA E o σ some with
      | none=>rw[ho]at h;cases h
      | some σ1=>
       rw[ho]at h
       exact step (by simp only[stepG,hg,ht,hb,if_pos hw,ho]) h
     have skip:∀{b:Bool},σ.ρ t= .bool b->b≠want->opsA E all rest ((σ.set t (.bool b)).put o.dst (.tup [])) K=some r->∃σ',runG E all (o::rest) σ=some σ'/\K σ'=some r:=by
      intro b hb hw h
      rw[y3q hb]at h
      exact step (by simp only[stepG,hg,ht,hb,if_neg hw]) h
     cases b<;>cases want
     ·exact fin hb rfl h
     ·exact skip hb (by simp) h
     ·exact skip hb (by simp) h
     ·exact fin hb rfl h
    ·rename_i hb
     exact step (by simp only[stepG,hg,ht,hb]) h
    ·cases h
variable {R:Type}
def g0:Nat->Loc:=fun _=>⟨none,0⟩
def m0:Nat->Option MO:=fun _=>none
def AV.oneX:AV->Bool
 | .fresh _ _=>true
 | v=>v.one
mutual
def RepX(w:World)(S:Nat->Prop):AV->Value->List Loc->Prop
 | .fresh t xs,v,ls=>∃l,ls=[l]/\v= .slice l.a xs.length l.cap/\RowRel w S l t xs .live
 | .agg cs,v,ls=>∃vs,v= .agg (cr vs)/\RepXs w S cs vs ls/\cs.all AV.oneX=true
 | .tup cs,v,ls=>∃vs,v= .tuple (cr vs)/\RepXs w S cs vs ls
 | x,v,ls=>ls=[]/\RepA w S g0 m0 x v
def RepXs(w:World)(S:Nat->Prop):List AV->List Value->List Loc->Prop
 | [],vs,ls=>vs=[]/\ls=[]
 | c::cs,vs,ls=>∃u us l1 l2,vs=u::us/\ls=l1++l2/\RepX w S c u l1/\RepXs w S cs us l2
end
structure Locs (B:Nat->Prop) (ls:List Loc):Prop where
 new:∀l,l∈ls->∀b,l.blk=some b->¬B b
 once:ls.Pairwise fun l l'=>∀b,l.blk=some b->l'.blk≠some b
def z4i(P:Program)(f:FuncId)(c:List AV->Option AV):Prop:=
 ∀(w:World) (S:Nat->Prop) (as:List AV) (vals:List Value) (r:AV),(∀b,S b->b<w.heap.size)->RepAs w S g0 m0 as vals->c as=some r->
  (∀w' (args:Array Value),(callFunc f args).run P w'= .ok (.enter f args) w')/\
  Calls P f vals.toArray w fun e w'=>∃v S' ls,e= .returned v/\Below w.heap.size w w'/\(∀b,S b->S' b)/\(∀b,S' b->S b\/(w.heap.size<=b/\b<w'.heap.size))/\RepX w' S' r v ls/\Locs (fun k=>k<w.heap.size) ls
section see
variable {w:World} {S S':Nat->Prop} {γ:Nat->Loc} {m:Nat->Option MO} {base:Nat->Prop} {lv:Bool} (hm:MemRel w S γ m base) (hS:∀b,S b->S' b) (hlv:lv=true->∀b,b<w.heap.size->S' b)
theorem zvb{f:AV->Option AV}(hf:∀v v' x,f v=some v'->RepA w S γ m v x->RepA w S' g0 m0 v' x/\(v.one=true->v'.one=true)):
  ∀(vs:List AV) (vs':List AV) (xs:List Value),mapO f vs=some vs'->RepAs w S γ m vs xs->RepAs w S' g0 m0 vs' xs/\(V0 vs=true->V0 vs'=true)
 | [],vs',xs,h,hr=>by
  simp only[mapO,aR.injEq]at h
  subst h
  exact⟨hr,fun h=>h⟩
 | v::vs,vs',xs,h,hr=>by
  obtain⟨u,us,rfl,h1,h2⟩:=hr
  simp only[mapO]at h
  split at h
  ·rename_i v' hv'
   split at h
   ·rename_i us' hus'
    cases h
    obtain⟨a1,a2⟩:=hf v v' u hv' h1
    obtain⟨b1,b2⟩:=zvb hf vs us' us hus' h2
    refine⟨⟨u,us,rfl,a1,b1⟩,fun h=> ?_⟩
    simp only[V0,br,ac]at h|-
    exact⟨a2 h.1,by simpa[V0] using b2 (by simpa[V0] using h.2)⟩
   ·cases h
  ·cases h
include hm hS hlv in
theorem zv7:∀(k:Nat) (v v':AV) (x:Value),seeV lv m k v=some v'->RepA w S γ m v x->RepA w S' g0 m0 v' x/\(v.one=true->v'.one=true)
 | 0,_,_,_,h,_=>by cases h
 | k+1,v,v',x,h,hr=>by
  have ih:=zvb (zv7 k)
  have mono:∀{t:Ty} {xs:List t.T} {x:Value},RepT w S (.list t) xs [x]->RepT w S' (.list t) xs [x]:=fun h=>RepT.mono (fun _ _=>rfl) hS _ _ _ h
  cases v<;>simp only[seeV]at h
  case undef=>cases h
  case fresh=>cases h
  case oel=>cases h
  case yld=>cases h
  case int=>cases h;exact⟨hr,fun h=>h⟩
  case bool=>cases h;exact⟨hr,fun h=>h⟩
  case str=>cases h;exact⟨hr,fun h=>h⟩
  case nils=>cases h;exact⟨hr,fun h=>h⟩
  case nilp=>cases h;exact⟨hr,fun h=>h⟩
  case nilf=>cases h;exact⟨hr,fun h=>h⟩
  case nili=>cases h;exact⟨hr,fun h=>h⟩
  case list=>cases h;exact⟨mono hr,fun h=>h⟩
  case clip=>cases h;exact⟨⟨hr.1,mono hr.2⟩,fun h=>h⟩
  case own n=>
   obtain⟨t0,xs0,s0,k1,k2⟩:=hr
   split at h
   ·rename_i t xs hn
    rw[k1]at hn;cases hn;cases h
    have hob:RowRel w S (γ n) _ _ .still:=hm.obj n _ k1
    refine⟨?_,fun _=>rfl⟩
    rw[k2]
    refine zx3 hob hS fun a ha=> ?_
    obtain⟨b,_,_,_,e1,_,_,_,_,_,e7⟩:=hob.row a ha
    subst e1;exact hS _ (e7 rfl)
   ·rename_i t xs hn
    rw[k1]at hn;cases hn
    rcases bif_some h with⟨hl,h⟩ | ⟨_,h⟩
    ·cases h
     have hob:RowRel w S (γ n) _ _ .live:=hm.obj n _ k1
     refine⟨?_,fun _=>rfl⟩
     rw[k2]
     refine zx3 hob hS fun a ha=> ?_
     obtain⟨b,_,_,_,e1,e2,_⟩:=hob.row a ha
     subst e1;exact hlv hl _ (zf5 e2)
    ·cases h
   ·cases h
  case ptr n off=>
   obtain⟨cs0,s0,b,k1,k2,k3⟩:=hr
   have fin:∀{cs cs':List AV} {s:Stat},m n=some (.box cs s)->(s= .live->S' b)->mapO (seeV lv m k) cs=some cs'->RepA w S' g0 m0 (.bx cs' off) x:=by
    intro cs cs' s hn hs hcs
    obtain⟨b',vs,el',h1,h2,h3,h4,h5,h6⟩:=hm.obj n _ hn
    rw[k2]at h1;cases h1
    obtain⟨i1,i2⟩:=ih cs cs' vs hcs h3
    refine⟨b,vs,k3, ?_,i1,i2 h4,fun j u hj=> ?_⟩
    ·by_cases e:s= .live
     ·exact hs e
     ·exact hS _ (h6 e)
    ·rw[bk,cell_of_row w b j _ _ _ h2];simpa using hj
   split at h
   ·rename_i cs hn
    split at h
    ·rename_i cs' hcs
     cases h
     exact⟨fin hn (fun e=>by cases e) hcs,fun _=>rfl⟩
    ·cases h
   ·rename_i cs hn
    rcases bif_some h with⟨hl,h⟩ | ⟨_,h⟩
    ·split at h
     ·rename_i cs' hcs
      cases h
      refine⟨fin hn (fun _=> ?_) hcs,fun _=>rfl⟩
      obtain⟨b',vs,el',h1,h2,_⟩:=hm.obj n _ hn
      rw[k2]at h1;cases h1
      exact hlv hl _ (zf5 h2)
     ·cases h
    ·cases h
   ·cases h
  case bx cs off=>
   obtain⟨b,vs,h1,h2,h3,h4,h5⟩:=hr
   split at h
   ·rename_i cs' hcs
    cases h
    obtain⟨i1,i2⟩:=ih cs cs' vs hcs h3
    exact⟨⟨b,vs,h1,hS _ h2,i1,i2 h4,h5⟩,fun _=>rfl⟩
   ·cases h
  case ro t y off=>
   cases h
   obtain⟨b,o,cs,h1,h2,h3,h4⟩:=hr
   exact⟨⟨b,o,cs,h1,hS _ h2,RepT.mono (fun _ _=>rfl) hS _ _ _ h3,h4⟩,fun h=>h⟩
  case clo f caps=>
   obtain⟨vs,h1,h2⟩:=hr
   split at h
   ·rename_i cs' hcs
    cases h
    exact⟨⟨vs,h1,(ih caps cs' vs hcs h2).1⟩,fun _=>rfl⟩
   ·cases h
  case iface t y=>
   obtain⟨u,h1,h2⟩:=hr
   split at h
   ·rename_i y' hy
    cases h
    exact⟨⟨u,h1,(zv7 k y y' u hy h2).1⟩,fun _=>rfl⟩
   ·cases h
  case agg cs=>
   obtain⟨vs,h1,h2,h3⟩:=hr
   split at h
   ·rename_i cs' hcs
    cases h
    obtain⟨i1,i2⟩:=ih cs cs' vs hcs h2
    exact⟨⟨vs,h1,i1,i2 h3⟩,fun h=>by cases h⟩
   ·cases h
  case tup cs=>
   obtain⟨vs,h1,h2⟩:=hr
   split at h
   ·rename_i cs' hcs
    cases h
    exact⟨⟨vs,h1,(ih cs cs' vs hcs h2).1⟩,fun h=>by cases h⟩
   ·cases h
end see
theorem zs2{w:World}{S S':Nat->Prop}:∀(t:Ty) (x:t.T) (cs:List Value),y5v t=true->RepT w S t x cs->RepT w S' t x cs
 | .int _,_,_,_,h=>h
 | .bool,_,_,_,h=>h
 | .str,_,_,_,h=>h
 | .unit,_,_,_,h=>h
 | .pair a b,x,cs,hn,h=>by
  simp only[y5v,ac]at hn
  obtain⟨c,d,rfl,h1,h2⟩:=h
  exact⟨c,d,rfl,zs2 a _ _ hn.1 h1,zs2 b _ _ hn.2 h2⟩
 | .list _,_,_,hn,_=>by cases hn
mutual
theorem ybg{w:World}{S S':Nat->Prop}(hS:∀b,S' b->S b):∀(v:AV) (x:Value) (ls:List Loc),scal v=true->RepX w S v x ls->RepX w S' v x ls
 | .int _ _,_,_,_,h=>h
 | .bool _,_,_,_,h=>h
 | .str _,_,_,_,h=>h
 | .nils,_,_,_,h=>h
 | .nilp,_,_,_,h=>h
 | .nilf,_,_,_,h=>h
 | .nili,_,_,_,h=>h
 | .fresh t xs,_,_,hs,h=>by
  obtain⟨l,rfl,rfl,hr⟩:=h
  refine⟨l,rfl,rfl,hr.len,hr.cap,hr.nil,fun a ha=> ?_⟩
  obtain⟨b,arr,el,fz,h1,h2,h3,h4,h5,h6,h7⟩:=hr.row a ha
  refine⟨b,arr,el,fz,h1,h2,h3,h4,fun i y hy=> ?_,fun e hb=>h6 e (hS b hb),fun e=>by cases e⟩
  obtain⟨c,k1,k2⟩:=h5 i y hy
  exact⟨c,zs2 t y c hs k1,k2⟩
 | .agg cs,_,ls,hs,h=>by
  obtain⟨vs,h1,h2,h3⟩:=h
  exact⟨vs,h1,zxg hS cs vs ls hs h2,h3⟩
 | .tup cs,_,ls,hs,h=>by
  obtain⟨vs,h1,h2⟩:=h
  exact⟨vs,h1,zxg hS cs vs ls hs h2⟩
 | .undef,_,_,hs,_=>by cases hs
 | .list _ _,_,_,hs,_=>by cases hs
 | .clip _ _,_,_,hs,_=>by cases hs
 | .own _,_,_,hs,_=>by cases hs
 | .ptr _ _,_,_,hs,_=>by cases hs
 | .oel _ _ _,_,_,hs,_=>by cases hs
 | .bx _ _,_,_,hs,_=>by cases hs
 | .ro _ _ _,_,_,hs,_=>by cases hs
 | .clo _ _,_,_,hs,_=>by cases hs
 | .iface _ _,_,_,hs,_=>by cases hs
 | .yld _,_,_,hs,_=>by cases hs
theorem zxg{w:World}{S S':Nat->Prop}(hS:∀b,S' b->S b):∀(vs:List AV) (xs:List Value) (ls:List Loc),ydv vs=true->RepXs w S vs xs ls->RepXs w S' vs xs ls
 | [],_,_,_,h=>h
 | v::vs,xs,ls,hs,h=>by
  simp only[ydv,ac]at hs
  obtain⟨u,us,l1,l2,rfl,rfl,h1,h2⟩:=h
  exact⟨u,us,l1,l2,rfl,rfl,ybg hS v u l1 hs.1 h1,zxg hS vs us l2 hs.2 h2⟩
end
theorem MemRel.addHere{w:World}{S:Nat->Prop}{γ:Nat->Loc}{m:Nat->Option MO}{base:Nat->Prop}{d:Nat}{ob:MO}{l:Loc}(h:MemRel w S γ m base)(hfree:∀b,l.blk=some b->¬base b/\∀k q,m k=some q->q.live=true->(γ k).blk≠some b)
  (hd:m d=none) (ho:ObjRel w S (gupd γ d l) (mupd m d ob) d ob):MemRel w S (gupd γ d l) (mupd m d ob) base:=by
 refine⟨fun k q hq=> ?_,h.low, ?_, ?_⟩
 ·by_cases e:k=d
  ·subst e;rw[W6]at hq;cases hq;exact ho
  ·rw[X1 _ _ e]at hq
   exact ObjRel.grow (h.obj k q hq) h.low (Below.refl _ _) (Keeps.new hd) (z2y _ _ e)
 ·intro k k' q q' c hq hq' hlq hlq' hne hc hc'
  by_cases e:k=d
  ·subst e
   have e':k'≠k:=fun e=>hne e.symm
   rw[U6]at hc;rw[X1 _ _ e']at hq';rw[z2y _ _ e']at hc'
   exact(hfree c hc).2 k' q' hq' hlq' hc'
  ·by_cases e':k'=d
   ·subst e'
    rw[U6]at hc';rw[X1 _ _ e]at hq;rw[z2y _ _ e]at hc
    exact(hfree c hc').2 k q hq hlq hc
   ·rw[X1 _ _ e]at hq;rw[z2y _ _ e]at hc;rw[X1 _ _ e']at hq';rw[z2y _ _ e']at hc'
    exact h.apart k k' q q' c hq hq' hlq hlq' hne hc hc'
 ·intro k q c hq hlq hc
  by_cases e:k=d
  ·subst e;rw[U6]at hc;exact(hfree c hc).1
  ·rw[X1 _ _ e]at hq;rw[z2y _ _ e]at hc;exact h.high k q c hq hlq hc
def Free(base:Nat->Prop)(γ:Nat->Loc)(m:Nat->Option MO)(ls:List Loc):Prop:=
 (∀l,l∈ls->∀b,l.blk=some b->¬base b/\∀k q,m k=some q->q.live=true->(γ k).blk≠some b)/\ls.Pairwise fun l l'=>∀b,l.blk=some b->l'.blk≠some b
structure Took (w:World) (S:Nat->Prop) (base:Nat->Prop) (γ:Nat->Loc) (m:Nat->Option MO) (ls:List Loc) (γ':Nat->Loc) (m':Nat->Option MO):Prop where
 mem:MemRel w S γ' m' base
 keeps:Keeps m γ m' γ'
 live:∀k q b,m' k=some q->q.live=true->(γ' k).blk=some b->(∃q0,m k=some q0/\q0.live=true/\(γ k).blk=some b)\/∃l,l∈ls/\l.blk=some b
theorem ym4{d k k':Nat}(h:nm d k=nm d k'):k=k':=by unfold nm at h;omega
theorem zu8(m:Nat->Option MO)(d:Nat):∀(os os':List MO) (k:Nat),z02 m d k (os++os')=z02 (z02 m d k os) d (k+os.length) os'
 | [],os',k=>by simp[z02]
 | o::os,os',k=>by
  simp only[aY,z02,af]
  rw[zu8 (mupd m (nm d k) o) d os os' (k+1)]
  congr 1;omega
theorem zyn(d:Nat):∀(os:List MO) (m:Nat->Option MO) (k n:Nat),(∀i,k<=i->n≠nm d i)->z02 m d k os n=m n
 | [],_,_,_,_=>rfl
 | o::os,m,k,n,h=>by
  simp only[z02]
  rw[zyn d os _ (k+1) n (fun i hi=>h i (by omega)),X1 _ _ (h k (al _))]
theorem y6v(d:Nat):∀(os:List MO) (m:Nat->Option MO) (k i:Nat),k+os.length<=i->z02 m d k os (nm d i)=m (nm d i)
 | [],_,_,_,_=>rfl
 | o::os,m,k,i,h=>by
  simp only[af]at h
  simp only[z02]
  rw[y6v d os _ (k+1) i (by omega),X1 _ _ (fun e=>by have:=ym4 e;omega)]
theorem zuc(m:Nat->Option MO)(d:Nat):∀(os os':List MO) (k:Nat),z43 m d k (os++os')=true->z43 m d k os=true/\z43 m d (k+os.length) os'=true
 | [],os',k,h=>⟨rfl,by simpa using h⟩
 | o::os,os',k,h=>by
  simp only[aY,z43,ac]at h
  obtain⟨a,b⟩:=zuc m d os os' (k+1) h.2
  refine⟨by simp only[z43,ac];exact⟨h.1,a⟩, ?_⟩
  simp only[af]
  have:k+(os.length+1)=k+1+os.length:=by omega
  rw[this];exact b
theorem ziu(d:Nat):∀(os:List MO) (m m':Nat->Option MO) (k:Nat),(∀i,k<=i->m' (nm d i)=m (nm d i))->z43 m d k os=true->z43 m' d k os=true
 | [],_,_,_,_,_=>rfl
 | o::os,m,m',k,he,h=>by
  simp only[z43,ac]at h|-
  exact⟨by rw[he k (al _)];exact h.1,ziu d os m m' (k+1) (fun i hi=>he i (by omega)) h.2⟩
theorem Took.refl{w:World}{S:Nat->Prop}{base:Nat->Prop}{γ:Nat->Loc}{m:Nat->Option MO}(h:MemRel w S γ m base):Took w S base γ m [] γ m:=
 ⟨h,Keeps.refl _ _,fun _ q _ hq hl hb=> .inl ⟨q,hq,hl,hb⟩⟩
theorem u9{w:World}{S:Nat->Prop}{γ:Nat->Loc}{m:Nat->Option MO}{v:AV}{x:Value}(h:RepA w S g0 m0 v x):RepA w S γ m v x:=
 RepA.mono (fun _ _=>rfl) (fun _ h=>h) (fun n o h=>by cases h) v x h
mutual
theorem ycj{w:World}{S:Nat->Prop}{base:Nat->Prop}{d:Nat}:∀(v:AV) (x:Value) (ls:List Loc) (k:Nat) (γ:Nat->Loc) (m:Nat->Option MO),MemRel w S γ m base->RepX w S v x ls->Free base γ m ls->z43 m d k (impV d k v).2=true->
  ∃γ',Took w S base γ m ls γ' (z02 m d k (impV d k v).2)/\RepA w S γ' (z02 m d k (impV d k v).2) (impV d k v).1 x/\(v.oneX=true->(impV d k v).1.one=true)
 | .fresh t xs,x,ls,k,γ,m,hm,hx,hf,hfr=>by
  obtain⟨l,rfl,rfl,hrow⟩:=hx
  have hd:m (nm d k)=none:=by
   simp only[impV,z43,bV]at hfr
   split at hfr
   ·assumption
   ·cases hfr
  refine⟨gupd γ (nm d k) l,⟨?_,Keeps.new hd, ?_⟩,⟨t,xs, .live,W6 _ _ _,by rw[U6]⟩,fun _=>rfl⟩
  ·refine hm.addHere (fun b hb=>hf.1 l (by simp) b hb) hd ?_
   show RowRel w S (gupd γ (nm d k) l (nm d k)) t xs .live
   rw[U6];exact hrow
  ·intro k' q b hq hl hb
   by_cases e:k'=nm d k
   ·subst e;rw[U6]at hb;exact .inr ⟨l,by simp,hb⟩
   ·have hq:mupd m (nm d k) (.sl t xs .live) k'=some q:=hq
    rw[X1 _ _ e]at hq;rw[z2y _ _ e]at hb;exact .inl ⟨q,hq,hl,hb⟩
 | .agg cs,x,ls,k,γ,m,hm,hx,hf,hfr=>by
  obtain⟨vs,rfl,h2,h3⟩:=hx
  obtain⟨γ',a,b,c⟩:=y48 cs vs ls k γ m hm h2 hf hfr
  exact⟨γ',a,⟨vs,rfl,b,c h3⟩,fun h=>by cases h⟩
 | .tup cs,x,ls,k,γ,m,hm,hx,hf,hfr=>by
  obtain⟨vs,rfl,h2⟩:=hx
  obtain⟨γ',a,b,c⟩:=y48 cs vs ls k γ m hm h2 hf hfr
  exact⟨γ',a,⟨vs,rfl,b⟩,fun h=>by cases h⟩
 | .undef,x,ls,k,γ,m,hm,hx,_,_=>by obtain⟨rfl,hx⟩:=hx;exact⟨γ, .refl hm,u9 hx,fun h=>h⟩
 | .int _ _,x,ls,k,γ,m,hm,hx,_,_=>by obtain⟨rfl,hx⟩:=hx;exact⟨γ, .refl hm,u9 hx,fun h=>h⟩
 | .bool _,x,ls,k,γ,m,hm,hx,_,_=>by obtain⟨rfl,hx⟩:=hx;exact⟨γ, .refl hm,u9 hx,fun h=>h⟩
 | .str _,x,ls,k,γ,m,hm,hx,_,_=>by obtain⟨rfl,hx⟩:=hx;exact⟨γ, .refl hm,u9 hx,fun h=>h⟩
 | .nils,x,ls,k,γ,m,hm,hx,_,_=>by obtain⟨rfl,hx⟩:=hx;exact⟨γ, .refl hm,u9 hx,fun h=>h⟩
 | .nilp,x,ls,k,γ,m,hm,hx,_,_=>by obtain⟨rfl,hx⟩:=hx;exact⟨γ, .refl hm,u9 hx,fun h=>h⟩
 | .nilf,x,ls,k,γ,m,hm,hx,_,_=>by obtain⟨rfl,hx⟩:=hx;exact⟨γ, .refl hm,u9 hx,fun h=>h⟩
 | .nili,x,ls,k,γ,m,hm,hx,_,_=>by obtain⟨rfl,hx⟩:=hx;exact⟨γ, .refl hm,u9 hx,fun h=>h⟩
 | .list t xs,x,ls,k,γ,m,hm,hx,_,_=>by obtain⟨rfl,hx⟩:=hx;exact⟨γ, .refl hm,u9 hx,fun h=>h⟩
 | .clip t xs,x,ls,k,γ,m,hm,hx,_,_=>by obtain⟨rfl,hx⟩:=hx;exact⟨γ, .refl hm,u9 hx,fun h=>h⟩
 | .own _,x,ls,k,γ,m,hm,hx,_,_=>by obtain⟨rfl,hx⟩:=hx;exact⟨γ, .refl hm,u9 hx,fun h=>h⟩
 | .ptr _ _,x,ls,k,γ,m,hm,hx,_,_=>by obtain⟨rfl,hx⟩:=hx;exact⟨γ, .refl hm,u9 hx,fun h=>h⟩
 | .oel _ _ _,x,ls,k,γ,m,hm,hx,_,_=>by obtain⟨rfl,hx⟩:=hx;exact⟨γ, .refl hm,u9 hx,fun h=>h⟩
 | .bx _ _,x,ls,k,γ,m,hm,hx,_,_=>by obtain⟨rfl,hx⟩:=hx;exact⟨γ, .refl hm,u9 hx,fun h=>h⟩
 | .ro _ _ _,x,ls,k,γ,m,hm,hx,_,_=>by obtain⟨rfl,hx⟩:=hx;exact⟨γ, .refl hm,u9 hx,fun h=>h⟩
 | .clo _ _,x,ls,k,γ,m,hm,hx,_,_=>by obtain⟨rfl,hx⟩:=hx;exact⟨γ, .refl hm,u9 hx,fun h=>h⟩
 | .iface _ _,x,ls,k,γ,m,hm,hx,_,_=>by obtain⟨rfl,hx⟩:=hx;exact⟨γ, .refl hm,u9 hx,fun h=>h⟩
theorem y48{w:World}{S:Nat->Prop}{base:Nat->Prop}{d:Nat}:∀(vs:List AV) (xs:List Value) (ls:List Loc) (k:Nat) (γ:Nat->Loc) (m:Nat->Option MO),MemRel w S γ m base->RepXs w S vs xs ls->Free base γ m ls->z43 m d k (impL d k vs).2=true->
  ∃γ',Took w S base γ m ls γ' (z02 m d k (impL d k vs).2)/\RepAs w S γ' (z02 m d k (impL d k vs).2) (impL d k vs).1 xs/\(vs.all AV.oneX=true->V0 (impL d k vs).1=true)
 | [],xs,ls,k,γ,m,hm,hx,_,_=>by obtain⟨rfl,rfl⟩:=hx;exact⟨γ, .refl hm,rfl,fun _=>rfl⟩
 | v::vs,xs,ls,k,γ,m,hm,hx,hf,hfr=>by
  obtain⟨u,us,l1,l2,rfl,rfl,h1,h2⟩:=hx
  simp only[impL]at hfr|-
  obtain⟨fr1,fr2⟩:=zuc m d _ _ k hfr
  obtain⟨hf1,hf2⟩:=hf
  obtain⟨p1,p2,p3⟩:=List.pairwise_append.1 hf2
  obtain⟨γ1,t1,r1,o1⟩:=ycj v u l1 k γ m hm h1 ⟨fun l hl=>hf1 l (by simp[hl]),p1⟩ fr1
  have fr2':z43 (z02 m d k (impV d k v).2) d (k+(impV d k v).2.length) (impL d (k+(impV d k v).2.length) vs).2=true:=by
   refine ziu d _ m _ _ (fun i hi=> ?_) fr2
   exact y6v d (impV d k v).2 m k i hi
  have free2:Free base γ1 (z02 m d k (impV d k v).2) l2:=by
   refine⟨fun l hl b hb=>⟨(hf1 l (by simp[hl]) b hb).1,fun k' q hq hlq hbq=> ?_⟩,p2⟩
   rcases t1.live k' q b hq hlq hbq with⟨q0,z1,z2,z3⟩ | ⟨l',z1,z2⟩
   ·exact(hf1 l (by simp[hl]) b hb).2 k' q0 z1 z2 z3
   ·exact p3 l' z1 l hl b z2 hb
  obtain⟨γ2,t2,r2,o2⟩:=y48 vs us l2 (k+(impV d k v).2.length) γ1 _ t1.mem h2 free2 fr2'
  rw[zu8]
  refine⟨γ2,⟨t2.mem,t1.keeps.trans t2.keeps,fun k' q b hq hlq hbq=> ?_⟩,⟨u,us,rfl,RepA.mono (fun _ _=>rfl) (fun _ h=>h) t2.keeps _ _ r1,r2⟩,fun h=> ?_⟩
  ·rcases t2.live k' q b hq hlq hbq with⟨q0,z1,z2,z3⟩ | ⟨l',z1,z2⟩
   ·rcases t1.live k' q0 b z1 z2 z3 with h | ⟨l',y1,y2⟩
    ·exact .inl h
    ·exact .inr ⟨l',by simp[y1],y2⟩
   ·exact .inr ⟨l',by simp[z1],z2⟩
  ·simp only[br,ac]at h
   simp only[V0,br,ac]
   exact⟨o1 h.1,by simpa[V0] using o2 h.2⟩
end
variable {R:Type}
theorem yqm{P:Program}{E:Env}(hE:∀t ti,E.ty t=some ti->TIok P t ti){w:World}{S:Nat->Prop}{γ:Nat->Loc}{m:Nat->Option MO}{base:Nat->Prop}(hm:MemRel w S γ m base){ev:Operand->AV}{el:Operand->Value}(hev:∀x,RepA w S γ m (ev x) (el x))
  {o:Oper} {T:TypeId} {x y:Operand} (ho:o.op= .slice T x none (some y) none) {d:Nat} {K:AV->(Nat->Option MO)->Option R} {r:R} (h:preA E m d T (ev x) (ev y) K=some r):
  ∃v m',K v m'=some r/\WOk (fun n=>n=d) base w S γ m ((execOp el o).run P w) (some v) m':=by
 unfold preA at h
 have hx:=hev x
 split at h
 ·cases h
 ·rename_i e ei ty he
  obtain⟨e1,e2,e3⟩:=z6i hE he
  split at h
  ·cases h
  ·rename_i hd
   split at h
   ·rename_i n hea
    rw[hea]at hx
    split at h
    ·rename_i t' xs' hmn
     split at h
     ·rename_i xs hxs
      rw[zaj hxs]at hmn
      split at h
      ·rename_i kq q hq
       obtain⟨hb,h⟩:=W0 h
       simp only[ac,decide_eq_true_eq,cz]at hb
       obtain⟨b0,b1,b2⟩:=hb
       obtain⟨t0,xs0,s0,k1,k2⟩:=hx
       rw[hmn]at k1;cases k1
       have hob:RowRel w S (γ n) ty xs .live:=hm.obj n _ hmn
       have hnd:d≠n:=fun e=>by rw[e,hmn]at hd;cases hd
       have hkill:=hm.kill hmn
       have hkk:Keeps m γ (mupd m n (.sl ty xs .dead)) γ:=G2 hmn rfl
       have hd':mupd m n (.sl ty xs .dead) d=none:=by rw[X1 _ _ hnd];exact hd
       have hlen:(xs.take q.toNat).length=q.toNat:=by rw[aQ];omega
       have hrun:=zeb (P:=P) (w:=w) hev (isS:=true) (len:=xs.length) (cap:=(γ n).cap) (lo:=none) (hi:=some y) (l:=0) (h:=q) rfl (by simp[zkk,hq]) (Int.le_refl 0) b1 b2 hob.len
       have hs:=G1 hE w e2
       have hee:(underlying T).run P w= .ok (.slice e) w:=run_underlying e1 w
       have hval:(if(γ n).cap=0 then(γ n).a else(γ n).a.map (·.add (0*ty.size)))=(γ n).a:=by
        split
        ·rfl
        ·cases ha:(γ n).a with
         | none=>rfl
         | some a=>
          obtain⟨b,arr,el',fz,g1,_⟩:=hob.row a ha
          subst g1
          simp[Addr.add]
       have hex:(execOp el o).run P w= .ok (.value (.slice (γ n).a (xs.take q.toNat).length (γ n).cap)) w:=by
        have hv:el x= .slice (γ n).a xs.length (γ n).cap:=k2
        rw[hlen]
        simp only[di,aT]at hrun
        have hval':=hval
        simp only[Nat.zero_mul]at hval'
        simp[execOp,ho,Instr.sliceAt,Instr.slice,hv,hee,hrun,hs,hval']
       refine⟨_,_,h,w,gupd γ d (γ n),_,hex,Bel.refl _ _,yct hmn zxb, ?_,hkk.trans (Keeps.new hd'),fun _ _=>rfl,_,rfl, ?_⟩
       ·refine hkill.addHere (fun b hb=>⟨hm.high n _ b hmn rfl hb,fun k q' hk hl=> ?_⟩) hd' ?_
        ·by_cases e:k=n
         ·subst e;rw[W6]at hk;cases hk;cases hl
         ·rw[X1 _ _ e]at hk
          exact fun hb'=>hm.apart k n q' _ b hk hmn hl rfl e hb' hb
        ·show RowRel w S (gupd γ d (γ n) d) ty (xs.take q.toNat) .live
         rw[U6]
         refine⟨by rw[hlen];have:=hob.len;omega,hob.cap,hob.nil,fun a ha=> ?_⟩
         obtain⟨b,arr,el',fz,g1,g2,g3,g4,g5,g6,g7⟩:=hob.row a ha
         refine⟨b,arr,el',fz,g1,g2,g3,g4,fun i z hz=>g5 i z ?_,g6,g7⟩
         simp only[getq,bY]at hz|-
         split at hz
         ·exact hz
         ·cases hz
       ·exact⟨ty,_, .live,W6 _ _ _,by rw[U6]⟩
      ·cases h
     ·cases h
    ·cases h
   ·cases h
variable {R:Type}
section cut
variable {w:World} {S:Nat->Prop} {γ:Nat->Loc} {m:Nat->Option MO} {rl:List (Nat×Option Nat)} {m':Nat->Option MO} {γ':Nat->Loc}
structure Ren (γ:Nat->Loc) (m:Nat->Option MO) (rl:List (Nat×Option Nat)) (m':Nat->Option MO) (γ':Nat->Loc):Prop where
 old:∀n d,z00 n rl=some (some d)->∃o o',m d=some o/\m' n=some o'/\o'.kind=o.kind/\γ' n=γ d
 new:∀n,z00 n rl=some none->∃t:Ty,m' n=some (.sl t [] .live)/\γ' n=⟨none,0⟩
theorem y31{t' t:Ty}{x:t'.T}{y:t.T}(h:yja t' t x=some y):∃e:t'=t,e▸x=y:=by
 unfold yja at h
 split at h
 ·rename_i e _
  cases h
  exact⟨e,rfl⟩
 ·cases h
theorem z05{α:Type}{o:Option (α×List AV)}{x:α}(h:zak o=some x):o=some (x,[]):=by
 unfold zak at h
 split at h
 ·cases h;rfl
 ·cases h
theorem RepAs.one{v:AV}{x:Value}(h:RepA w S γ m v x):RepAs w S γ m [v] [x]:=⟨x,[],rfl,h,rfl⟩
theorem RepAs.one'{v:AV}{xs:List Value}(h:RepAs w S γ m [v] xs):∃x,xs=[x]/\RepA w S γ m v x:=by
 obtain⟨u,us,rfl,h1,h2⟩:=h
 exact⟨u,by rw[show us=[]from h2],h1⟩
def Found(w:World)(S:Nat->Prop)(γ:Nat->Loc)(m:Nat->Option MO)(m':Nat->Option MO)(γ':Nat->Loc)(s:Sh)(x:s.T)(vs r:List AV)(xs:List Value):Prop:=
 ∃xs1 xs2 vs1,xs=xs1++xs2/\vs=vs1++r/\RepAs w S γ' m' (mkL s x) xs1/\RepAs w S γ m r xs2/\(V0 vs1=true->V0 (mkL s x)=true)
theorem Found.one{s:Sh}{x:s.T}{v v':AV}{r:List AV}{xs:List Value}(he:mkL s x=[v'])(h:RepAs w S γ m (v::r) xs)(hv:∀u,RepA w S γ m v u->RepA w S γ' m' v' u)(ho:v.one=true->v'.one=true):Found w S γ m m' γ' s x (v::r) r xs:=by
 obtain⟨u,us,rfl,h1,h2⟩:=h
 refine⟨[u],us,[v],rfl,rfl,by rw[he];exact .one (hv u h1),h2,fun h=> ?_⟩
 rw[he]
 simp only[V0,br,List.all_nil,bV]at h|-
 exact ho h
theorem zog{base:Nat->Prop}(hm:MemRel w S γ m base)(hr:Ren γ m rl m' γ')(s:Sh):∀(vs r:List AV) (x:s.T) (xs:List Value),getP m rl s vs=some (x,r)->RepAs w S γ m vs xs->Found w S γ m m' γ' s x vs r xs:=by
 induction s with
 | nil=>
  intro vs r x xs h hv
  simp only[getP,aR.injEq,Prod.mk.injEq]at h
  obtain⟨_,rfl⟩:=h
  exact⟨[],xs,[],rfl,rfl,rfl,hv,fun _=>rfl⟩
 | cons a b iha ihb=>
  intro vs r x xs h hv
  simp only[getP]at h
  split at h
  ·rename_i x1 r1 h1
   split at h
   ·rename_i y1 r2 h2
    cases h
    obtain⟨xs1,xs2,vs1,rfl,rfl,k1,k2,k3⟩:=iha vs r1 x1 xs h1 hv
    obtain⟨ys1,ys2,us1,rfl,rfl,l1,l2,l3⟩:=ihb r1 r y1 xs2 h2 k2
    refine⟨xs1++ys1,ys2,vs1++us1,by simp,by simp,k1.append l1,l2,fun h=> ?_⟩
    rw[z1b,ac]at h
    show V0 (mkL a x1++mkL b y1)=true
    rw[z1b,ac]
    exact⟨k3 h.1,l3 h.2⟩
   ·cases h
  ·cases h
 | int k=>
  intro vs r x xs h hv
  cases vs with
  | nil=>simp[getP]at h
  | cons v vs=>
   cases v<;>simp only[getP]at h<;>try (cases h;done)
   split at h
   ·rename_i e _
    obtain⟨e⟩:=e
    subst e
    cases h
    exact .one rfl hv (fun _ h=>h) fun h=>h
   ·cases h
 | bool=>
  intro vs r x xs h hv
  cases vs with
  | nil=>simp[getP]at h
  | cons v vs=>
   cases v<;>simp only[getP]at h<;>try (cases h;done)
   cases h
   exact .one rfl hv (fun _ h=>h) fun h=>h
 | str=>
  intro vs r x xs h hv
  cases vs with
  | nil=>simp[getP]at h
  | cons v vs=>
   cases v<;>simp only[getP]at h<;>try (cases h;done)
   cases h
   exact .one rfl hv (fun _ h=>h) fun h=>h
 | list t=>
  intro vs r x xs h hv
  cases vs with
  | nil=>simp[getP]at h
  | cons v vs=>
   simp only[getP]at h
   split at h
   ·rename_i ys hys
    cases h
    exact .one rfl hv (fun u hu=>zm3 hm hys hu) fun _=>rfl
   ·cases h
 | val t=>
  intro vs r x xs h hv
  cases vs with
  | nil=>simp[getP]at h
  | cons v vs=>
   cases v<;>simp only[getP]at h<;>try (cases h;done)
   rename_i cs
   split at h
   ·rename_i y hy
    cases h
    refine .one rfl hv (fun u hu=> ?_) fun h=>h
    obtain⟨us,h1,h2,h3⟩:=hu
    exact⟨us,h1,(zqj hm hy h2).enc,z5d _ _⟩
   ·cases h
 | ro t off=>
  intro vs r x xs h hv
  cases vs with
  | nil=>simp[getP]at h
  | cons v vs=>
   cases v<;>simp only[getP]at h<;>try (cases h;done)
   rcases bif_some h with⟨e,h⟩ | ⟨_,h⟩
   ·split at h
    ·rename_i y hy
     cases h
     obtain⟨e',rfl⟩:=y31 hy
     subst e'
     have:=ah e
     subst this
     exact .one rfl hv (fun _ h=>h) fun h=>h
    ·cases h
   ·cases h
 | own n=>
  intro vs r x xs h hv
  cases vs with
  | nil=>simp[getP]at h
  | cons v vs=>
   cases v<;>simp only[getP]at h<;>try (cases h;done)
   ·split at h
    ·rename_i hl
     cases h
     refine .one rfl hv (fun u hu=> ?_) fun _=>rfl
     obtain⟨t,h1,h2⟩:=hr.new n hl
     simp only[RepA]at hu
     exact⟨t,[], .live,h1,by rw[hu,h2];rfl⟩
    ·cases h
   ·rename_i d
    split at h
    ·rename_i d' hl
     rcases bif_some h with⟨e,h⟩ | ⟨_,h⟩
     ·cases h
      have:=ah e
      subst this
      refine .one rfl hv (fun u hu=> ?_) fun _=>rfl
      obtain⟨t,ys,s,h1,h2⟩:=hu
      obtain⟨o,o',k1,k2,k3,k4⟩:=hr.old n d hl
      rw[h1]at k1;cases k1
      obtain⟨t',xs',s',rfl,j1,j2⟩:=zx8 k3
      exact⟨t',xs',s',k2,by rw[h2,k4,j2]⟩
     ·cases h
    ·cases h
 | ptr n off=>
  intro vs r x xs h hv
  cases vs with
  | nil=>simp[getP]at h
  | cons v vs=>
   cases v<;>simp only[getP]at h<;>try (cases h;done)
   rename_i d off'
   split at h
   ·rename_i d' hl
    rcases bif_some h with⟨e,h⟩ | ⟨_,h⟩
    ·cases h
     simp only[ac]at e
     have e1:=ah e.1
     have e2:=ah e.2
     subst e1;subst e2
     refine .one rfl hv (fun u hu=> ?_) fun _=>rfl
     obtain⟨cs,s,b,h1,h2,h3⟩:=hu
     obtain⟨o,o',k1,k2,k3,k4⟩:=hr.old n d hl
     rw[h1]at k1;cases k1
     obtain⟨cs',s',rfl⟩:=y46 k3
     exact⟨cs',s',b,k2,by rw[k4];exact h2,h3⟩
    ·cases h
   ·cases h
 | yld n=>
  intro vs r x xs h hv
  cases vs with
  | nil=>simp[getP]at h
  | cons v vs=>
   cases v<;>simp only[getP]at h<;>try (cases h;done)
   rename_i d
   split at h
   ·rename_i d' hl
    rcases bif_some h with⟨e,h⟩ | ⟨_,h⟩
    ·cases h
     have e1:=ah e
     subst e1
     refine .one rfl hv (fun u hu=> ?_) fun _=>rfl
     obtain⟨id,cs,e,l,h1,h2,h3⟩:=hu
     obtain⟨o,o',k1,k2,k3,k4⟩:=hr.old n d hl
     rw[h1]at k1;cases k1
     obtain⟨cs',e',rfl⟩:=y45 k3
     exact⟨id,cs',e',l,k2,by rw[k4];exact h2,h3⟩
    ·cases h
   ·cases h
 | nils=>
  intro vs r x xs h hv
  cases vs with
  | nil=>simp[getP]at h
  | cons v vs=>
   cases v<;>simp only[getP]at h<;>try (cases h;done)
   cases h
   exact .one rfl hv (fun _ h=>h) fun h=>h
 | nilp=>
  intro vs r x xs h hv
  cases vs with
  | nil=>simp[getP]at h
  | cons v vs=>
   cases v<;>simp only[getP]at h<;>try (cases h;done)
   cases h
   exact .one rfl hv (fun _ h=>h) fun h=>h
 | nili=>
  intro vs r x xs h hv
  cases vs with
  | nil=>simp[getP]at h
  | cons v vs=>
   cases v<;>simp only[getP]at h<;>try (cases h;done)
   cases h
   exact .one rfl hv (fun _ h=>h) fun h=>h
 | nilf=>
  intro vs r x xs h hv
  cases vs with
  | nil=>simp[getP]at h
  | cons v vs=>
   cases v<;>simp only[getP]at h<;>try (cases h;done)
   cases h
   exact .one rfl hv (fun _ h=>h) fun h=>h
 | agg l ih=>
  intro vs r x xs h hv
  cases vs with
  | nil=>simp[getP]at h
  | cons v vs=>
   cases v<;>simp only[getP]at h<;>try (cases h;done)
   rename_i cs
   split at h
   ·rename_i y hy
    cases h
    refine .one rfl hv (fun u hu=> ?_) fun h=>h
    obtain⟨us,h1,h2,h3⟩:=hu
    obtain⟨xs1,xs2,vs1,rfl,e,k1,k2,k3⟩:=ih cs [] x us (z05 hy) h2
    simp only[ai]at e;subst e
    rw[show xs2=[]from k2,ai]at h1
    exact⟨xs1,h1,k1,k3 h3⟩
   ·cases h
 | tup l ih=>
  intro vs r x xs h hv
  cases vs with
  | nil=>simp[getP]at h
  | cons v vs=>
   cases v<;>simp only[getP]at h<;>try (cases h;done)
   rename_i cs
   split at h
   ·rename_i y hy
    cases h
    refine .one rfl hv (fun u hu=> ?_) fun h=>(by cases h)
    obtain⟨us,h1,h2⟩:=hu
    obtain⟨xs1,xs2,vs1,rfl,e,k1,k2,k3⟩:=ih cs [] x us (z05 hy) h2
    simp only[ai]at e;subst e
    rw[show xs2=[]from k2,ai]at h1
    exact⟨xs1,h1,k1⟩
   ·cases h
 | clo f l ih=>
  intro vs r x xs h hv
  cases vs with
  | nil=>simp[getP]at h
  | cons v vs=>
   cases v<;>simp only[getP]at h<;>try (cases h;done)
   rename_i f' cs
   rcases bif_some h with⟨e,h⟩ | ⟨_,h⟩
   ·have:=ah e
    subst this
    split at h
    ·rename_i y hy
     cases h
     refine .one rfl hv (fun u hu=> ?_) fun h=>h
     obtain⟨us,h1,h2⟩:=hu
     obtain⟨xs1,xs2,vs1,rfl,e,k1,k2,k3⟩:=ih cs [] x us (z05 hy) h2
     rw[show xs2=[]from k2,ai]at h1
     exact⟨xs1,h1,k1⟩
    ·cases h
   ·cases h
 | iface t a ih=>
  intro vs r x xs h hv
  cases vs with
  | nil=>simp[getP]at h
  | cons v vs=>
   cases v<;>simp only[getP]at h<;>try (cases h;done)
   rename_i t' y
   rcases bif_some h with⟨e,h⟩ | ⟨_,h⟩
   ·have:=ah e
    subst this
    split at h
    ·rename_i z hz
     cases h
     obtain⟨u,us,rfl,⟨u',h1,h2⟩,h3⟩:=hv
     obtain⟨xs1,xs2,vs1,e1,e2,k1,k2,k3⟩:=ih [y] [] x [u'] (z05 hz) (.one h2)
     rw[show xs2=[]from k2,ai]at e1
     subst e1
     have hlen:=k1.length
     have he:∃v',mkL a x=[v']:=by
      cases hq:mkL a x with
      | nil=>rw[hq]at hlen;simp at hlen
      | cons v' q=>rw[hq]at hlen;cases q with
       | nil=>exact⟨v',rfl⟩
       | cons _ _=>simp at hlen
     obtain⟨v',he⟩:=he
     have hmk:mkL (.iface t' a) x=[.iface t' v']:=by simp only[mkL];rw[he]
     refine⟨[u],us,[.iface t' y],rfl,rfl, ?_,h3,fun _=>by rw[hmk];rfl⟩
     rw[hmk]
     rw[he]at k1
     obtain⟨q,e,k1⟩:=k1.one'
     cases e
     exact .one ⟨u',h1,k1⟩
    ·cases h
   ·cases h
 | bx l off ih=>
  intro vs r x xs h hv
  cases vs with
  | nil=>simp[getP]at h
  | cons v vs=>
   cases v<;>simp only[getP]at h<;>try (cases h;done)
   rename_i cs off'
   rcases bif_some h with⟨e,h⟩ | ⟨_,h⟩
   ·have:=ah e
    subst this
    split at h
    ·rename_i y hy
     cases h
     refine .one rfl hv (fun u hu=> ?_) fun h=>h
     obtain⟨b,us,h1,h2,h3,h4,h5⟩:=hu
     obtain⟨xs1,xs2,vs1,rfl,e,k1,k2,k3⟩:=ih cs [] x us (z05 hy) h3
     simp only[ai]at e;subst e
     rw[show xs2=[]from k2,ai]at h5
     exact⟨b,xs1,h1,h2,k1,k3 h4,h5⟩
    ·cases h
   ·cases h
theorem zxi{n:Nat}{e:Option Nat}:∀{l:List (Nat×Option Nat)},z00 n l=some e->(n,e)∈l
 | [],h=>by cases h
 | (k,q)::l,h=>by
  rcases bif_some (by simpa only[z00] using h)with⟨hb,h2⟩ | ⟨_,h2⟩
  ·have e1:=ah hb
   cases h2;rw[e1];simp
  ·exact aF _ (zxi h2)
theorem zfq{d n:Nat}:∀{l:List (Nat×Option Nat)},zm9 d l=true->(n,some d)∉l
 | [],_,h=>by cases h
 | (k,some q)::l,hn,h=>by
  simp only[zm9,ac,aw]at hn
  rcases am.1 h with e | h
  ·cases e;rw[cM]at hn;cases hn.1
  ·exact zfq hn.2 h
 | (k,none)::l,hn,h=>by
  simp only[zm9]at hn
  rcases am.1 h with e | h
  ·cases e
  ·exact zfq hn h
theorem y7i{d:Nat}:∀{l:List (Nat×Option Nat)} {n n':Nat},dist l=true->z00 n l=some (some d)->z00 n' l=some (some d)->n=n'
 | [],_,_,_,h,_=>by cases h
 | (k,e)::l,n,n',hd,h,h'=>by
  have hd2:dist l=true/\(e=some d->zm9 d l=true):=by
   cases e with
   | none=>exact⟨hd,fun h=>by cases h⟩
   | some q=>simp only[dist,ac]at hd;exact⟨hd.2,fun h=>by cases h;exact hd.1⟩
  rcases bif_some (by simpa only[z00] using h)with⟨hb,h2⟩ | ⟨_,h2⟩
  ·have e1:=ah hb
   simp only[aR.injEq]at h2
   rcases bif_some (by simpa only[z00] using h')with⟨hb',h3⟩ | ⟨_,h3⟩
   ·exact e1.trans (ah hb').symm
   ·exact absurd (zxi h3) (zfq (hd2.2 h2))
  ·rcases bif_some (by simpa only[z00] using h')with⟨hb',h3⟩ | ⟨_,h3⟩
   ·simp only[aR.injEq]at h3
    exact absurd (zxi h2) (zfq (hd2.2 h3))
   ·exact y7i hd2.1 h2 h3
def ymr(m:Nat->Option MO)(rl:List (Nat×Option Nat))(cs cs':List AV):Prop:=
 (∃l x,getP m rl l cs=some (x,[])/\cs'=mkL l x)\/(∃(t:Ty) (x:t.T),dec m t cs=some x/\cs'=enc t x)\/y9e cs cs'=true
omit [LTab]in
theorem yhj{a b:AV}(h:AV.same a b=true):a=b/\a.flat=true:=by
 unfold AV.same at h
 split at h
 ·simp only[ac,decide_eq_true_eq]at h
  obtain⟨h1,rfl⟩:=h
  split at h1
  ·rename_i e _;exact⟨by rw[e.down],rfl⟩
  ·cases h1
 ·simp only[beq_iff_eq]at h;exact⟨by rw[h],rfl⟩
 ·exact⟨rfl,rfl⟩
 ·exact⟨rfl,rfl⟩
 ·exact⟨rfl,rfl⟩
 ·exact⟨rfl,rfl⟩
 ·exact⟨rfl,rfl⟩
 ·cases h
omit [LTab]in
theorem y20:∀{l r:List AV},y9e l r=true->l=r/\V0 l=true/\l.all AV.flat=true
 | [],[],_=>⟨rfl,rfl,rfl⟩
 | [],_::_,h=>by cases h
 | _::_,[],h=>by cases h
 | a::l,b::r,h=>by
  simp only[y9e,ac]at h
  obtain⟨e,f⟩:=yhj h.1
  obtain⟨e',f',g'⟩:=y20 h.2
  refine⟨by rw[e,e'], ?_,by rw[br,f,g'];rfl⟩
  simp only[V0,br,ac]at f'|-
  refine⟨?_,f'⟩
  cases a<;>first | rfl | cases f
theorem ycp:∀{l:List AV} {vs:List Value},l.all AV.flat=true->RepAs w S γ m l vs->RepAs w S γ' m' l vs
 | [],_,_,h=>h
 | a::l,vs,hf,h=>by
  obtain⟨u,us,rfl,h1,h2⟩:=h
  simp only[br,ac]at hf
  refine⟨u,us,rfl, ?_,ycp hf.2 h2⟩
  cases a<;>first | exact h1 | (cases hf.1;done)
theorem ydk{base:Nat->Prop}(hm:MemRel w S γ m base)(hr:Ren γ m rl m' γ'){cs cs':List AV}{vs:List Value}(h:ymr m rl cs cs')(hv:RepAs w S γ m cs vs):RepAs w S γ' m' cs' vs/\(V0 cs=true->V0 cs'=true):=by
 rcases h with⟨l,x,h,rfl⟩ | ⟨t,x,h,rfl⟩ | h
 ·obtain⟨xs1,xs2,vs1,e1,e,i1,i2,i3⟩:=zog hm hr l cs [] x vs h hv
  simp only[ai]at e;subst e
  rw[show xs2=[]from i2,ai]at e1
  rw[e1];exact⟨i1,i3⟩
 ·exact⟨(zqj hm h hv).enc,fun _=>z5d _ _⟩
 ·obtain⟨rfl,h1,h2⟩:=y20 h
  exact⟨ycp h2 hv,fun h=>h⟩
def QOk(m:Nat->Option MO)(rl:List (Nat×Option Nat))(n:Nat)(q:MO):Prop:=
 (∃d t xs,z00 n rl=some (some d)/\m d=some (.sl t xs .live)/\q= .sl t xs .live)\/
 (∃t,z00 n rl=some none/\q= .sl t [] .live)\/
 (∃(d:Nat) (l cs:List AV) (s:Stat) (_:Unit),z00 n rl=some (some d)/\m d=some (.box cs s)/\ymr m rl cs l/\q= .box l s)\/
 (∃d l cs id e x,z00 n rl=some (some d)/\m d=some (.rng id cs (some e))/\getP m rl l cs=some (x,[])/\q= .rng id (mkL l x) (some e))
theorem ykt{n:Nat}{k:OK}{e:Option Nat}{x:k.T}(hl:z00 n rl=some e)(h:ye7 m rl k e=some x):QOk m rl n (mkO k x):=by
 cases k with
 | sl t=>
  cases e with
  | none=>cases h;exact .inr (.inl ⟨t,hl,rfl⟩)
  | some d=>
   have h:(match m d with | some (.sl t' xs .live)=>castL t' t xs | _=>none)=some x:=h
   cases hd:m d with
   | none=>rw[hd]at h;cases h
   | some o=>
    rw[hd]at h
    cases o with
    | box _ _=>cases h
    | rng _ _ _=>cases h
    | sl t' xs s=>
     cases s with
     | live=>
      have h:castL t' t xs=some x:=h
      have e:=zaj (s:= .live) h
      rw[e]at hd
      exact .inl ⟨d,_,_,hl,hd,rfl⟩
     | still=>cases h
     | dead=>cases h
     | hole _ _=>cases h
 | box l=>
  cases e with
  | none=>cases h
  | some d=>
   simp only[ye7]at h
   split at h
   ·rename_i cs hd
    exact .inr (.inr (.inl ⟨d,_,cs, .live,(),hl,hd, .inl ⟨l,x,z05 h,rfl⟩,rfl⟩))
   ·cases h
 | boxS l=>
  cases e with
  | none=>cases h
  | some d=>
   simp only[ye7]at h
   split at h
   ·rename_i cs hd
    exact .inr (.inr (.inl ⟨d,_,cs, .still,(),hl,hd, .inl ⟨l,x,z05 h,rfl⟩,rfl⟩))
   ·cases h
 | boxV t=>
  cases e with
  | none=>cases h
  | some d=>
   have h:(match m d with | some (.box cs .live)=>dec m t cs | _=>none)=some x:=h
   cases hd:m d with
   | none=>rw[hd]at h;cases h
   | some o=>
    rw[hd]at h
    cases o with
    | sl _ _ _=>cases h
    | rng _ _ _=>cases h
    | box cs s=>
     cases s with
     | live=>exact .inr (.inr (.inl ⟨d,_,cs, .live,(),hl,hd, .inr (.inl ⟨t,x,h,rfl⟩),rfl⟩))
     | still=>cases h
     | dead=>cases h
     | hole _ _=>cases h
 | boxC cs0=>
  cases e with
  | none=>cases h
  | some d=>
   have h:(match m d with | some (.box cs .live)=>gd (y9e cs cs0) (some ()) | _=>none)=some x:=h
   cases hd:m d with
   | none=>rw[hd]at h;cases h
   | some o=>
    rw[hd]at h
    cases o with
    | sl _ _ _=>cases h
    | rng _ _ _=>cases h
    | box cs s=>
     cases s with
     | live=>exact .inr (.inr (.inl ⟨d,_,cs, .live,(),hl,hd, .inr (.inr (W0 h).1),rfl⟩))
     | still=>cases h
     | dead=>cases h
     | hole _ _=>cases h
 | rng id l e'=>
  cases e with
  | none=>cases h
  | some d=>
   simp only[ye7]at h
   split at h
   ·rename_i id' cs e2 hd
    rcases bif_some h with⟨hb,h⟩ | ⟨_,h⟩
    ·simp only[ac]at hb
     have e3:=ah hb.1
     have e4:=ah hb.2
     subst e3;subst e4
     exact .inr (.inr (.inr ⟨d,l,cs,id',e2,x,hl,hd,z05 h,rfl⟩))
    ·cases h
   ·cases h
theorem ygj:∀{l:List (Nat×List Nat×OK)} {v:OT l},getO m rl l=some v->∀n q,mofO l v n=some q->QOk m rl n q
 | [],_,_,_,_,hq=>by cases hq
 | (k,src,ok)::l,v,h,n,q,hq=>by
  simp only[getO]at h
  split at h
  ·rename_i e hl
   split at h
   ·rename_i x hx
    split at h
    ·rename_i y hy
     cases h
     rcases bif_some (by simpa only[mofO] using hq)with⟨hb,h2⟩ | ⟨_,h2⟩
     ·have e1:=ah hb
      cases h2
      rw[e1]
      exact ykt hl hx
     ·exact ygj hy n q h2
    ·cases h
   ·cases h
  ·cases h
theorem zou{g:List Nat->Nat->Option Nat}{n:Nat}{e:Option Nat}:∀{l:List (Nat×List Nat×OK)} {v:OT l},z00 n (l.map fun p=>(p.1,g p.2.1 p.1))=some e->∃q,mofO l v n=some q
 | [],_,h=>by cases h
 | (k,src,ok)::l,v,h=>by
  simp only[mofO]
  rcases bif_some (by simpa only[ax,z00] using h)with⟨hb,h⟩ | ⟨hb,h⟩
  ·rw[hb];exact⟨_,rfl⟩
  ·rw[hb];exact zou h
theorem zoo{f:Nat->Value}:∀{ts:List Nat} {vs:List AV} (t:Nat),RepAs w S γ m vs (ts.map f)->RepA w S γ m (zrl ts vs t) (f t)
 | [],vs,t,_=>by cases vs<;>exact trivial
 | t0::ts,[],t,_=>trivial
 | t0::ts,v::vs,t,h=>by
  obtain⟨u,us,e,h1,h2⟩:=h
  simp only[ax,cg.injEq]at e
  obtain⟨rfl,rfl⟩:=e
  simp only[zrl]
  cases hb:aC t t0 with
  | true=>rw[ah hb];exact h1
  | false=>exact zoo t h2
theorem y44{ρ:Nat->AV}{f:Nat->Value}(h:∀t,RepA w S γ m (ρ t) (f t)):∀l:List Nat,RepAs w S γ m (l.map ρ) (l.map f)
 | []=>rfl
 | t::l=>⟨_,_,rfl,h t,y44 h l⟩
theorem y90{base:Nat->Prop}{ρ:Nat->AV}{f:Nat->Value}(hmem:MemRel w S γ m base)(htm:∀t,RepA w S γ m (ρ t) (f t)){c:Cut}{v:c.T}{g:List Nat->Nat->Option Nat}{rl:List (Nat×Option Nat)}(hrl:rl=c.objs.map fun p=>(p.1,g p.2.1 p.1))(hc:getW rl c ρ m=some v):
  ∃γ',(∀n d,z00 n rl=some (some d)->γ' n=γ d)/\(∀n,z00 n rl=some none->γ' n=⟨none,0⟩)/\MemRel w S γ' (mofO c.objs v.2) base/\RepAs w S γ' (mofO c.objs v.2) (mkL c.sh v.1) (c.tms.map f)/\(∀n q,mofO c.objs v.2 n=some q->QOk m rl n q)/\dist rl=true:=by
 unfold getW at hc
 rcases bif_some hc with⟨hdist,hc⟩ | ⟨_,hc⟩
 ·split at hc
  ·rename_i x hx
   split at hc
   ·rename_i y hy
    cases hc
    have hnames:∀{n e} {y:OT c.objs},z00 n rl=some e->∃q,mofO c.objs y n=some q:=by
     intro n e y h
     rw[hrl]at h
     exact zou h
    let γ':Nat->Loc:=fun n=>match z00 n rl with
     | some (some d)=>γ d
     | _=>⟨none,0⟩
    have g1:∀{n d},z00 n rl=some (some d)->γ' n=γ d:=fun {n d} h=>by simp only[γ',h]
    have g2:∀{n},z00 n rl=some none->γ' n=⟨none,0⟩:=fun {n} h=>by simp only[γ',h]
    have hq:=ygj hy
    have hren:Ren γ m rl (mofO c.objs y) γ':=by
     refine⟨fun n d hl=> ?_,fun n hl=> ?_⟩
     ·obtain⟨q,hq'⟩:=hnames (y:=y) hl
      rcases hq n q hq' with⟨d',t,xs,k1,k2,rfl⟩ | ⟨t,k1,rfl⟩ | ⟨d',l,cs,s,z,k1,k2,k3,rfl⟩ | ⟨d',l,cs,id,ee,z,k1,k2,k3,rfl⟩
      ·rw[hl]at k1;cases k1
       exact⟨_,_,k2,hq',rfl,g1 hl⟩
      ·rw[hl]at k1;cases k1
      ·rw[hl]at k1;cases k1
       exact⟨_,_,k2,hq',rfl,g1 hl⟩
      ·rw[hl]at k1;cases k1
       exact⟨_,_,k2,hq',rfl,g1 hl⟩
     ·obtain⟨q,hq'⟩:=hnames (y:=y) hl
      rcases hq n q hq' with⟨d',t,xs,k1,k2,rfl⟩ | ⟨t,k1,rfl⟩ | ⟨d',l,cs,s,z,k1,k2,k3,rfl⟩ | ⟨d',l,cs,id,ee,z,k1,k2,k3,rfl⟩
      ·rw[hl]at k1;cases k1
      ·exact⟨t,hq',g2 hl⟩
      ·rw[hl]at k1;cases k1
      ·rw[hl]at k1;cases k1
    have olds:∀{n q b},mofO c.objs y n=some q->q.live=true->(γ' n).blk=some b->∃d o,z00 n rl=some (some d)/\m d=some o/\o.live=true/\(γ d).blk=some b:=by
     intro n q b hn hlq hb
     rcases hq n q hn with⟨d',t,xs,k1,k2,rfl⟩ | ⟨t,k1,rfl⟩ | ⟨d',l,cs,s,z,k1,k2,k3,rfl⟩ | ⟨d',l,cs,id,ee,z,k1,k2,k3,rfl⟩
     ·rw[g1 k1]at hb;exact⟨d',_,k1,k2,rfl,hb⟩
     ·rw[g2 k1]at hb;cases hb
     ·rw[g1 k1]at hb;exact⟨d',_,k1,k2,(by cases s<;>first | rfl | cases hlq),hb⟩
     ·rw[g1 k1]at hb;exact⟨d',_,k1,k2,rfl,hb⟩
    refine⟨γ',fun n d=>g1,fun n=>g2,⟨fun n q hn=> ?_,hmem.low, ?_, ?_⟩, ?_,hq,hdist⟩
    ·rcases hq n q hn with⟨d',t,xs,k1,k2,rfl⟩ | ⟨t,k1,rfl⟩ | ⟨d',l,cs,s,z,k1,k2,k3,rfl⟩ | ⟨d',l,cs,id,ee,z,k1,k2,k3,rfl⟩
     ·have hob:RowRel w S (γ d') t xs .live:=hmem.obj d' _ k2
      show RowRel w S (γ' n) t xs .live
      rw[g1 k1];exact hob
     ·show RowRel w S (γ' n) t [] .live
      rw[g2 k1]
      exact⟨al _,bm _,fun _=>rfl,fun a ha=>by cases ha⟩
     ·obtain⟨b,vs,el,j1,j2,j3,j4,j5,j6⟩:=hmem.obj d' _ k2
      obtain⟨i1,i3⟩:=ydk hmem hren k3 j3
      exact⟨b,vs,el,by rw[g1 k1];exact j1,j2,i1,i3 j4,j5,j6⟩
     ·obtain⟨l0,rec,hr⟩:=hmem.obj d' _ k2
      obtain⟨xs1,xs2,vs1,e0,e,i1,i2,i3⟩:=zog hmem hren l cs [] z _ k3 hr.caps
      rw[show xs2=[]from i2,ai]at e0
      exact⟨l0,rec,by rw[g1 k1];exact hr.loc,hr.heap,hr.state,hr.pending,hr.ps,hr.assign,hr.body,hr.size,by rw[e0];exact i1,hr.notS⟩
    ·intro n n' q q' b hn hn' hlq hlq' hne hb hb'
     obtain⟨d,o,k1,k2,k3,k4⟩:=olds hn hlq hb
     obtain⟨d',o',k1',k2',k3',k4'⟩:=olds hn' hlq' hb'
     exact hmem.apart d d' o o' b k2 k2' k3 k3' (fun e=>hne (y7i hdist k1 (e▸k1'))) k4 k4'
    ·intro n q b hn hlq hb
     obtain⟨d,o,k1,k2,k3,k4⟩:=olds hn hlq hb
     exact hmem.high d o b k2 k3 k4
    ·have hvs:RepAs w S γ m (c.tms.map ρ) (c.tms.map f):=y44 htm c.tms
     obtain⟨xs1,xs2,vs1,e1,e2,k1,k2,k3⟩:=zog hmem hren c.sh _ [] x _ (z05 hx) hvs
     rw[show xs2=[]from k2,ai]at e1
     rw[<-e1]at k1
     exact k1
   ·cases hc
  ·cases hc
 ·cases hc
theorem ybo{ρ:Nat->AV}{m:Nat->Option MO}:∀l:List (Nat×List Nat×OK),renL ρ m l=l.map fun p=>(p.1,(fun(src:List Nat) n=>bif ci 5000000 n then some n else zos ρ m src) p.2.1 p.1)
 | []=>rfl
 | (n,src,k)::r=>by simp only[renL,ax,ybo r]
theorem zoa{ρ:Nat->AV}{m:Nat->Option MO}:∀l:List (Nat×List Nat×OK),renC ρ m l=l.map fun p=>(p.1,(fun(src:List Nat) _=>zos ρ m src) p.2.1 p.1)
 | []=>rfl
 | (n,src,k)::r=>by simp only[renC,ax,zoa r]
end cut
variable {R:Type}
theorem zpc{w:World}{S:Nat->Prop}{γ:Nat->Loc}{m:Nat->Option MO}:∀{as:List AV} {vals rest:List Value} (k t:Nat),RepAs w S γ m as vals->RepA w S γ m (argsA k as t) ((ar k undef++vals++rest).getD t undef)
 | [],_,_,_,_,_=>trivial
 | v::vs,vals,rest,k,t,h=>by
  obtain⟨u,us,rfl,h1,h2⟩:=h
  simp only[argsA]
  cases hb:aC t k with
  | true=>
   have:=ah hb
   subst this
   simp only[cond_true]
   have:(ar t undef++u::us++rest).getD t undef=u:=by
    rw[au,aM,aV (by simp)]
    simp
   rw[this];exact h1
  | false=>
   simp only[cond_false]
   have ih:=zpc (rest:=rest) (k+1) t h2
   by_cases hlt:t<k
   ·have hne:∀(vs:List AV) (j:Nat),t<j->argsA j vs t= .undef:=by
     intro vs
     induction vs with
     | nil=>intro j _;rfl
     | cons v vs ihv=>
      intro j hj
      simp only[argsA]
      rw[nbeq (by omega)]
      exact ihv (j+1) (by omega)
    rw[hne vs (k+1) (by omega)]
    trivial
   ·have hk:k<t:=by
     rcases Nat.lt_or_ge k t with h | h
     ·exact h
     ·have:t=k:=by omega
      subst this
      rw[cM]at hb;cases hb
    have key:∀L:List Value,(ar k undef++u::L).getD t undef=(ar (k+1) undef++L).getD t undef:=by
     intro L
     rw[aM,aM,aV (by simp;omega),aV (by simp;omega)]
     simp only[bE]
     have:t-k=(t-(k+1))+1:=by omega
     rw[this,cy]
    have:(ar k undef++u::us++rest).getD t undef=(ar (k+1) undef++us++rest).getD t undef:=by
     rw[au,au];exact key (us++rest)
    rw[this];exact ih
structure BackOk (ex:Nat->Prop) (B:Nat->Prop) (w:World) (S:Nat->Prop) (γ:Nat->Loc) (m:Nat->Option MO) (w':World) (S':Nat->Prop) (γ':Nat->Loc) (τ:St) (ns:List Nat) (x:Value):Prop where
 bel:Bel (fun k=>B k/\¬ex k) w w'
 s0:∀b,S b->S' b
 snew:∀b,S' b->S b\/¬B b
 mem:MemRel w' S' γ' τ.m B
 res:RepA w' S' γ' τ.m (τ.ρ 0) x
 pin:∀n q q',m n=some q->τ.m n=some q'->γ' n=γ n/\q'.kind=q.kind
 dom:∀n,τ.m n≠none->n∈ns
def zc9(P:Program)(f:FuncId)(c:CtrM):Prop:=
 ∀(w:World) (S:Nat->Prop) (γ:Nat->Loc) (B:Nat->Prop) (v:c.cin.T) (vals:List Value) {R:Type} (t:c.T) (K:St->List Nat->Option R) (r:R),
  MemRel w S γ (mofO c.cin.objs v.2) B->(∀k,B k->k<w.heap.size)->RepAs w S γ (mofO c.cin.objs v.2) (mkL c.cin.sh v.1) vals->c.F v=some t->c.out t K=some r->
  (∀w' (args:Array Value),(callFunc f args).run P w'= .ok (.enter f args) w')/\
  Calls P f vals.toArray w fun e w'=>∃x S' γ' τ ns,e= .returned x/\K τ ns=some r/\BackOk (fun _=>False) B w S γ (mofO c.cin.objs v.2) w' S' γ' τ ns x
mutual
theorem RepA.ren{w:World}{S:Nat->Prop}{γ γ':Nat->Loc}{m m':Nat->Option MO}{l:List (Nat×Nat)}(hk:∀n o,m n=some o->∃o',m' (asc n l)=some o'/\o'.kind=o.kind/\γ' (asc n l)=γ n):
  ∀(v:AV) (x:Value),RepA w S γ m v x->RepA w S γ' m' (renV l v) x
 | .undef,_,h=>by simp only[renV];trivial
 | .int _ _,_,h=>by simp only[renV];exact h
 | .bool _,_,h=>by simp only[renV];exact h
 | .str _,_,h=>by simp only[renV];exact h
 | .nils,_,h=>by simp only[renV];exact h
 | .nilp,_,h=>by simp only[renV];exact h
 | .nilf,_,h=>by simp only[renV];exact h
 | .nili,_,h=>by simp only[renV];exact h
 | .list _ _,_,h=>by simp only[renV];exact h
 | .clip _ _,_,h=>by simp only[renV];exact h
 | .fresh _ _,_,h=>by simp only[renV];exact h
 | .ro _ _ _,_,h=>by simp only[renV];exact h
 | .own n,_,h=>by
  obtain⟨t,xs,s,h1,h2⟩:=h
  obtain⟨o',k1,k2,k3⟩:=hk n _ h1
  obtain⟨t',xs',s',rfl,_,e⟩:=zx8 k2
  simp only[renV]
  exact⟨t',xs',s',k1,by rw[k3,e];exact h2⟩
 | .ptr n off,_,h=>by
  obtain⟨cs,s,b,h1,h2,h3⟩:=h
  obtain⟨o',k1,k2,k3⟩:=hk n _ h1
  obtain⟨cs',s',rfl⟩:=y46 k2
  simp only[renV]
  exact⟨cs',s',b,k1,by rw[k3];exact h2,h3⟩
 | .oel n i off,_,h=>by
  obtain⟨t,xs,s,b,h1,h2,h3,h4⟩:=h
  obtain⟨o',k1,k2,k3⟩:=hk n _ h1
  obtain⟨t',xs',s',rfl,e1,e2⟩:=zx8 k2
  simp only[renV]
  exact⟨t',xs',s',b,k1,by rw[k3];exact h2,by rw[e2];exact h3,by rw[e1];exact h4⟩
 | .yld n,_,h=>by
  obtain⟨id,cs,e,l,h1,h2,h3⟩:=h
  obtain⟨o',k1,k2,k3⟩:=hk n _ h1
  obtain⟨cs',e',rfl⟩:=y45 k2
  simp only[renV]
  exact⟨id,cs',e',l,k1,by rw[k3];exact h2,h3⟩
 | .bx cs off,_,h=>by
  obtain⟨b,vs,h1,h2,h3,h4,h5⟩:=h
  obtain⟨k1,k2⟩:=RepAs.ren hk cs vs h3
  simp only[renV]
  exact⟨b,vs,h1,h2,k1,k2 h4,h5⟩
 | .clo f caps,_,h=>by
  obtain⟨vs,h1,h2⟩:=h
  simp only[renV]
  exact⟨vs,h1,(RepAs.ren hk caps vs h2).1⟩
 | .iface t v,_,h=>by
  obtain⟨u,h1,h2⟩:=h
  simp only[renV]
  exact⟨u,h1,RepA.ren hk v u h2⟩
 | .agg cs,_,h=>by
  obtain⟨vs,h1,h2,h3⟩:=h
  obtain⟨k1,k2⟩:=RepAs.ren hk cs vs h2
  simp only[renV]
  exact⟨vs,h1,k1,k2 h3⟩
 | .tup cs,_,h=>by
  obtain⟨vs,h1,h2⟩:=h
  simp only[renV]
  exact⟨vs,h1,(RepAs.ren hk cs vs h2).1⟩
theorem RepAs.ren{w:World}{S:Nat->Prop}{γ γ':Nat->Loc}{m m':Nat->Option MO}{l:List (Nat×Nat)}(hk:∀n o,m n=some o->∃o',m' (asc n l)=some o'/\o'.kind=o.kind/\γ' (asc n l)=γ n):
  ∀(cs:List AV) (vs:List Value),RepAs w S γ m cs vs->RepAs w S γ' m' (zrp l cs) vs/\(V0 cs=true->V0 (zrp l cs)=true)
 | [],vs,h=>by simp only[zrp];exact⟨h,fun h=>h⟩
 | c::cs,vs,h=>by
  obtain⟨u,us,h1,h2,h3⟩:=h
  obtain⟨k1,k2⟩:=RepAs.ren hk cs us h3
  simp only[zrp]
  refine⟨⟨u,us,h1,RepA.ren hk c u h2,k1⟩,fun h=> ?_⟩
  simp only[V0,br,ac]at h|-
  refine⟨?_,by simpa[V0] using k2 (by simpa[V0] using h.2)⟩
  have:=h.1
  cases c<;>simp only[renV]<;>first | exact this | rfl
end
theorem y6m(l:List (Nat×Nat))(q:MO):(renO l q).kind=q.kind:=by cases q<;>rfl
theorem zk3(l:List (Nat×Nat))(q:MO):(renO l q).live=q.live:=by
 cases q with
 | box cs s=>cases s<;>rfl
 | sl t xs s=>cases s<;>rfl
 | rng id cs e=>cases e<;>rfl
theorem y2h{n:Nat}:∀{l:List Nat},yj8 n l=true->n∉l
 | [],_=>by simp
 | k::r,h=>by
  simp only[yj8,ac,aw]at h
  simp only[am,not_or]
  exact⟨fun e=>(by rw[e,cM]at h;cases h.1),y2h h.2⟩
theorem zdi:∀{l:List Nat},zp4 l=true->l.Nodup
 | [],_=>List.nodup_nil
 | k::r,h=>by
  simp only[zp4,ac]at h
  exact bU.2 ⟨y2h h.1,zdi h.2⟩
theorem ygy{n n':Nat}:∀{l:List (Nat×Nat)},(l.map (·.1)).Nodup->(n,n')∈l->asc n l=n'
 | [],_,h=>by cases h
 | (k,x)::r,hn,h=>by
  simp only[ax,bU]at hn
  simp only[asc]
  rcases am.1 h with e | h
  ·cases e;rw[cM];rfl
  ·have:n≠k:=fun e=>hn.1 (aH.2 ⟨(n,n'),h,e⟩)
   rw[nbeq this];exact ygy hn.2 h
theorem zp6:∀{rl:List (Nat×Option Nat)} {le:List (Nat×Nat)},lents rl=some le->∀n d,(n,d)∈le->n∈rl.map (·.1)
 | [],le,h,n,d,hm=>by cases h;cases hm
 | (k,some d')::r,le,h,n,d,hm=>by
  simp only[lents]at h
  split at h
  ·rename_i l hl
   cases h
   rcases am.1 hm with e | hm
   ·cases e;simp
   ·simp only[ax,am];exact .inr (zp6 hl n d hm)
  ·cases h
 | (k,none)::r,le,h,n,d,hm=>by
  simp only[lents]at h
  simp only[ax,am];exact .inr (zp6 h n d hm)
theorem zlt:∀{rl:List (Nat×Option Nat)} {le:List (Nat×Nat)},lents rl=some le->(rl.map (·.1)).Nodup->∀n d,(n,d)∈le->z00 n rl=some (some d)
 | [],le,h,_,n,d,hm=>by cases h;cases hm
 | (k,some d')::r,le,h,hn,n,d,hm=>by
  simp only[lents]at h
  split at h
  ·rename_i l hl
   cases h
   simp only[ax,bU]at hn
   simp only[z00]
   rcases am.1 hm with e | hm
   ·cases e;rw[cM];rfl
   ·have:n≠k:=fun e=>hn.1 (e▸zp6 hl n d hm)
    rw[nbeq this];exact zlt hl hn.2 n d hm
  ·cases h
 | (k,none)::r,le,h,hn,n,d,hm=>by
  simp only[lents]at h
  simp only[ax,bU]at hn
  simp only[z00]
  have:n≠k:=fun e=>hn.1 (e▸zp6 h n d hm)
  rw[nbeq this];exact zlt h hn.2 n d hm
theorem zyr{n:Nat}:∀{l:List (Nat×Nat)},y0i n l=true->∃d,(n,d)∈l
 | [],h=>by cases h
 | (k,x)::r,h=>by
  simp only[y0i,Bool.or_eq_true]at h
  rcases h with h | h
  ·rw[ah h];exact⟨x,by simp⟩
  ·obtain⟨d,hd⟩:=zyr h;exact⟨d,aF _ hd⟩
theorem newNames_cover{le:List (Nat×Nat)}{d n:Nat}:∀{ns:List Nat} {k:Nat},n∈ns->(∃n',(n,n')∈le)\/∃n',(n,n')∈w7 le d k ns
 | [],_,h=>by cases h
 | x::r,k,h=>by
  simp only[w7]
  cases hb:y0i x le with
  | true=>
   simp only[cond_true]
   rcases am.1 h with e | h
   ·rw[e];exact .inl (zyr hb)
   ·exact newNames_cover h
  | false=>
   simp only[cond_false]
   rcases am.1 h with e | h
   ·rw[e];exact .inr ⟨_,List.mem_cons_self ..⟩
   ·exact(newNames_cover (k:=k+1) h).imp id fun⟨n',h⟩=>⟨n',aF _ h⟩
theorem zgq{le:List (Nat×Nat)}{d n n':Nat}:∀{ns:List Nat} {k:Nat},(n,n')∈w7 le d k ns->n'<d+4096*(k+ns.length)
 | [],_,h=>by cases h
 | x::r,k,h=>by
  simp only[w7]at h
  simp only[af]
  cases hb:y0i x le with
  | true=>rw[hb]at h;have:=zgq h;omega
  | false=>
   rw[hb]at h
   rcases am.1 h with e | h
   ·cases e;omega
   ·have:=zgq h;omega
theorem yd7{τ:Nat->Option MO}{rn:List (Nat×Nat)}:∀{l:List (Nat×Nat)} {m m':Nat->Option MO},apL τ rn l m=some m'->(l.map (·.2)).Nodup->
  (∀n n',(n,n')∈l->(∀q,τ n=some q->m' n'=some (renO rn q))/\(τ n=none->∃t xs,m n'=some (.sl t xs .live)/\m' n'=some (.sl t xs .dead)))/\(∀n',n'∉l.map (·.2)->m' n'=m n')
 | [],m,m',h,_=>by cases h;exact⟨fun n n' h=>(by cases h),fun _ _=>rfl⟩
 | (k,d)::r,m,m',h,hn=>by
  simp only[ax,bU]at hn
  simp only[apL]at h
  have go:∀{o:MO},apL τ rn r (mupd m d o)=some m'->((∀q,τ k=some q->o=renO rn q)/\(τ k=none->∃t xs,m d=some (.sl t xs .live)/\o= .sl t xs .dead))->
    (∀n n',(n,n')∈(k,d)::r->(∀q,τ n=some q->m' n'=some (renO rn q))/\(τ n=none->∃t xs,m n'=some (.sl t xs .live)/\m' n'=some (.sl t xs .dead)))/\(∀n',n'∉((k,d)::r).map (·.2)->m' n'=m n'):=by
   intro o ha ho
   obtain⟨h1,h2⟩:=yd7 ha hn.2
   have hd:m' d=some o:=by rw[h2 d hn.1,W6]
   refine⟨fun n n' hm=> ?_,fun n' hn'=> ?_⟩
   ·rcases am.1 hm with e | hm
    ·cases e
     exact⟨fun q hq=>by rw[hd,ho.1 q hq],fun hq=>by obtain⟨t,xs,a,b⟩:=ho.2 hq;exact⟨t,xs,a,by rw[hd,b]⟩⟩
    ·have hne:n'≠d:=fun e=>hn.1 (aH.2 ⟨(n,n'),hm,e⟩)
     obtain⟨a,b⟩:=h1 n n' hm
     exact⟨a,fun hq=>by obtain⟨t,xs,c,e⟩:=b hq;exact⟨t,xs,by rwa [X1 _ _ hne]at c,e⟩⟩
   ·simp only[ax,am,not_or]at hn'
    rw[h2 n' hn'.2,X1 _ _ hn'.1]
  split at h
  ·rename_i q hq
   exact go h ⟨fun q' hq'=>(by rw[hq]at hq';cases hq';rfl),fun hq'=>(by rw[hq]at hq';cases hq')⟩
  ·rename_i hq
   split at h
   ·rename_i t xs hmd
    exact go h ⟨fun q' hq'=>(by rw[hq]at hq';cases hq'),fun _=>⟨t,xs,hmd,rfl⟩⟩
   ·cases h
theorem yd5{τ:Nat->Option MO}{rn:List (Nat×Nat)}:∀{l:List (Nat×Nat)} {m m':Nat->Option MO},apN τ rn l m=some m'->(l.map (·.2)).Nodup->
  (∀n n',(n,n')∈l->m n'=none/\∃q,τ n=some q/\m' n'=some (renO rn q))/\(∀n',n'∉l.map (·.2)->m' n'=m n')
 | [],m,m',h,_=>by cases h;exact⟨fun n n' h=>(by cases h),fun _ _=>rfl⟩
 | (k,d)::r,m,m',h,hn=>by
  simp only[ax,bU]at hn
  simp only[apN]at h
  split at h
  ·rename_i q hq
   split at h
   ·rename_i hmd
    obtain⟨h1,h2⟩:=yd5 h hn.2
    have hd:m' d=some (renO rn q):=by rw[h2 d hn.1,W6]
    refine⟨fun n n' hm=> ?_,fun n' hn'=> ?_⟩
    ·rcases am.1 hm with e | hm
     ·cases e;exact⟨hmd,q,hq,hd⟩
     ·have hne:n'≠d:=fun e=>hn.1 (aH.2 ⟨(n,n'),hm,e⟩)
      obtain⟨a,b⟩:=h1 n n' hm
      exact⟨by rwa [X1 _ _ hne]at a,b⟩
    ·simp only[ax,am,not_or]at hn'
     rw[h2 n' hn'.2,X1 _ _ hn'.1]
   ·cases h
  ·cases h
def rsc(n':Nat):List (Nat×Nat)->Option Nat
 | []=>none
 | (k,x)::r=>if n'=x then some k else rsc n' r
theorem yft{n n':Nat}:∀{l:List (Nat×Nat)},(l.map (·.2)).Nodup->(n,n')∈l->rsc n' l=some n
 | [],_,h=>by cases h
 | (k,x)::r,hn,h=>by
  simp only[ax,bU]at hn
  simp only[rsc]
  rcases am.1 h with e | h
  ·cases e;rw[if_pos rfl]
  ·have:n'≠x:=fun e=>hn.1 (aH.2 ⟨(n,n'),h,e⟩)
   rw[if_neg this];exact yft hn.2 h
theorem ybl{n':Nat}:∀{l:List (Nat×Nat)},n'∉l.map (·.2)->rsc n' l=none
 | [],_=>rfl
 | (k,x)::r,h=>by
  simp only[ax,am,not_or]at h
  simp only[rsc,if_neg h.1]
  exact ybl h.2
variable {R:Type}
theorem zu6{f:Nat->Value}:∀{k:Nat} {ts:List Nat} {as:List AV} {vals:List Value},rangeIs k ts as=true->vals.length=as.length->(∀i,f (k+i)=vals.getD i undef)->ts.map f=vals
 | k,[],[],vals,_,hl,_=>by cases vals with | nil=>rfl | cons _ _=>simp at hl
 | k,[],_::_,_,h,_,_=>by cases h
 | k,_::_,[],_,h,_,_=>by cases h
 | k,t::ts,a::as,vals,h,hl,hf=>by
  simp only[rangeIs,ac]at h
  cases vals with
  | nil=>simp at hl
  | cons x vals=>
   have e:=ah h.1
   subst e
   simp only[ax]
   congr 1
   ·have:=hf 0;simpa using this
   ·refine zu6 h.2 (by simpa using hl) fun i=> ?_
    have:=hf (i+1)
    rw[show t+1+i=t+(i+1) by omega,this]
    simp
theorem zs6:∀{rl:List (Nat×Option Nat)} {le:List (Nat×Nat)},lents rl=some le->∀{n d:Nat},z00 n rl=some (some d)->(n,d)∈le
 | [],_,_,_,_,h=>by cases h
 | (k,some d')::r,le,h,n,d,hm=>by
  simp only[lents]at h
  split at h
  ·rename_i l hl
   cases h
   rcases bif_some (by simpa only[z00] using hm)with⟨hb,h2⟩ | ⟨_,h2⟩
   ·cases h2;rw[ah hb];simp
   ·exact aF _ (zs6 hl h2)
  ·cases h
 | (k,none)::r,le,h,n,d,hm=>by
  simp only[lents]at h
  rcases bif_some (by simpa only[z00] using hm)with⟨hb,h2⟩ | ⟨_,h2⟩
  ·cases h2
  ·exact zs6 h h2
theorem zpo{w':World}{S':Nat->Prop}{γ':Nat->Loc}{m':Nat->Option MO}{ρ:Nat->AV}{a:Act}{dst:Option Nat}{v:AV}{x:Value}(h:∀t,RepA w' S' γ' m' (ρ t) (a.tmps.getD t undef))(hv:RepA w' S' γ' m' v x)(hd:zml a.tmps.size dst)(t:Nat):
  RepA w' S' γ' m' (putO ρ dst v t) ((a.put dst x).tmps.getD t undef):=by
 cases dst with
 | none=>exact h t
 | some d=>
  by_cases e:t=d
  ·subst e
   rw[zje a t x hd]
   show RepA _ _ _ _ (upd ρ t v t) x
   rw[zhs];exact hv
  ·rw[znt a x e]
   show RepA _ _ _ _ (upd ρ d v t) _
   rw[zcn _ _ e];exact h t
theorem ycc{X:Cx}{w:World}{S:Nat->Prop}{γ:Nat->Loc}{σ:St}{a:Act}(hrel:Rel X w S γ σ a){cin:Cut}{v:cin.T}{γi:Nat->Loc}{rl:List (Nat×Option Nat)}
  (hrl:∀n d,z00 n rl=some (some d)->∃q,mofO cin.objs v.2 n=some q) (g1:∀n d,z00 n rl=some (some d)->γi n=γ d) (g2:∀n,z00 n rl=some none->γi n=⟨none,0⟩) (hmi:MemRel w S γi (mofO cin.objs v.2) X.B) (hq:∀n q,mofO cin.objs v.2 n=some q->QOk σ.m rl n q)
  {ex:Nat->Prop} (hexS:∀b,S b->¬ex b) (hexB:∀b,X.B b->¬ex b) (hexO:∀n' o b,σ.m n'=some o->o.live=true->(γ n').blk=some b->¬ex b)
  {w':World} {S':Nat->Prop} {γ':Nat->Loc} {τ:St} {ns:List Nat} {x:Value} {B':Nat->Prop} (hB':B'=fun k=>k<w.heap.size/\∀n q,mofO cin.objs v.2 n=some q->q.live=true->(γi n).blk≠some k)
  (hb:BackOk ex B' w S γi (mofO cin.objs v.2) w' S' γ' τ ns x) {dst:Option Nat} {d:Nat} (hdst:zml a.tmps.size dst) (hd:d<4096) {σ':St} (h:zfw rl σ dst d τ ns some=some σ'):
  ∃S'' γ'',Rel X w' S'' γ'' σ' (a.put dst x)/\Keeps σ.m γ σ'.m γ''/\(∀b,S b->S'' b)/\(∀b,S b->w'.heap[b]? =w.heap[b]?)/\
   (∀n o,σ.m n=some o->(∀k,z00 k rl≠some (some n))->σ'.m n=some o)/\
   (∀l,B' l->¬S l->(∀n' o,σ.m n'=some o->o.live=true->(γ n').blk≠some l)->¬S'' l/\∀n' o,σ'.m n'=some o->o.live=true->(γ'' n').blk≠some l):=by
 unfold zfw at h
 split at h
 case h_2=>cases h
 rename_i le hle
 obtain⟨hc,h⟩:=W0 h
 simp only[ac,cQ]at hc
 obtain⟨⟨⟨hns,hrn1⟩,hf⟩,hs⟩:=hc
 generalize hnn:w7 le d 0 ns=nn at*
 split at h
 case h_2=>cases h
 rename_i m1 hm1
 split at h
 case h_2=>cases h
 rename_i m2 hm2
 cases h
 generalize hrn:le++nn=rn at*
 have nf:=zdi hf
 have nsn:=zdi hs
 rw[<-bK,hrn]at nf nsn
 have nf1:(le.map (·.1)).Nodup:=by
  have:=nf;rw[<-hrn,bK]at this;exact(cf.1 this).1
 have ns1:(le.map (·.2)).Nodup:=by
  have:=nsn;rw[<-hrn,bK]at this;exact(cf.1 this).1
 have ns2:(nn.map (·.2)).Nodup:=by
  have:=nsn;rw[<-hrn,bK]at this;exact(cf.1 this).2.1
 have nsd:∀k,k∈le.map (·.2)->k∈nn.map (·.2)->False:=by
  have:=nsn;rw[<-hrn,bK]at this
  intro k h1 h2
  exact(cf.1 this).2.2 k h1 k h2 rfl
 obtain⟨l1,l2⟩:=yd7 hm1 ns1
 obtain⟨p1,p2⟩:=yd5 hm2 ns2
 have A:∀n n' q,(n,n')∈le->τ.m n=some q->m2 n'=some (renO rn q):=fun n n' q hn hq=>by
  rw[p2 n' (fun h=>nsd n' (aH.2 ⟨_,hn,rfl⟩) h)];exact(l1 n n' hn).1 q hq
 have Bd:∀n n',(n,n')∈le->τ.m n=none->∃t xs,σ.m n'=some (.sl t xs .live)/\m2 n'=some (.sl t xs .dead):=fun n n' hn hq=>by
  obtain⟨t,xs,h1,h2⟩:=(l1 n n' hn).2 hq
  exact⟨t,xs,h1,by rw[p2 n' (fun h=>nsd n' (aH.2 ⟨_,hn,rfl⟩) h)];exact h2⟩
 have Cn:∀n n',(n,n')∈nn->∃q,τ.m n=some q/\σ.m n'=none/\m2 n'=some (renO rn q):=fun n n' hn=>by
  obtain⟨h1,q,h2,h3⟩:=p1 n n' hn
  exact⟨q,h2,by rw[<-l2 n' (fun h=>nsd n' h (aH.2 ⟨_,hn,rfl⟩))];exact h1,h3⟩
 have D:∀n',n'∉le.map (·.2)->n'∉nn.map (·.2)->m2 n'=σ.m n':=fun n' h1 h2=>by rw[p2 n' h2,l2 n' h1]
 have lent:∀n n',(n,n')∈le->∃q0 o,mofO cin.objs v.2 n=some q0/\σ.m n'=some o/\q0.kind=o.kind/\γi n=γ n'/\(q0.live=true->o.live=true):=by
  intro n n' hn
  have hlook:=zlt hle (zdi hrn1) n n' hn
  obtain⟨q0,hq0⟩:=hrl n n' hlook
  refine⟨q0, ?_⟩
  rcases hq n q0 hq0 with⟨d',t,xs,k1,k2,rfl⟩ | ⟨t,k1,rfl⟩ | ⟨d',l',cs,s,z,k1,k2,k3,rfl⟩ | ⟨d',l',cs,id,ee,z,k1,k2,k3,rfl⟩
  ·rw[hlook]at k1;cases k1
   exact⟨_,hq0,k2,rfl,g1 _ _ hlook,fun h=>h⟩
  ·rw[hlook]at k1;cases k1
  ·rw[hlook]at k1;cases k1
   exact⟨_,hq0,k2,rfl,g1 _ _ hlook,fun h=>by cases s<;>first | rfl | cases h⟩
  ·rw[hlook]at k1;cases k1
   exact⟨_,hq0,k2,rfl,g1 _ _ hlook,fun h=>rfl⟩
 have lentLook:∀n q,mofO cin.objs v.2 n=some q->q.live=true->∀b,(γi n).blk=some b->∃d' o,z00 n rl=some (some d')/\σ.m d'=some o/\o.live=true/\(γ d').blk=some b:=by
  intro n q hn hl b hbk
  rcases hq n q hn with⟨d',t,xs,k1,k2,rfl⟩ | ⟨t,k1,rfl⟩ | ⟨d',l',cs,s,z,k1,k2,k3,rfl⟩ | ⟨d',l',cs,id,ee,z,k1,k2,k3,rfl⟩
  ·exact⟨d',_,k1,k2,rfl,by rw[<-g1 _ _ k1];exact hbk⟩
  ·rw[Loc.blk,g2 _ k1]at hbk;cases hbk
  ·exact⟨d',_,k1,k2,(by cases s<;>first | rfl | cases hl),by rw[<-g1 _ _ k1];exact hbk⟩
  ·exact⟨d',_,k1,k2,rfl,by rw[<-g1 _ _ k1];exact hbk⟩
 have hSB:∀b,S b->B' b:=fun b hs=>by
  rw[hB']
  exact⟨hrel.mem.low b hs,fun n q hn hl hbk=>(ObjRel.notS (hmi.obj n q hn) hl hbk).1 hs⟩
 have hXB:∀b,X.B b->B' b:=fun b hs=>by
  rw[hB']
  exact⟨hrel.size_le b hs,fun n q hn hl hbk=>hmi.high n q b hn hl hbk hs⟩
 have hoth:∀n' o b,σ.m n'=some o->o.live=true->(γ n').blk=some b->n'∉le.map (·.2)->B' b:=fun n' o b ho hl hbk hni=>by
  rw[hB']
  refine⟨ObjRel.lt (hrel.mem.obj n' o ho) hl hbk,fun n q hn hlq hbq=> ?_⟩
  obtain⟨d',o',j1,j2,j3,j4⟩:=lentLook n q hn hlq b hbq
  have hmem:=zs6 hle j1
  have hne:n'≠d':=fun e=>hni (aH.2 ⟨_,hmem,e.symm⟩)
  exact hrel.mem.apart n' d' o o' b ho j2 hl j3 hne hbk j4
 have hSS:∀b,S' b->B' b->S b:=fun b h1 h2=>(hb.snew b h1).elim id fun h=>absurd h2 h
 have hwS:∀b,S b->w'.heap[b]? =w.heap[b]? :=fun b hs=>hb.bel.block b ⟨hSB b hs,hexS b hs⟩
 let γ2:Nat->Loc:=fun n'=>match rsc n' nn with
  | some n=>γ' n
  | none=>γ n'
 have gnew:∀n n',(n,n')∈nn->γ2 n'=γ' n:=fun n n' hn=>by simp only[γ2,yft ns2 hn]
 have gold:∀n',n'∉nn.map (·.2)->γ2 n'=γ n':=fun n' hn=>by simp only[γ2,ybl hn]
 have glent:∀n n' q,(n,n')∈le->τ.m n=some q->γ2 n'=γ' n:=fun n n' q hn hq=>by
  obtain⟨q0,o,k1,k2,k3,k4,_⟩:=lent n n' hn
  rw[gold n' (fun h=>nsd n' (aH.2 ⟨_,hn,rfl⟩) h),(hb.pin n q0 q k1 hq).1,k4]
 have keep:Keeps σ.m γ m2 γ2:=by
  intro n' o ho
  have hnn':n'∉nn.map (·.2):=fun h=>by
   obtain⟨⟨n,y⟩,h1,h2⟩:=aH.1 h
   cases h2
   obtain⟨_,_,h3,_⟩:=Cn n _ h1
   rw[ho]at h3;cases h3
  by_cases hin:n'∈le.map (·.2)
  ·obtain⟨⟨n,y⟩,h1,h2⟩:=aH.1 hin
   cases h2
   obtain⟨q0,o',k1,k2,k3,k4,_⟩:=lent n _ h1
   rw[ho]at k2;cases k2
   cases hτ:τ.m n with
   | some q=>exact⟨_,A n _ q h1 hτ,by rw[y6m,(hb.pin n q0 q k1 hτ).2,k3],gold _ hnn'⟩
   | none=>
    obtain⟨t,xs,h3,h4⟩:=Bd n _ h1 hτ
    rw[ho]at h3;cases h3
    exact⟨_,h4,rfl,gold _ hnn'⟩
  ·exact⟨o,by rw[D n' hin hnn'];exact ho,rfl,gold _ hnn'⟩
 have mems:∀{p},p∈rn->p∈le\/p∈nn:=fun {p} h=>by rw[<-hrn]at h;exact List.mem_append.1 h
 have asc':∀n n',(n,n')∈rn->asc n rn=n':=fun n n' h=>ygy nf h
 have hren:∀n q,τ.m n=some q->∃n',(n,n')∈rn/\asc n rn=n'/\m2 n'=some (renO rn q)/\γ2 n'=γ' n:=by
  intro n q hτ
  have hin:=hb.dom n (by rw[hτ];simp)
  rcases newNames_cover (le:=le) (d:=d) (k:=0) hin with⟨n',h1⟩ | ⟨n',h1⟩
  ·have h2:(n,n')∈rn:=by rw[<-hrn];exact bp _ h1
   exact⟨n',h2,asc' n n' h2,A n n' q h1 hτ,glent n n' q h1 hτ⟩
  ·rw[hnn]at h1
   have h2:(n,n')∈rn:=by rw[<-hrn];exact bz _ h1
   obtain⟨q',k1,k2,k3⟩:=Cn n n' h1
   rw[hτ]at k1;cases k1
   exact⟨n',h2,asc' n n' h2,k3,gnew n n' h1⟩
 have hk:∀n q,τ.m n=some q->∃o',m2 (asc n rn)=some o'/\o'.kind=q.kind/\γ2 (asc n rn)=γ' n:=fun n q hτ=>by
  obtain⟨n',h1,h2,h3,h4⟩:=hren n q hτ
  rw[h2];exact⟨_,h3,y6m _ _,h4⟩
 have hobj:∀n q n',ObjRel w' S' γ' τ.m n q->γ2 n'=γ' n->ObjRel w' S' γ2 m2 n' (renO rn q):=by
  intro n q n' h hg
  cases q with
  | box cs s=>
   obtain⟨b,vs,el,h1,h2,h3,h4,h5,h6⟩:=h
   obtain⟨k1,k2⟩:=RepAs.ren hk cs vs h3
   exact⟨b,vs,el,by rw[hg];exact h1,h2,k1,k2 h4,h5,h6⟩
  | sl t xs s=>
   cases s with
   | dead=>trivial
   | hole i r=>
    have h:HoleRel w' S' γ' τ.m (γ' n) t xs i r:=h
    show HoleRel w' S' γ2 m2 (γ2 n') t xs i (asc r rn)
    rw[hg]
    obtain⟨b,arr,el,fz,h1,h2,h3,h4,h5,⟨u,h6,h7⟩,h8⟩:=h.row
    exact⟨h.len,h.cap,h.one,h.lt,b,arr,el,fz,h1,h2,h3,h4,h5,⟨u,h6,RepA.ren hk (.own r) u h7⟩,h8⟩
   | live=>have h:RowRel w' S' (γ' n) t xs .live:=h;show RowRel w' S' (γ2 n') t xs .live;rw[hg];exact h
   | still=>have h:RowRel w' S' (γ' n) t xs .still:=h;show RowRel w' S' (γ2 n') t xs .still;rw[hg];exact h
  | rng id cs e=>
   cases e with
   | none=>trivial
   | some e=>
    obtain⟨l,rec,h⟩:=h
    exact⟨l,rec,by rw[hg];exact h.loc,h.heap,h.state,h.pending,h.ps,h.assign,h.body,h.size,(RepAs.ren hk _ _ h.caps).1,h.notS⟩
 have who:∀n' o,m2 n'=some o->(∃n q,(n,n')∈rn/\τ.m n=some q/\o=renO rn q/\γ2 n'=γ' n)\/o.live=false/\(∃t xs,o= .sl t xs .dead)\/(σ.m n'=some o/\n'∉le.map (·.2)/\γ2 n'=γ n'):=by
  intro n' o ho
  by_cases h1:n'∈nn.map (·.2)
  ·obtain⟨⟨n,y⟩,h2,h3⟩:=aH.1 h1
   cases h3
   obtain⟨q,k1,k2,k3⟩:=Cn n _ h2
   rw[ho]at k3;cases k3
   exact .inl ⟨n,q,by rw[<-hrn];exact bz _ h2,k1,rfl,gnew n _ h2⟩
  ·by_cases h2:n'∈le.map (·.2)
   ·obtain⟨⟨n,y⟩,h3,h4⟩:=aH.1 h2
    cases h4
    cases hτ:τ.m n with
    | some q=>
     have:=A n _ q h3 hτ
     rw[ho]at this;cases this
     exact .inl ⟨n,q,by rw[<-hrn];exact bp _ h3,hτ,rfl,glent n _ q h3 hτ⟩
    | none=>
     obtain⟨t,xs,_,h5⟩:=Bd n _ h3 hτ
     rw[ho]at h5;cases h5
     exact .inr (.inl ⟨rfl,t,xs,rfl⟩)
   ·rw[D n' h2 h1]at ho
    exact .inr (.inr ⟨ho,h2,gold n' h1⟩)
 have hmem:MemRel w' S' γ2 m2 X.B:=by
  refine⟨fun n' o ho=> ?_,hb.mem.low, ?_, ?_⟩
  ·rcases who n' o ho with⟨n,q,h1,h2,rfl,h4⟩ | ⟨_,t,xs,rfl⟩ | ⟨h1,h2,h3⟩
   ·exact hobj n q n' (hb.mem.obj n q h2) h4
   ·trivial
   ·refine ObjRel.later (hrel.mem.obj n' o h1) hwS hb.s0 keep h3 fun hl b hbk=> ?_
    have hB:=hoth n' o b h1 hl hbk h2
    exact⟨hb.bel.block b ⟨hB,hexO n' o b h1 hl hbk⟩,fun hs=>(ObjRel.notS (hrel.mem.obj n' o h1) hl hbk).1 (hSS b hs hB)⟩
  ·intro n1 n2 o1 o2 b ho1 ho2 hl1 hl2 hne hb1 hb2
   rcases who n1 o1 ho1 with⟨k1,q1,a1,a2,rfl,a4⟩ | ⟨e,_⟩ | ⟨a1,a2,a3⟩
   ·rcases who n2 o2 ho2 with⟨k2,q2,c1,c2,rfl,c4⟩ | ⟨e,_⟩ | ⟨c1,c2,c3⟩
    ·rw[zk3]at hl1 hl2
     rw[a4]at hb1;rw[c4]at hb2
     refine hb.mem.apart k1 k2 q1 q2 b a2 c2 hl1 hl2 (fun e=> ?_) hb1 hb2
     subst e
     exact hne ((asc' _ _ a1).symm.trans (asc' _ _ c1))
    ·rw[hl2]at e;cases e
    ·rw[zk3]at hl1
     rw[a4]at hb1;rw[c3]at hb2
     exact hb.mem.high k1 q1 b a2 hl1 hb1 (hoth n2 o2 b c1 hl2 hb2 c2)
   ·rw[hl1]at e;cases e
   ·rcases who n2 o2 ho2 with⟨k2,q2,c1,c2,rfl,c4⟩ | ⟨e,_⟩ | ⟨c1,c2,c3⟩
    ·rw[zk3]at hl2
     rw[a3]at hb1;rw[c4]at hb2
     exact hb.mem.high k2 q2 b c2 hl2 hb2 (hoth n1 o1 b a1 hl1 hb1 a2)
    ·rw[hl2]at e;cases e
    ·rw[a3]at hb1;rw[c3]at hb2
     exact hrel.mem.apart n1 n2 o1 o2 b a1 c1 hl1 hl2 hne hb1 hb2
  ·intro n' o b ho hl hbk
   rcases who n' o ho with⟨n,q,h1,h2,rfl,h4⟩ | ⟨e,_⟩ | ⟨h1,h2,h3⟩
   ·rw[zk3]at hl
    rw[h4]at hbk
    exact fun h=>hb.mem.high n q b h2 hl hbk (hXB b h)
   ·rw[hl]at e;cases e
   ·rw[h3]at hbk;exact hrel.mem.high n' o b h1 hl hbk
 have htm:∀t,RepA w' S' γ2 m2 (σ.ρ t) (a.tmps.getD t undef):=fun t=>RepA.mono hwS hb.s0 keep _ _ (hrel.tm t)
 refine⟨S',γ2,⟨hmem, ?_,hrel.below.trans (hb.bel.weak fun k hk=>⟨hXB k hk,hexB k hk⟩),hrel.base_le,fun b h=>hb.s0 b (hrel.s0 b h),fun b hs=> ?_, ?_,zax hrel.pin keep (fun n l hl hn=> ?_),hrel.pnhi,by rw[z8];exact hrel.small⟩,keep,hb.s0,hwS,fun n o ho hnl=> ?_,fun l hBl hSl hol=>⟨fun hs=>hSl (hSS l hs hBl),fun n' o ho hl hbk=> ?_⟩⟩
 ·intro t
  have hres:=RepA.ren hk _ _ hb.res
  exact zpo htm hres hdst t
 ·rcases hb.snew b hs with h | h
  ·exact hrel.snew b h
  ·exact .inr fun hB=>h (hXB b hB)
 ·rw[z78]
  refine hrel.defers.mono hb.bel.others fun D hD hs=>hSS D hs ?_
  rw[hB']
  refine⟨(Array.getElem?_eq_some_iff.1 hD).1,fun n q hn hl hbk=> ?_⟩
  obtain⟨_,o,hg,hno⟩:=ObjRel.notS (hmi.obj n q hn) hl hbk
  rw[hD]at hg;cases hg
  exact hno _ rfl
 ·intro hnone
  have hn:m2 n≠none:=hn
  cases ho:m2 n with
  | none=>exact hn ho
  | some o=>
   have hhi:=hrel.pnhi n l hl
   have hsm:=hrel.small
   by_cases h1:n∈nn.map (·.2)
   ·obtain⟨⟨k,y⟩,h2,h3⟩:=aH.1 h1
    cases h3
    rw[<-hnn]at h2
    have:=zgq h2
    simp only at hhi
    omega
   ·by_cases h2:n∈le.map (·.2)
    ·obtain⟨⟨k,y⟩,h3,h4⟩:=aH.1 h2
     cases h4
     obtain⟨_,_,_,h5,_⟩:=lent k _ h3
     rw[hnone]at h5;cases h5
    ·rw[D n h2 h1]at ho
     rw[hnone]at ho;cases ho
 ·have h1:n∉nn.map (·.2):=fun h=>by
   obtain⟨⟨k,y⟩,h1,h2⟩:=aH.1 h
   cases h2
   obtain⟨_,_,h3,_⟩:=Cn k _ h1
   rw[ho]at h3;cases h3
  have h2:n∉le.map (·.2):=fun h=>by
   obtain⟨⟨k,y⟩,h3,h2⟩:=aH.1 h
   cases h2
   exact hnl k (zlt hle (zdi hrn1) k _ h3)
  show m2 n=some o
  rw[D n h2 h1];exact ho
 ·have ho:m2 n'=some o:=ho
  rcases who n' o ho with⟨n,q,h1,h2,rfl,h4⟩ | ⟨e,_⟩ | ⟨h1,h2,h3⟩
  ·rw[zk3]at hl
   rw[h4]at hbk
   exact hb.mem.high n q l h2 hl hbk hBl
  ·rw[hl]at e;cases e
  ·rw[h3]at hbk;exact hol n' o h1 hl hbk
theorem y2k{P:Program}{f:FuncId}{X:Cx}{w:World}{S:Nat->Prop}{γ:Nat->Loc}{σ:St}{a:Act}(hrel:Rel X w S γ σ a){as:List AV}{vals:List Value}(hr:RepAs w S γ σ.m as vals){dst:Option Nat}{d:Nat}(hdst:zml a.tmps.size dst)(hd:d<4096){σ':St}:∀{l:List CtrM},(∀c,c∈l->zc9 P f c)->zdk l σ dst d as some=some σ'->
  (∀w' (args:Array Value),(callFunc f args).run P w'= .ok (.enter f args) w')/\
  Calls P f vals.toArray w fun e w'=>∃v,e= .returned v/\∃S' γ',Rel X w' S' γ' σ' (a.put dst v)/\Keeps σ.m γ σ'.m γ'
 | [],_,h=>by cases h
 | c::l,hl,h=>by
  simp only[zdk]at h
  split at h
  ·rename_i v hv
   obtain⟨hra,h⟩:=W0 h
   split at h
   ·rename_i t ht
    have htm:∀t,RepA w S γ σ.m (argsA 0 as t) (vals.getD t undef):=fun t=>by
     have:=zpc (rest:=[]) 0 t hr
     simpa using this
    obtain⟨γi,g1,g2,hmi,hrep,hq,hdist⟩:=y90 (g:=fun src _=>zos (argsA 0 as) σ.m src) hrel.mem htm (zoa c.cin.objs) hv
    have hvals:c.cin.tms.map (fun t=>vals.getD t undef)=vals:=zu6 hra hr.length (fun i=>by rw[bk])
    rw[hvals]at hrep
    have hmi':MemRel w S γi (mofO c.cin.objs v.2) (fun k=>k<w.heap.size/\∀n q,mofO c.cin.objs v.2 n=some q->q.live=true->(γi n).blk≠some k):=
     ⟨hmi.obj,hmi.low,hmi.apart,fun n q b hn hlq hbk h=>h.2 n q hn hlq hbk⟩
    obtain⟨k1,k2⟩:=hl c (by simp) w S γi _ v vals t _ σ' hmi' (fun k h=>h.1) hrep ht h
    refine⟨k1,k2.mono ?_⟩
    rintro e w' ⟨x,S',γ',τ,ns,rfl,hback,hok⟩
    have hnames:∀n d',z00 n (renC (argsA 0 as) σ.m c.cin.objs)=some (some d')->∃q,mofO c.cin.objs v.2 n=some q:=fun n d' hlk=>by
     rw[zoa]at hlk
     exact zou (g:=fun src _=>zos (argsA 0 as) σ.m src) hlk
    obtain⟨S'',γ'',h1,h2,_⟩:=ycc hrel hnames g1 g2 hmi hq (ex:=fun _=>False) (fun _ _ h=>h) (fun _ _ h=>h) (fun _ _ _ _ _ _ h=>h) rfl hok hdst hd hback
    exact⟨x,rfl,S'',γ'',h1,h2⟩
   ·cases h
  ·exact y2k hrel hr hdst hd (fun c' hc'=>hl c' (aF _ hc')) h
end Go.Dv
