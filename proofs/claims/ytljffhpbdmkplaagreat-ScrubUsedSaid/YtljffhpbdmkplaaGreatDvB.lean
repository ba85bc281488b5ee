/- Places: fields and elements; parts of slices and strings. -/
import Derived.Test.YtljffhpbdmkplaaGreatDvA
set_option linter.all false
open Array renaming ext'->bC,length_toList->bT,toList_setIfInBounds->dm
open Bool renaming and_eq_true->ab,and_true->bv,not_eq_true'->au
open List renaming all_cons->bc,append_assoc->aU,append_nil->aj,cons->bW,cons_append->ba,eq_nil_of_length_eq_zero->aF,getElem?_append_left->bN,getElem?_append_right->bL,getElem?_drop->cY,getElem?_eq_getElem->aI,getElem?_eq_some_iff->aO,getElem?_take->dr,getElem?_toArray->dR,length->ak,length_cons->ag,length_nil->aJ,length_replicate->cn,map_cons->aC,map_nil->cm,mem_cons->ar,mem_cons_of_mem->ay,mem_map->aH,nodup_cons->bH,range->bF,replicate->az,singleton_append->dS,toArray->bX
open Nat renaming add_assoc->cI,add_mul->cy,add_zero->bD,beq->ax,beq_eq->cr,beq_refl->cS,ble->bG,blt->cj,blt_eq->cE,eq_of_beq_eq_true->af,le_refl->ai,lt_or_gt_of_ne->dY,min->eI,mul_le_mul_right->bn,mul_one->dW,zero_add->bk
open Option renaming bind_assoc->aW,bind_none->dI,bind_some->ac,map_none->cX,map_some->aK,some->aL
namespace Go.Dv
open Go.RowKit
variable [LTab]
variable {R:Type}
section core
variable {P:Program} {E:Env} (hE:∀t ti,E.ty t=some ti->TIok P t ti) {w:World} {S:Nat->Prop} {γ:Nat->Loc} {m:Nat->Option MO} {base:Nat->Prop} (hm:MemRel w S γ m base)
 {ev:Operand->AV} {el:Operand->Value} (hev:∀x,RepA w S γ m (ev x) (el x)) {K:AV->Option MO->Option R} {r:R}
def yzn(v:AV)(n:Nat):Option AV:=match v with
 | .ptr k off=>some (.ptr k (off+n))
 | .bx cs off=>some (.bx cs (off+n))
 | .ro t y off=>some (.ro t y (off+n))
 | .oel k i off=>some (.oel k i (off+n))
 | _=>none
theorem yi0{v v':AV}{x:Value}{n:Nat}(h:RepA w S γ m v x)(hv:yzn v n=some v'):∃b o,x= .pointer (some ⟨b,o,none⟩)/\RepA w S γ m v' (.pointer (some ⟨b,o+n,none⟩)):=by
 unfold yzn at hv;split at hv
 ·cases hv;obtain⟨cs,s,b,h1,h2,rfl⟩:=h;exact⟨b,_,rfl,cs,s,b,h1,h2,rfl⟩
 ·cases hv;obtain⟨b,vs,rfl,h2⟩:=h;exact⟨b,_,rfl,b,vs,rfl,h2⟩
 ·cases hv;obtain⟨b,o,cs,rfl,h2⟩:=h;exact⟨b,_,rfl,b,o,cs,by simp,h2⟩
 ·cases hv;obtain⟨t,xs,s,b,h1,h2,h3,rfl⟩:=h;exact⟨b,_,rfl,t,xs,s,b,h1,h2,h3,by simp⟩
 grind
theorem y8t{v:AV}{n:Nat}{r:R}(h:(match v with
  | .ptr k off=>K (.ptr k (off+n)) none
  | .bx cs off=>K (.bx cs (off+n)) none
  | .ro t y off=>K (.ro t y (off+n)) none
  | .oel k i off=>K (.oel k i (off+n)) none
  | _=>none)=some r):∃v',yzn v n=some v'/\K v' none=some r:=by
 split at h
 ·exact⟨_,rfl,h⟩
 ·exact⟨_,rfl,h⟩
 ·exact⟨_,rfl,h⟩
 ·exact⟨_,rfl,h⟩
 grind
include hE in
theorem ysd{t:TypeId}{ti:TI}(hti:E.ty t=some ti){cs:List AV}{vs:List Value}(hr:RepAs w S γ m cs vs)(ha:U7 cs=true){off:Nat}{v:AV}(hv:z2c ti off cs=some v):
  ∃x,(part t vs.toArray off).run P w= .ok x w/\RepA w S γ m v x:=by
 unfold z2c at hv;rcases bif_some hv with⟨h1,h2⟩ | ⟨_,h2⟩
 ·have h1':off+ti.size<=cs.length:=by simpa using h1
  have hlen:=hr.length;have hr':RepAs w S γ m ((cs.drop off).take ti.size) ((vs.drop off).take ti.size):=RepAs.take _ (RepAs.drop _ hr);refine⟨_, ?_,yi2 h2 hr' (zpl _ (zpm _ ha))⟩;unfold part;rw[Sem.run_bind,y38 hE w hti];cases hg:ti.d.agg with
  | true=>simp[z0a hE w hti,aggV]
  | false=>
   have h1:=(hE t ti hti).one hg;have hlt:off<vs.length:=by omega
   simp[aggV,hlt,h1]
 ·cases h2
include hE hev in
theorem yc9{o:Oper}{s:TypeId}{x:Operand}{f:Nat}(ho:o.op= .fieldAddr s x f)(h:W2 E o.dst o.op ev m K=some r):CoreOk w S γ m o.dst ((execOp el o).run P w) K r:=by
 rw[ho]at h;simp only[W2]at h;split at h
 ·rename_i ti hti;obtain⟨d,hd1,hd2⟩:=z4j hE w hti;split at h
  ·rename_i fs hfs;rw[hfs]at hd2;obtain⟨a,rfl,rfl⟩:=zva hd2;split at h
   ·rename_i fo ft hf;obtain⟨fd,g1,g2,g3⟩:=yik hf;split at h
    ·rename_i fi hfi;obtain⟨hpos,h⟩:=X7 h;have hpos:0<fi.size:=by simpa using hpos
     obtain⟨v',hv',hk⟩:=y8t h;obtain⟨b,off,hx,hrep⟩:=yi0 (hev x) hv';refine .pure ?_ hrep hk;have hs:(sizeOf fd.type).run P w= .ok fi.size w:=by rw[g3];exact z0a hE w hfi
     have hne:fi.size≠0:=by omega
     simp[execOp,ho,Instr.fieldAt,hd1,g1,hx,Instr.sureAddr,fieldPlace,hs,hne,zof,g2]
    ·cases h
   ·cases h
  ·cases h
 ·cases h
theorem yq0{t:Ty}{xs:List t.T}{x:Value}(h:RepT w S (.list t) xs [x]){i:Int}(hi:inB i xs.length=true):
  ∃b o cap,x= .slice (some ⟨b,o,none⟩) xs.length cap/\RepA w S γ m (.ro t (rd t xs i) 0) (.pointer (some ⟨b,o+i.toNat*t.size,none⟩)):=by
 obtain⟨ao,cap,k1,k2,k3,k4,k5⟩:=h;simp only[bW.injEq,and_true]at k1;obtain⟨a,c,e,hs,hr,hc⟩:=k5 i.toNat _ (x0p hi);subst e;have hl0:xs.length≠0:=by simp only[inB,ab,decide_eq_true_eq]at hi;omega
 have ha:=y4y (k4 a rfl hl0);refine⟨a.block,a.off,cap,by grind,a.block,a.off+i.toNat*t.size,c,rfl,hs,hr,hc⟩
include hE hm hev in
theorem yc8{o:Oper}{T:TypeId}{x i:Operand}(ho:o.op= .indexAddr T x i)(h:W2 E o.dst o.op ev m K=some r):CoreOk w S γ m o.dst ((execOp el o).run P w) K r:=by
 rw[ho]at h;simp only[W2]at h;have hx:=hev x;have hi:=hev i;split at h
 ·rename_i ki iv hiv;rw[hiv]at hi;simp only[RepA]at hi;split at h
  ·rename_i ti hti;obtain⟨d,hd1,hd2⟩:=z4j hE w hti;split at h
   ·rename_i e hte;rw[hte]at hd2;have:=zsc hd2;subst this;split at h
    ·rename_i ei hei;have hs:=z0a hE w hei;have fin:∀{t:Ty} {xs:List t.T},RepT w S (.list t) xs [el x]->(ax t.size ei.size&&inB iv xs.length)=true->K (.ro t (rd t xs iv) 0) none=some r->CoreOk w S γ m o.dst ((execOp el o).run P w) K r:=by
      intro t xs hrep hb hk;simp only[ab,cr]at hb;obtain⟨b,oo,cap,k1,k2⟩:=yq0 (γ:=γ) (m:=m) hrep hb.2;refine .pure ?_ k2 hk;have hin:=hb.2;simp only[inB,ab,decide_eq_true_eq]at hin;simp[execOp,ho,Instr.indexAt,hi,k1,asIntOf,hd1,hin.1,hin.2,hs,zof,hb.1]
     split at h
     ·rename_i t xs he;obtain⟨hb,h⟩:=X7 h;rw[he]at hx;exact fin hx hb h
     ·rename_i t xs he;obtain⟨hb,h⟩:=X7 h;rw[he]at hx;exact fin hx.2 hb h
     ·rename_i n he;rw[he]at hx;split at h
      ·rename_i t xs hn;obtain⟨hb,h⟩:=X7 h;simp only[ab,cr]at hb;obtain⟨t0,xs0,s0,k1,k2⟩:=hx;have hob:RowRel w S (γ n) t xs .live:=hm.obj n _ hn;rw[hn]at k1;cases k1;have hin:=hb.2;simp only[inB,ab,decide_eq_true_eq]at hin;have hlt:iv.toNat<xs.length:=by omega
       cases ha:(γ n).a with
       | none=>have h1:=hob.nil ha;have h2:=hob.len;omega
       | some a=>obtain⟨b,arr,el',fz,e1,e2,_⟩:=hob.row a ha;subst e1;rw[ha]at k2;refine .pure (v:= .oel n iv.toNat 0) (x:= .pointer (some ⟨b,iv.toNat*ei.size,none⟩)) ?_ ⟨t,xs, .live,b,hn,ha,hlt,by rw[hb.1];rfl⟩ h;simp[execOp,ho,Instr.indexAt,hi,k2,asIntOf,hd1,hin.1,hin.2,hs,zof]
      ·rename_i t xs hn;obtain⟨hb,h⟩:=X7 h;have hrep:RepT w S (.list t) xs [el x]:=by
        obtain⟨t0,xs0,s0,k1,k2⟩:=hx;have hob:RowRel w S (γ n) t xs .still:=hm.obj n _ hn;rw[hn]at k1;cases k1;rw[k2];refine y74 hob (fun _ h=>h) fun a ha=> ?_;obtain⟨b,_,_,_,e1,_,_,_,_,_,e7⟩:=hob.row a ha;subst e1;exact e7 rfl
       exact fin hrep hb h
      ·rename_i t xs j r hn;obtain⟨hb,h⟩:=X7 h;simp only[ab,cr]at hb;obtain⟨t0,xs0,s0,k1,k2⟩:=hx;have hob:HoleRel w S γ m (γ n) t xs j r:=hm.obj n _ hn;rw[hn]at k1;cases k1;have hin:=hb.2;simp only[inB,ab,decide_eq_true_eq]at hin;have hlt:iv.toNat<xs.length:=by omega
       obtain⟨b,arr,el',fz,ha,e2,_⟩:=hob.row;rw[ha]at k2;refine .pure (v:= .oel n iv.toNat 0) (x:= .pointer (some ⟨b,iv.toNat*ei.size,none⟩)) ?_ ⟨t,xs, .hole j r,b,hn,ha,hlt,by rw[hb.1];rfl⟩ h;simp[execOp,ho,Instr.indexAt,hi,k2,asIntOf,hd1,hin.1,hin.2,hs,zof]
      ·cases h
     ·cases h
    ·cases h
   ·rename_i len e hte;rw[hte]at hd2;have:=y4d hd2;subst this;split at h
    ·rename_i ei hei;have hs:=z0a hE w hei;obtain⟨j,hj,hb,h⟩:=zn5 h;obtain⟨v',hv',hk⟩:=y8t h;obtain⟨b,off,hx,hrep⟩:=yi0 (hev x) hv';refine .pure ?_ hrep hk;have h0:(0:Int)<=(j:Int):=by omega
     have h1:(j:Int)<(len:Int):=by omega
     simp[execOp,ho,Instr.indexAt,hi,hj,hx,asIntOf,hd1,h0,hb,hs,zof,Instr.sureAddr]
    ·cases h
   ·cases h
  ·cases h
 ·cases h
include hE hev in
theorem yq8{o:Oper}{T:TypeId}{x i:Operand}(ho:o.op= .index T x i)(h:W2 E o.dst o.op ev m K=some r):CoreOk w S γ m o.dst ((execOp el o).run P w) K r:=by
 rw[ho]at h;simp only[W2]at h;have hx:=hev x;have hi:=hev i;split at h
 ·rename_i ki iv hiv;rw[hiv]at hi;simp only[RepA]at hi;split at h
  ·rename_i ti hti;obtain⟨d,hd1,hd2⟩:=z4j hE w hti;split at h
   ·rename_i s hts hs;rw[hts]at hd2;have:=zo8 hd2;subst this;rw[hs]at hx;simp only[RepA]at hx;obtain⟨hb,h⟩:=X7 h;simp only[inB,ab,decide_eq_true_eq]at hb;have hlt:iv.toNat<s.length:=by omega
    refine .pure (v:= .int .u8 (bt s iv)) (x:= .int .u8 (bt s iv)) ?_ rfl h;have hg:(⟨s.toArray⟩:ByteArray)[iv.toNat]? =some s[iv.toNat]:=by rw[getElem?_pos _ _ (by simpa[ByteArray.size] using hlt)];rfl
    simp[execOp,ho,Instr.index,hi,hx,asIntOf,hd1,hb.1,hg,bt,hlt]
   ·rename_i len e cs hts hcs;rw[hts]at hd2;have:=y4d hd2;subst this;rw[hcs]at hx;obtain⟨vs,hxv,hr,ha⟩:=hx;split at h
    ·rename_i ei hei;obtain⟨j,hj,hb,h2⟩:=zn5 h;clear h;subst hj;split at h2
     ·rename_i v hv;obtain⟨y,hy,hv'⟩:=ysd (P:=P) hE hei hr ha hv;refine .pure (x:=y) ?_ hv' h2;have hs:=z0a hE w hei;have h0:(0:Int)<=(j:Int):=by omega
      have h1:((j:Int))<(len:Int):=by omega
      simp[execOp,ho,Instr.index,hi,hxv,asIntOf,hd1,h0,hb,hs,hy]
     ·cases h2
    ·cases h
   ·cases h
  ·cases h
 ·cases h
include hE hev in
theorem yq9{o:Oper}{T:TypeId}{x:Operand}{f:Nat}(ho:o.op= .field T x f)(h:W2 E o.dst o.op ev m K=some r):CoreOk w S γ m o.dst ((execOp el o).run P w) K r:=by
 rw[ho]at h;simp only[W2]at h;have hx:=hev x;split at h
 ·rename_i ti hti;obtain⟨d,hd1,hd2⟩:=z4j hE w hti;split at h
  ·rename_i fs cs hfs hcs;rw[hfs]at hd2;obtain⟨a,rfl,rfl⟩:=zva hd2;rw[hcs]at hx;obtain⟨vs,hxv,hr,ha⟩:=hx;split at h
   ·rename_i fo ft hf;obtain⟨fd,g1,g2,g3⟩:=yik hf;split at h
    ·rename_i fi hfi;split at h
     ·rename_i v hv;obtain⟨y,hy,hv'⟩:=ysd (P:=P) hE hfi hr ha hv;refine .pure (x:=y) ?_ hv' h;simp[execOp,ho,Instr.field,hxv,hd1,g1,g2,g3,asAgg,hy]
     ·cases h
    ·cases h
   ·cases h
  ·cases h
 ·cases h
end core
variable {R:Type}
section core
variable {P:Program} {E:Env} (hE:∀t ti,E.ty t=some ti->TIok P t ti) {w:World} {S:Nat->Prop} {γ:Nat->Loc} {m:Nat->Option MO} {base:Nat->Prop} (hm:MemRel w S γ m base)
 {ev:Operand->AV} {el:Operand->Value} (hev:∀x,RepA w S γ m (ev x) (el x)) {K:AV->Option MO->Option R} {r:R}
include hev in
theorem bound_ok{lo:Option Operand}{d l:Int}(h:zrm (lo.map ev) d=some l):(lo=none/\l=d)\/∃x k,lo=some x/\el x= .int k l:=by
 cases lo with
 | none=>simp only[cX,zrm,aL.injEq]at h;exact .inl ⟨rfl,h.symm⟩
 | some x=>
  have hx:=hev x;cases hq:ev x<;>rw[hq]at hx<;>simp only[aK,hq,zrm]at h<;>try (cases h;done)
  cases h;exact .inr ⟨x,_,rfl,hx⟩
theorem zah{P:Program}{w:World}{k:IntKind}{i:Int}{y:Nat}{c:BoundsCode}(h0:0<=i)(h1:i<=y):(Instr.sliceBound (.int k i) y c).run P w= .ok i.toNat w:=by simp_all[Instr.sliceBound,asIntOf]
include hev in
theorem zj5{isS:Bool}{len cap:Nat}{lo hi:Option Operand}{l h:Int}(hl:zrm (lo.map ev) 0=some l)(hh:zrm (hi.map ev) len=some h)(h0:0<=l)(h1:l<=h)(h2:h<=len)(h3:len<=cap):
  (Instr.sliceBounds isS len cap (lo.map el) (hi.map el) none).run P w= .ok (l.toNat,h.toNat,cap) w:=by
 have hc:h<=(cap:Int):=by omega
 have hn:(h.toNat:Int)=h:=by omega
 have e1:((match hi.map el with | some v=>Instr.sliceBound v cap (if isS=true then .sliceAcap else .sliceAlen) | none=>pure len):Sem Nat).run P w= .ok h.toNat w:=by
  rcases bound_ok hev hh with⟨rfl,rfl⟩ | ⟨x,k,rfl,e⟩
  ·simp
  ·simp only[aK,e];exact zah (by omega) hc
 have e2:((match lo.map el with | some v=>Instr.sliceBound v h.toNat .sliceB | none=>pure 0):Sem Nat).run P w= .ok l.toNat w:=by
  rcases bound_ok hev hl with⟨rfl,rfl⟩ | ⟨x,k,rfl,e⟩
  ·simp
  ·simp only[aK,e];exact zah h0 (by omega)
 cases hi with
 | none=>
  cases lo with
  | none=>simp only[cX]at e1 e2|-;simp[Instr.sliceBounds]at e1 e2|-;exact⟨e2,e1⟩
  | some x=>simp only[cX,aK]at e1 e2|-;simp[Instr.sliceBounds]at e1|-;rw[<-e1]at e2;rw[e2];simp[e1]
 | some y=>
  cases lo with
  | none=>simp only[cX,aK]at e1 e2|-;simp[Instr.sliceBounds,e1]at e2|-;exact e2
  | some x=>simp only[aK]at e1 e2|-;simp[Instr.sliceBounds,e1,e2]
theorem yuo{α:Type}{xs:List α}{l h:Int}{i:Nat}{x:α}(hx:getq (cut2 xs l h) i=some x):getq xs (l.toNat+i)=some x:=by grind[getq,cut2]
theorem ziy{α:Type}{xs:List α}{l h:Int}(_h0:0<=l)(h1:l<=h)(h2:h<=xs.length):(cut2 xs l h).length=h.toNat-l.toNat:=by grind[cut2]
theorem yob{t:Ty}{xs:List t.T}{ao:Option Addr}{cap mx:Nat}{l h:Int}(hr:RepT w S (.list t) xs [.slice ao xs.length cap])(_h0:0<=l)(h1:l<=h)(h2:h<=xs.length)(h3:h<=mx)(h4:mx<=cap):
  RepT w S (.list t) (cut2 xs l h) [.slice (if mx=l.toNat then ao else ao.map (·.add (l.toNat*t.size))) (h.toNat-l.toNat) (mx-l.toNat)]:=by
 obtain⟨ao',cap',k1,k2,k3,k4,k5⟩:=hr;simp only[bW.injEq,and_true,Value.slice.injEq]at k1;obtain⟨rfl,-,rfl⟩:=k1;refine⟨_,mx-l.toNat,by rw[ziy (xs:=xs) _h0 h1 h2],by grind[ziy], ?_, ?_, ?_⟩
 ·intro e;split at e
  all_goals simp_all
 ·intro a e hn0;have hx0:xs.length≠0:=by grind[ziy]
  split at e
  ·grind
  ·cases ao with
   | none=>grind
   | some b=>
    simp only[aK,aL.injEq]at e;subst e;have:=k4 b rfl hx0
    grind[Addr.add]
 ·intro i x hx;have hx':=yuo hx;have hi:=zkd hx;rw[ziy (xs:=xs) _h0 h1 h2]at hi;obtain⟨a,c,e,hs,hrr,hc⟩:=k5 _ x hx';subst e;have hx0:xs.length≠0:=by omega
  have ha:=y4y (k4 a rfl hx0);have hne:mx≠l.toNat:=by omega
  rw[if_neg hne];refine⟨a.add (l.toNat*t.size),c,rfl, ?_,hrr, ?_⟩
  all_goals grind[zof]
include hE hm hev in
theorem yq7{o:Oper}{T:TypeId}{x:Operand}{lo hi mx:Option Operand}(ho:o.op= .slice T x lo hi mx)(h:W2 E o.dst o.op ev m K=some r):CoreOk w S γ m o.dst ((execOp el o).run P w) K r:=by
 rw[ho]at h;simp only[W2]at h;have hx:=hev x;split at h
 ·rename_i ti hti;obtain⟨d,hd1,hd2⟩:=z4j hE w hti;split at h
  ·rename_i s hts hs;rw[hts]at hd2;have:=zo8 hd2;subst this;rw[hs]at hx;simp only[RepA]at hx;split at h
   ·split at h
    ·rename_i l hh hl' hh';obtain⟨hb,h⟩:=X7 h;simp only[ab,decide_eq_true_eq]at hb;obtain⟨b0,b1,b2⟩:=hb;have hsz:(⟨s.toArray⟩:ByteArray).size=s.length:=by simp[ByteArray.size]
     have hrun:=zj5 (P:=P) (w:=w) hev (isS:=false) (len:=s.length) (cap:=s.length) hl' hh' b0 b1 b2 (ai _);refine .pure (v:= .str (cut2 s l hh)) (x:= .string ⟨(cut2 s l hh).toArray⟩) ?_ rfl h;have hex:(⟨s.toArray⟩:ByteArray).extract l.toNat hh.toNat=⟨(cut2 s l hh).toArray⟩:=by apply ByteArray.ext;simp[cut2]
     simp[execOp,ho,Instr.sliceAt,Instr.slice,hx,hd1,hsz,hrun,hex]
    ·cases h
   ·cases h
  ·rename_i e hts;rw[hts]at hd2;have:=zsc hd2;subst this;split at h
   ·rename_i ee ei ty he;obtain⟨e1,e2,e3⟩:=z96 hE he;have hs:=z0a hE w e2;obtain⟨d',hd1',hd2'⟩:=z4j hE w hti;have hee:(underlying T).run P w= .ok (.slice ee) w:=run_underlying e1 w;rw[hee]at hd1;cases hd1;split at h
    ·rename_i xs hxs;have hrep:=zth hm hxs hx;obtain⟨ao,cap,k1,k2⟩:=hrep;simp only[bW.injEq,and_true]at k1;have hrep:RepT w S (.list ty) xs [.slice ao (ak xs) cap]:=⟨ao,cap,rfl,k2⟩;split at h
     ·rename_i l hh hl' hh';split at h
      ·obtain⟨hb,h⟩:=X7 h;simp only[ab,decide_eq_true_eq,cr]at hb;obtain⟨b3,b0,b1,b2⟩:=hb;have hrun:=zj5 (P:=P) (w:=w) hev (isS:=true) (len:=ak xs) (cap:=cap) hl' hh' b0 b1 b2 k2.1;have hfin:=yob hrep b0 b1 b2 (mx:=cap) (by have:=k2.1;omega) (ai _);refine .pure (v:= .list ty (cut2 xs l hh)) (x:=_) ?_ hfin h;simp[execOp,ho,Instr.sliceAt,Instr.slice,k1,hee,hrun,hs,b3]
      ·rename_i mx';have hmx:=hev mx';split at h
       ·rename_i kq q hq;rw[hq]at hmx;simp only[RepA]at hmx;obtain⟨hb,h⟩:=X7 h;simp only[ab,decide_eq_true_eq,cr]at hb;obtain⟨b3,⟨b0,b1,b2⟩,b4,b5⟩:=hb;have b4:q=hh:=by simpa[eqi] using b4
        subst b4;have hcapq:q<=(cap:Int):=by have:=k2.1;omega
        have hfin:=yob hrep b0 b1 b2 (mx:=q.toNat) (by omega) (by omega);have hlen:(cut2 xs l q).length=q.toNat-l.toNat:=ziy (xs:=xs) b0 b1 b2;have hrun:(Instr.sliceBounds true (ak xs) cap (lo.map el) (hi.map el) (some (el mx'))).run P w= .ok (l.toNat,q.toNat,q.toNat) w:=by
         have hqn:(q.toNat:Int)=q:=by omega
         have m1:(Instr.sliceBound (el mx') cap .slice3Acap).run P w= .ok q.toNat w:=by rw[hmx];exact zah (by omega) hcapq
         have m2:∀y k,hi=some y->el y= .int k q->(Instr.sliceBound (el y) q.toNat .slice3B).run P w= .ok q.toNat w:=by intro y k _ e;rw[e];exact zah (by omega) (by omega)
         have m3:((match lo.map el with | some v=>Instr.sliceBound v q.toNat .slice3C | none=>pure 0):Sem Nat).run P w= .ok l.toNat w:=by
          rcases bound_ok hev hl' with⟨rfl,rfl⟩ | ⟨x,k,rfl,e⟩
          ·simp
          ·simp only[aK,e];exact zah b0 (by omega)
         cases hi with
         | none=>simp at b5
         | some y=>
          rcases bound_ok hev hh' with⟨e,_⟩ | ⟨y',k,e,e'⟩
          ·cases e
          ·cases e;cases lo with
           | none=>simp[Instr.sliceBounds,m1,m2 y k rfl e']at m3|-;exact m3
           | some x=>simp only[aK]at m3|-;simp[Instr.sliceBounds,m1,m2 y k rfl e',m3]
        refine .pure (v:= .clip ty (cut2 xs l q)) (x:=_) ?_ ⟨?_,hfin⟩ h
        ·simp[execOp,ho,Instr.sliceAt,Instr.slice,k1,hee,hrun,hs,b3]
        ·exact⟨_,by rw[hlen]⟩
       ·cases h
     ·cases h
    ·cases h
   ·cases h
  ·cases h
 ·cases h
end core
variable {R:Type}
theorem y8x(off:Nat):∀(vs:List Value) (k:Nat) (cells:Array Value),off+k+vs.length<=cells.size->
  (List.foldl (fun cs (x:Value×Nat)=>cs.setIfInBounds (off+x.2) x.1) cells (vs.zipIdx k)).toList=cells.toList.take (off+k)++vs++cells.toList.drop (off+k+vs.length)
 | [],k,cells,_=>by simp
 | v::vs,k,cells,h=>by
  simp only[ag]at h;simp only[List.zipIdx_cons,List.foldl_cons];have hi:off+k<cells.size:=by omega
  have ih:=y8x off vs (k+1) (cells.setIfInBounds (off+k) v) (by simp;omega);rw[ih];have e:=list_seg_step cells.toList (off+k) v vs (by simp;omega);rw[<-cI];simpa[dm,cI] using e
theorem yig{place:Nat->Option (Nat×Nat)}{cells:Array Value}{i:Nat}{v:Value}{rest:List (Nat×Value)}{off size:Nat}(hp:place i=some (off,size))(hs:v.cells.size=size)(hl:off+size<=cells.size):
  Instr.fill place cells ((i,v)::rest)=Instr.fill place (cells.toList.take off++v.cells.toList++cells.toList.drop (off+size)).toArray rest:=by
 simp only[Instr.fill,hp];rw[if_neg (by grind)];congr 1;apply bC;have:=y8x off v.cells.toList 0 cells (by grind);simp only[bD,bT,hs]at this
 grind[Array.toList_zipIdx]
theorem y84{w:World}{S:Nat->Prop}{γ:Nat->Loc}{m:Nat->Option MO}{ev:Operand->AV}{el:Operand->Value}(hev:∀x,RepA w S γ m (ev x) (el x)){place:Nat->Option (Nat×Nat)}:
  ∀(parts:List (Nat×Operand)) (cells:List AV) (vals:Array Value) (cs:List AV),RepAs w S γ m cells vals.toList->U7 cells=true->
   ykx place cells (parts.map fun p=>(p.1,ev p.2))=some cs->∃vs,Instr.fill place vals (parts.map fun p=>(p.1,el p.2))=some vs/\RepAs w S γ m cs vs.toList/\U7 cs=true/\cs.length=cells.length
 | [],cells,vals,cs,hr,ha,h=>by simp only[cm,ykx,aL.injEq]at h;subst h;exact⟨vals,rfl,hr,ha,rfl⟩
 | (i,x)::parts,cells,vals,cs,hr,ha,h=>by
  simp only[aC,ykx]at h;split at h
  ·cases h
  ·rename_i off size hp;rcases bif_some h with⟨hb,h⟩ | ⟨_,h⟩
   ·simp only[ab,cr,Nat.ble_eq]at hb;obtain⟨⟨b1,b2⟩,b3⟩:=hb;have hc:=zxf (hev x) b3;have hl:=hc.length;have hl2:=hr.length;simp only[bT]at hl hl2;have hr':RepAs w S γ m (z1p off (ev x).cells cells) (vals.toList.take off++(el x).cells.toList++vals.toList.drop (off+size)):=by
     unfold z1p;rw[b1];exact((hr.take off).append hc).append (hr.drop _)
    have ha':U7 (z1p off (ev x).cells cells)=true:=by grind[z1p,z52,zpl,zpm]
    obtain⟨vs,k1,k2,k3,k4⟩:=y84 hev parts _ (vals.toList.take off++(el x).cells.toList++vals.toList.drop (off+size)).toArray cs (by omega) ha' h
    grind[z1p,yig]
   grind
section core
variable {P:Program} {E:Env} (hE:∀t ti,E.ty t=some ti->TIok P t ti) {w:World} {S:Nat->Prop} {γ:Nat->Loc} {m:Nat->Option MO} {base:Nat->Prop} (hm:MemRel w S γ m base)
 {ev:Operand->AV} {el:Operand->Value} (hev:∀x,RepA w S γ m (ev x) (el x)) {K:AV->Option MO->Option R} {r:R}
include hE in
theorem ymk:∀{fs:List Field} {l:List (Nat×Nat)},ypj E (fs.map fun f=>(f.offset,f.type))=some l->(fs.mapM fun f=>(do pure (f.offset,<-sizeOf f.type):Sem (Nat×Nat))).run P w= .ok l w
 | [],l,h=>by simp only[cm,ypj,aL.injEq]at h;subst h;simp
 | f::fs,l,h=>by
  simp only[aC,ypj]at h;split at h
  ·rename_i ti hti;split at h
   ·rename_i l' hl';cases h;have ih:=ymk hl';simp only[List.mapM_cons,Sem.run_bind,z0a hE w hti,Result.andThen_ok,Sem.run_pure,ih]
   ·cases h
  ·cases h
include hE hev in
theorem yqa{o:Oper}{t:TypeId}{parts:Array (Nat×Operand)}(ho:o.op= .build t parts)(h:W2 E o.dst o.op ev m K=some r):CoreOk w S γ m o.dst ((execOp el o).run P w) K r:=by
 rw[ho]at h;simp only[W2]at h;split at h
 ·rename_i ti hti;obtain⟨d,hd1,hd2⟩:=z4j hE w hti;obtain⟨z,z1,z2,z3⟩:=zvb hE w hti;have hz:RepAs w S γ m (ti.zero.map Z.av) z.cells.toList:=ye9 z2;have hp:(parts.map fun(i,x)=>(i,el x)).toList=parts.toList.map fun p=>(p.1,el p.2):=by simp
  split at h
  ·rename_i fs hfs;rw[hfs]at hd2;obtain⟨a,rfl,rfl⟩:=zva hd2;split at h
   ·rename_i l hl;have hsz:=ymk (P:=P) hE (w:=w) hl;split at h
    ·rename_i cs hcs;obtain⟨vs,k1,k2,k3,_⟩:=y84 hev parts.toList _ z.cells cs hz (zvo _) hcs;refine .pure (v:= .agg cs) (x:= .agg vs) ?_ ⟨vs.toList,by simp,k2,k3⟩ h;have hm':(a.mapM fun f=>(do pure (f.offset,<-sizeOf f.type):Sem (Nat×Nat))).run P w= .ok l.toArray w:=by
      rw[Array.mapM_eq_mapM_toList];simp only[Sem.run_map,hsz,Result.andThen_ok]
     have hpl:(fun i:Nat=>l.toArray[i]?)=fun i:Nat=>l[i]? :=by funext i;simp
     simp only[execOp,ho,Instr.build,Sem.run_bind,z1,hd1,Result.andThen_ok,hm',hp,hpl,k1];rfl
    ·cases h
   ·cases h
  ·rename_i n e hte;rw[hte]at hd2;have:=y4d hd2;subst this;split at h
   ·rename_i ei hei;have hs:=z0a hE w hei;split at h
    ·rename_i cs hcs;obtain⟨vs,k1,k2,k3,_⟩:=y84 hev parts.toList _ z.cells cs hz (zvo _) hcs;refine .pure (v:= .agg cs) (x:= .agg vs) ?_ ⟨vs.toList,by simp,k2,k3⟩ h;simp only[execOp,ho,Instr.build,Sem.run_bind,z1,hd1,Result.andThen_ok,hs,hp,k1];rfl
    ·cases h
   ·cases h
  ·cases h
 ·cases h
end core
def RowArr(w:World)(S:Nat->Prop)(t:Ty)(arr:List Value)(xs:List t.T):Prop:=
 arr.length=xs.length*t.size/\∀i (x:t.T),getq xs i=some x->∃c,RepT w S t x c/\∀j u,c[j]? =some u->arr[i*t.size+j]? =some u
theorem zdv{i k s:Nat}(h:i<k):i*s+s<=k*s:=by
 have:(i+1)*s<=k*s:=bn s h
 grind
def Rows(w:World)(S:Nat->Prop)(t:Ty)(arr:List Value)(xs:List t.T):Prop:=
 ∀i (x:t.T),getq xs i=some x->∃c,RepT w S t x c/\∀j u,c[j]? =some u->arr[i*t.size+j]? =some u
theorem Rows.set{w:World}{S:Nat->Prop}{t:Ty}{arr:List Value}{xs:List t.T}(h2:Rows w S t arr xs){i:Nat}{x:t.T}{c:List Value}(hi:i<xs.length)(hx:RepT w S t x c)(hle:i*t.size+t.size<=arr.length):
  Rows w S t (arr.take (i*t.size)++c++arr.drop (i*t.size+t.size)) (xs.set i x):=by
 have hc:=hx.length;intro k y hy;by_cases e:k=i
 ·subst e;have:y=x:=by
   have hy':(xs.set k x)[k]? =some y:=hy
   grind
  grind
 ·have hy':getq xs k=some y:=by
   have hy':(xs.set i x)[k]? =some y:=hy;rw[List.getElem?_set_ne (Ne.symm e)]at hy';exact hy'
  obtain⟨d,k1,k2⟩:=h2 k y hy';refine⟨d,k1,fun j u hj=> ?_⟩;have hjl:=(aO.1 hj).1;have hd:=k1.length;have:=k2 j u hj;rw[<-this];rcases dY e with hlt | hgt
  ·have:=zdv (s:=t.size) hlt
   grind
  ·have:=zdv (s:=t.size) hgt
   grind
theorem RowArr.set{w:World}{S:Nat->Prop}{t:Ty}{arr:List Value}{xs:List t.T}(h:RowArr w S t arr xs){i:Nat}{x:t.T}{c:List Value}(hi:i<xs.length)(hx:RepT w S t x c):
  RowArr w S t (arr.take (i*t.size)++c++arr.drop (i*t.size+t.size)) (xs.set i x):=by
 have hle:=zdv (s:=t.size) hi;have hc:=hx.length;have h1:=h.1;exact⟨by grind,Rows.set h.2 hi hx (by omega)⟩
theorem RowArr.made{w:World}{S:Nat->Prop}{t:Ty}{z:Array Value}(hz:RepT w S t t.dflt z.toList)(n:Nat):RowArr w S t (madeCells z (n*t.size)).toList (az n t.dflt):=by
 have hzs:z.size=t.size:=by have:=hz.length;omega
 refine⟨by simp[madeCells],fun i x hx=> ?_⟩;have hi:=zkd hx;simp only[cn]at hi;have hxe:x=t.dflt:=by
  have hx':(az n t.dflt)[i]? =some x:=hx
  grind
 subst hxe;refine⟨z.toList,hz,fun j u hj=> ?_⟩;have hjl:j<z.size:=by grind
 have hle:=zdv (s:=t.size) hi
 grind[madeCells,Nat.mul_comm,Nat.mul_add_mod,Nat.mod_eq_of_lt]
theorem yii{w:World}{S:Nat->Prop}{γ:Nat->Loc}{m:Nat->Option MO}{base:Nat->Prop}(hm:MemRel w S γ m base){ev:Operand->AV}{el:Operand->Value}(hev:∀x,RepA w S γ m (ev x) (el x)){t:Ty}:
  ∀(parts:List (Nat×Operand)) (arr:Array Value) (acc xs:List t.T),RowArr w S t arr.toList acc->y0x m t (parts.map fun p=>(p.1,ev p.2)) acc=some xs->
   ∃vs,Instr.fill (fun i=>some (i*t.size,t.size)) arr (parts.map fun p=>(p.1,el p.2))=some vs/\RowArr w S t vs.toList xs/\xs.length=acc.length
 | [],arr,acc,xs,hr,h=>by simp only[cm,y0x,aL.injEq]at h;subst h;exact⟨arr,rfl,hr,rfl⟩
 | (i,x)::parts,arr,acc,xs,hr,h=>by
  simp only[aC,y0x]at h;split at h
  ·rename_i y hy;rcases bif_some h with⟨hb,h⟩ | ⟨_,h⟩
   ·have hi:i<acc.length:=by simp_all
    have hone:U7 (ev x).cells=true:=x1o hy;have hc:=zxf (hev x) hone;have hT:=zyu hm hy hc;have hl:=hT.length;simp only[bT]at hl;have hle:=zdv (s:=t.size) hi;have hl2:=hr.1;simp only[bT]at hl2;obtain⟨vs,k1,k2,k3⟩:=yii hm hev parts (arr.toList.take (i*t.size)++(el x).cells.toList++arr.toList.drop (i*t.size+t.size)).toArray (acc.set i y) xs (by simpa using hr.set hi hT) h;refine⟨vs, ?_,k2,by grind⟩;simp only[aC];rw[yig (off:=i*t.size) (size:=t.size) rfl hl (by omega)];omega
   grind
  grind
section core2
variable {P:Program} {E:Env} (hE:∀t ti,E.ty t=some ti->TIok P t ti) {w:World} {S:Nat->Prop} {γ:Nat->Loc} {m:Nat->Option MO} {base:Nat->Prop} (hm:MemRel w S γ m base)
 {ev:Operand->AV} {el:Operand->Value} (hev:∀x,RepA w S γ m (ev x) (el x)) {K:AV->Option MO->Option R} {r:R}
include hE hm hev in
theorem yat{o:Oper}{t:TypeId}{n:Nat}{parts:Array (Nat×Operand)}(ho:o.op= .buildSlice t n parts)(h:W2 E o.dst o.op ev m K=some r):CoreOk w S γ m o.dst ((execOp el o).run P w) K r:=by
 rw[ho]at h;simp only[W2]at h;split at h
 ·rename_i e ei ty d he hd;obtain⟨e1,e2,e3⟩:=z96 hE he;obtain⟨y1,y2,y3,y4⟩:=(hE e _ e2).ty _ e3;obtain⟨hb,h⟩:=X7 h;have hb:n*ei.size<=16777216:=by simpa using hb
  split at h
  ·rename_i xs hxs;obtain⟨z,z1,z2,z3⟩:=zvb hE w e2;rw[y4]at z2;have hz:RepT w S ty ty.dflt z.cells.toList:=y4b z2;have hmade:=RowArr.made hz n;obtain⟨vs,k1,k2,k3⟩:=yii hm hev parts.toList (madeCells z.cells (n*ty.size)) _ xs hmade hxs;simp only[cn]at k3;have hp:(parts.map fun(i,x)=>(i,el x)).toList=parts.toList.map fun p=>(p.1,el p.2):=by simp
   have hs:=z0a hE w e2;refine CoreOk.newRow (w':=w.alloc (.cells vs e)) (xs:=xs) (arr:=vs) (cap:=n) hm hd ?_ (zpk _ _) (heap_alloc_new w _) ?_ (by omega) (by unfold maxLen;have:=Nat.le_mul_of_pos_right n y2;omega) (fun i _ hi=>by simp at hi) (fun i x hx=> ?_) h
   ·rw[k3];rw[y1]at k1;have hn:¬n*ei.size>2^24:=by omega
    by_cases h0:n*ei.size=0
    ·have hmc:madeCells z.cells 0= #[]:=by simp[madeCells]
     rw[h0,hmc]at k1;simp[execOp,ho,Instr.buildSlice,run_underlying e1,hs,h0,Array.range_zero',k1,newRow]
    ·have hmc:(Array.range (n*ei.size)).map (z.cells[·%z.cells.size]!)=madeCells z.cells (n*ei.size):=rfl;simp only[execOp,ho,Instr.buildSlice,Sem.run_bind,run_underlying e1,Result.andThen_ok,hs,Sem.run_ite,if_neg hn,if_neg h0,z1,Sem.run_pure,hmc,hp,k1];rfl
   ·have:=k2.1;simp only[bT]at this;rw[this,k3]
   ·obtain⟨c,f1,f2⟩:=k2.2 i x hx;exact⟨c,f1,fun j u hj=>by have:=f2 j u hj;simpa using this⟩
  ·cases h
 ·cases h
include hE hev in
theorem yc7{o:Oper}{t:TypeId}{n c:Operand}(hm:MemRel w S γ m base)(ho:o.op= .makeSlice t n c)(h:W2 E o.dst o.op ev m K=some r):CoreOk w S γ m o.dst ((execOp el o).run P w) K r:=by
 rw[ho]at h;simp only[W2]at h;have hn:=hev n;have hc:=hev c;split at h
 ·rename_i e ei ty d k1 n' k2 c' he hd hn' hc';rw[hn']at hn;rw[hc']at hc;simp only[RepA]at hn hc;obtain⟨e1,e2,e3⟩:=z96 hE he;obtain⟨y1,y2,y3,y4⟩:=(hE e _ e2).ty _ e3;obtain⟨hb,h⟩:=X7 h;simp only[ab,decide_eq_true_eq]at hb;obtain⟨⟨b1,b2⟩,b3,b4⟩:=hb;obtain⟨i,z,z1,z2,z3,z4,z5,z6⟩:=(hE e _ e2).inf;rw[y4]at z5;have hz:RepT w S ty ty.dflt z.cells.toList:=y4b z5;have hb':(i.bytes:Int)*c'<=281474976710656:=by rw[z3,Int.mul_comm];unfold maxB at b4;omega
  have hrun:=run_make (P:=P) w t e i z e1 z1 z4 k1 k2 n' c' b1 b2 hb' (by unfold maxB at b3;omega);have hmade:=RowArr.made hz c'.toNat;have hmade2:=RowArr.made hz n'.toNat;refine CoreOk.newRow (w':=w.alloc (.cells (madeCells z.cells (c'.toNat*i.size)) e)) (xs:=az n'.toNat ty.dflt) (cap:=c'.toNat) hm hd ?_ (zpk _ _) (heap_alloc_new w _) ?_ (by simp;omega) (by unfold maxLen;unfold maxB at b3;omega) (fun i _ hi=>by simp at hi) (fun i x hx=> ?_) h
  ·simp only[execOp,ho,hn,hc];rw[Sem.run_bind,hrun];simp
  ·rw[size_madeCells,z2,y1]
  ·have hi:=zkd hx;simp only[cn]at hi;have hxe:x=ty.dflt:=by
    have hx':(az n'.toNat ty.dflt)[i]? =some x:=hx;simp[hi]at hx';exact hx'.symm
   have hic:i<c'.toNat:=by omega
   obtain⟨c,f1,f2⟩:=hmade.2 i ty.dflt (by simp[getq,hic]);rw[hxe];refine⟨c,f1,fun j u hj=> ?_⟩;have:=f2 j u hj;rw[z2,<-y1];simpa using this
 ·cases h
include hE hev in
theorem yxk{o:Oper}{args:Array Operand}{ts:Array TypeId}(ho:o.op= .call ⟨.builtin .len,args,ts⟩)(h:W2 E o.dst o.op ev m K=some r):CoreOk w S γ m o.dst ((execOp el o).run P w) K r:=by
 rw[ho]at h;simp only[W2]at h;split at h
 ·rename_i x t hx' ht';have ha:args= #[x]:=by apply bC;simpa using hx'
  have hts:ts= #[t]:=by apply bC;simpa using ht'
  subst ha;subst hts;have hx:=hev x;split at h
  ·rename_i ti hti;obtain⟨d,hd1,hd2⟩:=z4j hE w hti;split at h
   ·rename_i hts;rw[hts]at hd2;have:=zo8 hd2;subst this;split at h
    ·rename_i s hs;rw[hs]at hx;simp only[RepA]at hx;refine .pure (v:= .int .i64 s.length) (x:= .int .i64 s.length) ?_ rfl h;have hsz:(⟨s.toArray⟩:ByteArray).size=s.length:=by simp[ByteArray.size]
     simp[execOp,ho,resolve,invoke,builtin,Builtin.len_,hd1,hx,goInt,hsz]
    ·cases h
   ·rename_i e hts;rw[hts]at hd2;have:=zsc hd2;subst this;split at h
    ·cases h
    ·split at h
     ·rename_i hns _ n hl;have hsl:∃ao cap,el x= .slice ao n.toNat cap/\(n.toNat:Int)=n:=by
       unfold lenA at hl;split at hl
       ·rename_i t' xs he;rw[he]at hx;obtain⟨ao,cap,k1,_⟩:=hx;simp only[bW.injEq,and_true]at k1;cases hl;exact⟨ao,cap,k1,rfl⟩
       ·rename_i t' xs he;rw[he]at hx;obtain⟨_,ao,cap,k1,_⟩:=hx;simp only[bW.injEq,and_true]at k1;cases hl;exact⟨ao,cap,k1,rfl⟩
       ·rename_i he;rw[he]at hx;simp only[RepA]at hx;cases hl;exact⟨none,0,hx,rfl⟩
       ·rename_i s he;exact absurd he (hns s)
       ·rename_i k he;rw[he]at hx;obtain⟨t0,xs0,s0,k1,k2⟩:=hx;split at hl
        ·rename_i _ t1 xs1 hn1;rw[k1]at hn1;cases hn1;cases hl;exact⟨_,_,k2,rfl⟩
        ·rename_i _ t1 xs1 hn1;rw[k1]at hn1;cases hn1;cases hl;exact⟨_,_,k2,rfl⟩
        ·cases hl
       ·cases hl
      obtain⟨ao,cap,e1,e2⟩:=hsl;refine .pure (v:= .int .i64 n) (x:= .int .i64 n) ?_ rfl h;simp[execOp,ho,resolve,invoke,builtin,Builtin.len_,hd1,e1,goInt];omega
     ·cases h
   ·rename_i n e hts;rw[hts]at hd2;have:=y4d hd2;subst this;refine .pure (v:= .int .i64 n) (x:= .int .i64 n) ?_ rfl h;simp[execOp,ho,resolve,invoke,builtin,Builtin.len_,hd1,goInt]
   ·cases h
  ·cases h
 ·cases h
include hev in
theorem yxi{o:Oper}{args:Array Operand}{ts:Array TypeId}(ho:o.op= .call ⟨.builtin .min,args,ts⟩)(h:W2 E o.dst o.op ev m K=some r):CoreOk w S γ m o.dst ((execOp el o).run P w) K r:=by
 rw[ho]at h;simp only[W2]at h;obtain⟨l,hl⟩:∃l,args=bX l:=⟨args.toList,by simp⟩;subst hl;simp only at h
 match l,ho,h with
 | [x,y],ho,h=>
  have hx:=hev x;have hy:=hev y;simp only[aC,cm]at h;split at h
  ·rename_i a b hab;simp only[bW.injEq,and_true]at hab;rw[hab.1]at hx;rw[hab.2]at hy;simp only[RepA]at hx hy;refine .pure (v:= .str (bif lts a b || eqs a b then a else b)) (x:= .string ⟨(bif lts a b || eqs a b then a else b).toArray⟩) ?_ rfl h;simp only[execOp,ho,resolve,invoke,builtin,Builtin.min_,Builtin.min2,hx,hy,Op.stringOp,asBool,lts,eqs,List.map_toArray,aC,cm,Sem.run_bind,Sem.run_pure,Result.andThen_ok,List.foldlM_cons,List.foldlM_nil,ByteArray.toList_mk];cases (Op.bytesLess a b || a==b)<;>rfl
  ·rename_i k a l' b hab;simp only[bW.injEq,and_true]at hab;rw[hab.1]at hx;rw[hab.2]at hy;simp only[RepA]at hx hy;split at h
   ·rename_i hk;have hk:=y78 hk;subst hk;refine .pure (v:= .int k (bif decide (b<a)then b else a)) (x:= .int k (bif decide (b<a)then b else a)) ?_ rfl h;by_cases hq:b<a<;>simp[execOp,ho,resolve,invoke,builtin,Builtin.min_,Builtin.min2,hx,hy,hq]
   ·cases h
  ·cases h
 | [],ho,h=>simp at h
 | [_],ho,h=>simp at h
 | _::_::_::_,ho,h=>simp at h
include hev in
theorem yxj{o:Oper}{args:Array Operand}{ts:Array TypeId}(ho:o.op= .call ⟨.builtin .max,args,ts⟩)(h:W2 E o.dst o.op ev m K=some r):CoreOk w S γ m o.dst ((execOp el o).run P w) K r:=by
 rw[ho]at h;simp only[W2]at h;obtain⟨l,hl⟩:∃l,args=bX l:=⟨args.toList,by simp⟩;subst hl;simp only at h
 match l,ho,h with
 | [x,y],ho,h=>
  have hx:=hev x;have hy:=hev y;simp only[aC,cm]at h;split at h
  ·rename_i a b hab;simp only[bW.injEq,and_true]at hab;rw[hab.1]at hx;rw[hab.2]at hy;simp only[RepA]at hx hy;refine .pure (v:= .str (bif !(lts a b)then a else b)) (x:= .string ⟨(bif !(lts a b)then a else b).toArray⟩) ?_ rfl h;simp[execOp,ho,resolve,invoke,builtin,Builtin.max_,Builtin.max2,hx,hy,Op.stringOp,asBool,lts];cases (Op.bytesLess a b)<;>simp
  ·rename_i k a l' b hab;simp only[bW.injEq,and_true]at hab;rw[hab.1]at hx;rw[hab.2]at hy;simp only[RepA]at hx hy;split at h
   ·rename_i hk;have hk:=y78 hk;subst hk;refine .pure (v:= .int k (bif decide (a<b)then b else a)) (x:= .int k (bif decide (a<b)then b else a)) ?_ rfl h;by_cases hq:a<b<;>simp[execOp,ho,resolve,invoke,builtin,Builtin.max_,Builtin.max2,hx,hy,hq]
   ·cases h
  ·cases h
 | [],ho,h=>simp at h
 | [_],ho,h=>simp at h
 | _::_::_::_,ho,h=>simp at h
end core2
variable {R:Type}
theorem za3(P:Program)(g o:Nat)(t:TypeId)(fz:Nat×Nat):∀(vs:List Value) (i:Nat) (cur:Array Value) (w:World),w.heap[g]? =some (.cells cur t fz)->fzW cur.size fz->o+i+vs.length<=cur.size->(∀v∈vs,v.oneCell'=true)->
  (storeCells ⟨g,o,none⟩ vs i).run P w= .ok () (w.setRow g (cur.toList.take (o+i)++vs++cur.toList.drop (o+i+vs.length)).toArray)
 | [],i,cur,w,hg,_,_,_=>by simp only[storeCells,aj,aJ,bD,List.take_append_drop,Array.toArray_toList];rw[setRow_self w g cur t fz hg];rfl
 | v::rest,i,cur,w,hg,hz,hl,h1=>by
  have hi:o+i<cur.size:=by simp at hl;omega
  have hadd:(⟨g,o,none⟩:Addr).add i=⟨g,o+i,none⟩:=by unfold Addr.add;split<;>simp_all
  have hcell:w.cell? ⟨g,o+i,none⟩=some cur[o+i]:=by simp[World.cell?,hg,hi]
  have hfro:w.frozen? ⟨g,o+i,none⟩=false:=by have:=hz (o+i) hi;simp only[World.frozen?,hg];obtain⟨lo,hi'⟩:=fz;simpa using this
  have hst:(store ((⟨g,o,none⟩:Addr).add i) v).run P w= .ok () (w.setRow g (cur.setIfInBounds (o+i) v)):=by rw[hadd,run_store P w _ v _ (h1 v (by simp)),hcell];simp[hfro,setCell_eq_setRow w g (o+i) cur t fz v hg]
  have ih:=za3 P g o t fz rest (i+1) (cur.setIfInBounds (o+i) v) (w.setRow g (cur.setIfInBounds (o+i) v)) (setRow_heap w g cur _ t _ hg) (by simpa using hz) (by simp at hl|-;omega) (fun x hx=>h1 x (by simp[hx]));simp only[storeCells,Sem.run_bind,hst,Result.andThen_ok,ih,setRow_setRow];congr 3;have e:=list_seg_step cur.toList (o+i) v rest (by simp at hl|-;omega);simpa[dm,cI] using e
structure Wrote (b:Nat) (w w':World):Prop where
 os:w'.os=w.os
 tape:w'.tape=w.tape
 output:w'.output=w.output
 size:w'.heap.size=w.heap.size
 block:∀k,k≠b->w'.heap[k]? =w.heap[k]?
 cells:∃arr el fz,w.heap[b]? =some (.cells arr el fz)
theorem Wrote.setRow(w:World)(g:Nat)(cs:Array Value){arr:Array Value}{el:TypeId}{fz:Nat×Nat}(hg:w.heap[g]? =some (.cells arr el fz)):Wrote g w (w.setRow g cs):=
 ⟨rfl,rfl,rfl,by simp,fun k hk=>setRow_other w g k cs hk,arr,el,fz,hg⟩
theorem Wrote.below{b:Nat}{base:Nat->Prop}{w w':World}(h:Wrote b w w')(hb:¬base b):Bel base w w':=
 ⟨h.os,h.tape,h.output,by rw[h.size];exact ai _,fun k hk=>h.block k (fun e=>hb (e▸hk)),fun k ds hk=>by
  have hne:k≠b:=fun e=>by obtain⟨arr,el,fz,hg⟩:=h.cells;rw[e,hg]at hk;cases hk
  rw[h.block k hne];exact hk⟩
theorem MemRel.write{w w':World}{S:Nat->Prop}{γ:Nat->Loc}{m:Nat->Option MO}{base:Nat->Prop}{n b:Nat}{o o':MO}(h:MemRel w S γ m base)(hn:m n=some o)(hl:o.live=true)(hb:(γ n).blk=some b)(hw:Wrote b w w')
  (hk:o'.kind=o.kind) (hS:¬S b) (ho:ObjRel w' S γ (mupd m n o') n o'):MemRel w' S γ (mupd m n o') base:=by
 have keep:Keeps m γ (mupd m n o') γ:=by
  intro k q hq;by_cases e:k=n
  ·subst e;rw[hn]at hq;cases hq;exact⟨o',V9 _ _ _,hk,rfl⟩
  ·exact⟨q,by rw[X4 _ _ e];exact hq,rfl,rfl⟩
 refine⟨fun k q hq=> ?_,fun c hc=>by rw[hw.size];exact h.low c hc, ?_, ?_⟩
 ·by_cases e:k=n
  ·subst e;rw[V9]at hq;cases hq;exact ho
  ·rw[X4 _ _ e]at hq
   exact ObjRel.later (h.obj k q hq) (fun c hc=>hw.block c (fun e=>hS (e▸hc))) (fun _ h=>h) keep rfl fun hlq c hc=>
    ⟨hw.block c (fun e'=>h.apart k n q o b hq hn hlq hl e (e'▸hc) hb),(ObjRel.notS (h.obj k q hq) hlq hc).1⟩
 ·intro k k' q q' c hq hq' hlq hlq' hne hc hc';have get:∀{k:Nat} {q:MO},mupd m n o' k=some q->q.live=true->∃q0,m k=some q0/\q0.live=true:=by
   intro k q hq hlq;by_cases e:k=n
   ·subst e;exact⟨o,hn,hl⟩
   ·rw[X4 _ _ e]at hq;exact⟨q,hq,hlq⟩
  obtain⟨q0,a1,a2⟩:=get hq hlq;obtain⟨q1,b1,b2⟩:=get hq' hlq';exact h.apart k k' q0 q1 c a1 b1 a2 b2 hne hc hc'
 ·intro k q c hq hlq hc;by_cases e:k=n
  ·subst e;exact h.high k o c hn hl hc
  ·rw[X4 _ _ e]at hq;exact h.high k q c hq hlq hc
theorem z0d{γ:Nat->Loc}{m:Nat->Option MO}{n:Nat}{o o':MO}(hn:m n=some o)(hk:o'.kind=o.kind):Keeps m γ (mupd m n o') γ:=by
 intro k q hq;by_cases e:k=n
 ·subst e;rw[hn]at hq;cases hq;exact⟨o',V9 _ _ _,hk,rfl⟩
 ·exact⟨q,by rw[X4 _ _ e];exact hq,rfl,rfl⟩
theorem zxc{m:Nat->Option MO}{n:Nat}{o o':MO}(hn:m n=some o){dd:Nat->Prop}:∀k,mupd m n o' k≠none->m k≠none\/dd k:=by
 intro k hk;by_cases e:k=n
 ·subst e;exact .inl (by rw[hn];simp)
 ·rw[X4 _ _ e]at hk;exact .inl hk
theorem y79{m:Nat->Option MO}{d:Nat}{o:MO}:∀k,mupd m d o k≠none->m k≠none\/k=d:=by
 intro k hk;by_cases e:k=d
 ·exact .inr e
 ·rw[X4 _ _ e]at hk;exact .inl hk
theorem yo9{m m':Nat->Option MO}{n:Nat}{o o':MO}{dd:Nat->Prop}(hn:m n=some o)(h:∀k,m' k≠none->mupd m n o' k≠none\/dd k):∀k,m' k≠none->m k≠none\/dd k:=by
 intro k hk;rcases h k hk with h | h
 ·by_cases e:k=n
  ·subst e;exact .inl (by rw[hn];simp)
  ·rw[X4 _ _ e]at h;exact .inl h
 ·exact .inr h
def WOk(dd:Nat->Prop)(base:Nat->Prop)(w:World)(S:Nat->Prop)(γ:Nat->Loc)(m:Nat->Option MO)(run:Result Next)(out:Option AV)(m':Nat->Option MO):Prop:=
 ∃w' γ' nx,run= .ok nx w'/\Bel base w w'/\(∀n,m' n≠none->m n≠none\/dd n)/\MemRel w' S γ' m' base/\Keeps m γ m' γ'/\(∀b,S b->w'.heap[b]? =w.heap[b]?)/\
  (match out with
  | none=>nx= .skip
  | some v=>∃x,nx= .value x/\RepA w' S γ' m' v x)
theorem x4p{arr c x:List Value}{p off n s:Nat}(hc:c.length=s)(ho:off+n<=s)(h:∀j u,c[j]? =some u->arr[p+j]? =some u):
  arr.take (p+off)++x++arr.drop (p+off+n)=arr.take p++(c.take off++x++c.drop (off+n))++arr.drop (p+s):=by
 have hd:arr.drop p=c++arr.drop (p+s):=by
  apply List.ext_getElem?;intro j;rw[cY];by_cases hj:j<s
  ·rw[bN (by omega)];exact(h j (c[j]'(by omega)) (aI (by omega))).trans (aI (by omega)).symm
  ·rw[bL (by omega),cY];congr 1;omega
 have h1:arr.take (p+off)=arr.take p++c.take off:=by rw[List.take_add,hd,List.take_append_of_le_length (by omega)]
 have h2:arr.drop (p+off+n)=c.drop (off+n)++arr.drop (p+s):=by rw[cI,<-List.drop_drop,hd,List.drop_append_of_le_length (by omega)]
 rw[h1,h2];simp
def ztw(E:Env)(t:TypeId)(m:Nat->Option MO)(p v:AV)(K:(Nat->Option MO)->Option R):Option R:=
 match E.ty t with
 | none=>none
 | some ti=>
  gd (ax v.cells.length ti.size&&U7 v.cells) (match p with
  | .ptr n off=>match m n with
   | some (.box cs .live)=>gd (bG (off+ti.size) cs.length) (K (mupd m n (.box (z1p off v.cells cs) .live)))
   | _=>none
  | .oel n i off=>match m n with
   | some (.sl t' xs .live)=>gd (bG (off+ti.size) t'.size) (match dec m t' (z1p off v.cells (enc t' (xs.getD i t'.dflt)))with
    | some y=>K (mupd m n (.sl t' (xs.set i y) .live))
    | none=>match v with
     | .own r=>gd (ax t'.size 1) (K (mupd m n (.sl t' xs (.hole i r))))
     | _=>none)
   | _=>none
  | _=>none)
theorem zj4{P:Program}{E:Env}(hE:∀t ti,E.ty t=some ti->TIok P t ti){w:World}{t:TypeId}{ti:TI}(hti:E.ty t=some ti){b off:Nat}{v:Value}(hv:v.cells.size=ti.size){cur:Array Value}{el:TypeId}{fz:Nat×Nat}
  (hg:w.heap[b]? =some (.cells cur el fz)) (hz:fzW cur.size fz) (hl:off+ti.size<=cur.size) (h1:∀u∈v.cells.toList,u.oneCell'=true):
  (storeVar t ⟨b,off,none⟩ v).run P w= .ok () (w.setRow b (cur.toList.take off++v.cells.toList++cur.toList.drop (off+ti.size)).toArray):=by
 have hs:=z0a hE w hti;have hst:=za3 P b off el fz v.cells.toList 0 cur w hg hz (by simp[hv];omega) h1;simp only[bD,bT,hv]at hst;unfold storeVar;simp[hs,hv,hst]
theorem ywf{P:Program}{E:Env}(hE:∀t ti,E.ty t=some ti->TIok P t ti){w:World}{S:Nat->Prop}{γ:Nat->Loc}{m:Nat->Option MO}{base:Nat->Prop}(hm:MemRel w S γ m base){ev:Operand->AV}{el:Operand->Value}(hev:∀x,RepA w S γ m (ev x) (el x))
  {o:Oper} {t:TypeId} {p x:Operand} (ho:o.op= .store t p x) {K:(Nat->Option MO)->Option R} {r:R} (h:ztw E t m (ev p) (ev x) K=some r):∃m',K m'=some r/\WOk (fun _=>False) base w S γ m ((execOp el o).run P w) none m':=by
 unfold ztw at h;have hp:=hev p;have hx:=hev x;split at h
 ·cases h
 ·rename_i ti hti;obtain⟨hb,h⟩:=X7 h;simp only[ab,cr]at hb;have hc:=zxf hx hb.2;have hcl:=hc.length;simp only[bT]at hcl;have hone:=zs9 hb.2 hc;split at h
  ·rename_i n off hn;rw[hn]at hp;obtain⟨cs0,s0,b,p1,p2,p3⟩:=hp;split at h
   ·rename_i cs hmn;obtain⟨hle,h⟩:=X7 h;have hle:off+ti.size<=cs.length:=by simpa using hle
    obtain⟨b',vs,el',h1,h2,h3,h4,h5,h6⟩:=hm.obj n _ hmn;rw[p2]at h1;cases h1;have hvl:=h3.length;have hrun:=zj4 (P:=P) hE hti (b:=b) (off:=off) (v:=el x) (by omega) h2 (fun i _ hi=>by simp at hi) (by simp;omega) hone;have hS:=h5 rfl;have hW:=Wrote.setRow w b (vs.take off++(el x).cells.toList++vs.drop (off+ti.size)).toArray h2;have hk:(MO.box (z1p off (ev x).cells cs) .live).kind=(MO.box cs .live).kind:=rfl;have hblk:(γ n).blk=some b:=by simp[Loc.blk,p2]
    refine⟨_,h,w.setRow b (vs.take off++(el x).cells.toList++vs.drop (off+ti.size)).toArray,γ, .skip, ?_,hW.below (hm.high n _ b hmn rfl hblk),zxc hmn, ?_,z0d hmn hk,fun k hk=>hW.block k (fun e=>hS (e▸hk)),rfl⟩
    ·simp only[execOp,ho,Instr.storeAt,p3,Instr.sureAddr];simp only[]at hrun;simp[hrun]
    ·refine hm.write hmn rfl hblk hW hk hS ?_;refine⟨b,_,el',p2,setRow_heap w b _ _ _ _ h2, ?_, ?_,fun _=>hS,fun e=>absurd rfl e⟩
     ·have hcells:RepAs w S γ m (z1p off (ev x).cells cs) (vs.take off++(el x).cells.toList++vs.drop (off+ti.size)):=by
       unfold z1p;rw[hb.1];exact((h3.take off).append hc).append (h3.drop _)
      have:=RepAs.mono (fun k hk=>hW.block k (fun e=>hS (e▸hk))) (fun _ h=>h) (z0d (γ:=γ) hmn hk) _ _ hcells;simpa using this
     ·unfold z1p;rw[z52,z52,zpl _ h4,zpm _ h4,hb.2];rfl
   ·cases h
  ·rename_i n i off hn;rw[hn]at hp;obtain⟨t0,xs0,s0,b,p1,p2,p3,p4⟩:=hp;split at h
   ·rename_i t' xs hmn;obtain⟨hle,h⟩:=X7 h;have hle:off+ti.size<=t'.size:=by simpa using hle
    split at h
    ·rename_i y hy;have hob:RowRel w S (γ n) t' xs .live:=hm.obj n _ hmn;rw[hmn]at p1;cases p1;obtain⟨b',arr,el',fz,e1,e2,e3,e4,e5,e6,_⟩:=hob.row _ p2;cases e1;have hS:=e6 rfl;obtain⟨c,c1,c2⟩:=e5 i xs0[i] (by simp[getq,p3]);have hget:xs0.getD i t0.dflt=xs0[i]:=by simp[p3]
     rw[hget]at hy;have hcl':=c1.length;have hcells:RepAs w S γ m (z1p off (ev x).cells (enc t0 xs0[i])) (c.take off++(el x).cells.toList++c.drop (off+ti.size)):=by unfold z1p;rw[hb.1];exact((c1.enc.take off).append hc).append (c1.enc.drop _)
     have hT:=zyu hm hy hcells;have hcap:=hob.len;have hfit:=zdv (s:=t0.size) (Nat.lt_of_lt_of_le p3 hcap)
     have hseg:arr.toList.take (i*t0.size+off)++(el x).cells.toList++arr.toList.drop (i*t0.size+off+ti.size)=
       arr.toList.take (i*t0.size)++(c.take off++(el x).cells.toList++c.drop (off+ti.size))++arr.toList.drop (i*t0.size+t0.size):=
      x4p hcl' hle (fun j u hj=>by have:=c2 j u hj;simpa using this)
     have hrun:=zj4 (P:=P) hE hti (b:=b) (off:=i*t0.size+off) (v:=el x) (by omega) e2 e4.weak (by omega) hone;rw[hseg]at hrun;have hW:=Wrote.setRow w b (arr.toList.take (i*t0.size)++(c.take off++(el x).cells.toList++c.drop (off+ti.size))++arr.toList.drop (i*t0.size+t0.size)).toArray e2;have hk:(MO.sl t0 (xs0.set i y) .live).kind=(MO.sl t0 xs0 .live).kind:=by simp[MO.kind]
     have hblk:(γ n).blk=some b:=by simp[Loc.blk,p2]
     refine⟨_,h,_,γ, .skip, ?_,hW.below (hm.high n _ b hmn rfl hblk),zxc hmn, ?_,z0d hmn hk,fun k hk=>hW.block k (fun e=>hS (e▸hk)),rfl⟩
     ·simp only[execOp,ho,Instr.storeAt,p4,Instr.sureAddr];simp[hrun]
     ·refine hm.write hmn rfl hblk hW hk hS ?_;show RowRel _ S (γ n) t0 (xs0.set i y) .live;have hlen:(arr.toList.take (i*t0.size)++(c.take off++(el x).cells.toList++c.drop (off+ti.size))++arr.toList.drop (i*t0.size+t0.size)).length=arr.size:=by simp;omega
      refine⟨by simpa using hcap,hob.cap,hob.nil,fun a ha=> ?_⟩;rw[p2]at ha;cases ha;refine⟨b,_,el',fz,rfl,setRow_heap w b _ _ _ _ e2,by rw[<-e3];simpa using hlen, ?_, ?_,fun _=>hS,fun e=>(by cases e)⟩
      ·have:(arr.toList.take (i*t0.size)++(c.take off++(el x).cells.toList++c.drop (off+ti.size))++arr.toList.drop (i*t0.size+t0.size)).toArray.size=arr.size:=by simpa using hlen
       rw[this];exact e4
      ·have hrows:Rows w S t0 arr.toList xs0:=fun k z hz=>by
        obtain⟨d,d1,d2⟩:=e5 k z hz;exact⟨d,d1,fun j u hj=>by have:=d2 j u hj;simpa using this⟩
       have:=Rows.set hrows p3 hT (by simp;omega);intro k z hz;obtain⟨d,d1,d2⟩:=this k z hz;exact⟨d,RepT.mono (fun k hk=>hW.block k (fun e=>hS (e▸hk))) (fun _ h=>h) t0 z d d1,fun j u hj=>by have:=d2 j u hj;simpa using this⟩
    ·split at h
     case h_2=>cases h
     rename_i r hr;obtain⟨h1,hq⟩:=X7 h;clear h;have h1:t'.size=1:=by simpa using h1
     have hob:RowRel w S (γ n) t' xs .live:=hm.obj n _ hmn;rw[hmn]at p1;cases p1;obtain⟨b',arr,el',fz,e1,e2,e3,e4,e5,e6,_⟩:=hob.row _ p2;cases e1;have hS:=e6 rfl;have hcap:=hob.len;have hlen1:(ev x).cells.length=1:=by rw[hr];rfl
     have hti1:ti.size=1:=by rw[<-hb.1];exact hlen1
     have hoff:off=0:=by omega
     subst hoff;simp only[bD]at p4;rw[hr]at hx;have hxx:∃ao len cap,el x= .slice ao len cap:=by obtain⟨_,_,_,_,q⟩:=hx;exact⟨_,_,_,q⟩
     obtain⟨ao,ln,cp,hxx⟩:=hxx;have hcells1:(el x).cells.toList=[el x]:=by rw[hxx];rfl
     have hsz:(i:Nat)<arr.size:=by rw[e3,h1];omega
     have hrun:=zj4 (P:=P) hE hti (b:=b) (off:=i*t0.size) (v:=el x) (by omega) e2 e4.weak (by rw[h1];omega) hone;have hW:=Wrote.setRow w b (arr.toList.take (i*t0.size)++(el x).cells.toList++arr.toList.drop (i*t0.size+ti.size)).toArray e2;have hk:(MO.sl t0 xs0 (.hole i r)).kind=(MO.sl t0 xs0 .live).kind:=rfl;have hblk:(γ n).blk=some b:=by simp[Loc.blk,p2]
     have hwk:∀k,S k->(w.setRow b (arr.toList.take (i*t0.size)++(el x).cells.toList++arr.toList.drop (i*t0.size+ti.size)).toArray).heap[k]? =w.heap[k]? :=fun k hk=>hW.block k (fun e=>hS (e▸hk));refine⟨_,hq,_,γ, .skip, ?_,hW.below (hm.high n _ b hmn rfl hblk),zxc hmn, ?_,z0d hmn hk,hwk,rfl⟩
     ·simp only[execOp,ho,Instr.storeAt,p4,Instr.sureAddr];simp[hrun]
     ·refine hm.write hmn rfl hblk hW hk hS ?_;show HoleRel _ S γ _ (γ n) t0 xs0 i r;have hlen:(arr.toList.take (i*t0.size)++(el x).cells.toList++arr.toList.drop (i*t0.size+ti.size)).length=arr.size:=by rw[hcells1,hti1,h1];simp;omega
      have hget:∀k,k≠i->(arr.toList.take (i*t0.size)++(el x).cells.toList++arr.toList.drop (i*t0.size+ti.size)).toArray[k]? =arr[k]? :=by
       intro k hk;rw[hcells1,hti1,h1];simp only[dW,bD,dR,aU,dS];rcases dY hk with hlt | hgt
       ·rw[bN (by simp;omega),dr,if_pos hlt];simp
       ·rw[bL (by simp;omega)];have:k-(List.take i arr.toList).length=(k-i-1)+1:=by simp;omega
        rw[this,List.getElem?_cons_succ,cY];have:i+1+(k-i-1)=k:=by omega
        rw[this];simp
      refine⟨hob.len,hob.cap,h1,p3,b,_,el',fz,p2,setRow_heap w b _ _ _ _ e2,by rw[<-e3];simpa using hlen, ?_, ?_,⟨el x, ?_,RepA.mono hwk (fun _ h=>h) (z0d hmn hk) _ _ hx⟩,hS⟩
      ·have:(arr.toList.take (i*t0.size)++(el x).cells.toList++arr.toList.drop (i*t0.size+ti.size)).toArray.size=arr.size:=by simpa using hlen
       rw[this];exact e4
      ·intro k z hk hz;obtain⟨d,d1,d2⟩:=e5 k z hz;refine⟨d,RepT.mono hwk (fun _ h=>h) t0 z d d1,fun j u hj=> ?_⟩;have hdl:=d1.length;have:j<d.length:=(aO.1 hj).1;have:=d2 j u hj;rw[hget _ (by rw[h1];omega)];exact this
      ·rw[hcells1,hti1,h1];simp only[dW,bD,dR,aU,dS];rw[bL (by simp;exact Nat.min_le_left _ _)];have:i-(List.take i arr.toList).length=0:=by simp;omega
       rw[this];rfl
   ·cases h
  ·cases h
variable {R:Type}
def RepSee(w:World)(S:Nat->Prop)(t:Ty)(xs:List t.T)(x:Value):Prop:=
 ∃ao cap,x= .slice ao xs.length cap/\xs.length<=cap/\(ao=none->cap=0)/\(∀a,ao=some a->xs.length≠0->a.spot=none)/\
  ∀i (y:t.T),getq xs i=some y->∃a c,ao=some a/\RepT w S t y c/\CellsAt w a.block (a.off+i*t.size) c
theorem RepSee.of{w:World}{S:Nat->Prop}{t:Ty}{xs:List t.T}{x:Value}(h:RepT w S (.list t) xs [x]):RepSee w S t xs x:=by
 obtain⟨ao,cap,k1,k2,k3,k4,k5⟩:=h;simp only[bW.injEq,and_true]at k1;refine⟨ao,cap,k1,k2,k3,k4,fun i y hy=> ?_⟩
 grind
theorem RowRel.see{w:World}{S:Nat->Prop}{l:Loc}{t:Ty}{xs:List t.T}{s:Stat}(h:RowRel w S l t xs s):RepSee w S t xs (.slice l.a xs.length l.cap):=by
 refine⟨l.a,l.cap,rfl,h.len,h.nil,fun a e=> ?_,fun i x e=> ?_⟩
 ·obtain⟨b,arr,el,fz,e1,_⟩:=h.row a e
  grind
 ·cases ha:l.a with
  | none=>have h1:=h.nil ha;have h2:=h.len;have:=zkd e;omega
  | some a=>
   obtain⟨b,arr,el,fz,e1,e2,e3,e4,e5,e6⟩:=h.row a ha;obtain⟨c,k1,k2⟩:=e5 i x e;refine⟨a,c,rfl,k1, ?_⟩;subst e1;intro j u hj
   grind[cell_of_row]
theorem y8d{w:World}{S:Nat->Prop}{γ:Nat->Loc}{m:Nat->Option MO}{base:Nat->Prop}(hm:MemRel w S γ m base){t:Ty}{v:AV}{x:Value}{xs:List t.T}(h:zb7 m t v=some xs)(hv:RepA w S γ m v x):RepSee w S t xs x:=by
 unfold zb7 at h;split at h
 ·obtain⟨e,rfl⟩:=z3e h;subst e;exact .of hv
 ·obtain⟨e,rfl⟩:=z3e h;subst e;exact .of hv.2
 ·cases h;simp only[RepA]at hv;subst hv;exact .of yei
 ·rename_i n;obtain⟨t0,xs0,s0,k1,k2⟩:=hv;have fin:∀{s:Stat},s= .live\/s= .still->m n=some (.sl t0 xs0 s)->RepSee w S t0 xs0 x:=by
   intro s hs hn;have hob:ObjRel w S γ m n (.sl t0 xs0 s):=hm.obj n _ hn;have hob:RowRel w S (γ n) t0 xs0 s:=by rcases hs with rfl | rfl<;>exact hob
   rw[k2];exact hob.see
  grind[z3e]
 grind
structure Src (P:Program) (w:World) (S:Nat->Prop) (t:Ty) (ys:List t.T) (x:Value) (news:List Value):Prop where
 len:news.length=ys.length*t.size
 lenOf:∀w',(Builtin.lenOf x).run P w'= .ok ys.length w'
 cells:∀w',(∀a,w'.cell? a=w.cell? a)->(Builtin.firstCells t.size ys.length x).run P w'= .ok news.toArray w'
 rows:Rows w S t news ys
 one:∀u∈news,u.oneCell'=true
theorem RepT.one{w:World}{S:Nat->Prop}{t:Ty}{x:t.T}{c:List Value}(h:RepT w S t x c):∀u∈c,u.oneCell'=true:=
 zs9 (γ:=fun _=>⟨none,0⟩) (m:=fun _=>none) (z85 t x) h.enc
theorem ych{P:Program}{w:World}{S:Nat->Prop}{t:Ty}{ys:List t.T}{x:Value}(ht:0<t.size)(h:RepSee w S t ys x):∃news,Src P w S t ys x news:=by
 obtain⟨ao,cap,rfl,k2,k3,k4,k5⟩:=h;cases ao with
 | none=>have hys:ys=[]:=aF (by grind);subst hys;refine⟨[],by simp,fun w'=>by simp[Builtin.lenOf],fun w' _=>by simp[Builtin.firstCells],fun i y hy=>by grind,by simp⟩
 | some a=>
  by_cases hx0:ys.length=0
  ·have:ys=[]:=aF hx0;subst this;refine⟨[],by simp,fun w'=>by simp[Builtin.lenOf],fun w' _=> ?_,fun i y hy=>by grind[getq],by simp⟩;simp[run_firstCells_some]
  have ha:=y4y (k4 a rfl hx0);have hcell:∀q,q<ys.length*t.size->∃u,w.cell? ⟨a.block,a.off+q,none⟩=some u/\u.oneCell'=true:=by
   intro q hq;have hi:q/t.size<ys.length:=by rw[Nat.div_lt_iff_lt_mul ht];omega
   have hj:q%t.size<t.size:=Nat.mod_lt _ ht;obtain⟨a',c,e1,e2,e3⟩:=k5 (q/t.size) ys[q/t.size] (by simp[getq]);cases e1;have hcl:=e2.length;have hjc:q%t.size<c.length:=by omega
   refine⟨c[q%t.size], ?_,e2.one _ (List.getElem_mem hjc)⟩;have:=e3 (q%t.size) c[q%t.size] (aI hjc)
   grind[Nat.div_add_mod]
  refine⟨(bF (ys.length*t.size)).map fun q=>(w.cell? ⟨a.block,a.off+q,none⟩).getD undef,by simp,fun w'=>by simp[Builtin.lenOf], ?_, ?_, ?_⟩
  ·grind[run_firstCells_some,zof]
  ·intro i y hy;obtain⟨a',c,e1,e2,e3⟩:=k5 i y hy;cases e1;refine⟨c,e2,fun j u hj=> ?_⟩;have hjl:=(aO.1 hj).1;have hcl:=e2.length;have hle:=zdv (s:=t.size) (zkd hy);have:=e3 j u hj
   grind
  grind
theorem x0n{P:Program}{w:World}{S:Nat->Prop}(s:List UInt8):Src P w S (.int .u8) (U2 s) (.string ⟨s.toArray⟩) (s.map fun b=>Value.int .u8 b.toNat):=by
 have hl:(U2 s).length=s.length:=by simp[U2]
 refine⟨?_,fun w'=> ?_,fun w' _=> ?_, ?_,by simp[Value.oneCell']⟩
 ·exact(by grind:(s.map fun b=>Value.int .u8 b.toNat).length=(U2 s).length*1)
 ·exact(by simp_all[Builtin.lenOf,ByteArray.size]:(Builtin.lenOf (.string ⟨s.toArray⟩)).run P w'= .ok (U2 s).length w')
 ·have:(Builtin.firstCells 1 s.length (.string ⟨s.toArray⟩)).run P w'= .ok (s.map fun b=>Value.int .u8 b.toNat).toArray w':=by
   simp[Builtin.firstCells]
  rw[<-hl]at this;exact this
 ·intro i y hy;have hy':(U2 s)[i]? =some y:=hy;unfold U2 at hy';rw[List.getElem?_map]at hy';cases hs:s[i]? with
  | none=>grind
  | some b=>
   rw[hs]at hy';have hy':(b.toNat:Int)=y:=aL.inj hy';subst hy';refine⟨[.int .u8 (b.toNat:Int)],rfl,fun j u hj=> ?_⟩
   grind[Ty.size]
theorem Rows.app{w:World}{S:Nat->Prop}{t:Ty}{A B Z:List Value}{xs ys:List t.T}(hA:Rows w S t A xs)(hl:A.length=xs.length*t.size)(hB:Rows w S t B ys)(hlB:B.length=ys.length*t.size):Rows w S t (A++B++Z) (xs++ys):=by
 intro i y hy;have hy':(xs++ys)[i]? =some y:=hy;by_cases hi:i<xs.length
 ·rw[bN hi]at hy';obtain⟨c,c1,c2⟩:=hA i y hy'
  grind
 ·rw[bL (by omega)]at hy';obtain⟨c,c1,c2⟩:=hB (i-xs.length) y hy';have hcl:=c1.length;have hlt:i-xs.length<ys.length:=(aO.1 hy').1;have hm:=zdv (s:=t.size) hlt;refine⟨c,c1,fun j u hj=> ?_⟩;have hjl:=(aO.1 hj).1;have e:i*t.size=xs.length*t.size+(i-xs.length)*t.size:=by rw[<-cy];grind
  grind
theorem Rows.mono{w w':World}{S:Nat->Prop}{t:Ty}{A:List Value}{xs:List t.T}(h:Rows w S t A xs)(hw:∀b,S b->w'.heap[b]? =w.heap[b]?):Rows w' S t A xs:=by intro i y hy;obtain⟨c,c1,c2⟩:=h i y hy;exact⟨c,RepT.mono hw (fun _ h=>h) t y c c1,c2⟩
section runs
variable {P:Program} (w:World) {t u e:TypeId} {ty:TypeId} {i:TypeInfo} {z:Value} {du:TypeDesc} (ht:P.underlying t=some (.slice e)) (hu:P.underlying u=some du) (hdu:(∃e',du= .slice e')\/du= .string) (hi:P.info? e=some i) (hz:i.zero=some z)
include ht hu hdu hi
theorem y72{g sLen sCap n:Nat}{cur:Array Value}{el:TypeId}{fz:Nat×Nat}(hg:w.heap[g]? =some (.cells cur el fz))(hfz:fzW cur.size fz){x:Value}{news:List Value}
  (hlen:(Builtin.lenOf x).run P w= .ok n w) (hcells:(Builtin.firstCells i.size n x).run P w= .ok news.toArray w) (h1:∀u∈news,u.oneCell'=true) (hroom:sLen+n<=sCap) (hfit:sLen*i.size+news.length<=cur.size):
  (Builtin.append_ #[t,u] ty #[.slice (some ⟨g,0,none⟩) sLen sCap,x]).run P w=
   .ok (.slice (some ⟨g,0,none⟩) (sLen+n) sCap) (w.setRow g (cur.toList.take (sLen*i.size)++news++cur.toList.drop (sLen*i.size+news.length)).toArray):=by
 have hst:=za3 P g (sLen*i.size) el fz news 0 cur w hg hfz (by omega) h1;simp only[bD]at hst;rcases hdu with⟨e',rfl⟩ | rfl<;>simp[Builtin.append_,run_underlying ht,run_underlying hu,sizeOf,typeInfo,hi,hlen,hroom,hcells,Addr.add_lit,hst]
include hz in
theorem y73{ao:Option Addr}{sLen sCap n:Nat}{x:Value}{olds news:List Value}
  (hlen:(Builtin.lenOf x).run P w= .ok n w) (hcells:(Builtin.firstCells i.size n x).run P w.drew= .ok news.toArray w.drew) (holds:(Builtin.firstCells i.size sLen (.slice ao sLen sCap)).run P w.drew= .ok olds.toArray w.drew)
  (hg:sCap<sLen+n) (h63:((sLen+n:Nat):Int)<=9223372036854775807) (hfit:Builtin.nextslicecap (sLen+n) sCap*i.bytes<=281474976710656):
  (Builtin.append_ #[t,u] ty #[.slice ao sLen sCap,x]).run P w=
   .ok (.slice (some ⟨w.heap.size,0,none⟩) (sLen+n) (grownCap w (sLen+n) sCap e))
    (w.drew.alloc (.cells (olds.toArray++news.toArray++Builtin.zeroCells z.cells (grownCap w (sLen+n) sCap e-(sLen+n))) e)):=by
 have hn:¬(sLen+n<=sCap):=by omega
 have h63':¬(9223372036854775807<((sLen:Int)+(n:Int))):=by omega
 have h48':¬(281474976710656<Builtin.nextslicecap (sLen+n) sCap*i.bytes):=by omega
 rcases hdu with⟨e',rfl⟩ | rfl<;>
 ·simp[Builtin.append_,run_underlying ht,run_underlying hu,sizeOf,typeInfo,zeroValue,hi,hz,hlen,hn,h63',h48',Question.forced,hcells,holds,newRow,grownCap];congr 2;apply bC;simp[aU]
end runs
def appSrc(E:Env)(m:Nat->Option MO)(t:Ty)(u:TypeId)(b:AV):Option (List t.T):=
 match E.ty u with
 | some ui=>match ui.d with
  | .str=>match b with
   | .str s=>castL (.int .u8) t (U2 s)
   | _=>none
  | .slice _=>zb7 m t b
  | _=>none
 | none=>none
def fits(n bytes:Nat):Bool:=decide (n<maxB)&&decide (n*bytes<maxB)
def appA(E:Env)(m:Nat->Option MO)(d:Nat)(t u:TypeId)(a b:AV)(K:AV->(Nat->Option MO)->Option R):Option R:=
 match elemTy E t with
 | none=>none
 | some (_,ei,ty)=>
  match appSrc E m ty u b with
  | none=>none
  | some ys=>
   match m d with
   | some _=>none
   | none=>
    match a with
    | .nils=>gd (fits ys.length ei.bytes) (K (.own d) (mupd m d (.sl ty ys .live)))
    | .own n=>match m n with
     | some (.sl t' xs .live)=>match castL t' ty xs with
      | some xs=>gd (fits (xs.length+ys.length) ei.bytes) (K (.own d) (mupd (mupd m n (.sl ty xs .dead)) d (.sl ty (xs++ys) .live)))
      | none=>none
     | _=>none
    | .clip t' xs=>match castL t' ty xs with
     | some xs=>gd (cj 0 ys.length&&fits (xs.length+ys.length) ei.bytes) (K (.own d) (mupd m d (.sl ty (xs++ys) .live)))
     | none=>none
    | _=>none
theorem yv8{P:Program}{E:Env}(hE:∀t ti,E.ty t=some ti->TIok P t ti){w:World}{S:Nat->Prop}{γ:Nat->Loc}{m:Nat->Option MO}{base:Nat->Prop}(hm:MemRel w S γ m base){t:Ty}(ht:0<t.size){u:TypeId}{b:AV}{x:Value}{ys:List t.T}
  (h:appSrc E m t u b=some ys) (hb:RepA w S γ m b x):(∃du,P.underlying u=some du/\((∃e',du= .slice e')\/du= .string))/\∃news,Src P w S t ys x news:=by
 unfold appSrc at h;split at h
 ·rename_i ui hui;obtain⟨d,hd1,hd2⟩:=(hE u _ hui).und;split at h
  ·rename_i hd;rw[hd]at hd2;have:=zo8 hd2;subst this;split at h
   ·rename_i s;obtain⟨e,rfl⟩:=z3e h;subst e;simp only[RepA]at hb;subst hb;exact⟨⟨_,hd1, .inr rfl⟩,_,x0n s⟩
   grind
  ·rename_i e hd;rw[hd]at hd2;have:=zsc hd2;subst this;exact⟨⟨_,hd1, .inl ⟨_,rfl⟩⟩,ych ht (y8d hm h hb)⟩
  grind
 grind
theorem MemRel.kill{w:World}{S:Nat->Prop}{γ:Nat->Loc}{m:Nat->Option MO}{base:Nat->Prop}{n:Nat}{t:Ty}{xs:List t.T}(h:MemRel w S γ m base)(hn:m n=some (.sl t xs .live)):MemRel w S γ (mupd m n (.sl t xs .dead)) base:=by
 have hk:Keeps m γ (mupd m n (.sl t xs .dead)) γ:=z0d hn rfl;have get:∀{k:Nat} {q:MO},mupd m n (.sl t xs .dead) k=some q->q.live=true->m k=some q:=by grind[MO.live,V9,X4]
 refine⟨fun k q hq=> ?_,h.low,fun k k' q q' c hq hq' hl hl' hne hc hc'=>h.apart k k' q q' c (get hq hl) (get hq' hl') hl hl' hne hc hc',fun k q c hq hl hc=>h.high k q c (get hq hl) hl hc⟩;by_cases e:k=n
 ·subst e;rw[V9]at hq;cases hq;trivial
 ·rw[X4 _ _ e]at hq;exact ObjRel.grow (h.obj k q hq) h.low (Below.refl _ _) hk rfl
theorem MemRel.addAt{w w':World}{S:Nat->Prop}{γ:Nat->Loc}{m:Nat->Option MO}{base:Nat->Prop}{d g:Nat}{ob:MO}{l:Loc}(h:MemRel w S γ m base)(hW:Wrote g w w')(hfree:∀k q,m k=some q->q.live=true->(γ k).blk≠some g)
  (hstill:∀k q,m k=some q->ObjRel w' S γ m k q) (hbase:¬base g) (hd:m d=none) (hl:l.blk=some g) (ho:ObjRel w' S (gupd γ d l) (mupd m d ob) d ob):MemRel w' S (gupd γ d l) (mupd m d ob) base:=by
 refine⟨fun k q hq=> ?_,fun b hb=>by rw[hW.size];exact h.low b hb, ?_, ?_⟩
 ·by_cases e:k=d
  ·grind[V9]
  ·rw[X4 _ _ e]at hq;exact ObjRel.grow (hstill k q hq) (fun b hb=>by rw[hW.size];exact h.low b hb) (Below.refl _ _) (Keeps.new hd) (z4z _ _ e)
 ·intro k k' q q' c hq hq' hlq hlq' hne hc hc';by_cases e:k=d
  ·grind[J0,X4,z4z]
  ·by_cases e':k'=d
   ·grind[J0,X4,z4z]
   ·rw[X4 _ _ e]at hq;rw[z4z _ _ e]at hc;rw[X4 _ _ e']at hq';rw[z4z _ _ e']at hc';exact h.apart k k' q q' c hq hq' hlq hlq' hne hc hc'
 ·intro k q c hq hlq hc;by_cases e:k=d
  ·grind[J0]
  ·rw[X4 _ _ e]at hq;rw[z4z _ _ e]at hc;exact h.high k q c hq hlq hc
theorem ObjRel.other{w w':World}{S:Nat->Prop}{γ:Nat->Loc}{m:Nat->Option MO}{g k:Nat}{q:MO}(h:ObjRel w S γ m k q)(hW:Wrote g w w')(hS:¬S g)(hne:q.live=true->(γ k).blk≠some g):ObjRel w' S γ m k q:=
 ObjRel.later h (fun c hc=>hW.block c (fun e=>hS (e▸hc))) (fun _ h=>h) (Keeps.refl _ _) rfl fun hlq c hc=>⟨hW.block c (fun e=>hne hlq (e▸hc)),(ObjRel.notS h hlq hc).1⟩
theorem zcz{t' t:Ty}{xs:List t'.T}{ys:List t.T}(h:castL t' t xs=some ys){s:Stat}:MO.sl t' xs s=MO.sl t ys s:=by grind[z3e]
theorem yk6{P:Program}{E:Env}(hE:∀t ti,E.ty t=some ti->TIok P t ti){w:World}{S:Nat->Prop}{γ:Nat->Loc}{m:Nat->Option MO}{base:Nat->Prop}(hm:MemRel w S γ m base)(hbw:∀k,base k->k<w.heap.size){t u e:TypeId}{ei:TI}{ty:Ty}{du:TypeDesc}
  (e1:P.underlying t=some (.slice e)) (e2:E.ty e=some ei) (e3:ei.ty=some ty) (hu:P.underlying u=some du) (hdu:(∃e',du= .slice e')\/du= .string) {d:Nat} (hd:m d=none) {ao:Option Addr} {cap:Nat} {x:Value} {xs ys:List ty.T} {news olds:List Value}
  (hsrc:Src P w S ty ys x news) (holds:(Builtin.firstCells ty.size xs.length (.slice ao xs.length cap)).run P w.drew= .ok olds.toArray w.drew) (hol:olds.length=xs.length*ty.size) (hor:Rows w S ty olds xs) (hg:cap<xs.length+ys.length)
  (hfit:fits (xs.length+ys.length) ei.bytes=true) {rt:TypeId}:
  WOk (fun n=>n=d) base w S γ m (((Builtin.append_ #[t,u] rt #[.slice ao xs.length cap,x]).run P w).andThen fun v w'=> .ok (.value v) w') (some (.own d)) (mupd m d (.sl ty (xs++ys) .live)):=by
 obtain⟨i,z,z1,z2,z3,z4,z5,z6⟩:=(hE e _ e2).inf;obtain⟨y1,y2,y3,y4⟩:=(hE e _ e2).ty _ e3;simp only[fits,ab,decide_eq_true_eq]at hfit;obtain⟨f1,f2⟩:=hfit;have hsz:i.size=ty.size:=by omega
 have hrun:=y73 (P:=P) w (ty:=rt) e1 hu hdu z1 z4 (ao:=ao) (sLen:=xs.length) (sCap:=cap) (n:=ys.length) (x:=x) (olds:=olds) (news:=news) (hsrc.lenOf w) (by rw[hsz];exact hsrc.cells w.drew (fun _=>rfl)) (by grind) hg
  (by grind[maxB]) (growslice_fits hg (by grind[maxB]))
 have hge:=grownCap_ge w (xs.length+ys.length) cap e;have hle:=grownCap_le_maxLen w (xs.length+ys.length) cap e (by grind[maxLen,maxB])
 have hbel:Below w.heap.size w (w.drew.alloc (.cells (olds.toArray++news.toArray++Builtin.zeroCells z.cells (grownCap w (xs.length+ys.length) cap e-(xs.length+ys.length))) e)):=
  (Below.refl _ _).drew.alloc (ai _) _
 have hheap:=heap_alloc_new w.drew (.cells (olds.toArray++news.toArray++Builtin.zeroCells z.cells (grownCap w (xs.length+ys.length) cap e-(xs.length+ys.length))) e);refine⟨_,gupd γ d ⟨some ⟨w.heap.size,0,none⟩,grownCap w (xs.length+ys.length) cap e⟩,_,by rw[hrun];rfl,Below.bel hbel hbw,y79, ?_,Keeps.new hd,fun b hb=>hbel.block b (hm.low b hb),_,rfl, ?_⟩
 ·refine hm.add hbel hd ?_ hbw ?_
  ·show RowRel _ S (gupd γ d _ d) ty (xs++ys) .live;rw[J0];refine⟨by grind,hle,fun e=>(by cases e),fun a ea=> ?_⟩;cases ea;refine⟨w.heap.size,_,e,(0,0),rfl,hheap, ?_,fun i _ hi=>by omega, ?_,fun _ hs=> ?_,fun e=>(by cases e)⟩
   ·simp only[Array.size_append,List.size_toArray,size_zeroCells,hol,hsrc.len,z6,<-y1,<-cy]
    grind
   ·have hr:=Rows.app hor hol hsrc.rows hsrc.len (Z:=(Builtin.zeroCells z.cells (grownCap w (xs.length+ys.length) cap e-(xs.length+ys.length))).toList);have hr:=hr.mono (w':=w.drew.alloc (.cells (olds.toArray++news.toArray++Builtin.zeroCells z.cells (grownCap w (xs.length+ys.length) cap e-(xs.length+ys.length))) e)) fun b hb=>hbel.block b (hm.low b hb);intro k y hy;obtain⟨c,c1,c2⟩:=hr k y hy
    grind
   ·have:=hm.low _ hs;omega
  simp[Loc.blk]
 ·exact⟨ty,xs++ys, .live,V9 _ _ _,by simp[J0]⟩
theorem x5f{P:Program}{E:Env}(hE:∀t ti,E.ty t=some ti->TIok P t ti){w:World}{S:Nat->Prop}{γ:Nat->Loc}{m:Nat->Option MO}{base:Nat->Prop}(hm:MemRel w S γ m base)(hbw:∀k,base k->k<w.heap.size){ev:Operand->AV}{el:Operand->Value}(hev:∀x,RepA w S γ m (ev x) (el x))
  {o:Oper} {a b:Operand} {t u:TypeId} (ho:o.op= .call ⟨.builtin .append, #[a,b], #[t,u]⟩) {d:Nat} {K:AV->(Nat->Option MO)->Option R} {r:R} (h:appA E m d t u (ev a) (ev b) K=some r):
  ∃v m',K v m'=some r/\WOk (fun n=>n=d) base w S γ m ((execOp el o).run P w) (some v) m':=by
 unfold appA at h;have ha:=hev a;have hb:=hev b;split at h
 ·cases h
 ·rename_i e ei ty he;obtain⟨e1,e2,e3⟩:=z96 hE he;obtain⟨i,z,z1,z2,z3,z4,z5,z6⟩:=(hE e _ e2).inf;obtain⟨y1,y2,y3,y4⟩:=(hE e _ e2).ty _ e3;have hsz:i.size=ty.size:=by omega
  split at h
  ·cases h
  ·rename_i ys hys;obtain⟨⟨du,hu,hdu⟩,news,hsrc⟩:=yv8 (P:=P) hE hm (by omega) hys hb;split at h
   ·cases h
   ·rename_i hd;have hexec:∀v,el a=v->(execOp el o).run P w=((Builtin.append_ #[t,u] o.type #[v,el b]).run P w).andThen fun v w'=> .ok (.value v) w':=by simp_all[execOp,resolve,invoke,builtin]
    split at h
    ·
     rename_i hea;rw[hea]at ha;simp only[RepA]at ha;obtain⟨hfit,h⟩:=X7 h;refine⟨_,_,h, ?_⟩;rw[hexec _ ha];by_cases hn:ys.length=0
     ·have:ys=[]:=aF hn;subst this;have hl:=hsrc.lenOf w;have hc:=hsrc.cells w (fun _=>rfl);have hnews:news=[]:=aF (by have:=hsrc.len;grind);subst hnews;have hrun:(Builtin.append_ #[t,u] o.type #[.slice none 0 0,el b]).run P w= .ok (.slice none 0 0) w:=by
       have hl':(Builtin.lenOf (el b)).run P w= .ok 0 w:=hl;have hc':(Builtin.firstCells i.size 0 (el b)).run P w= .ok #[] w:=by grind
       rcases hdu with⟨e',rfl⟩ | rfl<;>simp[Builtin.append_,run_underlying e1,run_underlying hu,sizeOf,typeInfo,z1,hl',hc']
      refine⟨w,gupd γ d ⟨none,0⟩,_,by rw[hrun];rfl,Bel.refl _ _,y79, ?_,Keeps.new hd,fun _ _=>rfl,_,rfl,⟨ty,[], .live,V9 _ _ _,by simp[J0]⟩⟩;refine hm.add (Below.refl _ _) hd ?_ hbw (fun b hb=>by grind[Loc.blk]);show RowRel w S (gupd γ d _ d) ty [] .live;rw[J0];constructor<;>grind
     ·have:=yk6 (P:=P) hE hm hbw e1 e2 e3 hu hdu hd (ao:=none) (cap:=0) (xs:=[]) (olds:=[]) hsrc (by simp[Builtin.firstCells]) (by simp) (fun i y hy=>by grind[getq]) (by omega) (by grind) (rt:=o.type)
      grind
    ·
     rename_i n hea;rw[hea]at ha;split at h
     ·rename_i t' xs' hmn;split at h
      ·rename_i xs hxs;rw[zcz hxs]at hmn;obtain⟨hfit,h⟩:=X7 h;obtain⟨t0,xs0,s0,k1,k2⟩:=ha;rw[hmn]at k1;cases k1;have hob:RowRel w S (γ n) ty xs .live:=hm.obj n _ hmn;refine⟨_,_,h, ?_⟩;rw[hexec _ k2];have hkill:=hm.kill hmn;have hkk:Keeps m γ (mupd m n (.sl ty xs .dead)) γ:=z0d hmn rfl;have hnd:d≠n:=fun e=>by grind
       have hd':mupd m n (.sl ty xs .dead) d=none:=by grind[X4]
       have fin:∀{run:Result Next} {v:AV} {m':Nat->Option MO},WOk (fun n=>n=d) base w S γ (mupd m n (.sl ty xs .dead)) run (some v) m'->WOk (fun n=>n=d) base w S γ m run (some v) m':=by rintro run v m' ⟨w',γ',nx,c1,c2,c0,c3,c4,c5,c6⟩;exact⟨w',γ',nx,c1,c2,yo9 hmn c0,c3,hkk.trans c4,c5,c6⟩
       apply fin;by_cases hroom:xs.length+ys.length<=(γ n).cap
       ·cases hla:(γ n).a with
        | none=>
         have hcap:=hob.nil hla;have hx0:xs=[]:=aF (by omega);have hy0:ys=[]:=aF (by omega);subst hx0;subst hy0;have hl':(Builtin.lenOf (el b)).run P w= .ok 0 w:=hsrc.lenOf w;have hnews:news=[]:=aF (by have:=hsrc.len;grind);subst hnews;have hc':(Builtin.firstCells i.size 0 (el b)).run P w= .ok #[] w:=by rw[hsz];exact hsrc.cells w (fun _=>rfl)
         have hrun:(Builtin.append_ #[t,u] o.type #[.slice none 0 (γ n).cap,el b]).run P w= .ok (.slice none 0 0) w:=by rw[hcap];rcases hdu with⟨e',rfl⟩ | rfl<;>simp[Builtin.append_,run_underlying e1,run_underlying hu,sizeOf,typeInfo,z1,hl',hc']
         refine⟨w,gupd γ d ⟨none,0⟩,_,by rw[aJ,hrun];rfl,Bel.refl _ _,y79, ?_,Keeps.new hd',fun _ _=>rfl,_,rfl,⟨ty,[], .live,V9 _ _ _,by simp[J0]⟩⟩;refine hkill.add (Below.refl _ _) hd' ?_ hbw (fun b hb=>by grind[Loc.blk]);show RowRel w S (gupd γ d _ d) ty [] .live;rw[J0];constructor<;>grind
        | some ad=>
         obtain⟨g,arr,el',fz,a1,a2,a3,a4,a5,a6,a7⟩:=hob.row _ hla;subst a1;have hS:=a6 rfl;have hblk:(γ n).blk=some g:=by grind[Loc.blk]
         have hfitarr:xs.length*ty.size+news.length<=arr.size:=by rw[hsrc.len,a3,<-cy];simp_all[bn]
         have hrun:=y72 (P:=P) w (ty:=o.type) e1 hu hdu z1 (sLen:=xs.length) (sCap:=(γ n).cap) a2 a4.weak (hsrc.lenOf w) (by rw[hsz];exact hsrc.cells w (fun _=>rfl)) hsrc.one hroom (by grind);rw[hsz]at hrun;have hW:=Wrote.setRow w g (arr.toList.take (xs.length*ty.size)++news++arr.toList.drop (xs.length*ty.size+news.length)).toArray a2;have hlow:=hm.high n _ g hmn rfl hblk;have hfree:∀k q,mupd m n (.sl ty xs .dead) k=some q->q.live=true->(γ k).blk≠some g:=by
          intro k q hq hl hbk;by_cases e:k=n
          ·grind[MO.live,V9]
          ·rw[X4 _ _ e]at hq;exact hm.apart k n q _ g hq hmn hl rfl e hbk hblk
         have harr:(arr.toList.take (xs.length*ty.size)++news++arr.toList.drop (xs.length*ty.size+news.length)).length=arr.size:=by grind
         refine⟨_,gupd γ d ⟨some ⟨g,0,none⟩,(γ n).cap⟩,_,by rw[hrun];rfl,hW.below hlow,y79, ?_,Keeps.new hd',fun k hk=>hW.block k (fun e=>hS (e▸hk)),_,rfl,⟨ty,xs++ys, .live,V9 _ _ _,by simp[J0]⟩⟩;refine hkill.addAt hW hfree (fun k q hq=>(hkill.obj k q hq).other hW hS (hfree k q hq)) hlow hd' rfl ?_;show RowRel _ S (gupd γ d _ d) ty (xs++ys) .live;rw[J0];refine⟨by grind,hob.cap,fun e=>(by cases e),fun a ea=> ?_⟩;cases ea;refine⟨g,_,el',fz,rfl,setRow_heap w g _ _ _ _ a2,by grind, ?_, ?_,fun _=>hS,fun e=>(by cases e)⟩
         ·grind
         ·have hA:Rows w S ty (arr.toList.take (xs.length*ty.size)) xs:=by
           intro k y hy;obtain⟨c,c1,c2⟩:=a5 k y hy;refine⟨c,c1,fun j u hj=> ?_⟩;have hjl:=(aO.1 hj).1;have hcl:=c1.length;have:=zdv (s:=ty.size) (zkd hy)
           grind
          have hr:=Rows.app hA (by grind) hsrc.rows hsrc.len (Z:=arr.toList.drop (xs.length*ty.size+news.length));have hr:=hr.mono (w':=w.setRow g (arr.toList.take (xs.length*ty.size)++news++arr.toList.drop (xs.length*ty.size+news.length)).toArray) fun k hk=>hW.block k (fun e=>hS (e▸hk));intro k y hy;obtain⟨c,c1,c2⟩:=hr k y hy
          grind
       ·have hsee:=hob.see;obtain⟨olds,hso⟩:=ych (P:=P) (by omega) hsee;exact yk6 (P:=P) hE hkill hbw e1 e2 e3 hu hdu hd' (xs:=xs) (olds:=olds) hsrc (hso.cells w.drew (fun _=>rfl)) hso.len hso.rows (by omega) hfit (rt:=o.type)
      grind
     grind
    ·
     rename_i t' xs' hea;rw[hea]at ha;split at h
     ·rename_i xs hxs;obtain⟨hfit,h⟩:=X7 h;simp only[ab,cE]at hfit;obtain⟨hpos,hfit⟩:=hfit;obtain⟨e,rfl⟩:=z3e hxs;subst e;obtain⟨⟨ao,k1⟩,hrep⟩:=ha;refine⟨_,_,h, ?_⟩;rw[hexec _ k1];rw[k1]at hrep;obtain⟨olds,hso⟩:=ych (P:=P) (by omega) (RepSee.of hrep);exact yk6 (P:=P) hE hm hbw e1 e2 e3 hu hdu hd (olds:=olds) hsrc (hso.cells w.drew (fun _=>rfl)) hso.len hso.rows (by omega) hfit (rt:=o.type)
     grind
    grind
end Go.Dv
namespace Go.Dv
open Go.RowKit
def zxe{α:Type}(xs ys:List α):List α:=ys.take xs.length++xs.drop ys.length
theorem y3z{α:Type}(xs ys:List α):(zxe xs ys).length=xs.length:=by grind[zxe]
variable [LTab]
variable {R:Type}
def yky(E:Env)(m:Nat->Option MO)(t:TypeId)(a b:AV)(K:AV->(Nat->Option MO)->Option R):Option R:=
 match elemTy E t with
 | none=>none
 | some (_,_,ty)=>
  match zb7 m ty b with
  | none=>none
  | some ys=>match a with
   | .own n=>match m n with
    | some (.sl t' xs .live)=>match castL t' ty xs with
     | some xs=>K (.int .i64 (min ys.length xs.length:Nat)) (mupd m n (.sl ty (zxe xs ys) .live))
     | none=>none
    | _=>none
   | _=>none
theorem RepSee.front{w:World}{S:Nat->Prop}{t:Ty}{xs:List t.T}{ao:Option Addr}{L cap:Nat}(n:Nat)(h:RepSee w S t xs (.slice ao L cap)):RepSee w S t (xs.take n) (.slice ao (min n xs.length) cap):=by
 obtain⟨ao',cap',k1,k2,k3,k4,k5⟩:=h;cases k1;refine⟨ao,cap,by simp,by grind,k3,(fun a e hn=>k4 a e (fun h0=>hn (by grind))),fun i y hy=> ?_⟩;have hy':(xs.take n)[i]? =some y:=hy;rw[dr]at hy';split at hy'
 ·exact k5 i y hy'
 grind
theorem x1r{P:Program}{E:Env}(hE:∀t ti,E.ty t=some ti->TIok P t ti){w:World}{S:Nat->Prop}{γ:Nat->Loc}{m:Nat->Option MO}{base:Nat->Prop}(hm:MemRel w S γ m base){ev:Operand->AV}{el:Operand->Value}(hev:∀x,RepA w S γ m (ev x) (el x))
  {o:Oper} {a b:Operand} {t u:TypeId} (ho:o.op= .call ⟨.builtin .copy, #[a,b], #[t,u]⟩) {K:AV->(Nat->Option MO)->Option R} {r:R} (h:yky E m t (ev a) (ev b) K=some r):
  ∃v m',K v m'=some r/\WOk (fun _=>False) base w S γ m ((execOp el o).run P w) (some v) m':=by
 unfold yky at h;have ha:=hev a;have hb:=hev b;split at h
 ·cases h
 rename_i e ei ty he;obtain⟨e1,e2,e3⟩:=z96 hE he;obtain⟨i,z,z1,z2,z3,z4,z5,z6⟩:=(hE e _ e2).inf;obtain⟨y1,y2,y3,y4⟩:=(hE e _ e2).ty _ e3;have hsz:i.size=ty.size:=by omega
 split at h
 ·cases h
 rename_i ys hys;have hsee:=y8d hm hys hb;split at h
 case h_2=>cases h
 rename_i n hea;rw[hea]at ha;split at h
 case h_2=>cases h
 rename_i t' xs' hmn;split at h
 case h_2=>cases h
 rename_i xs hxs;rw[zcz hxs]at hmn;obtain⟨t0,xs0,s0,k1,k2⟩:=ha;rw[hmn]at k1;cases k1;have hob:RowRel w S (γ n) ty xs .live:=hm.obj n _ hmn;refine⟨_,_,h, ?_⟩;obtain⟨ao,cap,hx,hxcap,hxn,hxs0,hxe⟩:=hsee;have hsee':RepSee w S ty ys (.slice ao ys.length cap):=⟨ao,cap,rfl,hxcap,hxn,hxs0,hxe⟩;obtain⟨news,hsrc⟩:=ych (P:=P) (by omega) (hsee'.front xs.length);have hN:(ys.take xs.length).length=eI ys.length xs.length:=by grind
 have hexec:∀v,el a=v->(execOp el o).run P w=((Builtin.copy_ #[t,u] o.type #[v,el b]).run P w).andThen fun v w'=> .ok (.value v) w':=by simp_all[execOp,resolve,invoke,builtin]
 have hfc:(Builtin.firstCells i.size (eI ys.length xs.length) (.slice ao ys.length cap)).run P w= .ok news.toArray w:=by have:=hsrc.cells w (fun _=>rfl);rw[hN,<-hsz]at this;cases ao<;>exact this
 rw[hexec _ k2,hx];have hkind:(MO.sl ty (zxe xs ys) .live).kind=(MO.sl ty xs .live).kind:=by simp[MO.kind,y3z]
 cases hla:(γ n).a with
 | none=>
  have hcap:=hob.nil hla;have hx0:xs=[]:=aF (by have:=hob.len;omega);subst hx0;have hc0:zxe ([]:List ty.T) ys=[]:=by simp[zxe]
  have hmm:mupd m n (.sl ty (zxe [] ys) .live)=m:=by grind[V9,X4]
  rw[hmm];have hrun:(Builtin.copy_ #[t,u] o.type #[.slice none ([]:List ty.T).length (γ n).cap, .slice ao ys.length cap]).run P w= .ok (goInt 0) w:=by
   have hm0:eI ys.length 0=0:=Nat.min_zero _;have hfc0:(Builtin.firstCells i.size 0 (.slice ao ys.length cap)).run P w= .ok news.toArray w:=by grind
   simp_all[Builtin.copy_,Builtin.lenOf,sizeOf,typeInfo,run_underlying]
  refine⟨w,γ,_,by rw[hrun];rfl,Bel.refl _ _,fun _ h=> .inl h,hm,Keeps.refl _ _,fun _ _=>rfl,_,rfl, ?_⟩;show Value.int .i64 _=_;simp
 | some ad=>
  obtain⟨g,arr,el',fz,a1,a2,a3,a4,a5,a6,a7⟩:=hob.row _ hla;subst a1;have hS:=a6 rfl;have hblk:(γ n).blk=some g:=by grind[Loc.blk]
  have hnl:news.length=(eI ys.length xs.length)*ty.size:=by rw[hsrc.len,hN]
  have hfit:news.length<=arr.size:=by rw[hnl,a3];exact bn _ (Nat.le_trans (Nat.min_le_right _ _) hob.len)
  have hst:=za3 P g 0 el' fz news 0 arr w a2 a4.weak (by omega) hsrc.one;simp only[bD,List.take_zero,List.nil_append,bk]at hst;have hrun:(Builtin.copy_ #[t,u] o.type #[.slice (some ⟨g,0,none⟩) xs.length (γ n).cap, .slice ao ys.length cap]).run P w= .ok (goInt (eI ys.length xs.length)) (w.setRow g (news++arr.toList.drop news.length).toArray):=by simp_all[Builtin.copy_,Builtin.lenOf,sizeOf,typeInfo,run_underlying]
  have hW:=Wrote.setRow w g (news++arr.toList.drop news.length).toArray a2;refine⟨_,γ,_,by rw[hrun];rfl,hW.below (hm.high n _ g hmn rfl hblk),zxc hmn, ?_,z0d hmn hkind,fun k hk=>hW.block k (fun e=>hS (e▸hk)),_,rfl, ?_⟩
  ·refine hm.write hmn rfl hblk hW hkind hS ?_;show RowRel _ S (γ n) ty (zxe xs ys) .live;have hlen:(news++arr.toList.drop news.length).length=arr.size:=by grind
   refine⟨by rw[y3z];exact hob.len,hob.cap,hob.nil,fun a ha=> ?_⟩;rw[hla]at ha;cases ha;refine⟨g,_,el',fz,rfl,setRow_heap w g _ _ _ _ a2,by grind, ?_, ?_,fun _=>hS,fun e=>(by cases e)⟩
   ·grind
   ·have hr:Rows w S ty (news++arr.toList.drop news.length) (zxe xs ys):=by
     intro k y hy;have hy':(ys.take xs.length++xs.drop ys.length)[k]? =some y:=hy;by_cases hk:k<(ys.take xs.length).length
     ·rw[bN hk]at hy';obtain⟨c,c1,c2⟩:=hsrc.rows k y hy'
      grind
     ·rw[bL (by omega),cY]at hy';have hlt:=(aO.1 hy').1;have hmin:(ys.take xs.length).length=ys.length:=by grind
      rw[hmin]at hk hy';have ek:ys.length+(k-ys.length)=k:=by omega
      rw[ek]at hy';obtain⟨c,c1,c2⟩:=a5 k y hy';have hle:ys.length*ty.size<=k*ty.size:=bn _ (by omega)
      grind
    have hr:=hr.mono (w':=w.setRow g (news++arr.toList.drop news.length).toArray) fun k hk=>hW.block k (fun e=>hS (e▸hk));intro k y hy;obtain⟨c,c1,c2⟩:=hr k y hy
    grind
  ·rfl
variable {R:Type}
def nm(d k:Nat):Nat:=d+4096*k
mutual
def impV(d k:Nat):AV->AV×List MO
 | .fresh t xs=>(.own (nm d k),[.sl t xs .live])
 | .agg cs=>(.agg (impL d k cs).1,(impL d k cs).2)
 | .tup vs=>(.tup (impL d k vs).1,(impL d k vs).2)
 | v=>(v,[])
def impL(d k:Nat):List AV->List AV×List MO
 | []=>([],[])
 | v::vs=>((impV d k v).1::(impL d (k+(impV d k v).2.length) vs).1,(impV d k v).2++(impL d (k+(impV d k v).2.length) vs).2)
end
def z1l(m:Nat->Option MO)(d:Nat):Nat->List MO->(Nat->Option MO)
 | _,[]=>m
 | k,o::os=>z1l (mupd m (nm d k) o) d (k+1) os
def few(l:List MO):Bool:=cj l.length 200
def z6n(m:Nat->Option MO)(d:Nat):Nat->List MO->Bool
 | _,[]=>true
 | k,_::os=>(match m (nm d k)with | none=>true | some _=>false)&&z6n m d (k+1) os
def mapO(f:AV->Option AV):List AV->Option (List AV)
 | []=>some []
 | v::vs=>match f v with
  | some x=>match mapO f vs with | some xs=>some (x::xs) | none=>none
  | none=>none
def seeV(lv:Bool)(m:Nat->Option MO):Nat->AV->Option AV
 | 0,_=>none
 | k+1,v=>match v with
  | .undef=>none
  | .fresh _ _=>none
  | .oel _ _ _=>none
  | .yld _=>none
  | .own n=>match m n with
   | some (.sl t xs .still)=>some (.list t xs)
   | some (.sl t xs .live)=>bif lv then some (.list t xs)else none
   | _=>none
  | .ptr n off=>match m n with
   | some (.box cs .still)=>match mapO (seeV lv m k) cs with | some cs=>some (.bx cs off) | none=>none
   | some (.box cs .live)=>bif lv then(match mapO (seeV lv m k) cs with | some cs=>some (.bx cs off) | none=>none)else none
   | _=>none
  | .bx cs off=>match mapO (seeV lv m k) cs with | some cs=>some (.bx cs off) | none=>none
  | .clo f caps=>match mapO (seeV lv m k) caps with | some caps=>some (.clo f caps) | none=>none
  | .iface t x=>match seeV lv m k x with | some x=>some (.iface t x) | none=>none
  | .agg cs=>match mapO (seeV lv m k) cs with | some cs=>some (.agg cs) | none=>none
  | .tup cs=>match mapO (seeV lv m k) cs with | some cs=>some (.tup cs) | none=>none
  | v=>some v
def ygs:Ty->Bool
 | .list _=>false
 | .pair a b=>ygs a&&ygs b
 | _=>true
mutual
def scal:AV->Bool
 | .int _ _=>true
 | .bool _=>true
 | .str _=>true
 | .nils=>true
 | .nilp=>true
 | .nilf=>true
 | .nili=>true
 | .fresh t _=>ygs t
 | .agg cs=>ypl cs
 | .tup cs=>ypl cs
 | _=>false
def ypl:List AV->Bool
 | []=>true
 | v::vs=>scal v&&ypl vs
end
variable (E:Env)
def zpi(m:Nat->Option MO)(f:FuncId)(as:List AV)(K:AV->Option R):Option R:=
 match mapO (seeV false m 8) as with
 | some bs=>E.callK f bs K
 | none=>match mapO (seeV true m 8) as with
  | some bs=>E.callK f bs fun r=>gd (scal r) (K r)
  | none=>none
def znw(σ:St)(dst:Option Nat)(K:St->Option R)(r:AV):Option R:=
 match dst with
 | some d=>gd (few (impV d 0 r).2&&z6n σ.m d 0 (impV d 0 r).2) (K ⟨upd σ.ρ d (impV d 0 r).1,z1l σ.m d 0 (impV d 0 r).2⟩)
 | none=>gd (impV 0 0 r).2.isEmpty (K σ)
def preA(m:Nat->Option MO)(d:Nat)(T:TypeId)(a h:AV)(K:AV->(Nat->Option MO)->Option R):Option R:=
 match elemTy E T with
 | none=>none
 | some (_,ei,ty)=>
  match m d with
  | some _=>none
  | none=>match a with
   | .own n=>match m n with
    | some (.sl t' xs .live)=>match castL t' ty xs with
     | some xs=>match h with
      | .int _ q=>gd (ax ty.size ei.size&&(decide (0<=q)&&decide (q<=xs.length))) (K (.own d) (mupd (mupd m n (.sl ty xs .dead)) d (.sl ty (xs.take q.toNat) .live)))
      | _=>none
     | none=>none
    | _=>none
   | _=>none
def exN:Ex->Bool
 | .normal=>true
 | _=>false
def yldA(σ:St)(d n:Nat)(as:List AV)(K:St->Option R):Option R:=
 match σ.m n with
 | some (.rng id caps (some 0))=>match E.rounds id with
  | some c=>match getW (renC (y05 c.cin.tms (as++caps)) (mupd σ.m n (.rng id caps none)) c.cin.objs) c.cin (y05 c.cin.tms (as++caps)) (mupd σ.m n (.rng id caps none))with
   | some v=>gd (ax as.length c.np) (match c.F v with
    | some t=>c.out t fun e τ ns=>zfi (renC (y05 c.cin.tms (as++caps)) (mupd σ.m n (.rng id caps none)) c.cin.objs) ⟨σ.ρ,mupd σ.m n (.rng id caps none)⟩ (some d) d ⟨fun i=>bif ax i 0 then .bool (exN e)else .undef,τ.m⟩ ns fun σ'=>
      K ⟨σ'.ρ,mupd σ'.m n (.rng id caps (some e.key))⟩
    | none=>none)
   | none=>none
  | none=>none
 | _=>none
def preO(o:Oper):Bool:=match o.op,o.dst with
 | .slice ..,some d=>E.pre d
 | .call ..,some d=>E.pre d
 | _,_=>false
def preS(o:Oper)(σ:St)(K:St->Option R):Option R:=
 match o.op,o.dst with
 | .call ⟨.value f,args,_⟩,some d=>match σ.ev f with
  | .clo f caps=>match cloArgs caps (args.toList.map σ.ev)with | some l=>zi6 (E.callM f) σ (some d) d l K | none=>none
  | .yld n=>yldA E σ d n (args.toList.map σ.ev) K
  | _=>none
 | .call ⟨.invoke x name,args,_⟩,some d=>match σ.ev x with
  | .iface t v=>match E.meth t name with
   | some f=>zi6 (E.callM f) σ (some d) d (v::args.toList.map σ.ev) K
   | none=>none
  | _=>none
 | .slice T x none (some y) none,some d=>preA E σ.m d T (σ.ev x) (σ.ev y) fun v m=>K ⟨upd σ.ρ d v,m⟩
 | _,_=>none
def stillO(m:Nat->Option MO)(n:Nat):Nat->Option MO:=
 match m n with
 | some (.box cs .live)=>mupd m n (.box cs .still)
 | some (.sl t xs .live)=>mupd m n (.sl t xs .still)
 | _=>m
def stillL(m:Nat->Option MO):List Nat->(Nat->Option MO)
 | []=>m
 | n::ns=>stillL (stillO m n) ns
def stillF(m:Nat->Option MO)(n:Nat):Nat->Option MO:=
 match m n with
 | some (.sl t xs (.hole i r))=>match dec m t [.own r]with
  | some y=>mupd m n (.sl t (xs.set i y) .live)
  | none=>m
 | _=>stillO m n
def stillR(m:Nat->Option MO):List Nat->(Nat->Option MO)
 | []=>m
 | n::ns=>stillR (stillF m n) ns
def opB(o:Oper)(σ:St)(K:St->Option R):Option R:=bif preO E o then preS E o σ K else
 match o.op with
 | .store t p x=>ztw E t σ.m (σ.ev p) (σ.ev x) fun m=>K ⟨putO σ.ρ o.dst .undef,m⟩
 | .call ⟨.builtin .append,args,ts⟩=>match o.dst,args.toList,ts.toList with
  | some d,[a,b],[t,u]=>appA E σ.m d t u (σ.ev a) (σ.ev b) fun v m=>K ⟨upd σ.ρ d v,m⟩
  | _,_,_=>none
 | .call ⟨.builtin .copy,args,ts⟩=>match args.toList,ts.toList with
  | [a,b],[t,_]=>yky E σ.m t (σ.ev a) (σ.ev b) fun v m=>K ⟨putO σ.ρ o.dst v,m⟩
  | _,_=>none
 | .call ⟨.value f,args,_⟩=>match σ.ev f with
  | .clo f caps=>match cloArgs caps (args.toList.map σ.ev)with | some l=>zpi E σ.m f l (znw σ o.dst K) | none=>none
  | _=>none
 | .call ⟨.invoke x name,args,_⟩=>match σ.ev x with
  | .iface t v=>match E.meth t name with
   | some f=>zpi E σ.m f (v::args.toList.map σ.ev) (znw σ o.dst K)
   | none=>none
  | _=>none
 | op=>W2 E o.dst op σ.ev σ.m fun v ob=>match ob with
  | none=>K (σ.put o.dst v)
  | some ob=>match o.dst with
   | some d=>match σ.m d with
    | none=>K ⟨upd σ.ρ d v,mupd σ.m d ob⟩
    | some _=>none
   | none=>none
def za6(o:Oper):List Nat:=match o.dst with | some d=>E.still (2000000+d) | none=>[]
def zeb(o:Oper):List Nat:=match o.dst with | some d=>E.still (3000000+d) | none=>[]
def opA(o:Oper)(σ:St)(K:St->Option R):Option R:=opB E o ⟨σ.ρ,stillL σ.m (za6 E o)⟩ fun σ'=>K ⟨σ'.ρ,stillL σ'.m (zeb E o)⟩
def opsA(all:Array Oper):List Oper->St->(St->Option R)->Option R
 | [],σ,K=>K σ
 | o::rest,σ,K=>
  match o.guard with
  | none=>opA E o σ (fun σ'=>opsA all rest σ' K)
  | some (j,want)=>
   match(all[j]?).bind (·.dst)with
   | none=>none
   | some t=>
    match σ.ρ t with
    | .bool b=>
     bif b then
      (bif want then opA E o (σ.set t (.bool true)) (fun σ'=>opsA all rest σ' K)else opsA all rest ((σ.set t (.bool true)).put o.dst (.tup [])) K)
     else
      (bif want then opsA all rest ((σ.set t (.bool false)).put o.dst (.tup [])) K else opA E o (σ.set t (.bool false)) (fun σ'=>opsA all rest σ' K))
    | .tup []=>opsA all rest (σ.put o.dst (.tup [])) K
    | _=>none
def y4v(o:Oper):Bool:=match o.dst,zeb E o with | some d,[n]=>ax n d | _,_=>false
def yre:Op->Bool
 | .buildSlice .. =>true
 | .convert _ t _=>(match E.ty t with | some ti=>(match ti.d with | .slice _=>true | _=>false) | none=>false)
 | _=>false
def yrf(o:Oper):Bool:=(zeb E o).isEmpty || (yre E o.op&&y4v E o)
def z2k(o:Oper):Bool:= !(preO E o)&&((za6 E o).isEmpty&&(yrf E o&&
 match o.op with
 | .store .. =>false
 | .call ⟨.builtin .append,_,_⟩=>false
 | .call ⟨.builtin .copy,_,_⟩=>false
 | _=>true))
def z81(o:Oper):Bool:=match o.op with
 | .call ⟨.builtin .append,_,_⟩=>o.guard.isNone&&(o.dst.isSome&&(!(preO E o)&&((za6 E o).isEmpty&&((zeb E o).isEmpty || y4v E o))))
 | _=>false
def zpy:Op->Bool
 | .move _=>true
 | .assign _=>true
 | .nilCheck _=>true
 | .binOp .. =>true
 | .unOp .. =>true
 | .pick .. =>true
 | .fieldAddr .. =>true
 | .field .. =>true
 | .extract .. =>true
 | .build .. =>true
 | .call ⟨.builtin .min,_,_⟩=>true
 | .call ⟨.builtin .max,_,_⟩=>true
 | _=>false
def ycu(o:Oper):Bool:=zpy o.op&&(o.guard.isNone&&(o.dst.isSome&&z2k E o))
def zns(o:Oper):Bool:=match o.op with
 | .store .. =>o.guard.isNone&&o.dst.isNone
 | _=>false
def x2n:Op->Bool
 | .load .. =>true
 | .slice .. =>true
 | .indexAddr .. =>true
 | .index .. =>true
 | .convert .. =>true
 | .buildSlice .. =>true
 | .makeSlice .. =>true
 | .alloc .. =>true
 | .call ⟨.builtin .len,_,_⟩=>true
 | op=>zpy op
def subX(o:Oper):Bool:=x2n o.op&&(o.guard.isNone&&(o.dst.isSome&&z2k E o))
def yzo(o:Oper):Bool:=match o.op with
 | .makeSlice .. =>o.guard.isNone&&(o.dst.isSome&&z2k E o)
 | _=>false
def memX(o:Oper):Bool:=match o.op with
 | .call ⟨.value (.func _),_,_⟩=>preO E o&&(o.guard.isNone&&(o.dst.isSome&&((za6 E o).isEmpty&&(zeb E o).isEmpty)))
 | _=>false
def zoe(all:Array Oper)(x y:Oper):Bool:=x.apart all y&&((z2k E x&&z2k E y) || ((z81 E x&&subX E y) || ((ycu E x&&(z81 E y || zns y)) || ((yzo E x&&z81 E y) || ((memX E x&&ycu E y) || (ycu E x&&memX E y))))))
def zn2:Op->Bool
 | .load .. =>true
 | .indexAddr .. =>true
 | .index .. =>true
 | .slice .. =>true
 | .call ⟨.builtin .len,_,_⟩=>true
 | _=>false
def zdu(all:Array Oper)(b i j t:Nat):Bool:=(bF all.size).all fun k=>(cj k j || (cj k i&&b.testBit k)) || (match all[k]? with | some o=>(match o.dst with | some d=> !(ax d t) | none=>true) | none=>true)
def yzt(all:Array Oper)(σf:St)(b i j:Nat)(x y:Oper):Bool:=
 x.apart all y&&((zn2 x.op&&(x.guard.isNone&&(x.dst.isSome&&z2k E x)))&&(zns y&&match y.op with
  | .store _ (.tmp q) _=>zdu all b i j q&&(match σf.ρ q with
   | .ptr n' _=>(match x.op with
    | .load _ (.tmp a)=>zdu all b i j a&&(match σf.ρ a with
     | .ptr n _=> !(ax n n')
     | .bx _ _=>true
     | .ro _ _ _=>true
     | .oel _ _ _=>true
     | _=>false)
    | .load _ _=>false
    | _=>true)
   | _=>false)
  | _=>false))
def zwf(nl:Nat->Bool)(ρ:Nat->AV):Op->Bool
 | .load _ (.tmp a)=>nl a&&(match ρ a with
  | .ptr _ _=>true
  | .bx _ _=>true
  | .ro _ _ _=>true
  | _=>false)
 | .call ⟨.builtin .len,args,_⟩=>(match args.toList with
  | [.tmp a]=>nl a&&(match ρ a with
   | .list _ _=>true
   | .clip _ _=>true
   | .str _=>true
   | .nils=>true
   | _=>false)
  | _=>false)
 | .slice _ (.tmp a) _ _ _=>nl a&&(match ρ a with
   | .list _ _=>true
   | .clip _ _=>true
   | .str _=>true
   | .nils=>true
   | _=>false)
 | .indexAddr _ (.tmp a) _=>nl a&&(match ρ a with
   | .list _ _=>true
   | .clip _ _=>true
   | .nils=>true
   | _=>false)
 | .index .. =>true
 | _=>false
def yrb(all:Array Oper)(σf:St)(b i j:Nat)(x y:Oper):Bool:=
 x.apart all y&&((zn2 x.op&&(x.guard.isNone&&(x.dst.isSome&&z2k E x)))&&(z81 E y&&zwf (zdu all b i j) σf.ρ x.op))
def y4p:AV->Bool
 | .int _ _=>true
 | .bool _=>true
 | .str _=>true
 | .nils=>true
 | .nilp=>true
 | .nilf=>true
 | .nili=>true
 | .list _ _=>true
 | .clip _ _=>true
 | .own _=>true
 | _=>false
def yr5(src:List Nat):Bool:=match src with | []=>true | t::_=>cj t 5000000
def yeg(c:CtrM):Bool:=c.cin.objs.all fun p=>yr5 p.2.1
def yb1(all:Array Oper)(σf:St)(b i j:Nat)(x y c l:Oper):Bool:=
 x.apart all y&&(memX E c&&((zn2 l.op&&(l.guard.isNone&&(l.dst.isSome&&z2k E l)))&&(zwf (zdu all b i j) σf.ρ l.op&&match c.op with
  | .call ⟨.value (.func g),args,_⟩=>((E.callM g).all yeg)&&args.toList.all fun a=>(match a with
   | .tmp q=>zdu all b i j q&&y4p (σf.ρ q)
   | .const v=>y4p (ofV v)
   | _=>false)
  | _=>false)))
def ygy(all:Array Oper)(σf:St)(b i j:Nat)(x y:Oper):Bool:=yzt E all σf b i j x y || (yrb E all σf b i j x y || (yb1 E all σf b i j x y x y || yb1 E all σf b i j x y y x))
def ygw(acc:List Nat)(o:Oper):Nat:=
 o.after.toList.foldl (fun s e=>bif Region.binds .any e then s ||| (2^e.on ||| acc.getD e.on 0)else s) 0
def zl7:List Oper->List Nat->List Nat
 | [],acc=>acc
 | o::os,acc=>zl7 os (acc++[ygw acc o])
def zke(o:Oper):Bool:=match o.dst with | some d=>cj d 4096 | none=>true
def yvl(all:Array Oper):Bool:=all.all zke&&(bF all.size).all fun i=>(match all[i]? with | some o=>o.after.toList.all fun e=> !Region.binds .any e || cj e.on i | none=>true)
def zx5(all:Array Oper):List (Nat×Nat):=
 let b:=zl7 all.toList []
 (bF all.size).flatMap fun i=>((bF i).filter fun j=> !((b.getD i 0).testBit j || (match all[j]?,all[i]? with | some x,some y=>zoe E all x y | _,_=>false))).map fun j=>(j,i)
def yr6(all:Array Oper):Bool:=yvl all&&(zx5 E all).isEmpty
def yjx(all:Array Oper)(σf:St):Bool:=yvl all&&(let bs:=zl7 all.toList [];(zx5 E all).all fun p=>match all[p.1]?,all[p.2]? with | some x,some y=>ygy E all σf (bs.getD p.2 0) p.2 p.1 x y | _,_=>false)
end Go.Dv
namespace Go.Dv
open Go.RowKit
variable [LTab]
variable {R:Type}
theorem zbo{A:Type}(b:Bool)(x:Option A)(f:A->Option R):(gd b x).bind f=gd b (x.bind f):=by cases b<;>rfl
theorem y4w{A:Type}(b:Bool)(x y:Option A)(f:A->Option R):(bif b then x else y).bind f=bif b then x.bind f else y.bind f:=by grind
theorem zxg{A:Type}(i:Int)(k:Nat->Option A)(f:A->Option R):∀n,(armN i k n).bind f=armN i (fun j=>(k j).bind f) n
 | 0=>rfl
 | n+1=>by simp only[armN];rw[y4w,zxg i k f n]
set_option maxHeartbeats 4000000 in
theorem zre(E:Env)(dst:Option Nat)(op:Op)(ev:Operand->AV)(m:Nat->Option MO)(K:AV->Option MO->Option R):
  W2 E dst op ev m K=(W2 E dst op ev m fun v ob=>some (v,ob)).bind fun p=>K p.1 p.2:=by
 unfold W2;split<;>(repeat' split)<;>first | rfl | (simp only[zbo,y4w,ac,dI];done) | (rw[zxg];done) | (rw[zxg];congr 1;done) | (rw[zxg];congr 1;funext j;(repeat' split)<;>rfl) | (simp only[zbo,y4w,ac,dI];congr 1;(repeat' split)<;>rfl)
theorem zna(E:Env)(t:TypeId)(m:Nat->Option MO)(p v:AV)(K:(Nat->Option MO)->Option R):ztw E t m p v K=(ztw E t m p v some).bind K:=by
 unfold ztw
 (repeat' split)<;>first | rfl | simp[zbo] | (simp only[zbo,ac,dI];congr 1;(repeat' split)<;>first | rfl | (simp only[zbo,ac];done))
theorem y4x(E:Env)(m:Nat->Option MO)(d:Nat)(t u:TypeId)(a b:AV)(K:AV->(Nat->Option MO)->Option R):appA E m d t u a b K=(appA E m d t u a b fun v m=>some (v,m)).bind fun p=>K p.1 p.2:=by
 unfold appA
 (repeat' split)<;>first | rfl | simp[zbo]
theorem y87(E:Env)(m:Nat->Option MO)(t:TypeId)(a b:AV)(K:AV->(Nat->Option MO)->Option R):yky E m t a b K=(yky E m t a b fun v m=>some (v,m)).bind fun p=>K p.1 p.2:=by
 unfold yky
 (repeat' split)<;>rfl
theorem yek(E:Env)(m:Nat->Option MO)(d:Nat)(T:TypeId)(a h:AV)(K:AV->(Nat->Option MO)->Option R):preA E m d T a h K=(preA E m d T a h fun v m=>some (v,m)).bind fun p=>K p.1 p.2:=by
 unfold preA
 (repeat' split)<;>first | rfl | simp[zbo]
theorem zeo(E:Env)(m:Nat->Option MO)(f:FuncId)(as:List AV)(K:AV->Option R):zpi E m f as K=(zpi E m f as some).bind K:=by
 unfold zpi;split
 ·exact E.callK_nat ..
 ·split
  ·rw[E.callK_nat (K:=fun r=>gd (scal r) (K r)),E.callK_nat (K:=fun r=>gd (scal r) (some r)),aW];simp[zbo]
  ·rfl
theorem yut(σ:St)(dst:Option Nat)(K:St->Option R)(r:AV):znw σ dst K r=(znw σ dst some r).bind K:=by
 unfold znw
 grind[zbo]
theorem ydr(E:Env)(m:Nat->Option MO)(f:FuncId)(as:List AV)(σ:St)(dst:Option Nat)(K:St->Option R):zpi E m f as (znw σ dst K)=(zpi E m f as (znw σ dst some)).bind K:=by
 rw[zeo,zeo (K:=znw σ dst some),aW];congr 1
 grind[yut]
theorem z8r(rl:List (Nat×Option Nat))(σ:St)(dst:Option Nat)(d:Nat)(τ:St)(ns:List Nat)(K:St->Option R):zfi rl σ dst d τ ns K=(zfi rl σ dst d τ ns some).bind K:=by grind[zfi,zbo]
theorem zx8(σ:St)(dst:Option Nat)(d:Nat)(as:List AV)(K:St->Option R):∀l:List CtrM,zi6 l σ dst d as K=(zi6 l σ dst d as some).bind K
 | []=>rfl
 | c::r=>by
  simp only[zi6];cases getW (renC (argsA 0 as) σ.m c.cin.objs) c.cin (argsA 0 as) σ.m with
  | none=>exact zx8 σ dst d as K r
  | some v=>
   simp only[zbo];congr 1;cases c.F v with
   | none=>rfl
   | some t=>simp only;rw[c.nat,c.nat (K:=fun τ ns=>zfi (renC (argsA 0 as) σ.m c.cin.objs) σ dst d τ ns some),aW];congr 1;funext p;exact z8r ..
theorem yql(rl:List (Nat×Option Nat))(σ:St)(dst:Option Nat)(d:Nat)(τ:St)(ns:List Nat)(g:St->St)(K:St->Option R):(zfi rl σ dst d τ ns fun σ'=>K (g σ'))=(zfi rl σ dst d τ ns fun σ'=>some (g σ')).bind K:=by rw[z8r,z8r (K:=fun σ'=>some (g σ')),aW];rfl
theorem ywq{A:Type}(c:CtrR)(t:c.T)(K:Ex->St->List Nat->Option R)(K':Ex->St->List Nat->Option A)(f:A->Option R)(h:∀e τ ns,K e τ ns=(K' e τ ns).bind f):c.out t K=(c.out t K').bind f:=by
 rw[c.nat,c.nat (K:=K'),aW]
 grind
theorem yw6(E:Env)(σ:St)(d n:Nat)(as:List AV)(K:St->Option R):yldA E σ d n as K=(yldA E σ d n as some).bind K:=by
 unfold yldA;split
 ·split
  ·rename_i c _;split
   ·simp only[zbo];congr 1;split
    ·rename_i t _;refine ywq c t _ _ K fun e τ ns=> ?_;exact yql _ _ _ _ _ _ (fun σ'=>⟨σ'.ρ,mupd σ'.m n (.rng _ _ (some e.key))⟩) K
    ·rfl
   ·rfl
  ·rfl
 ·rfl
theorem yd0(E:Env)(o:Oper)(σ:St)(K:St->Option R):opB E o σ K=(opB E o σ some).bind K:=by
 unfold opB;rw[y4w];congr 1
 ·unfold preS;split
  ·grind[zx8,yw6]
  ·grind[zx8]
  ·rw[yek,yek (K:=fun v m=>some (⟨upd σ.ρ _ v,m⟩:St)),aW];congr 1
  ·rfl
 split
 ·rw[zna,zna (K:=fun m=>some (⟨putO σ.ρ o.dst .undef,m⟩:St)),aW];congr 1
 ·split
  ·rw[y4x,y4x (K:=fun v m=>some (⟨upd σ.ρ _ v,m⟩:St)),aW];congr 1
  ·rfl
 ·split
  ·rw[y87,y87 (K:=fun v m=>some (⟨putO σ.ρ o.dst v,m⟩:St)),aW];congr 1
  ·rfl
 ·grind[ydr]
 ·grind[ydr]
 ·refine(zre E _ _ _ _ _).trans (Eq.trans ?_ (congrArg (fun z=>Option.bind z K) (zre E _ _ _ _ _)).symm);split<;>grind
theorem zy0(E:Env)(o:Oper)(σ:St)(K:St->Option R):opA E o σ K=(opA E o σ some).bind K:=by unfold opA;rw[yd0,yd0 (K:=fun σ'=>some (⟨σ'.ρ,stillL σ'.m (zeb E o)⟩:St)),aW];rfl
theorem yn8{E:Env}{o:Oper}{σ σ':St}(h:opA E o σ some=some σ'):∃σ1,opB E o ⟨σ.ρ,stillL σ.m (za6 E o)⟩ some=some σ1/\σ'=⟨σ1.ρ,stillL σ1.m (zeb E o)⟩:=by grind[opA,yd0,Option.bind_eq_some_iff]
def stepG(E:Env)(all:Array Oper)(o:Oper)(σ:St):Option St:=
 match o.guard with
 | none=>opA E o σ some
 | some (j,want)=>
  match(all[j]?).bind (·.dst)with
  | none=>none
  | some t=>
   match σ.ρ t with
   | .bool b=>if b=want then opA E o σ some else some (σ.put o.dst (.tup []))
   | .tup []=>some (σ.put o.dst (.tup []))
   | _=>none
def runG(E:Env)(all:Array Oper):List Oper->St->Option St
 | [],σ=>some σ
 | o::rest,σ=>(stepG E all o σ).bind (runG E all rest)
theorem zw4{σ:St}{t:Nat}{v:AV}(h:σ.ρ t=v):σ.set t v=σ:=by
 cases σ with
 | mk ρ m=>
  simp only[St.set,St.mk.injEq,and_true]
  grind[zo6,zgf]
theorem yel(E:Env)(all:Array Oper):∀(l:List Oper) (σ:St) (K:St->Option R) (r:R),opsA E all l σ K=some r->∃σ',runG E all l σ=some σ'/\K σ'=some r
 | [],σ,K,r,h=>⟨σ,rfl,h⟩
 | o::rest,σ,K,r,h=>by
  unfold opsA at h;have step:∀{σ1:St},stepG E all o σ=some σ1->opsA E all rest σ1 K=some r->∃σ',runG E all (o::rest) σ=some σ'/\K σ'=some r:=by intro σ1 h1 h2;obtain⟨σ',k1,k2⟩:=yel E all rest σ1 K r h2;exact⟨σ',by simp only[runG,h1,ac];exact k1,k2⟩
  split at h
  ·rename_i hg;rw[zy0]at h;cases ho:opA E o σ some with
   | none=>rw[ho]at h;cases h
   | some σ1=>rw[ho]at h;exact step (by simp only[stepG,hg,ho]) h
  ·rename_i j want hg;split at h
   ·cases h
   ·rename_i t ht;split at h
    ·rename_i b hb;have fin:∀{b:Bool},σ.ρ t= .bool b->b=want->(opA E o (σ.set t (.bool b)) fun σ'=>opsA E all rest σ' K)=some r->∃σ',runG E all (o::rest) σ=some σ'/\K σ'=some r:=by
      intro b hb hw h;rw[zw4 hb,zy0]at h;cases ho:opA E o σ some with
      | none=>rw[ho]at h;cases h
      | some σ1=>rw[ho]at h;exact step (by simp only[stepG,hg,ht,hb,if_pos hw,ho]) h
     have skip:∀{b:Bool},σ.ρ t= .bool b->b≠want->opsA E all rest ((σ.set t (.bool b)).put o.dst (.tup [])) K=some r->∃σ',runG E all (o::rest) σ=some σ'/\K σ'=some r:=by intro b hb hw h;rw[zw4 hb]at h;exact step (by simp only[stepG,hg,ht,hb,if_neg hw]) h
     cases b<;>cases want
     ·exact fin hb rfl h
     ·exact skip hb (by simp) h
     ·exact skip hb (by simp) h
     ·exact fin hb rfl h
    ·rename_i hb;exact step (by simp only[stepG,hg,ht,hb]) h
    ·cases h
variable {R:Type}
def g0:Nat->Loc:=fun _=>⟨none,0⟩
def m0:Nat->Option MO:=fun _=>none
def AV.oneX:AV->Bool
 | .fresh _ _=>true
 | v=>v.one
mutual
def RepX(w:World)(S:Nat->Prop):AV->Value->List Loc->Prop
 | .fresh t xs,v,ls=>∃l,ls=[l]/\v= .slice l.a xs.length l.cap/\RowRel w S l t xs .live
 | .agg cs,v,ls=>∃vs,v= .agg (bX vs)/\RepXs w S cs vs ls/\cs.all AV.oneX=true
 | .tup cs,v,ls=>∃vs,v= .tuple (bX vs)/\RepXs w S cs vs ls
 | x,v,ls=>ls=[]/\RepA w S g0 m0 x v
def RepXs(w:World)(S:Nat->Prop):List AV->List Value->List Loc->Prop
 | [],vs,ls=>vs=[]/\ls=[]
 | c::cs,vs,ls=>∃u us l1 l2,vs=u::us/\ls=l1++l2/\RepX w S c u l1/\RepXs w S cs us l2
end
structure Locs (B:Nat->Prop) (ls:List Loc):Prop where
 new:∀l,l∈ls->∀b,l.blk=some b->¬B b
 once:ls.Pairwise fun l l'=>∀b,l.blk=some b->l'.blk≠some b
def z77(P:Program)(f:FuncId)(c:List AV->Option AV):Prop:=
 ∀(w:World) (S:Nat->Prop) (as:List AV) (vals:List Value) (r:AV),(∀b,S b->b<w.heap.size)->RepAs w S g0 m0 as vals->c as=some r->
  (∀w' (args:Array Value),(callFunc f args).run P w'= .ok (.enter f args) w')/\
  Calls P f vals.toArray w fun e w'=>∃v S' ls,e= .returned v/\Below w.heap.size w w'/\(∀b,S b->S' b)/\(∀b,S' b->S b\/(w.heap.size<=b/\b<w'.heap.size))/\RepX w' S' r v ls/\Locs (fun k=>k<w.heap.size) ls
section see
variable {w:World} {S S':Nat->Prop} {γ:Nat->Loc} {m:Nat->Option MO} {base:Nat->Prop} {lv:Bool} (hm:MemRel w S γ m base) (hS:∀b,S b->S' b) (hlv:lv=true->∀b,b<w.heap.size->S' b)
theorem y4l{f:AV->Option AV}(hf:∀v v' x,f v=some v'->RepA w S γ m v x->RepA w S' g0 m0 v' x/\(v.one=true->v'.one=true)):
  ∀(vs:List AV) (vs':List AV) (xs:List Value),mapO f vs=some vs'->RepAs w S γ m vs xs->RepAs w S' g0 m0 vs' xs/\(U7 vs=true->U7 vs'=true)
 | [],vs',xs,h,hr=>by simp only[mapO,aL.injEq]at h;subst h;exact⟨hr,fun h=>h⟩
 | v::vs,vs',xs,h,hr=>by
  obtain⟨u,us,rfl,h1,h2⟩:=hr;simp only[mapO]at h;split at h
  ·rename_i v' hv';split at h
   ·rename_i us' hus';cases h;obtain⟨a1,a2⟩:=hf v v' u hv' h1;obtain⟨b1,b2⟩:=y4l hf vs us' us hus' h2;refine⟨⟨u,us,rfl,a1,b1⟩,fun h=> ?_⟩;simp_all[U7]
   grind
  grind
include hm hS hlv in
theorem y4f:∀(k:Nat) (v v':AV) (x:Value),seeV lv m k v=some v'->RepA w S γ m v x->RepA w S' g0 m0 v' x/\(v.one=true->v'.one=true)
 | 0,_,_,_,h,_=>by cases h
 | k+1,v,v',x,h,hr=>by
  have ih:=y4l (y4f k);have mono:∀{t:Ty} {xs:List t.T} {x:Value},RepT w S (.list t) xs [x]->RepT w S' (.list t) xs [x]:=fun h=>RepT.mono (fun _ _=>rfl) hS _ _ _ h;cases v<;>simp only[seeV]at h
  case undef=>cases h
  case fresh=>cases h
  case oel=>cases h
  case yld=>cases h
  case int=>cases h;exact⟨hr,fun h=>h⟩
  case bool=>cases h;exact⟨hr,fun h=>h⟩
  case str=>cases h;exact⟨hr,fun h=>h⟩
  case nils=>cases h;exact⟨hr,fun h=>h⟩
  case nilp=>cases h;exact⟨hr,fun h=>h⟩
  case nilf=>cases h;exact⟨hr,fun h=>h⟩
  case nili=>cases h;exact⟨hr,fun h=>h⟩
  case list=>cases h;exact⟨mono hr,fun h=>h⟩
  case clip=>cases h;exact⟨⟨hr.1,mono hr.2⟩,fun h=>h⟩
  case own n=>
   obtain⟨t0,xs0,s0,k1,k2⟩:=hr;split at h
   ·rename_i t xs hn;rw[k1]at hn;cases hn;cases h;have hob:RowRel w S (γ n) _ _ .still:=hm.obj n _ k1;refine⟨?_,fun _=>rfl⟩;rw[k2];refine y74 hob hS fun a ha=> ?_;obtain⟨b,_,_,_,e1,_,_,_,_,_,e7⟩:=hob.row a ha;subst e1;exact hS _ (e7 rfl)
   ·rename_i t xs hn;rw[k1]at hn;cases hn;rcases bif_some h with⟨hl,h⟩ | ⟨_,h⟩
    ·cases h;have hob:RowRel w S (γ n) _ _ .live:=hm.obj n _ k1;refine⟨?_,fun _=>rfl⟩;rw[k2];refine y74 hob hS fun a ha=> ?_;obtain⟨b,_,_,_,e1,e2,_⟩:=hob.row a ha;subst e1;exact hlv hl _ (zcx e2)
    ·cases h
   ·cases h
  case ptr n off=>
   obtain⟨cs0,s0,b,k1,k2,k3⟩:=hr;have fin:∀{cs cs':List AV} {s:Stat},m n=some (.box cs s)->(s= .live->S' b)->mapO (seeV lv m k) cs=some cs'->RepA w S' g0 m0 (.bx cs' off) x:=by
    intro cs cs' s hn hs hcs;obtain⟨b',vs,el',h1,h2,h3,h4,h5,h6⟩:=hm.obj n _ hn;rw[k2]at h1;cases h1;obtain⟨i1,i2⟩:=ih cs cs' vs hcs h3;refine⟨b,vs,k3, ?_,i1,i2 h4,fun j u hj=> ?_⟩
    ·by_cases e:s= .live
     ·exact hs e
     ·exact hS _ (h6 e)
    ·rw[bk,cell_of_row w b j _ _ _ h2];simpa using hj
   split at h
   ·rename_i cs hn;split at h
    ·rename_i cs' hcs;cases h;exact⟨fin hn (fun e=>by cases e) hcs,fun _=>rfl⟩
    ·cases h
   ·rename_i cs hn;rcases bif_some h with⟨hl,h⟩ | ⟨_,h⟩
    ·split at h
     ·rename_i cs' hcs;cases h;refine⟨fin hn (fun _=> ?_) hcs,fun _=>rfl⟩;obtain⟨b',vs,el',h1,h2,_⟩:=hm.obj n _ hn;rw[k2]at h1;cases h1;exact hlv hl _ (zcx h2)
     ·cases h
    ·cases h
   ·cases h
  case bx cs off=>
   obtain⟨b,vs,h1,h2,h3,h4,h5⟩:=hr;split at h
   ·rename_i cs' hcs;cases h;obtain⟨i1,i2⟩:=ih cs cs' vs hcs h3;exact⟨⟨b,vs,h1,hS _ h2,i1,i2 h4,h5⟩,fun _=>rfl⟩
   ·cases h
  case ro t y off=>
   cases h;obtain⟨b,o,cs,h1,h2,h3,h4⟩:=hr;exact⟨⟨b,o,cs,h1,hS _ h2,RepT.mono (fun _ _=>rfl) hS _ _ _ h3,h4⟩,fun h=>h⟩
  case clo f caps=>
   obtain⟨vs,h1,h2⟩:=hr;split at h
   ·rename_i cs' hcs;cases h;exact⟨⟨vs,h1,(ih caps cs' vs hcs h2).1⟩,fun _=>rfl⟩
   ·cases h
  case iface t y=>
   obtain⟨u,h1,h2⟩:=hr;split at h
   ·rename_i y' hy;cases h;exact⟨⟨u,h1,(y4f k y y' u hy h2).1⟩,fun _=>rfl⟩
   ·cases h
  case agg cs=>
   obtain⟨vs,h1,h2,h3⟩:=hr;split at h
   ·rename_i cs' hcs;cases h;obtain⟨i1,i2⟩:=ih cs cs' vs hcs h2;exact⟨⟨vs,h1,i1,i2 h3⟩,fun h=>by cases h⟩
   ·cases h
  case tup cs=>
   obtain⟨vs,h1,h2⟩:=hr;split at h
   ·rename_i cs' hcs;cases h;exact⟨⟨vs,h1,(ih cs cs' vs hcs h2).1⟩,fun h=>by cases h⟩
   ·cases h
end see
theorem y0p{w:World}{S S':Nat->Prop}:∀(t:Ty) (x:t.T) (cs:List Value),ygs t=true->RepT w S t x cs->RepT w S' t x cs
 | .int _,_,_,_,h=>h
 | .bool,_,_,_,h=>h
 | .str,_,_,_,h=>h
 | .unit,_,_,_,h=>h
 | .pair a b,x,cs,hn,h=>by simp only[ygs,ab]at hn;obtain⟨c,d,rfl,h1,h2⟩:=h;exact⟨c,d,rfl,y0p a _ _ hn.1 h1,y0p b _ _ hn.2 h2⟩
 | .list _,_,_,hn,_=>by cases hn
mutual
theorem ymn{w:World}{S S':Nat->Prop}(hS:∀b,S' b->S b):∀(v:AV) (x:Value) (ls:List Loc),scal v=true->RepX w S v x ls->RepX w S' v x ls
 | .int _ _,_,_,_,h=>h
 | .bool _,_,_,_,h=>h
 | .str _,_,_,_,h=>h
 | .nils,_,_,_,h=>h
 | .nilp,_,_,_,h=>h
 | .nilf,_,_,_,h=>h
 | .nili,_,_,_,h=>h
 | .fresh t xs,_,_,hs,h=>by obtain⟨l,rfl,rfl,hr⟩:=h;refine⟨l,rfl,rfl,hr.len,hr.cap,hr.nil,fun a ha=> ?_⟩;obtain⟨b,arr,el,fz,h1,h2,h3,h4,h5,h6,h7⟩:=hr.row a ha;refine⟨b,arr,el,fz,h1,h2,h3,h4,fun i y hy=> ?_,fun e hb=>h6 e (hS b hb),fun e=>by cases e⟩;obtain⟨c,k1,k2⟩:=h5 i y hy;exact⟨c,y0p t y c hs k1,k2⟩
 | .agg cs,_,ls,hs,h=>by obtain⟨vs,h1,h2,h3⟩:=h;exact⟨vs,h1,y7g hS cs vs ls hs h2,h3⟩
 | .tup cs,_,ls,hs,h=>by obtain⟨vs,h1,h2⟩:=h;exact⟨vs,h1,y7g hS cs vs ls hs h2⟩
 | .undef,_,_,hs,_=>by cases hs
 | .list _ _,_,_,hs,_=>by cases hs
 | .clip _ _,_,_,hs,_=>by cases hs
 | .own _,_,_,hs,_=>by cases hs
 | .ptr _ _,_,_,hs,_=>by cases hs
 | .oel _ _ _,_,_,hs,_=>by cases hs
 | .bx _ _,_,_,hs,_=>by cases hs
 | .ro _ _ _,_,_,hs,_=>by cases hs
 | .clo _ _,_,_,hs,_=>by cases hs
 | .iface _ _,_,_,hs,_=>by cases hs
 | .yld _,_,_,hs,_=>by cases hs
theorem y7g{w:World}{S S':Nat->Prop}(hS:∀b,S' b->S b):∀(vs:List AV) (xs:List Value) (ls:List Loc),ypl vs=true->RepXs w S vs xs ls->RepXs w S' vs xs ls
 | [],_,_,_,h=>h
 | v::vs,xs,ls,hs,h=>by simp only[ypl,ab]at hs;obtain⟨u,us,l1,l2,rfl,rfl,h1,h2⟩:=h;exact⟨u,us,l1,l2,rfl,rfl,ymn hS v u l1 hs.1 h1,y7g hS vs us l2 hs.2 h2⟩
end
theorem MemRel.addHere{w:World}{S:Nat->Prop}{γ:Nat->Loc}{m:Nat->Option MO}{base:Nat->Prop}{d:Nat}{ob:MO}{l:Loc}(h:MemRel w S γ m base)(hfree:∀b,l.blk=some b->¬base b/\∀k q,m k=some q->q.live=true->(γ k).blk≠some b)
  (hd:m d=none) (ho:ObjRel w S (gupd γ d l) (mupd m d ob) d ob):MemRel w S (gupd γ d l) (mupd m d ob) base:=by
 refine⟨fun k q hq=> ?_,h.low, ?_, ?_⟩
 ·by_cases e:k=d
  ·grind[V9]
  ·rw[X4 _ _ e]at hq;exact ObjRel.grow (h.obj k q hq) h.low (Below.refl _ _) (Keeps.new hd) (z4z _ _ e)
 ·intro k k' q q' c hq hq' hlq hlq' hne hc hc';by_cases e:k=d
  ·grind[J0,X4,z4z]
  ·by_cases e':k'=d
   ·grind[J0,X4,z4z]
   ·rw[X4 _ _ e]at hq;rw[z4z _ _ e]at hc;rw[X4 _ _ e']at hq';rw[z4z _ _ e']at hc';exact h.apart k k' q q' c hq hq' hlq hlq' hne hc hc'
 ·intro k q c hq hlq hc;by_cases e:k=d
  ·grind[J0]
  ·rw[X4 _ _ e]at hq;rw[z4z _ _ e]at hc;exact h.high k q c hq hlq hc
def Free(base:Nat->Prop)(γ:Nat->Loc)(m:Nat->Option MO)(ls:List Loc):Prop:=
 (∀l,l∈ls->∀b,l.blk=some b->¬base b/\∀k q,m k=some q->q.live=true->(γ k).blk≠some b)/\ls.Pairwise fun l l'=>∀b,l.blk=some b->l'.blk≠some b
structure Took (w:World) (S:Nat->Prop) (base:Nat->Prop) (γ:Nat->Loc) (m:Nat->Option MO) (ls:List Loc) (γ':Nat->Loc) (m':Nat->Option MO):Prop where
 mem:MemRel w S γ' m' base
 keeps:Keeps m γ m' γ'
 live:∀k q b,m' k=some q->q.live=true->(γ' k).blk=some b->(∃q0,m k=some q0/\q0.live=true/\(γ k).blk=some b)\/∃l,l∈ls/\l.blk=some b
theorem yyn{d k k':Nat}(h:nm d k=nm d k'):k=k':=by grind[nm]
theorem y3b(m:Nat->Option MO)(d:Nat):∀(os os':List MO) (k:Nat),z1l m d k (os++os')=z1l (z1l m d k os) d (k+os.length) os'
 | [],os',k=>by simp[z1l]
 | o::os,os',k=>by simp only[ba,z1l,ag];rw[y3b (mupd m (nm d k) o) d os os' (k+1)];congr 1;omega
theorem y8s(d:Nat):∀(os:List MO) (m:Nat->Option MO) (k n:Nat),(∀i,k<=i->n≠nm d i)->z1l m d k os n=m n
 | [],_,_,_,_=>rfl
 | o::os,m,k,n,h=>by simp only[z1l];rw[y8s d os _ (k+1) n (fun i hi=>h i (by omega)),X4 _ _ (h k (ai _))]
theorem yhz(d:Nat):∀(os:List MO) (m:Nat->Option MO) (k i:Nat),k+os.length<=i->z1l m d k os (nm d i)=m (nm d i)
 | [],_,_,_,_=>rfl
 | o::os,m,k,i,h=>by simp only[ag]at h;simp only[z1l];rw[yhz d os _ (k+1) i (by omega),X4 _ _ (fun e=>by have:=yyn e;omega)]
theorem y3f(m:Nat->Option MO)(d:Nat):∀(os os':List MO) (k:Nat),z6n m d k (os++os')=true->z6n m d k os=true/\z6n m d (k+os.length) os'=true
 | [],os',k,h=>⟨rfl,by grind⟩
 | o::os,os',k,h=>by
  simp only[ba,z6n,ab]at h;obtain⟨a,b⟩:=y3f m d os os' (k+1) h.2;refine⟨by simp_all[z6n], ?_⟩
  grind
theorem zpd(d:Nat):∀(os:List MO) (m m':Nat->Option MO) (k:Nat),(∀i,k<=i->m' (nm d i)=m (nm d i))->z6n m d k os=true->z6n m' d k os=true
 | [],_,_,_,_,_=>rfl
 | o::os,m,m',k,he,h=>by simp only[z6n,ab]at h|-;exact⟨by rw[he k (ai _)];exact h.1,zpd d os m m' (k+1) (fun i hi=>he i (by omega)) h.2⟩
theorem Took.refl{w:World}{S:Nat->Prop}{base:Nat->Prop}{γ:Nat->Loc}{m:Nat->Option MO}(h:MemRel w S γ m base):Took w S base γ m [] γ m:=
 ⟨h,Keeps.refl _ _,fun _ q _ hq hl hb=> .inl ⟨q,hq,hl,hb⟩⟩
theorem z19{w:World}{S:Nat->Prop}{γ:Nat->Loc}{m:Nat->Option MO}{v:AV}{x:Value}(h:RepA w S g0 m0 v x):RepA w S γ m v x:=
 RepA.mono (fun _ _=>rfl) (fun _ h=>h) (fun n o h=>by cases h) v x h
mutual
theorem ynw{w:World}{S:Nat->Prop}{base:Nat->Prop}{d:Nat}:∀(v:AV) (x:Value) (ls:List Loc) (k:Nat) (γ:Nat->Loc) (m:Nat->Option MO),MemRel w S γ m base->RepX w S v x ls->Free base γ m ls->z6n m d k (impV d k v).2=true->
  ∃γ',Took w S base γ m ls γ' (z1l m d k (impV d k v).2)/\RepA w S γ' (z1l m d k (impV d k v).2) (impV d k v).1 x/\(v.oneX=true->(impV d k v).1.one=true)
 | .fresh t xs,x,ls,k,γ,m,hm,hx,hf,hfr=>by
  obtain⟨l,rfl,rfl,hrow⟩:=hx;have hd:m (nm d k)=none:=by
   simp only[impV,z6n,bv]at hfr;split at hfr
   ·assumption
   ·cases hfr
  refine⟨gupd γ (nm d k) l,⟨?_,Keeps.new hd, ?_⟩,⟨t,xs, .live,V9 _ _ _,by rw[J0]⟩,fun _=>rfl⟩
  ·refine hm.addHere (fun b hb=>hf.1 l (by simp) b hb) hd ?_;show RowRel w S (gupd γ (nm d k) l (nm d k)) t xs .live;rw[J0];exact hrow
  ·intro k' q b hq hl hb;by_cases e:k'=nm d k
   ·subst e;rw[J0]at hb;exact .inr ⟨l,by simp,hb⟩
   ·have hq:mupd m (nm d k) (.sl t xs .live) k'=some q:=hq;rw[X4 _ _ e]at hq;rw[z4z _ _ e]at hb;exact .inl ⟨q,hq,hl,hb⟩
 | .agg cs,x,ls,k,γ,m,hm,hx,hf,hfr=>by obtain⟨vs,rfl,h2,h3⟩:=hx;obtain⟨γ',a,b,c⟩:=yez cs vs ls k γ m hm h2 hf hfr;exact⟨γ',a,⟨vs,rfl,b,c h3⟩,fun h=>by cases h⟩
 | .tup cs,x,ls,k,γ,m,hm,hx,hf,hfr=>by obtain⟨vs,rfl,h2⟩:=hx;obtain⟨γ',a,b,c⟩:=yez cs vs ls k γ m hm h2 hf hfr;exact⟨γ',a,⟨vs,rfl,b⟩,fun h=>by cases h⟩
 | .undef,x,ls,k,γ,m,hm,hx,_,_=>by obtain⟨rfl,hx⟩:=hx;exact⟨γ, .refl hm,z19 hx,fun h=>h⟩
 | .int _ _,x,ls,k,γ,m,hm,hx,_,_=>by obtain⟨rfl,hx⟩:=hx;exact⟨γ, .refl hm,z19 hx,fun h=>h⟩
 | .bool _,x,ls,k,γ,m,hm,hx,_,_=>by obtain⟨rfl,hx⟩:=hx;exact⟨γ, .refl hm,z19 hx,fun h=>h⟩
 | .str _,x,ls,k,γ,m,hm,hx,_,_=>by obtain⟨rfl,hx⟩:=hx;exact⟨γ, .refl hm,z19 hx,fun h=>h⟩
 | .nils,x,ls,k,γ,m,hm,hx,_,_=>by obtain⟨rfl,hx⟩:=hx;exact⟨γ, .refl hm,z19 hx,fun h=>h⟩
 | .nilp,x,ls,k,γ,m,hm,hx,_,_=>by obtain⟨rfl,hx⟩:=hx;exact⟨γ, .refl hm,z19 hx,fun h=>h⟩
 | .nilf,x,ls,k,γ,m,hm,hx,_,_=>by obtain⟨rfl,hx⟩:=hx;exact⟨γ, .refl hm,z19 hx,fun h=>h⟩
 | .nili,x,ls,k,γ,m,hm,hx,_,_=>by obtain⟨rfl,hx⟩:=hx;exact⟨γ, .refl hm,z19 hx,fun h=>h⟩
 | .list t xs,x,ls,k,γ,m,hm,hx,_,_=>by obtain⟨rfl,hx⟩:=hx;exact⟨γ, .refl hm,z19 hx,fun h=>h⟩
 | .clip t xs,x,ls,k,γ,m,hm,hx,_,_=>by obtain⟨rfl,hx⟩:=hx;exact⟨γ, .refl hm,z19 hx,fun h=>h⟩
 | .own _,x,ls,k,γ,m,hm,hx,_,_=>by obtain⟨rfl,hx⟩:=hx;exact⟨γ, .refl hm,z19 hx,fun h=>h⟩
 | .ptr _ _,x,ls,k,γ,m,hm,hx,_,_=>by obtain⟨rfl,hx⟩:=hx;exact⟨γ, .refl hm,z19 hx,fun h=>h⟩
 | .oel _ _ _,x,ls,k,γ,m,hm,hx,_,_=>by obtain⟨rfl,hx⟩:=hx;exact⟨γ, .refl hm,z19 hx,fun h=>h⟩
 | .bx _ _,x,ls,k,γ,m,hm,hx,_,_=>by obtain⟨rfl,hx⟩:=hx;exact⟨γ, .refl hm,z19 hx,fun h=>h⟩
 | .ro _ _ _,x,ls,k,γ,m,hm,hx,_,_=>by obtain⟨rfl,hx⟩:=hx;exact⟨γ, .refl hm,z19 hx,fun h=>h⟩
 | .clo _ _,x,ls,k,γ,m,hm,hx,_,_=>by obtain⟨rfl,hx⟩:=hx;exact⟨γ, .refl hm,z19 hx,fun h=>h⟩
 | .iface _ _,x,ls,k,γ,m,hm,hx,_,_=>by obtain⟨rfl,hx⟩:=hx;exact⟨γ, .refl hm,z19 hx,fun h=>h⟩
theorem yez{w:World}{S:Nat->Prop}{base:Nat->Prop}{d:Nat}:∀(vs:List AV) (xs:List Value) (ls:List Loc) (k:Nat) (γ:Nat->Loc) (m:Nat->Option MO),MemRel w S γ m base->RepXs w S vs xs ls->Free base γ m ls->z6n m d k (impL d k vs).2=true->
  ∃γ',Took w S base γ m ls γ' (z1l m d k (impL d k vs).2)/\RepAs w S γ' (z1l m d k (impL d k vs).2) (impL d k vs).1 xs/\(vs.all AV.oneX=true->U7 (impL d k vs).1=true)
 | [],xs,ls,k,γ,m,hm,hx,_,_=>by obtain⟨rfl,rfl⟩:=hx;exact⟨γ, .refl hm,rfl,fun _=>rfl⟩
 | v::vs,xs,ls,k,γ,m,hm,hx,hf,hfr=>by
  obtain⟨u,us,l1,l2,rfl,rfl,h1,h2⟩:=hx;simp only[impL]at hfr|-;obtain⟨fr1,fr2⟩:=y3f m d _ _ k hfr;obtain⟨hf1,hf2⟩:=hf;obtain⟨p1,p2,p3⟩:=List.pairwise_append.1 hf2;obtain⟨γ1,t1,r1,o1⟩:=ynw v u l1 k γ m hm h1 ⟨fun l hl=>hf1 l (by simp[hl]),p1⟩ fr1;have fr2':z6n (z1l m d k (impV d k v).2) d (k+(impV d k v).2.length) (impL d (k+(impV d k v).2.length) vs).2=true:=by refine zpd d _ m _ _ (fun i hi=> ?_) fr2;exact yhz d (impV d k v).2 m k i hi
  have free2:Free base γ1 (z1l m d k (impV d k v).2) l2:=by
   refine⟨fun l hl b hb=>⟨(hf1 l (by simp[hl]) b hb).1,fun k' q hq hlq hbq=> ?_⟩,p2⟩;rcases t1.live k' q b hq hlq hbq with⟨q0,z1,z2,z3⟩ | ⟨l',z1,z2⟩
   ·exact(hf1 l (by simp[hl]) b hb).2 k' q0 z1 z2 z3
   ·exact p3 l' z1 l hl b z2 hb
  obtain⟨γ2,t2,r2,o2⟩:=yez vs us l2 (k+(impV d k v).2.length) γ1 _ t1.mem h2 free2 fr2';rw[y3b];refine⟨γ2,⟨t2.mem,t1.keeps.trans t2.keeps,fun k' q b hq hlq hbq=> ?_⟩,⟨u,us,rfl,RepA.mono (fun _ _=>rfl) (fun _ h=>h) t2.keeps _ _ r1,r2⟩,fun h=> ?_⟩
  ·rcases t2.live k' q b hq hlq hbq with⟨q0,z1,z2,z3⟩ | ⟨l',z1,z2⟩
   ·rcases t1.live k' q0 b z1 z2 z3 with h | ⟨l',y1,y2⟩
    ·exact .inl h
    ·exact .inr ⟨l',by simp[y1],y2⟩
   ·exact .inr ⟨l',by simp[z1],z2⟩
  ·simp only[bc,ab]at h;simp only[U7,bc,ab];exact⟨o1 h.1,by simpa[U7] using o2 h.2⟩
end
variable {R:Type}
theorem x4u{P:Program}{E:Env}(hE:∀t ti,E.ty t=some ti->TIok P t ti){w:World}{S:Nat->Prop}{γ:Nat->Loc}{m:Nat->Option MO}{base:Nat->Prop}(hm:MemRel w S γ m base){ev:Operand->AV}{el:Operand->Value}(hev:∀x,RepA w S γ m (ev x) (el x))
  {o:Oper} {T:TypeId} {x y:Operand} (ho:o.op= .slice T x none (some y) none) {d:Nat} {K:AV->(Nat->Option MO)->Option R} {r:R} (h:preA E m d T (ev x) (ev y) K=some r):
  ∃v m',K v m'=some r/\WOk (fun n=>n=d) base w S γ m ((execOp el o).run P w) (some v) m':=by
 unfold preA at h;have hx:=hev x;split at h
 ·cases h
 ·rename_i e ei ty he;obtain⟨e1,e2,e3⟩:=z96 hE he;split at h
  ·cases h
  ·rename_i hd;split at h
   ·rename_i n hea;rw[hea]at hx;split at h
    ·rename_i t' xs' hmn;split at h
     ·rename_i xs hxs;rw[zcz hxs]at hmn;split at h
      ·rename_i kq q hq;obtain⟨hb,h⟩:=X7 h;simp only[ab,decide_eq_true_eq,cr]at hb;obtain⟨b0,b1,b2⟩:=hb;obtain⟨t0,xs0,s0,k1,k2⟩:=hx;rw[hmn]at k1;cases k1;have hob:RowRel w S (γ n) ty xs .live:=hm.obj n _ hmn;have hnd:d≠n:=fun e=>by rw[e,hmn]at hd;cases hd
       have hkill:=hm.kill hmn;have hkk:Keeps m γ (mupd m n (.sl ty xs .dead)) γ:=z0d hmn rfl;have hd':mupd m n (.sl ty xs .dead) d=none:=by rw[X4 _ _ hnd];exact hd
       have hlen:(xs.take q.toNat).length=q.toNat:=by rw[List.length_take];omega
       have hrun:=zj5 (P:=P) (w:=w) hev (isS:=true) (len:=xs.length) (cap:=(γ n).cap) (lo:=none) (hi:=some y) (l:=0) (h:=q) rfl (by simp[zrm,hq]) (Int.le_refl 0) b1 b2 hob.len;have hs:=z0a hE w e2;have hee:(underlying T).run P w= .ok (.slice e) w:=run_underlying e1 w;have hval:(if(γ n).cap=0 then(γ n).a else(γ n).a.map (·.add (0*ty.size)))=(γ n).a:=by
        split
        ·rfl
        ·cases ha:(γ n).a with
         | none=>rfl
         | some a=>obtain⟨b,arr,el',fz,g1,_⟩:=hob.row a ha;subst g1;simp[Addr.add]
       have hex:(execOp el o).run P w= .ok (.value (.slice (γ n).a (xs.take q.toNat).length (γ n).cap)) w:=by have hv:el x= .slice (γ n).a xs.length (γ n).cap:=k2;rw[hlen];simp only[cX,aK]at hrun;have hval':=hval;simp only[Nat.zero_mul]at hval';simp[execOp,ho,Instr.sliceAt,Instr.slice,hv,hee,hrun,hs,hval']
       refine⟨_,_,h,w,gupd γ d (γ n),_,hex,Bel.refl _ _,yo9 hmn y79, ?_,hkk.trans (Keeps.new hd'),fun _ _=>rfl,_,rfl, ?_⟩
       ·refine hkill.addHere (fun b hb=>⟨hm.high n _ b hmn rfl hb,fun k q' hk hl=> ?_⟩) hd' ?_
        ·by_cases e:k=n
         ·subst e;rw[V9]at hk;cases hk;cases hl
         ·rw[X4 _ _ e]at hk;exact fun hb'=>hm.apart k n q' _ b hk hmn hl rfl e hb' hb
        ·show RowRel w S (gupd γ d (γ n) d) ty (xs.take q.toNat) .live;rw[J0];refine⟨by rw[hlen];have:=hob.len;omega,hob.cap,hob.nil,fun a ha=> ?_⟩;obtain⟨b,arr,el',fz,g1,g2,g3,g4,g5,g6,g7⟩:=hob.row a ha;refine⟨b,arr,el',fz,g1,g2,g3,g4,fun i z hz=>g5 i z ?_,g6,g7⟩;simp only[getq,dr]at hz|-;split at hz
         ·exact hz
         ·cases hz
       ·exact⟨ty,_, .live,V9 _ _ _,by rw[J0]⟩
      ·cases h
     ·cases h
    ·cases h
   ·cases h
variable {R:Type}
section cut
variable {w:World} {S:Nat->Prop} {γ:Nat->Loc} {m:Nat->Option MO} {rl:List (Nat×Option Nat)} {m':Nat->Option MO} {γ':Nat->Loc}
structure Ren (γ:Nat->Loc) (m:Nat->Option MO) (rl:List (Nat×Option Nat)) (m':Nat->Option MO) (γ':Nat->Loc):Prop where
 old:∀n d,z16 n rl=some (some d)->∃o o',m d=some o/\m' n=some o'/\o'.kind=o.kind/\γ' n=γ d
 new:∀n,z16 n rl=some none->∃t:Ty,m' n=some (.sl t [] .live)/\γ' n=⟨none,0⟩
theorem ydq{t' t:Ty}{x:t'.T}{y:t.T}(h:yvq t' t x=some y):∃e:t'=t,e▸x=y:=by
 unfold yvq at h;split at h
 ·rename_i e _;cases h;exact⟨e,rfl⟩
 ·cases h
theorem z1o{α:Type}{o:Option (α×List AV)}{x:α}(h:zd1 o=some x):o=some (x,[]):=by
 unfold zd1 at h;split at h
 ·cases h;rfl
 ·cases h
theorem RepAs.one{v:AV}{x:Value}(h:RepA w S γ m v x):RepAs w S γ m [v] [x]:=⟨x,[],rfl,h,rfl⟩
theorem RepAs.one'{v:AV}{xs:List Value}(h:RepAs w S γ m [v] xs):∃x,xs=[x]/\RepA w S γ m v x:=by obtain⟨u,us,rfl,h1,h2⟩:=h;exact⟨u,by rw[show us=[]from h2],h1⟩
def Found(w:World)(S:Nat->Prop)(γ:Nat->Loc)(m:Nat->Option MO)(m':Nat->Option MO)(γ':Nat->Loc)(s:Sh)(x:s.T)(vs r:List AV)(xs:List Value):Prop:=
 ∃xs1 xs2 vs1,xs=xs1++xs2/\vs=vs1++r/\RepAs w S γ' m' (mkL s x) xs1/\RepAs w S γ m r xs2/\(U7 vs1=true->U7 (mkL s x)=true)
theorem Found.one{s:Sh}{x:s.T}{v v':AV}{r:List AV}{xs:List Value}(he:mkL s x=[v'])(h:RepAs w S γ m (v::r) xs)(hv:∀u,RepA w S γ m v u->RepA w S γ' m' v' u)(ho:v.one=true->v'.one=true):Found w S γ m m' γ' s x (v::r) r xs:=by obtain⟨u,us,rfl,h1,h2⟩:=h;refine⟨[u],us,[v],rfl,rfl,by rw[he];exact .one (hv u h1),h2,fun h=> ?_⟩;rw[he];simp only[U7,bc,List.all_nil,bv]at h|-;exact ho h
theorem zwh{base:Nat->Prop}(hm:MemRel w S γ m base)(hr:Ren γ m rl m' γ')(s:Sh):∀(vs r:List AV) (x:s.T) (xs:List Value),getP m rl s vs=some (x,r)->RepAs w S γ m vs xs->Found w S γ m m' γ' s x vs r xs:=by
 induction s with
 | nil=>intro vs r x xs h hv;simp only[getP,aL.injEq,Prod.mk.injEq]at h;obtain⟨_,rfl⟩:=h;exact⟨[],xs,[],rfl,rfl,rfl,hv,fun _=>rfl⟩
 | cons a b iha ihb=>
  intro vs r x xs h hv;simp only[getP]at h;split at h
  ·rename_i x1 r1 h1;split at h
   ·rename_i y1 r2 h2;cases h;obtain⟨xs1,xs2,vs1,rfl,rfl,k1,k2,k3⟩:=iha vs r1 x1 xs h1 hv;obtain⟨ys1,ys2,us1,rfl,rfl,l1,l2,l3⟩:=ihb r1 r y1 xs2 h2 k2;refine⟨xs1++ys1,ys2,vs1++us1,by simp,by simp,k1.append l1,l2,fun h=> ?_⟩;rw[z52,ab]at h;show U7 (mkL a x1++mkL b y1)=true;rw[z52,ab];exact⟨k3 h.1,l3 h.2⟩
   ·cases h
  ·cases h
 | int k=>
  intro vs r x xs h hv;cases vs with
  | nil=>simp[getP]at h
  | cons v vs=>
   cases v<;>simp only[getP]at h<;>try (cases h;done)
   split at h
   ·rename_i e _;obtain⟨e⟩:=e;subst e;cases h;exact .one rfl hv (fun _ h=>h) fun h=>h
   ·cases h
 | bool=>
  intro vs r x xs h hv;cases vs with
  | nil=>simp[getP]at h
  | cons v vs=>
   cases v<;>simp only[getP]at h<;>try (cases h;done)
   cases h;exact .one rfl hv (fun _ h=>h) fun h=>h
 | str=>
  intro vs r x xs h hv;cases vs with
  | nil=>simp[getP]at h
  | cons v vs=>
   cases v<;>simp only[getP]at h<;>try (cases h;done)
   cases h;exact .one rfl hv (fun _ h=>h) fun h=>h
 | list t=>
  intro vs r x xs h hv;cases vs with
  | nil=>simp[getP]at h
  | cons v vs=>
   simp only[getP]at h;split at h
   ·rename_i ys hys;cases h;exact .one rfl hv (fun u hu=>zth hm hys hu) fun _=>rfl
   ·cases h
 | val t=>
  intro vs r x xs h hv;cases vs with
  | nil=>simp[getP]at h
  | cons v vs=>
   cases v<;>simp only[getP]at h<;>try (cases h;done)
   rename_i cs;split at h
   ·rename_i y hy;cases h;refine .one rfl hv (fun u hu=> ?_) fun h=>h;obtain⟨us,h1,h2,h3⟩:=hu;exact⟨us,h1,(zyu hm hy h2).enc,z85 _ _⟩
   ·cases h
 | ro t off=>
  intro vs r x xs h hv;cases vs with
  | nil=>simp[getP]at h
  | cons v vs=>
   cases v<;>simp only[getP]at h<;>try (cases h;done)
   rcases bif_some h with⟨e,h⟩ | ⟨_,h⟩
   ·split at h
    ·rename_i y hy;cases h;obtain⟨e',rfl⟩:=ydq hy;subst e';have:=af e;subst this;exact .one rfl hv (fun _ h=>h) fun h=>h
    ·cases h
   ·cases h
 | own n=>
  intro vs r x xs h hv;cases vs with
  | nil=>simp[getP]at h
  | cons v vs=>
   cases v<;>simp only[getP]at h<;>try (cases h;done)
   ·split at h
    ·rename_i hl;cases h;refine .one rfl hv (fun u hu=> ?_) fun _=>rfl;obtain⟨t,h1,h2⟩:=hr.new n hl;simp only[RepA]at hu;exact⟨t,[], .live,h1,by rw[hu,h2];rfl⟩
    ·cases h
   ·rename_i d;split at h
    ·rename_i d' hl;rcases bif_some h with⟨e,h⟩ | ⟨_,h⟩
     ·cases h;have:=af e;subst this;refine .one rfl hv (fun u hu=> ?_) fun _=>rfl;obtain⟨t,ys,s,h1,h2⟩:=hu;obtain⟨o,o',k1,k2,k3,k4⟩:=hr.old n d hl;rw[h1]at k1;cases k1;obtain⟨t',xs',s',rfl,j1,j2⟩:=y76 k3;exact⟨t',xs',s',k2,by rw[h2,k4,j2]⟩
     ·cases h
    ·cases h
 | ptr n off=>
  intro vs r x xs h hv;cases vs with
  | nil=>simp[getP]at h
  | cons v vs=>
   cases v<;>simp only[getP]at h<;>try (cases h;done)
   rename_i d off';split at h
   ·rename_i d' hl;rcases bif_some h with⟨e,h⟩ | ⟨_,h⟩
    ·cases h;simp only[ab]at e;have e1:=af e.1;have e2:=af e.2;subst e1;subst e2;refine .one rfl hv (fun u hu=> ?_) fun _=>rfl;obtain⟨cs,s,b,h1,h2,h3⟩:=hu;obtain⟨o,o',k1,k2,k3,k4⟩:=hr.old n d hl;rw[h1]at k1;cases k1;obtain⟨cs',s',rfl⟩:=yex k3;exact⟨cs',s',b,k2,by rw[k4];exact h2,h3⟩
    ·cases h
   ·cases h
 | yld n=>
  intro vs r x xs h hv;cases vs with
  | nil=>simp[getP]at h
  | cons v vs=>
   cases v<;>simp only[getP]at h<;>try (cases h;done)
   rename_i d;split at h
   ·rename_i d' hl;rcases bif_some h with⟨e,h⟩ | ⟨_,h⟩
    ·cases h;have e1:=af e;subst e1;refine .one rfl hv (fun u hu=> ?_) fun _=>rfl;obtain⟨id,cs,e,l,h1,h2,h3⟩:=hu;obtain⟨o,o',k1,k2,k3,k4⟩:=hr.old n d hl;rw[h1]at k1;cases k1;obtain⟨cs',e',rfl⟩:=yew k3;exact⟨id,cs',e',l,k2,by rw[k4];exact h2,h3⟩
    ·cases h
   ·cases h
 | nils=>
  intro vs r x xs h hv;cases vs with
  | nil=>simp[getP]at h
  | cons v vs=>
   cases v<;>simp only[getP]at h<;>try (cases h;done)
   cases h;exact .one rfl hv (fun _ h=>h) fun h=>h
 | nilp=>
  intro vs r x xs h hv;cases vs with
  | nil=>simp[getP]at h
  | cons v vs=>
   cases v<;>simp only[getP]at h<;>try (cases h;done)
   cases h;exact .one rfl hv (fun _ h=>h) fun h=>h
 | nili=>
  intro vs r x xs h hv;cases vs with
  | nil=>simp[getP]at h
  | cons v vs=>
   cases v<;>simp only[getP]at h<;>try (cases h;done)
   cases h;exact .one rfl hv (fun _ h=>h) fun h=>h
 | nilf=>
  intro vs r x xs h hv;cases vs with
  | nil=>simp[getP]at h
  | cons v vs=>
   cases v<;>simp only[getP]at h<;>try (cases h;done)
   cases h;exact .one rfl hv (fun _ h=>h) fun h=>h
 | agg l ih=>
  intro vs r x xs h hv;cases vs with
  | nil=>simp[getP]at h
  | cons v vs=>
   cases v<;>simp only[getP]at h<;>try (cases h;done)
   rename_i cs;split at h
   ·rename_i y hy;cases h;refine .one rfl hv (fun u hu=> ?_) fun h=>h;obtain⟨us,h1,h2,h3⟩:=hu;obtain⟨xs1,xs2,vs1,rfl,e,k1,k2,k3⟩:=ih cs [] x us (z1o hy) h2;simp only[aj]at e;subst e;rw[show xs2=[]from k2,aj]at h1;exact⟨xs1,h1,k1,k3 h3⟩
   ·cases h
 | tup l ih=>
  intro vs r x xs h hv;cases vs with
  | nil=>simp[getP]at h
  | cons v vs=>
   cases v<;>simp only[getP]at h<;>try (cases h;done)
   rename_i cs;split at h
   ·rename_i y hy;cases h;refine .one rfl hv (fun u hu=> ?_) fun h=>(by cases h);obtain⟨us,h1,h2⟩:=hu;obtain⟨xs1,xs2,vs1,rfl,e,k1,k2,k3⟩:=ih cs [] x us (z1o hy) h2;simp only[aj]at e;subst e;rw[show xs2=[]from k2,aj]at h1;exact⟨xs1,h1,k1⟩
   ·cases h
 | clo f l ih=>
  intro vs r x xs h hv;cases vs with
  | nil=>simp[getP]at h
  | cons v vs=>
   cases v<;>simp only[getP]at h<;>try (cases h;done)
   rename_i f' cs;rcases bif_some h with⟨e,h⟩ | ⟨_,h⟩
   ·have:=af e;subst this;split at h
    ·rename_i y hy;cases h;refine .one rfl hv (fun u hu=> ?_) fun h=>h;obtain⟨us,h1,h2⟩:=hu;obtain⟨xs1,xs2,vs1,rfl,e,k1,k2,k3⟩:=ih cs [] x us (z1o hy) h2;rw[show xs2=[]from k2,aj]at h1;exact⟨xs1,h1,k1⟩
    ·cases h
   ·cases h
 | iface t a ih=>
  intro vs r x xs h hv;cases vs with
  | nil=>simp[getP]at h
  | cons v vs=>
   cases v<;>simp only[getP]at h<;>try (cases h;done)
   rename_i t' y;rcases bif_some h with⟨e,h⟩ | ⟨_,h⟩
   ·have:=af e;subst this;split at h
    ·rename_i z hz;cases h;obtain⟨u,us,rfl,⟨u',h1,h2⟩,h3⟩:=hv;obtain⟨xs1,xs2,vs1,e1,e2,k1,k2,k3⟩:=ih [y] [] x [u'] (z1o hz) (.one h2);rw[show xs2=[]from k2,aj]at e1;subst e1;have hlen:=k1.length;have he:∃v',mkL a x=[v']:=by
      cases hq:mkL a x with
      | nil=>rw[hq]at hlen;simp at hlen
      | cons v' q=>rw[hq]at hlen;cases q with
       | nil=>exact⟨v',rfl⟩
       | cons _ _=>simp at hlen
     obtain⟨v',he⟩:=he;have hmk:mkL (.iface t' a) x=[.iface t' v']:=by simp only[mkL];rw[he]
     refine⟨[u],us,[.iface t' y],rfl,rfl, ?_,h3,fun _=>by rw[hmk];rfl⟩;rw[hmk];rw[he]at k1;obtain⟨q,e,k1⟩:=k1.one';cases e;exact .one ⟨u',h1,k1⟩
    ·cases h
   ·cases h
 | bx l off ih=>
  intro vs r x xs h hv;cases vs with
  | nil=>simp[getP]at h
  | cons v vs=>
   cases v<;>simp only[getP]at h<;>try (cases h;done)
   rename_i cs off';rcases bif_some h with⟨e,h⟩ | ⟨_,h⟩
   ·have:=af e;subst this;split at h
    ·rename_i y hy;cases h;refine .one rfl hv (fun u hu=> ?_) fun h=>h;obtain⟨b,us,h1,h2,h3,h4,h5⟩:=hu;obtain⟨xs1,xs2,vs1,rfl,e,k1,k2,k3⟩:=ih cs [] x us (z1o hy) h3;simp only[aj]at e;subst e;rw[show xs2=[]from k2,aj]at h5;exact⟨b,xs1,h1,h2,k1,k3 h4,h5⟩
    ·cases h
   ·cases h
theorem y7i{n:Nat}{e:Option Nat}:∀{l:List (Nat×Option Nat)},z16 n l=some e->(n,e)∈l
 | [],h=>by cases h
 | (k,q)::l,h=>by
  rcases bif_some (by simpa only[z16] using h)with⟨hb,h2⟩ | ⟨_,h2⟩
  ·have e1:=af hb;cases h2;rw[e1];simp
  ·exact ay _ (y7i h2)
theorem zl6{d n:Nat}:∀{l:List (Nat×Option Nat)},ztt d l=true->(n,some d)∉l
 | [],_,h=>by cases h
 | (k,some q)::l,hn,h=>by
  simp only[ztt,ab,au]at hn;rcases ar.1 h with e | h
  ·cases e;rw[cS]at hn;cases hn.1
  ·exact zl6 hn.2 h
 | (k,none)::l,hn,h=>by
  simp only[ztt]at hn;rcases ar.1 h with e | h
  ·cases e
  ·exact zl6 hn h
theorem yim{d:Nat}:∀{l:List (Nat×Option Nat)} {n n':Nat},dist l=true->z16 n l=some (some d)->z16 n' l=some (some d)->n=n'
 | [],_,_,_,h,_=>by cases h
 | (k,e)::l,n,n',hd,h,h'=>by
  have hd2:dist l=true/\(e=some d->ztt d l=true):=by
   cases e with
   | none=>exact⟨hd,fun h=>by cases h⟩
   | some q=>simp only[dist,ab]at hd;exact⟨hd.2,fun h=>by cases h;exact hd.1⟩
  rcases bif_some (by simpa only[z16] using h)with⟨hb,h2⟩ | ⟨_,h2⟩
  ·have e1:=af hb;simp only[aL.injEq]at h2;rcases bif_some (by simpa only[z16] using h')with⟨hb',h3⟩ | ⟨_,h3⟩
   ·exact e1.trans (af hb').symm
   ·exact absurd (y7i h3) (zl6 (hd2.2 h2))
  ·rcases bif_some (by simpa only[z16] using h')with⟨hb',h3⟩ | ⟨_,h3⟩
   ·simp only[aL.injEq]at h3;exact absurd (y7i h2) (zl6 (hd2.2 h3))
   ·exact yim hd2.1 h2 h3
def yzb(m:Nat->Option MO)(rl:List (Nat×Option Nat))(cs cs':List AV):Prop:=
 (∃l x,getP m rl l cs=some (x,[])/\cs'=mkL l x)\/(∃(t:Ty) (x:t.T),dec m t cs=some x/\cs'=enc t x)\/ykh cs cs'=true
omit [LTab]in
theorem ytw{a b:AV}(h:AV.same a b=true):a=b/\a.flat=true:=by
 unfold AV.same at h;split at h
 ·simp only[ab,decide_eq_true_eq]at h;obtain⟨h1,rfl⟩:=h;split at h1
  ·rename_i e _;exact⟨by rw[e.down],rfl⟩
  ·cases h1
 ·simp only[beq_iff_eq]at h;exact⟨by rw[h],rfl⟩
 ·exact⟨rfl,rfl⟩
 ·exact⟨rfl,rfl⟩
 ·exact⟨rfl,rfl⟩
 ·exact⟨rfl,rfl⟩
 ·exact⟨rfl,rfl⟩
 ·cases h
omit [LTab]in
theorem ycj:∀{l r:List AV},ykh l r=true->l=r/\U7 l=true/\l.all AV.flat=true
 | [],[],_=>⟨rfl,rfl,rfl⟩
 | [],_::_,h=>by cases h
 | _::_,[],h=>by cases h
 | a::l,b::r,h=>by simp only[ykh,ab]at h;obtain⟨e,f⟩:=ytw h.1;obtain⟨e',f',g'⟩:=ycj h.2;refine⟨by rw[e,e'], ?_,by rw[bc,f,g'];rfl⟩;simp only[U7,bc,ab]at f'|-;refine⟨?_,f'⟩;cases a<;>first | rfl | cases f
theorem yo3:∀{l:List AV} {vs:List Value},l.all AV.flat=true->RepAs w S γ m l vs->RepAs w S γ' m' l vs
 | [],_,_,h=>h
 | a::l,vs,hf,h=>by obtain⟨u,us,rfl,h1,h2⟩:=h;simp only[bc,ab]at hf;refine⟨u,us,rfl, ?_,yo3 hf.2 h2⟩;cases a<;>first | exact h1 | (cases hf.1;done)
theorem ypa{base:Nat->Prop}(hm:MemRel w S γ m base)(hr:Ren γ m rl m' γ'){cs cs':List AV}{vs:List Value}(h:yzb m rl cs cs')(hv:RepAs w S γ m cs vs):RepAs w S γ' m' cs' vs/\(U7 cs=true->U7 cs'=true):=by
 rcases h with⟨l,x,h,rfl⟩ | ⟨t,x,h,rfl⟩ | h
 ·obtain⟨xs1,xs2,vs1,e1,e,i1,i2,i3⟩:=zwh hm hr l cs [] x vs h hv;simp only[aj]at e;subst e;rw[show xs2=[]from i2,aj]at e1;rw[e1];exact⟨i1,i3⟩
 ·exact⟨(zyu hm h hv).enc,fun _=>z85 _ _⟩
 ·obtain⟨rfl,h1,h2⟩:=ycj h;exact⟨yo3 h2 hv,fun h=>h⟩
def QOk(m:Nat->Option MO)(rl:List (Nat×Option Nat))(n:Nat)(q:MO):Prop:=
 (∃d t xs,z16 n rl=some (some d)/\m d=some (.sl t xs .live)/\q= .sl t xs .live)\/
 (∃t,z16 n rl=some none/\q= .sl t [] .live)\/
 (∃(d:Nat) (l cs:List AV) (s:Stat) (_:Unit),z16 n rl=some (some d)/\m d=some (.box cs s)/\yzb m rl cs l/\q= .box l s)\/
 (∃d l cs id e x,z16 n rl=some (some d)/\m d=some (.rng id cs (some e))/\getP m rl l cs=some (x,[])/\q= .rng id (mkL l x) (some e))
theorem yxa{n:Nat}{k:OK}{e:Option Nat}{x:k.T}(hl:z16 n rl=some e)(h:yq1 m rl k e=some x):QOk m rl n (mkO k x):=by
 cases k with
 | sl t=>
  cases e with
  | none=>cases h;exact .inr (.inl ⟨t,hl,rfl⟩)
  | some d=>
   have h:(match m d with | some (.sl t' xs .live)=>castL t' t xs | _=>none)=some x:=h
   cases hd:m d with
   | none=>rw[hd]at h;cases h
   | some o=>
    rw[hd]at h;cases o with
    | box _ _=>cases h
    | rng _ _ _=>cases h
    | sl t' xs s=>
     cases s with
     | live=>have h:castL t' t xs=some x:=h;have e:=zcz (s:= .live) h;rw[e]at hd;exact .inl ⟨d,_,_,hl,hd,rfl⟩
     | still=>cases h
     | dead=>cases h
     | hole _ _=>cases h
 | box l=>
  cases e with
  | none=>cases h
  | some d=>
   simp only[yq1]at h;split at h
   ·rename_i cs hd;exact .inr (.inr (.inl ⟨d,_,cs, .live,(),hl,hd, .inl ⟨l,x,z1o h,rfl⟩,rfl⟩))
   ·cases h
 | boxS l=>
  cases e with
  | none=>cases h
  | some d=>
   simp only[yq1]at h;split at h
   ·rename_i cs hd;exact .inr (.inr (.inl ⟨d,_,cs, .still,(),hl,hd, .inl ⟨l,x,z1o h,rfl⟩,rfl⟩))
   ·cases h
 | boxV t=>
  cases e with
  | none=>cases h
  | some d=>
   have h:(match m d with | some (.box cs .live)=>dec m t cs | _=>none)=some x:=h
   cases hd:m d with
   | none=>rw[hd]at h;cases h
   | some o=>
    rw[hd]at h;cases o with
    | sl _ _ _=>cases h
    | rng _ _ _=>cases h
    | box cs s=>
     cases s with
     | live=>exact .inr (.inr (.inl ⟨d,_,cs, .live,(),hl,hd, .inr (.inl ⟨t,x,h,rfl⟩),rfl⟩))
     | still=>cases h
     | dead=>cases h
     | hole _ _=>cases h
 | boxC cs0=>
  cases e with
  | none=>cases h
  | some d=>
   have h:(match m d with | some (.box cs .live)=>gd (ykh cs cs0) (some ()) | _=>none)=some x:=h
   cases hd:m d with
   | none=>rw[hd]at h;cases h
   | some o=>
    rw[hd]at h;cases o with
    | sl _ _ _=>cases h
    | rng _ _ _=>cases h
    | box cs s=>
     cases s with
     | live=>exact .inr (.inr (.inl ⟨d,_,cs, .live,(),hl,hd, .inr (.inr (X7 h).1),rfl⟩))
     | still=>cases h
     | dead=>cases h
     | hole _ _=>cases h
 | rng id l e'=>
  cases e with
  | none=>cases h
  | some d=>
   simp only[yq1]at h;split at h
   ·rename_i id' cs e2 hd;rcases bif_some h with⟨hb,h⟩ | ⟨_,h⟩
    ·simp only[ab]at hb;have e3:=af hb.1;have e4:=af hb.2;subst e3;subst e4;exact .inr (.inr (.inr ⟨d,l,cs,id',e2,x,hl,hd,z1o h,rfl⟩))
    ·cases h
   ·cases h
theorem yst:∀{l:List (Nat×List Nat×OK)} {v:OT l},getO m rl l=some v->∀n q,mofO l v n=some q->QOk m rl n q
 | [],_,_,_,_,hq=>by cases hq
 | (k,src,ok)::l,v,h,n,q,hq=>by
  simp only[getO]at h;split at h
  ·rename_i e hl;split at h
   ·rename_i x hx;split at h
    ·rename_i y hy;cases h;rcases bif_some (by simpa only[mofO] using hq)with⟨hb,h2⟩ | ⟨_,h2⟩
     ·have e1:=af hb;cases h2;rw[e1];exact yxa hl hx
     ·exact yst hy n q h2
    ·cases h
   ·cases h
  ·cases h
theorem zr1{g:List Nat->Nat->Option Nat}{n:Nat}{e:Option Nat}:∀{l:List (Nat×List Nat×OK)} {v:OT l},z16 n (l.map fun p=>(p.1,g p.2.1 p.1))=some e->∃q,mofO l v n=some q
 | [],_,h=>by cases h
 | (k,src,ok)::l,v,h=>by
  simp only[mofO];rcases bif_some (by simpa only[aC,z16] using h)with⟨hb,h⟩ | ⟨hb,h⟩
  ·rw[hb];exact⟨_,rfl⟩
  ·rw[hb];exact zr1 h
theorem zwp{f:Nat->Value}:∀{ts:List Nat} {vs:List AV} (t:Nat),RepAs w S γ m vs (ts.map f)->RepA w S γ m (y05 ts vs t) (f t)
 | [],vs,t,_=>by cases vs<;>exact trivial
 | t0::ts,[],t,_=>trivial
 | t0::ts,v::vs,t,h=>by
  obtain⟨u,us,e,h1,h2⟩:=h;simp only[aC,bW.injEq]at e;obtain⟨rfl,rfl⟩:=e;simp only[y05];cases hb:ax t t0 with
  | true=>rw[af hb];exact h1
  | false=>exact zwp t h2
theorem yev{ρ:Nat->AV}{f:Nat->Value}(h:∀t,RepA w S γ m (ρ t) (f t)):∀l:List Nat,RepAs w S γ m (l.map ρ) (l.map f)
 | []=>rfl
 | t::l=>⟨_,_,rfl,h t,yev h l⟩
theorem ydg{base:Nat->Prop}{ρ:Nat->AV}{f:Nat->Value}(hmem:MemRel w S γ m base)(htm:∀t,RepA w S γ m (ρ t) (f t)){c:Cut}{v:c.T}{g:List Nat->Nat->Option Nat}{rl:List (Nat×Option Nat)}(hrl:rl=c.objs.map fun p=>(p.1,g p.2.1 p.1))(hc:getW rl c ρ m=some v):
  ∃γ',(∀n d,z16 n rl=some (some d)->γ' n=γ d)/\(∀n,z16 n rl=some none->γ' n=⟨none,0⟩)/\MemRel w S γ' (mofO c.objs v.2) base/\RepAs w S γ' (mofO c.objs v.2) (mkL c.sh v.1) (c.tms.map f)/\(∀n q,mofO c.objs v.2 n=some q->QOk m rl n q)/\dist rl=true:=by
 unfold getW at hc;rcases bif_some hc with⟨hdist,hc⟩ | ⟨_,hc⟩
 ·split at hc
  ·rename_i x hx;split at hc
   ·rename_i y hy;cases hc;have hnames:∀{n e} {y:OT c.objs},z16 n rl=some e->∃q,mofO c.objs y n=some q:=by
     intro n e y h;rw[hrl]at h;exact zr1 h
    let γ':Nat->Loc:=fun n=>match z16 n rl with
     | some (some d)=>γ d
     | _=>⟨none,0⟩
    have g1:∀{n d},z16 n rl=some (some d)->γ' n=γ d:=fun {n d} h=>by simp only[γ',h]
    have g2:∀{n},z16 n rl=some none->γ' n=⟨none,0⟩:=fun {n} h=>by simp only[γ',h]
    have hq:=yst hy;have hren:Ren γ m rl (mofO c.objs y) γ':=by
     refine⟨fun n d hl=> ?_,fun n hl=> ?_⟩
     ·obtain⟨q,hq'⟩:=hnames (y:=y) hl;rcases hq n q hq' with⟨d',t,xs,k1,k2,rfl⟩ | ⟨t,k1,rfl⟩ | ⟨d',l,cs,s,z,k1,k2,k3,rfl⟩ | ⟨d',l,cs,id,ee,z,k1,k2,k3,rfl⟩
      ·rw[hl]at k1;cases k1;exact⟨_,_,k2,hq',rfl,g1 hl⟩
      ·rw[hl]at k1;cases k1
      ·rw[hl]at k1;cases k1;exact⟨_,_,k2,hq',rfl,g1 hl⟩
      ·rw[hl]at k1;cases k1;exact⟨_,_,k2,hq',rfl,g1 hl⟩
     ·obtain⟨q,hq'⟩:=hnames (y:=y) hl;rcases hq n q hq' with⟨d',t,xs,k1,k2,rfl⟩ | ⟨t,k1,rfl⟩ | ⟨d',l,cs,s,z,k1,k2,k3,rfl⟩ | ⟨d',l,cs,id,ee,z,k1,k2,k3,rfl⟩
      ·rw[hl]at k1;cases k1
      ·exact⟨t,hq',g2 hl⟩
      ·rw[hl]at k1;cases k1
      ·rw[hl]at k1;cases k1
    have olds:∀{n q b},mofO c.objs y n=some q->q.live=true->(γ' n).blk=some b->∃d o,z16 n rl=some (some d)/\m d=some o/\o.live=true/\(γ d).blk=some b:=by
     intro n q b hn hlq hb;rcases hq n q hn with⟨d',t,xs,k1,k2,rfl⟩ | ⟨t,k1,rfl⟩ | ⟨d',l,cs,s,z,k1,k2,k3,rfl⟩ | ⟨d',l,cs,id,ee,z,k1,k2,k3,rfl⟩
     ·rw[g1 k1]at hb;exact⟨d',_,k1,k2,rfl,hb⟩
     ·rw[g2 k1]at hb;cases hb
     ·rw[g1 k1]at hb;exact⟨d',_,k1,k2,(by cases s<;>first | rfl | cases hlq),hb⟩
     ·rw[g1 k1]at hb;exact⟨d',_,k1,k2,rfl,hb⟩
    refine⟨γ',fun n d=>g1,fun n=>g2,⟨fun n q hn=> ?_,hmem.low, ?_, ?_⟩, ?_,hq,hdist⟩
    ·rcases hq n q hn with⟨d',t,xs,k1,k2,rfl⟩ | ⟨t,k1,rfl⟩ | ⟨d',l,cs,s,z,k1,k2,k3,rfl⟩ | ⟨d',l,cs,id,ee,z,k1,k2,k3,rfl⟩
     ·have hob:RowRel w S (γ d') t xs .live:=hmem.obj d' _ k2;show RowRel w S (γ' n) t xs .live;rw[g1 k1];exact hob
     ·show RowRel w S (γ' n) t [] .live;rw[g2 k1];exact⟨ai _,Nat.zero_le _,fun _=>rfl,fun a ha=>by cases ha⟩
     ·obtain⟨b,vs,el,j1,j2,j3,j4,j5,j6⟩:=hmem.obj d' _ k2;obtain⟨i1,i3⟩:=ypa hmem hren k3 j3;exact⟨b,vs,el,by rw[g1 k1];exact j1,j2,i1,i3 j4,j5,j6⟩
     ·obtain⟨l0,rec,hr⟩:=hmem.obj d' _ k2;obtain⟨xs1,xs2,vs1,e0,e,i1,i2,i3⟩:=zwh hmem hren l cs [] z _ k3 hr.caps;rw[show xs2=[]from i2,aj]at e0;exact⟨l0,rec,by rw[g1 k1];exact hr.loc,hr.heap,hr.state,hr.pending,hr.ps,hr.assign,hr.body,hr.size,by rw[e0];exact i1,hr.notS⟩
    ·intro n n' q q' b hn hn' hlq hlq' hne hb hb';obtain⟨d,o,k1,k2,k3,k4⟩:=olds hn hlq hb;obtain⟨d',o',k1',k2',k3',k4'⟩:=olds hn' hlq' hb';exact hmem.apart d d' o o' b k2 k2' k3 k3' (fun e=>hne (yim hdist k1 (e▸k1'))) k4 k4'
    ·intro n q b hn hlq hb;obtain⟨d,o,k1,k2,k3,k4⟩:=olds hn hlq hb;exact hmem.high d o b k2 k3 k4
    ·have hvs:RepAs w S γ m (c.tms.map ρ) (c.tms.map f):=yev htm c.tms;obtain⟨xs1,xs2,vs1,e1,e2,k1,k2,k3⟩:=zwh hmem hren c.sh _ [] x _ (z1o hx) hvs;rw[show xs2=[]from k2,aj]at e1;rw[<-e1]at k1;exact k1
   ·cases hc
  ·cases hc
 ·cases hc
theorem ymu{ρ:Nat->AV}{m:Nat->Option MO}:∀l:List (Nat×List Nat×OK),renL ρ m l=l.map fun p=>(p.1,(fun(src:List Nat) n=>bif bG 5000000 n then some n else zse ρ m src) p.2.1 p.1)
 | []=>rfl
 | (n,src,k)::r=>by simp only[renL,aC,ymu r]
theorem zoa{ρ:Nat->AV}{m:Nat->Option MO}:∀l:List (Nat×List Nat×OK),renC ρ m l=l.map fun p=>(p.1,(fun(src:List Nat) _=>zse ρ m src) p.2.1 p.1)
 | []=>rfl
 | (n,src,k)::r=>by simp only[renC,aC,zoa r]
end cut
variable {R:Type}
theorem zn6{w:World}{S:Nat->Prop}{γ:Nat->Loc}{m:Nat->Option MO}:∀{as:List AV} {vals rest:List Value} (k t:Nat),RepAs w S γ m as vals->RepA w S γ m (argsA k as t) ((az k undef++vals++rest).getD t undef)
 | [],_,_,_,_,_=>trivial
 | v::vs,vals,rest,k,t,h=>by
  obtain⟨u,us,rfl,h1,h2⟩:=h;simp only[argsA];cases hb:ax t k with
  | true=>simp_all
  | false=>
   simp only[cond_false];have ih:=zn6 (rest:=rest) (k+1) t h2
   grind[cS]
structure BackOk (ex:Nat->Prop) (B:Nat->Prop) (w:World) (S:Nat->Prop) (γ:Nat->Loc) (m:Nat->Option MO) (w':World) (S':Nat->Prop) (γ':Nat->Loc) (τ:St) (ns:List Nat) (x:Value):Prop where
 bel:Bel (fun k=>B k/\¬ex k) w w'
 s0:∀b,S b->S' b
 snew:∀b,S' b->S b\/¬B b
 mem:MemRel w' S' γ' τ.m B
 res:RepA w' S' γ' τ.m (τ.ρ 0) x
 pin:∀n q q',m n=some q->τ.m n=some q'->γ' n=γ n/\q'.kind=q.kind
 dom:∀n,τ.m n≠none->n∈ns
def zef(P:Program)(f:FuncId)(c:CtrM):Prop:=
 ∀(w:World) (S:Nat->Prop) (γ:Nat->Loc) (B:Nat->Prop) (v:c.cin.T) (vals:List Value) {R:Type} (t:c.T) (K:St->List Nat->Option R) (r:R),
  MemRel w S γ (mofO c.cin.objs v.2) B->(∀k,B k->k<w.heap.size)->RepAs w S γ (mofO c.cin.objs v.2) (mkL c.cin.sh v.1) vals->c.F v=some t->c.out t K=some r->
  (∀w' (args:Array Value),(callFunc f args).run P w'= .ok (.enter f args) w')/\
  Calls P f vals.toArray w fun e w'=>∃x S' γ' τ ns,e= .returned x/\K τ ns=some r/\BackOk (fun _=>False) B w S γ (mofO c.cin.objs v.2) w' S' γ' τ ns x
def isFlt:AV->Bool
 | .iface _ .nilf=>true
 | _=>false
def fltV:AV:= .iface LTab.flt .nilf
def Ends(v:AV)(e:Ending)(x:Value):Prop:=if isFlt v=true then e= .panicked [{v:= .iface LTab.flt (.agg #[]),recovered:=false}]else e= .returned x
def ztv(P:Program)(f:FuncId)(c:CtrM):Prop:=
 ∀(w:World) (S:Nat->Prop) (γ:Nat->Loc) (B:Nat->Prop) (v:c.cin.T) (vals:List Value) {R:Type} (t:c.T) (K:St->List Nat->Option R) (r:R),
  MemRel w S γ (mofO c.cin.objs v.2) B->(∀k,B k->k<w.heap.size)->RepAs w S γ (mofO c.cin.objs v.2) (mkL c.cin.sh v.1) vals->c.F v=some t->c.out t K=some r->
  (∀w' (args:Array Value),(callFunc f args).run P w'= .ok (.enter f args) w')/\
  Calls P f vals.toArray w fun e w'=>∃x S' γ' τ ns,Ends (τ.ρ 0) e x/\K τ ns=some r/\BackOk (fun _=>False) B w S γ (mofO c.cin.objs v.2) w' S' γ' τ ns x
mutual
theorem RepA.ren{w:World}{S:Nat->Prop}{γ γ':Nat->Loc}{m m':Nat->Option MO}{l:List (Nat×Nat)}(hk:∀n o,m n=some o->∃o',m' (asc n l)=some o'/\o'.kind=o.kind/\γ' (asc n l)=γ n):
  ∀(v:AV) (x:Value),RepA w S γ m v x->RepA w S γ' m' (renV l v) x
 | .undef,_,h=>by simp only[renV];trivial
 | .int _ _,_,h=>by simp only[renV];exact h
 | .bool _,_,h=>by simp only[renV];exact h
 | .str _,_,h=>by simp only[renV];exact h
 | .nils,_,h=>by simp only[renV];exact h
 | .nilp,_,h=>by simp only[renV];exact h
 | .nilf,_,h=>by simp only[renV];exact h
 | .nili,_,h=>by simp only[renV];exact h
 | .list _ _,_,h=>by simp only[renV];exact h
 | .clip _ _,_,h=>by simp only[renV];exact h
 | .fresh _ _,_,h=>by simp only[renV];exact h
 | .ro _ _ _,_,h=>by simp only[renV];exact h
 | .own n,_,h=>by obtain⟨t,xs,s,h1,h2⟩:=h;obtain⟨o',k1,k2,k3⟩:=hk n _ h1;obtain⟨t',xs',s',rfl,_,e⟩:=y76 k2;simp only[renV];exact⟨t',xs',s',k1,by rw[k3,e];exact h2⟩
 | .ptr n off,_,h=>by obtain⟨cs,s,b,h1,h2,h3⟩:=h;obtain⟨o',k1,k2,k3⟩:=hk n _ h1;obtain⟨cs',s',rfl⟩:=yex k2;simp only[renV];exact⟨cs',s',b,k1,by rw[k3];exact h2,h3⟩
 | .oel n i off,_,h=>by obtain⟨t,xs,s,b,h1,h2,h3,h4⟩:=h;obtain⟨o',k1,k2,k3⟩:=hk n _ h1;obtain⟨t',xs',s',rfl,e1,e2⟩:=y76 k2;simp only[renV];exact⟨t',xs',s',b,k1,by rw[k3];exact h2,by rw[e2];exact h3,by rw[e1];exact h4⟩
 | .yld n,_,h=>by obtain⟨id,cs,e,l,h1,h2,h3⟩:=h;obtain⟨o',k1,k2,k3⟩:=hk n _ h1;obtain⟨cs',e',rfl⟩:=yew k2;simp only[renV];exact⟨id,cs',e',l,k1,by rw[k3];exact h2,h3⟩
 | .bx cs off,_,h=>by obtain⟨b,vs,h1,h2,h3,h4,h5⟩:=h;obtain⟨k1,k2⟩:=RepAs.ren hk cs vs h3;simp only[renV];exact⟨b,vs,h1,h2,k1,k2 h4,h5⟩
 | .clo f caps,_,h=>by obtain⟨vs,h1,h2⟩:=h;simp only[renV];exact⟨vs,h1,(RepAs.ren hk caps vs h2).1⟩
 | .iface t v,_,h=>by obtain⟨u,h1,h2⟩:=h;simp only[renV];exact⟨u,h1,RepA.ren hk v u h2⟩
 | .agg cs,_,h=>by obtain⟨vs,h1,h2,h3⟩:=h;obtain⟨k1,k2⟩:=RepAs.ren hk cs vs h2;simp only[renV];exact⟨vs,h1,k1,k2 h3⟩
 | .tup cs,_,h=>by obtain⟨vs,h1,h2⟩:=h;simp only[renV];exact⟨vs,h1,(RepAs.ren hk cs vs h2).1⟩
theorem RepAs.ren{w:World}{S:Nat->Prop}{γ γ':Nat->Loc}{m m':Nat->Option MO}{l:List (Nat×Nat)}(hk:∀n o,m n=some o->∃o',m' (asc n l)=some o'/\o'.kind=o.kind/\γ' (asc n l)=γ n):
  ∀(cs:List AV) (vs:List Value),RepAs w S γ m cs vs->RepAs w S γ' m' (y0c l cs) vs/\(U7 cs=true->U7 (y0c l cs)=true)
 | [],vs,h=>by simp only[y0c];exact⟨h,fun h=>h⟩
 | c::cs,vs,h=>by obtain⟨u,us,h1,h2,h3⟩:=h;obtain⟨k1,k2⟩:=RepAs.ren hk cs us h3;simp only[y0c];refine⟨⟨u,us,h1,RepA.ren hk c u h2,k1⟩,fun h=> ?_⟩;simp only[U7,bc,ab]at h|-;refine⟨?_,by simpa[U7] using k2 (by simpa[U7] using h.2)⟩;have:=h.1;cases c<;>simp only[renV]<;>first | exact this | rfl
end
theorem yhn(l:List (Nat×Nat))(q:MO):(renO l q).kind=q.kind:=by cases q<;>rfl
theorem zr0(l:List (Nat×Nat))(q:MO):(renO l q).live=q.live:=by
 cases q with
 | box cs s=>cases s<;>rfl
 | sl t xs s=>cases s<;>rfl
 | rng id cs e=>cases e<;>rfl
theorem yd1{n:Nat}:∀{l:List Nat},yvm n l=true->n∉l
 | [],_=>by simp
 | k::r,h=>by simp only[yvm,ab,au]at h;simp only[ar,not_or];exact⟨fun e=>(by rw[e,cS]at h;cases h.1),yd1 h.2⟩
theorem zht:∀{l:List Nat},zx6 l=true->l.Nodup
 | [],_=>List.nodup_nil
 | k::r,h=>by simp only[zx6,ab]at h;exact bH.2 ⟨yd1 h.1,zht h.2⟩
theorem yt9{n n':Nat}:∀{l:List (Nat×Nat)},(l.map (·.1)).Nodup->(n,n')∈l->asc n l=n'
 | [],_,h=>by cases h
 | (k,x)::r,hn,h=>by
  simp only[aC,bH]at hn;simp only[asc];rcases ar.1 h with e | h
  ·cases e;rw[cS];rfl
  ·have:n≠k:=fun e=>hn.1 (aH.2 ⟨(n,n'),h,e⟩);rw[nbeq this];exact yt9 hn.2 h
theorem zx9:∀{rl:List (Nat×Option Nat)} {le:List (Nat×Nat)},lents rl=some le->∀n d,(n,d)∈le->n∈rl.map (·.1)
 | [],le,h,n,d,hm=>by cases h;grind
 | (k,some d')::r,le,h,n,d,hm=>by
  simp only[lents]at h;split at h
  ·rename_i l hl;cases h;rcases ar.1 hm with e | hm
   ·cases e;simp
   ·simp only[aC,ar];exact .inr (zx9 hl n d hm)
  ·cases h
 | (k,none)::r,le,h,n,d,hm=>by simp only[lents]at h;simp only[aC,ar];exact .inr (zx9 h n d hm)
theorem zt5:∀{rl:List (Nat×Option Nat)} {le:List (Nat×Nat)},lents rl=some le->(rl.map (·.1)).Nodup->∀n d,(n,d)∈le->z16 n rl=some (some d)
 | [],le,h,_,n,d,hm=>by cases h;grind
 | (k,some d')::r,le,h,hn,n,d,hm=>by
  simp only[lents]at h;split at h
  ·rename_i l hl;cases h;simp only[aC,bH]at hn;simp only[z16];rcases ar.1 hm with e | hm
   ·cases e;rw[cS];rfl
   ·have:n≠k:=fun e=>hn.1 (e▸zx9 hl n d hm);rw[nbeq this];exact zt5 hl hn.2 n d hm
  ·cases h
 | (k,none)::r,le,h,hn,n,d,hm=>by simp only[lents]at h;simp only[aC,bH]at hn;simp only[z16];have:n≠k:=fun e=>hn.1 (e▸zx9 h n d hm);rw[nbeq this];exact zt5 h hn.2 n d hm
theorem y8w{n:Nat}:∀{l:List (Nat×Nat)},yay n l=true->∃d,(n,d)∈l
 | [],h=>by cases h
 | (k,x)::r,h=>by
  simp only[yay,Bool.or_eq_true]at h;rcases h with h | h
  ·rw[af h];exact⟨x,by simp⟩
  ·obtain⟨d,hd⟩:=y8w h;exact⟨d,ay _ hd⟩
theorem newNames_cover{le:List (Nat×Nat)}{d n:Nat}:∀{ns:List Nat} {k:Nat},n∈ns->(∃n',(n,n')∈le)\/∃n',(n,n')∈z3g le d k ns
 | [],_,h=>by cases h
 | x::r,k,h=>by
  simp only[z3g];cases hb:yay x le with
  | true=>
   simp only[cond_true];rcases ar.1 h with e | h
   ·rw[e];exact .inl (y8w hb)
   ·exact newNames_cover h
  | false=>
   simp only[cond_false];rcases ar.1 h with e | h
   ·rw[e];exact .inr ⟨_,List.mem_cons_self ..⟩
   ·exact(newNames_cover (k:=k+1) h).imp id fun⟨n',h⟩=>⟨n',ay _ h⟩
theorem zmh{le:List (Nat×Nat)}{d n n':Nat}:∀{ns:List Nat} {k:Nat},(n,n')∈z3g le d k ns->n'<d+4096*(k+ns.length)
 | [],_,h=>by cases h
 | x::r,k,h=>by
  simp only[z3g]at h;simp only[ag];cases hb:yay x le with
  | true=>rw[hb]at h;have:=zmh h;omega
  | false=>
   rw[hb]at h;rcases ar.1 h with e | h
   ·grind
   ·have:=zmh h;omega
theorem yov{τ:Nat->Option MO}{rn:List (Nat×Nat)}:∀{l:List (Nat×Nat)} {m m':Nat->Option MO},apL τ rn l m=some m'->(l.map (·.2)).Nodup->
  (∀n n',(n,n')∈l->(∀q,τ n=some q->m' n'=some (renO rn q))/\(τ n=none->∃t xs,m n'=some (.sl t xs .live)/\m' n'=some (.sl t xs .dead)))/\(∀n',n'∉l.map (·.2)->m' n'=m n')
 | [],m,m',h,_=>by cases h;simp
 | (k,d)::r,m,m',h,hn=>by
  simp only[aC,bH]at hn;simp only[apL]at h
  have go:∀{o:MO},apL τ rn r (mupd m d o)=some m'->((∀q,τ k=some q->o=renO rn q)/\(τ k=none->∃t xs,m d=some (.sl t xs .live)/\o= .sl t xs .dead))->
    (∀n n',(n,n')∈(k,d)::r->(∀q,τ n=some q->m' n'=some (renO rn q))/\(τ n=none->∃t xs,m n'=some (.sl t xs .live)/\m' n'=some (.sl t xs .dead)))/\(∀n',n'∉((k,d)::r).map (·.2)->m' n'=m n'):=by
   intro o ha ho;obtain⟨h1,h2⟩:=yov ha hn.2;have hd:m' d=some o:=by grind[V9]
   refine⟨fun n n' hm=> ?_,fun n' hn'=> ?_⟩
   ·grind[X4]
   simp_all[X4]
  grind
theorem yot{τ:Nat->Option MO}{rn:List (Nat×Nat)}:∀{l:List (Nat×Nat)} {m m':Nat->Option MO},apN τ rn l m=some m'->(l.map (·.2)).Nodup->
  (∀n n',(n,n')∈l->m n'=none/\∃q,τ n=some q/\m' n'=some (renO rn q))/\(∀n',n'∉l.map (·.2)->m' n'=m n')
 | [],m,m',h,_=>by cases h;simp
 | (k,d)::r,m,m',h,hn=>by
  simp only[aC,bH]at hn;simp only[apN]at h;split at h
  ·rename_i q hq;split at h
   ·rename_i hmd;obtain⟨h1,h2⟩:=yot h hn.2;have hd:m' d=some (renO rn q):=by grind[V9]
    refine⟨fun n n' hm=> ?_,fun n' hn'=> ?_⟩
    ·grind[X4]
    simp_all[X4]
   grind
  grind
def rsc(n':Nat):List (Nat×Nat)->Option Nat
 | []=>none
 | (k,x)::r=>if n'=x then some k else rsc n' r
theorem yrw{n n':Nat}:∀{l:List (Nat×Nat)},(l.map (·.2)).Nodup->(n,n')∈l->rsc n' l=some n
 | [],_,h=>by cases h
 | (k,x)::r,hn,h=>by
  simp only[aC,bH]at hn;simp only[rsc];rcases ar.1 h with e | h
  ·grind
  ·have:n'≠x:=fun e=>hn.1 (aH.2 ⟨(n,n'),h,e⟩);rw[if_neg this];exact yrw hn.2 h
theorem yms{n':Nat}:∀{l:List (Nat×Nat)},n'∉l.map (·.2)->rsc n' l=none
 | [],_=>rfl
 | (k,x)::r,h=>by simp only[aC,ar,not_or]at h;simp only[rsc,if_neg h.1];exact yms h.2
variable {R:Type}
theorem zrt{f:Nat->Value}:∀{k:Nat} {ts:List Nat} {as:List AV} {vals:List Value},rangeIs k ts as=true->vals.length=as.length->(∀i,f (k+i)=vals.getD i undef)->ts.map f=vals
 | k,[],[],vals,_,hl,_=>by grind
 | k,[],_::_,_,h,_,_=>by cases h
 | k,_::_,[],_,h,_,_=>by cases h
 | k,t::ts,a::as,vals,h,hl,hf=>by
  simp only[rangeIs,ab]at h;cases vals with
  | nil=>grind
  | cons x vals=>
   have e:=af h.1;subst e;simp only[aC];congr 1
   ·have:=hf 0;grind
   ·refine zrt h.2 (by grind) fun i=> ?_;have:=hf (i+1)
    grind
theorem y0t:∀{rl:List (Nat×Option Nat)} {le:List (Nat×Nat)},lents rl=some le->∀{n d:Nat},z16 n rl=some (some d)->(n,d)∈le
 | [],_,_,_,_,h=>by cases h
 | (k,some d')::r,le,h,n,d,hm=>by
  simp only[lents]at h;split at h
  ·rename_i l hl;cases h;rcases bif_some (by simpa only[z16] using hm)with⟨hb,h2⟩ | ⟨_,h2⟩
   ·cases h2;rw[af hb];simp
   ·exact ay _ (y0t hl h2)
  grind
 | (k,none)::r,le,h,n,d,hm=>by
  simp only[lents]at h;rcases bif_some (by simpa only[z16] using hm)with⟨hb,h2⟩ | ⟨_,h2⟩
  ·cases h2
  ·exact y0t h h2
theorem zxx{w':World}{S':Nat->Prop}{γ':Nat->Loc}{m':Nat->Option MO}{ρ:Nat->AV}{a:Act}{dst:Option Nat}{v:AV}{x:Value}(h:∀t,RepA w' S' γ' m' (ρ t) (a.tmps.getD t undef))(hv:RepA w' S' γ' m' v x)(hd:zi8 a.tmps.size dst)(t:Nat):
  RepA w' S' γ' m' (putO ρ dst v t) ((a.put dst x).tmps.getD t undef):=by
 cases dst with
 | none=>exact h t
 | some d=>
  by_cases e:t=d
  ·subst e;rw[zpx a t x hd];show RepA _ _ _ _ (upd ρ t v t) x
   grind[zo6]
  ·rw[zvh a x e];show RepA _ _ _ _ (upd ρ d v t) _
   grind[zgf]
theorem y4k{X:Cx}{w:World}{S:Nat->Prop}{γ:Nat->Loc}{σ:St}{a:Act}(hrel:Rel X w S γ σ a){cin:Cut}{v:cin.T}{γi:Nat->Loc}{rl:List (Nat×Option Nat)}
  (hrl:∀n d,z16 n rl=some (some d)->∃q,mofO cin.objs v.2 n=some q) (g1:∀n d,z16 n rl=some (some d)->γi n=γ d) (g2:∀n,z16 n rl=some none->γi n=⟨none,0⟩) (hmi:MemRel w S γi (mofO cin.objs v.2) X.B) (hq:∀n q,mofO cin.objs v.2 n=some q->QOk σ.m rl n q)
  {ex:Nat->Prop} (hexS:∀b,S b->¬ex b) (hexB:∀b,X.B b->¬ex b) (hexO:∀n' o b,σ.m n'=some o->o.live=true->(γ n').blk=some b->¬ex b)
  {w':World} {S':Nat->Prop} {γ':Nat->Loc} {τ:St} {ns:List Nat} {x:Value} {B':Nat->Prop} (hB':B'=fun k=>k<w.heap.size/\∀n q,mofO cin.objs v.2 n=some q->q.live=true->(γi n).blk≠some k)
  (hb:BackOk ex B' w S γi (mofO cin.objs v.2) w' S' γ' τ ns x) {dst:Option Nat} {d:Nat} (hdst:zi8 a.tmps.size dst) (hd:d<4096) {σ':St} (h:zfi rl σ dst d τ ns some=some σ'):
  ∃S'' γ'',Rel X w' S'' γ'' σ' (a.put dst x)/\Keeps σ.m γ σ'.m γ''/\(∀b,S b->S'' b)/\(∀b,S b->w'.heap[b]? =w.heap[b]?)/\
   (∀n o,σ.m n=some o->(∀k,z16 k rl≠some (some n))->σ'.m n=some o)/\
   (∀l,B' l->¬S l->(∀n' o,σ.m n'=some o->o.live=true->(γ n').blk≠some l)->¬S'' l/\∀n' o,σ'.m n'=some o->o.live=true->(γ'' n').blk≠some l):=by
 unfold zfi at h;split at h
 case h_2=>cases h
 rename_i le hle;obtain⟨hc,h⟩:=X7 h;simp only[ab,cE]at hc;obtain⟨⟨⟨hns,hrn1⟩,hf⟩,hs⟩:=hc;generalize hnn:z3g le d 0 ns=nn at*;split at h
 case h_2=>cases h
 rename_i m1 hm1;split at h
 case h_2=>cases h
 rename_i m2 hm2;cases h;generalize hrn:le++nn=rn at*;have nf:=zht hf;have nsn:=zht hs;rw[<-List.map_append,hrn]at nf nsn;have nf1:(le.map (·.1)).Nodup:=by grind
 have ns1:(le.map (·.2)).Nodup:=by grind
 have ns2:(nn.map (·.2)).Nodup:=by grind
 have nsd:∀k,k∈le.map (·.2)->k∈nn.map (·.2)->False:=by grind
 obtain⟨l1,l2⟩:=yov hm1 ns1;obtain⟨p1,p2⟩:=yot hm2 ns2;have A:∀n n' q,(n,n')∈le->τ.m n=some q->m2 n'=some (renO rn q):=fun n n' q hn hq=>by grind
 have Bd:∀n n',(n,n')∈le->τ.m n=none->∃t xs,σ.m n'=some (.sl t xs .live)/\m2 n'=some (.sl t xs .dead):=fun n n' hn hq=>by grind
 have Cn:∀n n',(n,n')∈nn->∃q,τ.m n=some q/\σ.m n'=none/\m2 n'=some (renO rn q):=fun n n' hn=>by grind
 have D:∀n',n'∉le.map (·.2)->n'∉nn.map (·.2)->m2 n'=σ.m n':=fun n' h1 h2=>by grind
 have lent:∀n n',(n,n')∈le->∃q0 o,mofO cin.objs v.2 n=some q0/\σ.m n'=some o/\q0.kind=o.kind/\γi n=γ n'/\(q0.live=true->o.live=true):=by
  intro n n' hn;have hlook:=zt5 hle (zht hrn1) n n' hn;obtain⟨q0,hq0⟩:=hrl n n' hlook;refine⟨q0, ?_⟩;rcases hq n q0 hq0 with⟨d',t,xs,k1,k2,rfl⟩ | ⟨t,k1,rfl⟩ | ⟨d',l',cs,s,z,k1,k2,k3,rfl⟩ | ⟨d',l',cs,id,ee,z,k1,k2,k3,rfl⟩
  ·grind
  ·grind
  ·rw[hlook]at k1;cases k1;exact⟨_,hq0,k2,rfl,g1 _ _ hlook,fun h=>by cases s<;>first | rfl | cases h⟩
  ·rw[hlook]at k1;cases k1;exact⟨_,hq0,k2,rfl,g1 _ _ hlook,fun h=>rfl⟩
 have lentLook:∀n q,mofO cin.objs v.2 n=some q->q.live=true->∀b,(γi n).blk=some b->∃d' o,z16 n rl=some (some d')/\σ.m d'=some o/\o.live=true/\(γ d').blk=some b:=by
  intro n q hn hl b hbk;rcases hq n q hn with⟨d',t,xs,k1,k2,rfl⟩ | ⟨t,k1,rfl⟩ | ⟨d',l',cs,s,z,k1,k2,k3,rfl⟩ | ⟨d',l',cs,id,ee,z,k1,k2,k3,rfl⟩
  ·grind
  ·grind[Loc.blk]
  ·exact⟨d',_,k1,k2,(by cases s<;>first | rfl | cases hl),by grind⟩
  ·exact⟨d',_,k1,k2,rfl,by grind⟩
 have hSB:∀b,S b->B' b:=fun b hs=>by rw[hB'];exact⟨hrel.mem.low b hs,fun n q hn hl hbk=>(ObjRel.notS (hmi.obj n q hn) hl hbk).1 hs⟩
 have hXB:∀b,X.B b->B' b:=fun b hs=>by rw[hB'];exact⟨hrel.size_le b hs,fun n q hn hl hbk=>hmi.high n q b hn hl hbk hs⟩
 have hoth:∀n' o b,σ.m n'=some o->o.live=true->(γ n').blk=some b->n'∉le.map (·.2)->B' b:=fun n' o b ho hl hbk hni=>by rw[hB'];refine⟨ObjRel.lt (hrel.mem.obj n' o ho) hl hbk,fun n q hn hlq hbq=> ?_⟩;obtain⟨d',o',j1,j2,j3,j4⟩:=lentLook n q hn hlq b hbq;have hmem:=y0t hle j1;have hne:n'≠d':=fun e=>hni (aH.2 ⟨_,hmem,e.symm⟩);exact hrel.mem.apart n' d' o o' b ho j2 hl j3 hne hbk j4
 have hSS:∀b,S' b->B' b->S b:=fun b h1 h2=>(hb.snew b h1).elim id fun h=>absurd h2 h;have hwS:∀b,S b->w'.heap[b]? =w.heap[b]? :=fun b hs=>hb.bel.block b ⟨hSB b hs,hexS b hs⟩
 let γ2:Nat->Loc:=fun n'=>match rsc n' nn with
  | some n=>γ' n
  | none=>γ n'
 have gnew:∀n n',(n,n')∈nn->γ2 n'=γ' n:=fun n n' hn=>by simp only[γ2,yrw ns2 hn]
 have gold:∀n',n'∉nn.map (·.2)->γ2 n'=γ n':=fun n' hn=>by grind[yms]
 have glent:∀n n' q,(n,n')∈le->τ.m n=some q->γ2 n'=γ' n:=fun n n' q hn hq=>by obtain⟨q0,o,k1,k2,k3,k4,_⟩:=lent n n' hn;rw[gold n' (fun h=>nsd n' (aH.2 ⟨_,hn,rfl⟩) h),(hb.pin n q0 q k1 hq).1,k4]
 have keep:Keeps σ.m γ m2 γ2:=by
  intro n' o ho;have hnn':n'∉nn.map (·.2):=fun h=>by grind
  by_cases hin:n'∈le.map (·.2)
  ·obtain⟨⟨n,y⟩,h1,h2⟩:=aH.1 hin;cases h2;obtain⟨q0,o',k1,k2,k3,k4,_⟩:=lent n _ h1;rw[ho]at k2;cases k2;cases hτ:τ.m n with
   | some q=>exact⟨_,A n _ q h1 hτ,by rw[yhn,(hb.pin n q0 q k1 hτ).2,k3],gold _ hnn'⟩
   | none=>obtain⟨t,xs,h3,h4⟩:=Bd n _ h1 hτ;rw[ho]at h3;cases h3;exact⟨_,h4,rfl,gold _ hnn'⟩
  grind
 have mems:∀{p},p∈rn->p∈le\/p∈nn:=fun {p} h=>by grind
 have asc':∀n n',(n,n')∈rn->asc n rn=n':=fun n n' h=>yt9 nf h;have hren:∀n q,τ.m n=some q->∃n',(n,n')∈rn/\asc n rn=n'/\m2 n'=some (renO rn q)/\γ2 n'=γ' n:=by
  intro n q hτ;have hin:=hb.dom n (by grind);rcases newNames_cover (le:=le) (d:=d) (k:=0) hin with⟨n',h1⟩ | ⟨n',h1⟩
  all_goals grind
 have hk:∀n q,τ.m n=some q->∃o',m2 (asc n rn)=some o'/\o'.kind=q.kind/\γ2 (asc n rn)=γ' n:=fun n q hτ=>by grind[yhn]
 have hobj:∀n q n',ObjRel w' S' γ' τ.m n q->γ2 n'=γ' n->ObjRel w' S' γ2 m2 n' (renO rn q):=by
  intro n q n' h hg;cases q with
  | box cs s=>obtain⟨b,vs,el,h1,h2,h3,h4,h5,h6⟩:=h;obtain⟨k1,k2⟩:=RepAs.ren hk cs vs h3;exact⟨b,vs,el,by grind,h2,k1,k2 h4,h5,h6⟩
  | sl t xs s=>
   cases s with
   | dead=>trivial
   | hole i r=>have h:HoleRel w' S' γ' τ.m (γ' n) t xs i r:=h;show HoleRel w' S' γ2 m2 (γ2 n') t xs i (asc r rn);rw[hg];obtain⟨b,arr,el,fz,h1,h2,h3,h4,h5,⟨u,h6,h7⟩,h8⟩:=h.row;exact⟨h.len,h.cap,h.one,h.lt,b,arr,el,fz,h1,h2,h3,h4,h5,⟨u,h6,RepA.ren hk (.own r) u h7⟩,h8⟩
   | live=>have h:RowRel w' S' (γ' n) t xs .live:=h;show RowRel w' S' (γ2 n') t xs .live;grind
   | still=>have h:RowRel w' S' (γ' n) t xs .still:=h;show RowRel w' S' (γ2 n') t xs .still;grind
  | rng id cs e=>
   cases e with
   | none=>trivial
   | some e=>obtain⟨l,rec,h⟩:=h;exact⟨l,rec,by rw[hg];exact h.loc,h.heap,h.state,h.pending,h.ps,h.assign,h.body,h.size,(RepAs.ren hk _ _ h.caps).1,h.notS⟩
 have who:∀n' o,m2 n'=some o->(∃n q,(n,n')∈rn/\τ.m n=some q/\o=renO rn q/\γ2 n'=γ' n)\/o.live=false/\(∃t xs,o= .sl t xs .dead)\/(σ.m n'=some o/\n'∉le.map (·.2)/\γ2 n'=γ n'):=by
  intro n' o ho;by_cases h1:n'∈nn.map (·.2)
  ·grind
  ·by_cases h2:n'∈le.map (·.2)
   ·obtain⟨⟨n,y⟩,h3,h4⟩:=aH.1 h2;cases h4;cases hτ:τ.m n with
    | some q=>
     grind
    | none=>obtain⟨t,xs,_,h5⟩:=Bd n _ h3 hτ;rw[ho]at h5;cases h5;exact .inr (.inl ⟨rfl,t,xs,rfl⟩)
   grind
 have hmem:MemRel w' S' γ2 m2 X.B:=by
  refine⟨fun n' o ho=> ?_,hb.mem.low, ?_, ?_⟩
  ·rcases who n' o ho with⟨n,q,h1,h2,rfl,h4⟩ | ⟨_,t,xs,rfl⟩ | ⟨h1,h2,h3⟩
   ·exact hobj n q n' (hb.mem.obj n q h2) h4
   ·trivial
   ·refine ObjRel.later (hrel.mem.obj n' o h1) hwS hb.s0 keep h3 fun hl b hbk=> ?_;have hB:=hoth n' o b h1 hl hbk h2;exact⟨hb.bel.block b ⟨hB,hexO n' o b h1 hl hbk⟩,fun hs=>(ObjRel.notS (hrel.mem.obj n' o h1) hl hbk).1 (hSS b hs hB)⟩
  ·intro n1 n2 o1 o2 b ho1 ho2 hl1 hl2 hne hb1 hb2;rcases who n1 o1 ho1 with⟨k1,q1,a1,a2,rfl,a4⟩ | ⟨e,_⟩ | ⟨a1,a2,a3⟩
   ·rcases who n2 o2 ho2 with⟨k2,q2,c1,c2,rfl,c4⟩ | ⟨e,_⟩ | ⟨c1,c2,c3⟩
    ·rw[zr0]at hl1 hl2;rw[a4]at hb1;rw[c4]at hb2;refine hb.mem.apart k1 k2 q1 q2 b a2 c2 hl1 hl2 (fun e=> ?_) hb1 hb2
     grind
    ·grind
    ·rw[zr0]at hl1;rw[a4]at hb1;rw[c3]at hb2;exact hb.mem.high k1 q1 b a2 hl1 hb1 (hoth n2 o2 b c1 hl2 hb2 c2)
   ·grind
   ·rcases who n2 o2 ho2 with⟨k2,q2,c1,c2,rfl,c4⟩ | ⟨e,_⟩ | ⟨c1,c2,c3⟩
    ·rw[zr0]at hl2;rw[a3]at hb1;rw[c4]at hb2;exact hb.mem.high k2 q2 b c2 hl2 hb2 (hoth n1 o1 b a1 hl1 hb1 a2)
    ·grind
    ·rw[a3]at hb1;rw[c3]at hb2;exact hrel.mem.apart n1 n2 o1 o2 b a1 c1 hl1 hl2 hne hb1 hb2
  ·intro n' o b ho hl hbk;rcases who n' o ho with⟨n,q,h1,h2,rfl,h4⟩ | ⟨e,_⟩ | ⟨h1,h2,h3⟩
   ·rw[zr0]at hl;rw[h4]at hbk;exact fun h=>hb.mem.high n q b h2 hl hbk (hXB b h)
   ·grind
   ·rw[h3]at hbk;exact hrel.mem.high n' o b h1 hl hbk
 have htm:∀t,RepA w' S' γ2 m2 (σ.ρ t) (a.tmps.getD t undef):=fun t=>RepA.mono hwS hb.s0 keep _ _ (hrel.tm t);refine⟨S',γ2,⟨hmem, ?_,hrel.below.trans (hb.bel.weak fun k hk=>⟨hXB k hk,hexB k hk⟩),hrel.base_le,fun b h=>hb.s0 b (hrel.s0 b h),fun b hs=> ?_, ?_,zdt hrel.pin keep (fun n l hl hn=> ?_),hrel.pnhi,by rw[z0k];exact hrel.small⟩,keep,hb.s0,hwS,fun n o ho hnl=> ?_,fun l hBl hSl hol=>⟨fun hs=>hSl (hSS l hs hBl),fun n' o ho hl hbk=> ?_⟩⟩
 ·intro t;have hres:=RepA.ren hk _ _ hb.res;exact zxx htm hres hdst t
 ·rcases hb.snew b hs with h | h
  ·exact hrel.snew b h
  grind
 ·rw[z9o];refine hrel.defers.mono hb.bel.others fun D hD hs=>hSS D hs ?_;rw[hB'];refine⟨(Array.getElem?_eq_some_iff.1 hD).1,fun n q hn hl hbk=> ?_⟩;obtain⟨_,o,hg,hno⟩:=ObjRel.notS (hmi.obj n q hn) hl hbk
  grind
 ·intro hnone;have hn:m2 n≠none:=hn;cases ho:m2 n with
  | none=>grind
  | some o=>
   have hhi:=hrel.pnhi n l hl;have hsm:=hrel.small;by_cases h1:n∈nn.map (·.2)
   ·obtain⟨⟨k,y⟩,h2,h3⟩:=aH.1 h1;cases h3;rw[<-hnn]at h2;have:=zmh h2;omega
   ·by_cases h2:n∈le.map (·.2)
    ·obtain⟨⟨k,y⟩,h3,h4⟩:=aH.1 h2
     grind
    grind
 ·have h1:n∉nn.map (·.2):=fun h=>by grind
  have h2:n∉le.map (·.2):=fun h=>by
   obtain⟨⟨k,y⟩,h3,h2⟩:=aH.1 h
   grind[zt5,zht]
  grind
 ·have ho:m2 n'=some o:=ho;rcases who n' o ho with⟨n,q,h1,h2,rfl,h4⟩ | ⟨e,_⟩ | ⟨h1,h2,h3⟩
  ·rw[zr0]at hl;rw[h4]at hbk;exact hb.mem.high n q l h2 hl hbk hBl
  all_goals grind
theorem yd5{P:Program}{f:FuncId}{X:Cx}{w:World}{S:Nat->Prop}{γ:Nat->Loc}{σ:St}{a:Act}(hrel:Rel X w S γ σ a){as:List AV}{vals:List Value}(hr:RepAs w S γ σ.m as vals){dst:Option Nat}{d:Nat}(hdst:zi8 a.tmps.size dst)(hd:d<4096){σ':St}:∀{l:List CtrM},(∀c,c∈l->zef P f c)->zi6 l σ dst d as some=some σ'->
  (∀w' (args:Array Value),(callFunc f args).run P w'= .ok (.enter f args) w')/\
  Calls P f vals.toArray w fun e w'=>∃v,e= .returned v/\∃S' γ',Rel X w' S' γ' σ' (a.put dst v)/\Keeps σ.m γ σ'.m γ'
 | [],_,h=>by cases h
 | c::l,hl,h=>by
  simp only[zi6]at h;split at h
  ·rename_i v hv;obtain⟨hra,h⟩:=X7 h;split at h
   ·rename_i t ht;have htm:∀t,RepA w S γ σ.m (argsA 0 as t) (vals.getD t undef):=fun t=>by
     have:=zn6 (rest:=[]) 0 t hr
     grind
    obtain⟨γi,g1,g2,hmi,hrep,hq,hdist⟩:=ydg (g:=fun src _=>zse (argsA 0 as) σ.m src) hrel.mem htm (zoa c.cin.objs) hv;have hvals:c.cin.tms.map (fun t=>vals.getD t undef)=vals:=zrt hra hr.length (fun i=>by simp);rw[hvals]at hrep
    have hmi':MemRel w S γi (mofO c.cin.objs v.2) (fun k=>k<w.heap.size/\∀n q,mofO c.cin.objs v.2 n=some q->q.live=true->(γi n).blk≠some k):=
     ⟨hmi.obj,hmi.low,hmi.apart,fun n q b hn hlq hbk h=>h.2 n q hn hlq hbk⟩
    obtain⟨k1,k2⟩:=hl c (by simp) w S γi _ v vals t _ σ' hmi' (fun k h=>h.1) hrep ht h;refine⟨k1,k2.mono ?_⟩;rintro e w' ⟨x,S',γ',τ,ns,rfl,hback,hok⟩;have hnames:∀n d',z16 n (renC (argsA 0 as) σ.m c.cin.objs)=some (some d')->∃q,mofO c.cin.objs v.2 n=some q:=fun n d' hlk=>by rw[zoa]at hlk;exact zr1 (g:=fun src _=>zse (argsA 0 as) σ.m src) hlk
    obtain⟨S'',γ'',h1,h2,_⟩:=y4k hrel hnames g1 g2 hmi hq (ex:=fun _=>False) (fun _ _ h=>h) (fun _ _ h=>h) (fun _ _ _ _ _ _ h=>h) rfl hok hdst hd hback
    grind
   grind
  ·exact yd5 hrel hr hdst hd (fun c' hc'=>hl c' (ay _ hc')) h
end Go.Dv
