/- From a row of 'for every input the law returns true' to a plain law: arguments are opened by their types' looks. -/
import Derived.Test.YtljffhpbdmkplaaGreatDvD
import Derived.ProofKit
import Derived.OpenShut
import Derived.ShutString
import Derived.ChangeOld
import Derived.Below
import Derived.SizedLaws
set_option linter.all false
open Bool renaming and_eq_true->ab,false_eq_true->bY,not_eq_true'->au
open List renaming all_append->bR,all_cons->bc,append_nil->aj,drop_drop->dB,drop_eq_nil_of_le->dL,getElem?_eq_getElem->aI,getElem?_eq_some_iff->aO,getElem?_map->dE,length->ak,length_map->ci,map_cons->aC,map_map->dp,mem_of_mem_drop->dU,range->bF,take_append_drop->bV,take_of_length_le->bu
open Nat renaming beq->ax,eq_of_beq_eq_true->af,le_of_ble_eq_true->ck,le_refl->ai,mul_le_mul->co,ne_of_beq_eq_false->dM
open Option renaming bind_eq_some_iff->aw,map_eq_some_iff->bS
open Prod renaming mk->cR
namespace Go.Dv
open Go.RowKit Go.ChangeShapes Go.WideShapes Go.ChangeAt
variable [LTab]
def Ty.bytes:Ty->Nat
 | .int k=>match k with | .i8=>1 | .u8=>1 | .i16=>2 | .u16=>2 | .i32=>4 | .u32=>4 | _=>8
 | .bool=>1
 | .str=>16
 | .unit=>0
 | .pair a b=>a.bytes+b.bytes
 | .list _=>24
def okT:(t:Ty)->t.T->Prop
 | .int k,n=>(Lit.int k n).wf=true
 | .bool,_=>True
 | .str,s=>ak s<=reachBytes
 | .unit,_=>True
 | .pair a b,x=>okT a x.1/\okT b x.2
 | .list t,xs=>ak xs*t.bytes<=reachBytes/\∀(i:Nat) (x:t.T),getq (α:=t.T) xs i=some x->okT t x
def okSh:(s:Sh)->s.T->Prop
 | .int k,n=>(Lit.int k n).wf=true
 | .str,s=>ak s<=reachBytes
 | .list t,xs=>okT (.list t) xs
 | .val t,x=>okT t x
 | .cons a b,x=>okSh a x.1/\okSh b x.2
 | _,_=>True
def y0w(P:Program)(F:TypeId->Ty->Bool):List (TypeId×Nat)->Nat->Ty->Bool
 | [],_,t=>match t with | .unit=>true | _=>false
 | p::r,off,t=>ax p.2 off&&match r with
  | []=>F p.1 t&&ax (P.cellsOf p.1) t.size
  | _::_=>match t with
   | .pair a b=>F p.1 a&&ax (P.cellsOf p.1) a.size&&y0w P F r (off+a.size) b
   | _=>false
def y4q(P:Program):Nat->TypeId->Ty->Bool
 | 0,_,_=>false
 | k+1,t,τ=>match P.underlying t with
  | some d=>match d with
   | .bool=>match τ with | .bool=>true | _=>false
   | .int i=>match τ with | .int j=>decide (i=j) | _=>false
   | .string=>match τ with | .str=>true | _=>false
   | .struct fs=>ax (P.cellsOf t) τ.size&&y0w P (y4q P k) (fs.toList.map fun f=>(f.type,f.offset)) 0 τ
   | .array n e=>ax (P.cellsOf t) τ.size&&y0w P (y4q P k) ((bF n).map fun i=>(e,i*P.cellsOf e)) 0 τ
   | _=>false
  | none=>false
def yzq(P:Program)(k:Nat)(t:TypeId)(s:Sh):Bool:=match P.underlying t with
 | some d=>match d with
  | .bool=>match s with | .bool=>true | _=>false
  | .int i=>match s with | .int j=>decide (i=j) | _=>false
  | .string=>match s with | .str=>true | _=>false
  | .struct _=>match s with | .val τ=>y4q P k t τ | _=>false
  | .array _ _=>match s with | .val τ=>y4q P k t τ | _=>false
  | .slice e=>match s with | .list τ=> !ax τ.size 0&&y4q P k e τ&&ax (P.cellsOf e) τ.size&&Nat.ble τ.bytes (P.bytesOf e) | _=>false
  | _=>false
 | none=>false
section
variable {H:Type} {enc:TypeId×Value->H} {P:Program} {w:World} {base:Nat} {spare:Nat->Bool} {held:Bool} {S:Nat->Prop}
theorem zj1{α:Type}(e:TypeId):∀(l:List α) (ds:List (DataW H)),ds.length=l.length->DataW.weightsEach P (l.map fun _=>e) ds=DataW.weightsAll P e ds
 | [],[],_=>by simp[DataW.weightsEach,DataW.weightsAll]
 | _::l,d::ds,h=>by simp only[aC,DataW.weightsEach,DataW.weightsAll];rw[zj1 e l ds (by simpa using h)]
 | [],_::_,h=>by grind
 | _::_,[],h=>by grind
theorem y0o{F:TypeId->Ty->Bool}{m:Nat}
  (ih:∀(t:TypeId) (τ:Ty) (cs:List Value) (x:DataW H×List MemPlace),F t τ=true->DataW.trod enc P w base spare held m t cs=some x->(x.1.weights P t).all (·<=reachBytes)=true->∃v,RepT w S τ v cs/\okT τ v):
  ∀(l:List (TypeId×Nat)) (off:Nat) (τ:Ty) (cs:List Value) (xs:List (DataW H×List MemPlace)),y0w P F l off τ=true->xs.length=l.length->cs.length=off+τ.size->
   (∀(i:Nat) (p:TypeId×Nat),l[i]? =some p->DataW.trod enc P w base spare held m p.1 ((cs.drop p.2).take (P.cellsOf p.1))=xs[i]?)->
   (DataW.weightsEach P (l.map (·.1)) (xs.map (·.1))).all (·<=reachBytes)=true->∃v,RepT w S τ v (cs.drop off)/\okT τ v
 | [],off,τ,cs,xs,hf,_,hl,_,_=>by cases τ<;>simp only[y0w,bY]at hf;exact⟨(),dL (by grind[Ty.size]),trivial⟩
 | p::r,off,τ,cs,[],hf,hx,_,_,_=>by grind
 | p::r,off,τ,cs,x::xs,hf,hx,hl,ht,hw=>by
  simp only[y0w,ab]at hf;obtain⟨h0,hf⟩:=hf;have h0:=af h0;simp only[aC,DataW.weightsEach,bR,ab]at hw;obtain⟨hw1,hw2⟩:=hw;have hp:=ht 0 p rfl;rw[h0]at hp;cases r with
  | nil=>
   simp only[ab]at hf
   grind[af,bu]
  | cons q r=>
   cases τ<;>simp only[bY]at hf;rename_i a b;simp only[ab]at hf;obtain⟨⟨hf1,hc⟩,hf2⟩:=hf;have hc:=af hc;rw[hc]at hp;obtain⟨v,hv,ov⟩:=ih _ _ _ _ hf1 hp hw1;obtain⟨u,hu,ou⟩:=y0o ih (q::r) (off+a.size) b cs xs hf2 (by grind) (by grind[Ty.size]) (fun i p' hp'=>by simpa using ht (i+1) p' (by grind)) hw2;refine⟨(v,u),⟨(cs.drop off).take a.size,cs.drop (off+a.size), ?_,hv,hu⟩,ov,ou⟩
   grind[dB,bV]
theorem zn0:∀(k:Nat) (t:TypeId) (τ:Ty) (m:Nat) (cs:List Value) (x:DataW H×List MemPlace),y4q P k t τ=true->DataW.trod enc P w base spare held m t cs=some x->
  (x.1.weights P t).all (·<=reachBytes)=true->∃v,RepT w S τ v cs/\okT τ v
 | 0,_,_,_,_,_,h,_,_=>by grind[y4q]
 | k+1,t,τ,m,cs,x,hf,h,hw=>by
  simp only[y4q]at hf;split at hf
  ·rename_i d hd;split at hf
   ·split at hf
    ·obtain⟨b,rfl,rfl⟩:=DataW.trod_bool hd h;exact⟨b,rfl,trivial⟩
    grind
   ·split at hf
    ·have hf:=of_decide_eq_true hf;subst hf;obtain⟨n,rfl,rfl,hn⟩:=DataW.trod_int hd h;exact⟨n,rfl,hn⟩
    grind
   ·split at hf
    ·obtain⟨s,rfl,rfl,hs⟩:=DataW.trod_string hd h;refine⟨s.data.toList,by simp[RepT], ?_⟩
     grind[DataW.weights,okT]
    grind
   ·rename_i fs;simp only[ab]at hf;obtain⟨hc,hf⟩:=hf;have hc:=af hc;obtain⟨xs,n,rfl,rfl,hl,hxl,hx⟩:=DataW.trod_struct hd h;simp only[DataW.weights,hd]at hw
    have:=y0o (S:=S) (fun t τ cs x a b c=>zn0 k t τ n cs x a b c) _ 0 τ cs xs hf (by grind) (by omega)
     (fun i p hp=>by grind)
     (by grind[Function.comp_def])
    grind
   ·rename_i n' e;simp only[ab]at hf;obtain⟨hc,hf⟩:=hf;have hc:=af hc;obtain⟨xs,n,rfl,rfl,hl,hxl,hx⟩:=DataW.trod_array hd h;simp only[DataW.weights,hd]at hw
    have:=y0o (S:=S) (fun t τ cs x a b c=>zn0 k t τ n cs x a b c) _ 0 τ cs xs hf (by grind) (by omega)
     (fun i p hp=>by grind)
     (by grind[zj1,Function.comp_def])
    grind
   grind
  grind
theorem y8z{α:Type}{n:Nat}{p:Nat->α->Prop}(h:∀i,i<n->∃x,p i x):∃xs:List α,xs.length=n/\∀(i:Nat) (x:α),getq xs i=some x->p i x:=by
 induction n with
 | zero=>exact⟨[],rfl,fun i x h=>by grind[getq]⟩
 | succ n ih=>
  obtain⟨xs,h1,h2⟩:=ih fun i hi=>h i (by omega);obtain⟨y,hy⟩:=h n (by omega);refine⟨xs++[y],by grind,fun i x hx=> ?_⟩
  grind[getq]
theorem yua{k:Nat}{t e:TypeId}{τ:Ty}{v:Value}{d:DataW H}{ps:List MemPlace}(ht:P.underlying t=some (.slice e))(hf:y4q P k e τ=true)(hz:τ.size≠0)(hc:P.cellsOf e=τ.size)(hb:τ.bytes<=P.bytesOf e)
  (hval:Value.okWide P w .any base t v) (h:DataW.Trod enc P w 0 spare held t v d ps) (hw:(d.weights P t).all (·<=reachBytes)=true):
  ∃xs:List τ.T,RepT w (fun b=>b<w.heap.size) (.list τ) xs [v]/\okT (.list τ) xs:=by
 obtain⟨a0,len0,cap0,rfl⟩:=okWide_slice ht hval;obtain⟨fuel,h⟩:=h;rcases DataW.trod_slice ht h with⟨hcs,_⟩ | ⟨a,len,cap,elems,rest,n,_,hcs,hx,_,hl,hm,hlen,hel,_,_⟩
 ·simp[Value.cells]at hcs;obtain⟨rfl,rfl,rfl⟩:=hcs;exact⟨([]:List τ.T),⟨none,0,rfl,ai _,fun _=>rfl,fun a h=>(by cases h),fun i x hx=>(by grind[getq])⟩,by simp,fun i x hx=>(by grind[getq])⟩
 ·simp[Value.cells]at hcs;obtain⟨rfl,rfl,rfl⟩:=hcs;obtain⟨rfl,-⟩:=cR.inj hx;simp only[DataW.weights,ht,bc,bR,ab,decide_eq_true_eq,ci]at hw;obtain⟨hw0,hw1,_⟩:=hw;have spot:a.spot=none:=by
   simp only[Value.okWide,ht,Cell.okWide,Cell.ok]at hval;exact hval.2.2.2.1
  have wAll:∀(l:List (DataW H×List MemPlace)) (i:Nat) (y:DataW H×List MemPlace),(DataW.weightsAll P e (l.map (·.1))).all (·<=reachBytes)=true->l[i]? =some y->(y.1.weights P e).all (·<=reachBytes)=true:=by
   intro l;induction l with
   | nil=>simp
   | cons z l ih=>
    intro i y hw h;simp only[aC,DataW.weightsAll,bR,ab]at hw
    grind
  have each:∀i:Nat,i<len0->∃(x:τ.T),∃c:List Value,RepT w (fun b=>b<w.heap.size) τ x c/\okT τ x/\a.block<w.heap.size/\CellsAt w a.block (a.off+i*τ.size) c:=by
   intro i hi;have hi':i<elems.length:=by omega
   have h1:=hel i hi;rw[aI hi',aw]at h1;obtain⟨cs,h1,h2⟩:=h1;obtain⟨_,hcl,hcs⟩:=World.cells?_some h1;obtain⟨x,hx,ox⟩:=zn0 (S:=fun b=>b<w.heap.size) k e τ n cs _ hf h2 (wAll elems i _ hw1 (aI hi'));have hcell:∀j u,cs[j]? =some u->w.cell? ⟨a.block,a.off+i*τ.size+j,none⟩=some u:=by
    intro j u hu;have hj:=(aO.1 hu).1;have:=hcs j (by omega);rw[hu,hc]at this;obtain⟨a1,a2,a3⟩:=a
    grind[Addr.add]
   refine⟨x,cs,hx,ox, ?_,hcell⟩;have hz':0<cs.length:=by omega
   grind[World.cell?]
  obtain⟨xs,hxl,hxs⟩:=y8z each;subst hxl;refine⟨xs,⟨some a,cap0,rfl,hl,fun h=>(by cases h),fun a' h _=>by grind,fun i x hx=> ?_⟩, ?_,fun i x hx=> ?_⟩
  ·grind
  ·have:ak xs*τ.bytes<=(elems.length+rest.length)*P.bytesOf e:=co (by omega) hb;omega
  grind
theorem ywr{k:Nat}{t:TypeId}{s:Sh}{v:Value}{d:DataW H}{ps:List MemPlace}(hf:yzq P k t s=true)
  (hval:Value.okWide P w .any base t v) (h:DataW.Trod enc P w 0 spare held t v d ps) (hw:(d.weights P t).all (·<=reachBytes)=true):
  ∃x:s.T,RepAs w (fun b=>b<w.heap.size) g0 m0 (mkL s x) [v]/\okSh s x:=by
 have one:∀{τ:Ty} {x:τ.T} {cs:Array Value},v= .agg cs->RepT w (fun b=>b<w.heap.size) τ x cs.toList->RepAs w (fun b=>b<w.heap.size) g0 m0 [.agg (Dv.enc τ x)] [v]:=by intro τ x cs hv hr;exact⟨v,[],rfl,⟨cs.toList,by rw[hv],hr.enc,z85 _ _⟩,rfl⟩
 simp only[yzq]at hf;split at hf
 ·rename_i dd hd;split at hf
  ·split at hf
   ·obtain⟨b,rfl⟩:=okWide_bool hd hval;exact⟨b,⟨_,[],rfl,rfl,rfl⟩,trivial⟩
   grind
  ·split at hf
   ·have hf:=of_decide_eq_true hf;subst hf;obtain⟨n,rfl,_,_,hn⟩:=open_int hd hval h;exact⟨n,⟨_,[],rfl,rfl,rfl⟩,hn⟩
   grind
  ·split at hf
   ·obtain⟨fuel,h⟩:=h;obtain⟨b,rfl⟩:=okWide_string hd hval;obtain⟨s,h1,h2,hs⟩:=DataW.trod_string hd h;simp[Value.cells]at h1;subst h1;obtain⟨rfl,-⟩:=cR.inj h2;refine⟨b.data.toList,⟨_,[],rfl,by simp[RepA],rfl⟩, ?_⟩
    grind[DataW.weights,okSh]
   grind
  ·split at hf
   ·obtain⟨fuel,h⟩:=h;obtain⟨cs,rfl,_⟩:=okWide_struct hd hval;obtain⟨x,hx,ox⟩:=zn0 (S:=fun b=>b<w.heap.size) _ _ _ _ _ _ hf h hw;exact⟨x,one rfl hx,ox⟩
   grind
  ·split at hf
   ·obtain⟨fuel,h⟩:=h;have hv:∃cs,v= .agg cs:=by grind[Value.okWide]
    obtain⟨cs,rfl⟩:=hv;obtain⟨x,hx,ox⟩:=zn0 (S:=fun b=>b<w.heap.size) _ _ _ _ _ _ hf h hw;exact⟨x,one rfl hx,ox⟩
   grind
  ·split at hf
   ·simp only[ab,au]at hf;obtain⟨⟨⟨h1,h2⟩,h3⟩,h4⟩:=hf;obtain⟨xs,hx,ox⟩:=yua hd h2 (dM h1) (af h3) (ck h4) hval h hw;exact⟨xs,⟨_,[],rfl,hx,rfl⟩,ox⟩
   grind
  grind
 grind
theorem zyw{W W':World}(laid:laidOutB P=true)(bel:Below W.heap.size W W'):∀(ts:List TypeId) (vs:List Value) (ds:List (DataW H)) (ps:List MemPlace),
  (∀t,t∈ts->P.readableRec t=true/\t<P.types.size)->DataW.TrodAll enc P W 0 (fun _=>true) true ts vs ds ps->DataW.TrodAll enc P W' 0 (fun b=>decide (b<W.heap.size)) true ts vs ds ps
 | [],vs,ds,ps,_,h=>by obtain⟨rfl,rfl,rfl⟩:=trodAll_nil h;exact trodAll_mk0
 | t::ts,vs,ds,ps,hr,h=>by
  obtain⟨v,vs,d,ds,p,q,rfl,rfl,rfl,h0,h1⟩:=trodAll_cons h;have lt:∀x∈p,x.block<W.heap.size:=by obtain⟨m,hm⟩:=h0;exact DataW.trod_lt m _ _ _ hm
  exact⟨p,q,Below.trod laid (hr t (by simp)).1 (hr t (by simp)).2 h0 bel lt,zyw laid bel ts vs ds q (fun t ht=>hr t (by simp[ht])) h1,rfl⟩
theorem y8c:∀(ts:List TypeId) (vs:List Value) (ds:List (DataW H)) (ps:List MemPlace),DataW.TrodAll enc P w base spare held ts vs ds ps->ds.length=ts.length
 | [],vs,ds,ps,h=>by obtain⟨rfl,rfl,rfl⟩:=trodAll_nil h;rfl
 | t::ts,vs,ds,ps,h=>by obtain⟨v,vs,d,ds,p,q,rfl,rfl,rfl,h0,h1⟩:=trodAll_cons h;simp[y8c ts vs ds q h1]
end
def zu9(P:Program):Nat->TypeId->Ty->Bool
 | 0,_,_=>false
 | k+1,t,τ=>match P.underlying t with
  | some d=>match d with
   | .struct fs=>ax (P.cellsOf t) τ.size&&y0w P (zu9 P k) (fs.toList.map fun f=>(f.type,f.offset)) 0 τ
   | .array n e=>ax (P.cellsOf t) τ.size&&y0w P (zu9 P k) ((bF n).map fun i=>(e,i*P.cellsOf e)) 0 τ
   | .slice e=>match τ with | .list σ=> !ax σ.size 0&&zu9 P k e σ&&ax (P.cellsOf e) σ.size&&Nat.ble σ.bytes (P.bytesOf e) | _=>false
   | _=>y4q P (k+1) t τ
  | none=>false
def ydj(P:Program)(k:Nat)(t:TypeId)(s:Sh):Bool:=match P.underlying t with
 | some d=>match d with
  | .struct _=>match s with | .val τ=>zu9 P k t τ | _=>false
  | .array _ _=>match s with | .val τ=>zu9 P k t τ | _=>false
  | .slice _=>match s with | .list τ=>zu9 P k t (.list τ) | _=>false
  | _=>yzq P k t s
 | none=>false
def ze1(P:Program)(k:Nat):List TypeId->Sh->Bool
 | [],s=>match s with | .nil=>true | _=>false
 | t::ts,s=>match ts with
  | []=>ydj P k t s
  | _::_=>match s with | .cons a b=>ydj P k t a&&ze1 P k ts b | _=>false
section
variable {H:Type} {enc:TypeId×Value->H} {P:Program} {w:World} {base:Nat} {spare:Nat->Bool} {held:Bool} {S:Nat->Prop}
theorem zru{F:TypeId->Ty->Bool}{m:Nat}{C:Value->Prop}
  (ih:∀(t:TypeId) (τ:Ty) (cs:List Value) (x:DataW H×List MemPlace),F t τ=true->DataW.trod enc P w base spare held m t cs=some x->(x.1.weights P t).all (·<=reachBytes)=true->(∀v∈cs,C v)->∃v,RepT w S τ v cs/\okT τ v):
  ∀(l:List (TypeId×Nat)) (off:Nat) (τ:Ty) (cs:List Value) (xs:List (DataW H×List MemPlace)),y0w P F l off τ=true->xs.length=l.length->cs.length=off+τ.size->
   (∀(i:Nat) (p:TypeId×Nat),l[i]? =some p->DataW.trod enc P w base spare held m p.1 ((cs.drop p.2).take (P.cellsOf p.1))=xs[i]?)->
   (DataW.weightsEach P (l.map (·.1)) (xs.map (·.1))).all (·<=reachBytes)=true->(∀v∈cs,C v)->∃v,RepT w S τ v (cs.drop off)/\okT τ v
 | [],off,τ,cs,xs,hf,_,hl,_,_,_=>by cases τ<;>simp only[y0w,bY]at hf;exact⟨(),dL (by simp[Ty.size]at hl;omega),trivial⟩
 | p::r,off,τ,cs,[],hf,hx,_,_,_,_=>by simp at hx
 | p::r,off,τ,cs,x::xs,hf,hx,hl,ht,hw,hC=>by
  simp only[y0w,ab]at hf;obtain⟨h0,hf⟩:=hf;have h0:=af h0;simp only[aC,DataW.weightsEach,bR,ab]at hw;obtain⟨hw1,hw2⟩:=hw;have hp:=ht 0 p rfl;rw[h0]at hp;have hC':∀v∈(cs.drop off).take (P.cellsOf p.1),C v:=fun v hv=>hC v (dU (List.mem_of_mem_take hv));cases r with
  | nil=>simp only[ab]at hf;have hc:=af hf.2;rw[hc,bu (by simp;omega)]at hp;exact ih _ _ _ _ hf.1 hp hw1 fun v hv=>hC v (dU hv)
  | cons q r=>cases τ<;>simp only[bY]at hf;rename_i a b;simp only[ab]at hf;obtain⟨⟨hf1,hc⟩,hf2⟩:=hf;have hc:=af hc;rw[hc]at hp hC';obtain⟨v,hv,ov⟩:=ih _ _ _ _ hf1 hp hw1 hC';obtain⟨u,hu,ou⟩:=zru ih (q::r) (off+a.size) b cs xs hf2 (by simpa using hx) (by simp only[Ty.size]at hl;omega) (fun i p' hp'=>by simpa using ht (i+1) p' (by simpa using hp')) hw2 hC;refine⟨(v,u),⟨(cs.drop off).take a.size,cs.drop (off+a.size), ?_,hv,hu⟩,ov,ou⟩;rw[<-dB,bV]
theorem ylr{t e:TypeId}{τ:Ty}{m:Nat}{cs:List Value}{x:DataW H×List MemPlace}(ht:P.underlying t=some (.slice e))(ih:∀(n:Nat) (cs:List Value) (x:DataW H×List MemPlace),DataW.trod enc P w 0 spare held n e cs=some x->(x.1.weights P e).all (·<=reachBytes)=true->∃v,RepT w (fun b=>b<w.heap.size) τ v cs/\okT τ v)(hz:τ.size≠0)(hc:P.cellsOf e=τ.size)(hb:τ.bytes<=P.bytesOf e)
  (h:DataW.trod enc P w 0 spare held m t cs=some x) (hw:(x.1.weights P t).all (·<=reachBytes)=true):
  ∃xs:List τ.T,RepT w (fun b=>b<w.heap.size) (.list τ) xs cs/\okT (.list τ) xs:=by
 rcases DataW.trod_slice ht h with⟨rfl,_⟩ | ⟨a,len0,cap0,elems,rest,n,_,rfl,hx,_,hl,hm,hlen,hel,_,_⟩
 ·exact⟨([]:List τ.T),⟨none,0,rfl,ai _,fun _=>rfl,fun a h=>(by cases h),fun i x hx=>(by simp[getq]at hx)⟩,by simp,fun i x hx=>(by simp[getq]at hx)⟩
 ·subst hx;simp only[DataW.weights,ht,bc,bR,ab,decide_eq_true_eq,ci]at hw;obtain⟨hw0,hw1,_⟩:=hw;have wAll:∀(l:List (DataW H×List MemPlace)) (i:Nat) (y:DataW H×List MemPlace),(DataW.weightsAll P e (l.map (·.1))).all (·<=reachBytes)=true->l[i]? =some y->(y.1.weights P e).all (·<=reachBytes)=true:=by
   intro l;induction l with
   | nil=>intro i y _ h;simp at h
   | cons z l ih=>
    intro i y hw h;simp only[aC,DataW.weightsAll,bR,ab]at hw;cases i with
    | zero=>simp at h;subst h;exact hw.1
    | succ i=>exact ih i y hw.2 (by simpa using h)
  have spotN:0<len0->a.spot=none:=by
   intro h0;have h1:=hel 0 h0;rw[aI (by omega),aw]at h1;obtain⟨cs,h1,h2⟩:=h1;obtain⟨_,hcl,hcs⟩:=World.cells?_some h1;have hcz:0<P.cellsOf e:=by omega
   have:=hcs 0 hcz;rw[Nat.zero_mul,show a.add 0=a from rfl,show a.add 0=a from rfl,aI (by omega)]at this;unfold World.cell? at this;split at this
   ·split at this
    ·cases this
    ·rename_i hs;cases e:a.spot with
     | none=>rfl
     | some s=>rw[e]at hs;simp at hs
   ·cases this
  have each:∀i:Nat,i<len0->∃(x:τ.T),∃c:List Value,RepT w (fun b=>b<w.heap.size) τ x c/\okT τ x/\a.block<w.heap.size/\CellsAt w a.block (a.off+i*τ.size) c:=by
   intro i hi;have hi':i<elems.length:=by omega
   have h1:=hel i hi;rw[aI hi',aw]at h1;obtain⟨cs,h1,h2⟩:=h1;obtain⟨_,hcl,hcs⟩:=World.cells?_some h1;obtain⟨x,hx,ox⟩:=ih n cs _ h2 (wAll elems i _ hw1 (aI hi'));have spot:=spotN (by omega);have hcell:∀j u,cs[j]? =some u->w.cell? ⟨a.block,a.off+i*τ.size+j,none⟩=some u:=by
    intro j u hu;have hj:=(aO.1 hu).1;have:=hcs j (by omega);rw[hu,hc]at this;obtain⟨a1,a2,a3⟩:=a;simp only at spot;subst spot;have ad:∀(b o i:Nat),(⟨b,o,none⟩:Addr).add i=⟨b,o+i,none⟩:=by
     intro b o i;unfold Addr.add;split
     ·rename_i h;subst h;rfl
     ·rfl
    rw[ad,ad]at this;exact this
   refine⟨x,cs,hx,ox, ?_,hcell⟩;have hz':0<cs.length:=by rw[RepT.length hx];omega
   have:=hcell 0 _ (aI hz');unfold World.cell? at this;split at this
   ·rename_i hb;exact(Array.getElem?_eq_some_iff.1 hb).1
   ·cases this
  obtain⟨xs,hxl,hxs⟩:=y8z each;subst hxl;refine⟨xs,⟨some a,cap0,rfl,hl,fun h=>(by cases h),fun a' h hn=>by cases h;exact spotN (by omega),fun i x hx=> ?_⟩, ?_,fun i x hx=> ?_⟩
  ·obtain⟨c,h1,_,h3,h4⟩:=hxs i x hx;exact⟨a,c,rfl,h3,h1,h4⟩
  ·have:ak xs*τ.bytes<=(elems.length+rest.length)*P.bytesOf e:=co (by omega) hb;omega
  ·obtain⟨c,_,h2,_⟩:=hxs i x hx;exact h2
theorem zea:∀(k:Nat) (t:TypeId) (τ:Ty) (m:Nat) (cs:List Value) (x:DataW H×List MemPlace),zu9 P k t τ=true->DataW.trod enc P w 0 spare held m t cs=some x->
  (x.1.weights P t).all (·<=reachBytes)=true->∃v,RepT w (fun b=>b<w.heap.size) τ v cs/\okT τ v
 | 0,_,_,_,_,_,h,_,_=>by simp[zu9]at h
 | k+1,t,τ,m,cs,x,hf,h,hw=>by
  simp only[zu9]at hf;split at hf
  ·rename_i d hd;split at hf
   ·rename_i fs;simp only[ab]at hf;obtain⟨hc,hf⟩:=hf;have hc:=af hc;obtain⟨xs,n,rfl,rfl,hl,hxl,hx⟩:=DataW.trod_struct hd h;simp only[DataW.weights,hd]at hw
    have:=zru (S:=fun b=>b<w.heap.size) (C:=fun _=>True) (fun t τ cs x a b c _=>zea k t τ n cs x a b c) _ 0 τ cs xs hf (by simpa using hxl) (by omega)
     (fun i p hp=>by
      simp only[dE,bS]at hp;obtain⟨f,hf',rfl⟩:=hp;exact hx i f (by simpa using hf'))
     (by simpa[dp,Function.comp_def] using hw) (fun _ _=>trivial)
    simpa using this
   ·rename_i n' e;simp only[ab]at hf;obtain⟨hc,hf⟩:=hf;have hc:=af hc;obtain⟨xs,n,rfl,rfl,hl,hxl,hx⟩:=DataW.trod_array hd h;simp only[DataW.weights,hd]at hw
    have:=zru (S:=fun b=>b<w.heap.size) (C:=fun _=>True) (fun t τ cs x a b c _=>zea k t τ n cs x a b c) _ 0 τ cs xs hf (by simpa using hxl) (by omega)
     (fun i p hp=>by
      simp only[dE,bS]at hp;obtain⟨j,hj,rfl⟩:=hp;have hj':=(aO.1 hj);obtain⟨hlt,hj'⟩:=hj';simp at hj' hlt;subst hj';exact hx i hlt)
     (by
      rw[dp];have:=zj1 (P:=P) (H:=H) e (bF n') (xs.map (·.1)) (by simpa using hxl);simp only[Function.comp_def];rw[this];exact hw) (fun _ _=>trivial)
    simpa using this
   ·split at hf
    ·simp only[ab,au]at hf;obtain⟨⟨⟨h1,h2⟩,h3⟩,h4⟩:=hf;exact ylr hd (fun n cs x=>zea k _ _ n cs x h2) (dM h1) (af h3) (ck h4) h hw
    ·cases hf
   ·exact zn0 (S:=fun b=>b<w.heap.size) (k+1) t τ m cs x hf h hw
  ·cases hf
theorem ycy{k:Nat}{t:TypeId}{s:Sh}{v:Value}{d:DataW H}{ps:List MemPlace}(hf:ydj P k t s=true)
  (hval:Value.okWide P w .any base t v) (h:DataW.Trod enc P w 0 spare held t v d ps) (hw:(d.weights P t).all (·<=reachBytes)=true):
  ∃x:s.T,RepAs w (fun b=>b<w.heap.size) g0 m0 (mkL s x) [v]/\okSh s x:=by
 have one:∀{τ:Ty} {x:τ.T} {cs:Array Value},v= .agg cs->RepT w (fun b=>b<w.heap.size) τ x cs.toList->RepAs w (fun b=>b<w.heap.size) g0 m0 [.agg (Dv.enc τ x)] [v]:=by intro τ x cs hv hr;exact⟨v,[],rfl,⟨cs.toList,by rw[hv],hr.enc,z85 _ _⟩,rfl⟩
 simp only[ydj]at hf;split at hf
 ·rename_i dd hd;split at hf
  ·split at hf
   ·obtain⟨fuel,h⟩:=h;simp only[Value.okWide,hd]at hval;obtain⟨cs,rfl,_,hr⟩:=hval;obtain⟨x,hx,ox⟩:=zea _ _ _ _ _ _ hf h hw;exact⟨x,one rfl hx,ox⟩
   ·cases hf
  ·split at hf
   ·obtain⟨fuel,h⟩:=h;simp only[Value.okWide,hd]at hval;obtain⟨cs,rfl,_,hr⟩:=hval;obtain⟨x,hx,ox⟩:=zea _ _ _ _ _ _ hf h hw;exact⟨x,one rfl hx,ox⟩
   ·cases hf
  ·split at hf
   ·obtain⟨fuel,h⟩:=h;obtain⟨a0,len0,cap0,rfl⟩:=okWide_slice hd hval;obtain⟨x,hx,ox⟩:=zea _ _ _ _ _ _ hf h hw;exact⟨x,⟨_,[],rfl,hx,rfl⟩,ox⟩
   ·cases hf
  ·exact ywr hf hval h hw
 ·cases hf
theorem y8r{k:Nat}:∀(ts:List TypeId) (s:Sh) (vs:List Value) (ds:List (DataW H)) (ps:List MemPlace),ze1 P k ts s=true->DataW.TrodAll enc P w 0 spare held ts vs ds ps->
  (∀(j:Nat) t v,ts[j]? =some t->vs[j]? =some v->Value.okWide P w .any base t v)->(DataW.weightsEach P ts ds).all (·<=reachBytes)=true->
  ∃x:s.T,RepAs w (fun b=>b<w.heap.size) g0 m0 (mkL s x) vs/\okSh s x
 | [],s,vs,ds,ps,hf,h,_,_=>by
  simp only[ze1]at hf;split at hf
  ·obtain⟨rfl,rfl,rfl⟩:=trodAll_nil h;exact⟨(),rfl,trivial⟩
  ·cases hf
 | t::ts,s,vs,ds,ps,hf,h,hval,hw=>by
  obtain⟨v,vs,d,ds,p,q,rfl,rfl,rfl,h0,h1⟩:=trodAll_cons h;simp only[DataW.weightsEach,bR,ab]at hw;cases ts with
  | nil=>simp only[ze1]at hf;obtain⟨rfl,rfl,rfl⟩:=trodAll_nil h1;exact ycy hf (hval 0 t v rfl rfl) h0 hw.1
  | cons t' ts=>
   simp only[ze1]at hf;split at hf
   ·rename_i a b;simp only[ab]at hf;obtain⟨x,hx,ox⟩:=ycy hf.1 (hval 0 t v rfl rfl) h0 hw.1;obtain⟨y,hy,oy⟩:=y8r (t'::ts) b vs ds q (by simpa[ze1] using hf.2) h1 (fun j t v ht hv=>hval (j+1) t v (by simpa using ht) (by simpa using hv)) hw.2;exact⟨(x,y),RepAs.append hx hy,ox,oy⟩
   ·cases hf
end
theorem ylu{H:Type}{enc:TypeId×Value->H}{C:Checked}{os:Os}{f:FuncId}{fn:Func}{s:ChangeSpec}{conds:List PathCond}{u:TypeId}{sh:Sh}{F:sh.T->Option Bool}{k:Nat}
  (own:ownKnob C.prog.godebug=none) (started:os.Started) (noInit:C.prog.inits.idxOf? f=none) (hfn:C.prog.funcs[f]? =some fn)
  (witness:∃(w:World) (tape:Tape) (i:Input),w.os=os/\(w.forCall tape i).Shaped C.prog/\i.vars=[]/\Input.okWide C.prog (w.forCall tape i) .any w.heap.size f i/\
   s.pre6 enc C.prog fn conds false (w.forCall tape i).memory i.args/\Assume.holds {} C.prog (lone (Frame.enter C.prog f i.args .normal) [] (w.forCall tape i)))
  (laid:laidOutB C.prog=true) (hread:(fn.params.toList.all fun t=>C.prog.readableRec t&&Nat.blt t C.prog.types.size)=true)
  (hres:fn.resultTypes= #[u]) (hu:C.prog.underlying u=some .bool) (hvars:s.vars=[])
  (hspec:∀(ds:List (DataW H)),ds.length=fn.params.size->s.fn H ds={results:=[.lit (.bool true)],args:=ds})
  (hs:z77 C.prog f fun avs=>(znz sh .bool [] F).run avs some)
  (hfit:ze1 C.prog k fn.params.toList sh=true) (hget:∀x,zd1 (getP m0 [] sh (mkL sh x))=some x)
  (law:∀x,okSh sh x->F x=some true):
  ReturnsInHanded {} C os f .any (s.pre6 enc C.prog fn conds false) (s.post enc C.prog fn false true false false):=by
 refine returnsInHanded_of_change_sized own started noInit hfn witness ?_;intro W base args ds gs before hval hW hcnd hsz _;have hW':=hW;obtain⟨p,q,hA,hV,rfl,hfz,hnd⟩:=hW;rw[hvars]at hV;obtain⟨rfl,rfl⟩:=trodVars_none hV;have hlen:=y8c _ _ _ _ hA;have hwe:(DataW.weightsEach C.prog fn.params.toList ds).all (·<=reachBytes)=true:=by
  have:∀(ts us:List TypeId) (ds:List (DataW H)),ds.length=ts.length->DataW.weightsEach C.prog (ts++us) ds=DataW.weightsEach C.prog ts ds:=by
   intro ts;induction ts with
   | nil=>intro us ds h;simp at h;subst h;cases us<;>simp[DataW.weightsEach]
   | cons t ts ih=>
    intro us ds h;cases ds with
    | nil=>simp at h
    | cons d ds=>simp only[List.cons_append,DataW.weightsEach];rw[ih us ds (by simpa using h)]
  rw[aj,this _ _ _ hlen]at hsz;exact hsz
 obtain⟨x,hx,ox⟩:=y8r (k:=k) (base:=base) _ sh _ _ _ hfit hA (fun j t v ht hv=>hval j t v (by simpa using ht) (by simpa using hv)) hwe;have hF:=law x ox;have hrun:(znz sh .bool [] F).run (mkL sh x) some=some (.bool true):=by simp only[Ctr.run,znz,hget,hF];rfl
 obtain⟨_,hc⟩:=hs W (fun b=>b<W.heap.size) (mkL sh x) args.toList (.bool true) (fun b h=>h) hx hrun;refine hc.mono fun e W' he=> ?_;obtain⟨v,S',ls,rfl,bel,_,_,hv,_⟩:=he;obtain⟨rfl,hv⟩:=hv;have hv:v= .bool true:=hv;subst hv;refine⟨_,rfl,ds,[],p++[],[],p,[],hW', ?_, ?_, ?_,bel.frame _,fun h=>by cases h⟩
 ·rw[aj,hspec ds (by simpa using hlen),hres];exact trodAll_mk1 (shut_bool hu _)
 ·rw[aj,hspec ds (by simpa using hlen)];refine zyw laid bel _ _ _ _ (fun t ht=> ?_) hA;have:=List.all_eq_true.1 hread t ht;simp only[ab]at this;exact⟨this.1,by simpa using this.2⟩
 ·rw[aj,hspec ds (by simpa using hlen),hvars];rfl
end Go.Dv
