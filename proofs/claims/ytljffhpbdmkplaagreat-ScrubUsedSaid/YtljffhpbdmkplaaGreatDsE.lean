/- The fixed examples. -/
import Derived.Test.YtljffhpbdmkplaaGreatDsPure
import Derived.Test.YtljffhpbdmkplaaGreatDvF
import Derived.Test.YtljffhpbdmkplaaGreatDvD
import Derived.Test.YtljffhpbdmkplaaGreatDsD
set_option linter.all false
open List renaming Perm->cN,length->ak,mem_cons->ar,pairwise_cons->aD
namespace Ds
open Go Go.Dv
set_option maxRecDepth 100000
abbrev N0:Nat:=1000000000000000000000000000000000000000000000000000000000000
def insI(x:Int):List Int->List Int
 | []=>[x]
 | y::l=>bif decide (x<=y)then x::y::l else y::insI x l
def ykt:List Int->List Int
 | []=>[]
 | x::l=>insI x (ykt l)
theorem y7w(x:Int):∀l,(insI x l).Perm (x::l)
 | []=>cN.refl _
 | y::l=>by
  simp only[insI];cases decide (x<=y)
  ·exact((y7w x l).cons y).trans (cN.swap x y l)
  ·exact cN.refl _
theorem yde:∀l,(ykt l).Perm l
 | []=>cN.refl _
 | x::l=>(y7w x (ykt l)).trans ((yde l).cons x)
theorem y8v(x:Int):∀l:List Int,l.Pairwise (·<=·)->(insI x l).Pairwise (·<=·)
 | [],_=>by simp[insI]
 | y::l,h=>by
  obtain⟨h1,h2⟩:=aD.1 h;simp only[insI];cases e:decide (x<=y)
  ·have e:¬x<=y:=by simpa using e
   refine aD.2 ⟨fun z hz=> ?_,y8v x l h2⟩;rcases ar.1 ((y7w x l).mem_iff.1 hz)with rfl | hz
   ·omega
   ·exact h1 z hz
  ·have e:x<=y:=by simpa using e
   refine aD.2 ⟨fun z hz=> ?_,h⟩;rcases ar.1 hz with rfl | hz
   ·exact e
   ·have:=h1 z hz;omega
theorem y3e:∀l:List Int,(ykt l).Pairwise (·<=·)
 | []=>List.Pairwise.nil
 | x::l=>y8v x _ (y3e l)
theorem yph(l:List Int):za1 l=ykt l:=by refine cN.eq_of_pairwise (le:=(·<=·)) (fun a b _ _ h1 h2=>by omega) ?_ (y3e l) ((List.mergeSort_perm l _).trans (yde l).symm);have:=List.pairwise_mergeSort (le:=fun x y:Int=>decide (x<=y)) (fun a b c x y=>by grind) (fun a b=>by grind) l;exact this.imp (fun h=>by grind)
def yyg(N:Nat)(a0:(List Z8))(a1:(List Int)):Option ((List Int)):=
 match pool_visit_m__pool_Reach_c1 N a0 a1 ([]:List Int)with
 | some r1=>(match gd (Nat.blt (ak r1.2.2.1) 4611686018427387904) (some (ykt r1.2.2.1))with
 | some r2=>(some r2)
 | none=>none)
 | none=>none
theorem ytz:zdz=yyg:=by
 funext N a b;unfold zdz yyg z3m;cases pool_visit_m__pool_Reach_c1 N a b ([]:List Int)with
 | none=>rfl
 | some r1=>simp only[yph];cases Nat.blt (ak r1.2.2.1) 4611686018427387904<;>rfl
theorem ytv:zfs N0=some true:=by unfold zfs ze5;rw[ytz];decide+kernel
end Ds
namespace Ds
open Go Go.Dv
@[reducible] def x5r:Fuel:=⟨N0,by decide,by decide⟩
theorem ypp(x:zed)(y:Int)(z:(List K6))(hx:okT zee x)(hy:(Lit.int .u8 y).wf=true)(hz:okT ((.list w5):Ty) z):z9p N0 x y z=some true:=
 @yu8 x5r ytv x y z hx (z8w hy) hz
end Ds
