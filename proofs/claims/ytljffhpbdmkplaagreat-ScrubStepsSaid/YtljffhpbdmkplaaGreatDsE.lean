/- The fixed examples. -/
import Derived.Test.YtljffhpbdmkplaaGreatDsPure
import Derived.Test.YtljffhpbdmkplaaGreatDvF
import Derived.Test.YtljffhpbdmkplaaGreatDvD
import Derived.Test.YtljffhpbdmkplaaGreatDsD
set_option linter.all false
open List renaming Perm->ck,length->aq,mem_cons->am,pairwise_cons->aJ
namespace Ds
open Go Go.Dv
set_option maxRecDepth 100000
abbrev N0:Nat:=1000000000000000000000000000000000000000000000000000000000000
def insI(x:Int):List Int->List Int
 | []=>[x]
 | y::l=>bif decide (x<=y)then x::y::l else y::insI x l
def y99:List Int->List Int
 | []=>[]
 | x::l=>insI x (y99 l)
theorem zxs(x:Int):∀l,(insI x l).Perm (x::l)
 | []=>ck.refl _
 | y::l=>by
  simp only[insI]
  cases decide (x<=y)
  ·exact((zxs x l).cons y).trans (ck.swap x y l)
  ·exact ck.refl _
theorem y2i:∀l,(y99 l).Perm l
 | []=>ck.refl _
 | x::l=>(zxs x (y99 l)).trans ((y2i l).cons x)
theorem zyk(x:Int):∀l:List Int,l.Pairwise (·<=·)->(insI x l).Pairwise (·<=·)
 | [],_=>by simp[insI]
 | y::l,h=>by
  obtain⟨h1,h2⟩:=aJ.1 h
  simp only[insI]
  cases e:decide (x<=y)
  ·have e:¬x<=y:=by simpa using e
   refine aJ.2 ⟨fun z hz=> ?_,zyk x l h2⟩
   rcases am.1 ((zxs x l).mem_iff.1 hz)with rfl | hz
   ·omega
   ·exact h1 z hz
  ·have e:x<=y:=by simpa using e
   refine aJ.2 ⟨fun z hz=> ?_,h⟩
   rcases am.1 hz with rfl | hz
   ·exact e
   ·have:=h1 z hz;omega
theorem zua:∀l:List Int,(y99 l).Pairwise (·<=·)
 | []=>List.Pairwise.nil
 | x::l=>zyk x _ (zua l)
theorem yda(l:List Int):z7c l=y99 l:=by
 refine ck.eq_of_pairwise (le:=(·<=·)) (fun a b _ _ h1 h2=>by omega) ?_ (zua l) ((List.mergeSort_perm l _).trans (y2i l).symm)
 have:=List.pairwise_mergeSort (le:=fun x y:Int=>decide (x<=y)) (fun a b c x y=>by simp only[decide_eq_true_eq]at x y|-;omega) (fun a b=>by simp only[Bool.or_eq_true,decide_eq_true_eq];omega) l
 exact this.imp (fun h=>by simpa using h)
def yl5(N:Nat)(a0:(List Z7))(a1:(List Int)):Option ((List Int)):=
 match pool_visit_m__pool_Reach_c1 N a0 a1 ([]:List Int)with
 | some r1=>(match gd (Nat.blt (aq r1.2.2.1) 4611686018427387904) (some (y99 r1.2.2.1))with
 | some r2=>(some r2)
 | none=>none)
 | none=>none
theorem yh0:zan=yl5:=by
 funext N a b
 unfold zan yl5 z16
 cases pool_visit_m__pool_Reach_c1 N a b ([]:List Int)with
 | none=>rfl
 | some r1=>
  simp only[yda]
  cases Nat.blt (aq r1.2.2.1) 4611686018427387904<;>rfl
theorem ygw:zbu N0=some true:=by
 unfold zbu zaq
 rw[yh0]
 decide+kernel
end Ds
namespace Ds
open Go Go.Dv
@[reducible] def yq6:Fuel:=⟨N0,by decide,by decide⟩
theorem plainStepsF(x:zaz)(y:zbg)(z:(List Int))(hx:okT zb0 x)(hy:okT zbi y)(hz:okT ((.list (.int .u8)):Ty) z):z8u N0 x y z=some true:=
 @ydg yq6 ygw x y z hx hy hz
end Ds
