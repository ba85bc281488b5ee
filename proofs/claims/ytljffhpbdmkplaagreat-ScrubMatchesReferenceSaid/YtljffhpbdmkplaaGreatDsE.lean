/- The fixed examples. -/
import Derived.Test.YtljffhpbdmkplaaGreatDsPure
import Derived.Test.YtljffhpbdmkplaaGreatDvF
import Derived.Test.YtljffhpbdmkplaaGreatDvD
import Derived.Test.YtljffhpbdmkplaaGreatDsD
set_option linter.all false
open List renaming Perm->ck,length->ap,mem_cons->am,pairwise_cons->aK
namespace Ds
open Go Go.Dv
set_option maxRecDepth 100000
abbrev N0:Nat:=1000000000000000000000000000000000000000000000000000000000000
def insI(x:Int):List Int->List Int
 | []=>[x]
 | y::l=>bif decide (x<=y)then x::y::l else y::insI x l
def y9v:List Int->List Int
 | []=>[]
 | x::l=>insI x (y9v l)
theorem zye(x:Int):∀l,(insI x l).Perm (x::l)
 | []=>ck.refl _
 | y::l=>by
  simp only[insI]
  cases decide (x<=y)
  ·exact((zye x l).cons y).trans (ck.swap x y l)
  ·exact ck.refl _
theorem y33:∀l,(y9v l).Perm l
 | []=>ck.refl _
 | x::l=>(zye x (y9v l)).trans ((y33 l).cons x)
theorem zz7(x:Int):∀l:List Int,l.Pairwise (·<=·)->(insI x l).Pairwise (·<=·)
 | [],_=>by simp[insI]
 | y::l,h=>by
  obtain⟨h1,h2⟩:=aK.1 h
  simp only[insI]
  cases e:decide (x<=y)
  ·have e:¬x<=y:=by simpa using e
   refine aK.2 ⟨fun z hz=> ?_,zz7 x l h2⟩
   rcases am.1 ((zye x l).mem_iff.1 hz)with rfl | hz
   ·omega
   ·exact h1 z hz
  ·have e:x<=y:=by simpa using e
   refine aK.2 ⟨fun z hz=> ?_,h⟩
   rcases am.1 hz with rfl | hz
   ·exact e
   ·have:=h1 z hz;omega
theorem zus:∀l:List Int,(y9v l).Pairwise (·<=·)
 | []=>List.Pairwise.nil
 | x::l=>zz7 x _ (zus l)
theorem ydz(l:List Int):z81 l=y9v l:=by
 refine ck.eq_of_pairwise (le:=(·<=·)) (fun a b _ _ h1 h2=>by omega) ?_ (zus l) ((List.mergeSort_perm l _).trans (y33 l).symm)
 have:=List.pairwise_mergeSort (le:=fun x y:Int=>decide (x<=y)) (fun a b c x y=>by simp only[decide_eq_true_eq]at x y|-;omega) (fun a b=>by simp only[Bool.or_eq_true,decide_eq_true_eq];omega) l
 exact this.imp (fun h=>by simpa using h)
def ym4(N:Nat)(a0:(List Z7))(a1:(List Int)):Option ((List Int)):=
 match pool_visit_m__pool_Reach_c1 N a0 a1 ([]:List Int)with
 | some r1=>(match gd (Nat.blt (ap r1.2.2.1) 4611686018427387904) (some (y9v r1.2.2.1))with
 | some r2=>(some r2)
 | none=>none)
 | none=>none
theorem yhr:zbi=ym4:=by
 funext N a b
 unfold zbi ym4 z1q
 cases pool_visit_m__pool_Reach_c1 N a b ([]:List Int)with
 | none=>rfl
 | some r1=>
  simp only[ydz]
  cases Nat.blt (ap r1.2.2.1) 4611686018427387904<;>rfl
theorem yhm:zck N0=some true:=by
 unfold zck zbl
 rw[yhr]
 decide+kernel
end Ds
namespace Ds
open Go Go.Dv
@[reducible] def yr7:Fuel:=⟨N0,by decide,by decide⟩
theorem plainMatchesReferenceF(x:zbt)(y:(List U9))(z:X5)(hx:okT zbu x)(hy:okT ((.list T_ref28_Rot):Ty) y)(hz:okT U2 z):k8 N0 x y z=some true:=
 @zmw yr7 yhm x y z hx hy hz
end Ds
