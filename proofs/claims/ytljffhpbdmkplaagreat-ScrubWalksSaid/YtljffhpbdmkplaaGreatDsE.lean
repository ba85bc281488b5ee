/- The fixed examples. -/
import Derived.Test.YtljffhpbdmkplaaGreatDsPure
import Derived.Test.YtljffhpbdmkplaaGreatDvF
import Derived.Test.YtljffhpbdmkplaaGreatDvD
import Derived.Test.YtljffhpbdmkplaaGreatDsD
set_option linter.all false
open List renaming Perm->ck,length->aq,mem_cons->am,pairwise_cons->aK
namespace Ds
open Go Go.Dv
set_option maxRecDepth 100000
abbrev N0:Nat:=1000000000000000000000000000000000000000000000000000000000000
def insI(x:Int):List Int->List Int
 | []=>[x]
 | y::l=>bif decide (x<=y)then x::y::l else y::insI x l
def y9b:List Int->List Int
 | []=>[]
 | x::l=>insI x (y9b l)
theorem zxz(x:Int):∀l,(insI x l).Perm (x::l)
 | []=>ck.refl _
 | y::l=>by
  simp only[insI]
  cases decide (x<=y)
  ·exact((zxz x l).cons y).trans (ck.swap x y l)
  ·exact ck.refl _
theorem y2o:∀l,(y9b l).Perm l
 | []=>ck.refl _
 | x::l=>(zxz x (y9b l)).trans ((y2o l).cons x)
theorem zyr(x:Int):∀l:List Int,l.Pairwise (·<=·)->(insI x l).Pairwise (·<=·)
 | [],_=>by simp[insI]
 | y::l,h=>by
  obtain⟨h1,h2⟩:=aK.1 h
  simp only[insI]
  cases e:decide (x<=y)
  ·have e:¬x<=y:=by simpa using e
   refine aK.2 ⟨fun z hz=> ?_,zyr x l h2⟩
   rcases am.1 ((zxz x l).mem_iff.1 hz)with rfl | hz
   ·omega
   ·exact h1 z hz
  ·have e:x<=y:=by simpa using e
   refine aK.2 ⟨fun z hz=> ?_,h⟩
   rcases am.1 hz with rfl | hz
   ·exact e
   ·have:=h1 z hz;omega
theorem zue:∀l:List Int,(y9b l).Pairwise (·<=·)
 | []=>List.Pairwise.nil
 | x::l=>zyr x _ (zue l)
theorem ydf(l:List Int):z7l l=y9b l:=by
 refine ck.eq_of_pairwise (le:=(·<=·)) (fun a b _ _ h1 h2=>by omega) ?_ (zue l) ((List.mergeSort_perm l _).trans (y2o l).symm)
 have:=List.pairwise_mergeSort (le:=fun x y:Int=>decide (x<=y)) (fun a b c x y=>by simp only[decide_eq_true_eq]at x y|-;omega) (fun a b=>by simp only[Bool.or_eq_true,decide_eq_true_eq];omega) l
 exact this.imp (fun h=>by simpa using h)
def ylc(N:Nat)(a0:(List Z7))(a1:(List Int)):Option ((List Int)):=
 match pool_visit_m__pool_Reach_c1 N a0 a1 ([]:List Int)with
 | some r1=>(match gd (Nat.blt (aq r1.2.2.1) 4611686018427387904) (some (y9b r1.2.2.1))with
 | some r2=>(some r2)
 | none=>none)
 | none=>none
theorem yh6:zb1=ylc:=by
 funext N a b
 unfold zb1 ylc z1b
 cases pool_visit_m__pool_Reach_c1 N a b ([]:List Int)with
 | none=>rfl
 | some r1=>
  simp only[ydf]
  cases Nat.blt (aq r1.2.2.1) 4611686018427387904<;>rfl
theorem yh2:zc2 N0=some true:=by
 unfold zc2 zb4
 rw[yh6]
 decide+kernel
end Ds
namespace Ds
open Go Go.Dv
@[reducible] def yqd:Fuel:=⟨N0,by decide,by decide⟩
theorem plainWalksF(x:zbc)(y:(List z0d))(hx:okT zbd x)(hy:okT ((.list z59):Ty) y):z94 N0 x y=some true:=
 @ydm yqd yh2 x y hx hy
end Ds
