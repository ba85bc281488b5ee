/- The fixed examples. -/
import Derived.Test.YtljffhpbdmkplaaGreatDsPure
import Derived.Test.YtljffhpbdmkplaaGreatDvF
import Derived.Test.YtljffhpbdmkplaaGreatDvD
import Derived.Test.YtljffhpbdmkplaaGreatDsD
set_option linter.all false
open List renaming Perm->cm,length->ap,mem_cons->am,pairwise_cons->aI
namespace Ds
open Go Go.Dv
set_option maxRecDepth 100000
abbrev N0:Nat:=1000000000000000000000000000000000000000000000000000000000000
def insI(x:Int):List Int->List Int
 | []=>[x]
 | y::l=>bif decide (x<=y)then x::y::l else y::insI x l
def y9o:List Int->List Int
 | []=>[]
 | x::l=>insI x (y9o l)
theorem zxx(x:Int):∀l,(insI x l).Perm (x::l)
 | []=>cm.refl _
 | y::l=>by
  simp only[insI]
  cases decide (x<=y)
  ·exact((zxx x l).cons y).trans (cm.swap x y l)
  ·exact cm.refl _
theorem y2r:∀l,(y9o l).Perm l
 | []=>cm.refl _
 | x::l=>(zxx x (y9o l)).trans ((y2r l).cons x)
theorem zyq(x:Int):∀l:List Int,l.Pairwise (·<=·)->(insI x l).Pairwise (·<=·)
 | [],_=>by simp[insI]
 | y::l,h=>by
  obtain⟨h1,h2⟩:=aI.1 h
  simp only[insI]
  cases e:decide (x<=y)
  ·have e:¬x<=y:=by simpa using e
   refine aI.2 ⟨fun z hz=> ?_,zyq x l h2⟩
   rcases am.1 ((zxx x l).mem_iff.1 hz)with rfl | hz
   ·omega
   ·exact h1 z hz
  ·have e:x<=y:=by simpa using e
   refine aI.2 ⟨fun z hz=> ?_,h⟩
   rcases am.1 hz with rfl | hz
   ·exact e
   ·have:=h1 z hz;omega
theorem zub:∀l:List Int,(y9o l).Pairwise (·<=·)
 | []=>List.Pairwise.nil
 | x::l=>zyq x _ (zub l)
theorem ydr(l:List Int):z7m l=y9o l:=by
 refine cm.eq_of_pairwise (le:=(·<=·)) (fun a b _ _ h1 h2=>by omega) ?_ (zub l) ((List.mergeSort_perm l _).trans (y2r l).symm)
 have:=List.pairwise_mergeSort (le:=fun x y:Int=>decide (x<=y)) (fun a b c x y=>by simp only[decide_eq_true_eq]at x y|-;omega) (fun a b=>by simp only[Bool.or_eq_true,decide_eq_true_eq];omega) l
 exact this.imp (fun h=>by simpa using h)
def ylx(N:Nat)(a0:(List Z7))(a1:(List Int)):Option ((List Int)):=
 match pool_visit_m__pool_Reach_c1 N a0 a1 ([]:List Int)with
 | some r1=>(match gd (Nat.blt (ap r1.2.2.1) 4611686018427387904) (some (y9o r1.2.2.1))with
 | some r2=>(some r2)
 | none=>none)
 | none=>none
theorem yhm:zb1=ylx:=by
 funext N a b
 unfold zb1 ylx z1g
 cases pool_visit_m__pool_Reach_c1 N a b ([]:List Int)with
 | none=>rfl
 | some r1=>
  simp only[ydr]
  cases Nat.blt (ap r1.2.2.1) 4611686018427387904<;>rfl
theorem yhi:zc7 N0=some true:=by
 unfold zc7 zb4
 rw[yhm]
 decide+kernel
end Ds
namespace Ds
open Go Go.Dv
@[reducible] def yra:Fuel:=⟨N0,by decide,by decide⟩
theorem plainRotF(x:zbd)(y:zbc)(hx:okT zbe x)(hy:okT ze5 y):zbr N0 x y=some true:=
 @yk8 yra yhi x y hx hy
end Ds
