/- The fixed examples. -/
import Derived.Test.YtljffhpbdmkplaaGreatDsPure
import Derived.Test.YtljffhpbdmkplaaGreatDvF
import Derived.Test.YtljffhpbdmkplaaGreatDvD
import Derived.Test.YtljffhpbdmkplaaGreatDsD
set_option linter.all false
namespace Ds
open Go Go.Dv
set_option maxRecDepth 100000
abbrev N0:Nat:=1000000000000000000000000000000000000000000000000000000000000
def insI(x:Int):List Int->List Int
 | []=>[x]
 | y::l=>bif decide (x<=y)then x::y::l else y::insI x l
def y7v:List Int->List Int
 | []=>[]
 | x::l=>insI x (y7v l)
theorem zwo(x:Int):∀l,(insI x l).Perm (x::l)
 | []=>List.Perm.refl _
 | y::l=>by
  simp only[insI]
  cases decide (x<=y)
  ·exact((zwo x l).cons y).trans (List.Perm.swap x y l)
  ·exact List.Perm.refl _
theorem y1a:∀l,(y7v l).Perm l
 | []=>List.Perm.refl _
 | x::l=>(zwo x (y7v l)).trans ((y1a l).cons x)
theorem zxe(x:Int):∀l:List Int,l.Pairwise (·<=·)->(insI x l).Pairwise (·<=·)
 | [],_=>by simp[insI]
 | y::l,h=>by
  obtain⟨h1,h2⟩:=List.pairwise_cons.1 h
  simp only[insI]
  cases e:decide (x<=y)
  ·have e:¬x<=y:=by simpa using e
   refine List.pairwise_cons.2 ⟨fun z hz=> ?_,zxe x l h2⟩
   rcases List.mem_cons.1 ((zwo x l).mem_iff.1 hz)with rfl | hz
   ·omega
   ·exact h1 z hz
  ·have e:x<=y:=by simpa using e
   refine List.pairwise_cons.2 ⟨fun z hz=> ?_,h⟩
   rcases List.mem_cons.1 hz with rfl | hz
   ·exact e
   ·have:=h1 z hz;omega
theorem zt4:∀l:List Int,(y7v l).Pairwise (·<=·)
 | []=>List.Pairwise.nil
 | x::l=>zxe x _ (zt4 l)
theorem ybu(l:List Int):z72 l=y7v l:=by
 refine List.Perm.eq_of_pairwise (le:=(·<=·)) (fun a b _ _ h1 h2=>by omega) ?_ (zt4 l) ((List.mergeSort_perm l _).trans (y1a l).symm)
 have:=List.pairwise_mergeSort (le:=fun x y:Int=>decide (x<=y)) (fun a b c x y=>by simp only[decide_eq_true_eq]at x y⊢;omega) (fun a b=>by simp only[Bool.or_eq_true,decide_eq_true_eq];omega) l
 exact this.imp (fun h=>by simpa using h)
def yjn(N:Nat)(a0:(List Z6))(a1:(List Int)):Option ((List Int)):=
 match pool_visit_m__pool_Reach_c1 N a0 a1 ([]:List Int)with
 | some r1=>(match gd (Nat.blt (List.length r1.2.2.1) 4611686018427387904) (some (y7v r1.2.2.1))with
 | some r2=>(some r2)
 | none=>none)
 | none=>none
theorem yfj:za7=yjn:=by
 funext N a b
 unfold za7 yjn z13
 cases pool_visit_m__pool_Reach_c1 N a b ([]:List Int)with
 | none=>rfl
 | some r1=>
  simp only[ybu]
  cases Nat.blt (List.length r1.2.2.1) 4611686018427387904<;>rfl
theorem yff:zba N0=some true:=by
 unfold zba zaa
 rw[yfj]
 decide+kernel
end Ds
namespace Ds
open Go Go.Dv
@[reducible] def yop:Fuel:=⟨N0,by decide,by decide⟩
theorem yg5{n:Int}(h:(Lit.int .i16 n).wf=true): -32768<=n∧n<32768:=by
 simp[Lit.wf,IntKind.min,IntKind.max,IntKind.signed,IntKind.bits]at h
 omega
theorem plainRefusesF(x:zah)(n:Int)(hx:okT zai x)(hn:(Lit.int .i16 n).wf=true):z5o N0 x n=some true:=
 @y6k yop yff x n hx (yg5 hn)
end Ds
