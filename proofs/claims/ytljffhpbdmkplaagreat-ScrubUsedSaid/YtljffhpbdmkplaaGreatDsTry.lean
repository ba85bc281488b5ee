/- What point.try does: a call whose fault comes out as false. -/
import Derived.Test.YtljffhpbdmkplaaGreatProg
import Derived.Tactics
import Derived.Tactics2
import Derived.Defers
import Derived.Recover
import Derived.Laws.Pointers
import Derived.WideLaws
import Derived.WalkLawsBesides
import Derived.Laws.NewBlocks
import Derived.KernelRfl
set_option linter.all false
open Array renaming replicate->br
namespace Go.Proofs.YtljffhpbdmkplaaGreat
open Go
set_option maxRecDepth 100000
theorem x4l(pv:Value)(w:World):(Instr.typeAssert (.iface 193 pv) 20 193 true).run Tryz.prog w= .ok (.tuple #[pv, .bool true]) w:=by simp[Instr.typeAssert,go_sem]
theorem x0x(pv:Value)(w:World):(binOp .neq 20 (.iface 193 pv) .nilIface).run Tryz.prog w= .ok (.bool true) w:=run_neq_held_nil w 20 193 pv (by kernel_rfl)
theorem ywv(w:World):(binOp .neq 20 .nilIface .nilIface).run Tryz.prog w= .ok (.bool false) w:=run_neq_nil_nil w 20 (by kernel_rfl)
theorem yv4(n:Nat)(x:Value)(w:World)(hc:w.cell? ⟨n,0,none⟩=some x)(hz:w.frozen? ⟨n,0,none⟩=false)(hb:n<w.heap.size):
  CallsD Tryz.prog 95 #[.pointer (some ⟨n,0,none⟩)] (.panicking [{v:= .iface 193 (.agg #[]),recovered:=false}]) w fun e u' w'=>
   e= .returned (.tuple #[])/\u'= .panicking [{v:= .iface 193 (.agg #[]),recovered:=true}]/\w'=(w.setCell ⟨n,0,none⟩ (.bool false)).alloc (.cells #[] 193):=by
 refine callsD_of_wpS Tryz.func95 rfl fun c₀ cs hu=> ?_;rw[Tryz.ntmps95,show(#[Value.pointer (some ⟨n,0,none⟩)]++br (15- #[Value.pointer (some ⟨n,0,none⟩)].size) undef)= #[.pointer (some ⟨n,0,none⟩),undef,undef,undef,undef,undef,undef,undef,undef,undef,undef,undef,undef,undef,undef]from rfl];apply wpS_seq;apply wpS_region;simp[wpOpsS,go_sem,recoverD,hu,Exit.thenS];refine wpS_of_wp ?_;have hta:=x4l (.agg #[]);have hne:=x0x (.agg #[]);have hc1:(w.alloc (.cells #[] 193)).cell? ⟨n,0,none⟩=some x:=(World.cell?_alloc_past (hn:=hb) (w:=w) ..).trans hc;have hz1:(w.alloc (.cells #[] 193)).frozen? ⟨n,0,none⟩=false:=(World.frozen?_alloc_past (hn:=hb) (w:=w) ..).trans hz
 go_wp2
 cases c₀;simp_all [bodyPostS,results,Tryz.results95]
theorem yqg(n:Nat)(w:World):
  CallsD Tryz.prog 95 #[.pointer (some ⟨n,0,none⟩)] .returning w fun e u' w'=>e= .returned (.tuple #[])/\u'= .returning/\w'=w:=by
 refine callsD_of_wpS Tryz.func95 rfl fun c₀ cs hu=> ?_;rw[Tryz.ntmps95,show(#[Value.pointer (some ⟨n,0,none⟩)]++br (15- #[Value.pointer (some ⟨n,0,none⟩)].size) undef)= #[.pointer (some ⟨n,0,none⟩),undef,undef,undef,undef,undef,undef,undef,undef,undef,undef,undef,undef,undef,undef]from rfl];apply wpS_seq;apply wpS_region;simp[wpOpsS,go_sem,recoverD,hu,Exit.thenS];refine wpS_of_wp ?_;have hne:=ywv
 go_wp2
 cases c₀;simp_all [bodyPostS,results,Tryz.results95]
theorem ytp(g:Nat)(us vs:Array Value)(w:World)(post:Ending->World->Prop)
  (h1:∀(w':World) (args:Array Value),(callFunc g args).run Tryz.prog w'= .ok (.enter g args) w')
  (h2:Calls Tryz.prog g (us++vs) (w.alloc (.cells #[.bool false] 4)) post)
  (h3:∀e w',post e w'->((∃v,e= .returned v)\/e= .panicked [{v:= .iface 193 (.agg #[]),recovered:=false}])/\w'.cell? ⟨w.heap.size,0,none⟩=some (.bool false)/\w'.frozen? ⟨w.heap.size,0,none⟩=false/\w.heap.size<w'.heap.size):
  Calls Tryz.prog 53 #[.func (.func g) us vs] w fun e w'=>∃e0 w0,post e0 w0/\
   ((∃v,e0= .returned v)/\e= .returned (.bool true)/\w'=w0.setCell ⟨w.heap.size,0,none⟩ (.bool true)\/
    e0= .panicked [{v:= .iface 193 (.agg #[]),recovered:=false}]/\e= .returned (.bool false)/\w'=(w0.setCell ⟨w.heap.size,0,none⟩ (.bool false)).alloc (.cells #[] 193)):=by
 have hmf:∀(fn:Fn) (first cap:Array Value) (w:World),(Instr.makeFunc fn first cap).run Tryz.prog w= .ok (.func fn first cap) w:=fun _ _ _ _=>rfl
 go_enter_defers Tryz.func53,Tryz.ntmps53
 go_wp2
 refine h2.mono ?_;intro e w0 hp;obtain⟨h4,hc,hz,hs⟩:=h3 e w0 hp;rcases h4 with⟨v,rfl⟩ | rfl
 ·go_wp2
  refine leaves_cons (f:=95) (args:= #[.pointer (some ⟨w.heap.size,0,none⟩)]) (by simp) (by simp[go_sem]) ?_;refine(yqg w.heap.size _).mono ?_;rintro e u' w'' ⟨rfl,rfl,rfl⟩;simp[Leaves,settle,results,Tryz.results53,go_sem,hc];exact⟨_,_,hp,⟨v,rfl⟩,rfl⟩
 ·refine leaves_cons (f:=95) (args:= #[.pointer (some ⟨w.heap.size,0,none⟩)]) (by simp) (by simp[go_sem]) ?_;refine(yv4 w.heap.size _ _ hc hz hs).mono ?_;rintro e u' w'' ⟨rfl,rfl,rfl⟩;have hc2:((w0.setCell ⟨w.heap.size,0,none⟩ (.bool false)).alloc (.cells #[] 193)).cell? ⟨w.heap.size,0,none⟩=some (.bool false):=by
   rw[World.cell?_alloc_past (hn:=by simpa using hs)];simp[go_sem,hc]
  simp[Leaves,settle,results,Tryz.results53,go_sem,hc2];exact⟨_,_,hp,rfl,rfl⟩
end Go.Proofs.YtljffhpbdmkplaaGreat
