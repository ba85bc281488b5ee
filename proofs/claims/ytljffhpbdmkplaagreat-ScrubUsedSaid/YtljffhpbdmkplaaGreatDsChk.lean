/- Printed by a program of the session's: what the program's functions compute, and that they do. -/
import Derived.Test.YtljffhpbdmkplaaGreatDsPure
import Derived.Test.YtljffhpbdmkplaaGreatDsTry
import Derived.Test.YtljffhpbdmkplaaGreatProg
import Derived.KernelRfl
set_option linter.all false
open Nat renaming beq->ax
namespace Go.Proofs.YtljffhpbdmkplaaGreat
open Go Go.Dv Ds
set_option maxRecDepth 100000
noncomputable section
open Tryz
abbrev jI:Sh:= .int .i64
abbrev jR:RS:= .int .i64
abbrev jZ:AV:= .int .i64 0
abbrev jT:Ty:= .int .i64
abbrev PG:=Tryz.prog
abbrev Sh0_:Sh:=(.cons (.int .i64) (.cons (.int .i64) (.cons (.list (.list (.int .u8))) (.cons (.list Q6) (.cons (.list .bool) (.cons (.list (.int .i64)) (.cons (.int .i64) (.cons (.int .i64) (.cons (.int .i64) (.cons (.int .i64) (.cons (.list (.int .i64)) (.cons (.list (.int .u64)) (.list (.int .i64))))))))))))))
abbrev Sh1_:Sh:=(.cons (.int .i64) (.cons (.list (.list (.int .u8))) (.cons (.list Q6) (.cons (.list .bool) (.cons (.list (.int .i64)) (.cons (.int .i64) (.cons (.int .i64) (.cons (.int .i64) (.cons (.int .i64) (.cons (.own 2000001) (.cons (.own 2000002) (.list (.int .i64)))))))))))))
abbrev Sh2_:Sh:=(.cons (.int .i64) (.cons (.list (.list (.int .u8))) (.cons (.list Q6) (.cons (.list .bool) (.cons (.list (.int .i64)) (.cons (.int .i64) (.cons (.int .i64) (.cons (.int .i64) (.cons (.int .i64) (.cons (.own 5000001) (.cons (.own 5000002) (.own 5000003))))))))))))
abbrev Sh3_:Sh:=(.cons (.int .i64) (.cons (.list (.list (.int .u8))) (.cons (.list Q6) (.cons (.list .bool) (.cons (.list (.int .i64)) (.cons (.int .i64) (.cons (.int .i64) (.cons (.int .i64) (.cons (.int .i64) (.cons (.own 2000002) (.cons (.own 2000003) (.own 2000004))))))))))))
abbrev Sh4_:Sh:=(.cons (.int .i64) (.cons (.list (.list (.int .u8))) (.cons (.list Q6) (.cons (.list .bool) (.cons (.list (.int .i64)) (.cons (.int .i64) (.cons (.int .i64) (.cons (.int .i64) (.cons (.int .i64) (.cons (.own 2000002) (.cons (.own 2000003) (.list (.int .i64)))))))))))))
abbrev Sh5_:Sh:=(.cons (.int .i64) (.cons (.list (.list (.int .u8))) (.cons (.list Q6) (.cons (.list .bool) (.cons (.list (.int .i64)) (.cons (.int .i64) (.cons (.int .i64) (.cons (.int .i64) (.cons (.int .i64) (.cons (.own 2000001) (.cons (.own 2000002) (.own 2000003))))))))))))
abbrev Sh6_:Sh:=(.cons (.ptr 5000000 0) (.cons (.ptr 5000001 0) (.cons (.ptr 5000003 0) (.cons (.ptr 5000004 0) (.ptr 5000005 0)))))
abbrev Sh7_:Sh:=(.cons (.ptr 5000001 0) (.cons (.ptr 5000002 0) (.ptr 5000004 0)))
abbrev Sh8_:Sh:=(.cons (.int .i64) (.cons (.list (.list (.int .u8))) (.cons (.list Q6) (.cons (.list .bool) (.cons (.list (.int .i64)) (.cons (.int .i64) (.cons (.int .i64) (.cons (.int .i64) (.cons (.int .i64) (.cons (.own 5000000) (.cons (.own 5000001) (.list (.int .i64)))))))))))))
abbrev Sh9_:Sh:=(.cons (.int .i64) (.cons (.list (.list (.int .u8))) (.cons (.list Q6) (.cons (.list .bool) (.cons (.list (.int .i64)) (.cons (.int .i64) (.cons (.int .i64) (.cons (.int .i64) (.cons (.int .i64) (.cons (.own 2000003) (.cons (.own 2000004) (.list (.int .i64)))))))))))))
abbrev yqt:Sh:=(.cons (.list (.int .i64)) (.cons (.own 2000004) Sh0_))
abbrev x3z:Sh:=(.cons (.list Y6) (.cons (.int .i64) (.cons (.int .i64) (.cons (.int .i64) (.cons (.own 2000004) (.cons (.int .i64) (.cons (.int .i64) (.cons (.int .i64) (.list Z5)))))))))
abbrev yl7:Sh:=(.cons (.ptr 5000001 0) (.ptr 5000002 0))
abbrev yvy:Sh:=(.cons (.list (.int .i64)) (.cons (.own 2000003) Sh0_))
abbrev x3y:Sh:=(.cons (.own 2000001) (.cons (.own 2000002) (.cons (.own 2000003) (.cons (.own 2000004) (.cons (.own 2000005) (.cons .str (.cons .str (.int .i64))))))))
abbrev x04:Sh:=(.cons (.own 2000002) (.cons (.own 2000003) (.own 2000004)))
abbrev x03:Sh:=(.cons (.own 2000002) (.cons (.own 2000003) (.int .i64)))
instance :LTab:=⟨fun i=>bif ax i 0 then⟨#[27,28],[5,8],cA (z9x f40) 500,cA (z9x f40) 501,66⟩else bif ax i 1 then⟨#[15,16],[3,4,5],cA (z9x f97) 116,cA (z9x f97) 117,33⟩else bif ax i 2 then⟨#[7],[2],cA (z9x f157) 52,cA (z9x f157) 53,13⟩else⟨#[],[], .skip, .skip,0⟩,193⟩
theorem x5j:x02 PG 53:=⟨4,193,fun g us vs w post h1 h2 h3=>ytp g us vs w post h1 h2 h3⟩
def tyRows:List (Nat×TI):=[
 (3,⟨.int .i64,1,8,[.int .i64],some (.int .i64)⟩),
 (4,⟨.bool,1,1,[.bool],some .bool⟩),
 (5,⟨.int .u8,1,1,[.int .u8],some (.int .u8)⟩),
 (9,⟨.str,1,16,[.str],some .str⟩),
 (22,⟨.slice 85,1,24,[.slice],some (.list w5)⟩),
 (23,⟨.arr 3 5,3,3,[.int .u8, .int .u8, .int .u8],some y14⟩),
 (25,⟨.struct [(0,5),(1,22),(2,23)],5,40,[.int .u8, .slice, .int .u8, .int .u8, .int .u8],some zee⟩),
 (27,⟨.slice 3,1,24,[.slice],some (.list (.int .i64))⟩),
 (29,⟨.struct [(0,27),(1,27),(2,3)],3,56,[.slice, .slice, .int .i64],some z15⟩),
 (31,⟨.slice 71,1,24,[.slice],some (.list (.list (.int .u8)))⟩),
 (32,⟨.slice 122,1,24,[.slice],some (.list Q6)⟩),
 (34,⟨.struct [(0,3),(1,31),(2,32)],3,56,[.int .i64, .slice, .slice],some K0⟩),
 (35,⟨.slice 4,1,24,[.slice],some (.list .bool)⟩),
 (37,⟨.struct [(0,35),(1,27),(2,3)],3,56,[.slice, .slice, .int .i64],some V1⟩),
 (38,⟨.slice 103,1,24,[.slice],some (.list (.int .u64))⟩),
 (40,⟨.struct [(0,34),(3,37),(6,3),(7,3),(8,3),(9,27),(10,38),(11,27)],12,208,[.int .i64, .slice, .slice, .slice, .slice, .int .i64, .int .i64, .int .i64, .int .i64, .slice, .slice, .slice],some Y1⟩),
 (41,⟨.slice 101,1,24,[.slice],some (.list Y6)⟩),
 (43,⟨.struct [(0,41)],1,24,[.slice],some (.list Y6)⟩),
 (45,⟨.struct [(0,3),(1,3),(2,3)],3,24,[.int .i64, .int .i64, .int .i64],some z59⟩),
 (46,⟨.slice 116,1,24,[.slice],some (.list z7p)⟩),
 (47,⟨.slice 159,1,24,[.slice],some (.list Z5)⟩),
 (49,⟨.struct [(0,43),(1,45),(4,46),(5,3),(6,3),(7,3),(8,47)],9,120,[.slice, .int .i64, .int .i64, .int .i64, .slice, .int .i64, .int .i64, .int .i64, .slice],some Z9⟩),
 (50,⟨.int .i64,1,8,[.int .i64],some (.int .i64)⟩),
 (52,⟨.struct [(0,40),(12,49),(21,50)],22,336,[.int .i64, .slice, .slice, .slice, .slice, .int .i64, .int .i64, .int .i64, .int .i64, .slice, .slice, .slice, .slice, .int .i64, .int .i64, .int .i64, .slice, .int .i64, .int .i64, .int .i64, .slice, .int .i64],some z8j⟩),
 (57,⟨.int .u16,1,2,[.int .u16],some (.int .u16)⟩),
 (59,⟨.struct [(0,5),(1,57),(2,5)],3,6,[.int .u8, .int .u16, .int .u8],some y9c⟩),
 (63,⟨.struct [(0,29),(3,50)],4,64,[.slice, .slice, .int .i64, .int .i64],some y44⟩),
 (71,⟨.slice 5,1,24,[.slice],some (.list (.int .u8))⟩),
 (83,⟨.slice 187,1,24,[.slice],some (.list z14)⟩),
 (85,⟨.struct [(0,5),(1,5),(2,83)],3,32,[.int .u8, .int .u8, .slice],some w5⟩),
 (95,⟨.slice 257,1,24,[.slice],some (.list Y3)⟩),
 (96,⟨.slice 9,1,24,[.slice],some (.list .str)⟩),
 (97,⟨.slice 262,1,24,[.slice],some (.list y0)⟩),
 (99,⟨.struct [(0,95),(1,96),(2,27),(3,97),(4,47)],5,120,[.slice, .slice, .slice, .slice, .slice],some Y0⟩),
 (101,⟨.struct [(0,4),(1,4),(2,3),(3,99)],8,136,[.bool, .bool, .int .i64, .slice, .slice, .slice, .slice, .slice],some Y6⟩),
 (103,⟨.int .u64,1,8,[.int .u64],some (.int .u64)⟩),
 (109,⟨.struct [(0,40),(12,50)],13,216,[.int .i64, .slice, .slice, .slice, .slice, .int .i64, .int .i64, .int .i64, .int .i64, .slice, .slice, .slice, .int .i64],some zie⟩),
 (114,⟨.struct [(0,3),(1,3),(2,5)],3,24,[.int .i64, .int .i64, .int .u8],some y43⟩),
 (116,⟨.struct [(0,3),(1,3),(2,3),(3,9),(4,47)],5,64,[.int .i64, .int .i64, .int .i64, .str, .slice],some z7p⟩),
 (122,⟨.struct [(0,4),(1,3),(2,71)],3,40,[.bool, .int .i64, .slice],some Q6⟩),
 (129,⟨.struct [(0,49),(9,3),(10,50)],11,136,[.slice, .int .i64, .int .i64, .int .i64, .slice, .int .i64, .int .i64, .int .i64, .slice, .int .i64, .int .i64],some zjm⟩),
 (157,⟨.struct [(0,9),(1,9)],2,32,[.str, .str],some Z2⟩),
 (159,⟨.struct [(0,3),(1,9),(2,9),(3,157),(5,9),(6,9),(7,3)],8,112,[.int .i64, .str, .str, .str, .str, .str, .str, .int .i64],some Z5⟩),
 (165,⟨.func,1,8,[.func],none⟩),
 (167,⟨.ptr,1,8,[.ptr],none⟩),
 (169,⟨.struct [(0,29),(3,40)],15,264,[.slice, .slice, .int .i64, .int .i64, .slice, .slice, .slice, .slice, .int .i64, .int .i64, .int .i64, .int .i64, .slice, .slice, .slice],some yjk⟩),
 (176,⟨.struct [(0,43),(1,3),(2,45)],5,56,[.slice, .int .i64, .int .i64, .int .i64, .int .i64],some W9⟩),
 (181,⟨.struct [(0,176),(5,3),(6,50)],7,72,[.slice, .int .i64, .int .i64, .int .i64, .int .i64, .int .i64, .int .i64],some zau⟩),
 (187,⟨.arr 6 5,6,6,[.int .u8, .int .u8, .int .u8, .int .u8, .int .u8, .int .u8],some z14⟩),
 (193,⟨.struct [],0,0,[],none⟩),
 (199,⟨.struct [(0,71)],1,24,[.slice],some (.list (.int .u8))⟩),
 (240,⟨.int .u64,1,8,[.int .u64],some (.int .u64)⟩),
 (244,⟨.struct [(0,43),(1,3),(2,50)],3,40,[.slice, .int .i64, .int .i64],some zqk⟩),
 (247,⟨.slice 157,1,24,[.slice],some (.list Z2)⟩),
 (249,⟨.struct [(0,47),(1,247)],2,48,[.slice, .slice],some zv8⟩),
 (257,⟨.struct [(0,9),(1,9),(2,3)],3,40,[.str, .str, .int .i64],some Y3⟩),
 (260,⟨.struct [(0,3),(1,3)],2,16,[.int .i64, .int .i64],some z5a⟩),
 (262,⟨.struct [(0,260),(2,260)],4,32,[.int .i64, .int .i64, .int .i64, .int .i64],some y0⟩),
 (291,⟨.func,1,8,[.func],none⟩),
 (300,⟨.struct [(0,37),(3,3),(4,50)],5,72,[.slice, .slice, .int .i64, .int .i64, .int .i64],some zqh⟩),
 (318,⟨.struct [(0,27),(1,4)],2,32,[.slice, .bool],some zle⟩),
 (333,⟨.struct [(0,71)],1,24,[.slice],some (.list (.int .u8))⟩),
 (335,⟨.iface,1,16,[.iface],none⟩),
 (346,⟨.arr 4 3,4,32,[.int .i64, .int .i64, .int .i64, .int .i64],some yp0⟩),
 (356,⟨.struct [(0,99),(5,157),(7,50)],8,160,[.slice, .slice, .slice, .slice, .slice, .str, .str, .int .i64],some zsb⟩),
 (360,⟨.slice 99,1,24,[.slice],some (.list Y0)⟩),
 (362,⟨.struct [(0,360),(1,96),(2,47)],3,72,[.slice, .slice, .slice],some zqj⟩),
 (365,⟨.struct [(0,360),(1,96),(2,47)],3,72,[.slice, .slice, .slice],some zj0⟩),
 (368,⟨.struct [(0,176),(5,3),(6,50)],7,72,[.slice, .int .i64, .int .i64, .int .i64, .int .i64, .int .i64, .int .i64],some z9r⟩),
 (374,⟨.slice 260,1,24,[.slice],some (.list z5a)⟩),
 (380,⟨.struct [(0,3),(1,9),(2,9),(3,157),(5,9),(6,9),(7,3)],8,112,[.int .i64, .str, .str, .str, .str, .str, .str, .int .i64],some Z5⟩),
 (381,⟨.struct [(0,3),(1,9),(2,9),(3,157),(5,9),(6,9),(7,3)],8,112,[.int .i64, .str, .str, .str, .str, .str, .str, .int .i64],some Z5⟩),
 (382,⟨.struct [(0,3),(1,9),(2,9),(3,157),(5,9),(6,9),(7,3)],8,112,[.int .i64, .str, .str, .str, .str, .str, .str, .int .i64],some Z5⟩),
 (383,⟨.struct [(0,3),(1,9),(2,9),(3,157),(5,9),(6,9),(7,3)],8,112,[.int .i64, .str, .str, .str, .str, .str, .str, .int .i64],some Z5⟩),
 (384,⟨.struct [(0,3),(1,9),(2,9),(3,157),(5,9),(6,9),(7,3)],8,112,[.int .i64, .str, .str, .str, .str, .str, .str, .int .i64],some Z5⟩),
 (385,⟨.struct [(0,3),(1,9),(2,9),(3,157),(5,9),(6,9),(7,3)],8,112,[.int .i64, .str, .str, .str, .str, .str, .str, .int .i64],some Z5⟩),
 (399,⟨.struct [(0,3),(1,3)],2,16,[.int .i64, .int .i64],some zn7⟩),
 (406,⟨.slice 95,1,24,[.slice],some (.list (.list Y3))⟩),
 (410,⟨.struct [(0,47),(1,47),(2,247)],3,72,[.slice, .slice, .slice],some zvp⟩),
 (415,⟨.struct [(0,43),(1,27),(2,50)],3,56,[.slice, .slice, .int .i64],some zqi⟩),
 (433,⟨.struct [(0,9),(1,3),(2,3),(3,9)],4,48,[.str, .int .i64, .int .i64, .str],some z3q⟩)]
theorem zws:(tyRows.all fun r=>tiOk PG r.1 r.2)=true:=by kernel_rfl
theorem mixed:PG.follows .mixedOrders=true:=by kernel_rfl
def eqRows:List (Nat×List Nat):=[(159,[0,2,2,2,2,2,2,0])]
theorem yur:(eqRows.all fun r=>eqB PG r.1 r.2)=true:=by kernel_rfl
def ynl:List (Nat×String×Nat):=[(380, "downspout/msg.bare",348),(380, "downspout/msg.reads",349),(380, "downspout/msg.valid",350),(380, "downspout/msg.write",351),(380, "downspout/msg.writes",352),(381, "downspout/msg.bare",357),(381, "downspout/msg.reads",358),(381, "downspout/msg.valid",359),(381, "downspout/msg.write",360),(381, "downspout/msg.writes",361),(382, "downspout/msg.bare",363),(382, "downspout/msg.reads",364),(382, "downspout/msg.valid",365),(382, "downspout/msg.write",366),(382, "downspout/msg.writes",367),(383, "downspout/msg.bare",370),(383, "downspout/msg.reads",371),(383, "downspout/msg.valid",372),(383, "downspout/msg.write",373),(383, "downspout/msg.writes",374),(384, "downspout/msg.bare",380),(384, "downspout/msg.reads",381),(384, "downspout/msg.valid",382),(384, "downspout/msg.write",383),(384, "downspout/msg.writes",384),(385, "downspout/msg.bare",386),(385, "downspout/msg.reads",387),(385, "downspout/msg.valid",388),(385, "downspout/msg.write",389),(385, "downspout/msg.writes",390)]
theorem ylt:yl8 PG ynl:=⟨fun v w=>by kernel_rfl,⟨fun v w=>by kernel_rfl,⟨fun v w=>by kernel_rfl,⟨fun v w=>by kernel_rfl,⟨fun v w=>by kernel_rfl,⟨fun v w=>by kernel_rfl,⟨fun v w=>by kernel_rfl,⟨fun v w=>by kernel_rfl,⟨fun v w=>by kernel_rfl,⟨fun v w=>by kernel_rfl,⟨fun v w=>by kernel_rfl,⟨fun v w=>by kernel_rfl,⟨fun v w=>by kernel_rfl,⟨fun v w=>by kernel_rfl,⟨fun v w=>by kernel_rfl,⟨fun v w=>by kernel_rfl,⟨fun v w=>by kernel_rfl,⟨fun v w=>by kernel_rfl,⟨fun v w=>by kernel_rfl,⟨fun v w=>by kernel_rfl,⟨fun v w=>by kernel_rfl,⟨fun v w=>by kernel_rfl,⟨fun v w=>by kernel_rfl,⟨fun v w=>by kernel_rfl,⟨fun v w=>by kernel_rfl,⟨fun v w=>by kernel_rfl,⟨fun v w=>by kernel_rfl,⟨fun v w=>by kernel_rfl,⟨fun v w=>by kernel_rfl,⟨fun v w=>by kernel_rfl,trivial⟩⟩⟩⟩⟩⟩⟩⟩⟩⟩⟩⟩⟩⟩⟩⟩⟩⟩⟩⟩⟩⟩⟩⟩⟩⟩⟩⟩⟩⟩
def E0(st:List (Nat×List Nat))(pre:List Nat)(tc:List (SC PG))(tm:List (SM PG):=[])(tr:List (SR PG):=[])(tw:List (SW PG):=[]):SE PG:=
 ⟨x37 tyRows eqRows ynl st pre (tabC tc) (tabM tm) (tabR tr) (tabW tw),yww zws yur ylt (yro tc) (yrn tm) (yrm tr) (yrl tw),mixed⟩
abbrev E1:=E0 [] [] []
abbrev Cu0_:Cut:=cu [.v 4 .bool]
abbrev Cu1_:Cut:=cu [.v 0 (.list Y3),.b 3 Y3,.s 5 Y3,.v 6 .bool,.v 7 jI]
abbrev Cu2_:Cut:=cu [.v 0 (.list Y3),.v 1 (.list Z2),.s 5 Y3,.v 6 jI]
abbrev Cu3_:Cut:=cu [.v 1 jI,.b 2 V1,.z 4 [.nils,.nils,jZ]]
abbrev Cu4_:Cut:=cu [.b 2 Y0,.b 3 Z2]
abbrev Cu5_:Cut:=cu [.v 0 (.list .str),.b 3 Z2,.v 5 jI]
abbrev Cu6_:Cut:=cu [.v 2 .bool]
abbrev Cu7_:Cut:=cu [.s 5 (.int .u8)]
abbrev Cu8_:Cut:=cu [.b 6 W9,.v 7 jI]
abbrev Cu9_:Cut:=cu [.b 2 Z9,.b 3 w5,.z 4 [.nils,jZ,jZ,jZ,.nils,jZ,jZ,jZ,.nils]]
abbrev x4d:Cut:=cu [.b 1 Y0,.s 6 (.int .u8),.v 77 (.list y0),.v 78 jI,.v 79 jI]
abbrev zif:Cut:=cu []
abbrev yqx:Cut:=cu [.s 3 (.int .u8)]
abbrev x07:Cut:=cu [.b 1 Y0,.s 5 (.int .u8)]
abbrev x06:Cut:=cu [.b 1 Y0,.s 6 (.int .u8)]
abbrev x4c:Cut:=cu [.v 0 (.list Z2),.v 1 (.list Z2),.v 5 jI]
abbrev yw2:Cut:=cu [.s 5 Y3]
abbrev yl9:Cut:=cu [.v 4 jI]
abbrev x4b:Cut:=cu [.v 0 (.list Y0),.s 3 y0,.v 4 jI]
abbrev x4a:Cut:=cu [.b 4 Y1,.v 5 (.list jT),.v 6 .bool]
abbrev x49:Cut:=cu [.v 0 (.int .u64),.s 5 (.int .u8),.v 6 jI]
abbrev x48:Cut:=cu [.b 3 Z2,.s 5 Z2,.v 6 jI]
abbrev x47:Cut:=cu [.s 3 Z2,.s 4 Z2,.v 6 jI]
abbrev x46:Cut:=cu [.b 2 Y0,.b 3 Z2,.v 5 jI]
abbrev x45:Cut:=cu [.b 1 Y0,.s 5 (.int .u8),.v 8 jI]
abbrev yw1:Cut:=cu [.v 0 .bool]
abbrev x44:Cut:=cu [.v 0 jI,.v 1 jI,.z 4 [jZ,.nils,.nils]]
abbrev x43:Cut:=cu [.v 0 jI,.v 1 jI,.z 4 [.nils,.nils,jZ]]
abbrev x05:Cut:=cu [.s 0 (.int .u8)]
abbrev x42:Cut:=cu [.v 0 (.list Y3),.v 3 jI]
abbrev x41:Cut:=cu [.v 0 jI,.s 5 (.int .u8),.v 6 jI]
abbrev SLf(fn:Func):=SL PG fn.ntmps (z9x fn)
variable (N:Nat)
def ybj:SC PG:=fz E1 func69 [] (.val z59) .bool [] (zis N)
def zgi:SC PG:=fz E1 func66 [] (sq [.val (.list Y6),jI]) .bool [] (zbc N)
def zj3:SC PG:=fz E1 func151 [] (.val (.list Y6)) (.agg (.fresh Y6)) [] (zby N)
def zph:SE PG:=E0 [(J3,[2000002])] [] [zgi N,zj3 N]
def y9w:SLf f142:=lz N (zph N) [] 4090 ⟨[3,4,6,7,8],(sq [.ptr 2000000 0,.ptr 2000001 0,jI,.ptr 2000002 0,jI]),[(2000000,[3], .boxV Y0),(2000001,[4], .boxC [.nils,jZ,jZ]),(2000002,[7], .box (.own 2000003)),(2000003,[7,0], .sl Y6)],[]⟩ (7,⟨[4,6,7],(sq [.ptr 2000000 0,jI,.ptr 2000001 0]),[(2000000,[4], .boxC [.nils,jZ,jZ]),(2000001,[7], .box (.own 2000002)),(2000002,[7,0], .sl Y6)],[]⟩) [] (z7e N)
def y9x:SLf f142:=lz N (zph N) [] 60 ⟨[2,3,4,6],(sq [.ptr 2000000 0,.ptr 2000001 0,.ptr 2000002 0,jI]),[(2000000,[2], .box (.list Y6)),(2000001,[3], .boxV Y0),(2000002,[4], .boxC [.nils,jZ,jZ])],[]⟩ (5,⟨[2,3,4,6],(sq [.ptr 2000000 0,.ptr 2000001 0,.ptr 2000002 0,jI]),[(2000000,[2], .box (.list Y6)),(2000001,[3], .boxV Y0),(2000002,[4], .boxC [.nils,jZ,jZ])],[]⟩) [] (z7f N)
def y9y:SLf f142:=lz N (zph N) [] 26 ⟨[2,3,4,5],(sq [.ptr 2000000 0,.ptr 2000001 0,.ptr 2000002 0,jI]),[(2000000,[2], .box (.list Y6)),(2000001,[3], .boxV Y0),(2000002,[4], .boxC [.nils,jZ,jZ])],[]⟩ (1,(cu [.b 4 zqk])) [(3,⟨[2,3,4],(sq [.ptr 2000000 0,.ptr 2000001 0,.ptr 2000002 0]),[(2000000,[2], .box (.list Y6)),(2000001,[3], .boxV Y0),(2000002,[4], .boxC [.nils,jZ,jZ])],[]⟩)] (z7g N)
def zro:SC PG:=fz (zph N) func142 [y9y N,y9x N,y9w N] (sq [.val (.list Y6),.val Y0]) (.val zqk) [] (z8p N)
def yj7:SC PG:=fz (E0 [] [] [ybj N,zro N]) func125 [] (.val z59) (.tup (.cons (.val W9) jR)) [] (y7l N)
def y2y:SC PG:=fz (E0 [] [] [yj7 N]) func73 [] (.val z59) (.tup (.cons (.val Z9) jR)) [] (zr2 N)
def y3l:SE PG:=E0 [] [] []
def y5f:SLf f92:=lz N (y3l) [] 26 (cu [.v 1 jI,.b 2 Z9,.v 5 jI]) (1,yl9) [(3,zif)] (z5g N)
def zpq:SC PG:=fz (y3l) func92 [y5f N] (sq [.val Z9,jI]) jR [] (zgw N)
def yfr:SC PG:=fz (E0 [] [] [zpq N]) func85 [] (sq [.val Z9,jI]) (.tup (.cons (.val W9) jR)) [] (y0i N)
def yll:SC PG:=fz E1 func179 [] (sq [jI,jI,jI]) .bool [] (zob N)
def z6b:SC PG:=fz E1 func235 [] (.val Z2) .bool [] (z2b N)
def ygb:SC PG:=fz (E0 [] [] [z6b N]) func180 [] (.val Z2) .bool [] (znn N)
def zd5:SC PG:=fz E1 func149 [] (sq [.str,.str]) .bool [] (z1n N)
def zyl:SE PG:=E0 [] [] [yll N,ygb N,zd5 N]
def y22:SLf f120:=pz (zyl N) [] 7551 (cu [.b 1 Z5,.v 4 .bool,.v 14 jI,.v 66 .bool]) (1,Cu6_) [(0,zif)] (zar N)
def zmd:SC PG:=fz (zyl N) func120 [y22 N] (.val Z5) .bool [] (ze8 N)
def zkm:SC PG:=fz (E0 [] [] [zgi N]) func140 [] (sq [.val (.list Y6),jI]) (.tup (.cons (.val Y0) jR)) [] (zce N)
def zmr:SE PG:=E0 [] [] []
def zzn:SLf f202:=pz (zmr) [] 1865 Cu1_ (0,Cu1_) [] (z3r N)
def zzo:SLf f202:=lz N (zmr) [zzn N] 58 Cu1_ (3,(cu [.b 3 Y3,.s 5 Y3,.v 6 .bool])) [] (z36 N)
def yai:SC PG:=fz (zmr) func202 [zzo N] (sq [.list Y3,.val Y3]) (.fresh Y3) [] (zbz N)
def zkn:SC PG:=fz E1 func148 [] .str (.val Z2) [] (z8q N)
def zrp:SC PG:=fz E1 func204 [] (sq [.val Z2,.str]) .bool [] (zel N)
def ydl:SE PG:=E0 [] [] [zrp N]
def yb5:SLf f250:=lz N (ydl N) [] 26 (cu [.v 0 (.list Z2),.v 1 .str,.v 5 jI]) (1,Cu0_) [(3,zif)] (z89 N)
def y8h:SC PG:=fz (ydl N) func250 [yb5 N] (sq [.list Z2,.str]) .bool [] (zwd N)
def zta:SE PG:=E0 [] [] [y8h N]
def zvy:SLf f203:=lz N (zta N) [] 58 Cu2_ (3,yw2) [] (z24 N)
def y6n:SC PG:=fz (zta N) func203 [zvy N] (sq [.list Y3,.list Z2]) (.fresh Y3) [] (z7q N)
def zv5:SE PG:=E0 [] [] []
def zzq:SLf f146:=lz N (zv5) [] 28 (cu [.v 0 .str,.z 2 [.str [],.str []],.v 3 jI]) (3,(cu [.v 0 .str,.z 2 [.str [],.str []],.v 3 jI])) [] (z38 N)
def z1s:SC PG:=fz (zv5) func146 [zzq N] .str (.val Z2) [] (Q5 N)
def zv2:SE PG:=E0 [] [] [y8h N]
def zzl:SLf f205:=lz N (zv2 N) [] 58 Cu2_ (3,yw2) [] (z33 N)
def yag:SC PG:=fz (zv2 N) func205 [zzl N] (sq [.list Y3,.list Z2]) (.fresh Y3) [] (zl0 N)
def ybz:SC PG:=fz (E0 [] [] [zd5 N]) func206 [] (sq [.str,.str,.str]) (.tup (.cons .str .bool)) [] (zp7 N)
def zqb:SE PG:=E0 [] [] [yai N,zkn N,y6n N,zrp N,z1s N,yag N,ybz N]
def y26:SLf f141:=lz N (zqb N) [] 110570 (cu [.b 3 Z5,.s 5 Y3,.v 6 jI]) (4,yw2) [] (z48 N)
def y27:SLf f141:=lz N (zqb N) [] 250 (cu [.b 3 Z5,.s 7 Y3,.s 8 Y3,.v 9 jI]) (6,(cu [.s 7 Y3])) [] (z49 N)
def zum:SC PG:=fz (zqb N) func141 [y26 N,y27 N] (sq [.list Y3,.val Z5]) (.fresh Y3) [] (z58 N)
def y3q:SE PG:=E0 [(J3,[2000002]),(6,[2000003])] [] [zgi N,zj3 N]
def y5o:SLf f93:=lz N (y3q N) [] 60 ⟨[4,6,7],(sq [.ptr 2000000 0,.ptr 2000001 0,.list jT]),[(2000000,[4], .boxC [.nils]),(2000001,[6], .box (.own 2000002)),(2000002,[6,0], .sl Y6)],[17,56]⟩ (3,⟨[4,6],(sq [.ptr 2000000 0,.ptr 2000001 0]),[(2000000,[4], .boxC [.nils]),(2000001,[6], .box (.own 2000002)),(2000002,[6,0], .sl Y6)],[]⟩) [] (z5n N)
def zgj:SC PG:=fz (y3q N) func93 [y5o N] (sq [.val (.list Y6),jI]) (.tup (.cons (.val (.list Y6)) jR)) [] (z4k N)
def yj8:SC PG:=fz (E0 [(10,[34,45])] [] [zmd N,zkm N,zum N,zro N,zgj N]) func86 [] (sq [.val W9,.val Z5]) (.tup (.cons (.val W9) jR)) [] (zr4 N)
def zps:SC PG:=fz E1 func261 [] (sq [.str,.str]) .bool [] (zhl N)
def ygd:SC PG:=fz E1 func300 [] .nil (.val Z2) [] (zsz N)
def zck:SC PG:=fz (E0 [] [] [zps N,z6b N,ygd N]) func262 [] (sq [.val Z2,.val Z2]) (.val Z2) [] (z4m N)
def zyp:SE PG:=E0 [] [] [zck N]
def y2a:SLf f281:=lz N (zyp N) [] 58 (cu [.v 1 (.list .str),.b 2 Z2,.s 5 Z2,.v 6 .str,.v 7 jI]) (3,(cu [.b 2 Z2,.s 5 Z2,.v 6 .str])) [] (z4b N)
def zun:SC PG:=fz (zyp N) func281 [y2a N] (sq [.val Z2,.list .str]) (.fresh Z2) [] (ziv N)
def zug:SC PG:=fz (E0 [] [] [zun N]) func237 [] (sq [.val Y0,.val Z2]) (.fresh Z2) [] (zay N)
def zs2:SE PG:=E0 [(J3,[2000001,2000002,2000003,2000004,2000005])] [] [zkm N,zug N]
def y5i:SLf f251:=pz (zs2 N) [] 489 (cu [.v 1 (.list jT),.b 2 W9,.z 4 [.nils,.nils,.nils,.nils,.nils,.str [],.str [],jZ],.b 5 Y0,.b 7 Z2,.v 8 jI]) (1,⟨[4],(.ptr 2000000 0),[(2000000,[4], .box x3y),(2000001,[4,0], .sl Y3),(2000002,[4,1], .sl .str),(2000003,[4,2], .sl jT),(2000004,[4,3], .sl y0),(2000005,[4,4], .sl Z5)],[]⟩) [(0,(cu [.v 1 (.list jT),.b 2 W9,.z 4 [.nils,.nils,.nils,.nils,.nils,.str [],.str [],jZ],.b 5 Y0,.v 6 jI,.b 7 Z2,.v 8 jI]))] (zpv N)
def y5j:SLf f251:=lz N (zs2 N) [y5i N] 122 (cu [.v 1 (.list jT),.b 2 W9,.z 4 [.nils,.nils,.nils,.nils,.nils,.str [],.str [],jZ],.b 5 Y0,.v 6 jI,.b 7 Z2,.v 8 jI]) (1,⟨[4],(.ptr 2000000 0),[(2000000,[4], .box x3y),(2000001,[4,0], .sl Y3),(2000002,[4,1], .sl .str),(2000003,[4,2], .sl jT),(2000004,[4,3], .sl y0),(2000005,[4,4], .sl Z5)],[]⟩) [(3,(cu [.z 4 [.nils,.nils,.nils,.nils,.nils,.str [],.str [],jZ],.b 5 Y0,.v 6 jI,.b 7 Z2]))] (z5j N)
def zcj:SC PG:=fz (zs2 N) func251 [y5j N] (sq [.val W9,.list jT]) (.val zsb) [] (zbb N)
def yg5:SC PG:=fz E1 func252 [] (sq [.val Y0,.val z59]) .bool [] (zsv N)
def y6j:SC PG:=fz (E0 [(J3,[12])] [] []) func253 [] (sq [.list jT,jI]) (.list jT) [] (zgz N)
def z8d(self:Y4->(List Int)->Bool->Option (y8)):Ctr:=znz (sq [.val W9,.list jT,.bool]) (.val zle) [] (Sh.c (sq [.val W9,.list jT,.bool])|>.ap self)
def zye(self:Y4->(List Int)->Bool->Option (y8))(hs:z77 PG 207 fun xs=>(z8d self).run xs some):SE PG:=E0 [] [] [⟨207,z8d self,hs⟩,zcj N,yg5 N,y6j N]
def y1i(self:Y4->(List Int)->Bool->Option (y8))(hs:z77 PG 207 fun xs=>(z8d self).run xs some):SLf f207:=lz N (zye N self hs) [] 250 (cu [.v 1 (.list jT),.v 2 .bool,.b 3 W9,.z 6 [.nils,.bool false],.b 7 zsb,.v 8 jI]) (1,(cu [.b 6 zle])) [(3,(cu [.z 6 [.nils,.bool false]]))] (z3z N self)
def yc5(self:Y4->(List Int)->Bool->Option (y8))(hs:z77 PG 207 fun xs=>(z8d self).run xs some):SC PG:=fz (zye N self hs) func207 [y1i N self hs] (sq [.val W9,.list jT,.bool]) (.val zle) [] (z88 N self)
def ybg:SC PG:=recz (f:=207) z8d (fun _ _ _=>none) (z88 N) (ydo fun _=>rfl) (fun self hs=>(yc5 N self hs).h) N
def zyf:SE PG:=E0 [] [] []
def y1l:SLf f292:=lz N (zyf) [] 250 (cu [.v 0 jI,.v 5 jI,.s 6 jT,.v 7 jI]) (3,(cu [.s 6 jT])) [] (z40 N)
def zuf:SC PG:=fz (zyf) func292 [y1l N] (sq [jI,jI]) (.fresh jT) [] (z7o N)
def zux:SE PG:=E0 [] [] [zuf N]
def zzb:SLf f290:=lz N (zux N) [] 122 (cu [.v 0 (.list Y3),.s 5 (.list Y3),.v 6 jI,.s 7 jT,.v 8 jI]) (3,(cu [.s 5 (.list Y3)])) [] (z2x N)
def yaa:SC PG:=fz (zux N) func290 [zzb N] (sq [.list Y3,jI]) (.fresh (.list Y3)) [] (zkv N)
def y3o:SE PG:=E0 [(J3,[17,2000002,2000003,2000004])] [] [yaa N]
def y5k:SLf f254:=lz N (y3o N) [] 250 ⟨[4,5,6,7],(sq [.ptr 2000000 0,.own 2000001,.ptr 2000002 0,jI]),[(2000000,[4], .boxC [.nils, .nils, .nils]),(2000001,[5], .sl (.list Y3)),(2000002,[6], .box (.cons (.own 2000003) (.cons (.own 2000004) (.own 2000005)))),(2000003,[6,0], .sl Y0),(2000004,[6,1], .sl .str),(2000005,[6,2], .sl Z5)],[]⟩ (3,⟨[4,6],(sq [.ptr 2000000 0,.ptr 2000001 0]),[(2000000,[4], .boxC [.nils, .nils, .nils]),(2000001,[6], .box x04),(2000002,[6,0], .sl Y0),(2000003,[6,1], .sl .str),(2000004,[6,2], .sl Z5)],[]⟩) [] (z5k N)
def zxp:SC PG:=fz (y3o N) func254 [y5k N] (sq [.val Y0,.val z59]) (.val zqj) [] (zh4 N)
def y94:SE PG:=E0 [(J3,[2000001,2000002])] [] [zro N]
def y9u:SLf f296:=lz N (y94 N) [] 58 ⟨[1,4,5,6],(sq [.list Y0,.ptr 2000000 0,.ptr 2000001 0,jI]),[(2000000,[4], .boxC [.nils, .nils,jZ]),(2000001,[5], .box (.cons (.list Y6) (.cons (.own 2000002) (.int .i64)))),(2000002,[5,1], .sl jT)],[]⟩ (1,⟨[4],(.ptr 2000000 0),[(2000000,[4], .box (.cons (.own 2000001) (.cons (.own 2000002) (.int .i64)))),(2000001,[4,0], .sl Y6),(2000002,[4,1], .sl jT)],[]⟩) [(3,⟨[4,5],(sq [.ptr 2000000 0,.ptr 2000001 0]),[(2000000,[4], .boxC [.nils, .nils,jZ]),(2000001,[5], .box (.cons (.list Y6) (.cons (.own 2000002) (.int .i64)))),(2000002,[5,1], .sl jT)],[]⟩)] (z7d N)
def y32:SC PG:=fz (y94 N) func296 [y9u N] (sq [.val (.list Y6),.list Y0]) (.val zqi) [] (zih N)
def zyq:SE PG:=E0 [] [] []
def y2f:SLf f325:=pz (zyq) [] 31 (cu [.v 0 .str,.v 1 jI,.z 4 [.str [],jZ,jZ,.str []],.b 5 z3q,.v 6 .str]) (1,(cu [.b 4 z3q])) [] (z6i N)
def yc1:SC PG:=fz (zyq) func325 [y2f N] (sq [.str,jI]) (.val z3q) [] (zpa N)
def zyt:SE PG:=E0 [] [] []
def y2i:SLf f327:=lz N (zyt) [] 58 (cu [.v 0 .str,.s 4 .str,.v 5 .str,.v 6 jI]) (3,(cu [.s 4 .str,.v 5 .str])) [] (z4f N)
def yc2:SC PG:=fz (zyt) func327 [y2i N] .str (.tup (.cons (.fresh .str) .bool)) [] (zpb N)
def y3v:SE PG:=E0 [] [] []
def y5y:SLf f71:=lz N (y3v) [] 58 (cu [.v 0 .str,.v 3 jI]) (1,Cu6_) [(3,zif)] (z5t N)
def zpt:SC PG:=fz (y3v) func71 [y5y N] .str .bool [] (zbg N)
def zyr:SE PG:=E0 [] [] [yc2 N,zpt N]
def y2g:SLf f320:=lz N (zyr N) [] 58 (cu [.s 3 .str,.v 4 .bool,.v 5 jI]) (1,Cu6_) [(3,Cu0_)] (z4d N)
def zuo:SC PG:=fz (zyr N) func320 [y2g N] .str .bool [] (zb2 N)
def y3w:SE PG:=E0 [] [] []
def y5z:SLf f328:=lz N (y3w) [] 122 (cu [.v 0 jI,.v 3 .str,.v 4 jI]) (3,(cu [.v 3 .str])) [] (z5u N)
def yge:SC PG:=fz (y3w) func328 [y5z N] jI .str [] (zt0 N)
def zv6:SE PG:=E0 [] [] [yge N]
def zzr:SLf f321:=lz N (zv6 N) [] 122 (cu [.v 0 .str,.v 3 jI,.v 4 jI]) (3,(cu [.v 0 .str,.v 3 jI])) [] (z39 N)
def zsj:SC PG:=fz (zv6 N) func321 [zzr N] .str .bool [] (zc0 N)
def zqd:SE PG:=E0 [] [] [zuo N,zsj N,zpt N]
def y2d:SLf f329:=pz (zqd N) [] 13 (cu [.b 1 z3q,.v 32 .bool]) (1,Cu6_) [(0,(cu [.b 1 z3q]))] (w6 N)
def y2e:SLf f329:=pz (zqd N) [] 7 (cu [.b 1 z3q]) (1,Cu6_) [] (G1 N)
def yc0:SC PG:=fz (zqd N) func329 [y2d N,y2e N] (.val z3q) .bool [] (zp9 N)
def yjb:SC PG:=fz (E0 [] [] [yc0 N]) func326 [] (.val z3q) (.tup (.cons .str jR)) [] (zx1 N)
def zys:SE PG:=E0 [] [] [yc1 N,yjb N]
def y2h:SLf f319:=lz N (zys N) [] 26 (cu [.v 0 .str,.z 2 [.str [],jZ,jZ,.str []],.v 4 jI]) (1,(cu [.b 2 z3q,.v 3 jI])) [(3,(cu [.z 2 [.str [],jZ,jZ,.str []]]))] (z4e N)
def zup:SC PG:=fz (zys N) func319 [y2h N] .str (.tup (.cons (.val z3q) jR)) [] (ziw N)
def yaj:SC PG:=fz (E0 [] [] [zup N]) func307 [] (.val Y3) (.val zn7) [] (zl3 N)
def zyo:SE PG:=E0 [] [] [yaj N]
def y29:SLf f283:=lz N (zyo N) [] 58 (cu [.v 0 (.list Y3),.z 2 [jZ,jZ],.b 3 zn7,.v 4 jI]) (3,(cu [.z 2 [jZ,jZ],.b 3 zn7])) [] (z4a N)
def yby:SC PG:=fz (zyo N) func283 [y29 N] (.list Y3) (.val zn7) [] (zp6 N)
def ybn:SC PG:=fz E1 func282 [] (.val zn7) (.val y0) [] (zvf N)
def yg4:SC PG:=fz E1 func284 [] (sq [.val y0,.val y0]) (.val y0) [] (y0j N)
def y6l:SC PG:=fz (E0 [] [] [zup N]) func308 [] .str .bool [] (zcs N)
def yad:SC PG:=fz E1 func309 [] (sq [.val z5a,jI]) (.val z5a) [] (z7m N)
def ybk:SC PG:=fz E1 func310 [] (sq [.val z5a,jI]) (.val z5a) [] (ze6 N)
def zq9:SE PG:=E0 [] [] [zuo N,zsj N]
def y1x:SLf f311:=pz (zq9 N) [] 15 (cu [.v 0 .str,.v 1 .str,.v 5 .bool,.v 6 .bool]) (1,Cu0_) [] (z6g N)
def y1y:SLf f311:=pz (zq9 N) [y1x N] 7 (cu [.v 0 .str,.v 1 .str,.v 5 .bool]) (1,Cu0_) [] (z6h N)
def ybo:SC PG:=fz (zq9 N) func311 [y1y N] (sq [.str,.str]) .bool [] (ziu N)
def yae:SC PG:=fz (E0 [] [] [y6l N,yad N,ybk N,ybo N]) func285 [] (sq [.val y0,.val Z5]) (.val y0) [] (z9e N)
def zvk:SE PG:=E0 [] [] [yby N,ybn N,yg4 N,yae N]
def y9z:SLf f238:=lz N (zvk N) [] 250 (cu [.b 1 Y0,.z 2 [jZ,jZ,jZ,jZ],.b 3 y0,.v 5 jI]) (5,(cu [.z 2 [jZ,jZ,jZ,jZ],.b 3 y0])) [] (z7h N)
def ya0:SLf f238:=lz N (zvk N) [] 122 (cu [.b 1 Y0,.z 2 [jZ,jZ,jZ,jZ],.b 3 y0,.v 4 jI]) (3,(cu [.b 1 Y0,.z 2 [jZ,jZ,jZ,jZ],.b 3 y0])) [] (z7i N)
def y33:SC PG:=fz (zvk N) func238 [ya0 N,y9z N] (.val Y0) (.val y0) [] (zr5 N)
def y3n:SE PG:=E0 [] [] [y33 N]
def y5h:SLf f312:=lz N (y3n N) [] 58 x4b (3,(cu [.s 3 y0])) [] (z5i N)
def yfy:SC PG:=fz (y3n N) func312 [y5h N] (.list Y0) (.fresh y0) [] (zsr N)
def zue:SC PG:=fz (E0 [(J3,[23,40,55,63])] [] [yfy N]) func297 [] (sq [.val Y0,jI,.val zj0,.list jT]) (.val Y0) [] (zax N)
def zuw:SE PG:=E0 [(J3,[2000000])] [] [y33 N]
def zza:SLf f312:=lz N (zuw N) [] 58 x4b (3,(cu [.s 3 y0])) [] (zac N)
def ya9:SC PG:=fz (zuw N) func312 [zza N] (.list Y0) (.list y0) [] (zks N)
def zpr:SC PG:=fz (E0 [(J3,[13])] [] [zgi N,zj3 N]) func91 [] (sq [.val (.list Y6),jI]) (.tup (.cons (.val (.list Y6)) jR)) [] (zbd N)
def y93:SE PG:=E0 [] [] [zgj N]
def y9t:SLf f298:=lz N (y93 N) [] 26 ⟨[1,2,4,5],(sq [.list jT,.ptr 2000000 0,.ptr 2000001 0,jI]),[(2000000,[2], .box (.list Y6)),(2000001,[4], .boxC [.nils])],[]⟩ (3,⟨[2,4],(sq [.ptr 2000000 0,.ptr 2000001 0]),[(2000000,[2], .box (.list Y6)),(2000001,[4], .boxC [.nils])],[]⟩) [] (z7c N)
def y31:SC PG:=fz (y93 N) func298 [y9t N] (sq [.val (.list Y6),.list jT]) (.val (.list Y6)) [] (zmx N)
def zpg:SE PG:=E0 [(19,[2000003]),(2000114,[113]),(3000084,[84])] [] [y32 N,zcj N,zue N,ya9 N,zpr N,y31 N]
def y9q:SLf f291:=pz (zpg N) [] 30845 ⟨[3,5,6,8,9,11,12,72],(sq [.ptr 2000000 0,.ptr 2000001 0,.ptr 2000002 0,.ptr 2000003 0,.own 2000004,.ptr 2000005 0,jI,.bool]),[(2000000,[3], .boxV W9),(2000001,[5], .box (.cons (.list Y0) (.cons (.list .str) (.list Z5)))),(2000002,[6], .boxC [.nils,jZ,jZ,jZ,jZ]),(2000003,[8], .box (.list Y6)),(2000004,[9], .sl jT),(2000005,[11], .boxV zqi)],[]⟩ (1,Cu8_) [(0,⟨[3,6,8,9,12],(sq [.ptr 2000000 0,.ptr 2000001 0,.ptr 2000002 0,.own 2000003,jI]),[(2000000,[3], .boxV W9),(2000001,[6], .boxC [.nils,jZ,jZ,jZ,jZ]),(2000002,[8], .box (.list Y6)),(2000003,[9], .sl jT)],[]⟩)] (zbw N)
def y9r:SLf f291:=pz (zpg N) [] 15423 ⟨[3,6,8,9,12],(sq [.ptr 2000000 0,.ptr 2000001 0,.ptr 2000002 0,.own 2000003,jI]),[(2000000,[3], .boxV W9),(2000001,[6], .boxC [.nils,jZ,jZ,jZ,jZ]),(2000002,[8], .box (.list Y6)),(2000003,[9], .sl jT)],[]⟩ (1,Cu8_) [] (zbx N)
def y9s:SLf f291:=lz N (zpg N) [y9q N,y9r N] 30 ⟨[1,3,5,6,8,9,10],(sq [.list jT,.ptr 2000000 0,.ptr 2000001 0,.ptr 2000002 0,.ptr 2000003 0,.own 2000004,jI]),[(2000000,[3], .boxV W9),(2000001,[5], .box (.cons (.list Y0) (.cons (.list .str) (.list Z5)))),(2000002,[6], .boxC [.nils,jZ,jZ,jZ,jZ]),(2000003,[8], .box (.list Y6)),(2000004,[9], .sl jT)],[61]⟩ (1,Cu8_) [] (z7b N)
def y30:SC PG:=fz (zpg N) func291 [y9s N] (sq [.val W9,.list jT,.val zj0]) (.tup (.cons (.val W9) jR)) [] (zek N)
def y95:SE PG:=E0 [] [] [zcj N,y30 N]
def y9v:SLf f255:=pz (y95 N) [] 7 (cu [.v 1 (.list jT),.b 3 W9,.b 5 zj0,.z 6 [.nils,jZ,jZ,jZ,jZ]]) (1,Cu8_) [] (zrs N)
def yj6:SC PG:=fz (y95 N) func255 [y9v N] (sq [.val W9,.list jT,.val zj0]) (.tup (.cons (.val W9) jR)) [] (zmy N)
def zyg:SE PG:=E0 [(J3,[2000002,2000003])] [] [zuf N]
def y1m:SLf f256:=lz N (zyg N) [] 122 ⟨[2,4,5,6,7,8],(sq [.ptr 2000000 0,.ptr 2000001 0,.ptr 2000002 0,jI,.own 2000005,jI]),[(2000000,[2], .boxV Y0),(2000001,[4], .boxC [.nils, .nils, .nils]),(2000002,[5], .box (.cons (.own 2000003) (.cons (.own 2000004) (.list Z5)))),(2000003,[5,0], .sl Y0),(2000004,[5,1], .sl .str),(2000005,[7], .sl jT)],[]⟩ (3,⟨[4,5],(sq [.ptr 2000000 0,.ptr 2000001 0]),[(2000000,[4], .boxC [.nils, .nils, .nils]),(2000001,[5], .box (.cons (.own 2000002) (.cons (.own 2000003) (.list Z5)))),(2000002,[5,0], .sl Y0),(2000003,[5,1], .sl .str)],[]⟩) [] (z41 N)
def ybi:SC PG:=fz (zyg N) func256 [y1m N] (sq [.val Y0,.val z59]) (.val zqj) [] (zoz N)
def ybp:SC PG:=fz (E0 [] [] [zun N]) func313 [] (.list .str) (.fresh Z2) [] (zvg N)
def ybq:SC PG:=fz E1 func322 [] (.val Z5) .bool [] (ze7 N)
def zex:SC PG:=fz (E0 [] [] [z1s N]) func213 [] (.val Z5) (.fresh Z2) [] (z57 N)
def z6s:SC PG:=fz (E0 [] [] [zkn N,z1s N]) func211 [] (.val Z5) (.fresh Z2) [] (G3 N)
def zsi:SC PG:=fz (E0 [] [] [z6b N,zps N]) func306 [] (sq [.val Z2,.val Z2]) .bool [] (zfq N)
def y3t:SE PG:=E0 [] [] [zex N,z6s N,zsi N]
def y5r:SLf f323:=lz N (y3t N) [] 58 x48 (1,Cu0_) [(3,zif)] (z5q N)
def yg9:SC PG:=fz (y3t N) func323 [y5r N] (sq [.val Z5,.val Z2]) .bool [] (zsy N)
def zqa:SE PG:=E0 [] [] [zck N,z6b N]
def y23:SLf f275:=lz N (zqa N) [] 1682 (cu [.v 0 (.list Z2),.v 1 (.list Z2),.v 5 jI,.v 6 jI]) (1,Cu0_) [(5,x4c)] (z45 N)
def y24:SLf f275:=lz N (zqa N) [y23 N] 26 x4c (1,Cu0_) [(3,zif)] (z47 N)
def zme:SC PG:=fz (zqa N) func275 [y24 N] (sq [.list Z2,.list Z2]) .bool [] (zb0 N)
def yg8:SC PG:=fz (E0 [] [] [z6s N,zme N,zck N]) func324 [] (sq [.val Z5,.val Z2]) (.fresh Z5) [] (znm N)
def zv4:SE PG:=E0 [] [] [z6b N]
def zzp:SLf f260:=lz N (zv4 N) [] 58 (cu [.v 0 (.list Z2),.b 3 Z2,.s 5 Z2,.v 6 .bool,.v 7 jI]) (3,(cu [.b 3 Z2,.s 5 Z2,.v 6 .bool])) [] (z37 N)
def yak:SC PG:=fz (zv4 N) func260 [zzp N] (sq [.list Z2,.val Z2]) (.fresh Z2) [] (zl4 N)
def zl9:SE PG:=E0 [] [] [yak N,zps N]
def y5v:SLf f209:=pz (zl9 N) [] 7827 (cu [.s 3 Z2,.s 4 Z2,.v 6 jI,.v 7 jI,.v 53 .bool]) (0,x47) [] (z4x N)
def y5w:SLf f209:=lz N (zl9 N) [y5v N] 122 x47 (5,(cu [.s 4 Z2])) [] (z5s N)
def y5x:SLf f209:=lz N (zl9 N) [] 58 (cu [.v 0 (.list Z2),.s 3 Z2,.s 4 Z2,.v 5 jI]) (3,(cu [.s 3 Z2,.s 4 Z2])) [] (z0t N)
def zgk:SC PG:=fz (zl9 N) func209 [y5x N,y5w N] (.list Z2) (.fresh Z2) [] (z4l N)
def zqc:SE PG:=E0 [] [] [zgk N,z6b N,zck N]
def y2b:SLf f210:=lz N (zqc N) [] 29850 (cu [.v 1 (.list Z2),.s 5 Z2,.v 6 jI,.s 7 Z2,.v 8 jI]) (5,(cu [.v 1 (.list Z2),.v 6 jI,.s 7 Z2])) [] (z4c N)
def y2c:SLf f210:=lz N (zqc N) [y2b N] 58 (cu [.v 1 (.list Z2),.s 5 Z2,.v 6 jI]) (3,(cu [.s 5 Z2])) [] (G9 N)
def zmf:SC PG:=fz (zqc N) func210 [y2c N] (sq [.list Z2,.list Z2]) (.fresh Z2) [] (y7 N)
def zv0:SE PG:=E0 [] [] [ybq N,zex N,z6s N,yg9 N,zme N,yg8 N,zmf N]
def zzj:SLf f314:=lz N (zv0 N) [] 8150 ⟨[3,4,6,9,10],(sq [.ptr 2000000 0,.ptr 2000004 0,.ptr 2000005 0,.own 2000006,jI]),[(2000000,[3], .box (.cons (.own 2000001) (.cons (.own 2000002) (.own 2000003)))),(2000001,[3,0], .sl Z5),(2000002,[3,1], .sl Z5),(2000003,[3,2], .sl Z2),(2000004,[4], .boxV Z5),(2000005,[6], .boxC [.nils, .nils, .nils]),(2000006,[9], .sl Z2)],[]⟩ (3,⟨[3,6],(sq [.ptr 2000000 0,.ptr 2000004 0]),[(2000000,[3], .box (.cons (.own 2000001) (.cons (.own 2000002) (.own 2000003)))),(2000001,[3,0], .sl Z5),(2000002,[3,1], .sl Z5),(2000003,[3,2], .sl Z2),(2000004,[6], .boxC [.nils, .nils, .nils])],[]⟩) [] (z32 N)
def y9h:SM PG:=mz (zv0 N) func314 [zzj N] ⟨[0,1,2],(sq [.agg (.cons (.own 5000000) (.cons (.own 5000001) (.own 5000002))),.val Z5,.val Z2]),[(5000000,[0,0], .sl Z5),(5000001,[0,1], .sl Z5),(5000002,[0,2], .sl Z2)],[]⟩ ⟨[0],(.agg (.cons (.own 2000000) (.cons (.own 2000001) (.own 2000002)))),[(2000000,[0,0], .sl Z5),(2000001,[0,1], .sl Z5),(2000002,[0,2], .sl Z2)],[]⟩ [] (z4s N)
def zyi:SE PG:=E0 [(J3,[2000002,2000003,2000004])] [30] [ybp N] [y9h N]
def y1z:SLf f293:=lz N (zyi N) [] 58 ⟨[0,6,7,8,9],(sq [.list Z5,.ptr 2000000 0,.ptr 2000001 0,.ptr 2000005 0,jI]),[(2000000,[6], .boxC [.nils, .nils, .nils]),(2000001,[7], .box x04),(2000002,[7,0], .sl Z5),(2000003,[7,1], .sl Z5),(2000004,[7,2], .sl Z2),(2000005,[8], .boxV Z2)],[]⟩ (3,⟨[6,7],(sq [.ptr 2000000 0,.ptr 2000001 0]),[(2000000,[6], .boxC [.nils, .nils, .nils]),(2000001,[7], .box x04),(2000002,[7,0], .sl Z5),(2000003,[7,1], .sl Z5),(2000004,[7,2], .sl Z2)],[]⟩) [] (z44 N)
def zuk:SC PG:=fz (zyi N) func293 [y1z N] (sq [.list Z5,.list .str,jI]) (.val zvp) [] (z93 N)
def y3m:SE PG:=E0 [] [] [zuk N]
def y5g:SLf f257:=lz N (y3m N) [] 122 (cu [.b 1 Y0,.v 4 jI,.v 5 jI,.v 6 jI]) (3,(cu [.v 4 jI,.v 5 jI])) [] (z5h N)
def yfv:SC PG:=fz (y3m N) func257 [y5g N] (.val Y0) (.tup (.cons jR jR)) [] (zso N)
def y6k:SC PG:=fz (E0 [(J3,[24,37,50])] [] []) func294 [] (sq [.val Y0,jI]) (.val Y0) [] (zcq N)
def yfz:SC PG:=fz E1 func295 [] (sq [.val W9,.val W9,jI,jI]) (.val z9r) [] (zdx N)
def y96:SE PG:=E0 [] [] [zum N]
def ya1:SLf f124:=lz N (y96 N) [] 26 ⟨[0,1,5],(sq [.list Y3,.list Z5,jI]),[],[17]⟩ (3,(cu [.v 0 (.list Y3)])) [] (z7j N)
def y34:SC PG:=fz (y96 N) func124 [ya1 N] (sq [.list Y3,.list Z5]) (.list Y3) [] (zr7 N)
def zq8:SE PG:=E0 [(17,[84]),(24,[2000005]),(27,[2000006,2000007]),(3000125,[125]),(3000164,[164])] [] [zcj N,zkm N,zuk N,y6k N,y30 N,yfz N,y32 N,zue N,y31 N,y34 N,zxp N]
def y1j:SLf f258:=pz (zq8 N) [] 16383 ⟨[1,2,3,6,8,11,12],(sq [.list jT,jI,.ptr 2000000 0,.ptr 2000001 0,.ptr 2000002 0,.ptr 2000003 0,.ptr 2000004 0]),[(2000000,[3], .boxV W9),(2000001,[6], .boxC [.nils,jZ,jZ,jZ,jZ,jZ,jZ]),(2000002,[8], .boxV Y0),(2000003,[11], .boxV zvp),(2000004,[12], .box (.cons (.list Y0) (.cons (.list .str) (.own 2000007)))),(2000007,[12,2], .sl Z5)],[87]⟩ (1,(cu [.b 6 z9r])) [] (z3i N)
def y1k:SLf f258:=pz (zq8 N) [y1j N] 63 (cu [.v 1 (.list jT),.v 2 jI,.b 3 W9,.z 6 [.nils,jZ,jZ,jZ,jZ,jZ,jZ],.b 8 Y0]) (1,(cu [.b 6 z9r])) [] (zmg N)
def ybh:SC PG:=fz (zq8 N) func258 [y1k N] (sq [.val W9,.list jT,jI]) (.val z9r) [] (zoy N)
def yja:SC PG:=fz E1 func303 [] (sq [.val Z2,.str]) .bool [] (zx0 N)
def zmq:SE PG:=E0 [] [] [yja N]
def zzc:SLf f273:=lz N (zmq N) [] 14922 (cu [.v 0 (.list Y3),.v 1 (.list Z2),.s 5 Y3,.v 6 jI,.v 7 .bool,.v 8 jI]) (5,(cu [.v 0 (.list Y3),.v 1 (.list Z2),.s 5 Y3,.v 6 jI,.v 7 .bool])) [] (z2y N)
def zzd:SLf f273:=lz N (zmq N) [zzc N] 58 Cu2_ (3,yw2) [] (z2z N)
def yab:SC PG:=fz (zmq N) func273 [zzd N] (sq [.list Y3,.list Z2]) (.fresh Y3) [] (zfm N)
def ybs:SC PG:=fz (E0 [] [] [z1s N,zd5 N]) func318 [] (sq [.val Z2,.str,.str]) (.val Z2) [] (zp2 N)
def zt9:SE PG:=E0 [(J3,[20,27,73])] [] [zkn N,zmf N,z1s N,zck N,z6b N,ybs N,zgk N]
def zvx:SLf f304:=lz N (zt9 N) [] 1018 (cu [.v 0 (.list Z2),.b 3 Z5,.b 5 Z2,.s 7 Z2,.v 8 jI]) (4,(cu [.s 7 Z2])) [] (z21 N)
def y6m:SC PG:=fz (zt9 N) func304 [zvx N] (sq [.list Z2,.val Z5]) (.list Z2) [] (z4w N)
def zyj:SE PG:=E0 [(5,[2000000])] [] [zgk N,y6m N]
def y20:SLf f274:=lz N (zyj N) [] 58 ⟨[1,5,6],(sq [.list Z5,.list Z2,jI]),[],[9]⟩ (3,(cu [.v 5 (.list Z2)])) [] (z7y N)
def ybr:SC PG:=fz (zyj N) func274 [y20 N] (sq [.val Z2,.list Z5]) (.list Z2) [] (zp1 N)
def z76(self:(List Z8)->Int->Z0->(List Z0)->Option (((List Z7)×Int))):Ctr:=znz (sq [.val (.list Y6),jI,.val Z2,.list Z2]) (.tup (.cons (.list Y3) (.int .i64))) [] (Sh.c (sq [.val (.list Y6),jI,.val Z2,.list Z2])|>.ap self)
def zs3(self:(List Z8)->Int->Z0->(List Z0)->Option (((List Z7)×Int)))(hs:z77 PG 234 fun xs=>(z76 self).run xs some):SE PG:=E0 [(J3,[35,97]),(16,[2000003]),(17,[2000002]),(21,[2000001])] [] [⟨234,z76 self,hs⟩,zkm N,yab N,ybr N,zug N,zme N,y34 N]
def y5l(self:(List Z8)->Int->Z0->(List Z0)->Option (((List Z7)×Int)))(hs:z77 PG 234 fun xs=>(z76 self).run xs some):SLf f234:=lz N (zs3 N self hs) [] 4090 ⟨[3,4,10,12,14,15,16],(sq [.list Z2,.ptr 2000000 0,.ptr 2000001 0,.list Z2,.list Z2,.own 2000004,jI]),[(2000000,[4], .box (.list Y6)),(2000001,[10], .boxV Y0),(2000004,[15], .sl Y3)],[54,2000003]⟩ (1,(cu [.v 8 (.list Y3),.v 9 jI])) [(5,(cu [.v 3 (.list Z2),.b 10 Y0,.s 15 Y3]))] (z5l N self)
def y5m(self:(List Z8)->Int->Z0->(List Z0)->Option (((List Z7)×Int)))(hs:z77 PG 234 fun xs=>(z76 self).run xs some):SLf f234:=lz N (zs3 N self hs) [] 506 ⟨[3,4,6,10,12,13],(sq [.list Z2,.ptr 2000000 0,.ptr 2000001 0,.ptr 2000002 0,.own 2000003,jI]),[(2000000,[4], .box (.list Y6)),(2000001,[6], .boxV Z2),(2000002,[10], .boxV Y0),(2000003,[12], .sl Z2)],[]⟩ (3,⟨[3,4,6,10,12],(sq [.list Z2,.ptr 2000000 0,.ptr 2000001 0,.ptr 2000002 0,.own 2000003]),[(2000000,[4], .box (.list Y6)),(2000001,[6], .boxV Z2),(2000002,[10], .boxV Y0),(2000003,[12], .sl Z2)],[]⟩) [] (z5m N self)
def ygp(self:(List Z8)->Int->Z0->(List Z0)->Option (((List Z7)×Int)))(hs:z77 PG 234 fun xs=>(z76 self).run xs some):SC PG:=fz (zs3 N self hs) func234 [y5m N self hs,y5l N self hs] (sq [.val (.list Y6),jI,.val Z2,.list Z2]) (.tup (.cons (.list Y3) jR)) [] (z6y N self)
def yg0:SC PG:=recz (f:=234) z76 (fun _ _ _ _=>none) (z6y N) (ydo fun _=>rfl) (fun self hs=>(ygp N self hs).h) N
def yg1:SC PG:=fz (E0 [(2000013,[12])] [] [yg0 N]) func178 [] (sq [.val W9,.val Z2]) (.tup (.cons (.list Y3) jR)) [] (zss N)
def zuj:SC PG:=fz E1 func315 [] (.val Z5) .bool [] (z92 N)
def y3s:SE PG:=E0 [] [] [zuj N,z1s N]
def y5q:SLf f316:=lz N (y3s N) [] 122 (cu [.v 1 (.list Y3),.b 2 Z5,.s 5 Z5,.v 6 jI]) (3,(cu [.b 2 Z5,.s 5 Z5])) [] (z5p N)
def yg7:SC PG:=fz (y3s N) func316 [y5q N] (sq [.val Z5,.list Y3]) (.fresh Z5) [] (zsx N)
def yg6:SC PG:=fz (E0 [] [] [zuj N,yg7 N]) func299 [] (sq [.list Z5,.list Y3]) (.tup (.cons (.fresh Z5) jR)) [] (zsw N)
def zuv:SE PG:=E0 [(J3,[51])] [] [z1s N,yg1 N,yg6 N]
def zz9:SLf f259:=lz N (zuv N) [] 58 (cu [.b 2 W9,.b 3 Y0,.z 4 [.nils,.nils,.nils,.nils,.nils],.s 6 Y3,.v 7 jI]) (1,(cu [.b 4 Y0,.v 5 jI])) [(3,(cu [.b 3 Y0,.z 4 [.nils,.nils,.nils,.nils,.nils],.s 6 Y3]))] (z2w N)
def ya8:SC PG:=fz (zuv N) func259 [zz9 N] (sq [.val W9,.val Y0]) (.tup (.cons (.val Y0) jR)) [] (z9b N)
def yfw:SC PG:=fz (E0 [(2000105,[103])] [] [zcj N,zxp N,yj6 N,ybi N,yfv N,ybh N,ya8 N]) func208 [] (sq [.val W9,.list jT]) (.tup (.cons (.val W9) jR)) [] (zsp N)
def zyd:SE PG:=E0 [(2000015,[13])] [] [ybg N,yfw N]
def y1h:SLf f143:=lz N (zyd N) [] 14 (cu [.v 1 .bool,.b 2 W9,.z 4 [.nils,jZ,jZ,jZ,jZ,jZ,jZ],.b 5 zau]) (1,(cu [.b 4 zau])) [] (z7w N)
def ybf:SC PG:=fz (zyd N) func143 [y1h N] (sq [.val W9,.bool]) (.val zau) [] (zve N)
def yfx:SC PG:=fz (E0 [] [] [ybf N]) func87 [] (.val W9) (.val zau) [] (zsq N)
def yfq:SC PG:=fz E1 func88 [] (sq [.val Z9,.val W9]) (.val Z9) [] (y0h N)
def ybw:SC PG:=fz (E0 [] [] [z6s N]) func212 [] (.val Z5) (.fresh Z2) [] (zp4 N)
def y3u:SE PG:=E0 [(J3,[2000001,2000002])] [] [zgk N,z6s N,zmf N,ybw N,zex N]
def y5s:SLf f144:=lz N (y3u N) [] 122 (cu [.v 0 (.list Z5),.z 4 [.nils,.nils],.s 5 Z5,.s 6 Z2,.v 7 jI]) (3,(cu [.z 4 [.nils,.nils],.s 5 Z5,.s 6 Z2])) [] (z5r N)
def yga:SC PG:=fz (y3u N) func144 [y5s N] (sq [.list Z5,.list Z2]) (.val zv8) [] (y0k N)
def zsg:SC PG:=fz (E0 [] [] [yga N]) func89 [] (.list Z5) (.list Z5) [] (zfp N)
def y92:SE PG:=E0 [(2000058,[57])] [] [yfr N,yj8 N,yfx N,yfq N,zsg N]
def y9p:SLf f46:=lz N (y92 N) [] 58 (cu [.v 1 (.list Z5),.b 2 Z9,.z 4 [.nils,jZ,jZ,jZ,.nils,jZ,jZ,jZ,.nils],.b 6 W9,.v 8 jI]) (1,(cu [.b 4 Z9,.v 5 jI])) [(3,(cu [.v 1 (.list Z5),.b 2 Z9,.z 4 [.nils,jZ,jZ,jZ,.nils,jZ,jZ,jZ,.nils],.b 6 W9]))] (z7a N)
def y2z:SC PG:=fz (y92 N) func46 [y9p N] (sq [.val Z9,.list Z5]) (.tup (.cons (.val Z9) jR)) [] (zr3 N)
def zvj:SE PG:=E0 [(J3,[2000001,2000002])] [] []
def y9m:SLf f74:=pz (zvj) [] 13 (cu [.v 0 jI,.v 1 jI,.z 4 [jZ,.nils,.nils],.v 19 .bool]) (1,(cu [.z 4 [jZ,.nils,.nils],.v 5 jI])) [(0,x44)] (zbu N)
def y9n:SLf f74:=pz (zvj) [] 7 x44 (1,⟨[4,5],(sq [.ptr 2000000 0,jI]),[(2000000,[4], .box (.cons (.int .i64) (.cons (.own 2000001) (.own 2000002)))),(2000001,[4,1], .sl (.list (.int .u8))),(2000002,[4,2], .sl Q6)],[]⟩) [] (zbv N)
def y2w:SC PG:=fz (zvj) func74 [y9m N,y9n N] (sq [jI,jI]) (.tup (.cons (.val K0) jR)) [] (zej N)
def zpf:SE PG:=E0 [(J3,[2000001,2000002])] [] []
def y9k:SLf f77:=lz N (zpf) [] 122 ⟨[0,1,4,6,7],(sq [jI,jI,.ptr 2000000 0,.ptr 2000001 0,jI]),[(2000000,[4], .boxC [.nils, .nils,jZ]),(2000001,[6], .box x03),(2000002,[6,0], .sl .bool),(2000003,[6,1], .sl jT)],[]⟩ (3,⟨[4,6],(sq [.ptr 2000000 0,.ptr 2000001 0]),[(2000000,[4], .boxC [.nils, .nils,jZ]),(2000001,[6], .box x03),(2000002,[6,0], .sl .bool),(2000003,[6,1], .sl jT)],[]⟩) [] (z79 N)
def y9i:SLf f77:=pz (zpf) [] 13 (cu [.v 0 jI,.v 1 jI,.z 4 [.nils,.nils,jZ],.v 22 .bool]) (1,(cu [.z 4 [.nils,.nils,jZ],.v 5 jI])) [(0,x43)] (zbs N)
def y9j:SLf f77:=pz (zpf) [y9k N] 7 x43 (1,⟨[4,5],(sq [.ptr 2000000 0,jI]),[(2000000,[4], .box (.cons (.own 2000001) (.cons (.own 2000002) (.int .i64)))),(2000001,[4,0], .sl .bool),(2000002,[4,1], .sl jT)],[]⟩) [] (zbt N)
def yj3:SC PG:=fz (zpf) func77 [y9i N,y9j N] (sq [jI,jI]) (.tup (.cons (.val V1) jR)) [] (zwz N)
def zyn:SE PG:=E0 [] [] []
def y28:SLf f305:=lz N (zyn) [] 26 x42 (1,Cu6_) [(3,zif)] (z7z N)
def ybx:SC PG:=fz (zyn) func305 [y28 N] (.list Y3) .bool [] (zp5 N)
def y8g:SC PG:=fz E1 func278 [] (sq [jI,jI,jI]) .bool [] (zrf N)
def y3r:SE PG:=E0 [] [] [ybx N,zrp N,y8g N]
def y5p:SLf f276:=lz N (y3r N) [] 58 x46 (1,Cu0_) [(3,zif)] (z5o N)
def yg3:SC PG:=fz (y3r N) func276 [y5p N] (sq [.val Y0,.val Z2]) .bool [] (zsu N)
def zfg:SE PG:=E0 [] [] []
def zze:SLf f277:=pz (zfg) [] 841 (cu [.v 0 (.list .str),.b 3 Z2,.v 5 jI,.v 48 .bool]) (1,Cu0_) [(0,Cu5_)] (z1u N)
def zzf:SLf f277:=pz (zfg) [] 211 Cu5_ (0,Cu5_) [] (z1v N)
def zzg:SLf f277:=lz N (zfg) [zze N,zzf N] 26 Cu5_ (1,Cu0_) [(3,zif)] (z30 N)
def yac:SC PG:=fz (zfg) func277 [zzg N] (sq [.list .str,.val Z2]) .bool [] (zkw N)
def ybl:SC PG:=fz E1 func279 [] (.val z5a) .bool [] (zit N)
def zuz:SE PG:=E0 [] [] [zex N,z6s N,zsi N]
def zzi:SLf f280:=lz N (zuz N) [] 58 x48 (1,Cu0_) [(3,zif)] (z31 N)
def yaf:SC PG:=fz (zuz N) func280 [zzi N] (sq [.val Z5,.val Z2]) .bool [] (zkz N)
def zi7:SE PG:=E0 [] [] [yg3 N,yac N,y8g N,ybl N,zmd N,yaf N]
def y1o:SLf f236:=lz N (zi7 N) [] 250 (cu [.b 2 Y0,.b 3 Z2,.v 6 jI]) (1,Cu0_) [(5,zif)] (z42 N)
def y1p:SLf f236:=lz N (zi7 N) [] 122 x46 (1,Cu0_) [(3,Cu4_)] (z43 N)
def y1n:SLf f236:=pz (zi7 N) [y1p N,y1o N] 15 Cu4_ (1,Cu0_) [] (zf2 N)
def ybm:SC PG:=fz (zi7 N) func236 [y1n N] (sq [.val Y0,.val Z2]) .bool [] (zp0 N)
def zuy:SE PG:=E0 [] [] []
def zzh:SLf f239:=lz N (zuy) [] 58 x41 (3,Cu7_) [] (z0y N)
def zsf:SC PG:=fz (zuy) func239 [zzh N] (sq [jI,jI]) (.fresh (.int .u8)) [] (U9 N)
def yg2:SC PG:=fz (E0 [] [] [zsf N]) func240 [] .str (.fresh (.int .u8)) [] (zbe N)
def zv1:SE PG:=E0 [] [] []
def zzk:SLf f287:=lz N (zv1) [] 58 x41 (3,Cu7_) [] (zae N)
def zsh:SC PG:=fz (zv1) func287 [zzk N] (sq [jI,jI]) (.fresh (.int .u8)) [] (z7n N)
def zyk:SE PG:=E0 [] [] [zsh N]
def y21:SLf f286:=lz N (zyk N) [] 58 (cu [.v 0 (.list .str),.s 3 (.int .u8),.v 4 jI]) (3,yqx) [] (z1i N)
def ybu:SC PG:=fz (zyk N) func286 [y21 N] (.list .str) (.fresh (.int .u8)) [] (z0c N)
def zym:SE PG:=E0 [] [] [zmd N,ybu N,zsh N]
def y25:SLf f241:=pz (zym N) [] 31 (cu [.b 1 Z5,.s 3 (.int .u8)]) (1,(cu [.s 2 (.int .u8)])) [] (z06 N)
def zul:SC PG:=fz (zym N) func241 [y25 N] (.val Z5) (.fresh (.int .u8)) [] (zb1 N)
def z7t:SE PG:=E0 [] [] [ybm N,zsf N,yg2 N,zul N]
def y1r:SLf f183:=lz N (z7t N) [] 130342 (cu [.b 1 Y0,.s 5 (.int .u8),.v 8 jI,.b 9 yp0,.v 10 jI]) (11,x45) [] (j0 N)
def y1s:SLf f183:=lz N (z7t N) [] 4090 (cu [.b 1 Y0,.s 5 (.int .u8),.v 11 jI]) (13,Cu7_) [] (z1d N)
def y1t:SLf f183:=lz N (z7t N) [y1r N] 1018 x45 (9,x07) [] (z1e N)
def y1u:SLf f183:=lz N (z7t N) [] 938 (cu [.b 1 Y0,.s 3 (.int .u8),.v 4 jI]) (3,yqx) [] (z1f N)
def y1v:SLf f183:=lz N (z7t N) [] 506 (cu [.b 1 Y0,.s 5 (.int .u8),.v 7 jI]) (7,x07) [] (z1g N)
def y1w:SLf f183:=lz N (z7t N) [] 250 (cu [.b 1 Y0,.s 5 (.int .u8),.v 6 jI]) (5,x07) [] (z1h N)
def zui:SC PG:=fz (z7t N) func183 [y1u N,y1w N,y1v N,y1t N,y1s N] (.val Y0) (.fresh (.int .u8)) [] (z3p N)
def zyh:SE PG:=E0 [] [] []
def y1q:SLf f31:=lz N (zyh) [] 58 (cu [.v 0 (.list (.int .u8)),.v 3 (.int .u64),.v 4 jI]) (3,(cu [.v 3 (.int .u64)])) [] (z0j N)
def zuh:SC PG:=fz (zyh) func31 [y1q N] (.list (.int .u8)) (.int .u64) [] (z2a N)
def zpp:SC PG:=fz E1 func42 [] (sq [.val K0,jI]) .bool [] (zgr N)
def y91:SE PG:=E0 [] [] [zpp N]
def y9o:SLf f20:=lz N (y91 N) [] 122 (cu [.v 1 jI,.b 2 K0,.v 6 (.list (.int .u8)),.v 7 jI]) (3,(cu [.v 6 (.list (.int .u8))])) [] (zeq N)
def y2x:SC PG:=fz (y91 N) func20 [y9o N] (sq [.val K0,jI]) (.tup (.cons (.list (.int .u8)) jR)) [] (y7k N)
def yfk:SC PG:=fz (E0 [] [] [y2x N,zui N]) func184 [] (sq [.val Y1,jI,.val Y0]) .bool [] (zsk N)
def zyc:SE PG:=E0 [] [] []
def y1g:SLf f288:=lz N (zyc) [] 58 (cu [.b 1 V1,.v 3 jI,.v 4 jI]) (3,(cu [.v 3 jI])) [] (z3y N)
def ybc:SC PG:=fz (zyc) func288 [y1g N] (.val V1) jR [] (zvd N)
def yfo:SC PG:=fz (E0 [] [] [ybc N]) func242 [] (.val V1) jR [] (y0g N)
def zyb:SE PG:=E0 [(J3,[2000001])] [] []
def y1f:SLf f243:=lz N (zyb) [] 58 (cu [.b 1 V1,.z 2 [.nils,.nils,jZ,jZ,jZ],.s 3 .bool,.v 4 jI]) (1,⟨[2],(.ptr 2000000 0),[(2000000,[2], .box (.cons (.own 2000001) (.cons (.list jT) (.cons (.int .i64) (.cons (.int .i64) (.int .i64)))))),(2000001,[2,0], .sl .bool)],[]⟩) [(3,(cu [.b 1 V1,.z 2 [.nils,.nils,jZ,jZ,jZ]]))] (z3x N)
def ybb:SC PG:=fz (zyb) func243 [y1f N] (.val V1) (.val zqh) [] (zvc N)
def zxm:SC PG:=fz (E0 [] [] [yfo N,ybb N]) func189 [] (.val V1) (.val zqh) [] (zni N)
def zd4:SC PG:=fz E1 func75 [] (.val K0) (.agg (.cons jR (.cons (.fresh (.list (.int .u8))) (.fresh Q6)))) [] (z4r N)
def zrn:SC PG:=fz (E0 [(J3,[22,31]),(3000028,[28])] [] [zpp N,zd4 N]) func130 [] (sq [.val K0,jI,.list (.int .u8)]) (.tup (.cons (.val K0) jR)) [] (zmw N)
def yb9:SC PG:=fz (E0 [] [] [zxm N,zrn N]) func129 [] (sq [.val Y1,.list (.int .u8)]) (.tup (.cons (.val Y1) jR)) [] (zav N)
def y53:SM PG:=mz (E0 [(4,[5000002])] [] [zxm N,zrn N]) func129 [] ⟨[0,1],(sq [.agg Sh8_,.own 5000002]),[(5000000,[0,9], .sl jT),(5000001,[0,10], .sl (.int .u64)),(5000002,[1], .sl (.int .u8))],[]⟩ ⟨[0],(.tup (.cons (.agg Sh8_) (.int .i64))),[(5000000,[5000000], .sl jT),(5000001,[5000001], .sl (.int .u64))],[]⟩ [] (zgl N)
def z9v:SE PG:=E0 [(J3,[2000001,2000002,2000004])] [93] [zui N,zuh N,yfk N] [y53 N]
def y1a:SLf f126:=pz (z9v N) [] 31311 ⟨[2,3,4,7,8,9,11,12],(sq [.ptr 2000000 0,.ptr 2000003 0,.ptr 2000004 0,.ptr 2000005 0,.own 2000006,jI,jI,.int .u64]),[(2000000,[2], .box Sh1_),(2000001,[2,9], .sl jT),(2000002,[2,10], .sl (.int .u64)),(2000003,[3], .boxV Z9),(2000004,[4], .boxC [jZ, .nils, .nils, .nils, .nils,jZ,jZ,jZ,jZ, .nils, .nils, .nils]),(2000005,[7], .boxV Y1),(2000006,[8], .sl jT)],[]⟩ (0,⟨[2,3,4,7,8,9],(sq [.ptr 2000000 0,.ptr 2000003 0,.ptr 2000004 0,.ptr 2000005 0,.own 2000006,jI]),[(2000000,[2], .box Sh1_),(2000001,[2,9], .sl jT),(2000002,[2,10], .sl (.int .u64)),(2000003,[3], .boxV Z9),(2000004,[4], .boxC [jZ, .nils, .nils, .nils, .nils,jZ,jZ,jZ,jZ, .nils, .nils, .nils]),(2000005,[7], .boxV Y1),(2000006,[8], .sl jT)],[]⟩) [] (z8g N)
def y1b:SLf f126:=pz (z9v N) [] 31309 ⟨[2,3,4,7,8,9,10,11,12,57],(sq [.ptr 2000000 0,.ptr 2000003 0,.ptr 2000004 0,.ptr 2000005 0,.own 2000006,jI,.ptr 2000007 0,jI,.int .u64,.bool]),[(2000000,[2], .box Sh1_),(2000001,[2,9], .sl jT),(2000002,[2,10], .sl (.int .u64)),(2000003,[3], .boxV Z9),(2000004,[4], .boxC [jZ, .nils, .nils, .nils, .nils,jZ,jZ,jZ,jZ, .nils, .nils, .nils]),(2000005,[7], .boxV Y1),(2000006,[8], .sl jT),(2000007,[10], .boxV Y6)],[]⟩ (0,⟨[2,3,4,7,8,9,11,12],(sq [.ptr 2000000 0,.ptr 2000003 0,.ptr 2000004 0,.ptr 2000005 0,.own 2000006,jI,jI,.int .u64]),[(2000000,[2], .box Sh1_),(2000001,[2,9], .sl jT),(2000002,[2,10], .sl (.int .u64)),(2000003,[3], .boxV Z9),(2000004,[4], .boxC [jZ, .nils, .nils, .nils, .nils,jZ,jZ,jZ,jZ, .nils, .nils, .nils]),(2000005,[7], .boxV Y1),(2000006,[8], .sl jT)],[]⟩) [(1,x4a)] (z6c N)
def y1c:SLf f126:=pz (z9v N) [y1a N] 15655 ⟨[2,3,4,7,8,9,11,12],(sq [.ptr 2000000 0,.ptr 2000003 0,.ptr 2000004 0,.ptr 2000005 0,.own 2000006,jI,jI,.int .u64]),[(2000000,[2], .box Sh1_),(2000001,[2,9], .sl jT),(2000002,[2,10], .sl (.int .u64)),(2000003,[3], .boxV Z9),(2000004,[4], .boxC [jZ, .nils, .nils, .nils, .nils,jZ,jZ,jZ,jZ, .nils, .nils, .nils]),(2000005,[7], .boxV Y1),(2000006,[8], .sl jT)],[]⟩ (0,⟨[2,3,4,7,8,9],(sq [.ptr 2000000 0,.ptr 2000003 0,.ptr 2000004 0,.ptr 2000005 0,.own 2000006,jI]),[(2000000,[2], .box Sh1_),(2000001,[2,9], .sl jT),(2000002,[2,10], .sl (.int .u64)),(2000003,[3], .boxV Z9),(2000004,[4], .boxC [jZ, .nils, .nils, .nils, .nils,jZ,jZ,jZ,jZ, .nils, .nils, .nils]),(2000005,[7], .boxV Y1),(2000006,[8], .sl jT)],[]⟩) [] (z6d N)
def y1d:SLf f126:=pz (z9v N) [] 979 ⟨[2,3,4,7,8,9],(sq [.ptr 2000000 0,.ptr 2000003 0,.ptr 2000004 0,.ptr 2000005 0,.own 2000006,jI]),[(2000000,[2], .box Sh1_),(2000001,[2,9], .sl jT),(2000002,[2,10], .sl (.int .u64)),(2000003,[3], .boxV Z9),(2000004,[4], .boxC [jZ, .nils, .nils, .nils, .nils,jZ,jZ,jZ,jZ, .nils, .nils, .nils]),(2000005,[7], .boxV Y1),(2000006,[8], .sl jT)],[]⟩ (0,⟨[2,3,4,7,8,9],(sq [.ptr 2000000 0,.ptr 2000003 0,.ptr 2000004 0,.ptr 2000005 0,.own 2000006,jI]),[(2000000,[2], .box Sh1_),(2000001,[2,9], .sl jT),(2000002,[2,10], .sl (.int .u64)),(2000003,[3], .boxV Z9),(2000004,[4], .boxC [jZ, .nils, .nils, .nils, .nils,jZ,jZ,jZ,jZ, .nils, .nils, .nils]),(2000005,[7], .boxV Y1),(2000006,[8], .sl jT)],[]⟩) [] (z6e N)
def y1e:SLf f126:=lz N (z9v N) [y1b N,y1c N,y1d N] 122 ⟨[2,3,4,7,8,9],(sq [.ptr 2000000 0,.ptr 2000003 0,.ptr 2000004 0,.ptr 2000005 0,.own 2000006,jI]),[(2000000,[2], .box Sh1_),(2000001,[2,9], .sl jT),(2000002,[2,10], .sl (.int .u64)),(2000003,[3], .boxV Z9),(2000004,[4], .boxC [jZ, .nils, .nils, .nils, .nils,jZ,jZ,jZ,jZ, .nils, .nils, .nils]),(2000005,[7], .boxV Y1),(2000006,[8], .sl jT)],[]⟩ (1,x4a) [(3,⟨[2,4,8],(sq [.ptr 2000000 0,.ptr 2000003 0,.own 2000004]),[(2000000,[2], .box Sh1_),(2000001,[2,9], .sl jT),(2000002,[2,10], .sl (.int .u64)),(2000003,[4], .boxC [jZ, .nils, .nils, .nils, .nils,jZ,jZ,jZ,jZ, .nils, .nils, .nils]),(2000004,[8], .sl jT)],[]⟩)] (z3w N)
def yba:SC PG:=fz (z9v N) func126 [y1e N] (sq [.val Y1,.val Z9]) (.tup (.cons (.val Y1) (.cons (.list jT) .bool))) [] (zir N)
def zuq:SE PG:=E0 [] [] []
def zz4:SLf f188:=lz N (zuq) [] 58 x49 (3,Cu7_) [] (z2s N)
def zj2:SC PG:=fz (zuq) func188 [zz4 N] (sq [.int .u64,jI]) (.fresh (.int .u8)) [] (z4q N)
def zud:SC PG:=fz (E0 [] [] [zj2 N]) func186 [] (sq [jI,jI]) (.fresh (.int .u8)) [] (z13 N)
def y3h:SE PG:=E0 [] [] []
def y55:SLf f185:=lz N (y3h) [] 58 (cu [.v 0 (.list (.list (.int .u8))),.s 3 (.int .u8),.v 4 jI]) (3,yqx) [] (z5c N)
def zxl:SC PG:=fz (y3h) func185 [y55 N] (.list (.list (.int .u8))) (.fresh (.int .u8)) [] (z9j N)
def y6g:SC PG:=fz (E0 [(J3,[8])] [] [zj2 N]) func186 [] (sq [jI,jI]) (.list (.int .u8)) [] (V4 N)
def zur:SE PG:=E0 [(J3,[2000000])] [] [zud N,zul N]
def zz5:SLf f187:=lz N (zur N) [] 58 (cu [.v 0 (.list Z5),.s 3 (.int .u8),.v 4 jI]) (3,yqx) [] (z2t N)
def ya3:SC PG:=fz (zur N) func187 [zz5 N] (.list Z5) (.list (.int .u8)) [] (zfk N)
def zqw:SE PG:=E0 [(J3,[2000000])] [] []
def zu0:SLf f188:=lz N (zqw) [] 58 x49 (3,Cu7_) [] (z1a N)
def y2j:SC PG:=fz (zqw) func188 [zu0 N] (sq [.int .u64,jI]) (.list (.int .u8)) [] (z8f N)
def zjh:SE PG:=E0 [(2000040,[23]),(3000070,[70]),(3000108,[108])] [] [y6g N,ya3 N,zxl N,y2j N]
def zvv:SLf f127:=lz N (zjh N) [] 250 (cu [.b 2 Z9,.b 3 Y1,.s 5 (.int .u8),.v 8 jI]) (5,Cu7_) [] (z1z N)
def zvw:SLf f127:=lz N (zjh N) [] 58 (cu [.b 2 Z9,.b 3 Y1,.s 5 (.int .u8),.v 6 jI]) (3,(cu [.b 2 Z9,.b 3 Y1,.s 5 (.int .u8)])) [] (z20 N)
def y6i:SC PG:=fz (zjh N) func127 [zvw N,zvv N] (sq [.val Z9,.val Y1]) (.fresh (.int .u8)) [] (zgq N)
def zus:SE PG:=E0 [] [] []
def zz6:SLf f128:=lz N (zus) [] 28 (cu [.v 0 (.list (.int .u8)),.v 1 jI,.s 5 (.list (.int .u8))]) (3,(cu [.v 0 (.list (.int .u8)),.s 5 (.list (.int .u8))])) [] (z6u N)
def ya4:SC PG:=fz (zus) func128 [zz6 N] (sq [.list (.int .u8),jI]) (.fresh (.list (.int .u8))) [] (zko N)
def ybd:SC PG:=fz (E0 [(J3,[5,10])] [] [zd4 N]) func131 [] (.val K0) (.val K0) [] (zaw N)
def zt8:SE PG:=E0 [(J3,[40]),(2000021,[9,11,14,17,20])] [] [zud N,zuh N,zj2 N,zxl N]
def zvu:SLf f132:=lz N (zt8 N) [] 58 (cu [.v 2 (.list jT),.s 7 (.int .u8),.v 8 jI]) (3,(cu [.s 7 (.int .u8)])) [] (z1y N)
def y6h:SC PG:=fz (zt8 N) func132 [zvu N] (sq [jI,.list (.int .u8),.list jT]) (.list (.int .u8)) [] (zgp N)
def y90:SE PG:=E0 [] [] []
def y9l:SLf f190:=lz N (y90) [] 26 (cu [.v 0 (.list jT),.v 1 jI,.v 5 jI]) (1,Cu0_) [(3,zif)] (zep N)
def yj4:SC PG:=fz (y90) func190 [y9l N] (sq [.list jT,jI]) .bool [] (yho N)
def zrz:SE PG:=E0 [(J3,[2000001])] [] [yj4 N]
def y58:SLf f133:=pz (zrz N) [] 13 (cu [.v 1 jI,.b 2 V1,.z 4 [.nils,.nils,jZ],.v 29 .bool]) (1,(cu [.b 4 V1,.v 5 jI])) [(0,Cu3_)] (zcm N)
def y59:SLf f133:=pz (zrz N) [] 7 Cu3_ (1,⟨[4,5],(sq [.ptr 2000000 0,jI]),[(2000000,[4], .box (.cons (.list .bool) (.cons (.own 2000001) (.int .i64)))),(2000001,[4,1], .sl jT)],[]⟩) [] (zcn N)
def yfp:SC PG:=fz (zrz N) func133 [y58 N,y59 N] (sq [.val V1,jI]) (.tup (.cons (.val V1) jR)) [] (ycn N)
def zut:SE PG:=E0 [(J3,[2000002])] [] []
def zz7:SLf f134:=lz N (zut) [] 58 (cu [.b 1 V1,.z 2 [.nils,.nils,jZ],.s 3 .bool,.v 4 jI]) (3,(cu [.b 1 V1,.z 2 [.nils,.nils,jZ],.s 3 .bool])) [] (z6v N)
def ya5:SC PG:=fz (zut) func134 [zz7 N] (.val V1) (.val V1) [] (zfl N)
def zry:SE PG:=E0 [(6,[30]),(16,[2000003])] [] [yba N,y6i N,ya4 N,yb9 N,ybd N,y6h N,zrn N,yfp N,ya5 N]
def y56:SLf f78:=lz N (zry N) [] 65530 (cu [.b 2 Y1,.z 4 [jZ,.nils,.nils,.nils,.nils,jZ,jZ,jZ,jZ,.nils,.nils,.nils,jZ],.s 6 jT,.v 10 (.list jT),.v 15 jI]) (5,(cu [.b 2 Y1,.z 4 [jZ,.nils,.nils,.nils,.nils,jZ,jZ,jZ,jZ,.nils,.nils,.nils,jZ],.v 10 (.list jT)])) [] (zdk N)
def y57:SLf f78:=lz N (zry N) [] 1018 (cu [.b 2 Y1,.z 4 [jZ,.nils,.nils,.nils,.nils,jZ,jZ,jZ,jZ,.nils,.nils,.nils,jZ],.b 5 Y1,.v 6 (.list jT),.v 8 (.list (.int .u8)),.s 9 (.list (.int .u8)),.s 10 jT,.v 11 jI]) (1,(cu [.b 4 zie])) [(3,(cu [.b 2 Y1,.z 4 [jZ,.nils,.nils,.nils,.nils,jZ,jZ,jZ,jZ,.nils,.nils,.nils,jZ],.b 5 Y1,.v 6 (.list jT),.v 8 (.list (.int .u8)),.s 10 jT]))] (z5d N)
def yfl:SC PG:=fz (zry N) func78 [y57 N,y56 N] (sq [.val Y1,.val Z9]) (.val zie) [] (znh N)
def y2v:SC PG:=fz (E0 [] [] [yj3 N,yfl N]) func35 [] (sq [.val K0,jI,.val Z9]) (.val zie) [] (zwy N)
def y70:SC PG:=fz (E0 [(2000017,[16])] [] [y2y N,y2z N,y2w N,y2v N]) func32 [] .nil (.val z8j) [] (zy5 N)
def yjc:SC PG:=fz E1 func136 [] (sq [.val (.list Y6),jI]) .bool [] (zx3 N)
def zz1:SM PG:=mz E1 func80 [] ⟨[0,1],(sq [jI,.ptr 5000000 0]),[(5000000,[1], .box (.own 5000001)),(5000001,[1,0], .sl jT)],[]⟩ ⟨[0],(.tup .nil),[(5000000,[5000000], .box (.own 2000001)),(2000001,[5000000,0], .sl jT)],[]⟩ [] (zdi N)
def z3c(self:Int->(List Z8)->(List Int)->Bool->(List Int)->Option ((Unit×((List Z8)×(Unit×((List Int)×(Bool×((Unit×(Unit×(Unit×(Unit×Unit))))×(Unit×(Unit×((List Int)×Unit))))))))))):CtrM:=ctrM ⟨[0,1,2,3,4,5],(sq [jI,.ptr 5000000 0,.ptr 5000001 0,.ptr 5000003 0,.ptr 5000004 0,.ptr 5000005 0]),[(5000000,[1], .box (.list Y6)),(5000001,[2], .box (.own 5000002)),(5000002,[2,0], .sl jT),(5000003,[3], .box .bool),(5000004,[4], .box (.clo 135 Sh6_)),(5000005,[4,0,4], .box (.clo 80 (.ptr 5000006 0))),(5000006,[4,0,4,0,0], .box (.own 5000007)),(5000007,[4,0,4,0,0,0], .sl jT)],[]⟩ ⟨[0],(.tup .nil),[(5000000,[5000000], .box (.list Y6)),(5000001,[5000001], .box (.own 5000002)),(5000002,[5000002], .sl jT),(5000003,[5000003], .box .bool),(5000004,[5000004], .box (.clo 135 Sh6_)),(5000005,[5000005], .box (.clo 80 (.ptr 5000006 0))),(5000006,[5000006], .box (.own 2000007)),(2000007,[5000006,0], .sl jT)],[]⟩ [] (Cut.c ⟨[0,1,2,3,4,5],(sq [jI,.ptr 5000000 0,.ptr 5000001 0,.ptr 5000003 0,.ptr 5000004 0,.ptr 5000005 0]),[(5000000,[1], .box (.list Y6)),(5000001,[2], .box (.own 5000002)),(5000002,[2,0], .sl jT),(5000003,[3], .box .bool),(5000004,[4], .box (.clo 135 Sh6_)),(5000005,[4,0,4], .box (.clo 80 (.ptr 5000006 0))),(5000006,[4,0,4,0,0], .box (.own 5000007)),(5000007,[4,0,4,0,0,0], .sl jT)],[]⟩|>.ap self)
def zor(self:Int->(List Z8)->(List Int)->Bool->(List Int)->Option ((Unit×((List Z8)×(Unit×((List Int)×(Bool×((Unit×(Unit×(Unit×(Unit×Unit))))×(Unit×(Unit×((List Int)×Unit)))))))))))(hs:zef PG 135 (z3c self)):SE PG:=E0 [] [42,49] [yjc N] [⟨135,z3c self,hs⟩,zz1 N]
def ztm(self:Int->(List Z8)->(List Int)->Bool->(List Int)->Option ((Unit×((List Z8)×(Unit×((List Int)×(Bool×((Unit×(Unit×(Unit×(Unit×Unit))))×(Unit×(Unit×((List Int)×Unit)))))))))))(hs:zef PG 135 (z3c self)):SLf f135:=lz N (zor N self hs) [] 122 ⟨[0,2,4,5,34,35,36],(sq [jI,.ptr 5000001 0,.ptr 5000004 0,.ptr 5000005 0,.list jT,jI,jI]),[(5000001,[5000001], .box (.own 5000002)),(5000002,[5000002], .sl jT),(5000004,[5000004], .box (.clo 135 Sh6_)),(5000000,[5000000], .box (.list Y6)),(5000003,[5000003], .box .bool),(5000005,[5000005], .box (.clo 80 (.ptr 5000006 0))),(5000006,[5000006], .box (.own 2000007)),(2000007,[5000006,0], .sl jT)],[]⟩ (3,⟨[0,2,5],(sq [jI,.ptr 5000001 0,.ptr 5000005 0]),[(5000001,[5000001], .box (.own 5000002)),(5000002,[5000002], .sl jT),(5000005,[5000005], .box (.clo 80 (.ptr 5000006 0))),(5000006,[5000006], .box (.own 2000004)),(2000004,[5000006,0], .sl jT),(5000000,[5000000], .box (.list Y6)),(5000003,[5000003], .box .bool),(5000004,[5000004], .box (.clo 135 Sh6_))],[]⟩) [] (z0v N self)
def y01(self:Int->(List Z8)->(List Int)->Bool->(List Int)->Option ((Unit×((List Z8)×(Unit×((List Int)×(Bool×((Unit×(Unit×(Unit×(Unit×Unit))))×(Unit×(Unit×((List Int)×Unit)))))))))))(hs:zef PG 135 (z3c self)):SM PG:=mz (zor N self hs) func135 [ztm N self hs] ⟨[0,1,2,3,4,5],(sq [jI,.ptr 5000000 0,.ptr 5000001 0,.ptr 5000003 0,.ptr 5000004 0,.ptr 5000005 0]),[(5000000,[1], .box (.list Y6)),(5000001,[2], .box (.own 5000002)),(5000002,[2,0], .sl jT),(5000003,[3], .box .bool),(5000004,[4], .box (.clo 135 Sh6_)),(5000005,[4,0,4], .box (.clo 80 (.ptr 5000006 0))),(5000006,[4,0,4,0,0], .box (.own 5000007)),(5000007,[4,0,4,0,0,0], .sl jT)],[]⟩ ⟨[0],(.tup .nil),[(5000000,[5000000], .box (.list Y6)),(5000001,[5000001], .box (.own 5000002)),(5000002,[5000002], .sl jT),(5000003,[5000003], .box .bool),(5000004,[5000004], .box (.clo 135 Sh6_)),(5000005,[5000005], .box (.clo 80 (.ptr 5000006 0))),(5000006,[5000006], .box (.own 2000007)),(2000007,[5000006,0], .sl jT)],[]⟩ [] (z3a N self)
def zz0:SM PG:=x5k (f:=135) z3c (fun _ _ _ _ _=>none) (z3a N) (yuv fun _=>rfl) (fun self hs=>(y01 N self hs).h) N
def z8m:SE PG:=E0 [] [25] [] [zz0 N]
def zds:SLf f79:=lz N (z8m N) [] 506 ⟨[8,9,17,18,19],(sq [.ptr 2000000 0,.ptr 2000001 0,.list jT,jI,jI]),[(2000000,[8], .box .bool),(2000001,[9], .box (.clo 135 (.cons (.ptr 2000002 0) (.cons (.ptr 2000003 0) (.cons (.ptr 2000000 0) (.cons (.ptr 2000001 0) (.ptr 2000005 0))))))),(2000002,[9,0,0], .box (.list Y6)),(2000003,[9,0,1], .box (.own 2000004)),(2000004,[9,0,1,0], .sl jT),(2000005,[9,0,4], .box (.clo 80 (.ptr 5000000 0))),(5000000,[5000000], .box (.own 2000007)),(2000007,[5000000,0], .sl jT)],[]⟩ (3,⟨[8],(.ptr 2000000 0),[(2000000,[8], .box .bool),(5000000,[5000000], .box (.own 2000002)),(2000002,[5000000,0], .sl jT)],[]⟩) [] (K9 N)
def zg5:SM PG:=mz (z8m N) func79 [zds N] ⟨[0,1,2],(sq [.val (.list Y6),.list jT,.clo 80 (.ptr 5000000 0)]),[(5000000,[2,0], .box (.own 5000001)),(5000001,[2,0,0], .sl jT)],[]⟩ ⟨[0], .bool,[(5000000,[5000000], .box (.own 2000001)),(2000001,[5000000,0], .sl jT)],[]⟩ [] (pool_visit_m__pool_Reach_c1 N)
def lay_slices_Sort_s_int_int_m_ren:Go.Shelf.Ren:=⟨fun | 189=>81 | 125=>138 | 257=>137 | 128=>200 | 129=>201 | 294=>191 | 295=>192 | 296=>193 | 297=>194 | 298=>195 | 299=>196 | 216=>197 | 300=>198 | 301=>199 | 328=>244 | 329=>245 | 330=>246 | 331=>247 | 332=>248 | 215=>249 | 343=>289 | n=>n,fun | 28=>27 | 3=>3 | 46=>240 | 0=>0 | 51=>310 | 53=>103 | 4=>4 | 183=>304 | 182=>303 | 131=>117 | 5=>5 | 9=>9 | 218=>347 | 222=>351 | 228=>404 | 229=>366 | n=>n,fun n=>n⟩
theorem zkk:Go.Proofs.Lays.n189 PG lay_slices_Sort_s_int_int_m_ren:={
 mixed:=by kernel_rfl
 f125:=func138.trans (congrArg some (by kernel_rfl))
 f128:=func200.trans (congrArg some (by kernel_rfl))
 f129:=func201.trans (congrArg some (by kernel_rfl))
 f189:=func81.trans (congrArg some (by kernel_rfl))
 f215:=func249.trans (congrArg some (by kernel_rfl))
 f216:=func197.trans (congrArg some (by kernel_rfl))
 f257:=func137.trans (congrArg some (by kernel_rfl))
 f294:=func191.trans (congrArg some (by kernel_rfl))
 f295:=func192.trans (congrArg some (by kernel_rfl))
 f296:=func193.trans (congrArg some (by kernel_rfl))
 f297:=func194.trans (congrArg some (by kernel_rfl))
 f298:=func195.trans (congrArg some (by kernel_rfl))
 f299:=func196.trans (congrArg some (by kernel_rfl))
 f300:=func198.trans (congrArg some (by kernel_rfl))
 f301:=func199.trans (congrArg some (by kernel_rfl))
 f328:=func244.trans (congrArg some (by kernel_rfl))
 f329:=func245.trans (congrArg some (by kernel_rfl))
 f330:=func246.trans (congrArg some (by kernel_rfl))
 f331:=func247.trans (congrArg some (by kernel_rfl))
 f332:=func248.trans (congrArg some (by kernel_rfl))
 f343:=func289.trans (congrArg some (by kernel_rfl))
 t0:=Tryz.underlying0
 a0:=Tryz.isAgg0
 z0:=Tryz.sizeOf0
 v0:=Tryz.zeroValue0
 t3:=Tryz.underlying3
 a3:=Tryz.isAgg3
 z3:=Tryz.sizeOf3
 v3:=Tryz.zeroValue3
 t4:=Tryz.underlying4
 a4:=Tryz.isAgg4
 z4:=Tryz.sizeOf4
 v4:=Tryz.zeroValue4
 t5:=Tryz.underlying5
 a5:=Tryz.isAgg5
 z5:=Tryz.sizeOf5
 v5:=Tryz.zeroValue5
 t9:=Tryz.underlying9
 a9:=Tryz.isAgg9
 z9:=Tryz.sizeOf9
 v9:=Tryz.zeroValue9
 t28:=Tryz.underlying27
 a28:=Tryz.isAgg27
 z28:=Tryz.sizeOf27
 v28:=Tryz.zeroValue27
 t46:=Tryz.underlying240
 a46:=Tryz.isAgg240
 z46:=Tryz.sizeOf240
 v46:=Tryz.zeroValue240
 t51:=Tryz.underlying310
 a51:=Tryz.isAgg310
 z51:=Tryz.sizeOf310
 v51:=Tryz.zeroValue310
 t53:=Tryz.underlying103
 a53:=Tryz.isAgg103
 z53:=Tryz.sizeOf103
 v53:=Tryz.zeroValue103
 t131:=Tryz.underlying117
 a131:=Tryz.isAgg117
 z131:=Tryz.sizeOf117
 v131:=Tryz.zeroValue117
 t182:=Tryz.underlying303
 a182:=Tryz.isAgg303
 z182:=Tryz.sizeOf303
 v182:=Tryz.zeroValue303
 t183:=Tryz.underlying304
 a183:=Tryz.isAgg304
 z183:=Tryz.sizeOf304
 v183:=Tryz.zeroValue304
 t218:=Tryz.underlying347
 a218:=Tryz.isAgg347
 z218:=Tryz.sizeOf347
 v218:=Tryz.zeroValue347
 t222:=Tryz.underlying351
 a222:=Tryz.isAgg351
 z222:=Tryz.sizeOf351
 v222:=Tryz.zeroValue351
 t228:=Tryz.underlying404
 a228:=Tryz.isAgg404
 z228:=Tryz.sizeOf404
 v228:=Tryz.zeroValue404
 t229:=Tryz.underlying366
 a229:=Tryz.isAgg366
 z229:=Tryz.sizeOf366
 v229:=Tryz.zeroValue366
 }
def zo0:Code:=match f81.body with | some c=>c | none=> .skip
def z9w(N:Nat):CtrM:=ctrM sortIn sortOut [] (fun v=>z3m N v.2.1)
theorem zgb(N:Nat):zef PG 81 (z9w N):=by
 have e1:lay_slices_Sort_s_int_int_m_ren.f 189=81:=by kernel_rfl
 have h:=ypg zkk (fn:=f81) (c:=zo0) (by rw[e1];exact func81) (by kernel_rfl) (by kernel_rfl);rw[e1]at h;exact h
def zlf:SM PG:=⟨81,z9w N,zgb N⟩
def ygf:SC PG:=fz (E0 [] [9,11] [] [zg5 N,zlf N]) func38 [] (sq [.val (.list Y6),.list jT]) (.fresh jT) [] (zdz N)
def zxj:SC PG:=fz E1 func39 [] (sq [.val Y1,jI]) (.tup (.cons jR .bool)) [] (zgh N)
def zq7:SE PG:=E0 [(J3,[2000002,2000003])] [] [ygf N,zxj N]
def y18:SLf f16:=lz N (zq7 N) [] 250 ⟨[2,4,8,32,33,34],(sq [.ptr 2000000 0,.ptr 2000001 0,.ptr 2000002 0,.own 2000005,jI,jI]),[(2000000,[2], .boxV Y1),(2000001,[4], .boxC [.nils, .nils,jZ]),(2000002,[8], .box (.cons (.own 2000003) (.cons (.own 2000004) (.int .i64)))),(2000003,[8,0], .sl jT),(2000004,[8,1], .sl jT),(2000005,[32], .sl jT)],[]⟩ (5,⟨[4,8],(sq [.ptr 2000000 0,.ptr 2000001 0]),[(2000000,[4], .boxC [.nils, .nils,jZ]),(2000001,[8], .box x03),(2000002,[8,0], .sl jT),(2000003,[8,1], .sl jT)],[]⟩) [] (z3u N)
def y19:SLf f16:=lz N (zq7 N) [] 58 (cu [.b 2 Y1,.b 3 Z9,.z 4 [.nils,.nils,jZ],.s 5 jT,.v 17 (.list z7p),.v 18 jI,.v 19 jI]) (3,(cu [.b 2 Y1,.b 3 Z9,.z 4 [.nils,.nils,jZ],.s 5 jT])) [] (z3v N)
def zuc:SC PG:=fz (zq7 N) func16 [y19 N,y18 N] (sq [.val Y1,.val Z9]) (.val z15) [] (ze5 N)
def zxk:SC PG:=fz E1 func19 [] (.val z15) .bool [] (znf N)
def clone82_ren:Go.Shelf.Ren:=⟨fun | 41=>82 | n=>n,fun | 22=>27 | 23=>3 | n=>n,fun n=>n⟩
theorem x1s:CloneL PG clone82_ren:={
 mixed:=by kernel_rfl
 f41:=⟨f82.name,by decide,func82.trans (congrArg some (by kernel_rfl))⟩
 t4:=Tryz.underlying4
 a4:=Tryz.isAgg4
 z4:=Tryz.sizeOf4
 v4:=Tryz.zeroValue4
 t22:=Tryz.underlying27
 a22:=Tryz.isAgg27
 z22:=Tryz.sizeOf27
 v22:=Tryz.zeroValue27
 }
def zou:Code:=match f82.body with | some c=>c | none=> .skip
def zab(N:Nat):Ctr:=znz (.list jT) (.fresh jT) [] (fun v=>z18 N v)
def ti_slices_Clone_s_int_int:TI:=match yh8 tyRows 3 with | some t=>t | none=>⟨.other,0,0,[],none⟩
theorem zil(N:Nat):z77 PG 82 (fun vs=>(zab N).run vs some):=by
 have e1:clone82_ren.f 41=82:=by kernel_rfl
 have e2:clone82_ren.t 23=3:=by kernel_rfl
 have h:=y97 x1s (ei:=ti_slices_Clone_s_int_int) (ty:=(.int .i64)) (fn:=f82) (c:=zou) (by rw[e2];exact zwj zws 3 _ (by kernel_rfl)) (by kernel_rfl) (by rw[e1];exact func82) (by kernel_rfl) (by kernel_rfl);rw[e1,show ti_slices_Clone_s_int_int.bytes=8 by kernel_rfl]at h;exact h
def zb8:SC PG:=⟨82,zab N,zil N⟩
def y8j:SC PG:=fz E1 func43 [] (sq [.val K0,jI]) .bool [] (zwk N)
def z9i:SC PG:=fz (E0 [(J3,[1])] [] []) func156 [] (.list Q6) (.clo 229 (.bx (.list Q6) 0)) [] (z05 N)
def zyz:SR PG:=rz E1 1 ([]:List (SLf f97)) ([]:List (SLf f97)) 116 117 ⟨[15,16,3,4,5],(sq [jI,.agg (.cons .bool (.cons jI (.list (.int .u8)))),.ptr 5000000 0,.ptr 5000001 0,.ptr 5000003 0]),[(5000000,[3], .box (.int .i64)),(5000001,[4], .box (.own 5000002)),(5000002,[4,0], .sl (.int .u8)),(5000003,[5], .box (.int .i64))],[]⟩ (1,⟨[], .nil,[(5000000,[5000000], .box (.int .i64)),(5000001,[5000001], .box (.list (.int .u8))),(5000002,[5000002], .sl (.int .u8)),(5000003,[5000003], .boxC [jZ])],[]⟩) [(0,⟨[], .nil,[(5000000,[5000000], .box (.int .i64)),(5000001,[5000001], .box (.own 5000002)),(5000002,[5000002], .sl (.int .u8)),(5000003,[5000003], .box (.int .i64))],[]⟩)] (zjj N)
def z0p:SE PG:=E0 [] [17] [] [] [zyz N]
def z5b:SLf f229:=lz N (z0p N) [] 6 ⟨[0,1,3],(sq [.yld 5000000,.bx (.list Q6) 0,jI]),[(5000000,[5000000], .rng 1 Sh7_ 0),(5000001,[5000001], .box (.int .i64)),(5000002,[5000002], .box (.own 5000003)),(5000003,[5000003], .sl (.int .u8)),(5000004,[5000004], .box (.int .i64))],[]⟩ (1,⟨[], .nil,[(5000000,[5000000], .rng 1 Sh7_ 1),(5000001,[5000001], .box (.int .i64)),(5000002,[5000002], .box (.list (.int .u8))),(5000004,[5000004], .boxC [jZ]),(5000003,[5000003], .sl (.int .u8))],[]⟩) [(3,⟨[], .nil,[(5000000,[5000000], .rng 1 Sh7_ 0),(5000001,[5000001], .box (.int .i64)),(5000002,[5000002], .box (.own 5000003)),(5000003,[5000003], .sl (.int .u8)),(5000004,[5000004], .box (.int .i64))],[]⟩)] (Q2 N)
def z78:SM PG:=mz (z0p N) func229 [z5b N] ⟨[0,1],(sq [.yld 5000000,.bx (.list Q6) 0]),[(5000000,[0], .rng 1 Sh7_ 0),(5000001,[0,0], .box (.int .i64)),(5000002,[0,1], .box (.own 5000003)),(5000003,[0,1,0], .sl (.int .u8)),(5000004,[0,2], .box (.int .i64))],[]⟩ ⟨[0],(.tup .nil),[(5000000,[5000000], .rng 1 Sh7_ 1),(5000001,[5000001], .box (.int .i64)),(5000002,[5000002], .box (.list (.int .u8))),(5000004,[5000004], .boxC [jZ]),(5000003,[5000003], .sl (.int .u8))],[]⟩ [⟨[0],(.tup .nil),[(5000000,[5000000], .rng 1 Sh7_ 0),(5000001,[5000001], .box (.int .i64)),(5000002,[5000002], .box (.own 5000003)),(5000003,[5000003], .sl (.int .u8)),(5000004,[5000004], .box (.int .i64))],[]⟩] (y5 N)
def ydm:SE PG:=E0 [] [] [y8j N,z9i N] [z78 N]
def yb6:SLf f97:=gz (ydm N) 1 58 (.tmp 14) ⟨[2,3,4,5,14],(sq [.ptr 2000000 0,.ptr 2000001 0,.ptr 2000002 0,.ptr 2000003 0,.clo 229 (.bx (.list Q6) 0)]),[(2000000,[2], .boxV K0),(2000001,[3], .box (.int .i64)),(2000002,[4], .boxC [.nils]),(2000003,[5], .boxC [jZ])],[]⟩ (1,⟨[4,5],(sq [.ptr 2000000 0,.ptr 2000001 0]),[(2000000,[4], .box (.list (.int .u8))),(2000001,[5], .boxC [jZ])],[]⟩) [(0,⟨[2,3,4,5],(sq [.ptr 2000000 0,.ptr 2000001 0,.ptr 2000002 0,.ptr 2000004 0]),[(2000000,[2], .boxV K0),(2000001,[3], .box (.int .i64)),(2000002,[4], .box (.own 2000003)),(2000003,[4,0], .sl (.int .u8)),(2000004,[5], .box (.int .i64))],[]⟩)] (zvl N)
def y8l:SC PG:=fz (ydm N) func97 [yb6 N] (sq [.val K0,jI]) (.tup (.cons (.list (.int .u8)) jR)) [] (zwl N)
def y3x:SE PG:=E0 [] [] []
def y65:SLf f99:=lz N (y3x) [] 58 (cu [.v 3 (.int .u64),.v 6 (.list (.int .u8)),.v 7 jI,.v 8 jI]) (3,(cu [.v 3 (.int .u64)])) [] (z62 N)
def zpu:SC PG:=fz (y3x) func99 [y65 N] (.list (.int .u8)) (.int .u64) [] (z82 N)
def zzu:SC PG:=fz (E0 [] [] [y8l N,zpu N]) func84 [] (sq [.bx (.cons (.list jT) (.cons (.list jT) (.cons jI (.cons jI (.cons (.list (.list (.int .u8))) (.cons (.list Q6) (.cons (.list .bool) (.cons (.list jT) (.cons jI (.cons jI (.cons jI (.cons jI (.cons (.list jT) (.cons (.list (.int .u64)) (.list jT))))))))))))))) 0,jI,jI]) .bool [] (zd3 N)
def ztl:SM PG:=mz E1 func83 [] ⟨[0],(.ptr 5000000 0),[(5000000,[0], .box (.cons (.list jT) (.cons (.own 5000001) Sh0_))),(5000001,[0,1], .sl jT)],[]⟩ ⟨[0],(.clo 139 (.ptr 2000000 0)),[(2000000,[0,0], .box (.ptr 5000000 0)),(5000000,[5000000], .box (.cons (.list jT) (.cons (.own 5000001) Sh0_))),(5000001,[5000001], .sl jT)],[]⟩ [] (zdj N)
def ztx:SR PG:=rz (E0 [] [] [zzu N]) 0 ([]:List (SLf f40)) ([]:List (SLf f40)) 500 501 ⟨[27,28,5,8],(sq [jI,jI,.ptr 5000000 0,.ptr 5000001 0]),[(5000000,[5], .box (.int .i64)),(5000001,[8], .box (.ptr 5000002 0)),(5000002,[8,0], .box (.cons (.list jT) (.cons (.own 5000003) Sh0_))),(5000003,[8,0,1], .sl jT)],[]⟩ (3,⟨[], .nil,[(5000000,[5000000], .box (.int .i64)),(5000001,[5000001], .box (.ptr 5000002 0)),(5000002,[5000002], .box yvy),(2000003,[5000002,1], .sl jT)],[]⟩) [(0,⟨[], .nil,[(5000000,[5000000], .box (.int .i64)),(5000001,[5000001], .box (.ptr 5000002 0)),(5000002,[5000002], .box yvy),(2000003,[5000002,1], .sl jT)],[]⟩)] (za2 N)
def zbp:SE PG:=E0 [] [34] [zxj N] [] [ztx N]
def zgc:SLf f139:=lz N (zbp N) [] 2 ⟨[0,1],(sq [.yld 5000000,.ptr 5000005 0]),[(5000005,[5000005], .box (.ptr 5000003 0)),(5000003,[5000003], .box (.cons (.list jT) (.cons (.own 2000002) Sh0_))),(2000002,[5000003,1], .sl jT),(5000000,[5000000], .rng 0 yl7 0),(5000001,[5000001], .box (.int .i64)),(5000002,[5000002], .box (.ptr 5000003 0))],[]⟩ (1,⟨[], .nil,[(5000000,[5000000], .rng 0 yl7 3),(5000001,[5000001], .box (.int .i64)),(5000002,[5000002], .box (.ptr 5000003 0)),(5000003,[5000003], .box yqt),(2000004,[5000003,1], .sl jT),(5000005,[5000005], .box (.ptr 5000003 0))],[]⟩) [(3,⟨[], .nil,[(5000000,[5000000], .rng 0 yl7 0),(5000001,[5000001], .box (.int .i64)),(5000002,[5000002], .box (.ptr 5000003 0)),(5000003,[5000003], .box yqt),(2000004,[5000003,1], .sl jT),(5000005,[5000005], .box (.ptr 5000003 0))],[]⟩)] (G2 N)
def zlg:SM PG:=mz (zbp N) func139 [zgc N] ⟨[0,1],(sq [.yld 5000000,.ptr 5000005 0]),[(5000000,[0], .rng 0 yl7 0),(5000001,[0,0], .box (.int .i64)),(5000002,[0,1], .box (.ptr 5000003 0)),(5000003,[0,1,0], .box (.cons (.list jT) (.cons (.own 5000004) Sh0_))),(5000004,[0,1,0,1], .sl jT),(5000005,[1], .box (.ptr 5000003 0))],[]⟩ ⟨[0],(.tup .nil),[(5000000,[5000000], .rng 0 yl7 3),(5000001,[5000001], .box (.int .i64)),(5000002,[5000002], .box (.ptr 5000003 0)),(5000003,[5000003], .box yqt),(2000004,[5000003,1], .sl jT),(5000005,[5000005], .box (.ptr 5000003 0))],[]⟩ [⟨[0],(.tup .nil),[(5000000,[5000000], .rng 0 yl7 0),(5000001,[5000001], .box (.int .i64)),(5000002,[5000002], .box (.ptr 5000003 0)),(5000003,[5000003], .box yqt),(2000004,[5000003,1], .sl jT),(5000005,[5000005], .box (.ptr 5000003 0))],[]⟩] (z86 N)
def y3g:SE PG:=E0 [(J3,[2000003])] [26] [zb8 N] [ztl N,zlg N]
def y54:SLf f40:=gz (y3g N) 0 250 (.tmp 26) ⟨[5,6,8,26],(sq [.ptr 2000000 0,.ptr 2000001 0,.ptr 2000002 0,.clo 139 (.ptr 2000005 0)]),[(2000000,[5], .box (.int .i64)),(2000001,[6], .boxC [.nils, .nils,jZ]),(2000002,[8], .box (.ptr 2000003 0)),(2000003,[8,0], .box yqt),(2000004,[8,0,1], .sl jT),(2000005,[26,0], .box (.ptr 2000003 0))],[]⟩ (3,⟨[6,8],(sq [.ptr 2000000 0,.ptr 2000001 0]),[(2000000,[6], .boxC [.nils, .nils,jZ]),(2000001,[8], .box (.ptr 2000002 0)),(2000002,[8,0], .box yvy),(2000003,[8,0,1], .sl jT)],[]⟩) [(0,⟨[6,8],(sq [.ptr 2000000 0,.ptr 2000001 0]),[(2000000,[6], .boxC [.nils, .nils,jZ]),(2000001,[8], .box (.ptr 2000002 0)),(2000002,[8,0], .box yvy),(2000003,[8,0,1], .sl jT)],[]⟩)] (zpo N)
def yfh:SC PG:=fz (y3g N) func40 [y54 N] (sq [.val z15,.val Y1,jI]) (.tup (.cons (.val z15) jR)) [] (y09 N)
def zxt:SC PG:=fz (E0 [] [] [yfh N]) func17 [] (sq [.val z15,.val Y1,jI]) (.val y44) [] (z83 N)
def y3i:SE PG:=E0 [(J3,[2000002])] [] [zd4 N]
def y5a:SLf f33:=lz N (y3i N) [] 58 ⟨[1,2,3,4],(sq [.ptr 2000000 0,.ptr 2000001 0,.ptr 2000002 0,jI]),[(2000000,[1], .boxV K0),(2000001,[2], .boxC [jZ, .nils, .nils]),(2000002,[3], .box (.cons (.int .i64) (.cons (.own 2000003) (.own 2000004)))),(2000003,[3,1], .sl (.list (.int .u8))),(2000004,[3,2], .sl Q6)],[]⟩ (3,⟨[2,3],(sq [.ptr 2000000 0,.ptr 2000001 0]),[(2000000,[2], .boxC [jZ, .nils, .nils]),(2000001,[3], .box (.cons (.int .i64) (.cons (.own 2000002) (.own 2000003)))),(2000002,[3,1], .sl (.list (.int .u8))),(2000003,[3,2], .sl Q6)],[]⟩) [] (z5e N)
def zxn:SC PG:=fz (y3i N) func33 [y5a N] (.val K0) (.val K0) [] (zgt N)
def yfj:SC PG:=fz E1 func21 [] (sq [.val Y1,jI]) jR [] (y0f N)
def yj5:SC PG:=fz (E0 [(J3,[42,30,30,4126])] [] [zpp N,zd4 N]) func37 [] (sq [.val K0,.val y43]) (.tup (.cons (.val K0) jR)) [] (yhp N)
def ya2:SC PG:=fz (E0 [] [] [yfj N,y2x N,yj5 N]) func14 [] (sq [.val Y1,.list jT,.val y9c]) (.tup (.cons (.val Y1) jR)) [] (y39 N)
def y3p:SE PG:=E0 [] [] []
def y5n:SLf f23:=lz N (y3p) [] 58 (cu [.v 0 (.list jT),.v 1 (.list jT),.v 5 jI]) (1,Cu0_) [(3,zif)] (zdl N)
def zxq:SC PG:=fz (y3p) func23 [y5n N] (sq [.list jT,.list jT]) .bool [] (zst N)
def yfi:SC PG:=fz (E0 [] [] [zxq N]) func15 [] (sq [.val z15,.val z15]) .bool [] (ycm N)
def zms:SE PG:=E0 [] [] [y70 N,zuc N,zxk N,zxt N,zxn N,ya2 N,zxq N,yfi N]
def zzs:SLf f11:=pz (zms N) [] 4095 yw1 (1,yw1) [] (z0s N)
def zzt:SLf f11:=pz (zms N) [zzs N] 31 (cu [.b 1 z8j,.b 2 z15]) (1,yw1) [] (zt6 N)
def yao:SC PG:=fz (zms N) func11 [zzt N] .nil .bool [] (zfs N)
def ybe:SC PG:=fz E1 func76 [] (.int .u8) (.val z59) [] (zox N)
def zxr:SC PG:=fz E1 func147 [] (.int .u8) .str [] (zdy N)
def yj9:SC PG:=fz (E0 [] [] [zxr N]) func145 [] (.int .u8) .str [] (zr6 N)
def ybv:SC PG:=fz E1 func150 [] (.int .u8) .str [] (zp3 N)
def zs4:SE PG:=E0 [] [] [yj9 N,zxr N,z1s N,zd5 N,ybv N,zkn N]
def y5t:SLf f90:=pz (zs4 N) [] 127 (cu [.b 1 z14,.z 2 [jZ,.str [],.str [],.str [],.str [],.str [],.str [],jZ],.v 3 .str,.b 5 Z2,.v 6 .str,.v 7 .str]) (1,(cu [.b 2 Z5])) [] (z34 N)
def y5u:SLf f90:=pz (zs4 N) [y5t N] 31 (cu [.b 1 z14,.z 2 [jZ,.str [],.str [],.str [],.str [],.str [],.str [],jZ],.v 3 .str,.b 5 Z2]) (1,(cu [.b 2 Z5])) [] (z35 N)
def ygc:SC PG:=fz (zs4 N) func90 [y5u N] (.val z14) (.val Z5) [] (zhi N)
def zv3:SE PG:=E0 [(J3,[2000000])] [] [ygc N]
def zzm:SLf f47:=lz N (zv3 N) [] 58 (cu [.v 0 (.list z14),.v 1 jI,.s 5 Z5,.v 6 jI]) (3,(cu [.s 5 Z5])) [] (z0z N)
def yah:SC PG:=fz (zv3 N) func47 [zzm N] (sq [.list z14,jI]) (.list Z5) [] (zl1 N)
def yft:SC PG:=fz E1 func49 [] (.int .u8) .str [] (znl N)
def y3j:SE PG:=E0 [(J3,[63])] [] [zpt N,zpr N]
def y5d:SLf f48:=lz N (y3j N) [] 58 (cu [.v 1 .str,.b 2 Z9,.z 4 [.nils,jZ,jZ,jZ,.nils,jZ,jZ,jZ,.nils,jZ,jZ],.v 5 jI]) (1,(cu [.b 4 zjm])) [(3,(cu [.v 1 .str,.b 2 Z9,.z 4 [.nils,jZ,jZ,jZ,.nils,jZ,jZ,jZ,.nils,jZ,jZ]]))] (z5f N)
def yfs:SC PG:=fz (y3j N) func48 [y5d N] (sq [.val Z9,.str]) (.val zjm) [] (znk N)
def ylk:SC PG:=fz E1 func51 [] (sq [.val Z9,.int .u8]) jR [] (zw9 N)
def ya7:SC PG:=fz (E0 [] [] [zpq N,zpr N,zgj N]) func50 [] (sq [.val Z9,jI]) (.tup (.cons (.val Z9) jR)) [] (zkr N)
def ybt:SC PG:=fz (E0 [(2000012,[11])] [] [zsg N]) func94 [] (sq [.list Z5,.list Z5]) (.list Z5) [] (zaz N)
def zuu:SE PG:=E0 [(J3,[2000004])] [] [zpq N,zgj N,ybt N]
def zz8:SLf f52:=lz N (zuu N) [] 1018 ⟨[1,2,4,6,7,8,9],(sq [jI,.ptr 2000000 0,.ptr 2000001 0,jI,.ptr 2000002 0,.ptr 2000003 0,jI]),[(2000000,[2], .boxV Z9),(2000001,[4], .boxC [.nils,jZ,jZ,jZ, .nils,jZ,jZ,jZ, .nils]),(2000002,[7], .boxV z7p),(2000003,[8], .box x3z),(2000004,[8,4], .sl z7p)],[]⟩ (3,⟨[1,2,4,7,8],(sq [jI,.ptr 2000000 0,.ptr 2000001 0,.ptr 2000002 0,.ptr 2000003 0]),[(2000000,[2], .boxV Z9),(2000001,[4], .boxC [.nils,jZ,jZ,jZ, .nils,jZ,jZ,jZ, .nils]),(2000002,[7], .boxV z7p),(2000003,[8], .box x3z),(2000004,[8,4], .sl z7p)],[]⟩) [] (z2v N)
def ya6:SC PG:=fz (zuu N) func52 [zz8 N] (sq [.val Z9,jI]) (.tup (.cons (.val Z9) jR)) [] (zkq N)
def zs1:SE PG:=E0 [] [] [yah N,y2z N,yft N,yfs N,ylk N,ya7 N,ya6 N]
def y5b:SLf f24:=pz (zs1 N) [] 53 (cu [.b 2 Z9,.b 3 w5,.z 4 [.nils,jZ,jZ,jZ,.nils,jZ,jZ,jZ,.nils],.v 13 (.int .u8),.v 14 .bool]) (1,(cu [.b 4 Z9])) [(0,Cu9_)] (z2u N)
def y5c:SLf f24:=pz (zs1 N) [] 7 Cu9_ (1,(cu [.b 4 Z9])) [] (z4u N)
def zxo:SC PG:=fz (zs1 N) func24 [y5b N,y5c N] (sq [.val Z9,.val w5]) (.val Z9) [] (znj N)
def y3k:SE PG:=E0 [] [] [ybe N,y2y N,zxo N]
def y5e:SLf f34:=lz N (y3k N) [] 58 (cu [.v 1 (.list w5),.z 4 [.nils,jZ,jZ,jZ,.nils,jZ,jZ,jZ,.nils],.b 5 Z9,.v 7 jI]) (3,(cu [.z 4 [.nils,jZ,jZ,jZ,.nils,jZ,jZ,jZ,.nils],.b 5 Z9])) [] (z8s N)
def yfu:SC PG:=fz (y3k N) func34 [y5e N] (sq [.int .u8,.list w5]) (.val Z9) [] (zsn N)
def yfn:SC PG:=fz (E0 [] [] [y2w N]) func36 [] (.val y14) (.val K0) [] (zsm N)
def yfm:SC PG:=fz (E0 [] [] [yfu N,yfn N,y2v N,zxn N]) func12 [] (.val zee) (.val z8j) [] (zsl N)
def zxs:SC PG:=fz E1 func63 [] (sq [.val Y1,jI]) jR [] (znq N)
def zy9:SE PG:=E0 [] [] []
def y16:SLf f217:=lz N (zy9) [] 26 x42 (1,Cu6_) [(3,zif)] (z3t N)
def yb7:SC PG:=fz (zy9) func217 [y16 N] (.list Y3) .bool [] (zov N)
def y6r:SC PG:=fz E1 func215 [] (.val Y3) .bool [] (zhw N)
def y8f:SC PG:=fz E1 func216 [] (sq [.val Z2,.str]) .bool [] (zvt N)
def y6t:SC PG:=fz (E0 [] [] [y6r N,y8f N]) func214 [] (sq [.val Y3,.bx (.cons .str .str) 0]) .bool [] (zhz N)
def q9:SE PG:=E0 [] [] [y6t N]
def z2g:SLf f263:=lz N (q9 N) [] 26 (cu [.v 0 (.list Y3),.v 1 (.clo 214 (.bx (.cons .str .str) 0)),.v 7 jI,.v 8 jI]) (1,yl9) [(3,zif)] (X9 N)
def z3l:SC PG:=fz (q9 N) func263 [z2g N] (sq [.list Y3,.clo 214 (.bx (.cons .str .str) 0)]) jR [] (J2 N)
def z2i:SC PG:=fz (E0 [] [] [z3l N]) func218 [] (sq [.list Y3,.clo 214 (.bx (.cons .str .str) 0)]) .bool [] (U6 N)
def ztc:SE PG:=E0 [] [] []
def zw2:SLf f219:=lz N (ztc) [] 26 (cu [.s 9 z5a,.v 10 jI,.v 11 jI]) (1,Cu6_) [(3,zif)] (z27 N)
def y6q:SC PG:=fz (ztc) func219 [zw2 N] (.val y0) .bool [] (zhv N)
def zww:SC PG:=fz E1 func228 [] (.val Z5) (.iface 380 (.val Z5)) [(.iface 381 (.val Z5)),(.iface 382 (.val Z5)),(.iface 383 (.val Z5)),(.iface 384 (.val Z5)),(.iface 385 (.val Z5)), .nili] (zkj N)
def zwx:SC PG:=fz E1 func353 [] (sq [jI,jI,jI]) .bool [] (zu7 N)
def y6u:SC PG:=fz (E0 [] [] [zwx N]) func350 [] (.val Z5) .bool [] (zq1 N)
def yam:SC PG:=fz E1 func348 [] (.val Z5) (.val Z5) [] (zrv N)
def y6y:SC PG:=fz (E0 [] [] [zwx N]) func359 [] (.val Z5) .bool [] (zq5 N)
def yan:SC PG:=fz E1 func357 [] (.val Z5) (.val Z5) [] (zrw N)
def zxi:SC PG:=fz E1 func264 [] (.val Z2) .bool [] (znb N)
def y8i:SC PG:=fz (E0 [] [] [zxi N]) func368 [] (.val Z2) .bool [] (zwe N)
def y2o:SC PG:=fz (E0 [] [] [y8i N]) func365 [] (.val Z5) .bool [] (zmm N)
def y6x:SC PG:=fz E1 func363 [] (.val Z5) (.val Z5) [] (zq4 N)
def zot:SC PG:=fz E1 func378 [] (sq [.str,.str]) .bool [] (z6a N)
def zu2:SC PG:=fz (E0 [] [] [zot N]) func377 [] (sq [.str,.str]) .bool [] (za0 N)
def y35:SC PG:=fz (E0 [] [] [zwx N,zu2 N]) func376 [] (sq [.str,.str]) .bool [] (zr9 N)
def y2m:SC PG:=fz (E0 [] [] [y35 N]) func372 [] (.val Z5) .bool [] (zmk N)
def y6w:SC PG:=fz E1 func370 [] (.val Z5) (.val Z5) [] (zq3 N)
def zzz:SC PG:=fz (E0 [] [] [y35 N]) func382 [] (.val Z5) .bool [] (zjf N)
def y2r:SC PG:=fz E1 func380 [] (.val Z5) (.val Z5) [] (zmp N)
def zzv:SC PG:=fz (E0 [] [] [y8i N,zwx N]) func388 [] (.val Z5) .bool [] (zj9 N)
def y2k:SC PG:=fz E1 func386 [] (.val Z5) (.val Z5) [] (zmi N)
def y36:SC PG:=fz (E0 [] [] [zww N,y6u N,yam N,y6y N,yan N,y2o N,y6x N,y2m N,y6w N,zzz N,y2r N,zzv N,y2k N]) func224 [] (.val Z5) .bool [] (zra N)
def y6v:SC PG:=fz E1 func349 [] (.val Z5) (.fresh Z2) [] (zq2 N)
def y6z:SC PG:=fz E1 func358 [] (.val Z5) (.fresh Z2) [] (zq6 N)
def y2p:SC PG:=fz E1 func364 [] (.val Z5) (.fresh Z2) [] (zmn N)
def zya:SE PG:=E0 [] [22] []
def y17:SLf f375:=lz N (zya) [] 28 (cu [.v 0 .str,.z 2 [.str [],.str []],.s 3 (.int .u8)]) (3,(cu [.v 0 .str,.z 2 [.str [],.str []],.s 3 (.int .u8)])) [] (z7u N)
def zew:SC PG:=fz (zya) func375 [y17 N] .str (.val Z2) [] (z91 N)
def y2n:SC PG:=fz (E0 [] [] [zew N]) func371 [] (.val Z5) (.fresh Z2) [] (zml N)
def y00:SC PG:=fz (E0 [] [] [zew N]) func381 [] (.val Z5) (.fresh Z2) [] (zjg N)
def zzw:SC PG:=fz E1 func387 [] (.val Z5) (.fresh Z2) [] (zja N)
def yjd:SC PG:=fz (E0 [] [] [zww N,y6v N,y6z N,y2p N,y2n N,y00 N,zzw N]) func226 [] (.val Z5) (.fresh Z2) [] (zx7 N)
def ztr:SC PG:=fz E1 func317 [] .str .bool [] (z8v N)
def zql:SC PG:=fz (E0 [] [] [ztr N]) func301 [] (sq [.str,.str]) jR [] (zaf N)
def zw5:SC PG:=fz (E0 [] [] [zql N]) func265 [] (sq [.str,.str]) jR [] (zb6 N)
def yb8:SC PG:=fz (E0 [] [] [zxi N,y8f N,zw5 N]) func221 [] (sq [.val Z2,.val Z2]) .bool [] (zow N)
def y6s:SC PG:=fz (E0 [] [] [yb8 N]) func220 [] (sq [.val Z2,.bx (.cons .str .str) 0]) .bool [] (zhy N)
def u9:SE PG:=E0 [] [] [y6s N]
def z2f:SLf f267:=lz N (u9 N) [] 26 (cu [.v 0 (.list Z2),.v 1 (.clo 220 (.bx (.cons .str .str) 0)),.v 7 jI,.v 8 jI]) (1,yl9) [(3,zif)] (X8 N)
def z3k:SC PG:=fz (u9 N) func267 [z2f N] (sq [.list Z2,.clo 220 (.bx (.cons .str .str) 0)]) jR [] (J1 N)
def z2h:SC PG:=fz (E0 [] [] [z3k N]) func225 [] (sq [.list Z2,.clo 220 (.bx (.cons .str .str) 0)]) .bool [] (V0 N)
def y8e:SC PG:=fz E1 func355 [] .str (.val Z2) [] (zvs N)
def y2l:SC PG:=fz (E0 [] [] [y8e N]) func352 [] (.val Z5) (.fresh Z2) [] (zmj N)
def y2q:SC PG:=fz (E0 [] [] [y8e N]) func361 [] (.val Z5) (.fresh Z2) [] (zmo N)
def zzy:SC PG:=fz E1 func367 [] (.val Z5) (.fresh Z2) [] (zjd N)
def zzx:SC PG:=fz (E0 [] [] [zew N]) func374 [] (.val Z5) (.fresh Z2) [] (zjc N)
def zw7:SC PG:=fz (E0 [] [] [zew N]) func384 [] (.val Z5) (.fresh Z2) [] (zga N)
def zw6:SC PG:=fz E1 func390 [] (.val Z5) (.fresh Z2) [] (zg9 N)
def ygj:SC PG:=fz (E0 [] [] [zww N,y2l N,y2q N,zzy N,zzx N,zw7 N,zw6 N]) func227 [] (.val Z5) (.fresh Z2) [] (zt3 N)
def zfj:SC PG:=fz (E0 [] [] [y36 N,yjd N,z2h N,ygj N]) func223 [] (sq [.val Z5,.bx (.clo 220 (.bx (.cons .str .str) 0)) 0]) .bool [] (z0o N)
def J5:SE PG:=E0 [] [] [zfj N]
def z0f:SLf f266:=lz N (J5 N) [] 26 (cu [.v 0 (.list Z5),.v 1 (.clo 223 (.bx (.clo 220 (.bx (.cons .str .str) 0)) 0)),.v 7 jI,.v 8 jI]) (1,yl9) [(3,zif)] (X2 N)
def z0m:SC PG:=fz (J5 N) func266 [z0f N] (sq [.list Z5,.clo 223 (.bx (.clo 220 (.bx (.cons .str .str) 0)) 0)]) jR [] (Q0 N)
def z0h:SC PG:=fz (E0 [] [] [z0m N]) func222 [] (sq [.list Z5,.clo 223 (.bx (.clo 220 (.bx (.cons .str .str) 0)) 0)]) .bool [] (W7 N)
def zla:SE PG:=E0 [] [] [yb7 N,z2i N,y6q N,z0h N]
def y63:SLf f152:=lz N (zla N) [] 506 (cu [.b 2 Y0,.b 3 Z2,.v 90 (.list jT),.v 91 jI,.v 92 jI]) (1,Cu0_) [(5,Cu4_)] (z60 N)
def y64:SLf f152:=lz N (zla N) [] 250 (cu [.b 2 Y0,.b 3 Z2,.v 6 .str,.v 67 (.list .str),.v 68 jI,.v 69 jI]) (1,Cu0_) [(3,Cu4_)] (z61 N)
def y62:SLf f152:=pz (zla N) [y64 N,y63 N] 15 Cu4_ (1,Cu0_) [] (zpz N)
def ygh:SC PG:=fz (zla N) func152 [y62 N] (sq [.val Y0,.val Z2]) .bool [] (zt2 N)
def ztd:SE PG:=E0 [] [] []
def zw3:SLf f153:=lz N (ztd) [] 26 (cu [.s 0 (.int .u8),.v 1 jI,.v 7 jI]) (3,x05) [] (z29 N)
def zqp:SM PG:=mz (ztd) func153 [zw3 N] ⟨[0,1,2],(sq [.own 5000000,jI,jI]),[(5000000,[0], .sl (.int .u8))],[]⟩ x05 [] (z0b N)
def yb4:SM PG:=mz (E0 [] [8] [] [zqp N]) func154 [] ⟨[0,1],(sq [.own 5000000,.str]),[(5000000,[0], .sl (.int .u8))],[]⟩ x05 [] (zec N)
def zg4:SE PG:=E0 [] [] []
def zne:SLf f354:=lz N (zg4) [] 6 ⟨[0,1,6],(sq [.ptr 5000000 0,jI,jI]),[(5000000,[5000000], .box (.own 2000001)),(2000001,[5000000,0], .sl (.int .u8))],[]⟩ (3,⟨[], .nil,[(5000000,[5000000], .box (.own 2000001)),(2000001,[5000000,0], .sl (.int .u8))],[]⟩) [] (g8 N)
def z8n:SM PG:=mz (zg4) func354 [zne N] ⟨[0,1,2],(sq [.ptr 5000000 0,jI,jI]),[(5000000,[0], .box (.own 5000001)),(5000001,[0,0], .sl (.int .u8))],[]⟩ ⟨[0],(.tup .nil),[(5000000,[5000000], .box (.own 2000001)),(2000001,[5000000,0], .sl (.int .u8))],[]⟩ [] (z1k N)
def z6r:SM PG:=mz (E0 [] [7] [] [z8n N]) func346 [] ⟨[0,1],(sq [.ptr 5000000 0,.str]),[(5000000,[0], .box (.own 5000001)),(5000001,[0,0], .sl (.int .u8))],[]⟩ ⟨[0],(.tup .nil),[(5000000,[5000000], .box (.own 2000001)),(2000001,[5000000,0], .sl (.int .u8))],[]⟩ [] (w9 N)
def zz2:SM PG:=mz (E0 [] [7,11,15] [] [z6r N,z8n N]) func351 [] ⟨[0,1],(sq [.val Z5,.ptr 5000000 0]),[(5000000,[1], .box (.own 5000001)),(5000001,[1,0], .sl (.int .u8))],[]⟩ ⟨[0],(.tup .nil),[(5000000,[5000000], .box (.own 2000001)),(2000001,[5000000,0], .sl (.int .u8))],[]⟩ [] (zjb N)
def zz3:SM PG:=mz (E0 [] [7] [] [z6r N]) func360 [] ⟨[0,1],(sq [.val Z5,.ptr 5000000 0]),[(5000000,[1], .box (.own 5000001)),(5000001,[1,0], .sl (.int .u8))],[]⟩ ⟨[0],(.tup .nil),[(5000000,[5000000], .box (.own 2000001)),(2000001,[5000000,0], .sl (.int .u8))],[]⟩ [] (zje N)
def zjp:SM PG:=mz (E0 [] [8,13] [] [z6r N]) func366 [] ⟨[0,1],(sq [.val Z5,.ptr 5000000 0]),[(5000000,[1], .box (.own 5000001)),(5000001,[1,0], .sl (.int .u8))],[]⟩ ⟨[0],(.tup .nil),[(5000000,[5000000], .box (.own 2000001)),(2000001,[5000000,0], .sl (.int .u8))],[]⟩ [] (z8b N)
def zjo:SM PG:=mz (E0 [] [7,11] [] [z6r N]) func373 [] ⟨[0,1],(sq [.val Z5,.ptr 5000000 0]),[(5000000,[1], .box (.own 5000001)),(5000001,[1,0], .sl (.int .u8))],[]⟩ ⟨[0],(.tup .nil),[(5000000,[5000000], .box (.own 2000001)),(2000001,[5000000,0], .sl (.int .u8))],[]⟩ [] (z8a N)
def ztz:SM PG:=mz (E0 [] [6] [] [zjo N]) func383 [] ⟨[0,1],(sq [.val Z5,.ptr 5000000 0]),[(5000000,[1], .box (.own 5000001)),(5000001,[1,0], .sl (.int .u8))],[]⟩ ⟨[0],(.tup .nil),[(5000000,[5000000], .box (.own 2000001)),(2000001,[5000000,0], .sl (.int .u8))],[]⟩ [] (zes N)
def zty:SM PG:=mz (E0 [] [6,10] [] [zjp N,z8n N]) func389 [] ⟨[0,1],(sq [.val Z5,.ptr 5000000 0]),[(5000000,[1], .box (.own 5000001)),(5000001,[1,0], .sl (.int .u8))],[]⟩ ⟨[0],(.tup .nil),[(5000000,[5000000], .box (.own 2000001)),(2000001,[5000000,0], .sl (.int .u8))],[]⟩ [] (zer N)
def y37:SC PG:=fz (E0 [] [16] [y36 N,zww N] [zz2 N,zz3 N,zjp N,zjo N,ztz N,zty N]) func155 [] (.val Z5) (.fresh (.int .u8)) [] (zrb N)
def z9g:SE PG:=E0 [] [29,40,43,46,53,63,74,103,110] [ygh N,y37 N] [zqp N,yb4 N]
def y66:SLf f96:=lz N (z9g N) [] 260710 (cu [.b 1 Y0,.s 6 (.int .u8),.v 77 (.list y0),.v 78 jI,.v 79 jI,.s 95 jT,.v 96 jI,.v 97 jI]) (11,x4d) [] (z63 N)
def y67:SLf f96:=lz N (z9g N) [] 4090 (cu [.s 6 (.int .u8),.v 112 (.list Z5),.v 113 jI,.v 114 jI]) (13,(cu [.s 6 (.int .u8)])) [] (z64 N)
def y68:SLf f96:=lz N (z9g N) [y66 N] 1018 x4d (9,x06) [] (z65 N)
def y69:SLf f96:=lz N (z9g N) [] 938 (cu [.s 3 (.int .u8),.v 31 (.list Y3),.v 32 jI,.v 33 jI]) (3,yqx) [] (z66 N)
def y6a:SLf f96:=lz N (z9g N) [] 506 (cu [.b 1 Y0,.s 6 (.int .u8),.v 66 (.list .str),.v 67 jI,.v 68 jI]) (7,x06) [] (z67 N)
def y6b:SLf f96:=lz N (z9g N) [] 250 (cu [.b 1 Y0,.s 6 (.int .u8),.v 55 (.list jT),.v 56 jI,.v 57 jI]) (5,x06) [] (z68 N)
def ygi:SC PG:=fz (z9g N) func96 [y69 N,y6b N,y6a N,y68 N,y67 N] (.val Y0) (.fresh (.int .u8)) [] (znt N)
def yc3:SC PG:=fz E1 func98 [] (sq [.list (.int .u8),.list (.int .u8)]) .bool [] (zpj N)
def y71:SC PG:=fz E1 func269 [] .bool .bool [] (zqe N)
def z97:SE PG:=E0 [] [] [y71 N]
def zeg:SLf f268:=lz N (z97 N) [] 58 (cu [.v 1 (.clo 269 .nil),.v 5 jI,.v 9 (.list .bool),.v 10 jI,.v 11 jI]) (3,(cu [.v 5 jI])) [] (J7 N)
def zge:SC PG:=fz (z97 N) func268 [zeg N] (sq [.val V1,.clo 269 .nil]) jR [] (z55 N)
def ygl:SC PG:=fz (E0 [] [] [zge N]) func230 [] (.val V1) jR [] (y11 N)
def ygn:SC PG:=fz (E0 [] [] [ygl N]) func159 [] (.val V1) jR [] (y12 N)
def za9:SE PG:=E0 [] [] []
def zg6:SLf f160:=lz N (za9) [] 26 (cu [.v 0 (.list .bool),.v 1 .bool,.v 7 jI,.v 8 jI]) (1,yl9) [(3,zif)] (J8 N)
def zki:SC PG:=fz (za9) func160 [zg6 N] (sq [.list .bool,.bool]) jR [] (z7k N)
def y3y:SE PG:=E0 [(J3,[2000002])] [] []
def y6c:SLf f108:=lz N (y3y) [] 122 (cu [.v 2 .bool,.b 3 V1,.z 6 [.nils,.nils,jZ],.s 7 .bool,.v 18 (.list jT),.v 19 jI,.v 20 jI]) (3,(cu [.b 3 V1,.z 6 [.nils,.nils,jZ],.s 7 .bool])) [] (z69 N)
def zxv:SC PG:=fz (y3y) func108 [y6c N] (sq [.val V1,.list jT,.bool]) (.val V1) [] (zo2 N)
def ygm:SC PG:=fz (E0 [(2000016,[15])] [] [ygn N,zki N,zxv N]) func105 [] (.val V1) (.tup (.cons (.val V1) (.cons jR jR))) [] (zo3 N)
def zsd:SW PG:=wz E1 func62 [] yw1 (cu [.v 0 (.iface 193 .nilf)]) [(cu [.v 0 (.tup .nil)])] (zc1 N)
def bclone45_ren:Go.Shelf.Ren:=⟨fun | 4=>45 | n=>n,fun | 22=>71 | 5=>5 | n=>n,fun n=>n⟩
theorem yxt:Go.Proofs.SlLaysK.n4 PG bclone45_ren:={
 mixed:=by kernel_rfl
 f4:=func45.trans (congrArg some (by kernel_rfl))
 t4:=Tryz.underlying4
 a4:=Tryz.isAgg4
 z4:=Tryz.sizeOf4
 v4:=Tryz.zeroValue4
 t22:=Tryz.underlying71
 a22:=Tryz.isAgg71
 z22:=Tryz.sizeOf71
 v22:=Tryz.zeroValue71
 t5:=Tryz.underlying5
 i5:=by kernel_rfl}
def yh1:Code:=match f45.body with | some c=>c | none=> .skip
def zte(N:Nat):Ctr:=znz (.list (.int .u8)) (.fresh (.int .u8)) [] (fun v=>zvm N v)
def ti_bytes_Clone:TI:=match yh8 tyRows 5 with | some t=>t | none=>⟨.other,0,0,[],none⟩
theorem y15(N:Nat):z77 PG 45 (fun vs=>(zte N).run vs some):=by
 have e1:bclone45_ren.f 4=45:=by kernel_rfl
 have e2:bclone45_ren.t 5=5:=by kernel_rfl
 have h:=yji yxt (ei:=ti_bytes_Clone) (ty:=(.int .u8)) (fn:=f45) (c:=yh1) (by rw[e2];exact zwj zws 5 _ (by kernel_rfl)) (by kernel_rfl) (by rw[e1];exact func45) (by kernel_rfl) (by kernel_rfl);rw[e1,show ti_bytes_Clone.bytes=1 by kernel_rfl]at h;exact h
def yc4:SC PG:=⟨45,zte N,y15 N⟩
def clone161_ren:Go.Shelf.Ren:=⟨fun | 41=>161 | n=>n,fun | 22=>32 | 23=>122 | n=>n,fun n=>n⟩
theorem yxm:CloneL PG clone161_ren:={
 mixed:=by kernel_rfl
 f41:=⟨f161.name,by decide,func161.trans (congrArg some (by kernel_rfl))⟩
 t4:=Tryz.underlying4
 a4:=Tryz.isAgg4
 z4:=Tryz.sizeOf4
 v4:=Tryz.zeroValue4
 t22:=Tryz.underlying32
 a22:=Tryz.isAgg32
 z22:=Tryz.sizeOf32
 v22:=Tryz.zeroValue32
 }
def zbr:Code:=match f161.body with | some c=>c | none=> .skip
def z2p(N:Nat):Ctr:=znz (.list Q6) (.fresh Q6) [] (fun v=>z0r N v)
def ti_slices_Clone_s_api_Write_api_Write:TI:=match yh8 tyRows 122 with | some t=>t | none=>⟨.other,0,0,[],none⟩
theorem z9h(N:Nat):z77 PG 161 (fun vs=>(z2p N).run vs some):=by
 have e1:clone161_ren.f 41=161:=by kernel_rfl
 have e2:clone161_ren.t 23=122:=by kernel_rfl
 have h:=y97 yxm (ei:=ti_slices_Clone_s_api_Write_api_Write) (ty:=Q6) (fn:=f161) (c:=zbr) (by rw[e2];exact zwj zws 122 _ (by kernel_rfl)) (by kernel_rfl) (by rw[e1];exact func161) (by kernel_rfl) (by kernel_rfl);rw[e1,show ti_slices_Clone_s_api_Write_api_Write.bytes=40 by kernel_rfl]at h;exact h
def zag:SC PG:=⟨161,z2p N,z9h N⟩
def zxu:SC PG:=fz (E0 [(J3,[10])] [] [zag N]) func106 [] (sq [.val K0,.val Q6]) (.val K0) [] (znx N)
def y8k:SC PG:=fz (E0 [(2000025,[23])] [] [y8j N,yc4 N,zxu N]) func59 [] (sq [.val K0,jI,.list (.int .u8)]) (.tup (.cons (.val K0) jR)) [] (zrj N)
def zqo:SW PG:=wz (E0 [] [] [ygm N,y8k N] [] [] [zsd N]) func58 [] ⟨[0,1],(sq [.ptr 5000000 0,.list (.int .u8)]),[(5000000,[0], .box Sh2_),(5000001,[0,9], .sl jT),(5000002,[0,10], .sl (.int .u64)),(5000003,[0,11], .sl jT)],[]⟩ ⟨[0],(.iface 193 .nilf),[(5000000,[5000000], .box Sh2_),(5000001,[5000001], .sl jT),(5000002,[5000002], .sl (.int .u64)),(5000003,[5000003], .sl jT)],[]⟩ [⟨[0],(.int .i64),[(5000000,[5000000], .box Sh2_),(5000001,[5000001], .sl jT),(5000002,[5000002], .sl (.int .u64)),(5000003,[5000003], .sl jT)],[]⟩] (z7r N)
def ztb:SE PG:=E0 [(2000056,[38])] [] [zxs N,ygi N,y8l N,yc3 N,zpu N] [] [] [zqo N]
def zvz:SLf f55:=pz (ztb N) [] 15 ⟨[0,2,5,7,10],(sq [.ptr 5000000 0,jI,.ptr 2000004 0,.ptr 2000005 0,jI]),[(5000000,[5000000], .box Sh2_),(5000001,[5000001], .sl jT),(5000002,[5000002], .sl (.int .u64)),(5000003,[5000003], .sl jT),(2000004,[5], .boxV Y1),(2000005,[7], .boxV Y6)],[]⟩ (1,⟨[8,9],(sq [jI,.int .u64]),[(5000000,[5000000], .box Sh2_),(5000001,[5000001], .sl jT),(5000002,[5000002], .sl (.int .u64)),(5000003,[5000003], .sl jT)],[]⟩) [(2,⟨[], .nil,[(5000000,[5000000], .box Sh2_),(5000001,[5000001], .sl jT),(5000002,[5000002], .sl (.int .u64)),(5000003,[5000003], .sl jT)],[]⟩)] (zbi N)
def y51:SW PG:=wz (ztb N) func55 [zvz N] ⟨[0,1,2,3],(sq [.ptr 5000000 0,.val Y1,jI,.val Y6]),[(5000000,[0], .box Sh2_),(5000001,[0,9], .sl jT),(5000002,[0,10], .sl (.int .u64)),(5000003,[0,11], .sl jT)],[]⟩ ⟨[0],(.tup (.cons (.int .i64) (.int .u64))),[(5000000,[5000000], .box Sh2_),(5000001,[5000001], .sl jT),(5000002,[5000002], .sl (.int .u64)),(5000003,[5000003], .sl jT)],[]⟩ [⟨[0],(.iface 193 .nilf),[(5000000,[5000000], .box Sh2_),(5000001,[5000001], .sl jT),(5000002,[5000002], .sl (.int .u64)),(5000003,[5000003], .sl jT)],[]⟩] (z7s N)
def zdq:SE PG:=E0 [] [] []
def zkh:SLf f102:=lz N (zdq) [] 6 ⟨[0,1,6],(sq [.ptr 5000000 0,.int .u64,jI]),[(5000000,[5000000], .box (.own 2000001)),(2000001,[5000000,0], .sl (.int .u8))],[]⟩ (3,⟨[], .nil,[(5000000,[5000000], .box (.own 2000001)),(2000001,[5000000,0], .sl (.int .u8))],[]⟩) [] (v7 N)
def z2l:SM PG:=mz (zdq) func102 [zkh N] ⟨[0,1,2],(sq [.ptr 5000000 0,.int .u64,jI]),[(5000000,[0], .box (.own 5000001)),(5000001,[0,0], .sl (.int .u8))],[]⟩ ⟨[0],(.tup .nil),[(5000000,[5000000], .box (.own 2000001)),(2000001,[5000000,0], .sl (.int .u8))],[]⟩ [] (K7 N)
def zci:SE PG:=E0 [] [18] [] [z2l N]
def zin:SLf f100:=lz N (zci N) [] 6 ⟨[0,1,8,9,10],(sq [.ptr 5000000 0,jI,.own 5000002,jI,jI]),[(5000000,[5000000], .box (.own 2000001)),(2000001,[5000000,0], .sl (.int .u8)),(5000002,[5000002], .sl jT)],[]⟩ (3,⟨[], .nil,[(5000000,[5000000], .box (.own 2000001)),(2000001,[5000000,0], .sl (.int .u8)),(5000002,[5000002], .sl jT)],[]⟩) [] (z7 N)
def z6m:SM PG:=mz (zci N) func100 [zin N] ⟨[0,1,2],(sq [.ptr 5000000 0,jI,.own 5000002]),[(5000000,[0], .box (.own 5000001)),(5000001,[0,0], .sl (.int .u8)),(5000002,[2], .sl jT)],[]⟩ ⟨[0],(.tup .nil),[(5000000,[5000000], .box (.own 2000001)),(2000001,[5000000,0], .sl (.int .u8)),(5000002,[5000002], .sl jT)],[]⟩ [] (Y2 N)
def zg3:SE PG:=E0 [] [10] [y37 N] [z6m N]
def znd:SLf f101:=lz N (zg3 N) [] 14 ⟨[0,11,12,13],(sq [.ptr 5000000 0,.list Z5,jI,jI]),[(5000000,[5000000], .box (.own 2000001)),(2000001,[5000000,0], .sl (.int .u8))],[]⟩ (3,⟨[], .nil,[(5000000,[5000000], .box (.own 2000001)),(2000001,[5000000,0], .sl (.int .u8))],[]⟩) [] (j8 N)
def zqz:SM PG:=mz (zg3 N) func101 [znd N] ⟨[0,1],(sq [.ptr 5000000 0,.list Z5]),[(5000000,[0], .box (.own 5000001)),(5000001,[0,0], .sl (.int .u8))],[]⟩ ⟨[0],(.tup .nil),[(5000000,[5000000], .box (.own 2000001)),(2000001,[5000000,0], .sl (.int .u8))],[]⟩ [] (z4g N)
def zji:SE PG:=E0 [] [25,32,37,41,47,61,66,72,86,94,106,113,119,124,132,138] [] [z6m N,zqz N,z2l N]
def zw0:SLf f56:=lz N (zji N) [] 8186 ⟨[1,2,7,97,98,99],(sq [.list jT,.list (.int .u64),.ptr 2000000 0,.list Y6,jI,jI]),[(2000000,[7], .box (.own 2000001)),(2000001,[7,0], .sl (.int .u8))],[]⟩ (5,⟨[7],(.ptr 2000000 0),[(2000000,[7], .box (.own 2000001)),(2000001,[7,0], .sl (.int .u8))],[]⟩) [] (z25 N)
def zw1:SLf f56:=lz N (zji N) [] 2042 ⟨[1,2,3,7,49,50,51],(sq [.list jT,.list (.int .u64),.ptr 2000000 0,.ptr 2000001 0,.list z7p,jI,jI]),[(2000000,[3], .boxV Z9),(2000001,[7], .box (.own 2000002)),(2000002,[7,0], .sl (.int .u8))],[]⟩ (3,⟨[1,2,3,7],(sq [.list jT,.list (.int .u64),.ptr 2000000 0,.ptr 2000001 0]),[(2000000,[3], .boxV Z9),(2000001,[7], .box (.own 2000002)),(2000002,[7,0], .sl (.int .u8))],[]⟩) [] (z26 N)
def y6p:SC PG:=fz (zji N) func56 [zw1 N,zw0 N] (sq [.val Z9,.list jT,.list (.int .u64)]) (.fresh (.int .u8)) [] (zhq N)
def zgd:SC PG:=fz (E0 [(J3,[2,3])] [] []) func104 [] (sq [.list (.int .u8),jI]) (.clo 158 (.cons (.bx (.list (.int .u8)) 0) (.bx (.int .i64) 0))) [] (z54 N)
def z01:SR PG:=rz E1 2 ([]:List (SLf f157)) ([]:List (SLf f157)) 52 53 ⟨[7,2],(sq [.list (.int .u8),.ptr 5000000 0]),[(5000000,[2], .box (.own 5000001)),(5000001,[2,0], .sl (.list (.int .u8)))],[]⟩ (0,⟨[], .nil,[(5000000,[5000000], .box (.own 2000001)),(2000001,[5000000,0], .sl (.list (.int .u8)))],[]⟩) [] (V8 N)
def z6q:SE PG:=E0 [] [29] [] [] [z01 N]
def zbq:SLf f158:=lz N (z6q N) [] 6 ⟨[0,1,2,4],(sq [.yld 5000000,.bx (.list (.int .u8)) 0,.bx jI 0,jI]),[(5000000,[5000000], .rng 2 (.ptr 5000001 0) 0),(5000001,[5000001], .box (.own 2000002)),(2000002,[5000001,0], .sl (.list (.int .u8)))],[]⟩ (3,⟨[], .nil,[(5000000,[5000000], .rng 2 (.ptr 5000001 0) 0),(5000001,[5000001], .box (.own 2000002)),(2000002,[5000001,0], .sl (.list (.int .u8)))],[]⟩) [] (K4 N)
def zdr:SM PG:=mz (z6q N) func158 [zbq N] ⟨[0,1,2],(sq [.yld 5000000,.bx (.list (.int .u8)) 0,.bx jI 0]),[(5000000,[0], .rng 2 (.ptr 5000001 0) 0),(5000001,[0,0], .box (.own 5000002)),(5000002,[0,0,0], .sl (.list (.int .u8)))],[]⟩ ⟨[0],(.tup .nil),[(5000000,[5000000], .rng 2 (.ptr 5000001 0) 0),(5000001,[5000001], .box (.own 2000002)),(2000002,[5000001,0], .sl (.list (.int .u8)))],[]⟩ [] (z2e N)
def J6:SE PG:=E0 [] [] [] [zdr N]
def z0g:SLf f157:=gz (J6 N) 2 26 (.tmp 6) (cu [.z 2 [.nils],.v 6 (.clo 158 (.cons (.bx (.list (.int .u8)) 0) (.bx jI 0)))]) (0,⟨[2],(.ptr 2000000 0),[(2000000,[2], .box (.own 2000001)),(2000001,[2,0], .sl (.list (.int .u8)))],[]⟩) [] (U3 N)
def z0n:SC PG:=fz (J6 N) func157 [z0g N] (sq [.nils,.clo 158 (.cons (.bx (.list (.int .u8)) 0) (.bx jI 0))]) (.fresh (.list (.int .u8))) [] (Q1 N)
def z2r:SC PG:=fz (E0 [] [] [z0n N]) func103 [] (.clo 158 (.cons (.bx (.list (.int .u8)) 0) (.bx (.int .i64) 0))) (.fresh (.list (.int .u8))) [] (K8 N)
def yal:SC PG:=fz (E0 [] [] [zgd N,z2r N]) func57 [] (sq [.list (.int .u8),jI]) (.fresh (.list (.int .u8))) [] (zl5 N)
def ygk:SC PG:=fz (E0 [] [] [zxu N]) func60 [] (.val K0) (.val K0) [] (zny N)
def zaa:SE PG:=E0 [] [18] [] [z2l N]
def zg7:SLf f100:=lz N (zaa N) [] 6 ⟨[0,1,8,9,10],(sq [.ptr 5000000 0,jI,.list jT,jI,jI]),[(5000000,[5000000], .box (.own 2000001)),(2000001,[5000000,0], .sl (.int .u8))],[]⟩ (3,⟨[], .nil,[(5000000,[5000000], .box (.own 2000001)),(2000001,[5000000,0], .sl (.int .u8))],[]⟩) [] (J9 N)
def zkg:SM PG:=mz (zaa N) func100 [zg7 N] ⟨[0,1,2],(sq [.ptr 5000000 0,jI,.list jT]),[(5000000,[0], .box (.own 5000001)),(5000001,[0,0], .sl (.int .u8))],[]⟩ ⟨[0],(.tup .nil),[(5000000,[5000000], .box (.own 2000001)),(2000001,[5000000,0], .sl (.int .u8))],[]⟩ [] (z2m N)
def y6o:SC PG:=fz (E0 [(J3,[37])] [12,18,22,27,30,37] [zpu N] [z6m N,z2l N,zkg N]) func61 [] (sq [jI,.list (.int .u8),.list jT]) (.list (.int .u8)) [] (zhp N)
def za5:SE PG:=E0 [(J3,[2000004]),(7,[46]),(13,[2000003])] [] [y6p N,yal N,ygk N,y6o N,y8k N] [] [] [y51 N,zqo N,zsd N]
def ztn:SLf f54:=oz (za5 N) 3737 [[0,1,2,3,4,5,6,7],[0,2,1,3,4,5,6,7],[0,2,3,1,4,5,6,7],[0,2,3,4,1,5,6,7],[2,0,1,3,4,5,6,7],[2,0,3,1,4,5,6,7],[2,0,3,4,1,5,6,7],[2,3,0,1,4,5,6,7],[2,3,0,4,1,5,6,7],[2,3,4,0,1,5,6,7]] ⟨[1,2,7,9,51,52,53],(sq [.ptr 5000001 0,.ptr 5000005 0,.list (.int .u8),.list (.int .u8),.own 2000005,jI,jI]),[(5000001,[5000001], .box Sh5_),(2000001,[5000001,9], .sl jT),(2000002,[5000001,10], .sl (.int .u64)),(2000003,[5000001,11], .sl jT),(5000005,[5000005], .boxV Y1),(2000005,[51], .sl (.list (.int .u8))),(5000000,[5000000], .boxV Z9)],[]⟩ (2,⟨[], .nil,[(5000000,[5000000], .boxV Z9),(5000001,[5000001], .box Sh3_),(2000002,[5000001,9], .sl jT),(2000003,[5000001,10], .sl (.int .u64)),(2000004,[5000001,11], .sl jT),(5000005,[5000005], .boxV Y1)],[]⟩) [(0,⟨[1,2,7,51,52,53],(sq [.ptr 5000001 0,.ptr 5000005 0,.list (.int .u8),.own 2000005,jI,jI]),[(5000001,[5000001], .box Sh5_),(2000001,[5000001,9], .sl jT),(2000002,[5000001,10], .sl (.int .u64)),(2000003,[5000001,11], .sl jT),(5000005,[5000005], .boxV Y1),(2000005,[51], .sl (.list (.int .u8))),(5000000,[5000000], .boxV Z9)],[]⟩)] (zdm N)
def zto:SLf f54:=lz N (za5 N) [ztn N] 58 ⟨[1,2,7,51,52,53],(sq [.ptr 5000001 0,.ptr 5000005 0,.list (.int .u8),.own 2000005,jI,jI]),[(5000001,[5000001], .box Sh5_),(2000001,[5000001,9], .sl jT),(2000002,[5000001,10], .sl (.int .u64)),(2000003,[5000001,11], .sl jT),(5000005,[5000005], .boxV Y1),(2000005,[51], .sl (.list (.int .u8))),(5000000,[5000000], .boxV Z9)],[]⟩ (2,⟨[], .nil,[(5000000,[5000000], .boxV Z9),(5000001,[5000001], .box Sh3_),(2000002,[5000001,9], .sl jT),(2000003,[5000001,10], .sl (.int .u64)),(2000004,[5000001,11], .sl jT),(5000005,[5000005], .boxV Y1)],[]⟩) [(5,⟨[1,2,7],(sq [.ptr 5000001 0,.ptr 5000005 0,.list (.int .u8)]),[(5000001,[5000001], .box Sh5_),(2000001,[5000001,9], .sl jT),(2000002,[5000001,10], .sl (.int .u64)),(2000003,[5000001,11], .sl jT),(5000005,[5000005], .boxV Y1),(5000000,[5000000], .boxV Z9)],[]⟩)] (z0w N)
def ztp:SLf f54:=lz N (za5 N) [] 10 ⟨[0,1,2,14,15,16],(sq [.ptr 5000000 0,.ptr 5000001 0,.ptr 5000005 0,.list Y6,jI,jI]),[(5000000,[5000000], .boxV Z9),(5000001,[5000001], .box Sh3_),(2000002,[5000001,9], .sl jT),(2000003,[5000001,10], .sl (.int .u64)),(2000004,[5000001,11], .sl jT),(5000005,[5000005], .boxV Y1)],[]⟩ (2,⟨[], .nil,[(5000000,[5000000], .boxV Z9),(5000001,[5000001], .box Sh3_),(2000002,[5000001,9], .sl jT),(2000003,[5000001,10], .sl (.int .u64)),(2000004,[5000001,11], .sl jT),(5000005,[5000005], .boxV Y1)],[]⟩) [(3,⟨[0,1,2],(sq [.ptr 5000000 0,.ptr 5000001 0,.ptr 5000005 0]),[(5000000,[5000000], .boxV Z9),(5000001,[5000001], .box Sh3_),(2000002,[5000001,9], .sl jT),(2000003,[5000001,10], .sl (.int .u64)),(2000004,[5000001,11], .sl jT),(5000005,[5000005], .boxV Y1)],[]⟩)] (z0x N)
def zyy:SW PG:=wz (za5 N) func54 [ztp N,zto N] ⟨[0,1,2],(sq [.ptr 5000000 0,.ptr 5000001 0,.ptr 5000005 0]),[(5000000,[0], .boxV Z9),(5000001,[1], .box (.cons (.int .i64) (.cons (.list (.list (.int .u8))) (.cons (.list Q6) (.cons (.list .bool) (.cons (.list jT) (.cons (.int .i64) (.cons (.int .i64) (.cons (.int .i64) (.cons (.int .i64) (.cons (.own 5000002) (.cons (.own 5000003) (.own 5000004))))))))))))),(5000002,[1,9], .sl jT),(5000003,[1,10], .sl (.int .u64)),(5000004,[1,11], .sl jT),(5000005,[2], .boxV Y1)],[]⟩ ⟨[0],(.iface 193 .nilf),[(5000000,[5000000], .boxV Z9),(5000001,[5000001], .box Sh4_),(2000002,[5000001,9], .sl jT),(2000003,[5000001,10], .sl (.int .u64)),(5000005,[5000005], .boxV Y1)],[]⟩ [⟨[0],(.tup .nil),[(5000000,[5000000], .boxV Z9),(5000001,[5000001], .box Sh4_),(2000002,[5000001,9], .sl jT),(2000003,[5000001,10], .sl (.int .u64)),(5000005,[5000005], .boxV Y1)],[]⟩] (zj7 N)
def zqy:SM PG:=tz func53 x5j (zyy N)
def zch:SE PG:=E0 [] [] []
def zim:SLf f162:=lz N (zch) [] 26 (cu [.v 0 (.list jT),.v 1 jI,.v 7 jI,.v 8 jI]) (1,yl9) [(3,zif)] (G8 N)
def zng:SC PG:=fz (zch) func162 [zim N] (sq [.list jT,jI]) jR [] (z8o N)
def zio:SC PG:=fz (E0 [] [] [zng N]) func107 [] (sq [.list jT,jI]) .bool [] (z1r N)
def zs6:SE PG:=E0 [(J3,[2000001])] [] [zb8 N,zio N]
def y6d:SLf f64:=pz (zs6 N) [] 13 (cu [.v 1 jI,.b 2 V1,.z 4 [.nils,.nils,jZ],.v 28 .bool]) (1,(cu [.b 4 V1,.v 5 jI])) [(0,Cu3_)] (z9y N)
def y6e:SLf f64:=pz (zs6 N) [] 7 Cu3_ (1,⟨[4,5],(sq [.ptr 2000000 0,jI]),[(2000000,[4], .box (.cons (.list .bool) (.cons (.own 2000001) (.int .i64)))),(2000001,[4,1], .sl jT)],[]⟩) [] (z9z N)
def ygo:SC PG:=fz (zs6 N) func64 [y6d N,y6e N] (sq [.val V1,jI]) (.tup (.cons (.val V1) jR)) [] (zo4 N)
def yap:SC PG:=fz (E0 [] [] [zxv N]) func65 [] (.val V1) (.val V1) [] (zs8 N)
def zs5:SE PG:=E0 [(J3,[2000002,2000003])] [17] [zxs N,ygo N,yap N] [zqy N]
def y60:SLf f25:=lz N (zs5 N) [] 1018 ⟨[4,6,48,49,50],(sq [.ptr 2000000 0,.ptr 2000001 0,.list jT,jI,jI]),[(2000000,[4], .boxC [jZ, .nils, .nils, .nils, .nils,jZ,jZ,jZ,jZ, .nils, .nils, .nils]),(2000001,[6], .box Sh4_),(2000002,[6,9], .sl jT),(2000003,[6,10], .sl (.int .u64))],[]⟩ (5,⟨[4,6],(sq [.ptr 2000000 0,.ptr 2000001 0]),[(2000000,[4], .boxC [jZ, .nils, .nils, .nils, .nils,jZ,jZ,jZ,jZ, .nils, .nils, .nils]),(2000001,[6], .box Sh4_),(2000002,[6,9], .sl jT),(2000003,[6,10], .sl (.int .u64))],[]⟩) [] (z5w N)
def y61:SLf f25:=lz N (zs5 N) [] 506 ⟨[2,4,6,22,23,24],(sq [.ptr 2000000 0,.ptr 2000001 0,.ptr 2000002 0,.list jT,jI,jI]),[(2000000,[2], .boxV Y1),(2000001,[4], .boxC [jZ, .nils, .nils, .nils, .nils,jZ,jZ,jZ,jZ, .nils, .nils, .nils]),(2000002,[6], .box Sh9_),(2000003,[6,9], .sl jT),(2000004,[6,10], .sl (.int .u64))],[]⟩ (3,⟨[2,4,6],(sq [.ptr 2000000 0,.ptr 2000001 0,.ptr 2000002 0]),[(2000000,[2], .boxV Y1),(2000001,[4], .boxC [jZ, .nils, .nils, .nils, .nils,jZ,jZ,jZ,jZ, .nils, .nils, .nils]),(2000002,[6], .box Sh9_),(2000003,[6,9], .sl jT),(2000004,[6,10], .sl (.int .u64))],[]⟩) [] (z5x N)
def ygg:SC PG:=fz (zs5 N) func25 [y61 N,y60 N] (sq [.val Y1,.val Z9]) (.tup (.cons (.val Y1) jR)) [] (znr N)
def zos:SE PG:=E0 [] [] [yao N,yfm N,zuc N,zxt N,zxo N,ygg N,zxk N]
def ztq:SLf f8:=lz N (zos N) [] 1018 (cu [.v 2 (.list w5),.v 7 .bool,.b 8 z8j,.b 9 z15,.b 10 Z9,.v 11 jI]) (3,(cu [.v 7 .bool,.b 8 z8j,.b 9 z15,.b 10 Z9])) [] (z3n N)
def zlh:SC PG:=fz (zos N) func8 [ztq N] (sq [.val zee,.int .u8,.list w5]) .bool [] (z9p N)
theorem ztk:z77 PG 8 (fun vs=>(zlh N).c.run vs some):=(zlh N).h
end
end Go.Proofs.YtljffhpbdmkplaaGreat
