/- The abstract machine at this program: tables, and names of its functions. -/
import Derived.Test.YtpffkpaiihcffaaGreatDoorCont
import Derived.Test.YtpffkpaiihcffaaGreatDoorProg
namespace Go.Proofs.YtpffkpaiihcffaaGreatDoor.Z
open Go Go.Proofs Go.Proofs.YtpffkpaiihcffaaGreatDoor.VM
def tyL : List (Nat × TyI):=[
 (2,⟨(.int .i64),1,8,[.int .i64 0],[.int]⟩),
 (3,⟨(.int .i64),1,8,[.int .i64 0],[.int]⟩),
 (4,⟨.bool,1,1,[.bool false],[.bool]⟩),
 (9,⟨.str,1,16,[.str []],[.str]⟩),
 (23,⟨(.struct [(0,1,false),(1,1,false)]),2,16,[.int .i64 0,.int .i64 0],[.int,.int]⟩),
 (24,⟨(.slice 53),1,24,[.nilS],[]⟩),
 (25,⟨(.int .i64),1,8,[.int .i64 0],[.int]⟩),
 (53,⟨(.struct [(0,1,false),(1,1,false),(2,1,false)]),3,24,[.int .i64 0,.int .i64 0,.int .i64 0],[.int,.int,.int]⟩),
 (60,⟨(.slice 135),1,24,[.nilS],[]⟩),
 (62,⟨(.struct [(0,1,false),(1,1,false)]),2,32,[.int .i64 0,.nilS],[]⟩),
 (75,⟨(.slice 3),1,24,[.nilS],[]⟩),
 (104,⟨.func,1,8,[.cst .nilFunc],[]⟩),
 (127,⟨(.struct [(0,1,false),(1,1,false)]),2,24,[.str [],.int .i64 0],[.str,.int]⟩),
 (128,⟨(.array 9 127),18,216,[.str [],.int .i64 0,.str [],.int .i64 0,.str [],.int .i64 0,.str [],.int .i64 0,.str [],.int .i64 0,.str [],.int .i64 0,.str [],.int .i64 0,.str [],.int .i64 0,.str [],.int .i64 0],[]⟩),
 (135,⟨(.struct [(0,1,false),(1,1,false),(2,1,false),(3,1,false),(4,1,false),(5,1,false)]),6,48,[.int .i64 0,.int .i64 0,.int .i64 0,.int .i64 0,.int .i64 0,.int .i64 0],[.int,.int,.int,.int,.int,.int]⟩),
 (138,⟨(.struct [(0,1,false),(1,1,false),(2,1,false),(3,1,false),(4,1,false),(5,1,false),(6,1,false),(7,1,false),(8,1,false),(9,1,false)]),10,80,[.int .i64 0,.int .i64 0,.int .i64 0,.int .i64 0,.int .i64 0,.int .i64 0,.int .i64 0,.int .i64 0,.int .i64 0,.int .i64 0],[.int,.int,.int,.int,.int,.int,.int,.int,.int,.int]⟩),
 (143,⟨(.array 5 3),5,40,[.int .i64 0,.int .i64 0,.int .i64 0,.int .i64 0,.int .i64 0],[]⟩),
 (146,⟨(.array 4 3),4,32,[.int .i64 0,.int .i64 0,.int .i64 0,.int .i64 0],[]⟩),
 (168,⟨(.slice 173),1,24,[.nilS],[]⟩),
 (170,⟨(.ptr 138),1,8,[.cst (.pointer none)],[]⟩),
 (171,⟨(.ptr 3),1,8,[.cst (.pointer none)],[]⟩),
 (173,⟨(.struct [(0,1,false),(1,1,false)]),2,16,[.int .i64 0,.cst (.pointer none)],[]⟩)]
noncomputable def fnL : List (Nat × Func):=[(13,Tryz.f13),(34,Tryz.f34),(38,Tryz.f38),(51,Tryz.f51),(52,Tryz.f52),(63,Tryz.f63),(64,Tryz.f64),(65,Tryz.f65),(69,Tryz.f69),(85,Tryz.f85),(86,Tryz.f86),(98,Tryz.f98),(99,Tryz.f99),(100,Tryz.f100),(103,Tryz.f103),(116,Tryz.f116),(118,Tryz.f118),(122,Tryz.f122),(123,Tryz.f123),(135,Tryz.f135)]
def modeT : Nat → FMode
 | 13 => .call [] false
 | 34 => .call [] false
 | 38 => .call [] false
 | 51 => .call [] false
 | 52 => .call [] false
 | 63 => .call [] false
 | 64 => .call [] false
 | 65 => .call [] false
 | 69 => .call [] false
 | 85 => .call [] false
 | 86 => .call [] false
 | 98 => .call [] false
 | 99 => .call [] false
 | 100 => .call [] false
 | 103 => .call [] false
 | 116 => .call [] false
 | 118 => .call [] false
 | 122 => .call [] false
 | 123 => .call [] false
 | 135 => .call [] false
 | _ => .no
def annT : Nat → List (List Nat × Ann)
 | 98 => [([4,1,0,1],⟨1,[1,5,9,10,11],[],[]⟩)]
 | 63 => [([4,1,0,1],⟨1,[1,8,9],[],[]⟩),([4,1,0,1,1,1],⟨1,[1,20,21,22],[],[]⟩),([4,1,0,1,4,0,1,1,5,4,1,0,1,1,1],⟨2,[1,4,20,21,22,36,37],[],[]⟩)]
 | 122 => [([4,1,0,1,1],⟨0,[3,6,7,8],[],[]⟩)]
 | 85 => [([4,1,0,1],⟨0,[0,1,7,8,9],[],[]⟩)]
 | 118 => [([1],⟨1,[1],[],[]⟩),([4,1,0,1,1],⟨1,[1,17,18],[],[]⟩),([2,1,3,1,3,1,4,1,0,1,1],⟨1,[1],[],[]⟩),([4,1,0,2,1,3,1,3,1,3,1,4,1,0,1,1],⟨1,[1,75,76],[],[]⟩)]
 | 52 => [([4,1,0,1],⟨0,[0,6,7],[],[]⟩)]
 | 38 => [([1],⟨1,[1],[],[]⟩)]
 | 13 => [([1,1],⟨1,[0,1,5],[],[]⟩),([1,0,1,1,1],⟨1,[0,1],[],[]⟩),([1,1,1],⟨1,[0,1],[],[]⟩)]
 | _ => []
noncomputable def ovT : Nat → Option (List FV → Option FV)
 | _ => none
def cutT : Nat → List Nat
 | _ => []
def ordT : Nat → Nat → List (Nat × List Nat)
 | 85,8 => [(0,[]),(1,[0]),(2,[0,1]),(3,[0,1,2]),(4,[0,1,2]),(5,[0,1,2,4]),(6,[0,1,2,3,4,5]),(7,[0,1,2,3,4,5,6]),(8,[0,1,2]),(9,[0,1,2,3,4,5,6,7,8]),(10,[0,1,2,3,4,5,6,7,8,9]),(11,[0,1,2,3,4,5,6,7,8,9,10]),(12,[0,1,2,3,4,5,6,7,8,9,10,11])]
 | 100,8 => [(0,[]),(1,[0]),(2,[]),(3,[]),(4,[3]),(5,[2,3,4]),(6,[0,1,2,3,4,5]),(7,[0,1,2,3,4,5,6])]
 | 103,1 => [(0,[]),(1,[0]),(2,[]),(3,[2]),(5,[]),(6,[5]),(7,[]),(8,[7]),(4,[0,1,2,3]),(9,[0,1,2,3,4,5,6,7,8]),(10,[0,1,2,3,4,5,6,7,8,9]),(11,[0,1,2,3,4,5,6,7,8,9,10]),(12,[0,1,2,3,4,5,6,7,8,9,10,11])]
 | _,_ => []
noncomputable def E : Env:={ ty:=tyOf tyL,fn:=fnOf fnL,mode:=modeT,ann:=fun g p => annOf (annT g) p,ov:=ovT,cuts:=cutT,ord:=ordT,capT:=2 }
noncomputable def callDyn (agg : Bool) (x : FV) (args : List FV) : Option FV:=dynK E (den E) agg x args
noncomputable def arm_After (x0 x1 x2 : FV) : Option FV:=den E 13 [x0,x1,x2]
noncomputable def arm_stands (x0 x1 : FV) : Option FV:=den E 34 [x0,x1]
noncomputable def arm_formed (x0 : FV) : Option FV:=den E 38 [x0]
noncomputable def cells_Proper (x0 x1 : FV) : Option FV:=den E 51 [x0,x1]
noncomputable def cells_Word (x0 : FV) : Option FV:=den E 52 [x0]
noncomputable def cells_Check (x0 : FV) : Option FV:=den E 63 [x0]
noncomputable def cells_far (x0 x1 : FV) : Option FV:=den E 64 [x0,x1]
noncomputable def cells_isState (x0 x1 : FV) : Option FV:=den E 65 [x0,x1]
noncomputable def cells_behind (x0 x1 : FV) : Option FV:=den E 69 [x0,x1]
noncomputable def cells_look (x0 x1 : FV) : Option FV:=den E 85 [x0,x1]
noncomputable def cells_Proper_1 (x0 x1 : FV) : Option FV:=den E 86 [x0,x1]
noncomputable def field_Far (x0 x1 : FV) : Option FV:=den E 99 [x0,x1]
noncomputable def cells_YardOf (x0 : FV) : Option FV:=den E 100 [x0]
noncomputable def field_Behind (x0 x1 : FV) : Option FV:=den E 103 [x0,x1]
noncomputable def cmp_Or_int (x0 : FV) : Option FV:=den E 122 [x0]
noncomputable def cmp_Compare_int64 (x0 x1 : FV) : Option FV:=den E 123 [x0,x1]
noncomputable def cmp_isNaN_int64 (x0 : FV) : Option FV:=den E 135 [x0]
end Go.Proofs.YtpffkpaiihcffaaGreatDoor.Z
