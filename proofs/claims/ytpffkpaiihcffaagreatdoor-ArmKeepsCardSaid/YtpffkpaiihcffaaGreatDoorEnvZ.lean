/- The abstract machine at this program: tables, and names of its functions. -/
import Derived.Test.YtpffkpaiihcffaaGreatDoorCont
import Derived.Test.YtpffkpaiihcffaaGreatDoorProg
import Derived.Test.YtpffkpaiihcffaaGreatDoorCel
namespace Go.Proofs.YtpffkpaiihcffaaGreatDoor.Z
open Go Go.Proofs Go.Proofs.YtpffkpaiihcffaaGreatDoor.VM
def tyL : List (Nat × TyI):=[
 (2,⟨(.int .i64),1,8,[.int .i64 0],[.int]⟩),
 (3,⟨(.int .i64),1,8,[.int .i64 0],[.int]⟩),
 (4,⟨.bool,1,1,[.bool false],[.bool]⟩),
 (5,⟨(.int .u8),1,1,[.int .u8 0],[.int]⟩),
 (9,⟨.str,1,16,[.str []],[.str]⟩),
 (23,⟨(.struct [(0,1,false),(1,1,false)]),2,16,[.int .i64 0,.int .i64 0],[.int,.int]⟩),
 (24,⟨(.slice 53),1,24,[.nilS],[]⟩),
 (25,⟨(.int .i64),1,8,[.int .i64 0],[.int]⟩),
 (39,⟨(.struct [(0,1,false),(1,1,false)]),2,32,[.str [],.str []],[.str,.str]⟩),
 (53,⟨(.struct [(0,1,false),(1,1,false),(2,1,false)]),3,24,[.int .i64 0,.int .i64 0,.int .i64 0],[.int,.int,.int]⟩),
 (60,⟨(.slice 135),1,24,[.nilS],[]⟩),
 (62,⟨(.struct [(0,1,false),(1,1,false)]),2,32,[.int .i64 0,.nilS],[]⟩),
 (75,⟨(.slice 3),1,24,[.nilS],[]⟩),
 (80,⟨(.slice 5),1,24,[.nilS],[]⟩),
 (90,⟨(.slice 94),1,24,[.nilS],[]⟩),
 (92,⟨.func,1,8,[.cst .nilFunc],[]⟩),
 (94,⟨(.struct [(0,1,false),(1,1,false)]),2,16,[.int .i64 0,.cst .nilFunc],[]⟩),
 (104,⟨.func,1,8,[.cst .nilFunc],[]⟩),
 (119,⟨(.struct [(0,1,false),(1,1,false),(2,1,false),(3,1,false),(4,1,false),(5,1,false),(6,1,false),(7,1,false),(8,1,false)]),9,136,[.str [],.str [],.str [],.str [],.str [],.str [],.str [],.str [],.int .i64 0],[.str,.str,.str,.str,.str,.str,.str,.str,.int]⟩),
 (121,⟨(.array 3 39),6,96,[.str [],.str [],.str [],.str [],.str [],.str []],[]⟩),
 (127,⟨(.struct [(0,1,false),(1,1,false)]),2,24,[.str [],.int .i64 0],[.str,.int]⟩),
 (128,⟨(.array 9 127),18,216,[.str [],.int .i64 0,.str [],.int .i64 0,.str [],.int .i64 0,.str [],.int .i64 0,.str [],.int .i64 0,.str [],.int .i64 0,.str [],.int .i64 0,.str [],.int .i64 0,.str [],.int .i64 0],[]⟩),
 (135,⟨(.struct [(0,1,false),(1,1,false),(2,1,false),(3,1,false),(4,1,false),(5,1,false)]),6,48,[.int .i64 0,.int .i64 0,.int .i64 0,.int .i64 0,.int .i64 0,.int .i64 0],[.int,.int,.int,.int,.int,.int]⟩),
 (138,⟨(.struct [(0,1,false),(1,1,false),(2,1,false),(3,1,false),(4,1,false),(5,1,false),(6,1,false),(7,1,false),(8,1,false),(9,1,false)]),10,80,[.int .i64 0,.int .i64 0,.int .i64 0,.int .i64 0,.int .i64 0,.int .i64 0,.int .i64 0,.int .i64 0,.int .i64 0,.int .i64 0],[.int,.int,.int,.int,.int,.int,.int,.int,.int,.int]⟩),
 (143,⟨(.array 5 3),5,40,[.int .i64 0,.int .i64 0,.int .i64 0,.int .i64 0,.int .i64 0],[]⟩),
 (146,⟨(.array 4 3),4,32,[.int .i64 0,.int .i64 0,.int .i64 0,.int .i64 0],[]⟩),
 (154,⟨(.ptr 156),1,8,[.cst (.pointer none)],[]⟩),
 (156,⟨(.struct [(0,1,false),(1,1,false),(2,1,false)]),3,56,[.nilS,.nilS,.int .i64 0],[]⟩),
 (159,⟨(.slice 39),1,24,[.nilS],[]⟩),
 (168,⟨(.slice 173),1,24,[.nilS],[]⟩),
 (170,⟨(.ptr 138),1,8,[.cst (.pointer none)],[]⟩),
 (171,⟨(.ptr 3),1,8,[.cst (.pointer none)],[]⟩),
 (173,⟨(.struct [(0,1,false),(1,1,false)]),2,16,[.int .i64 0,.cst (.pointer none)],[]⟩)]
noncomputable def fnL : List (Nat × Func):=[(13,Tryz.f13),(24,Tryz.f24),(34,Tryz.f34),(38,Tryz.f38),(50,Tryz.f50),(51,Tryz.f51),(52,Tryz.f52),(63,Tryz.f63),(64,Tryz.f64),(65,Tryz.f65),(69,Tryz.f69),(71,Tryz.f71),(72,Tryz.f72),(73,Tryz.f73),(74,Tryz.f74),(75,Tryz.f75),(76,Tryz.f76),(77,Tryz.f77),(78,Tryz.f78),(79,Tryz.f79),(80,Tryz.f80),(81,Tryz.f81),(82,Tryz.f82),(83,Tryz.f83),(84,Tryz.f84),(85,Tryz.f85),(86,Tryz.f86),(98,Tryz.f98),(99,Tryz.f99),(100,Tryz.f100),(103,Tryz.f103),(105,Tryz.f105),(106,Tryz.f106),(107,Tryz.f107),(108,Tryz.f108),(109,Tryz.f109),(116,Tryz.f116),(118,Tryz.f118),(122,Tryz.f122),(123,Tryz.f123),(124,Tryz.f124),(135,Tryz.f135)]
def modeT : Nat → FMode
 | 13 => .call [] false
 | 24 => .call [] false
 | 34 => .call [] false
 | 38 => .call [] false
 | 50 => .call [] false
 | 51 => .call [] false
 | 52 => .call [] false
 | 63 => .call [] false
 | 64 => .call [] false
 | 65 => .call [] false
 | 69 => .call [] false
 | 71 => .call [] false
 | 72 => .call [] false
 | 73 => .call [] false
 | 74 => .call [] false
 | 75 => .call [] false
 | 76 => .call [] false
 | 77 => .call [] false
 | 78 => .call [] false
 | 79 => .call [] false
 | 80 => .call [] false
 | 81 => .call [] false
 | 82 => .call [] false
 | 83 => .call [] false
 | 84 => .call [] false
 | 85 => .call [] false
 | 86 => .call [] false
 | 98 => .call [] false
 | 99 => .call [] false
 | 100 => .call [] false
 | 103 => .call [] false
 | 105 => .call [] false
 | 106 => .inl
 | 107 => .inl
 | 108 => .inl
 | 109 => .call [] false
 | 116 => .call [] false
 | 118 => .call [] false
 | 122 => .call [] false
 | 123 => .call [] false
 | 124 => .move [(0,1,false)] [(0,0,1)]
 | 135 => .call [] false
 | _ => .no
def annT : Nat → List (List Nat × Ann)
 | 98 => [([4,1,0,1],⟨1,[1,5,9,10,11],[],[]⟩)]
 | 63 => [([4,1,0,1],⟨1,[1,8,9],[],[]⟩),([4,1,0,1,1,1],⟨1,[1,20,21,22],[],[]⟩),([4,1,0,1,4,0,1,1,5,4,1,0,1,1,1],⟨2,[1,4,20,21,22,36,37],[],[]⟩)]
 | 122 => [([4,1,0,1,1],⟨0,[3,6,7,8],[],[]⟩)]
 | 85 => [([4,1,0,1],⟨0,[0,1,7,8,9],[],[]⟩)]
 | 118 => [([1],⟨1,[1],[],[]⟩),([4,1,0,1,1],⟨1,[1,17,18],[],[]⟩),([2,1,3,1,3,1,4,1,0,1,1],⟨1,[1],[],[]⟩),([4,1,0,2,1,3,1,3,1,3,1,4,1,0,1,1],⟨1,[1,75,76],[],[]⟩)]
 | 52 => [([4,1,0,1],⟨0,[0,6,7],[],[]⟩)]
 | 38 => [([1],⟨1,[1],[],[]⟩)]
 | 13 => [([1,1],⟨1,[0,1,5],[],[]⟩),([1,0,1,1,1],⟨1,[0,1],[],[]⟩),([1,1,1],⟨1,[0,1],[],[]⟩)]
 | 124 => [([4,0,1],⟨1,[0,1,2],[(.t 0,1)],[]⟩),([4,1,0,1,1],⟨2,[0,1,2,19,20],[],[]⟩)]
 | 74 => [([1,1,1,1],⟨4,[2,4,5,6],[(.c 2 1,1),(.c 2 0,1)],[]⟩)]
 | 79 => [([4,1,0,1,1],⟨2,[2,3,6,7,8],[],[]⟩)]
 | 83 => [([1],⟨1,[0,1,3],[],[]⟩)]
 | 24 => [([4,1,0,1,1],⟨2,[1,2,10,11,12],[],[]⟩)]
 | _ => []
noncomputable def ovT : Nat → Option (List FV → Option FV)
 | 109 => some repOv
 | _ => none
def cutT : Nat → List Nat
 | _ => []
def ordT : Nat → Nat → List (Nat × List Nat)
 | 78,1 => [(1,[]),(3,[]),(4,[]),(0,[]),(2,[0,1]),(5,[0,1,2,4]),(6,[0,1,2,3,4,5]),(7,[0,1,2,3,4,5,6]),(8,[0,1,2,3,4,5,6,7])]
 | 83,2 => [(0,[]),(1,[0]),(3,[]),(2,[0,1]),(4,[0,1,2,3]),(5,[0,1,2,3,4]),(6,[0,1,2,3,4,5]),(7,[0,1,2,3,4,5,6])]
 | 83,4 => [(1,[]),(0,[]),(2,[0,1]),(3,[0,1,2]),(4,[0,1,2,3]),(5,[0,1,2,3,4])]
 | 83,5 => [(0,[]),(1,[0]),(3,[]),(2,[0,1]),(4,[0,1,2,3]),(5,[0,1,2,3,4]),(6,[0,1,2,3,4,5]),(7,[0,1,2,3,4,5,6])]
 | 85,8 => [(0,[]),(1,[0]),(2,[0,1]),(3,[0,1,2]),(4,[0,1,2]),(5,[0,1,2,4]),(6,[0,1,2,3,4,5]),(7,[0,1,2,3,4,5,6]),(8,[0,1,2]),(9,[0,1,2,3,4,5,6,7,8]),(10,[0,1,2,3,4,5,6,7,8,9]),(11,[0,1,2,3,4,5,6,7,8,9,10]),(12,[0,1,2,3,4,5,6,7,8,9,10,11])]
 | 100,8 => [(0,[]),(1,[0]),(2,[]),(3,[]),(4,[3]),(5,[2,3,4]),(6,[0,1,2,3,4,5]),(7,[0,1,2,3,4,5,6])]
 | 103,1 => [(0,[]),(1,[0]),(2,[]),(3,[2]),(5,[]),(6,[5]),(7,[]),(8,[7]),(4,[0,1,2,3]),(9,[0,1,2,3,4,5,6,7,8]),(10,[0,1,2,3,4,5,6,7,8,9]),(11,[0,1,2,3,4,5,6,7,8,9,10]),(12,[0,1,2,3,4,5,6,7,8,9,10,11])]
 | 106,0 => [(0,[]),(1,[]),(2,[1]),(3,[1,2]),(4,[1,2,3]),(5,[]),(6,[]),(7,[6]),(8,[6,7]),(9,[6,7,8]),(10,[5,6,7,8,9]),(11,[]),(12,[1,2,3,4,5,6,7,8,9,10,11]),(13,[0,1,2,3,4,5,6,7,8,9,10,11,12]),(14,[0,1,2,3,4,5,6,7,8,9,10,11,12,13]),(15,[0,1,2,3,4,5,6,7,8,9,10,11,12,13,14])]
 | 108,1 => [(0,[]),(1,[0]),(2,[0,1]),(3,[0,1,2]),(4,[0,1,2,3]),(5,[]),(6,[5]),(7,[5,6]),(8,[5,6,7]),(9,[5,6,7,8]),(10,[0,1,2,3,4,5,6,7,8,9]),(11,[0,1,2,3,4,5,6,7,8,9,10]),(12,[0,1,2,3,4,5,6,7,8,9,10,11])]
 | 108,2 => [(0,[]),(1,[0]),(2,[0,1]),(3,[0,1,2]),(4,[]),(7,[]),(8,[7]),(9,[7,8]),(10,[7,8,9]),(11,[]),(5,[0,1,2,3,4]),(6,[0,1,2,3,4,5]),(12,[0,1,2,3,4,5,7,8,9,10,11]),(13,[0,1,2,3,4,5,7,8,9,10,11,12]),(14,[0,1,2,3,4,5,6,7,8,9,10,11,12,13]),(15,[0,1,2,3,4,5,6,7,8,9,10,11,12,13,14])]
 | _,_ => []
noncomputable def E : Env:={ ty:=tyOf tyL,fn:=fnOf fnL,mode:=modeT,ann:=fun g p => annOf (annT g) p,ov:=ovT,cuts:=cutT,ord:=ordT,capT:=2 }
noncomputable def callDyn (agg : Bool) (x : FV) (args : List FV) : Option FV:=dynK E (den E) agg x args
noncomputable def arm_After (x0 x1 x2 : FV) : Option FV:=den E 13 [x0,x1,x2]
noncomputable def arm_Pulses (x0 : FV) : Option FV:=den E 24 [x0]
noncomputable def arm_stands (x0 x1 : FV) : Option FV:=den E 34 [x0,x1]
noncomputable def arm_formed (x0 : FV) : Option FV:=den E 38 [x0]
noncomputable def arm_doers : Option FV:=den E 50 []
noncomputable def cells_Proper (x0 x1 : FV) : Option FV:=den E 51 [x0,x1]
noncomputable def cells_Word (x0 : FV) : Option FV:=den E 52 [x0]
noncomputable def cells_Check (x0 : FV) : Option FV:=den E 63 [x0]
noncomputable def cells_far (x0 x1 : FV) : Option FV:=den E 64 [x0,x1]
noncomputable def cells_isState (x0 x1 : FV) : Option FV:=den E 65 [x0,x1]
noncomputable def cells_behind (x0 x1 : FV) : Option FV:=den E 69 [x0,x1]
noncomputable def cells_look (x0 x1 : FV) : Option FV:=den E 85 [x0,x1]
noncomputable def cells_Proper_1 (x0 x1 : FV) : Option FV:=den E 86 [x0,x1]
noncomputable def field_Far (x0 x1 : FV) : Option FV:=den E 99 [x0,x1]
noncomputable def cells_YardOf (x0 : FV) : Option FV:=den E 100 [x0]
noncomputable def field_Behind (x0 x1 : FV) : Option FV:=den E 103 [x0,x1]
noncomputable def strings_Repeat (x0 x1 : FV) : Option FV:=den E 109 [x0,x1]
noncomputable def cmp_Or_int (x0 : FV) : Option FV:=den E 122 [x0]
noncomputable def cmp_Compare_int64 (x0 x1 : FV) : Option FV:=den E 123 [x0,x1]
noncomputable def cmp_isNaN_int64 (x0 : FV) : Option FV:=den E 135 [x0]
end Go.Proofs.YtpffkpaiihcffaaGreatDoor.Z
