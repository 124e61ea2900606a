/- The abstract machine: values, heap, operations in continuation style, evaluation of the model's code. Nothing here is a claim about the model; Sound.lean ties it. -/
import GoSem.Core.Sem
import GoSem.Core.Utf8
import GoSem.Core.Region
namespace Go.Proofs.YtpffkpaiihcffaaGreatDoor.VM
open Go
inductive FV where
 | undef
 | cst (c : Value)
 | bool (b : Bool)
 | int (k : IntKind) (n : Int)
 | str (s : List UInt8)
 | nilS
 | arr (rows : List (List FV))
 | eptr (cells : List FV) (off : Nat)
 | agg (cells : List FV)
 | tup (vs : List FV)
 | func (g : Nat) (caps : List FV)
 | iface (t : Nat) (v : FV)
 deriving Inhabited
inductive V where
 | un
 | f (x : FV)
 | ref (id : Nat)
 | ptr (id i off : Nat)
 | mp (id : Nat)
 | it (id : Nat)
 | agg (cells : List V)
 | tup (vs : List V)
 | func (g : Nat) (caps : List V)
 deriving Inhabited
inductive Blk where
 | dead
 | free
 | own (s : Nat) (rows : List (List FV))
 | old (rows : List (List FV))
 | fz (rows : List (List FV))
 | box (cells : List V)
 | fzb (cells : List FV)
 | map (agg : Bool) (es : List (FV × FV))
 | sit (s : FV) (pos : Nat)
 deriving Inhabited
inductive TyK where
 | other | bool | int (k : IntKind) | str | slice (e : Nat) | struct (fs : List (Nat × Nat × Bool)) | array (n e : Nat) | map (k e : Nat) | ptr (e : Nat) | func
 deriving Inhabited
inductive SK where
 | bool | int | str
 deriving Inhabited
structure TyI where
 k : TyK
 size : Nat
 bytes : Nat
 zero : List FV
 sk : List SK
 deriving Inhabited
def TyI.none : TyI:=⟨.other,0,0,[],[]⟩
def TyI.isAgg (t : TyI) : Bool:=match t.k with | .struct _ | .array _ _ => true | _ => false
def TyI.known (t : TyI) : Bool:=match t.k with | .other => false | _ => true
def tyOf : List (Nat × TyI) → Nat → TyI
 | [],_ => .none
 | (u,i) :: l,t => match Nat.beq u t with | true => i | false => tyOf l t
def fnOf : List (Nat × Func) → Nat → Option Func
 | [],_ => .none
 | (u,i) :: l,t => match Nat.beq u t with | true => some i | false => fnOf l t
inductive Place where
 | t (t : Nat)
 | c (id off : Nat)
structure Ann where
 m : Nat
 keep : List Nat
 own : List (Place × Nat)
 frz : List Place
inductive FMode where
 | no
 | call (own : List (Nat × Nat × Nat)) (lend : Bool)
 | move (ls : List (Nat × Nat × Bool)) (own : List (Nat × Nat × Nat))
 | inl
abbrev R:=Option FV
abbrev Fr:=List V
abbrev Hp:=List Blk
structure Env where
 ty : Nat → TyI
 fn : Nat → Option Func
 mode : Nat → FMode
 ann : Nat → List Nat → Option Ann
 ov : Nat → Option (List FV → Option FV)
 cuts : Nat → List Nat
 ord : Nat → Nat → List (Nat × List Nat)
 capT : Nat
def pars (E : Env) (fn : Func) : List Nat:=fn.params.toList ++ List.replicate fn.nfree E.capT
def lsOf (E : Env) (g : Nat) : List (Nat × Nat × Bool):=match E.mode g with | .move ls _ => ls | _ => []
def annE (E : Env) (g : Nat) (p : List Nat) : Option Ann:=match E.ann g p with
 | some a => some { a with m:=max (lsOf E g).length a.m }
 | none => none
def bindO {α β : Type} (x : Option α) (k : α → Option β) : Option β:=match x with | some a => k a | none => none
def fCond {α : Type} (x : FV) (a b : Option α) : Option α:=match x with | .bool true => a | .bool false => b | _ => none
def sameB : Bool → Bool → Bool | true,true => true | false,false => true | _,_ => false
def isStrF : FV → Bool | .str _ => true | _ => false
def condV (x : V) (a b : R) : R:=match x with | .f x => fCond x a b | _ => none
def gB {α : Type} (b : Bool) (k : Option α) : Option α:=match b with | true => k | false => none
def getF (F : Fr) (i : Nat) : V:=match F[i]? with | some v => v | none => .un
def constF : Value → FV
 | .bool b => .bool b
 | .int k n => .int k n
 | .string s => .str s.data.toList
 | .slice none 0 0 => .nilS
 | c => .cst c
def one : Value → Bool
 | .agg _ | .tuple _ => false
 | _ => true
def constV : Value → V
 | .agg cs => (match cs.toList.all one with | true => .agg (cs.toList.map fun c => .f (constF c)) | false => .un)
 | .tuple _ => .un
 | c => .f (constF c)
def glo0 : List FV:=[.str [49,48,48,48,48],.str [49,48,49,49,48],.str [49,48,48,48,49,48,48,48,48,48,48,48],.str [49,48,49,49,49,49,48,48,49,49,48,48],.str [49,48,48,48,49],.str [49,49,48,48,48]]
def glo1 : List FV:=[.str [48,48,48,48],.int .i64 9,.str [48,48,48,49],.int .i64 10,.str [48,48,49],.int .i64 11,.str [48,49,48],.int .i64 12,.str [48,49,49],.int .i64 17,.str [49,48,48],.int .i64 18,.str [49,48,49],.int .i64 19,.str [49,49,48],.int .i64 20,.str [49,49,49],.int .i64 25]
def globT : List (Nat × List FV):=[(0,glo0),(1,glo1)]
def globOf : List (Nat × List FV) → Nat → Option (List FV)
 | [],_ => none
 | (u,i) :: l,t => match Nat.beq u t with | true => some i | false => globOf l t
def globV (g : Nat) : V:=match globOf globT g with | some cs => .f (.eptr cs 0) | none => .un
def evalV (F : Fr) : Operand → V
 | .tmp t => getF F t
 | .const c => constV c
 | .global g => globV g
 | .func g => .func g []
def rowsOf (H : Hp) (id : Nat) : Option (List (List FV)):=match H[id]? with | some (.own _ r) => some r | some (.old r) => some r | some (.fz r) => some r | _ => none
def isOne : V → Bool | .un | .agg _ | .tup _ => false | _ => true
def rowsF (H : Hp) (id : Nat) : Option (List (List FV)):=match H[id]? with | some (.own _ r) => some r | some (.fz r) => some r | _ => none
def isF : V → Bool | .f _ => true | _ => false
def unF : V → FV | .f x => x | _ => .undef
def cellsF (cs : List V) : Option (List FV):=match cs.all isF with | true => some (cs.map unF) | false => none
def boxF (H : Hp) (id : Nat) : Option (List FV):=match H[id]? with | some (.box cs) => cellsF cs | some (.fzb cs) => some cs | _ => none
def frzV : Nat → Hp → V → FV
 | 0,_,_ => .undef
 | n + 1,H,v => match v with
  | .f x => x
  | .ref id => (match rowsF H id with | some r => .arr r | none => .undef)
  | .ptr id i o => (match i with | 0 => (match boxF H id with | some cs => .eptr cs o | none => .undef) | _ => .undef)
  | .agg cs => (match cs.all isOne with | true => .agg (cs.map (frzV n H)) | false => .undef)
  | .tup cs => .tup (cs.map (frzV n H))
  | .func g cs => (match cs.all isOne with | true => .func g (cs.map (frzV n H)) | false => .undef)
  | _ => .undef
def frz (H : Hp) (v : V) : FV:=frzV 4 H v
def frzC (H : Hp) (v : V) : FV:=frzV 3 H v
def idsV : Nat → V → List Nat
 | 0,_ => []
 | n + 1,v => match v with
  | .ref id => [id]
  | .ptr id _ _ => [id]
  | .agg cs => cs.flatMap (idsV n)
  | .tup cs => cs.flatMap (idsV n)
  | .func _ cs => cs.flatMap (idsV n)
  | _ => []
def markOne (H : Hp) (id : Nat) : Hp:=match H[id]? with
 | some (.own _ r) => H.set id (.fz r)
 | some (.box cs) => (match cellsF cs with | some xs => H.set id (.fzb xs) | none => H)
 | _ => H
def marks (H : Hp) (v : V) : Hp:=(idsV 4 v).foldl markOne H
def settleB : Blk → Blk | .old _ => .dead | b => b
def settle (H : Hp) : Hp:=H.map settleB
def closeB : Blk → Blk | .old _ => .dead | .free => .dead | b => b
def close (base : Nat) (H : Hp) : Hp:=H.zipIdx.map fun p => match Nat.ble base p.2 with | true => closeB p.1 | false => settleB p.1
def newB {α : Type} (H : Hp) (nid : Nat) (b : Blk) (k : Hp → Option α) : Option α:=match H[nid]? with | some .free => k (H.set nid b) | _ => none
def frees : Nat → Hp | 0 => [] | n + 1 => .free :: frees n
def liveV (H : Hp) (v : V) : Bool:=(idsV 4 v).all fun id => match H[id]? with | some (.own _ _) | some (.fz _) | some (.box _) | some (.fzb _) => true | _ => false
def cells? (n : Nat) : FV → Option (List FV)
 | .agg cs => if cs.length = n then some cs else none
 | _ => none
def fLen : FV → Option FV
 | .arr r => some (.int .i64 r.length)
 | .nilS => some (.int .i64 0)
 | _ => none
def fCap : FV → Option FV
 | .nilS => some (.int .i64 0)
 | _ => none
def fLenT : FV → Option FV
 | .str s => some (.int .i64 s.length)
 | _ => none
def fAddr (p : FV) (off : Nat) : FV:=match p with | .eptr cs o => .eptr cs (o + off) | _ => .undef
def fAddrO (p : FV) (off : Nat) : Option FV:=match p with | .eptr cs o => some (.eptr cs (o + off)) | _ => none
def fLd (p : FV) (off : Nat) : Option FV:=match p with | .eptr cs o => cs[o + off]? | _ => none
def asNat (i : FV) : Option Nat:=match i with | .int _ n => if 0 ≤ n then some n.toNat else none | _ => none
def fIdx (size : Nat) (x i : FV) : Option FV:=match x with
 | .arr r => bindO (asNat i) fun j => bindO r[j]? fun cs => if cs.length = size then some (.eptr cs 0) else none
 | _ => none
def fIdxC (size : Nat) (x i : FV) : Option (List FV):=match x with
 | .arr r => bindO (asNat i) fun j => bindO r[j]? fun cs => if cs.length = size then some cs else none
 | _ => none
def rIdx (r : List (List FV)) (i : FV) : Option Nat:=bindO (asNat i) fun j => if j < r.length then some j else none
def rGet (r : List (List FV)) (j k : Nat) : Option FV:=bindO r[j]? fun cs => cs[k]?
def rSet (r : List (List FV)) (j k : Nat) (vs : List FV) : Option (List (List FV)) :=
 bindO r[j]? fun cs => if k + vs.length ≤ cs.length then some (r.set j (cs.take k ++ vs ++ cs.drop (k + vs.length))) else none
def asRows : FV → Option (List (List FV))
 | .arr r => some r
 | .nilS => some []
 | _ => none
def strRows : FV → Option (List (List FV))
 | .str s => some (s.map fun b => [.int .u8 b.toNat])
 | _ => none
def arrRows : FV → Option (List (List FV))
 | .arr r => some r
 | _ => none
def fCell (x : FV) (i : Nat) : FV:=match x with | .agg cs => (match cs[i]? with | some c => c | none => .undef) | _ => .undef
def fIsAgg (n : Nat) (x : FV) : Bool:=match x with | .agg cs => cs.length == n | _ => false
def fScal : FV → Bool | .bool _ | .int _ _ | .str _ => true | _ => false
def fTup (x : FV) (i : Nat) : FV:=match x with | .tup cs => (match cs[i]? with | some c => c | none => .undef) | _ => .undef
def fIsTup (n : Nat) (x : FV) : Bool:=match x with | .tup cs => cs.length == n | _ => false
def scalarEq : SK → FV → FV → Option Bool
 | .bool,.bool a,.bool b => some (a == b)
 | .int,.int k a,.int l b => if k = l then some (a == b) else none
 | .str,.str a,.str b => some (a == b)
 | _,_,_ => none
def cellsEq : List SK → List FV → List FV → Option Bool
 | [],[],[] => some true
 | s :: ss,a :: as,b :: bs => bindO (scalarEq s a b) fun t => bindO (cellsEq ss as bs) fun u => some (t && u)
 | _,_,_ => none
def bytesLt : List UInt8 → List UInt8 → Bool
 | _,[] => false
 | [],_ :: _ => true
 | a :: x,b :: y => a < b || (a == b && bytesLt x y)
def intBin (op : BinOp) (k : IntKind) (x y : Int) : Option FV:=match op with
 | .add => some (.int k (k.wrap (x + y)))
 | .sub => some (.int k (k.wrap (x - y)))
 | .mul => some (.int k (k.wrap (x * y)))
 | .quo => if y = 0 then none else some (.int k (k.wrap (x.tdiv y)))
 | .rem => if y = 0 then none else some (.int k (x.tmod y))
 | .and => some (.int k (k.wrap (BitVec.ofInt k.bits x &&& BitVec.ofInt k.bits y).toNat))
 | .or => some (.int k (k.wrap (BitVec.ofInt k.bits x ||| BitVec.ofInt k.bits y).toNat))
 | .xor => some (.int k (k.wrap (BitVec.ofInt k.bits x ^^^ BitVec.ofInt k.bits y).toNat))
 | .andNot => some (.int k (k.wrap (BitVec.ofInt k.bits x &&& ~~~BitVec.ofInt k.bits y).toNat))
 | .eql => some (.bool (x == y))
 | .neq => some (.bool (x != y))
 | .lss => some (.bool (x < y))
 | .leq => some (.bool (x ≤ y))
 | .gtr => some (.bool (x > y))
 | .geq => some (.bool (x ≥ y))
 | _ => none
def fBin (op : BinOp) (x y : FV) : Option FV:=match op with
 | .shl => (match x,y with | .int k a,.int _ b => if b < 0 then none else some (.int k (k.wrap (a * 2 ^ (min b.toNat k.bits)))) | _,_ => none)
 | .shr => (match x,y with | .int k a,.int _ b => if b < 0 then none else some (.int k (a.fdiv (2 ^ (min b.toNat k.bits)))) | _,_ => none)
 | _ => match x,y with
  | .int k a,.int l b => if k = l then intBin op k a b else none
  | .str a,.str b => (match op with
   | .add => if a.length + b.length ≤ 9223372036854775807 then some (.str (a ++ b)) else none
   | .eql => some (.bool (a == b)) | .neq => some (.bool (!(a == b)))
   | .lss => some (.bool (bytesLt a b)) | .geq => some (.bool (!bytesLt a b))
   | .leq => some (.bool (bytesLt a b || a == b)) | .gtr => some (.bool (!(bytesLt a b || a == b)))
   | _ => none)
  | _,_ => none
def fBoolBin (op : BinOp) (x y : FV) : Option FV:=match op,x,y with
 | .eql,.bool a,.bool b => some (.bool (a == b))
 | .neq,.bool a,.bool b => some (.bool (!(a == b)))
 | _,_,_ => none
def fAggBin (sk : List SK) (op : BinOp) (xs ys : List FV) : Option FV:=match sk,op with
 | _ :: _,.eql => bindO (cellsEq sk xs ys) fun t => some (.bool t)
 | _ :: _,.neq => bindO (cellsEq sk xs ys) fun t => some (.bool (!t))
 | _,_ => none
def fUn (op : UnOp) (x : FV) : Option FV:=match op,x with
 | .neg,.int k n => some (.int k (k.wrap (0 - n)))
 | .not,.bool b => some (.bool (!b))
 | _,_ => none
def asInt : FV → Option Int | .int _ n => some n | _ => none
def cut? (n : Nat) (lo hi : Option FV) : Option (Nat × Nat) :=
 bindO (match hi with | some h => asNat h | none => some n) fun h =>
 bindO (match lo with | some l => asNat l | none => some 0) fun l => if l ≤ h ∧ h ≤ n then some (l,h) else none
def rowsSz (n : Nat) : List (List FV) → Bool
 | [] => true
 | r :: _ => r.length == n
def fCut (size : Nat) (x : FV) (lo hi : Option FV) : Option FV:=match x with
 | .arr r => gB (rowsSz size r) (bindO (cut? r.length lo hi) fun p => some (.arr ((r.take p.2).drop p.1)))
 | .nilS => bindO (cut? 0 lo hi) fun _ => some .nilS
 | _ => none
def fSub (x : FV) (lo hi : Option FV) : Option FV:=match x with
 | .str s => bindO (cut? s.length lo hi) fun p => some (.str ((s.take p.2).drop p.1))
 | _ => none
def fByte (x i : FV) : Option FV:=match x with
 | .str s => bindO (asNat i) fun j => bindO s[j]? fun b => some (.int .u8 b.toNat)
 | _ => none
def fConvInt (k : IntKind) (x : FV) : Option FV:=match x with | .int _ n => some (.int k (k.wrap n)) | _ => none
def byte? : List FV → Option UInt8 | [.int .u8 n] => some (UInt8.ofNat n.toNat) | _ => none
def bytes? : List (List FV) → Option (List UInt8)
 | [] => some []
 | r :: rs => bindO (byte? r) fun b => bindO (bytes? rs) fun bs => some (b :: bs)
def fToStr (x : FV) : Option FV:=match x with
 | .arr r => bindO (bytes? r) fun s => some (.str s)
 | .nilS => some (.str [])
 | _ => none
def fToStrI (x : FV) : Option FV:=match x with
 | .str s => some (.str s)
 | .int _ n => some (.str (Utf8.encode n).data.toList)
 | _ => none
def fMinMax (isMax : Bool) (x y : FV) : Option FV:=match x,y with
 | .int k a,.int l b => if k = l then some (.int k (if isMax then (if b > a then b else a) else (if b < a then b else a))) else none
 | _,_ => none
def fNext (s : FV) (pos : Nat) : Option (Bool × Int × Nat):=match s with
 | .str s => if pos < s.length then let d:=Utf8.decode ⟨s.toArray⟩ pos;some (true,d.1,pos + d.2) else some (false,0,pos)
 | _ => none
def scalOk : SK → FV → Bool
 | .bool,.bool _ => true
 | .int,.int _ _ => true
 | .str,.str _ => true
 | _,_ => false
def cellsOk : List SK → List FV → Bool
 | [],[] => true
 | s :: ss,a :: as => scalOk s a && cellsOk ss as
 | _,_ => false
def keyOk (agg : Bool) (sk : List SK) (k : FV) : Bool:=match agg with
 | true => (match sk,k with | _ :: _,.agg cs => cellsOk sk cs | _,_ => false)
 | false => (match sk with | [s] => scalOk s k | _ => false)
def keyEq (agg : Bool) (sk : List SK) (x y : FV) : Option Bool:=match agg with
 | true => (match x,y with | .agg a,.agg b => cellsEq sk a b | _,_ => none)
 | false => (match sk with | [s] => scalarEq s x y | _ => none)
def mFind (agg : Bool) (sk : List SK) (es : List (FV × FV)) (k : FV) : Option (Option FV):=match es with
 | [] => some none
 | e :: es => bindO (keyEq agg sk k e.1) fun t => match t with | true => some (some e.2) | false => mFind agg sk es k
def mPut (agg : Bool) (sk : List SK) (es : List (FV × FV)) (k v : FV) : Option (List (FV × FV)):=match es with
 | [] => some [(k,v)]
 | e :: es => bindO (keyEq agg sk k e.1) fun t => match t with | true => some ((k,v) :: es) | false => bindO (mPut agg sk es k v) fun r => some (e :: r)
def mLook (agg : Bool) (sk : List SK) (es : List (FV × FV)) (k z : FV) : Option (FV × Bool):=gB (keyOk agg sk k) (bindO (mFind agg sk es k) fun r => match r with | some v => some (v,true) | none => some (z,false))
def cellsV (agg : Bool) (v : V) : Option (List V):=match agg with
 | true => (match v with | .agg cs => (match cs.all isOne with | true => some cs | false => none) | _ => none)
 | false => (match isOne v with | true => some [v] | false => none)
def fitsV (agg : Bool) (v : V) : Bool:=match cellsV agg v with | some _ => true | none => false
def splitAgg (n : Nat) (x : FV) (k : V → R) : R:=gB (fIsAgg n x) (k (.agg ((List.range n).map fun i => .f (fCell x i))))
def splitAs (agg : Bool) (n : Nat) (x : FV) (k : V → R) : R:=match agg with | true => splitAgg n x k | false => k (.f x)
def ldCell (H : Hp) (p : V) (off : Nat) (k : V → R) : R:=match p with
 | .f x => bindO (fLd x off) fun c => k (.f c)
 | .ptr id i o => (match H[id]? with
  | some (.box cs) => (match i with | 0 => (match cs[o + off]? with | some v => k v | none => none) | _ => none)
  | some (.fzb cs) => (match i with | 0 => (match cs[o + off]? with | some x => k (.f x) | none => none) | _ => none)
  | some (.own _ r) => bindO (rGet r i (o + off)) fun c => k (.f c)
  | some (.old r) => bindO (rGet r i (o + off)) fun c => k (.f c)
  | some (.fz r) => bindO (rGet r i (o + off)) fun c => k (.f c)
  | _ => none)
 | _ => none
def ldCells (H : Hp) (p : V) : (n off : Nat) → List V → (List V → R) → R
 | 0,_,acc,k => k acc.reverse
 | n + 1,off,acc,k => ldCell H p off fun c => ldCells H p n (off + 1) (c :: acc) k
def loadK (E : Env) (H : Hp) (t : Nat) (p : V) (k : V → R) : R:=gB (E.ty t).known (match (E.ty t).isAgg with
 | true => gB (Nat.ble 1 (E.ty t).size) (ldCells H p (E.ty t).size 0 [] fun cs => k (.agg cs))
 | false => ldCell H p 0 k)
def listSets {α : Type} (l : List α) (o : Nat) : List α → List α
 | [] => l
 | x :: xs => listSets (l.set o x) (o + 1) xs
def storeK (E : Env) (H : Hp) (t : Nat) (p v : V) (k : Hp → R) : R:=match cellsV (E.ty t).isAgg v with
 | some vs => gB ((E.ty t).known && vs.length == (E.ty t).size) (match p with
  | .ptr id i o => (match H[id]? with
   | some (.box cs) => gB (Nat.beq i 0 && Nat.ble (o + vs.length) cs.length) (k ((settle H).set id (.box (listSets cs o vs))))
   | some (.own _ r) => gB (liveV H (.agg vs)) (bindO (rSet r i o (vs.map (frzC H))) fun r' => (match (settle (marks H (.agg vs)))[id]? with | some (.own s _) => k ((settle (marks H (.agg vs))).set id (.own s r')) | _ => none))
   | _ => none)
  | _ => none)
 | none => none
def fillV (fs : List (Nat × Nat × Bool)) (z : List V) : List (Nat × V) → Option (List V)
 | [] => some z
 | (i,v) :: rest => match fs[i]? with
  | some (off,size,agg) => (match cellsV agg v with | some vs => if vs.length = size ∧ off + size ≤ z.length then fillV fs (listSets z off vs) rest else none | none => none)
  | none => none
def rowsLit (E : Env) (H : Hp) (e : Nat) : Nat → List (Nat × V) → Option (List (List FV))
 | _,[] => some []
 | i,(j,v) :: rest => if i = j then (match cellsV (E.ty e).isAgg v with
   | some vs => if vs.length = (E.ty e).size then (match rowsLit E H e (i + 1) rest with | some r => some (vs.map (frzC H) :: r) | none => none) else none
   | none => none) else none
def isCut (cuts : List Nat) (d : Option Nat) : Bool:=match d with | some d => cuts.contains d | none => false
def feeds (ops : Array Oper) (d : Option Nat) : Bool:=match d with
 | none => false
 | some d => ops.toList.any (fun o => match o.op with | .call { callee:=.builtin .append,args,.. } => (match (args.toList : List Operand) with | [_,.tmp t] => t == d | _ => false) | _ => false)
def srcRows (H : Hp) (isStr : Bool) (v : V) (k : List (List FV) → R) : R:=match isStr with
 | true => (match v with | .f x => bindO (strRows x) k | _ => none)
 | false => (match v with
  | .f x => bindO (asRows x) k
  | .ref id => (match rowsOf H id with | some r => k r | none => none)
  | _ => none)
def isNilO : Operand → Bool
 | .const (.slice none 0 0) => true
 | _ => false
def eqF : FV → FV → Bool
 | .arr [],.arr [] => true
 | .nilS,.nilS => true
 | .bool a,.bool b => sameB a b
 | .int k a,.int l b => decide (k = l) && decide (a = b)
 | .str a,.str b => decide (a = b)
 | _,_ => false
def bothR (a b : R) : R:=match a with
 | some x => (match b with | some y => gB (eqF x y) (some x) | none => none)
 | none => none
def onRows (r : List (List FV)) (a b : R) : R:=match r with
 | [] => bothR a b
 | _ :: _ => b
def onFV (x : FV) (a b : R) : R:=match x with
 | .nilS => bothR a b
 | .arr r => onRows r a b
 | _ => none
def nilK (x : V) (H : Hp) (a b : R) : R:=match x with
 | .f x => onFV x a b
 | .ref id => (match rowsOf H id with | some r => onRows r a b | none => none)
 | _ => none
def onNil (x : FV) (a : R) : R:=match x with
 | .nilS => a
 | _ => none
def there (H : Hp) (id : Nat) : Bool:=match H[id]? with | some .dead => false | some .free => false | some _ => true | none => false
def room : Nat:=140737488355328
def appendK (E : Env) (nid : Nat) (H : Hp) (e : Nat) (isStr : Bool) (s x : V) (k : V → Hp → R) : R:=gB (match isStr with | true => Nat.beq (E.ty e).size 1 | false => true) <| srcRows H isStr x fun ys => gB (rowsSz (E.ty e).size ys) (match s with
 | .f y => onNil y (gB (ys.length * (E.ty e).bytes ≤ room) (newB H nid (.own (E.ty e).size ys) fun H => k (.ref nid) H))
 | .ref id => (match H[id]? with
  | some (.own sz r) => gB (Nat.beq sz (E.ty e).size) (gB ((r.length + ys.length) * (E.ty e).bytes ≤ room) (newB ((settle H).set id (.old r)) nid (.own sz (r ++ ys)) fun H => k (.ref nid) H))
  | _ => none)
 | _ => none)
def appendZ (E : Env) (nid : Nat) (H : Hp) (e : Nat) (s x : V) (k : V → Hp → R) : R:=match s with
 | .f y => (match x with
  | .f n => onNil y (bindO (asNat n) fun n => gB (n * (E.ty e).bytes ≤ room) (newB H nid (.own (E.ty e).size (List.replicate n (E.ty e).zero)) fun H => k (.ref nid) H))
  | _ => none)
 | _ => none
def idxK (E : Env) (H : Hp) (t : Nat) (x i : V) (k : V → R) : R:=match (E.ty t).k,i with
 | .slice e,.f i => (match x with
  | .f x => bindO (fIdxC (E.ty e).size x i) fun cs => k (.f (.eptr cs 0))
  | .ref id => (match H[id]? with
   | some (.own sz r) => gB (Nat.beq sz (E.ty e).size) (bindO (rIdx r i) fun j => k (.ptr id j 0))
   | some (.old r) => gB (rowsSz (E.ty e).size r) (bindO (rIdx r i) fun j => k (.ptr id j 0))
   | some (.fz r) => gB (rowsSz (E.ty e).size r) (bindO (rIdx r i) fun j => k (.ptr id j 0))
   | _ => none)
  | _ => none)
 | .array n e,.f i => gB (E.ty e).known (bindO (asNat i) fun j => gB (j < n) (match x with
  | .f p => bindO (fAddrO p (j * (E.ty e).size)) fun q => k (.f q)
  | .ptr id r o => gB (there H id) (k (.ptr id r (o + j * (E.ty e).size)))
  | _ => none))
 | _,_ => none
def arrCells (xs : List FV) : (n off : Nat) → List V → Option (List V)
 | 0,_,acc => some acc.reverse
 | n + 1,off,acc => bindO xs[off]? fun x => arrCells xs n (off + 1) (.f x :: acc)
def arrCellsK (xs : List FV) : (n off : Nat) → List V → (List V → R) → R
 | 0,_,acc,k => k acc.reverse
 | n + 1,off,acc,k => bindO xs[off]? fun x => arrCellsK xs n (off + 1) (.f x :: acc) k
theorem arrCellsK_eq (xs : List FV) (k : List V → R) : ∀ (n off : Nat) (acc : List V),arrCellsK xs n off acc k = bindO (arrCells xs n off acc) k
 | 0,_,_ => rfl
 | n + 1,off,acc => by
  simp only [arrCellsK,arrCells]
  cases xs[off]? with
  | none => rfl
  | some x => exact arrCellsK_eq xs k n (off + 1) (.f x :: acc)
def optF : Option V → Option (Option FV)
 | none => some none
 | some (.f x) => some (some x)
 | _ => none
def minmaxK (isMax : Bool) : FV → List V → (V → R) → R
 | x,[],k => k (.f x)
 | x,.f y :: rest,k => bindO (fMinMax isMax x y) fun z => minmaxK isMax z rest k
 | _,_,_ => none
def fieldOf (t : TyI) (i : Nat) : Option (Nat × Nat × Bool):=match t.k with | .struct fs => fs[i]? | _ => none
def listSlice {α : Type} (l : List α) (o n : Nat) : List α:=(l.drop o).take n
def packV : List V → V
 | [v] => v
 | vs => .tup vs
def resV (E : Env) (F : Fr) (H : Hp) : List ResultVar → List V → (List V → R) → R
 | [],acc,k => k acc.reverse
 | .tmp t :: rs,acc,k => resV E F H rs (getF F t :: acc) k
 | .cell a t :: rs,acc,k => loadK E H t (getF F a) fun v => resV E F H rs (v :: acc) k
def ownJ : List (Nat × Nat × Nat) → Nat → List (Nat × Nat)
 | [],_ => []
 | (a,j) :: l,i => match Nat.beq a i with | true => j :: ownJ l i | false => ownJ l i
def ownAt : List (Nat × Nat) → Nat → Option Nat
 | [],_ => none
 | (a,s) :: l,j => match Nat.beq a j with | true => some s | false => ownAt l j
def ownOut (H : Hp) (s : Nat) (v : V) : Option FV:=match v with | .ref id => (match H[id]? with | some (.own s' r) => gB (Nat.beq s' s) (some (.arr r)) | _ => none) | .f .nilS => some (.arr []) | _ => none
def ownCells (H : Hp) (js : List (Nat × Nat)) : Nat → List V → Option (List FV)
 | _,[] => some []
 | j,v :: vs => (match (match ownAt js j with | some s => ownOut H s v | none => (match isOne v with | true => some (frzC H v) | false => none)) with
  | some x => (match ownCells H js (j + 1) vs with | some xs => some (x :: xs) | none => none)
  | none => none)
def outOne (E : Env) (H : Hp) (js : List (Nat × Nat)) (t : Nat) (v : V) : Option FV:=match js with
 | [] => (match fitsV (E.ty t).isAgg v with | true => some (frz H v) | false => none)
 | j :: _ => (match (E.ty t).isAgg with
  | true => (match v with | .agg cs => (match ownCells H js 0 cs with | some xs => some (.agg xs) | none => none) | _ => none)
  | false => ownOut H j.2 v)
def outV (E : Env) (H : Hp) (own : List (Nat × Nat × Nat)) : Nat → List Nat → List V → Option (List FV)
 | _,[],[] => some []
 | i,t :: ts,v :: vs => (match outOne E H (ownJ own i) t v with
  | some x => (match outV E H own (i + 1) ts vs with | some xs => some (x :: xs) | none => none)
  | none => none)
 | _,_,_ => none
def cellIds (js : List (Nat × Nat)) : Nat → List V → List Nat × List Nat
 | _,[] => ([],[])
 | j,v :: vs => match ownAt js j with
  | some _ => (idsV 1 v ++ (cellIds js (j + 1) vs).1,(cellIds js (j + 1) vs).2)
  | none => ((cellIds js (j + 1) vs).1,idsV 3 v ++ (cellIds js (j + 1) vs).2)
def oneIds (js : List (Nat × Nat)) (agg : Bool) (v : V) : List Nat × List Nat:=match js with
 | [] => ([],idsV 4 v)
 | _ :: _ => (match agg with
  | true => (match v with | .agg cs => cellIds js 0 cs | _ => ([],[]))
  | false => (idsV 1 v,[]))
def resIds (E : Env) (own : List (Nat × Nat × Nat)) : Nat → List Nat → List V → List Nat × List Nat
 | i,t :: ts,v :: vs => ((oneIds (ownJ own i) (E.ty t).isAgg v).1 ++ (resIds E own (i + 1) ts vs).1,(oneIds (ownJ own i) (E.ty t).isAgg v).2 ++ (resIds E own (i + 1) ts vs).2)
 | _,_,_ => ([],[])
def nodupB (l : List Nat) : Bool:=match l with | [] => true | x :: xs => !xs.contains x && nodupB xs
def packF : List FV → FV
 | [v] => v
 | vs => .tup vs
def backCells (js : List (Nat × Nat)) (x : FV) : (j n nid : Nat) → Hp → List V → (List V → Nat → Hp → R) → R
 | _,0,nid,H,acc,k => k acc.reverse nid H
 | j,n + 1,nid,H,acc,k => (match ownAt js j with
  | some s => bindO (arrRows (fCell x j)) fun r => newB H nid (.own s r) fun H => backCells js x (j + 1) n (nid + 1) H (.ref nid :: acc) k
  | none => backCells js x (j + 1) n nid H (.f (fCell x j) :: acc) k)
def backK (E : Env) (own : List (Nat × Nat × Nat)) : (i nid : Nat) → List Nat → List FV → Hp → List V → (List V → Hp → R) → R
 | _,_,[],_,H,acc,k => k acc.reverse H
 | i,nid,t :: ts,x :: xs,H,acc,k => (match ownJ own i with
   | [] => splitAs (E.ty t).isAgg (E.ty t).size x fun v => backK E own (i + 1) nid ts xs H (v :: acc) k
   | j :: js => (match (E.ty t).isAgg with
    | true => gB (fIsAgg (E.ty t).size x) (backCells (j :: js) x 0 (E.ty t).size nid H [] fun cs nid H => backK E own (i + 1) nid ts xs H (.agg cs :: acc) k)
    | false => bindO (arrRows x) fun r => newB H nid (.own j.2 r) fun H => backK E own (i + 1) (nid + 1) ts xs H (.ref nid :: acc) k))
 | _,_,_,_,_,_,_ => none
def resultsOf (n : Nat) (x : FV) (k : List FV → R) : R:=match n with
 | 1 => k [x]
 | n => gB (fIsTup n x) (k ((List.range n).map fun i => fTup x i))
def belowV : Nat → Nat → V → Bool
 | 0,_,_ => false
 | n + 1,m,v => match v with
  | .f _ | .un => true
  | .ref id | .ptr id _ _ | .mp id | .it id => id < m
  | .agg cs | .tup cs | .func _ cs => cs.all (belowV n m)
def belowB (m : Nat) : Blk → Bool
 | .box cs => cs.all (belowV 4 m)
 | _ => true
def getP (F : Fr) (H : Hp) : Place → Option V
 | .t t => some (getF F t)
 | .c id off => match H[id]? with | some (.box cs) => cs[off]? | _ => none
def setP (F : Fr) (H : Hp) (v : V) : Place → Fr × Hp
 | .t t => (F.set t v,H)
 | .c id off => match H[id]? with | some (.box cs) => (F,H.set id (.box (cs.set off v))) | _ => (F,H)
def frzP : List Place → Fr → Hp → Option (Fr × Hp)
 | [],F,H => some (F,H)
 | p :: ps,F,H => match getP F H p with
  | some v => (match isOne v with
   | true => (match setP F (marks H v) (.f (frz H v)) p with | (F,H) => frzP ps F H)
   | false => none)
  | none => none
def keepF (keep : List Nat) (F : Fr) : Fr:=F.zipIdx.map fun p => match keep.contains p.2 with | true => p.1 | false => .un
def takeP : List (Place × Nat) → Fr → Hp → Option (Fr × Hp × List (List (List FV)))
 | [],F,H => some (F,H,[])
 | (p,s) :: ps,F,H => match getP F H p with
  | some (.ref id) => (match H[id]? with
   | some (.own s' r) => gB (Nat.beq s' s) (match setP F (H.set id .dead) (.f .undef) p with | (F,H) => (match takeP ps F H with | some (F,H,rs) => some (F,H,r :: rs) | none => none))
   | _ => none)
  | some (.f .nilS) => (match setP F H (.f .undef) p with | (F,H) => (match takeP ps F H with | some (F,H,rs) => some (F,H,[] :: rs) | none => none))
  | _ => none
def putP (m : Nat) : List (Place × Nat) → List (List (List FV)) → Fr → Hp → Option (Fr × Hp)
 | [],_,F,H => some (F,H)
 | (p,s) :: ps,r :: rs,F,H => match setP F (H ++ [.own s r]) (.ref H.length) p with | (F,H) => putP (m + 1) ps rs F H
 | _,_,_,_ => none
def normal (a : Ann) (F : Fr) (H : Hp) : Option (Fr × Hp):=match frzP a.frz (keepF a.keep F) (settle H) with
 | some (F,H) => (match takeP a.own F H with
  | some (F,H,rs) => (match F.all (belowV 4 a.m) && (H.take a.m).all (belowB a.m) && a.m ≤ H.length with
   | true => putP a.m a.own rs F (H.take a.m)
   | false => none)
  | none => none)
 | none => none
def join (a : Option Ann) (J k : Fr → Hp → R) (F : Fr) (H : Hp) : R:=match a with
 | none => k F H
 | some a => (match normal a F H with | some (F,H) => J F H | none => none)
structure Kont where
 norm : Fr → Hp → R
 exits : List (Nat × (Fr → Hp → R))
 ret : Fr → Hp → R
def findExit (id : Nat) : List (Nat × (Fr → Hp → R)) → Option (Fr → Hp → R)
 | [] => none
 | (i,k) :: l => if i = id then some k else findExit id l
def padF (n : Nat) (F : Fr) : Fr:=F ++ List.replicate (n - F.length) .un
def fitsAll (E : Env) : List Nat → List V → Bool
 | [],[] => true
 | t :: ts,v :: vs => (E.ty t).known && fitsV (E.ty t).isAgg v && fitsAll E ts vs
 | _,_ => false
def plainTs (E : Env) (ts : List Nat) : Bool:=ts.all fun t => (E.ty t).known && !(E.ty t).isAgg
def isAggF : FV → Bool | .agg _ => true | _ => false
def fitsFs (E : Env) : List Nat → List FV → Bool
 | [],[] => true
 | t :: ts,x :: xs => (E.ty t).known && sameB (E.ty t).isAgg (isAggF x) && fitsFs E ts xs
 | _,_ => false
def dynK (E : Env) (call : Nat → List FV → Option FV) (agg : Bool) (x : FV) (args : List FV) : Option FV:=match x with
 | .func g caps => (match E.mode g,E.fn g with
  | .call [] false,some fn => (match fn.resultTypes.toList with
   | [t] => gB (fitsFs E (pars E fn) (args ++ caps) && (E.ty t).known && sameB (E.ty t).isAgg agg) (call g (args ++ caps))
   | _ => none)
  | _,_ => none)
 | _ => none
def argOk (v : V) : Bool:=isOne v || fitsV true v
abbrev Tok:=Nat × Nat × Nat
abbrev Inl:=Nat → Func → Fr → Hp → (V → Hp → List Tok → R) → R
def backIds : Nat → List (Nat × Nat × Bool) → List Nat
 | _,[] => []
 | i,q :: ls => (match q.2.2 with | true => i :: backIds (i + 1) ls | false => backIds (i + 1) ls)
def moveOk (H : Hp) (ls : List (Nat × Nat × Bool)) (args : List V) : Bool:=ls.all fun q => match args[q.1]? with
 | some (.ref id) => (match H[id]? with | some (.own s _) => Nat.beq s q.2.1 | _ => false)
 | some (.f .nilS) => true
 | _ => false
def moveIds (ls : List (Nat × Nat × Bool)) (args : List V) : List Nat:=ls.filterMap fun q => (match args[q.1]? with | some (V.ref id) => some id | _ => none)
def restV (ls : List (Nat × Nat × Bool)) (args : List V) : List V:=(args.zipIdx.filter fun p => !((ls.map fun q => q.1).contains p.2)).map fun p => p.1
def putBack : List (Nat × Nat × Bool) → List V → List FV → Hp → Option Hp
 | [],_,_,H => some H
 | q :: ls,args,zs,H => match args[q.1]? with
  | some (.ref id) => (match q.2.2 with
   | true => (match zs with | .arr r :: zs => putBack ls args zs (H.set id (.own q.2.1 r)) | _ => none)
   | false => putBack ls args zs (H.set id .dead))
  | some (.f _) => (match q.2.2 with | true => putBack ls args (zs.drop 1) H | false => putBack ls args zs H)
  | _ => none
def putBackK : List (Nat × Nat × Bool) → List V → List FV → Hp → (Hp → R) → R
 | [],_,_,H,k => k H
 | q :: ls,args,zs,H,k => match args[q.1]? with
  | some (.ref id) => (match q.2.2 with
   | true => (match zs with | z :: zs => bindO (arrRows z) fun r => putBackK ls args zs (H.set id (.own q.2.1 r)) k | [] => none)
   | false => putBackK ls args zs (H.set id .dead) k)
  | some (.f _) => (match q.2.2 with | true => putBackK ls args (zs.drop 1) H k | false => putBackK ls args zs H k)
  | _ => none
section
variable (E : Env) (call : Nat → List FV → Option FV)
def moveK (ls : List (Nat × Nat × Bool)) (own : List (Nat × Nat × Nat)) (fn : Func) (nid g : Nat) (args : List V) (H : Hp) (k : V → Hp → R) : R :=
 gB (fitsAll E (pars E fn) args && moveOk H ls args && (restV ls args).all (liveV H) && nodupB (moveIds ls args) && (moveIds ls args).all fun id => !((restV ls args).flatMap (idsV 4)).contains id) <|
 bindO (call g (args.map (frz H))) fun x => resultsOf (fn.resultTypes.size + (backIds 0 ls).length) x fun xs =>
 putBackK ls args (xs.drop fn.resultTypes.size) ((restV ls args).foldl marks H) fun H => backK E own 0 nid fn.resultTypes.toList (xs.take fn.resultTypes.size) H [] fun vs H => k (packV vs) H
def callK (inl : Inl) (nid : Nat) (g : Nat) (args : List V) (H : Hp) (k : V → Hp → R) : R :=
 match E.mode g,E.fn g with
 | .call own lend,some fn => gB (fitsAll E (pars E fn) args && args.all (liveV H)) (match lend with
   | true => (match own with
    | [] => gB (plainTs E fn.resultTypes.toList) <| bindO (call g (args.map (frz H))) fun x => gB (fScal x) (match fn.resultTypes.size with | 1 => k (.f x) H | _ => none)
    | _ => none)
   | false => bindO (call g (args.map (frz H))) fun x => resultsOf fn.resultTypes.size x fun xs => backK E own 0 nid fn.resultTypes.toList xs (args.foldl marks H) [] fun vs H => k (packV vs) H)
 | .move ls own,some fn => moveK E call ls own fn nid g args (settle H) k
 | .inl,some fn => inl g fn (padF fn.ntmps args) H fun v H _ => k v H
 | _,_ => none
def builtinK (nid : Nat) (b : Builtin) (ats : Array TypeId) (args : List V) (H : Hp) (k : V → Hp → R) : R:=match b,args with
 | .len,[v] => (match ats.toList with
  | [t] => (match (E.ty t).k,v with
   | .slice _,.f x => bindO (fLen x) fun n => k (.f n) H
   | .str,.f x => bindO (fLenT x) fun n => k (.f n) H
   | .slice _,.ref id => (match rowsOf H id with | some r => k (.f (.int .i64 r.length)) H | none => none)
   | .map _ _,.mp id => (match H[id]? with | some (.map _ es) => k (.f (.int .i64 es.length)) H | _ => none)
   | _,_ => none)
  | _ => none)
 | .cap,[v] => (match ats.toList with
  | [t] => (match (E.ty t).k,v with
   | .slice _,.f x => bindO (fCap x) fun n => k (.f n) H
   | _,_ => none)
  | _ => none)
 | .append,[s,x] => (match ats.toList with
  | [t,tx] => (match (E.ty t).k,(E.ty tx).k with
   | .slice e,.slice _ => appendK E nid H e false s x k
   | .slice e,.str => appendK E nid H e true s x k
   | .slice e,.int _ => appendZ E nid H e s x k
   | _,_ => none)
  | _ => none)
 | .min,.f x :: rest => minmaxK false x rest fun v => k v H
 | .max,.f x :: rest => minmaxK true x rest fun v => k v H
 | _,_ => none
def opK (inl : Inl) (cuts : List Nat) (ops : Array Oper) (o : Oper) (nid : Nat) (F : Fr) (H : Hp) (k : V → Hp → R) : R:=match o.op with
 | .move x | .assign x => k (evalV F x) H
 | .pick c a b => (match evalV F c with
  | .f (.bool t) => k (match t with | true => evalV F a | false => evalV F b) H
  | .f c => (match evalV F a,evalV F b with | .f a,.f b => bindO (fCond c (some a) (some b)) fun v => k (.f v) H | _,_ => none)
  | _ => none)
 | .alloc t => gB (E.ty t).known (newB H nid (.box ((E.ty t).zero.map .f)) fun H => k (.ptr nid 0 0) H)
 | .box t x => (match cellsV (E.ty t).isAgg (evalV F x) with
  | some vs => gB ((E.ty t).known && vs.length == (E.ty t).size) (newB H nid (.box vs) fun H => k (.ptr nid 0 0) H)
  | none => none)
 | .build t parts => (match (E.ty t).k with
  | .struct fs => (match fillV fs ((E.ty t).zero.map .f) (parts.toList.map fun p => (p.1,evalV F p.2)) with | some cs => k (.agg cs) H | none => none)
  | .array n e => (match fillV ((List.range n).map fun i => (i * (E.ty e).size,(E.ty e).size,(E.ty e).isAgg)) ((E.ty t).zero.map .f) (parts.toList.map fun p => (p.1,evalV F p.2)) with | some cs => k (.agg cs) H | none => none)
  | _ => none)
 | .buildSlice t len parts => (match (E.ty t).k with
  | .slice e => (match rowsLit E H e 0 (parts.toList.map fun p => (p.1,evalV F p.2)) with
   | some r => gB (Nat.beq r.length len && (parts.toList.map fun p => evalV F p.2).all (liveV H) && Nat.ble (len * (E.ty e).size) 16777216) (match feeds ops o.dst with
    | true => k (.f (.arr r)) ((parts.toList.map fun p => evalV F p.2).foldl marks H)
    | false => newB ((parts.toList.map fun p => evalV F p.2).foldl marks H) nid (.own (E.ty e).size r) fun H => k (.ref nid) H)
   | none => none)
  | _ => none)
 | .load t p => loadK E H t (evalV F p) fun v => k v H
 | .store t p x => storeK E H t (evalV F p) (evalV F x) fun H => k .un H
 | .nilCheck x => (match evalV F x with | .ptr id i off => gB (there H id) (k (.ptr id i off) H) | .func g cs => k (.func g cs) H | _ => none)
 | .binOp op xt x y _ => (match isNilO y with
  | true => (match (E.ty xt).k,op with
   | .slice _,.eql => nilK (evalV F x) H (k (.f (.bool true)) H) (k (.f (.bool false)) H)
   | .slice _,.neq => nilK (evalV F x) H (k (.f (.bool false)) H) (k (.f (.bool true)) H)
   | _,_ => none)
  | false => (match evalV F x,evalV F y with
  | .f a,.f b => (match (E.ty xt).k with
   | .bool => bindO (fBoolBin op a b) fun v => k (.f v) H
   | _ => bindO (fBin op a b) fun v => k (.f v) H)
  | .agg a,.agg b => gB (E.ty xt).isAgg <| bindO (fAggBin (E.ty xt).sk op (a.map (frzC H)) (b.map (frzC H))) fun v => k (.f v) H
  | _,_ => none))
 | .unOp op _ x => (match evalV F x with | .f a => bindO (fUn op a) fun v => k (.f v) H | _ => none)
 | .convert s d x => (match (E.ty d).k,evalV F x with
  | .int kd,.f a => gB (E.ty s).known (bindO (fConvInt kd a) fun v => k (.f v) H)
  | .str,.f a => (match (E.ty s).k with
   | .slice e => (match (E.ty e).k with | .int .u8 => bindO (fToStr a) fun v => k (.f v) H | _ => none)
   | .str | .int _ => bindO (fToStrI a) fun v => k (.f v) H
   | _ => none)
  | .str,.ref id => (match (E.ty s).k with
   | .slice e => (match (E.ty e).k with
    | .int .u8 => (match rowsOf H id with | some r => bindO (bytes? r) fun s => k (.f (.str s)) H | none => none)
    | _ => none)
   | _ => none)
  | _,_ => none)
 | .makeFunc (.func g) first captured => (match first.toList with | [] => k (.func g (captured.toList.map (evalV F))) H | _ => none)
 | .makeMap t none => (match (E.ty t).k with | .map _ e => newB H nid (.map (E.ty e).isAgg []) fun H => k (.mp nid) H | _ => none)
 | .makeSlice t l c => (match (E.ty t).k,evalV F l,evalV F c with
  | .slice e,.f l,.f c => bindO (asNat l) fun n => bindO (asNat c) fun m => gB (n ≤ m && m * (E.ty e).bytes ≤ room && (E.ty e).size ≥ 1) (newB H nid (.own (E.ty e).size (List.replicate n (E.ty e).zero)) fun H => k (.ref nid) H)
  | _,_,_ => none)
 | .slice t x lo hi mx => (match optF (lo.map (evalV F)),optF (hi.map (evalV F)),optF (mx.map (evalV F)) with
  | some lo,some hi,some mx => (match (E.ty t).k,mx with
   | .str,none => (match evalV F x with | .f x => bindO (fSub x lo hi) fun v => k (.f v) H | _ => none)
   | .slice e,none => (match isCut cuts o.dst with
    | true => (match evalV F x with
     | .ref id => (match H[id]? with
      | some (.own sz r) => gB (Nat.beq sz (E.ty e).size) <| bindO (cut? r.length lo hi) fun p => newB ((settle H).set id (.old r)) nid (.own sz ((r.take p.2).drop p.1)) fun H => k (.ref nid) H
      | _ => none)
     | _ => none)
    | false => bindO (fCut (E.ty e).size (frz H (evalV F x)) lo hi) fun v => k (.f v) (marks H (evalV F x)))
   | .slice e,some m => (match hi with
    | some h => bindO (asNat h) fun h' => bindO (asNat m) fun m' => gB (Nat.beq m' h') (bindO (fCut (E.ty e).size (frz H (evalV F x)) lo (some h)) fun v => k (.f v) (marks H (evalV F x)))
    | none => none)
   | _,_ => none)
  | _,_,_ => none)
 | .fieldAddr t x i => (match fieldOf (E.ty t) i with
  | some (off,_,_) => (match evalV F x with
   | .f p => bindO (fAddrO p off) fun q => k (.f q) H
   | .ptr id r o => gB (there H id) (k (.ptr id r (o + off)) H)
   | _ => none)
  | none => none)
 | .field t x i => (match fieldOf (E.ty t) i,evalV F x with
  | some (off,size,agg),.agg cs => (match agg with
   | true => gB (Nat.ble (off + size) cs.length) (k (.agg (listSlice cs off size)) H)
   | false => (match cs[off]? with | some v => k v H | none => none))
  | _,_ => none)
 | .indexAddr t x i => idxK E H t (evalV F x) (evalV F i) fun v => k v H
 | .index t x i => (match (E.ty t).k,evalV F x,evalV F i with
  | .str,.f s,.f i => bindO (fByte s i) fun v => k (.f v) H
  | .array n e,.agg cs,.f i => gB (E.ty e).known (bindO (cellsF cs) fun xs => bindO (asNat i) fun j => gB (decide (j < n)) (match (E.ty e).isAgg with
   | true => arrCellsK xs (E.ty e).size (j * (E.ty e).size) [] fun vs => k (.agg vs) H
   | false => gB (Nat.beq (E.ty e).size 1) (bindO xs[j]? fun x => k (.f x) H)))
  | _,_,_ => none)
 | .lookup t m key ok => (match (E.ty t).k,evalV F m with
  | .map kt e,.mp id => (match H[id]? with
   | some (.map ag es) => gB (fitsV (E.ty kt).isAgg (evalV F key) && liveV H (evalV F key) && (E.ty e).known && sameB ag (E.ty e).isAgg) <| bindO (mLook (E.ty kt).isAgg (E.ty kt).sk es (frz H (evalV F key)) (match (E.ty e).isAgg with | true => .agg (E.ty e).zero | false => (match (E.ty e).zero with | [z] => z | _ => .undef))) fun r =>
     splitAs (E.ty e).isAgg (E.ty e).size r.1 fun v => k (match ok with | true => .tup [v,.f (.bool r.2)] | false => v) H
   | _ => none)
  | _,_ => none)
 | .mapUpdate t m key x | .insert t m key x => (match (E.ty t).k,evalV F m with
  | .map kt e,.mp id => (match H[id]? with
   | some (.map ag es) => gB (sameB ag (E.ty e).isAgg && fitsV (E.ty kt).isAgg (evalV F key) && liveV H (evalV F key) && fitsV (E.ty e).isAgg (evalV F x) && (E.ty e).known && liveV H (evalV F x)) <| gB (keyOk (E.ty kt).isAgg (E.ty kt).sk (frz H (evalV F key))) (bindO (mPut (E.ty kt).isAgg (E.ty kt).sk es (frz H (evalV F key)) (frz H (evalV F x))) fun es => (match (settle (marks H (evalV F x)))[id]? with | some (.map _ _) => k .un ((settle (marks H (evalV F x))).set id (.map ag es)) | _ => none))
   | _ => none)
  | _,_ => none)
 | .range t x => (match (E.ty t).k,evalV F x with
  | .str,.f s => gB (isStrF s) (newB H nid (.sit s 0) fun H => k (.it nid) H)
  | _,_ => none)
 | .next x true => (match evalV F x with
  | .it id => (match H[id]? with
   | some (.sit s pos) => bindO (fNext s pos) fun r => fCond (.bool r.1)
     (k (.tup [.f (.bool true),.f (.int .i64 pos),.f (.int .i32 r.2.1)]) ((settle H).set id (.sit s r.2.2)))
     (k (.tup [.f (.bool false)]) H)
   | _ => none)
  | _ => none)
 | .extract x i => (match evalV F x with | .tup vs => (match vs[i]? with | some v => k v H | none => none) | _ => none)
 | .call c => (match c.callee with
  | .builtin b => builtinK E nid b c.argTypes (c.args.toList.map (evalV F)) H k
  | .value fo => (match evalV F fo with
   | .func g caps => callK E call inl nid g (c.args.toList.map (evalV F) ++ caps) H k
   | .f x => gB ((c.args.toList.map (evalV F)).all (fun v => argOk v && liveV H v) && (E.ty o.type).known) <| bindO (dynK E call (E.ty o.type).isAgg x ((c.args.toList.map (evalV F)).map (frz H))) fun v =>
     splitAs (E.ty o.type).isAgg (E.ty o.type).size v fun v => k v ((c.args.toList.map (evalV F)).foldl marks H)
   | _ => none)
  | _ => none)
 | _ => none
def putV (F : Fr) (d : Option Nat) (v : V) : Fr:=match d with | some d => F.set d v | none => F
def guardK (ops : Array Oper) (o : Oper) (F : Fr) (run skip : Fr → R) : R:=match o.guard with
 | none => run F
 | some (j,want) => (match (match ops[j]? with | some oj => oj.dst | none => none) with
  | none => none
  | some d => (match getF F d with
   | .tup [] => skip F
   | v => condV v
    (match want with | true => run (F.set d (.f (.bool true))) | false => skip (F.set d (.f (.bool true))))
    (match want with | true => skip (F.set d (.f (.bool false))) | false => run (F.set d (.f (.bool false))))))
def news (cuts : List Nat) (ops : Array Oper) (o : Oper) : Nat:=match o.op with
 | .alloc _ | .box .. | .makeMap .. | .makeSlice .. | .range .. => 1
 | .buildSlice .. => (match feeds ops o.dst with | true => 0 | false => 1)
 | .slice .. => (match isCut cuts o.dst with | true => 1 | false => 0)
 | .call c => (match c.callee with
  | .builtin .append => 1
  | .value (.func g) => (match E.mode g with | .call own _ => own.length | .move _ own => own.length | _ => 0)
  | _ => 0)
 | _ => 0
def opsK (inl : Inl) (cuts : List Nat) (ops : Array Oper) (base : Nat) : List Nat → Fr → Hp → (Fr → Hp → R) → R
 | [],F,H,k => k F (close base H)
 | i :: rest,F,H,k => match ops[i]? with
  | none => none
  | some o => guardK ops o F (fun F => opK E call inl cuts ops o H.length F (H ++ frees (news E cuts ops o)) fun v H => opsK inl cuts ops base rest (putV F o.dst v) H k)
    (fun F => opsK inl cuts ops base rest (putV F o.dst (.tup [])) H k)
def tokEq : Tok → Tok → Bool | (a,b,c),(d,e,f) => Nat.beq a d && Nat.beq b e && Nat.beq c f
def disj (a b : List Tok) : Bool:=a.all fun x => !(b.any (tokEq x))
def cellToks (id : Nat) : (o n : Nat) → List Tok
 | _,0 => []
 | o,n + 1 => (0,id,o) :: cellToks id (o + 1) n
def readsP (H : Hp) (p : V) (n : Nat) : Option (List Tok):=match p with
 | .f _ => some []
 | .ptr id i o => (match H[id]? with
  | some (.box _) => (match i with | 0 => some (cellToks id o n) | _ => none)
  | some (.fzb _) => some []
  | some (.own _ _) | some (.fz _) => some [(1,id,0)]
  | _ => none)
 | _ => none
def readsR (H : Hp) (id : Nat) : Option (List Tok):=match H[id]? with | some (.own _ _) | some (.fz _) => some [(1,id,0)] | _ => none
def readsA (H : Hp) (v : V) : Option (List Tok):=match v with
 | .f _ => some []
 | .ptr id _ _ => (match H[id]? with | some (.box _) | some (.fzb _) => some [] | some (.own _ _) | some (.fz _) => some [(1,id,0)] | _ => none)
 | _ => none
def allF : V → Bool | .f _ => true | .agg cs => cs.all isF | _ => false
def okF (b : Bool) : Option (List Tok):=match b with | true => some [] | false => none
def reads (cuts : List Nat) (ops : Array Oper) (o : Oper) (F : Fr) (H : Hp) : Option (List Tok):=match o.op with
 | .move _ | .assign _ | .pick .. | .build .. | .unOp .. | .field .. | .index .. | .extract .. | .makeFunc .. => some []
 | .fieldAddr _ x _ => readsA H (evalV F x)
 | .binOp _ _ x y _ => gB (!isNilO y) (match evalV F x,evalV F y with | .f _,.f _ => some [] | .agg a,.agg b => okF (a.all isF && b.all isF) | _,_ => none)
 | .convert _ _ x => (match evalV F x with | .f _ => some [] | .ref id => readsR H id | _ => none)
 | .load t p => readsP H (evalV F p) ((E.ty t).size - 1 + 1)
 | .nilCheck x => (match evalV F x with | .ptr id _ _ => (match H[id]? with | some (.box _) | some (.fzb _) => some [] | _ => none) | .func _ _ => some [] | _ => none)
 | .indexAddr _ x _ => (match evalV F x with | .ref id => readsR H id | v => readsA H v)
 | .lookup _ m key _ => (match evalV F m with | .mp id => (match allF (evalV F key) with | true => some [(2,id,0)] | false => none) | _ => none)
 | .slice _ x _ _ _ => (match isCut cuts o.dst,evalV F x with | false,.f _ => some [] | _,_ => none)
 | .buildSlice _ _ parts => okF (feeds ops o.dst && parts.toList.all fun p => allF (evalV F p.2))
 | .call c => (match c.callee with
  | .builtin .len => (match (c.args.toList.map (evalV F)) with | [.f _] => some [] | [.ref id] => readsR H id | [.mp id] => some [(2,id,0)] | _ => none)
  | .builtin .min | .builtin .max | .builtin .cap => some []
  | .value (.func g) => (match E.mode g with | .call [] false => okF ((c.args.toList.map (evalV F)).all allF) | _ => none)
  | _ => none)
 | _ => none
def markTok (H : Hp) (id : Nat) : List Tok:=match H[id]? with | some (.own _ _) => [(1,id,0)] | some (.box cs) => cellToks id 0 cs.length | _ => []
def markToks (H : Hp) (v : V) : List Tok:=(idsV 4 v).flatMap (markTok H)
def argToks (H : Hp) (vs : List V) : List Tok:=vs.flatMap (markToks H)
def touch (cuts : List Nat) (o : Oper) (F : Fr) (H : Hp) : Option (List Tok):=match o.op with
 | .store t p x => (match evalV F p with
  | .ptr id _ o => (match H[id]? with
   | some (.box _) => some (cellToks id o (E.ty t).size)
   | some (.own _ _) => (match cellsV (E.ty t).isAgg (evalV F x) with | some vs => some ((1,id,0) :: markToks H (.agg vs)) | none => none)
   | _ => none)
  | _ => none)
 | .mapUpdate _ m _ x | .insert _ m _ x => (match evalV F m with | .mp id => some ((2,id,0) :: markToks H (evalV F x)) | _ => none)
 | .slice _ x _ _ mx => (match isCut cuts o.dst,mx with | true,none => (match evalV F x with | .ref id => some [(1,id,0)] | _ => none) | _,_ => some (markToks H (evalV F x)))
 | .buildSlice _ _ parts => some (argToks H (parts.toList.map fun p => evalV F p.2))
 | .alloc _ | .box .. | .makeSlice .. | .makeMap _ none => some []
 | .call c => (match c.callee with
  | .builtin .append => (match (c.args.toList.map (evalV F)) with | .ref id :: _ => some [(1,id,0)] | .f _ :: _ => some [] | _ => none)
  | .value (.func g) => (match E.mode g with | .call _ _ => some (argToks H (c.args.toList.map (evalV F))) | .move ls _ => some ((moveIds ls (c.args.toList.map (evalV F))).map (fun id => (1,id,0)) ++ argToks (settle H) (restV ls (c.args.toList.map (evalV F)))) | _ => none)
  | .value fo => (match evalV F fo with | .f _ => some (argToks H (c.args.toList.map (evalV F))) | _ => none)
  | _ => none)
 | _ => none
def quick (ops : Array Oper) (o : Oper) (F : Fr) : Bool:=match o.op with
 | .alloc _ | .makeSlice .. | .makeMap _ none => true
 | .buildSlice _ _ parts => !feeds ops o.dst && parts.toList.all fun p => allF (evalV F p.2)
 | _ => false
def nidAt (cuts : List Nat) (ops : Array Oper) : List Oper → Nat → Nat → Nat
 | [],_,n => n
 | _,0,n => n
 | o :: l,i + 1,n => nidAt cuts ops l i (n + news E cuts ops o)
def behind (anc hv : List Nat) : Bool:=hv.all anc.contains
def free (T : Option (List Tok)) (anc : List Nat) (rec : List (Nat × List Tok)) : Bool:=match T with
 | none => false
 | some T => rec.all fun p => anc.contains p.1 || disj T p.2
def inlOf (o : Oper) (F : Fr) : Option (Nat × Func × List V):=match o.op with
 | .call c => (match c.callee with
  | .value fo => (match evalV F fo with
   | .func g caps => (match E.mode g,E.fn g with
    | .inl,some fn => some (g,fn,c.args.toList.map (evalV F) ++ caps)
    | _,_ => none)
   | _ => none)
  | _ => none)
 | _ => none
def star : Tok:=(9,0,0)
def noStar (anc : List Nat) (rec : List (Nat × List Tok)) : Bool:=rec.all fun p => anc.contains p.1 || !(p.2.any (tokEq star))
def opsDK (inl : Inl) (cuts : List Nat) (ops : Array Oper) (base : Nat) : List (Nat × List Nat) → List (Nat × List Tok) → List Nat → Fr → Hp → (Fr → Hp → R) → R
 | [],_,_,F,H,k => k F (close base H)
 | (i,anc) :: rest,rec,hv,F,H,k => match ops[i]? with
  | none => none
  | some o => guardK ops o F
    (fun F => match reads E cuts ops o F H with
     | some T => gB (behind anc hv) (opK E call inl cuts ops o (nidAt E cuts ops ops.toList i base) F H fun v _ => opsDK inl cuts ops base rest ((i,T) :: rec) hv (putV F o.dst v) H k)
     | none => (match inlOf E o F with
      | some q => gB (behind anc hv) (inl q.1 q.2.1 (padF q.2.1.ntmps q.2.2) H fun v H U => gB (free (some U) anc rec) (opsDK inl cuts ops base rest ((i,[star]) :: rec) (i :: hv) (putV F o.dst v) H k))
      | none => gB ((quick ops o F && noStar anc rec) || (behind anc hv && free (touch E cuts o F H) anc rec)) (opK E call inl cuts ops o (nidAt E cuts ops ops.toList i base) F H fun v H => opsDK inl cuts ops base rest rec (i :: hv) (putV F o.dst v) H k)))
    (fun F => opsDK inl cuts ops base rest rec hv (putV F o.dst (.tup [])) H k)
def tch (cuts : List Nat) (ops : Array Oper) (o : Oper) (F : Fr) (H : Hp) : Option (List Tok):=match reads E cuts ops o F H with
 | some _ => some []
 | none => (match quick ops o F with | true => some [] | false => touch E cuts o F H)
def opT (inl : Inl) (cuts : List Nat) (ops : Array Oper) (o : Oper) (nid : Nat) (F : Fr) (H : Hp) (k : V → Hp → List Tok → R) : R:=match inlOf E o F with
 | some q => inl q.1 q.2.1 (padF q.2.1.ntmps q.2.2) H k
 | none => (match tch E cuts ops o F H with
  | some U => opK E call inl cuts ops o nid F H fun v H => k v H U
  | none => none)
def opsT (inl : Inl) (cuts : List Nat) (ops : Array Oper) (base : Nat) : List Nat → Fr → Hp → List Tok → (Fr → Hp → List Tok → R) → R
 | [],F,H,U,k => k F (close base H) U
 | i :: rest,F,H,U,k => match ops[i]? with
  | none => none
  | some o => guardK ops o F (fun F => opT E call inl cuts ops o H.length F (H ++ frees (news E cuts ops o)) fun v H U' => opsT inl cuts ops base rest (putV F o.dst v) H (U ++ U') k)
    (fun F => opsT inl cuts ops base rest (putV F o.dst (.tup [])) H U k)
def opsDT (inl : Inl) (cuts : List Nat) (ops : Array Oper) (base : Nat) : List (Nat × List Nat) → List (Nat × List Tok) → List Nat → Fr → Hp → List Tok → (Fr → Hp → List Tok → R) → R
 | [],_,_,F,H,U,k => k F (close base H) U
 | (i,anc) :: rest,rec,hv,F,H,U,k => match ops[i]? with
  | none => none
  | some o => guardK ops o F
    (fun F => match reads E cuts ops o F H with
     | some T => gB (behind anc hv) (opK E call inl cuts ops o (nidAt E cuts ops ops.toList i base) F H fun v _ => opsDT inl cuts ops base rest ((i,T) :: rec) hv (putV F o.dst v) H U k)
     | none => (match inlOf E o F with
      | some q => gB (behind anc hv) (inl q.1 q.2.1 (padF q.2.1.ntmps q.2.2) H fun v H U' => gB (free (some U') anc rec) (opsDT inl cuts ops base rest ((i,[star]) :: rec) (i :: hv) (putV F o.dst v) H (U ++ U') k))
      | none => (match tch E cuts ops o F H with
       | some U' => gB ((quick ops o F && noStar anc rec) || (behind anc hv && free (touch E cuts o F H) anc rec)) (opK E call inl cuts ops o (nidAt E cuts ops ops.toList i base) F H fun v H => opsDT inl cuts ops base rest rec (i :: hv) (putV F o.dst v) H (U ++ U') k)
       | none => none)))
    (fun F => opsDT inl cuts ops base rest rec hv (putV F o.dst (.tup [])) H U k)
end
def preds (o : Oper) : List Nat:=o.after.toList.filterMap fun e => match Region.binds .any e with | true => some e.on | false => none
def tmpOf : Operand → Option Nat | .tmp t => some t | _ => none
def dstAt (ops : Array Oper) (i : Nat) : Option Nat:=match ops[i]? with | some o => o.dst | none => none
def looks (ops : Array Oper) (o : Oper) : List Nat:=o.op.operands.toList.filterMap tmpOf ++ (match o.guard with | some (j,_) => (dstAt ops j).toList | none => [])
def apartB (ops : Array Oper) (x y : Oper) : Bool :=
 (match x.dst with | some d => !(looks ops y).contains d && (match y.dst with | some e => !Nat.beq d e | none => true) | none => true) && (match y.dst with | some d => !(looks ops x).contains d | none => true)
def okGo (ops : Array Oper) : List (Nat × List Nat) → List (Nat × List Nat) → Bool
 | _,[] => true
 | done,(i,anc) :: rest => (match ops[i]? with
  | none => false
  | some o => !(done.any fun p => Nat.beq p.1 i) && (preds o).all (fun q => done.any fun p => Nat.beq p.1 q) && anc.all (fun a => (preds o).contains a || done.any fun p => (preds o).contains p.1 && p.2.contains a) &&
    done.all (fun p => anc.contains p.1 || (match ops[p.1]? with | some x => apartB ops x o | none => false))) && okGo ops ((i,anc) :: done) rest
def okOrd (ops : Array Oper) (ord : List (Nat × List Nat)) : Bool:=Nat.beq ord.length ops.size && okGo ops [] ord
def total (E : Env) (cuts : List Nat) (ops : Array Oper) : Nat:=nidAt E cuts ops ops.toList ops.size 0
section
variable (E : Env) (call : Nat → List FV → Option FV) (inl : Inl) (g : Nat) (J : List Nat → Fr → Hp → R)
def execK : Code → List Nat → Fr → Hp → Kont → R
 | .skip,_,F,H,K => K.norm F H
 | .label _,_,F,H,K => K.norm F H
 | .region id ops draw,p,F,H,K => (match draw with
  | false => opsK E call inl (E.cuts g) ops H.length (List.range ops.size) F H (join (annE E g p) (J p) K.norm)
  | true => gB (okOrd ops (E.ord g id)) (opsDK E call inl (E.cuts g) ops H.length (E.ord g id) [] [] F (H ++ frees (total E (E.cuts g) ops)) (join (annE E g p) (J p) K.norm)))
 | .seq a b,p,F,H,K => execK a (0 :: p) F H { K with norm:=join (annE E g p) (J p) fun F H => execK b (1 :: p) F H K }
 | .cond c a b,p,F,H,K => condV (evalV F c) (execK a (2 :: p) F H K) (execK b (3 :: p) F H K)
 | .block id c,p,F,H,K => execK c (4 :: p) F H { K with exits:=(id,join (annE E g p) (J p) K.norm) :: K.exits,norm:=join (annE E g p) (J p) K.norm }
 | .loop _,p,F,H,_ => join (annE E g p) (J p) (fun _ _ => none) F H
 | .scope c,p,F,H,K => execK c (6 :: p) F H K
 | .exit id,_,F,H,K => (match findExit id K.exits with | some k => k F H | none => none)
 | .ret,_,F,H,K => K.ret F H
 | _,_,_,_,_ => none
def segK : Code → (here path : List Nat) → Fr → Hp → Kont → R
 | .region _ _ _,_,[],F,H,K => K.norm F H
 | .seq _ b,h,[],F,H,K => execK E call inl g J b (1 :: h) F H K
 | .block _ _,_,[],F,H,K => K.norm F H
 | .loop c,h,[],F,H,K => execK E call inl g J c (5 :: h) F H { K with norm:=join (annE E g h) (J h) fun _ _ => none }
 | .seq a b,h,0 :: p,F,H,K => segK a (0 :: h) p F H { K with norm:=join (annE E g h) (J h) fun F H => execK E call inl g J b (1 :: h) F H K }
 | .seq _ b,h,1 :: p,F,H,K => segK b (1 :: h) p F H K
 | .cond _ a _,h,2 :: p,F,H,K => segK a (2 :: h) p F H K
 | .cond _ _ b,h,3 :: p,F,H,K => segK b (3 :: h) p F H K
 | .block id c,h,4 :: p,F,H,K => segK c (4 :: h) p F H { K with exits:=(id,join (annE E g h) (J h) K.norm) :: K.exits,norm:=join (annE E g h) (J h) K.norm }
 | .loop c,h,5 :: p,F,H,K => segK c (5 :: h) p F H { K with norm:=join (annE E g h) (J h) fun _ _ => none }
 | .scope c,h,6 :: p,F,H,K => segK c (6 :: h) p F H K
 | _,_,_,_,_,_ => none
def backRows (H : Hp) : Nat → List (Nat × Nat × Bool) → Option (List FV)
 | _,[] => some []
 | i,q :: ls => (match q.2.2 with
  | true => (match H[i]? with
   | some (.own s r) => (match Nat.beq s q.2.1 with
    | true => (match backRows H (i + 1) ls with | some rs => some (.arr r :: rs) | none => none)
    | false => none)
   | _ => none)
  | false => backRows H (i + 1) ls)
def retK (ls : List (Nat × Nat × Bool)) (own : List (Nat × Nat × Nat)) (fn : Func) (F : Fr) (H : Hp) : R:=resV E F H fn.results.toList [] fun vs =>
 gB (nodupB ((resIds E own 0 fn.resultTypes.toList vs).1 ++ backIds 0 ls) && ((resIds E own 0 fn.resultTypes.toList vs).1 ++ backIds 0 ls).all fun id => !(resIds E own 0 fn.resultTypes.toList vs).2.contains id)
  (match outV E H own 0 fn.resultTypes.toList vs with | some xs => (match backRows H 0 ls with | some rs => some (packF (xs ++ rs)) | none => none) | none => none)
end
def enterV : List (Nat × Nat × Bool) → List V → Hp → Option (List V × Hp)
 | [],vs,H => some (vs,H)
 | q :: ls,vs,H => match vs[q.1]? with
  | some (.f (.arr r)) => enterV ls (vs.set q.1 (.ref H.length)) (H ++ [.own q.2.1 r])
  | some (.f .nilS) => enterV ls (vs.set q.1 (.ref H.length)) (H ++ [.own q.2.1 []])
  | _ => none
structure KontT where
 norm : Fr → Hp → List Tok → R
 exits : List (Nat × (Fr → Hp → List Tok → R))
 ret : Fr → Hp → List Tok → R
def findExitT (id : Nat) : List (Nat × (Fr → Hp → List Tok → R)) → Option (Fr → Hp → List Tok → R)
 | [] => none
 | (i,k) :: l => if i = id then some k else findExitT id l
def joinT (a : Option Ann) (k : Fr → Hp → List Tok → R) (F : Fr) (H : Hp) (U : List Tok) : R:=match a with | none => k F H U | some _ => none
def execT (E : Env) (call : Nat → List FV → Option FV) (inl : Inl) (g : Nat) : Code → List Nat → Fr → Hp → List Tok → KontT → R
 | .skip,_,F,H,U,K => K.norm F H U
 | .label _,_,F,H,U,K => K.norm F H U
 | .region id ops draw,p,F,H,U,K => (match draw with
  | false => opsT E call inl (E.cuts g) ops H.length (List.range ops.size) F H U (joinT (annE E g p) K.norm)
  | true => gB (okOrd ops (E.ord g id)) (opsDT E call inl (E.cuts g) ops H.length (E.ord g id) [] [] F (H ++ frees (total E (E.cuts g) ops)) U (joinT (annE E g p) K.norm)))
 | .seq a b,p,F,H,U,K => execT E call inl g a (0 :: p) F H U { K with norm:=joinT (annE E g p) fun F H U => execT E call inl g b (1 :: p) F H U K }
 | .cond c a b,p,F,H,U,K => condV (evalV F c) (execT E call inl g a (2 :: p) F H U K) (execT E call inl g b (3 :: p) F H U K)
 | .block id c,p,F,H,U,K => execT E call inl g c (4 :: p) F H U { K with exits:=(id,joinT (annE E g p) K.norm) :: K.exits,norm:=joinT (annE E g p) K.norm }
 | .scope c,p,F,H,U,K => execT E call inl g c (6 :: p) F H U K
 | .exit id,_,F,H,U,K => (match findExitT id K.exits with | some k => k F H U | none => none)
 | .ret,_,F,H,U,K => K.ret F H U
 | _,_,_,_,_,_ => none
def inlK (E : Env) (call : Nat → List FV → Option FV) : Nat → Inl
 | 0,_,_,_,_,_ => none
 | d + 1,g,fn,F,H,k => match fn.body with
  | some c => execT E call (inlK E call d) g c [] F H [] ⟨fun F H U => resV E F H fn.results.toList [] fun vs => k (packV vs) H U,[],fun F H U => resV E F H fn.results.toList [] fun vs => k (packV vs) H U⟩
  | none => none
def bodyK (E : Env) (call : Nat → List FV → Option FV) (J : List Nat → Fr → Hp → R) (g : Nat) (own : List (Nat × Nat × Nat)) (args : List V) : R:=match E.fn g with
 | some fn => (match fn.body with
  | some c => gB (nodupB ((lsOf E g).map fun q => q.1)) (match enterV (lsOf E g) args [] with
   | some (vs,H) => execK E call (inlK E call 3) g J c [] (padF fn.ntmps vs) H ⟨retK E (lsOf E g) own fn,[],retK E (lsOf E g) own fn⟩
   | none => none)
  | none => none)
 | none => none
def pointK (E : Env) (call : Nat → List FV → Option FV) (J : List Nat → Fr → Hp → R) (g : Nat) (own : List (Nat × Nat × Nat)) (path : List Nat) (F : Fr) (H : Hp) : R:=match E.fn g with
 | some fn => (match fn.body with
  | some c => segK E call (inlK E call 3) g J c [] path F H ⟨retK E (lsOf E g) own fn,[],retK E (lsOf E g) own fn⟩
  | none => none)
 | none => none
def jump (E : Env) (call : Nat → List FV → Option FV) (g : Nat) (own : List (Nat × Nat × Nat)) : Nat → List Nat → Fr → Hp → R
 | 0,_,_,_ => none
 | m + 1,p,F,H => pointK E call (jump E call g own m) g own p.reverse F H
def argsK (E : Env) : List Nat → List FV → List V → (List V → R) → R
 | [],[],acc,k => k acc.reverse
 | t :: ts,x :: xs,acc,k => splitAs (E.ty t).isAgg (E.ty t).size x fun v => argsK E ts xs (v :: acc) k
 | _,_,_,_ => none
def callF (E : Env) : Nat → Nat → List FV → Option FV
 | 0,_,_ => none
 | n + 1,g,args => match E.ov g with
  | some f => f args
  | none => match E.mode g,E.fn g with
   | .call own _,some fn => argsK E (pars E fn) args [] fun vs => bodyK E (callF E n) (jump E (callF E n) g own n) g own vs
   | .move _ own,some fn => argsK E (pars E fn) args [] fun vs => bodyK E (callF E n) (jump E (callF E n) g own n) g own vs
   | _,_ => none
def mkF (n : Nat) (l : List (Nat × V)) : Fr:=l.foldl (fun F p => F.set p.1 p.2) (List.replicate n .un)
def eqPath : List Nat → List Nat → Bool
 | [],[] => true
 | a :: p,b :: q => (match Nat.beq a b with | true => eqPath p q | false => false)
 | _,_ => false
def annOf : List (List Nat × Ann) → List Nat → Option Ann
 | [],_ => none
 | (q,a) :: l,p => match eqPath q p with | true => some a | false => annOf l p
end Go.Proofs.YtpffkpaiihcffaaGreatDoor.VM
