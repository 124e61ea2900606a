/- Steps of the proof: Cells by place: the last one of each place, no state 0, in order. Plain lists; The document's way to the same list: a stable sort, and of equal places the last. Plain lists; The arm's cells: the program's list and the document's, of the same cells. Plain lists; What cells.Canon (of the rule R29) and arm.read answer, as functions of frozen values; A field's columns, and the same read off its list of cells. Plain lists; The moves that build a field, and those that clear it: the program's order and the document's. Plain lists; What arm.World answers, as a function of frozen values; The program's world and the document's come to the same. Plain lists; What a world's cells keep: no place twice, near places, states that there are, numbers of cells. Plain lists. -/
import Derived.Test.YtpffkpaiihcffaaGreatDoorVM
section
namespace Go.Proofs.YtpffkpaiihcffaaGreatDoor.VM
abbrev Cel:=Int × Int × Int
def befC (a b : Cel) : Bool:=decide (a.2.1 < b.2.1) || (decide (a.2.1 = b.2.1) && decide (a.1 < b.1))
def smC (a b : Cel) : Bool:=decide (a.1 = b.1) && decide (a.2.1 = b.2.1)
def putC (L : List Cel) (c : Cel) : List Cel:=c :: L.filter fun d => !smC d c
def lastC (l : List Cel) : List Cel:=l.foldl putC []
def insC (c : Cel) : List Cel → List Cel
 | [] => [c]
 | d :: l => match befC c d with | true => c :: d :: l | false => d :: insC c l
def sortC : List Cel → List Cel
 | [] => []
 | c :: l => insC c (sortC l)
def nzC (c : Cel) : Bool:=!decide (c.2.2 = 0)
def canonC (l : List Cel) : List Cel:=sortC ((lastC l).filter nzC)
theorem smC_iff {a b : Cel} : smC a b = true ↔ a.1 = b.1 ∧ a.2.1 = b.2.1:=by simp [smC]
theorem smC_no {a b : Cel} : smC a b = false ↔ ¬ (a.1 = b.1 ∧ a.2.1 = b.2.1):=by rw [← smC_iff];simp
theorem befC_iff {a b : Cel} : befC a b = true ↔ a.2.1 < b.2.1 ∨ (a.2.1 = b.2.1 ∧ a.1 < b.1):=by simp [befC]
theorem befC_no {a b : Cel} : befC a b = false ↔ ¬ (a.2.1 < b.2.1 ∨ (a.2.1 = b.2.1 ∧ a.1 < b.1)):=by rw [← befC_iff];simp
theorem befC_trans {a b c : Cel} (h : befC a b = true) (k : befC b c = true) : befC a c = true:=by rw [befC_iff] at *;omega
theorem befC_irr (a : Cel) : befC a a = false:=by rw [befC_no];omega
abbrev OrdC (l : List Cel) : Prop:=l.Pairwise fun a b => befC a b = true
abbrev ApartC (l : List Cel) : Prop:=l.Pairwise fun a b => smC a b = false
theorem ord_unique : ∀ {l k : List Cel},OrdC l → OrdC k → (∀ c,c ∈ l ↔ c ∈ k) → l = k
 | [],[],_,_,_ => rfl
 | [],b :: k,_,_,h => by have:=(h b).2 (by simp);simp at this
 | a :: l,[],_,_,h => by have:=(h a).1 (by simp);simp at this
 | a :: l,b :: k,hl,hk,h => by
  obtain ⟨h1,h2⟩:=List.pairwise_cons.1 hl
  obtain ⟨k1,k2⟩:=List.pairwise_cons.1 hk
  have e : a = b:=by
   rcases List.mem_cons.1 ((h a).1 (by simp)) with e | e
   ·exact e
   ·rcases List.mem_cons.1 ((h b).2 (by simp)) with e' | e'
    ·exact e'.symm
    ·have:=befC_trans (h1 b e') (k1 a e)
     rw [befC_irr] at this;cases this
  subst e
  congr 1
  refine ord_unique h2 k2 fun c => ⟨fun hc => ?_,fun hc => ?_⟩
  ·rcases List.mem_cons.1 ((h c).1 (List.mem_cons_of_mem _ hc)) with e | e
   ·subst e;have:=h1 c hc;rw [befC_irr] at this;cases this
   ·exact e
  ·rcases List.mem_cons.1 ((h c).2 (List.mem_cons_of_mem _ hc)) with e | e
   ·subst e;have:=k1 c hc;rw [befC_irr] at this;cases this
   ·exact e
theorem insC_mem {c d : Cel} : ∀ {l : List Cel},d ∈ insC c l ↔ d = c ∨ d ∈ l
 | [] => by simp [insC]
 | e :: l => by
  simp only [insC]
  split
  ·simp
  ·simp only [List.mem_cons,insC_mem]
   constructor
   ·rintro (h | h | h) <;> simp [h]
   ·rintro (h | h | h) <;> simp [h]
theorem sortC_mem {d : Cel} : ∀ {l : List Cel},d ∈ sortC l ↔ d ∈ l
 | [] => by simp [sortC]
 | c :: l => by simp only [sortC,insC_mem,sortC_mem,List.mem_cons]
theorem insC_len (c : Cel) : ∀ l : List Cel,(insC c l).length = l.length + 1
 | [] => rfl
 | d :: l => by simp only [insC];split <;> simp [insC_len c l]
theorem sortC_len : ∀ l : List Cel,(sortC l).length = l.length
 | [] => rfl
 | c :: l => by simp [sortC,insC_len,sortC_len l]
theorem insC_ord {c : Cel} : ∀ {l : List Cel},OrdC l → (∀ d ∈ l,smC c d = false) → OrdC (insC c l)
 | [],_,_ => by simp [insC]
 | d :: l,h,k => by
  obtain ⟨h1,h2⟩:=List.pairwise_cons.1 h
  simp only [insC]
  split
  ·rename_i hb
   exact List.pairwise_cons.2 ⟨fun e he => by
    rcases List.mem_cons.1 he with rfl | he
    ·exact hb
    ·exact befC_trans hb (h1 e he),h⟩
  ·rename_i hb
   refine List.pairwise_cons.2 ⟨fun e he => ?_,insC_ord h2 fun e he => k e (List.mem_cons_of_mem _ he)⟩
   rcases insC_mem.1 he with rfl | he
   ·have:=k d (by simp)
    rw [smC_no] at this;rw [befC_no] at hb;rw [befC_iff];omega
   ·exact h1 e he
theorem smC_symm {a b : Cel} (h : smC a b = false) : smC b a = false:=by rw [smC_no] at *;omega
theorem sortC_ord : ∀ {l : List Cel},ApartC l → OrdC (sortC l)
 | [],_ => by simp [sortC]
 | c :: l,h => by
  obtain ⟨h1,h2⟩:=List.pairwise_cons.1 h
  exact insC_ord (sortC_ord h2) fun d hd => h1 d (sortC_mem.1 hd)
theorem ord_apart {l : List Cel} (h : OrdC l) : ApartC l:=h.imp fun {a b} h => by rw [befC_iff] at h;rw [smC_no];omega
theorem sortC_eq {l k : List Cel} (hl : ApartC l) (hk : OrdC k) (h : ∀ c,c ∈ k ↔ c ∈ l) : k = sortC l :=
 ord_unique hk (sortC_ord hl) fun c => by rw [sortC_mem];exact h c
theorem putC_apart {L : List Cel} (h : ApartC L) (c : Cel) : ApartC (putC L c) :=
 List.pairwise_cons.2 ⟨fun d hd => by
  have:=(List.mem_filter.1 hd).2
  simp only [Bool.not_eq_true'] at this
  exact smC_symm this,h.filter _⟩
theorem foldC_apart : ∀ (l : List Cel) {L : List Cel},ApartC L → ApartC (l.foldl putC L)
 | [],_,h => h
 | c :: l,_,h => foldC_apart l (putC_apart h c)
theorem lastC_apart (l : List Cel) : ApartC (lastC l):=foldC_apart l List.Pairwise.nil
theorem canonC_ord (l : List Cel) : OrdC (canonC l):=sortC_ord ((lastC_apart l).filter _)
theorem foldC_mem : ∀ (l : List Cel) {L : List Cel} (_ : ApartC L) (c : Cel),c ∈ l.foldl putC L ↔ (l.filter fun d => smC d c).getLast? = some c ∨ ((l.filter fun d => smC d c) = [] ∧ c ∈ L)
 | [],L,_,c => by simp
 | d :: l,L,hL,c => by
  simp only [List.foldl_cons]
  rw [foldC_mem l (putC_apart hL d) c]
  cases hd : smC d c with
  | true =>
   rw [List.filter_cons_of_pos (by exact hd)]
   cases hf : l.filter fun d => smC d c with
   | nil =>
    simp only [List.getLast?_nil,reduceCtorEq,true_and,false_or,List.getLast?_singleton,Option.some.injEq,List.cons_ne_nil,false_and,or_false]
    constructor
    ·intro hm
     rcases List.mem_cons.1 hm with e | hm
     ·exact e.symm
     ·have:=(List.mem_filter.1 hm).2
      rw [smC_iff] at hd
      simp only [Bool.not_eq_true',smC_no] at this
      omega
    ·intro e;subst e;exact List.mem_cons_self
   | cons x xs => simp [List.getLast?_cons_cons]
  | false =>
   rw [List.filter_cons_of_neg (by simp [hd])]
   have : c ∈ putC L d ↔ c ∈ L:=by
    constructor
    ·intro hm
     rcases List.mem_cons.1 hm with e | hm
     ·subst e;rw [smC_no] at hd;omega
     ·exact (List.mem_filter.1 hm).1
    ·intro hm
     exact List.mem_cons_of_mem _ (List.mem_filter.2 ⟨hm,by rw [smC_symm hd];rfl⟩)
   rw [this]
theorem lastC_mem {l : List Cel} {c : Cel} : c ∈ lastC l ↔ (l.filter fun d => smC d c).getLast? = some c:=by
 rw [lastC,foldC_mem l List.Pairwise.nil c];simp
theorem canonC_mem {l : List Cel} {c : Cel} : c ∈ canonC l ↔ (l.filter fun d => smC d c).getLast? = some c ∧ ¬ c.2.2 = 0:=by
 unfold canonC
 rw [sortC_mem,List.mem_filter,lastC_mem]
 simp [nzC]
theorem apart_mem {l : List Cel} (h : ApartC l) {c : Cel} : (l.filter fun d => smC d c).getLast? = some c ↔ c ∈ l:=by
 constructor
 ·intro hc
  exact (List.mem_filter.1 (List.mem_of_getLast? hc)).1
 ·intro hc
  have : l.filter (fun d => smC d c) = [c]:=by
   induction l with
   | nil => cases hc
   | cons a l ih =>
    obtain ⟨h1,h2⟩:=List.pairwise_cons.1 h
    rcases List.mem_cons.1 hc with rfl | hc
    ·rw [List.filter_cons_of_pos (by rw [smC_iff];exact ⟨rfl,rfl⟩)]
     congr 1
     rw [List.filter_eq_nil_iff]
     intro d hd
     rw [smC_symm (h1 d hd)];simp
    ·rw [List.filter_cons_of_neg (by rw [h1 c hc];simp)]
     exact ih h2 hc
  rw [this];rfl
theorem canonC_apart {l : List Cel} (h : ApartC l) {c : Cel} : c ∈ canonC l ↔ c ∈ l ∧ ¬ c.2.2 = 0:=by rw [canonC_mem,apart_mem h]
theorem canonC_same {l k : List Cel} (hl : ApartC l) (hk : ApartC k) (h : ∀ c,c ∈ l ↔ c ∈ k) : canonC l = canonC k :=
 ord_unique (canonC_ord l) (canonC_ord k) fun c => by rw [canonC_apart hl,canonC_apart hk,h]
theorem putC_len (L : List Cel) (c : Cel) : (putC L c).length ≤ L.length + 1:=by simp [putC];exact List.length_filter_le _ _
theorem foldC_len : ∀ (l L : List Cel),(l.foldl putC L).length ≤ L.length + l.length
 | [],L => by simp
 | c :: l,L => by have:=foldC_len l (putC L c);have:=putC_len L c;simp at *;omega
theorem lastC_len (l : List Cel) : (lastC l).length ≤ l.length:=by have:=foldC_len l [];simpa [lastC] using this
end Go.Proofs.YtpffkpaiihcffaaGreatDoor.VM
end
section
namespace Go.Proofs.YtpffkpaiihcffaaGreatDoor.VM
abbrev OrdW (l : List Cel) : Prop:=l.Pairwise fun a b => befC b a = false
structure Srt (l s : List Cel) : Prop where
 ord : OrdW s
 at_ : ∀ p,s.filter (fun d => smC d p) = l.filter fun d => smC d p
 len : s.length = l.length
end Go.Proofs.YtpffkpaiihcffaaGreatDoor.VM
end
section
namespace Go.Proofs.YtpffkpaiihcffaaGreatDoor.VM
end Go.Proofs.YtpffkpaiihcffaaGreatDoor.VM
end
section
namespace Go.Proofs.YtpffkpaiihcffaaGreatDoor.VM
open Go
def celF : List FV → Option Cel
 | [.int .i64 x,.int .i64 y,.int .i64 s] => some (x,y,s)
 | _ => none
def celsF : List (List FV) → Option (List Cel)
 | [] => some []
 | r :: rs => bindO (celF r) fun c => bindO (celsF rs) fun cs => some (c :: cs)
def cellF (c : Cel) : List FV:=[.int .i64 c.1,.int .i64 c.2.1,.int .i64 c.2.2]
def farC (c : Cel) : Bool:=decide (c.1 < -1073741824) || (decide (1073741824 < c.1) || (decide (c.2.1 < -1073741824) || decide (1073741824 < c.2.1)))
def stateC (s : Int) : Bool:=decide (0 ≤ s) && decide (s < 29)
def errC : List Cel → Int
 | [] => 0
 | c :: l => match farC c with | true => 13 | false => match stateC c.2.2 with | false => 11 | true => errC l
def outC (l : List Cel) : FV:=match l with | [] => .nilS | _ :: _ => .arr (l.map cellF)
def canonA (cs : List Cel) : FV:=match decide (errC cs = 0) with
 | false => .tup [.nilS,.int .i64 (errC cs)]
 | true => match decide ((canonC cs).length ≤ 65536) with
  | true => .tup [outC (canonC cs),.int .i64 0]
  | false => .tup [.nilS,.int .i64 14]
def canonOv : List FV → Option FV
 | [.agg [.int .i64 0,_],l] => bindO (asRows l) fun r => bindO (celsF r) fun cs => gB (decide (cs.length ≤ 1000000)) (some (canonA cs))
 | _ => none
def lookC : Option Cel → List Cel → Int
 | _,[] => 0
 | p,c :: l => match farC c with
  | true => 13
  | false => match stateC c.2.2 && !decide (c.2.2 = 0) with
   | false => 11
   | true => match (match p with | none => true | some d => befC d c) with
    | false => 12
    | true => lookC (some c) l
def properC (l : List Cel) : Int:=match decide (lookC none l = 0) with
 | false => lookC none l
 | true => match decide (l.length ≤ 65536) with | true => 0 | false => 14
def quietC (s : Int) : Bool:=decide (s = 9) || (decide (s = 10) || (decide (s = 11) || (decide (s = 12) || (decide (s = 17) || (decide (s = 18) || (decide (s = 19) || (decide (s = 20) || decide (s = 25))))))))
def inC (c : Cel) : Bool:=decide (2 ≤ c.1) && (decide (c.1 ≤ 57) && (decide (-56 ≤ c.2.1) && decide (c.2.1 ≤ -1)))
def fieldC : List Cel → Int
 | [] => 0
 | c :: l => match quietC c.2.2 with | false => 82 | true => match inC c with | false => 81 | true => fieldC l
def padC {α : Type} (n : Nat) (z : α) (l : List α) : List α:=l ++ List.replicate (n - l.length) z
def setCol (l : List Int) (k : Nat) (s : Int) : List Int:=(padC (k + 1) 0 l).set k s
def addCol (cols : List (List Int)) (c : Cel) : List (List Int) :=
 (padC ((c.1 - 2).toNat + 1) [] cols).set (c.1 - 2).toNat (setCol ((padC ((c.1 - 2).toNat + 1) [] cols).getD (c.1 - 2).toNat []) (-c.2.1 - 1).toNat c.2.2)
def colsOf (l : List Cel) : List (List Int):=l.foldl addCol []
def colF (l : List Int) : FV:=match l with | [] => .nilS | _ :: _ => .arr (l.map fun s => [.int .i64 s])
def colsF (l : List (List Int)) : FV:=match l with | [] => .nilS | _ :: _ => .arr (l.map fun c => [colF c])
def readA (cs : List Cel) : FV:=match decide (properC cs = 0) with
 | false => .tup [.agg [.nilS],.int .i64 (properC cs)]
 | true => match decide (fieldC cs = 0) with
  | false => .tup [.agg [.nilS],.int .i64 (fieldC cs)]
  | true => .tup [.agg [colsF (colsOf cs)],.int .i64 0]
def readOv : List FV → Option FV
 | [l] => bindO (asRows l) fun r => bindO (celsF r) fun cs => gB (decide (cs.length ≤ 1000000)) (some (readA cs))
 | _ => none
end Go.Proofs.YtpffkpaiihcffaaGreatDoor.VM
end
section
namespace Go.Proofs.YtpffkpaiihcffaaGreatDoor.VM
def atI : List Cel → Int → Int → Int
 | [],_,_ => 0
 | c :: l,x,y => if c.1 = x ∧ c.2.1 = y then c.2.2 else atI l x y
theorem lookC_apart : ∀ {l : List Cel} {p : Option Cel},lookC p l = 0 → OrdC l ∧ ∀ d,p = some d → ∀ c ∈ l,befC d c = true
 | [],_,_ => ⟨List.Pairwise.nil,by simp⟩
 | c :: l,p,h => by
  simp only [lookC] at h
  split at h
  ·simp at h
  ·split at h
   ·simp at h
   ·split at h
    ·simp at h
    ·rename_i hp
     obtain ⟨h1,h2⟩:=lookC_apart h
     have h3:=h2 c rfl
     refine ⟨List.pairwise_cons.2 ⟨h3,h1⟩,fun d hd e he => ?_⟩
     subst hd
     simp only at hp
     rcases List.mem_cons.1 he with rfl | he
     ·exact hp
     ·exact befC_trans hp (h3 e he)
end Go.Proofs.YtpffkpaiihcffaaGreatDoor.VM
end
section
namespace Go.Proofs.YtpffkpaiihcffaaGreatDoor.VM
abbrev Mv:=Int × Int
end Go.Proofs.YtpffkpaiihcffaaGreatDoor.VM
end
section
namespace Go.Proofs.YtpffkpaiihcffaaGreatDoor.VM
open Go
def mvOf : List FV → Option Mv
 | [.int .i64 k,.int .i64 s] => some (k,s)
 | _ => none
def mvsF : List (List FV) → Option (List Mv)
 | [] => some []
 | r :: rs => bindO (mvOf r) fun c => bindO (mvsF rs) fun cs => some (c :: cs)
def okA (h v : Int) : Bool:=decide (2 ≤ h) && (decide (h ≤ 60) && (decide (-1 ≤ v) && decide (v ≤ 60)))
def rgtA (k s : Int) : Bool:=if k = 7 ∨ k = 8 then quietC s else decide (1 ≤ k) && (decide (k ≤ 6) && decide (s = 0))
def flatA (v k : Int) : Bool:=if v < 0 then decide (k ≤ 3) else decide (4 ≤ k) && (!(decide (k = 5) && decide (v < 1)) && !(decide (k = 6) && !decide (v = 0)))
def toH (h k : Int) : Int:=if k = 1 then h + 1 else if k = 2 then h - 1 else h
def toV (v k : Int) : Int:=if k = 3 then 0 else if k = 4 then v + 1 else if k = 5 ∨ k = 6 then v - 1 else v
def errA (h v k s : Int) : Int:=match okA h v with
 | false => 81
 | true => match rgtA k s && flatA v k with
  | false => 80
  | true => match okA (toH h k) (toV v k) with | false => 81 | true => 0
def gndX (L : List Cel) (x0 y bx by_ : Int) : Nat → Bool
 | 0 => true
 | n + 1 => gndX L x0 y bx by_ n && ((decide (x0 + (n : Int) = bx) && decide (y = by_)) || decide (atI L (x0 + (n : Int)) y = 0))
def gndY (L : List Cel) (x0 y0 bx by_ : Int) (m : Nat) : Nat → Bool
 | 0 => true
 | n + 1 => gndY L x0 y0 bx by_ m n && gndX L x0 (y0 + (n : Int)) bx by_ m
def gndC (L : List Cel) (x0 y0 x1 y1 bx by_ : Int) : Bool:=gndY L x0 y0 bx by_ (x1 + 1 - x0).toNat (y1 + 1 - y0).toNat
def mayC (L : List Cel) (h v k s : Int) : Bool:=match decide (errA h v k s = 0) with
 | false => false
 | true => match decide (k ≤ 3) with
  | true => gndC L (h + 1) 0 (h + 3) 1 (-1) (-1)
  | false => match decide (k = 6) with
   | true => gndC L (h + 1) (-1) (h + 3) 1 (-1) (-1)
   | false => match decide (k = 7) with
    | true => decide (atI L h (-(v + 1)) = 0) && gndC L (h + 1) (-(v + 2)) (h + 2) 1 (-1) (-1)
    | false => match decide (k = 8) with
     | true => decide (atI L h (-(v + 1)) = s) && gndC L (h + 1) (-(v + 2)) (h + 2) 1 h (-(v + 1))
     | false => gndC L (h + 1) (-(v + 2)) (h + 2) 1 (-1) (-1)
def delC (L : List Cel) (c : Cel) : List Cel:=L.filter fun d => !smC d c
def doC (L : List Cel) (h v k s : Int) : List Cel:=match decide (k = 7) with
 | true => putC L (h,-(v + 1),s)
 | false => match decide (k = 8) with
  | true => delC L (h,-(v + 1),0)
  | false => L
def goW : List Mv → Int → Int → List Cel → Int → Int × Int × List Cel × Int
 | [],h,v,L,n => (h,v,L,n)
 | m :: l,h,v,L,n => match decide (m.1 = 0) && decide (m.2 = 0) with
  | true => goW l h v L (n + 1)
  | false => match mayC L h v m.1 m.2 with
   | false => (h,v,L,n)
   | true => goW l (toH h m.1) (toV v m.1) (doC L h v m.1 m.2) (n + 1)
def siteE (cs : List Cel) : Int:=match decide (properC cs = 0) with
 | false => properC cs
 | true => match cs.all fun c => quietC c.2.2 with
  | false => 82
  | true => match cs.all fun c => !(decide (c.2.1 = 0) || (decide (c.2.1 = 1) || decide (c.1 < 2))) with | false => 81 | true => 0
def canR (cs : List Cel) : Int × List Cel:=if errC cs = 0 then (if (canonC cs).length ≤ 65536 then (0,canonC cs) else (14,[])) else (errC cs,[])
def worldR (ms : List Mv) (cs : List Cel) : Int × Int × List Cel × Int × Int:=match decide (siteE cs = 0) with
 | false => (0,0,[],0,siteE cs)
 | true => ((goW ms 2 (-1) (lastC cs) 0).1,(goW ms 2 (-1) (lastC cs) 0).2.1,(canR (goW ms 2 (-1) (lastC cs) 0).2.2.1).2,(goW ms 2 (-1) (lastC cs) 0).2.2.2,(canR (goW ms 2 (-1) (lastC cs) 0).2.2.1).1)
def worldA (ms : List Mv) (cs : List Cel) : FV:=.tup [.int .i64 (worldR ms cs).1,.int .i64 (worldR ms cs).2.1,outC (worldR ms cs).2.2.1,.int .i64 (worldR ms cs).2.2.2.1,.int .i64 (worldR ms cs).2.2.2.2]
def worldOv : List FV → Option FV
 | [l,p] => bindO (asRows l) fun r => bindO (mvsF r) fun ms => bindO (asRows p) fun q => bindO (celsF q) fun cs => gB (decide (ms.length ≤ 100000 ∧ cs.length ≤ 100000)) (some (worldA ms cs))
 | _ => none
theorem gndX_iff {L : List Cel} {x0 y bx by_ : Int} : ∀ {n : Nat},gndX L x0 y bx by_ n = true ↔ ∀ x,x0 ≤ x → x < x0 + n → ¬ (x = bx ∧ y = by_) → atI L x y = 0
 | 0 => by
  simp only [gndX,true_iff]
  intro x h1 h2;omega
 | n + 1 => by
  simp only [gndX,Bool.and_eq_true,gndX_iff,Bool.or_eq_true,decide_eq_true_eq]
  constructor
  ·rintro ⟨h1,h2⟩ x a b c
   by_cases e : x = x0 + (n : Int)
   ·subst e
    rcases h2 with h2 | h2
    ·exact absurd h2 c
    ·exact h2
   ·exact h1 x a (by omega) c
  ·intro h
   refine ⟨fun x a b c => h x a (by omega) c,?_⟩
   by_cases e : x0 + (n : Int) = bx ∧ y = by_
   ·exact .inl e
   ·exact .inr (h _ (by omega) (by omega) e)
theorem gndY_iff {L : List Cel} {x0 y0 bx by_ : Int} {m : Nat} : ∀ {n : Nat},gndY L x0 y0 bx by_ m n = true ↔ ∀ x y,x0 ≤ x → x < x0 + m → y0 ≤ y → y < y0 + n → ¬ (x = bx ∧ y = by_) → atI L x y = 0
 | 0 => by
  simp only [gndY,true_iff]
  intro x y _ _ h1 h2;omega
 | n + 1 => by
  simp only [gndY,Bool.and_eq_true,gndY_iff,gndX_iff]
  constructor
  ·rintro ⟨h1,h2⟩ x y a b c d e
   by_cases g : y = y0 + (n : Int)
   ·subst g;exact h2 x a b e
   ·exact h1 x y a b c (by omega) e
  ·intro h
   exact ⟨fun x y a b c d e => h x y a b c (by omega) e,fun x a b e => h x _ a b (by omega) (by omega) e⟩
theorem atI_mem {L : List Cel} (hL : ApartC L) {x y s : Int} (h : (x,y,s) ∈ L) : atI L x y = s:=by
 induction L with
 | nil => cases h
 | cons c L ih =>
  obtain ⟨h1,h2⟩:=List.pairwise_cons.1 hL
  simp only [atI]
  rcases List.mem_cons.1 h with e | h
  ·subst e;simp
  ·have:=h1 _ h
   rw [smC_no] at this
   rw [if_neg (by simp only at this;omega),ih h2 h]
theorem atI_some {L : List Cel} {x y : Int} (h : ¬ atI L x y = 0) : (x,y,atI L x y) ∈ L:=by
 induction L with
 | nil => simp [atI] at h
 | cons c L ih =>
  obtain ⟨a,b,s⟩:=c
  simp only [atI] at h ⊢
  by_cases e : a = x ∧ b = y
  ·rw [if_pos e] at h ⊢
   obtain ⟨rfl,rfl⟩:=e
   exact List.mem_cons_self
  ·rw [if_neg e] at h ⊢
   exact List.mem_cons_of_mem _ (ih h)
end Go.Proofs.YtpffkpaiihcffaaGreatDoor.VM
end
section
namespace Go.Proofs.YtpffkpaiihcffaaGreatDoor.VM
structure SameW (L now : List Cel) : Prop where
 apart : ApartC L
 ord : OrdC now
 same : ∀ c,c ∈ L ↔ c ∈ now
 nz : ∀ c ∈ now,¬ c.2.2 = 0
theorem err_kinds {h v k s : Int} (e : errA h v k s = 0) : okA h v = true ∧ rgtA k s = true ∧ flatA v k = true ∧ okA (toH h k) (toV v k) = true ∧ 1 ≤ k ∧ k ≤ 8:=by
 unfold errA at e
 split at e
 ·simp at e
 ·rename_i h1
  split at e
  ·simp at e
  ·rename_i h2
   split at e
   ·simp at e
   ·rename_i h3
    rw [Bool.and_eq_true] at h2
    refine ⟨h1,h2.1,h2.2,h3,?_⟩
    have:=h2.1
    unfold rgtA at this
    split at this
    ·omega
    ·simp only [Bool.and_eq_true,decide_eq_true_eq] at this;omega
theorem delC_apart {L : List Cel} (h : ApartC L) (c : Cel) : ApartC (delC L c):=h.filter _
end Go.Proofs.YtpffkpaiihcffaaGreatDoor.VM
end
section
namespace Go.Proofs.YtpffkpaiihcffaaGreatDoor.VM
def FitC (L : List Cel) : Prop:=∀ c ∈ L,farC c = false ∧ stateC c.2.2 = true
theorem fit_err : ∀ {l : List Cel},FitC l → errC l = 0
 | [],_ => rfl
 | c :: l,h => by
  obtain ⟨h1,h2⟩:=h c (by simp)
  simp only [errC,h1,h2]
  exact fit_err fun d hd => h d (by simp [hd])
theorem lookC_fit : ∀ {l : List Cel} {p : Option Cel},lookC p l = 0 → ∀ c ∈ l,farC c = false ∧ (stateC c.2.2 && !decide (c.2.2 = 0)) = true
 | [],_,_ => by simp
 | c :: l,p,h => by
  simp only [lookC] at h
  split at h
  ·simp at h
  ·rename_i h1
   split at h
   ·simp at h
   ·rename_i h2
    split at h
    ·simp at h
    ·intro d hd
     rcases List.mem_cons.1 hd with rfl | hd
     ·exact ⟨h1,h2⟩
     ·exact lookC_fit h d hd
theorem proper_look {l : List Cel} (h : properC l = 0) : lookC none l = 0 ∧ l.length ≤ 65536:=by
 unfold properC at h
 split at h
 ·rename_i hl;rw [h] at hl;simp at hl
 ·rename_i hl
  split at h
  ·rename_i h2;exact ⟨of_decide_eq_true hl,of_decide_eq_true h2⟩
  ·simp at h
theorem proper_fit {l : List Cel} (h : properC l = 0) : FitC l ∧ (∀ c ∈ l,¬ c.2.2 = 0) ∧ OrdC l ∧ l.length ≤ 65536:=by
 obtain ⟨h1,h2⟩:=proper_look h
 refine ⟨fun c hc => ?_,fun c hc => ?_,(lookC_apart h1).1,h2⟩
 ·obtain ⟨a,b⟩:=lookC_fit h1 c hc
  rw [Bool.and_eq_true] at b
  exact ⟨a,b.1⟩
 ·obtain ⟨a,b⟩:=lookC_fit h1 c hc
  rw [Bool.and_eq_true] at b
  simpa using b.2
theorem lastC_same {l : List Cel} (h : ApartC l) (c : Cel) : c ∈ lastC l ↔ c ∈ l:=by rw [lastC_mem,apart_mem h]
theorem put_fit {L : List Cel} {c : Cel} (hL : FitC L) (h1 : farC c = false) (h2 : stateC c.2.2 = true) : FitC (putC L c):=by
 intro d hd
 rcases List.mem_cons.1 hd with rfl | hd
 ·exact ⟨h1,h2⟩
 ·exact hL d (List.mem_filter.1 hd).1
theorem quiet_state {s : Int} (h : quietC s = true) : stateC s = true:=by
 simp only [quietC,Bool.or_eq_true,decide_eq_true_eq] at h
 simp only [stateC,Bool.and_eq_true,decide_eq_true_eq];omega
theorem do_fit {L : List Cel} {h v k s : Int} (hL : FitC L) (e : errA h v k s = 0) : FitC (doC L h v k s):=by
 obtain ⟨e1,e2,_,_,_,_⟩:=err_kinds e
 simp only [okA,Bool.and_eq_true,decide_eq_true_eq] at e1
 unfold doC
 by_cases k7 : k = 7
 ·simp only [decide_eq_true k7]
  refine put_fit hL ?_ ?_
  ·simp only [farC,Bool.or_eq_false_iff,decide_eq_false_iff_not];omega
  ·unfold rgtA at e2
   rw [if_pos (.inl k7)] at e2
   exact quiet_state e2
 ·simp only [decide_eq_false k7]
  by_cases k8 : k = 8
  ·simp only [decide_eq_true k8]
   exact fun c hc => hL c (List.mem_filter.1 hc).1
  ·simp only [decide_eq_false k8];exact hL
theorem may_err {L : List Cel} {h v k s : Int} (e : mayC L h v k s = true) : errA h v k s = 0:=by
 unfold mayC at e
 by_cases h0 : errA h v k s = 0
 ·exact h0
 ·simp only [decide_eq_false h0] at e;cases e
theorem canR_fit {L K : List Cel} (hL : FitC L) (aL : ApartC L) (hK : ApartC K) (h : ∀ c,c ∈ K ↔ c ∈ L) : canR K = canR L:=by
 have e1:=fit_err hL
 have e2 : errC K = 0:=fit_err fun c hc => hL c ((h c).1 hc)
 unfold canR
 rw [e1,e2,canonC_same hK aL h]
end Go.Proofs.YtpffkpaiihcffaaGreatDoor.VM
end
