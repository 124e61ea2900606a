/- Steps of the proof: Cells by place: the last one of each place, no state 0, in order. Plain lists; The document's way to the same list: a stable sort, and of equal places the last. Plain lists; The arm's cells: the program's list and the document's, of the same cells. Plain lists; What cells.Canon (of the rule R29) and arm.read answer, as functions of frozen values; A field's columns, and the same read off its list of cells. Plain lists; The moves that build a field, and those that clear it: the program's order and the document's. Plain lists; What arm.World answers, as a function of frozen values; The trains of the moves; the train of a list. Plain lists. -/
import Derived.Test.YtpffkpaiihcffaaGreatDoorVM
section
namespace Go.Proofs.YtpffkpaiihcffaaGreatDoor.VM
abbrev Cel:=Int × Int × Int
def befC (a b : Cel) : Bool:=decide (a.2.1 < b.2.1) || (decide (a.2.1 = b.2.1) && decide (a.1 < b.1))
def smC (a b : Cel) : Bool:=decide (a.1 = b.1) && decide (a.2.1 = b.2.1)
def putC (L : List Cel) (c : Cel) : List Cel:=c :: L.filter fun d => !smC d c
def lastC (l : List Cel) : List Cel:=l.foldl putC []
def insC (c : Cel) : List Cel → List Cel
 | [] => [c]
 | d :: l => match befC c d with | true => c :: d :: l | false => d :: insC c l
def sortC : List Cel → List Cel
 | [] => []
 | c :: l => insC c (sortC l)
def nzC (c : Cel) : Bool:=!decide (c.2.2 = 0)
def canonC (l : List Cel) : List Cel:=sortC ((lastC l).filter nzC)
theorem smC_iff {a b : Cel} : smC a b = true ↔ a.1 = b.1 ∧ a.2.1 = b.2.1:=by simp [smC]
theorem smC_no {a b : Cel} : smC a b = false ↔ ¬ (a.1 = b.1 ∧ a.2.1 = b.2.1):=by rw [← smC_iff];simp
theorem befC_iff {a b : Cel} : befC a b = true ↔ a.2.1 < b.2.1 ∨ (a.2.1 = b.2.1 ∧ a.1 < b.1):=by simp [befC]
theorem befC_no {a b : Cel} : befC a b = false ↔ ¬ (a.2.1 < b.2.1 ∨ (a.2.1 = b.2.1 ∧ a.1 < b.1)):=by rw [← befC_iff];simp
theorem befC_trans {a b c : Cel} (h : befC a b = true) (k : befC b c = true) : befC a c = true:=by rw [befC_iff] at *;omega
theorem befC_irr (a : Cel) : befC a a = false:=by rw [befC_no];omega
abbrev OrdC (l : List Cel) : Prop:=l.Pairwise fun a b => befC a b = true
abbrev ApartC (l : List Cel) : Prop:=l.Pairwise fun a b => smC a b = false
theorem ord_unique : ∀ {l k : List Cel},OrdC l → OrdC k → (∀ c,c ∈ l ↔ c ∈ k) → l = k
 | [],[],_,_,_ => rfl
 | [],b :: k,_,_,h => by have:=(h b).2 (by simp);simp at this
 | a :: l,[],_,_,h => by have:=(h a).1 (by simp);simp at this
 | a :: l,b :: k,hl,hk,h => by
  obtain ⟨h1,h2⟩:=List.pairwise_cons.1 hl
  obtain ⟨k1,k2⟩:=List.pairwise_cons.1 hk
  have e : a = b:=by
   rcases List.mem_cons.1 ((h a).1 (by simp)) with e | e
   ·exact e
   ·rcases List.mem_cons.1 ((h b).2 (by simp)) with e' | e'
    ·exact e'.symm
    ·have:=befC_trans (h1 b e') (k1 a e)
     rw [befC_irr] at this;cases this
  subst e
  congr 1
  refine ord_unique h2 k2 fun c => ⟨fun hc => ?_,fun hc => ?_⟩
  ·rcases List.mem_cons.1 ((h c).1 (List.mem_cons_of_mem _ hc)) with e | e
   ·subst e;have:=h1 c hc;rw [befC_irr] at this;cases this
   ·exact e
  ·rcases List.mem_cons.1 ((h c).2 (List.mem_cons_of_mem _ hc)) with e | e
   ·subst e;have:=k1 c hc;rw [befC_irr] at this;cases this
   ·exact e
theorem insC_mem {c d : Cel} : ∀ {l : List Cel},d ∈ insC c l ↔ d = c ∨ d ∈ l
 | [] => by simp [insC]
 | e :: l => by
  simp only [insC]
  split
  ·simp
  ·simp only [List.mem_cons,insC_mem]
   constructor
   ·rintro (h | h | h) <;> simp [h]
   ·rintro (h | h | h) <;> simp [h]
theorem sortC_mem {d : Cel} : ∀ {l : List Cel},d ∈ sortC l ↔ d ∈ l
 | [] => by simp [sortC]
 | c :: l => by simp only [sortC,insC_mem,sortC_mem,List.mem_cons]
theorem insC_len (c : Cel) : ∀ l : List Cel,(insC c l).length = l.length + 1
 | [] => rfl
 | d :: l => by simp only [insC];split <;> simp [insC_len c l]
theorem sortC_len : ∀ l : List Cel,(sortC l).length = l.length
 | [] => rfl
 | c :: l => by simp [sortC,insC_len,sortC_len l]
theorem insC_ord {c : Cel} : ∀ {l : List Cel},OrdC l → (∀ d ∈ l,smC c d = false) → OrdC (insC c l)
 | [],_,_ => by simp [insC]
 | d :: l,h,k => by
  obtain ⟨h1,h2⟩:=List.pairwise_cons.1 h
  simp only [insC]
  split
  ·rename_i hb
   exact List.pairwise_cons.2 ⟨fun e he => by
    rcases List.mem_cons.1 he with rfl | he
    ·exact hb
    ·exact befC_trans hb (h1 e he),h⟩
  ·rename_i hb
   refine List.pairwise_cons.2 ⟨fun e he => ?_,insC_ord h2 fun e he => k e (List.mem_cons_of_mem _ he)⟩
   rcases insC_mem.1 he with rfl | he
   ·have:=k d (by simp)
    rw [smC_no] at this;rw [befC_no] at hb;rw [befC_iff];omega
   ·exact h1 e he
theorem smC_symm {a b : Cel} (h : smC a b = false) : smC b a = false:=by rw [smC_no] at *;omega
theorem sortC_ord : ∀ {l : List Cel},ApartC l → OrdC (sortC l)
 | [],_ => by simp [sortC]
 | c :: l,h => by
  obtain ⟨h1,h2⟩:=List.pairwise_cons.1 h
  exact insC_ord (sortC_ord h2) fun d hd => h1 d (sortC_mem.1 hd)
theorem ord_apart {l : List Cel} (h : OrdC l) : ApartC l:=h.imp fun {a b} h => by rw [befC_iff] at h;rw [smC_no];omega
theorem sortC_eq {l k : List Cel} (hl : ApartC l) (hk : OrdC k) (h : ∀ c,c ∈ k ↔ c ∈ l) : k = sortC l :=
 ord_unique hk (sortC_ord hl) fun c => by rw [sortC_mem];exact h c
theorem putC_apart {L : List Cel} (h : ApartC L) (c : Cel) : ApartC (putC L c) :=
 List.pairwise_cons.2 ⟨fun d hd => by
  have:=(List.mem_filter.1 hd).2
  simp only [Bool.not_eq_true'] at this
  exact smC_symm this,h.filter _⟩
theorem foldC_apart : ∀ (l : List Cel) {L : List Cel},ApartC L → ApartC (l.foldl putC L)
 | [],_,h => h
 | c :: l,_,h => foldC_apart l (putC_apart h c)
theorem lastC_apart (l : List Cel) : ApartC (lastC l):=foldC_apart l List.Pairwise.nil
theorem canonC_ord (l : List Cel) : OrdC (canonC l):=sortC_ord ((lastC_apart l).filter _)
theorem putC_len (L : List Cel) (c : Cel) : (putC L c).length ≤ L.length + 1:=by simp [putC];exact List.length_filter_le _ _
theorem foldC_len : ∀ (l L : List Cel),(l.foldl putC L).length ≤ L.length + l.length
 | [],L => by simp
 | c :: l,L => by have:=foldC_len l (putC L c);have:=putC_len L c;simp at *;omega
theorem lastC_len (l : List Cel) : (lastC l).length ≤ l.length:=by have:=foldC_len l [];simpa [lastC] using this
end Go.Proofs.YtpffkpaiihcffaaGreatDoor.VM
end
section
namespace Go.Proofs.YtpffkpaiihcffaaGreatDoor.VM
abbrev OrdW (l : List Cel) : Prop:=l.Pairwise fun a b => befC b a = false
structure Srt (l s : List Cel) : Prop where
 ord : OrdW s
 at_ : ∀ p,s.filter (fun d => smC d p) = l.filter fun d => smC d p
 len : s.length = l.length
end Go.Proofs.YtpffkpaiihcffaaGreatDoor.VM
end
section
namespace Go.Proofs.YtpffkpaiihcffaaGreatDoor.VM
end Go.Proofs.YtpffkpaiihcffaaGreatDoor.VM
end
section
namespace Go.Proofs.YtpffkpaiihcffaaGreatDoor.VM
open Go
def celF : List FV → Option Cel
 | [.int .i64 x,.int .i64 y,.int .i64 s] => some (x,y,s)
 | _ => none
def celsF : List (List FV) → Option (List Cel)
 | [] => some []
 | r :: rs => bindO (celF r) fun c => bindO (celsF rs) fun cs => some (c :: cs)
def cellF (c : Cel) : List FV:=[.int .i64 c.1,.int .i64 c.2.1,.int .i64 c.2.2]
def farC (c : Cel) : Bool:=decide (c.1 < -1073741824) || (decide (1073741824 < c.1) || (decide (c.2.1 < -1073741824) || decide (1073741824 < c.2.1)))
def stateC (s : Int) : Bool:=decide (0 ≤ s) && decide (s < 29)
def errC : List Cel → Int
 | [] => 0
 | c :: l => match farC c with | true => 13 | false => match stateC c.2.2 with | false => 11 | true => errC l
def outC (l : List Cel) : FV:=match l with | [] => .nilS | _ :: _ => .arr (l.map cellF)
def canonA (cs : List Cel) : FV:=match decide (errC cs = 0) with
 | false => .tup [.nilS,.int .i64 (errC cs)]
 | true => match decide ((canonC cs).length ≤ 65536) with
  | true => .tup [outC (canonC cs),.int .i64 0]
  | false => .tup [.nilS,.int .i64 14]
def canonOv : List FV → Option FV
 | [.agg [.int .i64 0,_],l] => bindO (asRows l) fun r => bindO (celsF r) fun cs => gB (decide (cs.length ≤ 1000000)) (some (canonA cs))
 | _ => none
def lookC : Option Cel → List Cel → Int
 | _,[] => 0
 | p,c :: l => match farC c with
  | true => 13
  | false => match stateC c.2.2 && !decide (c.2.2 = 0) with
   | false => 11
   | true => match (match p with | none => true | some d => befC d c) with
    | false => 12
    | true => lookC (some c) l
def properC (l : List Cel) : Int:=match decide (lookC none l = 0) with
 | false => lookC none l
 | true => match decide (l.length ≤ 65536) with | true => 0 | false => 14
def quietC (s : Int) : Bool:=decide (s = 9) || (decide (s = 10) || (decide (s = 11) || (decide (s = 12) || (decide (s = 17) || (decide (s = 18) || (decide (s = 19) || (decide (s = 20) || decide (s = 25))))))))
def inC (c : Cel) : Bool:=decide (2 ≤ c.1) && (decide (c.1 ≤ 57) && (decide (-56 ≤ c.2.1) && decide (c.2.1 ≤ -1)))
def fieldC : List Cel → Int
 | [] => 0
 | c :: l => match quietC c.2.2 with | false => 82 | true => match inC c with | false => 81 | true => fieldC l
def padC {α : Type} (n : Nat) (z : α) (l : List α) : List α:=l ++ List.replicate (n - l.length) z
def setCol (l : List Int) (k : Nat) (s : Int) : List Int:=(padC (k + 1) 0 l).set k s
def addCol (cols : List (List Int)) (c : Cel) : List (List Int) :=
 (padC ((c.1 - 2).toNat + 1) [] cols).set (c.1 - 2).toNat (setCol ((padC ((c.1 - 2).toNat + 1) [] cols).getD (c.1 - 2).toNat []) (-c.2.1 - 1).toNat c.2.2)
def colsOf (l : List Cel) : List (List Int):=l.foldl addCol []
def colF (l : List Int) : FV:=match l with | [] => .nilS | _ :: _ => .arr (l.map fun s => [.int .i64 s])
def colsF (l : List (List Int)) : FV:=match l with | [] => .nilS | _ :: _ => .arr (l.map fun c => [colF c])
def readA (cs : List Cel) : FV:=match decide (properC cs = 0) with
 | false => .tup [.agg [.nilS],.int .i64 (properC cs)]
 | true => match decide (fieldC cs = 0) with
  | false => .tup [.agg [.nilS],.int .i64 (fieldC cs)]
  | true => .tup [.agg [colsF (colsOf cs)],.int .i64 0]
def readOv : List FV → Option FV
 | [l] => bindO (asRows l) fun r => bindO (celsF r) fun cs => gB (decide (cs.length ≤ 1000000)) (some (readA cs))
 | _ => none
end Go.Proofs.YtpffkpaiihcffaaGreatDoor.VM
end
section
namespace Go.Proofs.YtpffkpaiihcffaaGreatDoor.VM
theorem padC_len {α : Type} (n : Nat) (z : α) (l : List α) : (padC n z l).length = max l.length n:=by
 simp [padC];omega
theorem padC_getD {α : Type} (n : Nat) (z : α) (l : List α) (i : Nat) : (padC n z l).getD i z = l.getD i z:=by
 unfold padC
 by_cases h : i < l.length
 ·simp [List.getD_eq_getElem?_getD,List.getElem?_append_left h]
 ·rw [List.getD_eq_getElem?_getD,List.getD_eq_getElem?_getD,List.getElem?_append_right (by omega),List.getElem?_eq_none (l:=l) (by omega),List.getElem?_replicate]
  split <;> rfl
theorem setCol_len (l : List Int) (k : Nat) (s : Int) : (setCol l k s).length = max l.length (k + 1):=by simp [setCol,padC_len]
theorem setCol_getD (l : List Int) (k : Nat) (s : Int) (j : Nat) : (setCol l k s).getD j 0 = if j = k then s else l.getD j 0:=by
 unfold setCol
 by_cases h : j = k
 ·subst h
  rw [List.getD_eq_getElem?_getD,List.getElem?_set_self (by rw [padC_len];omega),if_pos rfl];rfl
 ·rw [if_neg h,List.getD_eq_getElem?_getD,List.getElem?_set_ne (Ne.symm h),← List.getD_eq_getElem?_getD,padC_getD]
theorem addCol_len (cols : List (List Int)) (c : Cel) : (addCol cols c).length = max cols.length ((c.1 - 2).toNat + 1):=by simp [addCol,padC_len]
theorem addCol_getD (cols : List (List Int)) (c : Cel) (i : Nat) : (addCol cols c).getD i [] = if i = (c.1 - 2).toNat then setCol (cols.getD i []) (-c.2.1 - 1).toNat c.2.2 else cols.getD i []:=by
 unfold addCol
 by_cases h : i = (c.1 - 2).toNat
 ·subst h
  rw [List.getD_eq_getElem?_getD,List.getElem?_set_self (by rw [padC_len];omega),if_pos rfl,Option.getD_some,padC_getD]
 ·rw [if_neg h,List.getD_eq_getElem?_getD,List.getElem?_set_ne (Ne.symm h),← List.getD_eq_getElem?_getD,padC_getD]
theorem snoc_ind {α : Type} {P : List α → Prop} (h0 : P []) (h1 : ∀ l c,P l → P (l ++ [c])) (l : List α) : P l:=by
 have : ∀ n (l : List α),l.length = n → P l:=fun n => by
  induction n with
  | zero => intro l h;obtain rfl:=List.length_eq_zero_iff.1 h;exact h0
  | succ n ih =>
   intro l h
   have hne : l ≠ []:=fun e => by rw [e] at h;simp at h
   rw [← List.dropLast_concat_getLast hne]
   exact h1 _ _ (ih _ (by simp [h]))
 exact this _ l rfl
theorem colsOf_app (l : List Cel) (c : Cel) : colsOf (l ++ [c]) = addCol (colsOf l) c:=by simp [colsOf,List.foldl_append]
def lastI (l : List Cel) : Int:=l.foldl (fun m c => max m c.1) 0
def topI (l : List Cel) (x : Int) : Int:=l.foldl (fun m c => if c.1 = x then min m c.2.1 else m) 0
def atI : List Cel → Int → Int → Int
 | [],_,_ => 0
 | c :: l,x,y => if c.1 = x ∧ c.2.1 = y then c.2.2 else atI l x y
theorem lastI_app (l : List Cel) (c : Cel) : lastI (l ++ [c]) = max (lastI l) c.1:=by simp [lastI,List.foldl_append]
theorem topI_app (l : List Cel) (c : Cel) (x : Int) : topI (l ++ [c]) x = if c.1 = x then min (topI l x) c.2.1 else topI l x:=by simp [topI,List.foldl_append]
theorem atI_no {c : Cel} {x y : Int} (h : ¬ (c.1 = x ∧ c.2.1 = y)) : ∀ l : List Cel,atI (l ++ [c]) x y = atI l x y
 | [] => by simp [atI,h]
 | d :: l => by simp only [List.cons_append,atI,atI_no h l]
theorem atI_yes {c : Cel} : ∀ {l : List Cel},(∀ d ∈ l,¬ (d.1 = c.1 ∧ d.2.1 = c.2.1)) → atI (l ++ [c]) c.1 c.2.1 = c.2.2
 | [],_ => by simp [atI]
 | d :: l,h => by
  simp only [List.cons_append,atI]
  rw [if_neg (h d (by simp)),atI_yes fun e he => h e (by simp [he])]
theorem inC_iff {c : Cel} : inC c = true ↔ 2 ≤ c.1 ∧ c.1 ≤ 57 ∧ -56 ≤ c.2.1 ∧ c.2.1 ≤ -1:=by simp [inC]
theorem cols_len (l : List Cel) : (∀ c ∈ l,inC c = true) → (colsOf l).length = (lastI l - 1).toNat ∧ 0 ≤ lastI l ∧ lastI l ≤ 57:=by
 refine snoc_ind (P:=fun l => (∀ c ∈ l,inC c = true) → (colsOf l).length = (lastI l - 1).toNat ∧ 0 ≤ lastI l ∧ lastI l ≤ 57) (fun _ => by simp [colsOf,lastI]) (fun l c ih h => ?_) l
 obtain ⟨h1,h2,h3⟩:=ih fun d hd => h d (by simp [hd])
 have hc:=inC_iff.1 (h c (by simp))
 rw [colsOf_app,addCol_len,lastI_app,h1]
 omega
theorem cols_top (l : List Cel) : (∀ c ∈ l,inC c = true) → ∀ i : Nat,((colsOf l).getD i []).length = (-(topI l ((i : Int) + 2))).toNat ∧ topI l ((i : Int) + 2) ≤ 0 ∧ -56 ≤ topI l ((i : Int) + 2):=by
 refine snoc_ind (P:=fun l => (∀ c ∈ l,inC c = true) → ∀ i : Nat,((colsOf l).getD i []).length = (-(topI l ((i : Int) + 2))).toNat ∧ topI l ((i : Int) + 2) ≤ 0 ∧ -56 ≤ topI l ((i : Int) + 2)) (fun _ i => by simp [colsOf,topI]) (fun l c ih h i => ?_) l
 obtain ⟨h1,h2,h3⟩:=ih (fun d hd => h d (by simp [hd])) i
 have hc:=inC_iff.1 (h c (by simp))
 rw [colsOf_app,addCol_getD,topI_app]
 by_cases hi : c.1 = (i : Int) + 2
 ·rw [if_pos (by omega),if_pos hi,setCol_len,h1]
  omega
 ·rw [if_neg (by omega),if_neg hi]
  exact ⟨h1,h2,h3⟩
theorem cols_at (l : List Cel) : (∀ c ∈ l,inC c = true) → ApartC l → ∀ i k : Nat,((colsOf l).getD i []).getD k 0 = atI l ((i : Int) + 2) (-(k : Int) - 1):=by
 refine snoc_ind (P:=fun l => (∀ c ∈ l,inC c = true) → ApartC l → ∀ i k : Nat,((colsOf l).getD i []).getD k 0 = atI l ((i : Int) + 2) (-(k : Int) - 1)) (fun _ _ i k => by simp [colsOf,atI]) (fun l c ih h ha i k => ?_) l
 obtain ⟨a1,_,a3⟩:=List.pairwise_append.1 ha
 have h1:=ih (fun d hd => h d (by simp [hd])) a1 i k
 have hc:=inC_iff.1 (h c (by simp))
 rw [colsOf_app,addCol_getD]
 by_cases hi : c.1 = (i : Int) + 2
 ·rw [if_pos (by omega),setCol_getD]
  by_cases hk : c.2.1 = -(k : Int) - 1
  ·rw [if_pos (by omega),← hi,← hk]
   exact (atI_yes fun d hd => by
    have:=a3 d hd c (by simp)
    rwa [smC_no] at this).symm
  ·rw [if_neg (by omega),h1,atI_no (by omega)]
 ·rw [if_neg (by omega),h1,atI_no (by omega)]
theorem lookC_apart : ∀ {l : List Cel} {p : Option Cel},lookC p l = 0 → OrdC l ∧ ∀ d,p = some d → ∀ c ∈ l,befC d c = true
 | [],_,_ => ⟨List.Pairwise.nil,by simp⟩
 | c :: l,p,h => by
  simp only [lookC] at h
  split at h
  ·simp at h
  ·split at h
   ·simp at h
   ·split at h
    ·simp at h
    ·rename_i hp
     obtain ⟨h1,h2⟩:=lookC_apart h
     have h3:=h2 c rfl
     refine ⟨List.pairwise_cons.2 ⟨h3,h1⟩,fun d hd e he => ?_⟩
     subst hd
     simp only at hp
     rcases List.mem_cons.1 he with rfl | he
     ·exact hp
     ·exact befC_trans hp (h3 e he)
theorem proper_apart {l : List Cel} (h : properC l = 0) : ApartC l:=by
 unfold properC at h
 split at h
 ·rename_i hl;rw [h] at hl;simp at hl
 ·rename_i hl
  exact ord_apart (lookC_apart (of_decide_eq_true hl)).1
theorem field_in : ∀ {l : List Cel},fieldC l = 0 → ∀ c ∈ l,inC c = true
 | [],_ => by simp
 | c :: l,h => by
  simp only [fieldC] at h
  split at h
  ·simp at h
  ·split at h
   ·simp at h
   ·rename_i hi
    intro d hd
    rcases List.mem_cons.1 hd with rfl | hd
    ·exact hi
    ·exact field_in h d hd
end Go.Proofs.YtpffkpaiihcffaaGreatDoor.VM
end
section
namespace Go.Proofs.YtpffkpaiihcffaaGreatDoor.VM
abbrev Mv:=Int × Int
def repM (k : Int) (n : Nat) : List Mv:=List.replicate n (k,0)
def downP (c : List Int) : Nat → List Mv
 | 0 => []
 | k + 1 => (if c.getD k 0 ≠ 0 then [(7,c.getD k 0)] else []) ++ ((if 0 < k then [(5,0)] else []) ++ downP c k)
def colP (c : List Int) : List Mv:=if c.length = 0 then [] else (3,0) :: (repM 4 (c.length - 1) ++ (downP c c.length ++ [(6,0)]))
def preM (j : Nat) : List Mv:=if 0 < j then [(1,0)] else []
def seqP (cols : List (List Int)) (n : Nat) : List Mv:=(List.range n).flatMap fun j => preM j ++ colP (cols.getD j [])
def movP (cols : List (List Int)) : List Mv:=seqP cols cols.length ++ repM 2 (cols.length - 1)
def downD (a : Nat → Int) : Nat → List Mv
 | 0 => []
 | k + 1 => (if a k ≠ 0 then [(7,a k)] else []) ++ ((if 0 < k then (5,0) else (6,0)) :: downD a k)
theorem down_same (c : List Int) : ∀ n,downD (fun k => c.getD k 0) (n + 1) = downP c (n + 1) ++ [(6,0)]
 | 0 => by simp [downD,downP]
 | n + 1 => by
  have e : downP c (n + 1 + 1) = (if c.getD (n + 1) 0 ≠ 0 then [(7,c.getD (n + 1) 0)] else []) ++ ((if 0 < n + 1 then [(5,0)] else []) ++ downP c (n + 1)):=rfl
  rw [downD,down_same c n,e]
  simp only [List.append_assoc]
  simp
def colD (a : Nat → Int) (n : Nat) : List Mv:=(if 0 < n then [(3,0)] else []) ++ (repM 4 (n - 1) ++ downD a n)
theorem col_same (c : List Int) : colD (fun k => c.getD k 0) c.length = colP c:=by
 unfold colD colP
 by_cases h : c.length = 0
 ·simp [h,repM,downD]
 ·obtain ⟨n,hn⟩ : ∃ n,c.length = n + 1:=⟨c.length - 1,by omega⟩
  rw [if_neg h,if_pos (by omega),hn,down_same]
  simp
def postM (N j : Nat) : List Mv:=if j + 1 < N then [(1,0)] else []
def seqD (cols : List (List Int)) (N n : Nat) : List Mv:=(List.range n).flatMap fun j => colP (cols.getD j []) ++ postM N j
theorem seqP_succ (cols : List (List Int)) (n : Nat) : seqP cols (n + 1) = seqP cols n ++ (preM n ++ colP (cols.getD n [])):=by simp [seqP,List.range_succ]
theorem seqD_succ (cols : List (List Int)) (N n : Nat) : seqD cols N (n + 1) = seqD cols N n ++ (colP (cols.getD n []) ++ postM N n):=by simp [seqD,List.range_succ]
theorem seq_same (cols : List (List Int)) (N : Nat) : ∀ n,n ≤ N → seqD cols N n = seqP cols n ++ (if 0 < n ∧ n < N then [(1,0)] else [])
 | 0,_ => by simp [seqD,seqP]
 | n + 1,h => by
  rw [seqD_succ,seqP_succ,seq_same cols N n (by omega)]
  have hp : preM n = (if 0 < n ∧ n < N then [(1,0)] else []):=by
   unfold preM
   by_cases h0 : 0 < n
   ·rw [if_pos h0,if_pos ⟨h0,by omega⟩]
   ·rw [if_neg h0,if_neg (by omega)]
  have hq : postM N n = (if 0 < n + 1 ∧ n + 1 < N then [(1,0)] else []):=by
   unfold postM
   by_cases h0 : n + 1 < N
   ·rw [if_pos h0,if_pos ⟨by omega,h0⟩]
   ·rw [if_neg h0,if_neg (by omega)]
  rw [hp,hq]
  simp
theorem seq_all (cols : List (List Int)) (N : Nat) : seqD cols N N = seqP cols N:=by
 rw [seq_same cols N N (Nat.le_refl _),if_neg (by omega),List.append_nil]
end Go.Proofs.YtpffkpaiihcffaaGreatDoor.VM
end
section
namespace Go.Proofs.YtpffkpaiihcffaaGreatDoor.VM
open Go
def mvOf : List FV → Option Mv
 | [.int .i64 k,.int .i64 s] => some (k,s)
 | _ => none
def mvsF : List (List FV) → Option (List Mv)
 | [] => some []
 | r :: rs => bindO (mvOf r) fun c => bindO (mvsF rs) fun cs => some (c :: cs)
def rgtA (k s : Int) : Bool:=if k = 7 ∨ k = 8 then quietC s else decide (1 ≤ k) && (decide (k ≤ 6) && decide (s = 0))
end Go.Proofs.YtpffkpaiihcffaaGreatDoor.VM
end
section
namespace Go.Proofs.YtpffkpaiihcffaaGreatDoor.VM
open Go
def tb (l : List Nat) : List UInt8:=l.map fun b => if b = 0 then 48 else 49
def pulA (k s : Int) : List UInt8 × List UInt8 :=
 if k = 1 ∧ s = 0 then (tb [1,0,0,0,0],tb [1,0,1,1,0])
 else if k = 2 ∧ s = 0 then (tb [1,0,1,0,1,0,0,1,1,0,0,0,0,0,0,0,0,0,0,0,0,0,0,0,0,0,0,0,1,1,0,0,0,0,1,0,1,0,1,0,1,0,0],tb [0,0,0,0,0,0,0,0,0,0,0,0,1,1,0,0,1,1,0,1,1,1,1,1,1,0,1,0,0,0,0,0,0,0,1,0,0,0,0,0,1,0,0])
 else if k = 3 ∧ s = 0 then (tb [1,0,0,0,1,0,0,0,0,0,0,0],tb [1,0,1,1,1,1,0,0,1,1,0,0])
 else if k = 4 ∧ s = 0 then (tb [1,0,0,0,1],tb [1,1,0,0,0])
 else if k = 5 ∧ s = 0 then (tb [0,0,1,0,0,0,0,1,0,1,0,1,0,0,0,0,0,0,0,0,0,0,0,0,0,0,0,0,0,0,0,1,1,0,0,0,1,1,0,1,0,0,0,0,1,0,0],tb [0,0,0,0,0,0,0,0,0,0,0,0,0,1,1,0,1,1,1,1,0,0,1,1,0,1,1,1,0,0,0,0,0,0,0,1,0,0,0,0,0,0,1,0,0,0,0])
 else if k = 6 ∧ s = 0 then (tb [0,0,0,1,0,0,0,0,1,0,1,0,1,0,0,0,0,0,0,0,0,0,0,0,0,0,0,0,0,0,0,0,1,1,0,0,0,1,1,0,1,0,0,0,0,1,0,0,1,0,0,0,0,1,0,1,0,1,1,0,0,1,1,0,0,0,0,0,0,0,0,0,0,0,0,0,0,0,0,0,0,0,1,1,0,0,0,0,1,0,1,0,1,0,1,0,0],tb [0,0,0,0,0,0,0,0,0,0,0,0,0,0,1,1,0,1,1,1,1,0,0,1,1,0,1,1,1,0,0,0,0,0,0,0,1,0,0,0,0,0,0,1,0,0,0,0,0,0,0,0,0,0,0,0,0,0,0,0,0,0,0,0,0,0,1,1,0,0,1,1,0,1,1,1,1,1,1,0,1,0,0,0,0,0,0,0,1,0,0,0,0,0,1,0,0])
 else if k = 7 ∧ s = 9 then (tb [0,0,1,0,0,1,1,0,0,0,0,0,1,0,0,0,0,1,0,0],tb [1,1,0,1,0,0,0,0,1,0,0,0,0,0,0,1,0,0,0,0])
 else if k = 8 ∧ s = 9 then (tb [0,0,0,0,0,0,0,0,0,0,0,0,1,1,0,0,0,0,1,0,0],tb [1,1,0,1,1,1,0,1,1,0,0,0,0,0,0,0,1,0,0,0,0])
 else if k = 7 ∧ s = 10 then (tb [0,0,1,0,0,1,1,0,0,0,1,0,1,0,0,0,0,1,0,0],tb [1,1,0,1,0,0,0,0,1,0,0,0,0,0,0,1,0,0,0,0])
 else if k = 8 ∧ s = 10 then (tb [0,0,0,0,0,0,0,0,0,0,0,0,0,1,1,0,0,0,0,1,0,0],tb [0,1,1,0,1,1,1,0,1,1,0,0,0,0,0,0,0,1,0,0,0,0])
 else if k = 7 ∧ s = 11 then (tb [0,0,1,0,0,1,1,0,0,1,0,1,0,0,0,0,1,0,0],tb [1,1,0,1,0,0,0,1,0,0,0,0,0,0,1,0,0,0,0])
 else if k = 8 ∧ s = 11 then (tb [0,0,0,0,0,0,0,0,0,0,0,0,0,0,1,1,0,0,0,0,1,0,0],tb [0,0,1,1,0,1,1,1,0,1,1,0,0,0,0,0,0,0,1,0,0,0,0])
 else if k = 7 ∧ s = 12 then (tb [0,0,1,0,0,1,1,0,1,0,0,1,0,0,0,0,1,0,0],tb [1,1,0,1,0,0,0,1,0,0,0,0,0,0,1,0,0,0,0])
 else if k = 8 ∧ s = 12 then (tb [0,0,0,0,0,0,0,0,0,0,0,0,0,0,0,1,1,0,0,0,0,1,0,0],tb [0,0,0,1,1,0,1,1,1,0,1,1,0,0,0,0,0,0,0,1,0,0,0,0])
 else if k = 7 ∧ s = 17 then (tb [0,0,1,0,0,1,1,0,1,1,0,1,0,0,0,0,1,0,0],tb [1,1,0,1,0,0,0,1,0,0,0,0,0,0,1,0,0,0,0])
 else if k = 8 ∧ s = 17 then (tb [0,0,1,0,0,1,1,0,1,0,0,0,0,1,0,0],tb [1,1,0,1,1,0,0,0,0,0,0,1,0,0,0,0])
 else if k = 7 ∧ s = 18 then (tb [0,0,1,0,0,1,1,1,0,0,0,1,0,0,0,0,1,0,0],tb [1,1,0,1,0,0,0,1,0,0,0,0,0,0,1,0,0,0,0])
 else if k = 8 ∧ s = 18 then (tb [0,0,0,1,0,0,1,1,0,1,0,0,0,0,1,0,0],tb [0,1,1,0,1,1,0,0,0,0,0,0,1,0,0,0,0])
 else if k = 7 ∧ s = 19 then (tb [0,0,1,0,0,1,1,1,0,1,0,1,0,0,0,0,1,0,0],tb [1,1,0,1,0,0,0,1,0,0,0,0,0,0,1,0,0,0,0])
 else if k = 8 ∧ s = 19 then (tb [0,0,0,0,1,0,0,1,1,0,1,0,0,0,0,1,0,0],tb [0,0,1,1,0,1,1,0,0,0,0,0,0,1,0,0,0,0])
 else if k = 7 ∧ s = 20 then (tb [0,0,1,0,0,1,1,1,1,0,0,1,0,0,0,0,1,0,0],tb [1,1,0,1,0,0,0,1,0,0,0,0,0,0,1,0,0,0,0])
 else if k = 8 ∧ s = 20 then (tb [0,0,0,0,0,1,0,0,1,1,0,1,0,0,0,0,1,0,0],tb [0,0,0,1,1,0,1,1,0,0,0,0,0,0,1,0,0,0,0])
 else if k = 7 ∧ s = 25 then (tb [0,0,1,0,0,1,1,1,1,1,0,1,0,0,0,0,1,0,0],tb [1,1,0,1,0,0,0,1,0,0,0,0,0,0,1,0,0,0,0])
 else if k = 8 ∧ s = 25 then (tb [0,0,0,0,0,0,0,0,0,0,0,0,0,0,0,0,1,1,0,0,0,0,1,0,0],tb [0,0,0,0,1,1,0,1,1,1,0,1,1,0,0,0,0,0,0,0,1,0,0,0,0])
 else ([],[])
def foldT : List Mv → List UInt8 → List UInt8 → Option (List UInt8 × List UInt8)
 | [],A,B => some (A,B)
 | m :: l,A,B => match decide (A.length + (pulA m.1 m.2).1.length ≤ 262144) with
  | false => none
  | true => foldT l (A ++ (pulA m.1 m.2).1) (B ++ (pulA m.1 m.2).2)
def trainF (A B : List UInt8) (e : Int) : FV:=.tup [.agg [.str A,.str B],.int .i64 e]
def trainA (ms : List Mv) : FV:=match ms.all fun m => rgtA m.1 m.2 with
 | false => trainF [] [] 80
 | true => match foldT ms [] [] with
  | none => trainF [] [] 83
  | some p => trainF p.1 p.2 0
def pulR (k s : Int) : FV:=match rgtA k s with
 | false => trainF [] [] 80
 | true => trainF (pulA k s).1 (pulA k s).2 0
def pulOv : List FV → Option FV
 | [.agg [.int .i64 k,.int .i64 s]] => some (pulR k s)
 | _ => none
def trainOv : List FV → Option FV
 | [l] => bindO (asRows l) fun r => bindO (mvsF r) fun ms => gB (decide (ms.length ≤ 100000)) (some (trainA ms))
 | _ => none
def repL (s : List UInt8) : Nat → List UInt8
 | 0 => []
 | n + 1 => s ++ repL s n
def repOv : List FV → Option FV
 | [.str s,.int .i64 c] => gB (decide (0 ≤ c ∧ c ≤ 1000000 ∧ (s.length : Int) * c ≤ 100000000)) (some (.str (repL s c.toNat)))
 | _ => none
def goodT (p : List UInt8 × List UInt8) : Prop:=p.1.length ≤ 128 ∧ p.2.length = p.1.length
theorem good_ite {c : Prop} [Decidable c] {p q : List UInt8 × List UInt8} (h : goodT p) (k : goodT q) : goodT (if c then p else q):=by split <;> assumption
theorem pul_len (k s : Int) : goodT (pulA k s):=by
 unfold pulA
 repeat' (first | exact ⟨by decide,by decide⟩ | apply good_ite)
def catA (ms : List Mv) : List UInt8:=ms.flatMap fun m => (pulA m.1 m.2).1
def catB (ms : List Mv) : List UInt8:=ms.flatMap fun m => (pulA m.1 m.2).2
theorem foldT_eq : ∀ (ms : List Mv) (A B : List UInt8),A.length + 128 * ms.length ≤ 262144 → foldT ms A B = some (A ++ catA ms,B ++ catB ms)
 | [],A,B,_ => by simp [foldT,catA,catB]
 | m :: l,A,B,h => by
  have:=(pul_len m.1 m.2).1
  simp only [List.length_cons] at h
  simp only [foldT,decide_eq_true (show A.length + (pulA m.1 m.2).1.length ≤ 262144 by omega)]
  rw [foldT_eq l _ _ (by rw [List.length_append];omega)]
  simp [catA,catB]
end Go.Proofs.YtpffkpaiihcffaaGreatDoor.VM
end
