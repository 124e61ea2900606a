/- Steps of the proof: Cells by place: the last one of each place, no state 0, in order. Plain lists; The document's way to the same list: a stable sort, and of equal places the last. Plain lists; The arm's cells: the program's list and the document's, of the same cells. Plain lists; What cells.Canon (of the rule R29) and arm.read answer, as functions of frozen values; A field's columns, and the same read off its list of cells. Plain lists; The moves that build a field, and those that clear it: the program's order and the document's. Plain lists; What arm.World answers, as a function of frozen values; The program's world and the document's come to the same. Plain lists; What a world's cells keep: no place twice, near places, states that there are, numbers of cells. Plain lists; The trains of the moves; the train of a list. Plain lists; What cells.Canon and arm.World answer where the list that comes back is the caller's own. -/
import Derived.Test.YtpffkpaiihcffaaGreatDoorVM
section
namespace Go.Proofs.YtpffkpaiihcffaaGreatDoor.VM
abbrev Cel:=Int × Int × Int
def befC (a b : Cel) : Bool:=decide (a.2.1 < b.2.1) || (decide (a.2.1 = b.2.1) && decide (a.1 < b.1))
def smC (a b : Cel) : Bool:=decide (a.1 = b.1) && decide (a.2.1 = b.2.1)
def putC (L : List Cel) (c : Cel) : List Cel:=c :: L.filter fun d => !smC d c
def lastC (l : List Cel) : List Cel:=l.foldl putC []
def insC (c : Cel) : List Cel → List Cel
 | [] => [c]
 | d :: l => match befC c d with | true => c :: d :: l | false => d :: insC c l
def sortC : List Cel → List Cel
 | [] => []
 | c :: l => insC c (sortC l)
def nzC (c : Cel) : Bool:=!decide (c.2.2 = 0)
def canonC (l : List Cel) : List Cel:=sortC ((lastC l).filter nzC)
theorem smC_iff {a b : Cel} : smC a b = true ↔ a.1 = b.1 ∧ a.2.1 = b.2.1:=by simp [smC]
theorem smC_no {a b : Cel} : smC a b = false ↔ ¬ (a.1 = b.1 ∧ a.2.1 = b.2.1):=by rw [← smC_iff];simp
theorem befC_iff {a b : Cel} : befC a b = true ↔ a.2.1 < b.2.1 ∨ (a.2.1 = b.2.1 ∧ a.1 < b.1):=by simp [befC]
theorem befC_no {a b : Cel} : befC a b = false ↔ ¬ (a.2.1 < b.2.1 ∨ (a.2.1 = b.2.1 ∧ a.1 < b.1)):=by rw [← befC_iff];simp
theorem befC_trans {a b c : Cel} (h : befC a b = true) (k : befC b c = true) : befC a c = true:=by rw [befC_iff] at *;omega
theorem befC_irr (a : Cel) : befC a a = false:=by rw [befC_no];omega
abbrev OrdC (l : List Cel) : Prop:=l.Pairwise fun a b => befC a b = true
abbrev ApartC (l : List Cel) : Prop:=l.Pairwise fun a b => smC a b = false
theorem ord_unique : ∀ {l k : List Cel},OrdC l → OrdC k → (∀ c,c ∈ l ↔ c ∈ k) → l = k
 | [],[],_,_,_ => rfl
 | [],b :: k,_,_,h => by have:=(h b).2 (by simp);simp at this
 | a :: l,[],_,_,h => by have:=(h a).1 (by simp);simp at this
 | a :: l,b :: k,hl,hk,h => by
  obtain ⟨h1,h2⟩:=List.pairwise_cons.1 hl
  obtain ⟨k1,k2⟩:=List.pairwise_cons.1 hk
  have e : a = b:=by
   rcases List.mem_cons.1 ((h a).1 (by simp)) with e | e
   ·exact e
   ·rcases List.mem_cons.1 ((h b).2 (by simp)) with e' | e'
    ·exact e'.symm
    ·have:=befC_trans (h1 b e') (k1 a e)
     rw [befC_irr] at this;cases this
  subst e
  congr 1
  refine ord_unique h2 k2 fun c => ⟨fun hc => ?_,fun hc => ?_⟩
  ·rcases List.mem_cons.1 ((h c).1 (List.mem_cons_of_mem _ hc)) with e | e
   ·subst e;have:=h1 c hc;rw [befC_irr] at this;cases this
   ·exact e
  ·rcases List.mem_cons.1 ((h c).2 (List.mem_cons_of_mem _ hc)) with e | e
   ·subst e;have:=k1 c hc;rw [befC_irr] at this;cases this
   ·exact e
theorem insC_mem {c d : Cel} : ∀ {l : List Cel},d ∈ insC c l ↔ d = c ∨ d ∈ l
 | [] => by simp [insC]
 | e :: l => by
  simp only [insC]
  split
  ·simp
  ·simp only [List.mem_cons,insC_mem]
   constructor
   ·rintro (h | h | h) <;> simp [h]
   ·rintro (h | h | h) <;> simp [h]
theorem sortC_mem {d : Cel} : ∀ {l : List Cel},d ∈ sortC l ↔ d ∈ l
 | [] => by simp [sortC]
 | c :: l => by simp only [sortC,insC_mem,sortC_mem,List.mem_cons]
theorem insC_len (c : Cel) : ∀ l : List Cel,(insC c l).length = l.length + 1
 | [] => rfl
 | d :: l => by simp only [insC];split <;> simp [insC_len c l]
theorem sortC_len : ∀ l : List Cel,(sortC l).length = l.length
 | [] => rfl
 | c :: l => by simp [sortC,insC_len,sortC_len l]
theorem insC_ord {c : Cel} : ∀ {l : List Cel},OrdC l → (∀ d ∈ l,smC c d = false) → OrdC (insC c l)
 | [],_,_ => by simp [insC]
 | d :: l,h,k => by
  obtain ⟨h1,h2⟩:=List.pairwise_cons.1 h
  simp only [insC]
  split
  ·rename_i hb
   exact List.pairwise_cons.2 ⟨fun e he => by
    rcases List.mem_cons.1 he with rfl | he
    ·exact hb
    ·exact befC_trans hb (h1 e he),h⟩
  ·rename_i hb
   refine List.pairwise_cons.2 ⟨fun e he => ?_,insC_ord h2 fun e he => k e (List.mem_cons_of_mem _ he)⟩
   rcases insC_mem.1 he with rfl | he
   ·have:=k d (by simp)
    rw [smC_no] at this;rw [befC_no] at hb;rw [befC_iff];omega
   ·exact h1 e he
theorem smC_symm {a b : Cel} (h : smC a b = false) : smC b a = false:=by rw [smC_no] at *;omega
theorem sortC_ord : ∀ {l : List Cel},ApartC l → OrdC (sortC l)
 | [],_ => by simp [sortC]
 | c :: l,h => by
  obtain ⟨h1,h2⟩:=List.pairwise_cons.1 h
  exact insC_ord (sortC_ord h2) fun d hd => h1 d (sortC_mem.1 hd)
theorem ord_apart {l : List Cel} (h : OrdC l) : ApartC l:=h.imp fun {a b} h => by rw [befC_iff] at h;rw [smC_no];omega
theorem sortC_eq {l k : List Cel} (hl : ApartC l) (hk : OrdC k) (h : ∀ c,c ∈ k ↔ c ∈ l) : k = sortC l :=
 ord_unique hk (sortC_ord hl) fun c => by rw [sortC_mem];exact h c
theorem putC_apart {L : List Cel} (h : ApartC L) (c : Cel) : ApartC (putC L c) :=
 List.pairwise_cons.2 ⟨fun d hd => by
  have:=(List.mem_filter.1 hd).2
  simp only [Bool.not_eq_true'] at this
  exact smC_symm this,h.filter _⟩
theorem foldC_apart : ∀ (l : List Cel) {L : List Cel},ApartC L → ApartC (l.foldl putC L)
 | [],_,h => h
 | c :: l,_,h => foldC_apart l (putC_apart h c)
theorem lastC_apart (l : List Cel) : ApartC (lastC l):=foldC_apart l List.Pairwise.nil
theorem canonC_ord (l : List Cel) : OrdC (canonC l):=sortC_ord ((lastC_apart l).filter _)
theorem foldC_mem : ∀ (l : List Cel) {L : List Cel} (_ : ApartC L) (c : Cel),c ∈ l.foldl putC L ↔ (l.filter fun d => smC d c).getLast? = some c ∨ ((l.filter fun d => smC d c) = [] ∧ c ∈ L)
 | [],L,_,c => by simp
 | d :: l,L,hL,c => by
  simp only [List.foldl_cons]
  rw [foldC_mem l (putC_apart hL d) c]
  cases hd : smC d c with
  | true =>
   rw [List.filter_cons_of_pos (by exact hd)]
   cases hf : l.filter fun d => smC d c with
   | nil =>
    simp only [List.getLast?_nil,reduceCtorEq,true_and,false_or,List.getLast?_singleton,Option.some.injEq,List.cons_ne_nil,false_and,or_false]
    constructor
    ·intro hm
     rcases List.mem_cons.1 hm with e | hm
     ·exact e.symm
     ·have:=(List.mem_filter.1 hm).2
      rw [smC_iff] at hd
      simp only [Bool.not_eq_true',smC_no] at this
      omega
    ·intro e;subst e;exact List.mem_cons_self
   | cons x xs => simp [List.getLast?_cons_cons]
  | false =>
   rw [List.filter_cons_of_neg (by simp [hd])]
   have : c ∈ putC L d ↔ c ∈ L:=by
    constructor
    ·intro hm
     rcases List.mem_cons.1 hm with e | hm
     ·subst e;rw [smC_no] at hd;omega
     ·exact (List.mem_filter.1 hm).1
    ·intro hm
     exact List.mem_cons_of_mem _ (List.mem_filter.2 ⟨hm,by rw [smC_symm hd];rfl⟩)
   rw [this]
theorem lastC_mem {l : List Cel} {c : Cel} : c ∈ lastC l ↔ (l.filter fun d => smC d c).getLast? = some c:=by
 rw [lastC,foldC_mem l List.Pairwise.nil c];simp
theorem canonC_mem {l : List Cel} {c : Cel} : c ∈ canonC l ↔ (l.filter fun d => smC d c).getLast? = some c ∧ ¬ c.2.2 = 0:=by
 unfold canonC
 rw [sortC_mem,List.mem_filter,lastC_mem]
 simp [nzC]
theorem apart_mem {l : List Cel} (h : ApartC l) {c : Cel} : (l.filter fun d => smC d c).getLast? = some c ↔ c ∈ l:=by
 constructor
 ·intro hc
  exact (List.mem_filter.1 (List.mem_of_getLast? hc)).1
 ·intro hc
  have : l.filter (fun d => smC d c) = [c]:=by
   induction l with
   | nil => cases hc
   | cons a l ih =>
    obtain ⟨h1,h2⟩:=List.pairwise_cons.1 h
    rcases List.mem_cons.1 hc with rfl | hc
    ·rw [List.filter_cons_of_pos (by rw [smC_iff];exact ⟨rfl,rfl⟩)]
     congr 1
     rw [List.filter_eq_nil_iff]
     intro d hd
     rw [smC_symm (h1 d hd)];simp
    ·rw [List.filter_cons_of_neg (by rw [h1 c hc];simp)]
     exact ih h2 hc
  rw [this];rfl
theorem canonC_apart {l : List Cel} (h : ApartC l) {c : Cel} : c ∈ canonC l ↔ c ∈ l ∧ ¬ c.2.2 = 0:=by rw [canonC_mem,apart_mem h]
theorem canonC_same {l k : List Cel} (hl : ApartC l) (hk : ApartC k) (h : ∀ c,c ∈ l ↔ c ∈ k) : canonC l = canonC k :=
 ord_unique (canonC_ord l) (canonC_ord k) fun c => by rw [canonC_apart hl,canonC_apart hk,h]
theorem putC_len (L : List Cel) (c : Cel) : (putC L c).length ≤ L.length + 1:=by simp [putC];exact List.length_filter_le _ _
theorem foldC_len : ∀ (l L : List Cel),(l.foldl putC L).length ≤ L.length + l.length
 | [],L => by simp
 | c :: l,L => by have:=foldC_len l (putC L c);have:=putC_len L c;simp at *;omega
theorem lastC_len (l : List Cel) : (lastC l).length ≤ l.length:=by have:=foldC_len l [];simpa [lastC] using this
end Go.Proofs.YtpffkpaiihcffaaGreatDoor.VM
end
section
namespace Go.Proofs.YtpffkpaiihcffaaGreatDoor.VM
abbrev OrdW (l : List Cel) : Prop:=l.Pairwise fun a b => befC b a = false
def mergeC : List Cel → List Cel → List Cel
 | [],b => b
 | x :: a,[] => x :: a
 | x :: a,y :: b => match befC y x with | true => y :: mergeC (x :: a) b | false => x :: mergeC a (y :: b)
 termination_by a b => a.length + b.length
theorem mergeC_nil (a : List Cel) : mergeC a [] = a:=by cases a <;> simp [mergeC]
theorem mergeC_mem {c : Cel} : ∀ {a b : List Cel},c ∈ mergeC a b ↔ c ∈ a ∨ c ∈ b
 | [],b => by simp [mergeC]
 | x :: a,[] => by simp [mergeC]
 | x :: a,y :: b => by
  rw [mergeC]
  split
  ·simp only [List.mem_cons,mergeC_mem (a:=x :: a) (b:=b)]
   constructor
   ·rintro (h | (h | h) | h) <;> simp [h]
   ·rintro ((h | h) | (h | h)) <;> simp [h]
  ·simp only [List.mem_cons,mergeC_mem (a:=a) (b:=y :: b)]
   constructor
   ·rintro (h | h | (h | h)) <;> simp [h]
   ·rintro ((h | h) | (h | h)) <;> simp [h]
 termination_by a b => a.length + b.length
theorem befC_weak {a b c : Cel} (h : befC b a = false) (k : befC c b = false) : befC c a = false:=by rw [befC_no] at *;omega
theorem mergeC_ord : ∀ {a b : List Cel},OrdW a → OrdW b → OrdW (mergeC a b)
 | [],b,_,h => by simpa [mergeC] using h
 | x :: a,[],h,_ => by simpa [mergeC] using h
 | x :: a,y :: b,ha,hb => by
  obtain ⟨a1,a2⟩:=List.pairwise_cons.1 ha
  obtain ⟨b1,b2⟩:=List.pairwise_cons.1 hb
  rw [mergeC]
  split
  ·rename_i h
   refine List.pairwise_cons.2 ⟨fun c hc => ?_,mergeC_ord ha b2⟩
   have hyx : befC x y = false:=by rw [befC_iff] at h;rw [befC_no];omega
   rcases mergeC_mem.1 hc with hc | hc
   ·rcases List.mem_cons.1 hc with rfl | hc
    ·exact hyx
    ·exact befC_weak hyx (a1 c hc)
   ·exact b1 c hc
  ·rename_i h
   refine List.pairwise_cons.2 ⟨fun c hc => ?_,mergeC_ord a2 hb⟩
   rcases mergeC_mem.1 hc with hc | hc
   ·exact a1 c hc
   ·rcases List.mem_cons.1 hc with rfl | hc
    ·exact h
    ·exact befC_weak h (b1 c hc)
 termination_by a b => a.length + b.length
theorem mergeC_at (p : Cel) : ∀ {a b : List Cel},OrdW a → (mergeC a b).filter (fun d => smC d p) = a.filter (fun d => smC d p) ++ b.filter fun d => smC d p
 | [],b,_ => by simp [mergeC]
 | x :: a,[],_ => by simp [mergeC]
 | x :: a,y :: b,ha => by
  obtain ⟨a1,a2⟩:=List.pairwise_cons.1 ha
  rw [mergeC]
  split
  ·rename_i h
   cases hy : smC y p with
   | true =>
    rw [List.filter_cons_of_pos (by exact hy),mergeC_at p ha]
    have : (x :: a).filter (fun d => smC d p) = []:=by
     rw [List.filter_eq_nil_iff]
     intro d hd
     have hd' : befC d x = false:=by
      rcases List.mem_cons.1 hd with rfl | hd
      ·exact befC_irr _
      ·exact a1 d hd
     rw [smC_iff] at hy ⊢
     rw [befC_iff] at h
     rw [befC_no] at hd'
     omega
    rw [this,List.filter_cons_of_pos (a:=y) (l:=b) (by exact hy)]
    rfl
   | false => rw [List.filter_cons_of_neg (by simp [hy]),mergeC_at p ha,List.filter_cons_of_neg (a:=y) (l:=b) (p:=fun d => smC d p) (by simp [hy])]
  ·cases hx : smC x p with
   | true => rw [List.filter_cons_of_pos (by exact hx),mergeC_at p a2,List.filter_cons_of_pos (a:=x) (l:=a) (by exact hx)];rfl
   | false => rw [List.filter_cons_of_neg (by simp [hx]),mergeC_at p a2,List.filter_cons_of_neg (a:=x) (l:=a) (p:=fun d => smC d p) (by simp [hx])]
 termination_by a b => a.length + b.length
theorem mergeC_len : ∀ (a b : List Cel),(mergeC a b).length = a.length + b.length
 | [],b => by simp [mergeC]
 | x :: a,[] => by simp [mergeC]
 | x :: a,y :: b => by
  rw [mergeC]
  split
  ·simp only [List.length_cons,mergeC_len (x :: a) b];omega
  ·simp only [List.length_cons,mergeC_len a (y :: b)];omega
 termination_by a b => a.length + b.length
structure Srt (l s : List Cel) : Prop where
 ord : OrdW s
 at_ : ∀ p,s.filter (fun d => smC d p) = l.filter fun d => smC d p
 len : s.length = l.length
theorem Srt.small {l : List Cel} (h : l.length < 2) : Srt l l:=by
 refine ⟨?_,fun _ => rfl,rfl⟩
 match l,h with
 | [],_ => exact List.Pairwise.nil
 | [a],_ => simp
theorem Srt.merge {l s k t : List Cel} (h : Srt l s) (g : Srt k t) : Srt (l ++ k) (mergeC s t) :=
 ⟨mergeC_ord h.ord g.ord,fun p => by rw [mergeC_at p h.ord,h.at_,g.at_,List.filter_append],by rw [mergeC_len,h.len,g.len,List.length_append]⟩
def lastsW : List Cel → List Cel
 | [] => []
 | [c] => match nzC c with | true => [c] | false => []
 | c :: d :: l => match smC d c with | true => lastsW (d :: l) | false => (match nzC c with | true => c :: lastsW (d :: l) | false => lastsW (d :: l))
theorem lastsW_sub : ∀ {s : List Cel} {c : Cel},c ∈ lastsW s → c ∈ s
 | [],c,h => by simp [lastsW] at h
 | [a],c,h => by
  simp only [lastsW] at h
  split at h
  ·exact h
  ·cases h
 | a :: d :: l,c,h => by
  simp only [lastsW] at h
  split at h
  ·exact List.mem_cons_of_mem _ (lastsW_sub h)
  ·split at h
   ·rcases List.mem_cons.1 h with rfl | h
    ·exact List.mem_cons_self
    ·exact List.mem_cons_of_mem _ (lastsW_sub h)
   ·exact List.mem_cons_of_mem _ (lastsW_sub h)
theorem head_lt {a d c : Cel} {l : List Cel} (h : OrdW (a :: d :: l)) (hs : smC d a = false) (hc : c ∈ d :: l) : befC a c = true:=by
 obtain ⟨h1,h2⟩:=List.pairwise_cons.1 h
 have k1:=h1 d (by simp)
 have : befC c d = false:=by
  rcases List.mem_cons.1 hc with rfl | hc
  ·exact befC_irr _
  ·exact (List.pairwise_cons.1 h2).1 c hc
 rw [smC_no] at hs
 rw [befC_no] at this k1
 rw [befC_iff]
 omega
theorem lastsW_ord : ∀ {s : List Cel},OrdW s → OrdC (lastsW s)
 | [],_ => by simp [lastsW]
 | [a],_ => by
  simp only [lastsW]
  split <;> simp
 | a :: d :: l,h => by
  have h2:=(List.pairwise_cons.1 h).2
  simp only [lastsW]
  split
  ·exact lastsW_ord h2
  ·rename_i hs
   split
   ·exact List.pairwise_cons.2 ⟨fun c hc => head_lt h hs (lastsW_sub hc),lastsW_ord h2⟩
   ·exact lastsW_ord h2
theorem lastsW_mem : ∀ {s : List Cel} {c : Cel},OrdW s → (c ∈ lastsW s ↔ (s.filter fun d => smC d c).getLast? = some c ∧ ¬ c.2.2 = 0)
 | [],c,_ => by simp [lastsW]
 | [a],c,_ => by
  have e : smC a a = true:=by rw [smC_iff];exact ⟨rfl,rfl⟩
  simp only [lastsW]
  cases hn : nzC a with
  | true =>
   simp only [List.mem_singleton]
   constructor
   ·rintro rfl
    exact ⟨by simp [List.filter_cons,e],by simpa [nzC] using hn⟩
   ·rintro ⟨h,_⟩
    have:=(List.mem_filter.1 (List.mem_of_getLast? h)).1
    simpa using this
  | false =>
   simp only [List.not_mem_nil,false_iff,not_and]
   intro h
   have:=(List.mem_filter.1 (List.mem_of_getLast? h)).1
   simp only [List.mem_singleton] at this
   subst this
   simpa [nzC] using hn
 | a :: d :: l,c,h => by
  obtain ⟨h1,h2⟩:=List.pairwise_cons.1 h
  simp only [lastsW]
  have ea : smC a a = true:=by rw [smC_iff];exact ⟨rfl,rfl⟩
  cases hs : smC d a with
  | true =>
   simp only
   rw [lastsW_mem h2]
   cases hac : smC a c with
   | true =>
    have hdc : smC d c = true:=by rw [smC_iff] at *;omega
    rw [List.filter_cons_of_pos (l:=d :: l) (by exact hac),List.filter_cons_of_pos (by exact hdc),List.getLast?_cons_cons]
   | false => rw [List.filter_cons_of_neg (l:=d :: l) (by simp [hac])]
  | false =>
   have hnone : c = a → (d :: l).filter (fun d => smC d c) = []:=by
    rintro rfl
    rw [List.filter_eq_nil_iff]
    intro e he
    have:=head_lt h hs he
    rw [befC_iff] at this
    rw [smC_iff]
    omega
   have key : c ∈ lastsW (d :: l) ↔ ((a :: d :: l).filter fun d => smC d c).getLast? = some c ∧ ¬ c.2.2 = 0 ∧ c ≠ a:=by
    rw [lastsW_mem h2]
    cases hac : smC a c with
    | true =>
     rw [List.filter_cons_of_pos (l:=d :: l) (by exact hac)]
     have hn : (d :: l).filter (fun d => smC d c) = []:=by
      rw [List.filter_eq_nil_iff]
      intro e he
      have:=head_lt h hs he
      rw [befC_iff] at this
      rw [smC_iff] at *
      omega
     rw [hn]
     simp
     intro h;subst h;simp
    | false =>
     rw [List.filter_cons_of_neg (l:=d :: l) (by simp [hac])]
     constructor
     ·rintro ⟨q1,q2⟩
      exact ⟨q1,q2,fun e => by subst e;rw [ea] at hac;cases hac⟩
     ·rintro ⟨q1,q2,_⟩;exact ⟨q1,q2⟩
   cases hn : nzC a with
   | true =>
    simp only [List.mem_cons,key]
    constructor
    ·rintro (rfl | ⟨q1,q2,_⟩)
     ·refine ⟨?_,by simpa [nzC] using hn⟩
      rw [List.filter_cons_of_pos (l:=d :: l) (by exact ea),hnone rfl];rfl
     ·exact ⟨q1,q2⟩
    ·rintro ⟨q1,q2⟩
     by_cases e : c = a
     ·exact .inl e
     ·exact .inr ⟨q1,q2,e⟩
   | false =>
    simp only [key]
    constructor
    ·rintro ⟨q1,q2,_⟩;exact ⟨q1,q2⟩
    ·rintro ⟨q1,q2⟩
     refine ⟨q1,q2,fun e => ?_⟩
     subst e
     exact q2 (by simpa [nzC] using hn)
theorem Srt.canon {l s : List Cel} (h : Srt l s) : lastsW s = canonC l :=
 ord_unique (lastsW_ord h.ord) (canonC_ord l) fun c => by rw [lastsW_mem h.ord,canonC_mem,h.at_]
end Go.Proofs.YtpffkpaiihcffaaGreatDoor.VM
end
section
namespace Go.Proofs.YtpffkpaiihcffaaGreatDoor.VM
def upA (h : Int) (V : Nat) : List Cel:=(List.range (V + 2)).flatMap fun (i : Nat) => (if (i : Int) - V ≤ 0 then [(h + 1,(i : Int) - V,10)] else []) ++ [(h + 2,(i : Int) - V,18)]
def rowA (n : Nat) : List Cel:=(List.range n).map fun (x : Nat) => ((x : Int),0,9)
def rowB (n : Nat) : List Cel:=(List.range n).map fun (x : Nat) => ((x : Int),1,17)
def wiresP (h : Nat) : Option Nat → List Cel
 | none => rowA (h + 1) ++ rowB (h + 1)
 | some V => upA h V ++ (rowA (h + 1) ++ rowB (h + 2))
def rowD (n : Nat) : List Cel:=(List.range n).flatMap fun (x : Nat) => [((x : Int),0,9),((x : Int),1,17)]
def upD (h : Int) (n : Nat) : List Cel:=(List.range n).flatMap fun (y : Nat) => [(h + 1,-(y : Int),10),(h + 2,-(y : Int),18)]
def wiresD (h : Nat) : Option Nat → List Cel
 | none => rowD (h + 1)
 | some V => rowD (h + 1) ++ ([((h : Int) + 1,1,17),((h : Int) + 2,1,18)] ++ upD h (V + 1))
theorem rowA_mem {n : Nat} {c : Cel} : c ∈ rowA n ↔ 0 ≤ c.1 ∧ c.1 < n ∧ c.2 = (0,9):=by
 obtain ⟨x,y,s⟩:=c
 simp only [rowA,List.mem_map,List.mem_range,Prod.mk.injEq]
 constructor
 ·rintro ⟨i,hi,rfl,rfl,rfl⟩;exact ⟨by omega,by omega,rfl,rfl⟩
 ·rintro ⟨h1,h2,rfl,rfl⟩;exact ⟨x.toNat,by omega,by omega,rfl,rfl⟩
theorem rowB_mem {n : Nat} {c : Cel} : c ∈ rowB n ↔ 0 ≤ c.1 ∧ c.1 < n ∧ c.2 = (1,17):=by
 obtain ⟨x,y,s⟩:=c
 simp only [rowB,List.mem_map,List.mem_range,Prod.mk.injEq]
 constructor
 ·rintro ⟨i,hi,rfl,rfl,rfl⟩;exact ⟨by omega,by omega,rfl,rfl⟩
 ·rintro ⟨h1,h2,rfl,rfl⟩;exact ⟨x.toNat,by omega,by omega,rfl,rfl⟩
theorem rowD_mem {n : Nat} {c : Cel} : c ∈ rowD n ↔ 0 ≤ c.1 ∧ c.1 < n ∧ (c.2 = (0,9) ∨ c.2 = (1,17)):=by
 obtain ⟨x,y,s⟩:=c
 simp only [rowD,List.mem_flatMap,List.mem_range,List.mem_cons,List.not_mem_nil,or_false,Prod.mk.injEq]
 constructor
 ·rintro ⟨i,hi,⟨rfl,rfl,rfl⟩ | ⟨rfl,rfl,rfl⟩⟩
  ·exact ⟨by omega,by omega,.inl ⟨rfl,rfl⟩⟩
  ·exact ⟨by omega,by omega,.inr ⟨rfl,rfl⟩⟩
 ·rintro ⟨h1,h2,⟨rfl,rfl⟩ | ⟨rfl,rfl⟩⟩
  ·exact ⟨x.toNat,by omega,.inl ⟨by omega,rfl,rfl⟩⟩
  ·exact ⟨x.toNat,by omega,.inr ⟨by omega,rfl,rfl⟩⟩
theorem upA_mem {h : Int} {V : Nat} {c : Cel} : c ∈ upA h V ↔ (c.1 = h + 1 ∧ -(V : Int) ≤ c.2.1 ∧ c.2.1 ≤ 0 ∧ c.2.2 = 10) ∨ (c.1 = h + 2 ∧ -(V : Int) ≤ c.2.1 ∧ c.2.1 ≤ 1 ∧ c.2.2 = 18):=by
 obtain ⟨x,y,s⟩:=c
 simp only [upA,List.mem_flatMap,List.mem_range,List.mem_append,List.mem_singleton,Prod.mk.injEq]
 constructor
 ·rintro ⟨i,hi,hm | ⟨rfl,rfl,rfl⟩⟩
  ·split at hm
   ·simp only [List.mem_singleton,Prod.mk.injEq] at hm
    obtain ⟨rfl,rfl,rfl⟩:=hm
    exact .inl ⟨rfl,by omega,by omega,rfl⟩
   ·cases hm
  ·exact .inr ⟨rfl,by omega,by omega,rfl⟩
 ·rintro (⟨rfl,h1,h2,rfl⟩ | ⟨rfl,h1,h2,rfl⟩)
  ·refine ⟨(y + V).toNat,by omega,.inl ?_⟩
   rw [if_pos (by omega)]
   simp only [List.mem_singleton,Prod.mk.injEq,and_true,true_and];omega
  ·exact ⟨(y + V).toNat,by omega,.inr ⟨rfl,by omega,rfl⟩⟩
theorem upD_mem {h : Int} {n : Nat} {c : Cel} : c ∈ upD h n ↔ -(n : Int) < c.2.1 ∧ c.2.1 ≤ 0 ∧ ((c.1 = h + 1 ∧ c.2.2 = 10) ∨ (c.1 = h + 2 ∧ c.2.2 = 18)):=by
 obtain ⟨x,y,s⟩:=c
 simp only [upD,List.mem_flatMap,List.mem_range,List.mem_cons,List.not_mem_nil,or_false,Prod.mk.injEq]
 constructor
 ·rintro ⟨i,hi,⟨rfl,rfl,rfl⟩ | ⟨rfl,rfl,rfl⟩⟩
  ·exact ⟨by omega,by omega,.inl ⟨rfl,rfl⟩⟩
  ·exact ⟨by omega,by omega,.inr ⟨rfl,rfl⟩⟩
 ·rintro ⟨h1,h2,⟨rfl,rfl⟩ | ⟨rfl,rfl⟩⟩
  ·exact ⟨(-y).toNat,by omega,.inl ⟨rfl,by omega,rfl⟩⟩
  ·exact ⟨(-y).toNat,by omega,.inr ⟨rfl,by omega,rfl⟩⟩
theorem rowA_apart (n : Nat) : ApartC (rowA n):=List.pairwise_map.2 (List.pairwise_lt_range.imp fun {a b} h => by rw [smC_no];simp only;omega)
theorem rowB_apart (n : Nat) : ApartC (rowB n):=List.pairwise_map.2 (List.pairwise_lt_range.imp fun {a b} h => by rw [smC_no];simp only;omega)
theorem rowD_apart (n : Nat) : ApartC (rowD n):=List.pairwise_flatMap.2 ⟨fun a _ => by simp [smC],List.pairwise_lt_range.imp fun {a b} h x hx y hy => by
 simp only [List.mem_cons,List.not_mem_nil,or_false] at hx hy
 rw [smC_no]
 rcases hx with rfl | rfl <;> rcases hy with rfl | rfl <;> simp only <;> omega⟩
theorem upD_apart (h : Int) (n : Nat) : ApartC (upD h n):=List.pairwise_flatMap.2 ⟨fun a _ => by
 refine List.pairwise_cons.2 ⟨fun b hb => ?_,by simp⟩
 simp only [List.mem_singleton] at hb
 subst hb;rw [smC_no];simp only;omega,List.pairwise_lt_range.imp fun {a b} h x hx y hy => by
 simp only [List.mem_cons,List.not_mem_nil,or_false] at hx hy
 rw [smC_no]
 rcases hx with rfl | rfl <;> rcases hy with rfl | rfl <;> simp only <;> omega⟩
theorem upA_apart (hh : Int) (V : Nat) : ApartC (upA hh V):=List.pairwise_flatMap.2 ⟨fun a _ => by
 split
 ·refine List.pairwise_cons.2 ⟨fun b hb => ?_,by simp⟩
  simp at hb
  subst hb;rw [smC_no];simp only;omega
 ·simp,List.pairwise_lt_range.imp fun {a b} h x hx y hy => by
 have e : ∀ {i : Nat} {c : Cel},c ∈ ((if (i : Int) - V ≤ 0 then [(hh + 1,(i : Int) - V,10)] else []) ++ [(hh + 2,(i : Int) - V,18)] : List Cel) → c.2.1 = (i : Int) - V:=by
  intro i c hc
  rcases List.mem_append.1 hc with hc | hc
  ·split at hc
   ·simp only [List.mem_singleton] at hc;subst hc;rfl
   ·cases hc
  ·simp only [List.mem_singleton] at hc;subst hc;rfl
 have h1:=e hx
 have h2:=e hy
 rw [smC_no];omega⟩
theorem wires_same (h : Nat) (v : Option Nat) : ∀ c,c ∈ wiresP h v ↔ c ∈ wiresD h v:=by
 intro c
 obtain ⟨x,y,s⟩:=c
 cases v with
 | none =>
  simp only [wiresP,wiresD,List.mem_append,rowA_mem,rowB_mem,rowD_mem,Prod.mk.injEq]
  omega
 | some V =>
  simp only [wiresP,wiresD,List.mem_append,rowA_mem,rowB_mem,rowD_mem,upA_mem,upD_mem,Prod.mk.injEq,List.mem_cons,List.not_mem_nil,or_false]
  omega
theorem wiresP_apart (h : Nat) (v : Option Nat) : ApartC (wiresP h v):=by
 have ab : ∀ n m,ApartC (rowA n ++ rowB m):=fun n m => List.pairwise_append.2 ⟨rowA_apart n,rowB_apart m,fun a ha b hb => by
  obtain ⟨_,_,e1⟩:=rowA_mem.1 ha
  obtain ⟨_,_,e2⟩:=rowB_mem.1 hb
  rw [smC_no,e1,e2];simp⟩
 cases v with
 | none => exact ab _ _
 | some V =>
  refine List.pairwise_append.2 ⟨upA_apart _ _,ab _ _,fun a ha b hb => ?_⟩
  rw [upA_mem] at ha
  rw [List.mem_append,rowA_mem,rowB_mem] at hb
  obtain ⟨x,y,s⟩:=a
  obtain ⟨x',y',s'⟩:=b
  simp only [Prod.mk.injEq] at ha hb
  rw [smC_no];simp only
  omega
theorem wiresD_apart (h : Nat) (v : Option Nat) : ApartC (wiresD h v):=by
 cases v with
 | none => exact rowD_apart _
 | some V =>
  refine List.pairwise_append.2 ⟨rowD_apart _,List.pairwise_append.2 ⟨?_,upD_apart _ _,fun a ha b hb => ?_⟩,fun a ha b hb => ?_⟩
  ·refine List.pairwise_cons.2 ⟨fun b hb => ?_,by simp⟩
   simp only [List.mem_singleton] at hb
   subst hb;rw [smC_no];simp only;omega
  ·rw [upD_mem] at hb
   simp only [List.mem_cons,List.not_mem_nil,or_false] at ha
   rw [smC_no]
   rcases ha with rfl | rfl <;> simp only <;> omega
  ·rw [rowD_mem] at ha
   simp only [List.mem_append,upD_mem,List.mem_cons,List.not_mem_nil,or_false] at hb
   obtain ⟨x,y,s⟩:=a
   obtain ⟨x',y',s'⟩:=b
   simp only [Prod.mk.injEq] at ha hb
   rw [smC_no];simp only
   omega
theorem wires_canon (h : Nat) (v : Option Nat) : canonC (wiresP h v) = canonC (wiresD h v):=canonC_same (wiresP_apart h v) (wiresD_apart h v) (wires_same h v)
end Go.Proofs.YtpffkpaiihcffaaGreatDoor.VM
end
section
namespace Go.Proofs.YtpffkpaiihcffaaGreatDoor.VM
open Go
def celF : List FV → Option Cel
 | [.int .i64 x,.int .i64 y,.int .i64 s] => some (x,y,s)
 | _ => none
def celsF : List (List FV) → Option (List Cel)
 | [] => some []
 | r :: rs => bindO (celF r) fun c => bindO (celsF rs) fun cs => some (c :: cs)
def cellF (c : Cel) : List FV:=[.int .i64 c.1,.int .i64 c.2.1,.int .i64 c.2.2]
def farC (c : Cel) : Bool:=decide (c.1 < -1073741824) || (decide (1073741824 < c.1) || (decide (c.2.1 < -1073741824) || decide (1073741824 < c.2.1)))
def stateC (s : Int) : Bool:=decide (0 ≤ s) && decide (s < 29)
def errC : List Cel → Int
 | [] => 0
 | c :: l => match farC c with | true => 13 | false => match stateC c.2.2 with | false => 11 | true => errC l
def outC (l : List Cel) : FV:=match l with | [] => .nilS | _ :: _ => .arr (l.map cellF)
def canonA (cs : List Cel) : FV:=match decide (errC cs = 0) with
 | false => .tup [.nilS,.int .i64 (errC cs)]
 | true => match decide ((canonC cs).length ≤ 65536) with
  | true => .tup [outC (canonC cs),.int .i64 0]
  | false => .tup [.nilS,.int .i64 14]
def canonOv : List FV → Option FV
 | [.agg [.int .i64 0,_],l] => bindO (asRows l) fun r => bindO (celsF r) fun cs => gB (decide (cs.length ≤ 1000000)) (some (canonA cs))
 | _ => none
def lookC : Option Cel → List Cel → Int
 | _,[] => 0
 | p,c :: l => match farC c with
  | true => 13
  | false => match stateC c.2.2 && !decide (c.2.2 = 0) with
   | false => 11
   | true => match (match p with | none => true | some d => befC d c) with
    | false => 12
    | true => lookC (some c) l
def properC (l : List Cel) : Int:=match decide (lookC none l = 0) with
 | false => lookC none l
 | true => match decide (l.length ≤ 65536) with | true => 0 | false => 14
def quietC (s : Int) : Bool:=decide (s = 9) || (decide (s = 10) || (decide (s = 11) || (decide (s = 12) || (decide (s = 17) || (decide (s = 18) || (decide (s = 19) || (decide (s = 20) || decide (s = 25))))))))
def inC (c : Cel) : Bool:=decide (2 ≤ c.1) && (decide (c.1 ≤ 57) && (decide (-56 ≤ c.2.1) && decide (c.2.1 ≤ -1)))
def fieldC : List Cel → Int
 | [] => 0
 | c :: l => match quietC c.2.2 with | false => 82 | true => match inC c with | false => 81 | true => fieldC l
def padC {α : Type} (n : Nat) (z : α) (l : List α) : List α:=l ++ List.replicate (n - l.length) z
def setCol (l : List Int) (k : Nat) (s : Int) : List Int:=(padC (k + 1) 0 l).set k s
def addCol (cols : List (List Int)) (c : Cel) : List (List Int) :=
 (padC ((c.1 - 2).toNat + 1) [] cols).set (c.1 - 2).toNat (setCol ((padC ((c.1 - 2).toNat + 1) [] cols).getD (c.1 - 2).toNat []) (-c.2.1 - 1).toNat c.2.2)
def colsOf (l : List Cel) : List (List Int):=l.foldl addCol []
def colF (l : List Int) : FV:=match l with | [] => .nilS | _ :: _ => .arr (l.map fun s => [.int .i64 s])
def colsF (l : List (List Int)) : FV:=match l with | [] => .nilS | _ :: _ => .arr (l.map fun c => [colF c])
def readA (cs : List Cel) : FV:=match decide (properC cs = 0) with
 | false => .tup [.agg [.nilS],.int .i64 (properC cs)]
 | true => match decide (fieldC cs = 0) with
  | false => .tup [.agg [.nilS],.int .i64 (fieldC cs)]
  | true => .tup [.agg [colsF (colsOf cs)],.int .i64 0]
def readOv : List FV → Option FV
 | [l] => bindO (asRows l) fun r => bindO (celsF r) fun cs => gB (decide (cs.length ≤ 1000000)) (some (readA cs))
 | _ => none
end Go.Proofs.YtpffkpaiihcffaaGreatDoor.VM
end
section
namespace Go.Proofs.YtpffkpaiihcffaaGreatDoor.VM
theorem padC_len {α : Type} (n : Nat) (z : α) (l : List α) : (padC n z l).length = max l.length n:=by
 simp [padC];omega
theorem padC_getD {α : Type} (n : Nat) (z : α) (l : List α) (i : Nat) : (padC n z l).getD i z = l.getD i z:=by
 unfold padC
 by_cases h : i < l.length
 ·simp [List.getD_eq_getElem?_getD,List.getElem?_append_left h]
 ·rw [List.getD_eq_getElem?_getD,List.getD_eq_getElem?_getD,List.getElem?_append_right (by omega),List.getElem?_eq_none (l:=l) (by omega),List.getElem?_replicate]
  split <;> rfl
theorem setCol_len (l : List Int) (k : Nat) (s : Int) : (setCol l k s).length = max l.length (k + 1):=by simp [setCol,padC_len]
theorem addCol_len (cols : List (List Int)) (c : Cel) : (addCol cols c).length = max cols.length ((c.1 - 2).toNat + 1):=by simp [addCol,padC_len]
theorem addCol_getD (cols : List (List Int)) (c : Cel) (i : Nat) : (addCol cols c).getD i [] = if i = (c.1 - 2).toNat then setCol (cols.getD i []) (-c.2.1 - 1).toNat c.2.2 else cols.getD i []:=by
 unfold addCol
 by_cases h : i = (c.1 - 2).toNat
 ·subst h
  rw [List.getD_eq_getElem?_getD,List.getElem?_set_self (by rw [padC_len];omega),if_pos rfl,Option.getD_some,padC_getD]
 ·rw [if_neg h,List.getD_eq_getElem?_getD,List.getElem?_set_ne (Ne.symm h),← List.getD_eq_getElem?_getD,padC_getD]
theorem snoc_ind {α : Type} {P : List α → Prop} (h0 : P []) (h1 : ∀ l c,P l → P (l ++ [c])) (l : List α) : P l:=by
 have : ∀ n (l : List α),l.length = n → P l:=fun n => by
  induction n with
  | zero => intro l h;obtain rfl:=List.length_eq_zero_iff.1 h;exact h0
  | succ n ih =>
   intro l h
   have hne : l ≠ []:=fun e => by rw [e] at h;simp at h
   rw [← List.dropLast_concat_getLast hne]
   exact h1 _ _ (ih _ (by simp [h]))
 exact this _ l rfl
theorem colsOf_app (l : List Cel) (c : Cel) : colsOf (l ++ [c]) = addCol (colsOf l) c:=by simp [colsOf,List.foldl_append]
def lastI (l : List Cel) : Int:=l.foldl (fun m c => max m c.1) 0
def topI (l : List Cel) (x : Int) : Int:=l.foldl (fun m c => if c.1 = x then min m c.2.1 else m) 0
def atI : List Cel → Int → Int → Int
 | [],_,_ => 0
 | c :: l,x,y => if c.1 = x ∧ c.2.1 = y then c.2.2 else atI l x y
theorem lastI_app (l : List Cel) (c : Cel) : lastI (l ++ [c]) = max (lastI l) c.1:=by simp [lastI,List.foldl_append]
theorem topI_app (l : List Cel) (c : Cel) (x : Int) : topI (l ++ [c]) x = if c.1 = x then min (topI l x) c.2.1 else topI l x:=by simp [topI,List.foldl_append]
theorem inC_iff {c : Cel} : inC c = true ↔ 2 ≤ c.1 ∧ c.1 ≤ 57 ∧ -56 ≤ c.2.1 ∧ c.2.1 ≤ -1:=by simp [inC]
theorem cols_len (l : List Cel) : (∀ c ∈ l,inC c = true) → (colsOf l).length = (lastI l - 1).toNat ∧ 0 ≤ lastI l ∧ lastI l ≤ 57:=by
 refine snoc_ind (P:=fun l => (∀ c ∈ l,inC c = true) → (colsOf l).length = (lastI l - 1).toNat ∧ 0 ≤ lastI l ∧ lastI l ≤ 57) (fun _ => by simp [colsOf,lastI]) (fun l c ih h => ?_) l
 obtain ⟨h1,h2,h3⟩:=ih fun d hd => h d (by simp [hd])
 have hc:=inC_iff.1 (h c (by simp))
 rw [colsOf_app,addCol_len,lastI_app,h1]
 omega
theorem cols_top (l : List Cel) : (∀ c ∈ l,inC c = true) → ∀ i : Nat,((colsOf l).getD i []).length = (-(topI l ((i : Int) + 2))).toNat ∧ topI l ((i : Int) + 2) ≤ 0 ∧ -56 ≤ topI l ((i : Int) + 2):=by
 refine snoc_ind (P:=fun l => (∀ c ∈ l,inC c = true) → ∀ i : Nat,((colsOf l).getD i []).length = (-(topI l ((i : Int) + 2))).toNat ∧ topI l ((i : Int) + 2) ≤ 0 ∧ -56 ≤ topI l ((i : Int) + 2)) (fun _ i => by simp [colsOf,topI]) (fun l c ih h i => ?_) l
 obtain ⟨h1,h2,h3⟩:=ih (fun d hd => h d (by simp [hd])) i
 have hc:=inC_iff.1 (h c (by simp))
 rw [colsOf_app,addCol_getD,topI_app]
 by_cases hi : c.1 = (i : Int) + 2
 ·rw [if_pos (by omega),if_pos hi,setCol_len,h1]
  omega
 ·rw [if_neg (by omega),if_neg hi]
  exact ⟨h1,h2,h3⟩
theorem lookC_apart : ∀ {l : List Cel} {p : Option Cel},lookC p l = 0 → OrdC l ∧ ∀ d,p = some d → ∀ c ∈ l,befC d c = true
 | [],_,_ => ⟨List.Pairwise.nil,by simp⟩
 | c :: l,p,h => by
  simp only [lookC] at h
  split at h
  ·simp at h
  ·split at h
   ·simp at h
   ·split at h
    ·simp at h
    ·rename_i hp
     obtain ⟨h1,h2⟩:=lookC_apart h
     have h3:=h2 c rfl
     refine ⟨List.pairwise_cons.2 ⟨h3,h1⟩,fun d hd e he => ?_⟩
     subst hd
     simp only at hp
     rcases List.mem_cons.1 he with rfl | he
     ·exact hp
     ·exact befC_trans hp (h3 e he)
theorem field_in : ∀ {l : List Cel},fieldC l = 0 → ∀ c ∈ l,inC c = true
 | [],_ => by simp
 | c :: l,h => by
  simp only [fieldC] at h
  split at h
  ·simp at h
  ·split at h
   ·simp at h
   ·rename_i hi
    intro d hd
    rcases List.mem_cons.1 hd with rfl | hd
    ·exact hi
    ·exact field_in h d hd
end Go.Proofs.YtpffkpaiihcffaaGreatDoor.VM
end
section
namespace Go.Proofs.YtpffkpaiihcffaaGreatDoor.VM
abbrev Mv:=Int × Int
def repM (k : Int) (n : Nat) : List Mv:=List.replicate n (k,0)
def downP (c : List Int) : Nat → List Mv
 | 0 => []
 | k + 1 => (if c.getD k 0 ≠ 0 then [(7,c.getD k 0)] else []) ++ ((if 0 < k then [(5,0)] else []) ++ downP c k)
def colP (c : List Int) : List Mv:=if c.length = 0 then [] else (3,0) :: (repM 4 (c.length - 1) ++ (downP c c.length ++ [(6,0)]))
def preM (j : Nat) : List Mv:=if 0 < j then [(1,0)] else []
def seqP (cols : List (List Int)) (n : Nat) : List Mv:=(List.range n).flatMap fun j => preM j ++ colP (cols.getD j [])
def movP (cols : List (List Int)) : List Mv:=seqP cols cols.length ++ repM 2 (cols.length - 1)
theorem seqP_succ (cols : List (List Int)) (n : Nat) : seqP cols (n + 1) = seqP cols n ++ (preM n ++ colP (cols.getD n [])):=by simp [seqP,List.range_succ]
def upP (c : List Int) (n : Nat) : List Mv:=(List.range n).flatMap fun k => (if 0 < k then [(4,0)] else []) ++ (if c.getD k 0 ≠ 0 then [(8,c.getD k 0)] else [])
def colW (c : List Int) : List Mv:=if c.length = 0 then [] else (3,0) :: (upP c c.length ++ (repM 5 (c.length - 1) ++ [(6,0)]))
def seqW (cols : List (List Int)) : Nat → List Mv
 | 0 => []
 | j + 1 => colW (cols.getD j []) ++ ((if 0 < j then [(2,0)] else []) ++ seqW cols j)
def wipP (cols : List (List Int)) : List Mv:=repM 1 (cols.length - 1) ++ seqW cols cols.length
theorem upP_succ (c : List Int) (n : Nat) : upP c (n + 1) = upP c n ++ ((if 0 < n then [(4,0)] else []) ++ (if c.getD n 0 ≠ 0 then [(8,c.getD n 0)] else [])):=by simp [upP,List.range_succ]
end Go.Proofs.YtpffkpaiihcffaaGreatDoor.VM
end
section
namespace Go.Proofs.YtpffkpaiihcffaaGreatDoor.VM
open Go
def mvOf : List FV → Option Mv
 | [.int .i64 k,.int .i64 s] => some (k,s)
 | _ => none
def mvsF : List (List FV) → Option (List Mv)
 | [] => some []
 | r :: rs => bindO (mvOf r) fun c => bindO (mvsF rs) fun cs => some (c :: cs)
def okA (h v : Int) : Bool:=decide (2 ≤ h) && (decide (h ≤ 60) && (decide (-1 ≤ v) && decide (v ≤ 60)))
def rgtA (k s : Int) : Bool:=if k = 7 ∨ k = 8 then quietC s else decide (1 ≤ k) && (decide (k ≤ 6) && decide (s = 0))
def flatA (v k : Int) : Bool:=if v < 0 then decide (k ≤ 3) else decide (4 ≤ k) && (!(decide (k = 5) && decide (v < 1)) && !(decide (k = 6) && !decide (v = 0)))
def toH (h k : Int) : Int:=if k = 1 then h + 1 else if k = 2 then h - 1 else h
def toV (v k : Int) : Int:=if k = 3 then 0 else if k = 4 then v + 1 else if k = 5 ∨ k = 6 then v - 1 else v
def errA (h v k s : Int) : Int:=match okA h v with
 | false => 81
 | true => match rgtA k s && flatA v k with
  | false => 80
  | true => match okA (toH h k) (toV v k) with | false => 81 | true => 0
def gndX (L : List Cel) (x0 y bx by_ : Int) : Nat → Bool
 | 0 => true
 | n + 1 => gndX L x0 y bx by_ n && ((decide (x0 + (n : Int) = bx) && decide (y = by_)) || decide (atI L (x0 + (n : Int)) y = 0))
def gndY (L : List Cel) (x0 y0 bx by_ : Int) (m : Nat) : Nat → Bool
 | 0 => true
 | n + 1 => gndY L x0 y0 bx by_ m n && gndX L x0 (y0 + (n : Int)) bx by_ m
def gndC (L : List Cel) (x0 y0 x1 y1 bx by_ : Int) : Bool:=gndY L x0 y0 bx by_ (x1 + 1 - x0).toNat (y1 + 1 - y0).toNat
def mayC (L : List Cel) (h v k s : Int) : Bool:=match decide (errA h v k s = 0) with
 | false => false
 | true => match decide (k ≤ 3) with
  | true => gndC L (h + 1) 0 (h + 3) 1 (-1) (-1)
  | false => match decide (k = 6) with
   | true => gndC L (h + 1) (-1) (h + 3) 1 (-1) (-1)
   | false => match decide (k = 7) with
    | true => decide (atI L h (-(v + 1)) = 0) && gndC L (h + 1) (-(v + 2)) (h + 2) 1 (-1) (-1)
    | false => match decide (k = 8) with
     | true => decide (atI L h (-(v + 1)) = s) && gndC L (h + 1) (-(v + 2)) (h + 2) 1 h (-(v + 1))
     | false => gndC L (h + 1) (-(v + 2)) (h + 2) 1 (-1) (-1)
def delC (L : List Cel) (c : Cel) : List Cel:=L.filter fun d => !smC d c
def doC (L : List Cel) (h v k s : Int) : List Cel:=match decide (k = 7) with
 | true => putC L (h,-(v + 1),s)
 | false => match decide (k = 8) with
  | true => delC L (h,-(v + 1),0)
  | false => L
def goW : List Mv → Int → Int → List Cel → Int → Int × Int × List Cel × Int
 | [],h,v,L,n => (h,v,L,n)
 | m :: l,h,v,L,n => match decide (m.1 = 0) && decide (m.2 = 0) with
  | true => goW l h v L (n + 1)
  | false => match mayC L h v m.1 m.2 with
   | false => (h,v,L,n)
   | true => goW l (toH h m.1) (toV v m.1) (doC L h v m.1 m.2) (n + 1)
def siteE (cs : List Cel) : Int:=match decide (properC cs = 0) with
 | false => properC cs
 | true => match cs.all fun c => quietC c.2.2 with
  | false => 82
  | true => match cs.all fun c => !(decide (c.2.1 = 0) || (decide (c.2.1 = 1) || decide (c.1 < 2))) with | false => 81 | true => 0
def canR (cs : List Cel) : Int × List Cel:=if errC cs = 0 then (if (canonC cs).length ≤ 65536 then (0,canonC cs) else (14,[])) else (errC cs,[])
def worldR (ms : List Mv) (cs : List Cel) : Int × Int × List Cel × Int × Int:=match decide (siteE cs = 0) with
 | false => (0,0,[],0,siteE cs)
 | true => ((goW ms 2 (-1) (lastC cs) 0).1,(goW ms 2 (-1) (lastC cs) 0).2.1,(canR (goW ms 2 (-1) (lastC cs) 0).2.2.1).2,(goW ms 2 (-1) (lastC cs) 0).2.2.2,(canR (goW ms 2 (-1) (lastC cs) 0).2.2.1).1)
def worldA (ms : List Mv) (cs : List Cel) : FV:=.tup [.int .i64 (worldR ms cs).1,.int .i64 (worldR ms cs).2.1,outC (worldR ms cs).2.2.1,.int .i64 (worldR ms cs).2.2.2.1,.int .i64 (worldR ms cs).2.2.2.2]
def worldOv : List FV → Option FV
 | [l,p] => bindO (asRows l) fun r => bindO (mvsF r) fun ms => bindO (asRows p) fun q => bindO (celsF q) fun cs => gB (decide (ms.length ≤ 100000 ∧ cs.length ≤ 100000)) (some (worldA ms cs))
 | _ => none
theorem gndX_iff {L : List Cel} {x0 y bx by_ : Int} : ∀ {n : Nat},gndX L x0 y bx by_ n = true ↔ ∀ x,x0 ≤ x → x < x0 + n → ¬ (x = bx ∧ y = by_) → atI L x y = 0
 | 0 => by
  simp only [gndX,true_iff]
  intro x h1 h2;omega
 | n + 1 => by
  simp only [gndX,Bool.and_eq_true,gndX_iff,Bool.or_eq_true,decide_eq_true_eq]
  constructor
  ·rintro ⟨h1,h2⟩ x a b c
   by_cases e : x = x0 + (n : Int)
   ·subst e
    rcases h2 with h2 | h2
    ·exact absurd h2 c
    ·exact h2
   ·exact h1 x a (by omega) c
  ·intro h
   refine ⟨fun x a b c => h x a (by omega) c,?_⟩
   by_cases e : x0 + (n : Int) = bx ∧ y = by_
   ·exact .inl e
   ·exact .inr (h _ (by omega) (by omega) e)
theorem gndY_iff {L : List Cel} {x0 y0 bx by_ : Int} {m : Nat} : ∀ {n : Nat},gndY L x0 y0 bx by_ m n = true ↔ ∀ x y,x0 ≤ x → x < x0 + m → y0 ≤ y → y < y0 + n → ¬ (x = bx ∧ y = by_) → atI L x y = 0
 | 0 => by
  simp only [gndY,true_iff]
  intro x y _ _ h1 h2;omega
 | n + 1 => by
  simp only [gndY,Bool.and_eq_true,gndY_iff,gndX_iff]
  constructor
  ·rintro ⟨h1,h2⟩ x y a b c d e
   by_cases g : y = y0 + (n : Int)
   ·subst g;exact h2 x a b e
   ·exact h1 x y a b c (by omega) e
  ·intro h
   exact ⟨fun x y a b c d e => h x y a b c (by omega) e,fun x a b e => h x _ a b (by omega) (by omega) e⟩
theorem atI_mem {L : List Cel} (hL : ApartC L) {x y s : Int} (h : (x,y,s) ∈ L) : atI L x y = s:=by
 induction L with
 | nil => cases h
 | cons c L ih =>
  obtain ⟨h1,h2⟩:=List.pairwise_cons.1 hL
  simp only [atI]
  rcases List.mem_cons.1 h with e | h
  ·subst e;simp
  ·have:=h1 _ h
   rw [smC_no] at this
   rw [if_neg (by simp only at this;omega),ih h2 h]
theorem atI_some {L : List Cel} {x y : Int} (h : ¬ atI L x y = 0) : (x,y,atI L x y) ∈ L:=by
 induction L with
 | nil => simp [atI] at h
 | cons c L ih =>
  obtain ⟨a,b,s⟩:=c
  simp only [atI] at h ⊢
  by_cases e : a = x ∧ b = y
  ·rw [if_pos e] at h ⊢
   obtain ⟨rfl,rfl⟩:=e
   exact List.mem_cons_self
  ·rw [if_neg e] at h ⊢
   exact List.mem_cons_of_mem _ (ih h)
end Go.Proofs.YtpffkpaiihcffaaGreatDoor.VM
end
section
namespace Go.Proofs.YtpffkpaiihcffaaGreatDoor.VM
structure SameW (L now : List Cel) : Prop where
 apart : ApartC L
 ord : OrdC now
 same : ∀ c,c ∈ L ↔ c ∈ now
 nz : ∀ c ∈ now,¬ c.2.2 = 0
theorem err_kinds {h v k s : Int} (e : errA h v k s = 0) : okA h v = true ∧ rgtA k s = true ∧ flatA v k = true ∧ okA (toH h k) (toV v k) = true ∧ 1 ≤ k ∧ k ≤ 8:=by
 unfold errA at e
 split at e
 ·simp at e
 ·rename_i h1
  split at e
  ·simp at e
  ·rename_i h2
   split at e
   ·simp at e
   ·rename_i h3
    rw [Bool.and_eq_true] at h2
    refine ⟨h1,h2.1,h2.2,h3,?_⟩
    have:=h2.1
    unfold rgtA at this
    split at this
    ·omega
    ·simp only [Bool.and_eq_true,decide_eq_true_eq] at this;omega
theorem delC_apart {L : List Cel} (h : ApartC L) (c : Cel) : ApartC (delC L c):=h.filter _
end Go.Proofs.YtpffkpaiihcffaaGreatDoor.VM
end
section
namespace Go.Proofs.YtpffkpaiihcffaaGreatDoor.VM
def FitC (L : List Cel) : Prop:=∀ c ∈ L,farC c = false ∧ stateC c.2.2 = true
theorem fit_err : ∀ {l : List Cel},FitC l → errC l = 0
 | [],_ => rfl
 | c :: l,h => by
  obtain ⟨h1,h2⟩:=h c (by simp)
  simp only [errC,h1,h2]
  exact fit_err fun d hd => h d (by simp [hd])
theorem lookC_fit : ∀ {l : List Cel} {p : Option Cel},lookC p l = 0 → ∀ c ∈ l,farC c = false ∧ (stateC c.2.2 && !decide (c.2.2 = 0)) = true
 | [],_,_ => by simp
 | c :: l,p,h => by
  simp only [lookC] at h
  split at h
  ·simp at h
  ·rename_i h1
   split at h
   ·simp at h
   ·rename_i h2
    split at h
    ·simp at h
    ·intro d hd
     rcases List.mem_cons.1 hd with rfl | hd
     ·exact ⟨h1,h2⟩
     ·exact lookC_fit h d hd
theorem proper_look {l : List Cel} (h : properC l = 0) : lookC none l = 0 ∧ l.length ≤ 65536:=by
 unfold properC at h
 split at h
 ·rename_i hl;rw [h] at hl;simp at hl
 ·rename_i hl
  split at h
  ·rename_i h2;exact ⟨of_decide_eq_true hl,of_decide_eq_true h2⟩
  ·simp at h
theorem proper_fit {l : List Cel} (h : properC l = 0) : FitC l ∧ (∀ c ∈ l,¬ c.2.2 = 0) ∧ OrdC l ∧ l.length ≤ 65536:=by
 obtain ⟨h1,h2⟩:=proper_look h
 refine ⟨fun c hc => ?_,fun c hc => ?_,(lookC_apart h1).1,h2⟩
 ·obtain ⟨a,b⟩:=lookC_fit h1 c hc
  rw [Bool.and_eq_true] at b
  exact ⟨a,b.1⟩
 ·obtain ⟨a,b⟩:=lookC_fit h1 c hc
  rw [Bool.and_eq_true] at b
  simpa using b.2
theorem lastC_same {l : List Cel} (h : ApartC l) (c : Cel) : c ∈ lastC l ↔ c ∈ l:=by rw [lastC_mem,apart_mem h]
theorem put_fit {L : List Cel} {c : Cel} (hL : FitC L) (h1 : farC c = false) (h2 : stateC c.2.2 = true) : FitC (putC L c):=by
 intro d hd
 rcases List.mem_cons.1 hd with rfl | hd
 ·exact ⟨h1,h2⟩
 ·exact hL d (List.mem_filter.1 hd).1
theorem quiet_state {s : Int} (h : quietC s = true) : stateC s = true:=by
 simp only [quietC,Bool.or_eq_true,decide_eq_true_eq] at h
 simp only [stateC,Bool.and_eq_true,decide_eq_true_eq];omega
theorem do_fit {L : List Cel} {h v k s : Int} (hL : FitC L) (e : errA h v k s = 0) : FitC (doC L h v k s):=by
 obtain ⟨e1,e2,_,_,_,_⟩:=err_kinds e
 simp only [okA,Bool.and_eq_true,decide_eq_true_eq] at e1
 unfold doC
 by_cases k7 : k = 7
 ·simp only [decide_eq_true k7]
  refine put_fit hL ?_ ?_
  ·simp only [farC,Bool.or_eq_false_iff,decide_eq_false_iff_not];omega
  ·unfold rgtA at e2
   rw [if_pos (.inl k7)] at e2
   exact quiet_state e2
 ·simp only [decide_eq_false k7]
  by_cases k8 : k = 8
  ·simp only [decide_eq_true k8]
   exact fun c hc => hL c (List.mem_filter.1 hc).1
  ·simp only [decide_eq_false k8];exact hL
theorem may_err {L : List Cel} {h v k s : Int} (e : mayC L h v k s = true) : errA h v k s = 0:=by
 unfold mayC at e
 by_cases h0 : errA h v k s = 0
 ·exact h0
 ·simp only [decide_eq_false h0] at e;cases e
theorem canR_fit {L K : List Cel} (hL : FitC L) (aL : ApartC L) (hK : ApartC K) (h : ∀ c,c ∈ K ↔ c ∈ L) : canR K = canR L:=by
 have e1:=fit_err hL
 have e2 : errC K = 0:=fit_err fun c hc => hL c ((h c).1 hc)
 unfold canR
 rw [e1,e2,canonC_same hK aL h]
end Go.Proofs.YtpffkpaiihcffaaGreatDoor.VM
end
section
namespace Go.Proofs.YtpffkpaiihcffaaGreatDoor.VM
open Go
def tb (l : List Nat) : List UInt8:=l.map fun b => if b = 0 then 48 else 49
def pulA (k s : Int) : List UInt8 × List UInt8 :=
 if k = 1 ∧ s = 0 then (tb [1,0,0,0,0],tb [1,0,1,1,0])
 else if k = 2 ∧ s = 0 then (tb [1,0,1,0,1,0,0,1,1,0,0,0,0,0,0,0,0,0,0,0,0,0,0,0,0,0,0,0,1,1,0,0,0,0,1,0,1,0,1,0,1,0,0],tb [0,0,0,0,0,0,0,0,0,0,0,0,1,1,0,0,1,1,0,1,1,1,1,1,1,0,1,0,0,0,0,0,0,0,1,0,0,0,0,0,1,0,0])
 else if k = 3 ∧ s = 0 then (tb [1,0,0,0,1,0,0,0,0,0,0,0],tb [1,0,1,1,1,1,0,0,1,1,0,0])
 else if k = 4 ∧ s = 0 then (tb [1,0,0,0,1],tb [1,1,0,0,0])
 else if k = 5 ∧ s = 0 then (tb [0,0,1,0,0,0,0,1,0,1,0,1,0,0,0,0,0,0,0,0,0,0,0,0,0,0,0,0,0,0,0,1,1,0,0,0,1,1,0,1,0,0,0,0,1,0,0],tb [0,0,0,0,0,0,0,0,0,0,0,0,0,1,1,0,1,1,1,1,0,0,1,1,0,1,1,1,0,0,0,0,0,0,0,1,0,0,0,0,0,0,1,0,0,0,0])
 else if k = 6 ∧ s = 0 then (tb [0,0,0,1,0,0,0,0,1,0,1,0,1,0,0,0,0,0,0,0,0,0,0,0,0,0,0,0,0,0,0,0,1,1,0,0,0,1,1,0,1,0,0,0,0,1,0,0,1,0,0,0,0,1,0,1,0,1,1,0,0,1,1,0,0,0,0,0,0,0,0,0,0,0,0,0,0,0,0,0,0,0,1,1,0,0,0,0,1,0,1,0,1,0,1,0,0],tb [0,0,0,0,0,0,0,0,0,0,0,0,0,0,1,1,0,1,1,1,1,0,0,1,1,0,1,1,1,0,0,0,0,0,0,0,1,0,0,0,0,0,0,1,0,0,0,0,0,0,0,0,0,0,0,0,0,0,0,0,0,0,0,0,0,0,1,1,0,0,1,1,0,1,1,1,1,1,1,0,1,0,0,0,0,0,0,0,1,0,0,0,0,0,1,0,0])
 else if k = 7 ∧ s = 9 then (tb [0,0,1,0,0,1,1,0,0,0,0,0,1,0,0,0,0,1,0,0],tb [1,1,0,1,0,0,0,0,1,0,0,0,0,0,0,1,0,0,0,0])
 else if k = 8 ∧ s = 9 then (tb [0,0,0,0,0,0,0,0,0,0,0,0,1,1,0,0,0,0,1,0,0],tb [1,1,0,1,1,1,0,1,1,0,0,0,0,0,0,0,1,0,0,0,0])
 else if k = 7 ∧ s = 10 then (tb [0,0,1,0,0,1,1,0,0,0,1,0,1,0,0,0,0,1,0,0],tb [1,1,0,1,0,0,0,0,1,0,0,0,0,0,0,1,0,0,0,0])
 else if k = 8 ∧ s = 10 then (tb [0,0,0,0,0,0,0,0,0,0,0,0,0,1,1,0,0,0,0,1,0,0],tb [0,1,1,0,1,1,1,0,1,1,0,0,0,0,0,0,0,1,0,0,0,0])
 else if k = 7 ∧ s = 11 then (tb [0,0,1,0,0,1,1,0,0,1,0,1,0,0,0,0,1,0,0],tb [1,1,0,1,0,0,0,1,0,0,0,0,0,0,1,0,0,0,0])
 else if k = 8 ∧ s = 11 then (tb [0,0,0,0,0,0,0,0,0,0,0,0,0,0,1,1,0,0,0,0,1,0,0],tb [0,0,1,1,0,1,1,1,0,1,1,0,0,0,0,0,0,0,1,0,0,0,0])
 else if k = 7 ∧ s = 12 then (tb [0,0,1,0,0,1,1,0,1,0,0,1,0,0,0,0,1,0,0],tb [1,1,0,1,0,0,0,1,0,0,0,0,0,0,1,0,0,0,0])
 else if k = 8 ∧ s = 12 then (tb [0,0,0,0,0,0,0,0,0,0,0,0,0,0,0,1,1,0,0,0,0,1,0,0],tb [0,0,0,1,1,0,1,1,1,0,1,1,0,0,0,0,0,0,0,1,0,0,0,0])
 else if k = 7 ∧ s = 17 then (tb [0,0,1,0,0,1,1,0,1,1,0,1,0,0,0,0,1,0,0],tb [1,1,0,1,0,0,0,1,0,0,0,0,0,0,1,0,0,0,0])
 else if k = 8 ∧ s = 17 then (tb [0,0,1,0,0,1,1,0,1,0,0,0,0,1,0,0],tb [1,1,0,1,1,0,0,0,0,0,0,1,0,0,0,0])
 else if k = 7 ∧ s = 18 then (tb [0,0,1,0,0,1,1,1,0,0,0,1,0,0,0,0,1,0,0],tb [1,1,0,1,0,0,0,1,0,0,0,0,0,0,1,0,0,0,0])
 else if k = 8 ∧ s = 18 then (tb [0,0,0,1,0,0,1,1,0,1,0,0,0,0,1,0,0],tb [0,1,1,0,1,1,0,0,0,0,0,0,1,0,0,0,0])
 else if k = 7 ∧ s = 19 then (tb [0,0,1,0,0,1,1,1,0,1,0,1,0,0,0,0,1,0,0],tb [1,1,0,1,0,0,0,1,0,0,0,0,0,0,1,0,0,0,0])
 else if k = 8 ∧ s = 19 then (tb [0,0,0,0,1,0,0,1,1,0,1,0,0,0,0,1,0,0],tb [0,0,1,1,0,1,1,0,0,0,0,0,0,1,0,0,0,0])
 else if k = 7 ∧ s = 20 then (tb [0,0,1,0,0,1,1,1,1,0,0,1,0,0,0,0,1,0,0],tb [1,1,0,1,0,0,0,1,0,0,0,0,0,0,1,0,0,0,0])
 else if k = 8 ∧ s = 20 then (tb [0,0,0,0,0,1,0,0,1,1,0,1,0,0,0,0,1,0,0],tb [0,0,0,1,1,0,1,1,0,0,0,0,0,0,1,0,0,0,0])
 else if k = 7 ∧ s = 25 then (tb [0,0,1,0,0,1,1,1,1,1,0,1,0,0,0,0,1,0,0],tb [1,1,0,1,0,0,0,1,0,0,0,0,0,0,1,0,0,0,0])
 else if k = 8 ∧ s = 25 then (tb [0,0,0,0,0,0,0,0,0,0,0,0,0,0,0,0,1,1,0,0,0,0,1,0,0],tb [0,0,0,0,1,1,0,1,1,1,0,1,1,0,0,0,0,0,0,0,1,0,0,0,0])
 else ([],[])
def foldT : List Mv → List UInt8 → List UInt8 → Option (List UInt8 × List UInt8)
 | [],A,B => some (A,B)
 | m :: l,A,B => match decide (A.length + (pulA m.1 m.2).1.length ≤ 262144) with
  | false => none
  | true => foldT l (A ++ (pulA m.1 m.2).1) (B ++ (pulA m.1 m.2).2)
def trainF (A B : List UInt8) (e : Int) : FV:=.tup [.agg [.str A,.str B],.int .i64 e]
def trainA (ms : List Mv) : FV:=match ms.all fun m => rgtA m.1 m.2 with
 | false => trainF [] [] 80
 | true => match foldT ms [] [] with
  | none => trainF [] [] 83
  | some p => trainF p.1 p.2 0
def pulR (k s : Int) : FV:=match rgtA k s with
 | false => trainF [] [] 80
 | true => trainF (pulA k s).1 (pulA k s).2 0
def pulOv : List FV → Option FV
 | [.agg [.int .i64 k,.int .i64 s]] => some (pulR k s)
 | _ => none
def trainOv : List FV → Option FV
 | [l] => bindO (asRows l) fun r => bindO (mvsF r) fun ms => gB (decide (ms.length ≤ 100000)) (some (trainA ms))
 | _ => none
def repL (s : List UInt8) : Nat → List UInt8
 | 0 => []
 | n + 1 => s ++ repL s n
def repOv : List FV → Option FV
 | [.str s,.int .i64 c] => gB (decide (0 ≤ c ∧ c ≤ 1000000 ∧ (s.length : Int) * c ≤ 100000000)) (some (.str (repL s c.toNat)))
 | _ => none
def goodT (p : List UInt8 × List UInt8) : Prop:=p.1.length ≤ 128 ∧ p.2.length = p.1.length
theorem good_ite {c : Prop} [Decidable c] {p q : List UInt8 × List UInt8} (h : goodT p) (k : goodT q) : goodT (if c then p else q):=by split <;> assumption
theorem pul_len (k s : Int) : goodT (pulA k s):=by
 unfold pulA
 repeat' (first | exact ⟨by decide,by decide⟩ | apply good_ite)
def catA (ms : List Mv) : List UInt8:=ms.flatMap fun m => (pulA m.1 m.2).1
def catB (ms : List Mv) : List UInt8:=ms.flatMap fun m => (pulA m.1 m.2).2
theorem foldT_eq : ∀ (ms : List Mv) (A B : List UInt8),A.length + 128 * ms.length ≤ 262144 → foldT ms A B = some (A ++ catA ms,B ++ catB ms)
 | [],A,B,_ => by simp [foldT,catA,catB]
 | m :: l,A,B,h => by
  have:=(pul_len m.1 m.2).1
  simp only [List.length_cons] at h
  simp only [foldT,decide_eq_true (show A.length + (pulA m.1 m.2).1.length ≤ 262144 by omega)]
  rw [foldT_eq l _ _ (by rw [List.length_append];omega)]
  simp [catA,catB]
end Go.Proofs.YtpffkpaiihcffaaGreatDoor.VM
end
section
namespace Go.Proofs.YtpffkpaiihcffaaGreatDoor.VM
open Go
def rowsO : FV → FV | .nilS => .arr [] | x => x
def canonOw (xs : List FV) : Option FV:=bindO (canonOv xs) fun y => match y with | .tup [v,e] => some (.tup [rowsO v,e]) | _ => none
def worldOw (xs : List FV) : Option FV:=bindO (worldOv xs) fun y => match y with | .tup [a,b,v,c,e] => some (.tup [a,b,rowsO v,c,e]) | _ => none
theorem rowsO_out (l : List Cel) : rowsO (outC l) = .arr (l.map cellF):=by cases l <;> rfl
end Go.Proofs.YtpffkpaiihcffaaGreatDoor.VM
end
