/- Steps of the proof: Cells by place: the last one of each place, no state 0, in order. Plain lists; The document's way to the same list: a stable sort, and of equal places the last. Plain lists; The arm's cells: the program's list and the document's, of the same cells. Plain lists; What cells.Canon (of the rule R29) and arm.read answer, as functions of frozen values; A train's cells beside an arm: the program's list and the document's, of the same cells. Plain lists. -/
import Derived.Test.YtpffkpaiihcffaaGreatDoorVM
section
namespace Go.Proofs.YtpffkpaiihcffaaGreatDoor.VM
abbrev Cel:=Int × Int × Int
def befC (a b : Cel) : Bool:=decide (a.2.1 < b.2.1) || (decide (a.2.1 = b.2.1) && decide (a.1 < b.1))
def smC (a b : Cel) : Bool:=decide (a.1 = b.1) && decide (a.2.1 = b.2.1)
def putC (L : List Cel) (c : Cel) : List Cel:=c :: L.filter fun d => !smC d c
def lastC (l : List Cel) : List Cel:=l.foldl putC []
def insC (c : Cel) : List Cel → List Cel
 | [] => [c]
 | d :: l => match befC c d with | true => c :: d :: l | false => d :: insC c l
def sortC : List Cel → List Cel
 | [] => []
 | c :: l => insC c (sortC l)
def nzC (c : Cel) : Bool:=!decide (c.2.2 = 0)
def canonC (l : List Cel) : List Cel:=sortC ((lastC l).filter nzC)
theorem smC_iff {a b : Cel} : smC a b = true ↔ a.1 = b.1 ∧ a.2.1 = b.2.1:=by simp [smC]
theorem smC_no {a b : Cel} : smC a b = false ↔ ¬ (a.1 = b.1 ∧ a.2.1 = b.2.1):=by rw [← smC_iff];simp
theorem befC_iff {a b : Cel} : befC a b = true ↔ a.2.1 < b.2.1 ∨ (a.2.1 = b.2.1 ∧ a.1 < b.1):=by simp [befC]
theorem befC_no {a b : Cel} : befC a b = false ↔ ¬ (a.2.1 < b.2.1 ∨ (a.2.1 = b.2.1 ∧ a.1 < b.1)):=by rw [← befC_iff];simp
theorem befC_trans {a b c : Cel} (h : befC a b = true) (k : befC b c = true) : befC a c = true:=by rw [befC_iff] at *;omega
theorem befC_irr (a : Cel) : befC a a = false:=by rw [befC_no];omega
abbrev OrdC (l : List Cel) : Prop:=l.Pairwise fun a b => befC a b = true
abbrev ApartC (l : List Cel) : Prop:=l.Pairwise fun a b => smC a b = false
theorem ord_unique : ∀ {l k : List Cel},OrdC l → OrdC k → (∀ c,c ∈ l ↔ c ∈ k) → l = k
 | [],[],_,_,_ => rfl
 | [],b :: k,_,_,h => by have:=(h b).2 (by simp);simp at this
 | a :: l,[],_,_,h => by have:=(h a).1 (by simp);simp at this
 | a :: l,b :: k,hl,hk,h => by
  obtain ⟨h1,h2⟩:=List.pairwise_cons.1 hl
  obtain ⟨k1,k2⟩:=List.pairwise_cons.1 hk
  have e : a = b:=by
   rcases List.mem_cons.1 ((h a).1 (by simp)) with e | e
   ·exact e
   ·rcases List.mem_cons.1 ((h b).2 (by simp)) with e' | e'
    ·exact e'.symm
    ·have:=befC_trans (h1 b e') (k1 a e)
     rw [befC_irr] at this;cases this
  subst e
  congr 1
  refine ord_unique h2 k2 fun c => ⟨fun hc => ?_,fun hc => ?_⟩
  ·rcases List.mem_cons.1 ((h c).1 (List.mem_cons_of_mem _ hc)) with e | e
   ·subst e;have:=h1 c hc;rw [befC_irr] at this;cases this
   ·exact e
  ·rcases List.mem_cons.1 ((h c).2 (List.mem_cons_of_mem _ hc)) with e | e
   ·subst e;have:=k1 c hc;rw [befC_irr] at this;cases this
   ·exact e
theorem insC_mem {c d : Cel} : ∀ {l : List Cel},d ∈ insC c l ↔ d = c ∨ d ∈ l
 | [] => by simp [insC]
 | e :: l => by
  simp only [insC]
  split
  ·simp
  ·simp only [List.mem_cons,insC_mem]
   constructor
   ·rintro (h | h | h) <;> simp [h]
   ·rintro (h | h | h) <;> simp [h]
theorem sortC_mem {d : Cel} : ∀ {l : List Cel},d ∈ sortC l ↔ d ∈ l
 | [] => by simp [sortC]
 | c :: l => by simp only [sortC,insC_mem,sortC_mem,List.mem_cons]
theorem insC_len (c : Cel) : ∀ l : List Cel,(insC c l).length = l.length + 1
 | [] => rfl
 | d :: l => by simp only [insC];split <;> simp [insC_len c l]
theorem sortC_len : ∀ l : List Cel,(sortC l).length = l.length
 | [] => rfl
 | c :: l => by simp [sortC,insC_len,sortC_len l]
theorem insC_ord {c : Cel} : ∀ {l : List Cel},OrdC l → (∀ d ∈ l,smC c d = false) → OrdC (insC c l)
 | [],_,_ => by simp [insC]
 | d :: l,h,k => by
  obtain ⟨h1,h2⟩:=List.pairwise_cons.1 h
  simp only [insC]
  split
  ·rename_i hb
   exact List.pairwise_cons.2 ⟨fun e he => by
    rcases List.mem_cons.1 he with rfl | he
    ·exact hb
    ·exact befC_trans hb (h1 e he),h⟩
  ·rename_i hb
   refine List.pairwise_cons.2 ⟨fun e he => ?_,insC_ord h2 fun e he => k e (List.mem_cons_of_mem _ he)⟩
   rcases insC_mem.1 he with rfl | he
   ·have:=k d (by simp)
    rw [smC_no] at this;rw [befC_no] at hb;rw [befC_iff];omega
   ·exact h1 e he
theorem smC_symm {a b : Cel} (h : smC a b = false) : smC b a = false:=by rw [smC_no] at *;omega
theorem sortC_ord : ∀ {l : List Cel},ApartC l → OrdC (sortC l)
 | [],_ => by simp [sortC]
 | c :: l,h => by
  obtain ⟨h1,h2⟩:=List.pairwise_cons.1 h
  exact insC_ord (sortC_ord h2) fun d hd => h1 d (sortC_mem.1 hd)
theorem ord_apart {l : List Cel} (h : OrdC l) : ApartC l:=h.imp fun {a b} h => by rw [befC_iff] at h;rw [smC_no];omega
theorem sortC_eq {l k : List Cel} (hl : ApartC l) (hk : OrdC k) (h : ∀ c,c ∈ k ↔ c ∈ l) : k = sortC l :=
 ord_unique hk (sortC_ord hl) fun c => by rw [sortC_mem];exact h c
theorem putC_apart {L : List Cel} (h : ApartC L) (c : Cel) : ApartC (putC L c) :=
 List.pairwise_cons.2 ⟨fun d hd => by
  have:=(List.mem_filter.1 hd).2
  simp only [Bool.not_eq_true'] at this
  exact smC_symm this,h.filter _⟩
theorem foldC_apart : ∀ (l : List Cel) {L : List Cel},ApartC L → ApartC (l.foldl putC L)
 | [],_,h => h
 | c :: l,_,h => foldC_apart l (putC_apart h c)
theorem lastC_apart (l : List Cel) : ApartC (lastC l):=foldC_apart l List.Pairwise.nil
theorem canonC_ord (l : List Cel) : OrdC (canonC l):=sortC_ord ((lastC_apart l).filter _)
theorem foldC_mem : ∀ (l : List Cel) {L : List Cel} (_ : ApartC L) (c : Cel),c ∈ l.foldl putC L ↔ (l.filter fun d => smC d c).getLast? = some c ∨ ((l.filter fun d => smC d c) = [] ∧ c ∈ L)
 | [],L,_,c => by simp
 | d :: l,L,hL,c => by
  simp only [List.foldl_cons]
  rw [foldC_mem l (putC_apart hL d) c]
  cases hd : smC d c with
  | true =>
   rw [List.filter_cons_of_pos (by exact hd)]
   cases hf : l.filter fun d => smC d c with
   | nil =>
    simp only [List.getLast?_nil,reduceCtorEq,true_and,false_or,List.getLast?_singleton,Option.some.injEq,List.cons_ne_nil,false_and,or_false]
    constructor
    ·intro hm
     rcases List.mem_cons.1 hm with e | hm
     ·exact e.symm
     ·have:=(List.mem_filter.1 hm).2
      rw [smC_iff] at hd
      simp only [Bool.not_eq_true',smC_no] at this
      omega
    ·intro e;subst e;exact List.mem_cons_self
   | cons x xs => simp [List.getLast?_cons_cons]
  | false =>
   rw [List.filter_cons_of_neg (by simp [hd])]
   have : c ∈ putC L d ↔ c ∈ L:=by
    constructor
    ·intro hm
     rcases List.mem_cons.1 hm with e | hm
     ·subst e;rw [smC_no] at hd;omega
     ·exact (List.mem_filter.1 hm).1
    ·intro hm
     exact List.mem_cons_of_mem _ (List.mem_filter.2 ⟨hm,by rw [smC_symm hd];rfl⟩)
   rw [this]
theorem lastC_mem {l : List Cel} {c : Cel} : c ∈ lastC l ↔ (l.filter fun d => smC d c).getLast? = some c:=by
 rw [lastC,foldC_mem l List.Pairwise.nil c];simp
theorem canonC_mem {l : List Cel} {c : Cel} : c ∈ canonC l ↔ (l.filter fun d => smC d c).getLast? = some c ∧ ¬ c.2.2 = 0:=by
 unfold canonC
 rw [sortC_mem,List.mem_filter,lastC_mem]
 simp [nzC]
theorem apart_mem {l : List Cel} (h : ApartC l) {c : Cel} : (l.filter fun d => smC d c).getLast? = some c ↔ c ∈ l:=by
 constructor
 ·intro hc
  exact (List.mem_filter.1 (List.mem_of_getLast? hc)).1
 ·intro hc
  have : l.filter (fun d => smC d c) = [c]:=by
   induction l with
   | nil => cases hc
   | cons a l ih =>
    obtain ⟨h1,h2⟩:=List.pairwise_cons.1 h
    rcases List.mem_cons.1 hc with rfl | hc
    ·rw [List.filter_cons_of_pos (by rw [smC_iff];exact ⟨rfl,rfl⟩)]
     congr 1
     rw [List.filter_eq_nil_iff]
     intro d hd
     rw [smC_symm (h1 d hd)];simp
    ·rw [List.filter_cons_of_neg (by rw [h1 c hc];simp)]
     exact ih h2 hc
  rw [this];rfl
theorem canonC_apart {l : List Cel} (h : ApartC l) {c : Cel} : c ∈ canonC l ↔ c ∈ l ∧ ¬ c.2.2 = 0:=by rw [canonC_mem,apart_mem h]
theorem canonC_same {l k : List Cel} (hl : ApartC l) (hk : ApartC k) (h : ∀ c,c ∈ l ↔ c ∈ k) : canonC l = canonC k :=
 ord_unique (canonC_ord l) (canonC_ord k) fun c => by rw [canonC_apart hl,canonC_apart hk,h]
theorem putC_len (L : List Cel) (c : Cel) : (putC L c).length ≤ L.length + 1:=by simp [putC];exact List.length_filter_le _ _
theorem foldC_len : ∀ (l L : List Cel),(l.foldl putC L).length ≤ L.length + l.length
 | [],L => by simp
 | c :: l,L => by have:=foldC_len l (putC L c);have:=putC_len L c;simp at *;omega
theorem lastC_len (l : List Cel) : (lastC l).length ≤ l.length:=by have:=foldC_len l [];simpa [lastC] using this
end Go.Proofs.YtpffkpaiihcffaaGreatDoor.VM
end
section
namespace Go.Proofs.YtpffkpaiihcffaaGreatDoor.VM
abbrev OrdW (l : List Cel) : Prop:=l.Pairwise fun a b => befC b a = false
def mergeC : List Cel → List Cel → List Cel
 | [],b => b
 | x :: a,[] => x :: a
 | x :: a,y :: b => match befC y x with | true => y :: mergeC (x :: a) b | false => x :: mergeC a (y :: b)
 termination_by a b => a.length + b.length
theorem mergeC_nil (a : List Cel) : mergeC a [] = a:=by cases a <;> simp [mergeC]
theorem mergeC_mem {c : Cel} : ∀ {a b : List Cel},c ∈ mergeC a b ↔ c ∈ a ∨ c ∈ b
 | [],b => by simp [mergeC]
 | x :: a,[] => by simp [mergeC]
 | x :: a,y :: b => by
  rw [mergeC]
  split
  ·simp only [List.mem_cons,mergeC_mem (a:=x :: a) (b:=b)]
   constructor
   ·rintro (h | (h | h) | h) <;> simp [h]
   ·rintro ((h | h) | (h | h)) <;> simp [h]
  ·simp only [List.mem_cons,mergeC_mem (a:=a) (b:=y :: b)]
   constructor
   ·rintro (h | h | (h | h)) <;> simp [h]
   ·rintro ((h | h) | (h | h)) <;> simp [h]
 termination_by a b => a.length + b.length
theorem befC_weak {a b c : Cel} (h : befC b a = false) (k : befC c b = false) : befC c a = false:=by rw [befC_no] at *;omega
theorem mergeC_ord : ∀ {a b : List Cel},OrdW a → OrdW b → OrdW (mergeC a b)
 | [],b,_,h => by simpa [mergeC] using h
 | x :: a,[],h,_ => by simpa [mergeC] using h
 | x :: a,y :: b,ha,hb => by
  obtain ⟨a1,a2⟩:=List.pairwise_cons.1 ha
  obtain ⟨b1,b2⟩:=List.pairwise_cons.1 hb
  rw [mergeC]
  split
  ·rename_i h
   refine List.pairwise_cons.2 ⟨fun c hc => ?_,mergeC_ord ha b2⟩
   have hyx : befC x y = false:=by rw [befC_iff] at h;rw [befC_no];omega
   rcases mergeC_mem.1 hc with hc | hc
   ·rcases List.mem_cons.1 hc with rfl | hc
    ·exact hyx
    ·exact befC_weak hyx (a1 c hc)
   ·exact b1 c hc
  ·rename_i h
   refine List.pairwise_cons.2 ⟨fun c hc => ?_,mergeC_ord a2 hb⟩
   rcases mergeC_mem.1 hc with hc | hc
   ·exact a1 c hc
   ·rcases List.mem_cons.1 hc with rfl | hc
    ·exact h
    ·exact befC_weak h (b1 c hc)
 termination_by a b => a.length + b.length
theorem mergeC_at (p : Cel) : ∀ {a b : List Cel},OrdW a → (mergeC a b).filter (fun d => smC d p) = a.filter (fun d => smC d p) ++ b.filter fun d => smC d p
 | [],b,_ => by simp [mergeC]
 | x :: a,[],_ => by simp [mergeC]
 | x :: a,y :: b,ha => by
  obtain ⟨a1,a2⟩:=List.pairwise_cons.1 ha
  rw [mergeC]
  split
  ·rename_i h
   cases hy : smC y p with
   | true =>
    rw [List.filter_cons_of_pos (by exact hy),mergeC_at p ha]
    have : (x :: a).filter (fun d => smC d p) = []:=by
     rw [List.filter_eq_nil_iff]
     intro d hd
     have hd' : befC d x = false:=by
      rcases List.mem_cons.1 hd with rfl | hd
      ·exact befC_irr _
      ·exact a1 d hd
     rw [smC_iff] at hy ⊢
     rw [befC_iff] at h
     rw [befC_no] at hd'
     omega
    rw [this,List.filter_cons_of_pos (a:=y) (l:=b) (by exact hy)]
    rfl
   | false => rw [List.filter_cons_of_neg (by simp [hy]),mergeC_at p ha,List.filter_cons_of_neg (a:=y) (l:=b) (p:=fun d => smC d p) (by simp [hy])]
  ·cases hx : smC x p with
   | true => rw [List.filter_cons_of_pos (by exact hx),mergeC_at p a2,List.filter_cons_of_pos (a:=x) (l:=a) (by exact hx)];rfl
   | false => rw [List.filter_cons_of_neg (by simp [hx]),mergeC_at p a2,List.filter_cons_of_neg (a:=x) (l:=a) (p:=fun d => smC d p) (by simp [hx])]
 termination_by a b => a.length + b.length
theorem mergeC_len : ∀ (a b : List Cel),(mergeC a b).length = a.length + b.length
 | [],b => by simp [mergeC]
 | x :: a,[] => by simp [mergeC]
 | x :: a,y :: b => by
  rw [mergeC]
  split
  ·simp only [List.length_cons,mergeC_len (x :: a) b];omega
  ·simp only [List.length_cons,mergeC_len a (y :: b)];omega
 termination_by a b => a.length + b.length
structure Srt (l s : List Cel) : Prop where
 ord : OrdW s
 at_ : ∀ p,s.filter (fun d => smC d p) = l.filter fun d => smC d p
 len : s.length = l.length
theorem Srt.small {l : List Cel} (h : l.length < 2) : Srt l l:=by
 refine ⟨?_,fun _ => rfl,rfl⟩
 match l,h with
 | [],_ => exact List.Pairwise.nil
 | [a],_ => simp
theorem Srt.merge {l s k t : List Cel} (h : Srt l s) (g : Srt k t) : Srt (l ++ k) (mergeC s t) :=
 ⟨mergeC_ord h.ord g.ord,fun p => by rw [mergeC_at p h.ord,h.at_,g.at_,List.filter_append],by rw [mergeC_len,h.len,g.len,List.length_append]⟩
def lastsW : List Cel → List Cel
 | [] => []
 | [c] => match nzC c with | true => [c] | false => []
 | c :: d :: l => match smC d c with | true => lastsW (d :: l) | false => (match nzC c with | true => c :: lastsW (d :: l) | false => lastsW (d :: l))
theorem lastsW_sub : ∀ {s : List Cel} {c : Cel},c ∈ lastsW s → c ∈ s
 | [],c,h => by simp [lastsW] at h
 | [a],c,h => by
  simp only [lastsW] at h
  split at h
  ·exact h
  ·cases h
 | a :: d :: l,c,h => by
  simp only [lastsW] at h
  split at h
  ·exact List.mem_cons_of_mem _ (lastsW_sub h)
  ·split at h
   ·rcases List.mem_cons.1 h with rfl | h
    ·exact List.mem_cons_self
    ·exact List.mem_cons_of_mem _ (lastsW_sub h)
   ·exact List.mem_cons_of_mem _ (lastsW_sub h)
theorem head_lt {a d c : Cel} {l : List Cel} (h : OrdW (a :: d :: l)) (hs : smC d a = false) (hc : c ∈ d :: l) : befC a c = true:=by
 obtain ⟨h1,h2⟩:=List.pairwise_cons.1 h
 have k1:=h1 d (by simp)
 have : befC c d = false:=by
  rcases List.mem_cons.1 hc with rfl | hc
  ·exact befC_irr _
  ·exact (List.pairwise_cons.1 h2).1 c hc
 rw [smC_no] at hs
 rw [befC_no] at this k1
 rw [befC_iff]
 omega
theorem lastsW_ord : ∀ {s : List Cel},OrdW s → OrdC (lastsW s)
 | [],_ => by simp [lastsW]
 | [a],_ => by
  simp only [lastsW]
  split <;> simp
 | a :: d :: l,h => by
  have h2:=(List.pairwise_cons.1 h).2
  simp only [lastsW]
  split
  ·exact lastsW_ord h2
  ·rename_i hs
   split
   ·exact List.pairwise_cons.2 ⟨fun c hc => head_lt h hs (lastsW_sub hc),lastsW_ord h2⟩
   ·exact lastsW_ord h2
theorem lastsW_mem : ∀ {s : List Cel} {c : Cel},OrdW s → (c ∈ lastsW s ↔ (s.filter fun d => smC d c).getLast? = some c ∧ ¬ c.2.2 = 0)
 | [],c,_ => by simp [lastsW]
 | [a],c,_ => by
  have e : smC a a = true:=by rw [smC_iff];exact ⟨rfl,rfl⟩
  simp only [lastsW]
  cases hn : nzC a with
  | true =>
   simp only [List.mem_singleton]
   constructor
   ·rintro rfl
    exact ⟨by simp [List.filter_cons,e],by simpa [nzC] using hn⟩
   ·rintro ⟨h,_⟩
    have:=(List.mem_filter.1 (List.mem_of_getLast? h)).1
    simpa using this
  | false =>
   simp only [List.not_mem_nil,false_iff,not_and]
   intro h
   have:=(List.mem_filter.1 (List.mem_of_getLast? h)).1
   simp only [List.mem_singleton] at this
   subst this
   simpa [nzC] using hn
 | a :: d :: l,c,h => by
  obtain ⟨h1,h2⟩:=List.pairwise_cons.1 h
  simp only [lastsW]
  have ea : smC a a = true:=by rw [smC_iff];exact ⟨rfl,rfl⟩
  cases hs : smC d a with
  | true =>
   simp only
   rw [lastsW_mem h2]
   cases hac : smC a c with
   | true =>
    have hdc : smC d c = true:=by rw [smC_iff] at *;omega
    rw [List.filter_cons_of_pos (l:=d :: l) (by exact hac),List.filter_cons_of_pos (by exact hdc),List.getLast?_cons_cons]
   | false => rw [List.filter_cons_of_neg (l:=d :: l) (by simp [hac])]
  | false =>
   have hnone : c = a → (d :: l).filter (fun d => smC d c) = []:=by
    rintro rfl
    rw [List.filter_eq_nil_iff]
    intro e he
    have:=head_lt h hs he
    rw [befC_iff] at this
    rw [smC_iff]
    omega
   have key : c ∈ lastsW (d :: l) ↔ ((a :: d :: l).filter fun d => smC d c).getLast? = some c ∧ ¬ c.2.2 = 0 ∧ c ≠ a:=by
    rw [lastsW_mem h2]
    cases hac : smC a c with
    | true =>
     rw [List.filter_cons_of_pos (l:=d :: l) (by exact hac)]
     have hn : (d :: l).filter (fun d => smC d c) = []:=by
      rw [List.filter_eq_nil_iff]
      intro e he
      have:=head_lt h hs he
      rw [befC_iff] at this
      rw [smC_iff] at *
      omega
     rw [hn]
     simp
     intro h;subst h;simp
    | false =>
     rw [List.filter_cons_of_neg (l:=d :: l) (by simp [hac])]
     constructor
     ·rintro ⟨q1,q2⟩
      exact ⟨q1,q2,fun e => by subst e;rw [ea] at hac;cases hac⟩
     ·rintro ⟨q1,q2,_⟩;exact ⟨q1,q2⟩
   cases hn : nzC a with
   | true =>
    simp only [List.mem_cons,key]
    constructor
    ·rintro (rfl | ⟨q1,q2,_⟩)
     ·refine ⟨?_,by simpa [nzC] using hn⟩
      rw [List.filter_cons_of_pos (l:=d :: l) (by exact ea),hnone rfl];rfl
     ·exact ⟨q1,q2⟩
    ·rintro ⟨q1,q2⟩
     by_cases e : c = a
     ·exact .inl e
     ·exact .inr ⟨q1,q2,e⟩
   | false =>
    simp only [key]
    constructor
    ·rintro ⟨q1,q2,_⟩;exact ⟨q1,q2⟩
    ·rintro ⟨q1,q2⟩
     refine ⟨q1,q2,fun e => ?_⟩
     subst e
     exact q2 (by simpa [nzC] using hn)
theorem Srt.canon {l s : List Cel} (h : Srt l s) : lastsW s = canonC l :=
 ord_unique (lastsW_ord h.ord) (canonC_ord l) fun c => by rw [lastsW_mem h.ord,canonC_mem,h.at_]
end Go.Proofs.YtpffkpaiihcffaaGreatDoor.VM
end
section
namespace Go.Proofs.YtpffkpaiihcffaaGreatDoor.VM
def upA (h : Int) (V : Nat) : List Cel:=(List.range (V + 2)).flatMap fun (i : Nat) => (if (i : Int) - V ≤ 0 then [(h + 1,(i : Int) - V,10)] else []) ++ [(h + 2,(i : Int) - V,18)]
def rowA (n : Nat) : List Cel:=(List.range n).map fun (x : Nat) => ((x : Int),0,9)
def rowB (n : Nat) : List Cel:=(List.range n).map fun (x : Nat) => ((x : Int),1,17)
def wiresP (h : Nat) : Option Nat → List Cel
 | none => rowA (h + 1) ++ rowB (h + 1)
 | some V => upA h V ++ (rowA (h + 1) ++ rowB (h + 2))
def rowD (n : Nat) : List Cel:=(List.range n).flatMap fun (x : Nat) => [((x : Int),0,9),((x : Int),1,17)]
def upD (h : Int) (n : Nat) : List Cel:=(List.range n).flatMap fun (y : Nat) => [(h + 1,-(y : Int),10),(h + 2,-(y : Int),18)]
def wiresD (h : Nat) : Option Nat → List Cel
 | none => rowD (h + 1)
 | some V => rowD (h + 1) ++ ([((h : Int) + 1,1,17),((h : Int) + 2,1,18)] ++ upD h (V + 1))
theorem rowA_mem {n : Nat} {c : Cel} : c ∈ rowA n ↔ 0 ≤ c.1 ∧ c.1 < n ∧ c.2 = (0,9):=by
 obtain ⟨x,y,s⟩:=c
 simp only [rowA,List.mem_map,List.mem_range,Prod.mk.injEq]
 constructor
 ·rintro ⟨i,hi,rfl,rfl,rfl⟩;exact ⟨by omega,by omega,rfl,rfl⟩
 ·rintro ⟨h1,h2,rfl,rfl⟩;exact ⟨x.toNat,by omega,by omega,rfl,rfl⟩
theorem rowB_mem {n : Nat} {c : Cel} : c ∈ rowB n ↔ 0 ≤ c.1 ∧ c.1 < n ∧ c.2 = (1,17):=by
 obtain ⟨x,y,s⟩:=c
 simp only [rowB,List.mem_map,List.mem_range,Prod.mk.injEq]
 constructor
 ·rintro ⟨i,hi,rfl,rfl,rfl⟩;exact ⟨by omega,by omega,rfl,rfl⟩
 ·rintro ⟨h1,h2,rfl,rfl⟩;exact ⟨x.toNat,by omega,by omega,rfl,rfl⟩
theorem rowD_mem {n : Nat} {c : Cel} : c ∈ rowD n ↔ 0 ≤ c.1 ∧ c.1 < n ∧ (c.2 = (0,9) ∨ c.2 = (1,17)):=by
 obtain ⟨x,y,s⟩:=c
 simp only [rowD,List.mem_flatMap,List.mem_range,List.mem_cons,List.not_mem_nil,or_false,Prod.mk.injEq]
 constructor
 ·rintro ⟨i,hi,⟨rfl,rfl,rfl⟩ | ⟨rfl,rfl,rfl⟩⟩
  ·exact ⟨by omega,by omega,.inl ⟨rfl,rfl⟩⟩
  ·exact ⟨by omega,by omega,.inr ⟨rfl,rfl⟩⟩
 ·rintro ⟨h1,h2,⟨rfl,rfl⟩ | ⟨rfl,rfl⟩⟩
  ·exact ⟨x.toNat,by omega,.inl ⟨by omega,rfl,rfl⟩⟩
  ·exact ⟨x.toNat,by omega,.inr ⟨by omega,rfl,rfl⟩⟩
theorem upA_mem {h : Int} {V : Nat} {c : Cel} : c ∈ upA h V ↔ (c.1 = h + 1 ∧ -(V : Int) ≤ c.2.1 ∧ c.2.1 ≤ 0 ∧ c.2.2 = 10) ∨ (c.1 = h + 2 ∧ -(V : Int) ≤ c.2.1 ∧ c.2.1 ≤ 1 ∧ c.2.2 = 18):=by
 obtain ⟨x,y,s⟩:=c
 simp only [upA,List.mem_flatMap,List.mem_range,List.mem_append,List.mem_singleton,Prod.mk.injEq]
 constructor
 ·rintro ⟨i,hi,hm | ⟨rfl,rfl,rfl⟩⟩
  ·split at hm
   ·simp only [List.mem_singleton,Prod.mk.injEq] at hm
    obtain ⟨rfl,rfl,rfl⟩:=hm
    exact .inl ⟨rfl,by omega,by omega,rfl⟩
   ·cases hm
  ·exact .inr ⟨rfl,by omega,by omega,rfl⟩
 ·rintro (⟨rfl,h1,h2,rfl⟩ | ⟨rfl,h1,h2,rfl⟩)
  ·refine ⟨(y + V).toNat,by omega,.inl ?_⟩
   rw [if_pos (by omega)]
   simp only [List.mem_singleton,Prod.mk.injEq,and_true,true_and];omega
  ·exact ⟨(y + V).toNat,by omega,.inr ⟨rfl,by omega,rfl⟩⟩
theorem upD_mem {h : Int} {n : Nat} {c : Cel} : c ∈ upD h n ↔ -(n : Int) < c.2.1 ∧ c.2.1 ≤ 0 ∧ ((c.1 = h + 1 ∧ c.2.2 = 10) ∨ (c.1 = h + 2 ∧ c.2.2 = 18)):=by
 obtain ⟨x,y,s⟩:=c
 simp only [upD,List.mem_flatMap,List.mem_range,List.mem_cons,List.not_mem_nil,or_false,Prod.mk.injEq]
 constructor
 ·rintro ⟨i,hi,⟨rfl,rfl,rfl⟩ | ⟨rfl,rfl,rfl⟩⟩
  ·exact ⟨by omega,by omega,.inl ⟨rfl,rfl⟩⟩
  ·exact ⟨by omega,by omega,.inr ⟨rfl,rfl⟩⟩
 ·rintro ⟨h1,h2,⟨rfl,rfl⟩ | ⟨rfl,rfl⟩⟩
  ·exact ⟨(-y).toNat,by omega,.inl ⟨rfl,by omega,rfl⟩⟩
  ·exact ⟨(-y).toNat,by omega,.inr ⟨rfl,by omega,rfl⟩⟩
theorem rowA_apart (n : Nat) : ApartC (rowA n):=List.pairwise_map.2 (List.pairwise_lt_range.imp fun {a b} h => by rw [smC_no];simp only;omega)
theorem rowB_apart (n : Nat) : ApartC (rowB n):=List.pairwise_map.2 (List.pairwise_lt_range.imp fun {a b} h => by rw [smC_no];simp only;omega)
theorem rowD_apart (n : Nat) : ApartC (rowD n):=List.pairwise_flatMap.2 ⟨fun a _ => by simp [smC],List.pairwise_lt_range.imp fun {a b} h x hx y hy => by
 simp only [List.mem_cons,List.not_mem_nil,or_false] at hx hy
 rw [smC_no]
 rcases hx with rfl | rfl <;> rcases hy with rfl | rfl <;> simp only <;> omega⟩
theorem upD_apart (h : Int) (n : Nat) : ApartC (upD h n):=List.pairwise_flatMap.2 ⟨fun a _ => by
 refine List.pairwise_cons.2 ⟨fun b hb => ?_,by simp⟩
 simp only [List.mem_singleton] at hb
 subst hb;rw [smC_no];simp only;omega,List.pairwise_lt_range.imp fun {a b} h x hx y hy => by
 simp only [List.mem_cons,List.not_mem_nil,or_false] at hx hy
 rw [smC_no]
 rcases hx with rfl | rfl <;> rcases hy with rfl | rfl <;> simp only <;> omega⟩
theorem upA_apart (hh : Int) (V : Nat) : ApartC (upA hh V):=List.pairwise_flatMap.2 ⟨fun a _ => by
 split
 ·refine List.pairwise_cons.2 ⟨fun b hb => ?_,by simp⟩
  simp at hb
  subst hb;rw [smC_no];simp only;omega
 ·simp,List.pairwise_lt_range.imp fun {a b} h x hx y hy => by
 have e : ∀ {i : Nat} {c : Cel},c ∈ ((if (i : Int) - V ≤ 0 then [(hh + 1,(i : Int) - V,10)] else []) ++ [(hh + 2,(i : Int) - V,18)] : List Cel) → c.2.1 = (i : Int) - V:=by
  intro i c hc
  rcases List.mem_append.1 hc with hc | hc
  ·split at hc
   ·simp only [List.mem_singleton] at hc;subst hc;rfl
   ·cases hc
  ·simp only [List.mem_singleton] at hc;subst hc;rfl
 have h1:=e hx
 have h2:=e hy
 rw [smC_no];omega⟩
theorem wires_same (h : Nat) (v : Option Nat) : ∀ c,c ∈ wiresP h v ↔ c ∈ wiresD h v:=by
 intro c
 obtain ⟨x,y,s⟩:=c
 cases v with
 | none =>
  simp only [wiresP,wiresD,List.mem_append,rowA_mem,rowB_mem,rowD_mem,Prod.mk.injEq]
  omega
 | some V =>
  simp only [wiresP,wiresD,List.mem_append,rowA_mem,rowB_mem,rowD_mem,upA_mem,upD_mem,Prod.mk.injEq,List.mem_cons,List.not_mem_nil,or_false]
  omega
theorem wiresP_apart (h : Nat) (v : Option Nat) : ApartC (wiresP h v):=by
 have ab : ∀ n m,ApartC (rowA n ++ rowB m):=fun n m => List.pairwise_append.2 ⟨rowA_apart n,rowB_apart m,fun a ha b hb => by
  obtain ⟨_,_,e1⟩:=rowA_mem.1 ha
  obtain ⟨_,_,e2⟩:=rowB_mem.1 hb
  rw [smC_no,e1,e2];simp⟩
 cases v with
 | none => exact ab _ _
 | some V =>
  refine List.pairwise_append.2 ⟨upA_apart _ _,ab _ _,fun a ha b hb => ?_⟩
  rw [upA_mem] at ha
  rw [List.mem_append,rowA_mem,rowB_mem] at hb
  obtain ⟨x,y,s⟩:=a
  obtain ⟨x',y',s'⟩:=b
  simp only [Prod.mk.injEq] at ha hb
  rw [smC_no];simp only
  omega
theorem wiresD_apart (h : Nat) (v : Option Nat) : ApartC (wiresD h v):=by
 cases v with
 | none => exact rowD_apart _
 | some V =>
  refine List.pairwise_append.2 ⟨rowD_apart _,List.pairwise_append.2 ⟨?_,upD_apart _ _,fun a ha b hb => ?_⟩,fun a ha b hb => ?_⟩
  ·refine List.pairwise_cons.2 ⟨fun b hb => ?_,by simp⟩
   simp only [List.mem_singleton] at hb
   subst hb;rw [smC_no];simp only;omega
  ·rw [upD_mem] at hb
   simp only [List.mem_cons,List.not_mem_nil,or_false] at ha
   rw [smC_no]
   rcases ha with rfl | rfl <;> simp only <;> omega
  ·rw [rowD_mem] at ha
   simp only [List.mem_append,upD_mem,List.mem_cons,List.not_mem_nil,or_false] at hb
   obtain ⟨x,y,s⟩:=a
   obtain ⟨x',y',s'⟩:=b
   simp only [Prod.mk.injEq] at ha hb
   rw [smC_no];simp only
   omega
theorem wires_canon (h : Nat) (v : Option Nat) : canonC (wiresP h v) = canonC (wiresD h v):=canonC_same (wiresP_apart h v) (wiresD_apart h v) (wires_same h v)
end Go.Proofs.YtpffkpaiihcffaaGreatDoor.VM
end
section
namespace Go.Proofs.YtpffkpaiihcffaaGreatDoor.VM
open Go
def celF : List FV → Option Cel
 | [.int .i64 x,.int .i64 y,.int .i64 s] => some (x,y,s)
 | _ => none
def celsF : List (List FV) → Option (List Cel)
 | [] => some []
 | r :: rs => bindO (celF r) fun c => bindO (celsF rs) fun cs => some (c :: cs)
def cellF (c : Cel) : List FV:=[.int .i64 c.1,.int .i64 c.2.1,.int .i64 c.2.2]
def farC (c : Cel) : Bool:=decide (c.1 < -1073741824) || (decide (1073741824 < c.1) || (decide (c.2.1 < -1073741824) || decide (1073741824 < c.2.1)))
def stateC (s : Int) : Bool:=decide (0 ≤ s) && decide (s < 29)
def errC : List Cel → Int
 | [] => 0
 | c :: l => match farC c with | true => 13 | false => match stateC c.2.2 with | false => 11 | true => errC l
def outC (l : List Cel) : FV:=match l with | [] => .nilS | _ :: _ => .arr (l.map cellF)
def canonA (cs : List Cel) : FV:=match decide (errC cs = 0) with
 | false => .tup [.nilS,.int .i64 (errC cs)]
 | true => match decide ((canonC cs).length ≤ 65536) with
  | true => .tup [outC (canonC cs),.int .i64 0]
  | false => .tup [.nilS,.int .i64 14]
def canonOv : List FV → Option FV
 | [.agg [.int .i64 0,_],l] => bindO (asRows l) fun r => bindO (celsF r) fun cs => gB (decide (cs.length ≤ 1000000)) (some (canonA cs))
 | _ => none
def lookC : Option Cel → List Cel → Int
 | _,[] => 0
 | p,c :: l => match farC c with
  | true => 13
  | false => match stateC c.2.2 && !decide (c.2.2 = 0) with
   | false => 11
   | true => match (match p with | none => true | some d => befC d c) with
    | false => 12
    | true => lookC (some c) l
def properC (l : List Cel) : Int:=match decide (lookC none l = 0) with
 | false => lookC none l
 | true => match decide (l.length ≤ 65536) with | true => 0 | false => 14
def quietC (s : Int) : Bool:=decide (s = 9) || (decide (s = 10) || (decide (s = 11) || (decide (s = 12) || (decide (s = 17) || (decide (s = 18) || (decide (s = 19) || (decide (s = 20) || decide (s = 25))))))))
def inC (c : Cel) : Bool:=decide (2 ≤ c.1) && (decide (c.1 ≤ 57) && (decide (-56 ≤ c.2.1) && decide (c.2.1 ≤ -1)))
def fieldC : List Cel → Int
 | [] => 0
 | c :: l => match quietC c.2.2 with | false => 82 | true => match inC c with | false => 81 | true => fieldC l
def padC {α : Type} (n : Nat) (z : α) (l : List α) : List α:=l ++ List.replicate (n - l.length) z
def setCol (l : List Int) (k : Nat) (s : Int) : List Int:=(padC (k + 1) 0 l).set k s
def addCol (cols : List (List Int)) (c : Cel) : List (List Int) :=
 (padC ((c.1 - 2).toNat + 1) [] cols).set (c.1 - 2).toNat (setCol ((padC ((c.1 - 2).toNat + 1) [] cols).getD (c.1 - 2).toNat []) (-c.2.1 - 1).toNat c.2.2)
def colsOf (l : List Cel) : List (List Int):=l.foldl addCol []
def colF (l : List Int) : FV:=match l with | [] => .nilS | _ :: _ => .arr (l.map fun s => [.int .i64 s])
def colsF (l : List (List Int)) : FV:=match l with | [] => .nilS | _ :: _ => .arr (l.map fun c => [colF c])
def readA (cs : List Cel) : FV:=match decide (properC cs = 0) with
 | false => .tup [.agg [.nilS],.int .i64 (properC cs)]
 | true => match decide (fieldC cs = 0) with
  | false => .tup [.agg [.nilS],.int .i64 (fieldC cs)]
  | true => .tup [.agg [colsF (colsOf cs)],.int .i64 0]
def readOv : List FV → Option FV
 | [l] => bindO (asRows l) fun r => bindO (celsF r) fun cs => gB (decide (cs.length ≤ 1000000)) (some (readA cs))
 | _ => none
end Go.Proofs.YtpffkpaiihcffaaGreatDoor.VM
end
section
namespace Go.Proofs.YtpffkpaiihcffaaGreatDoor.VM
def trn (A B : List UInt8) (n : Nat) : List Cel:=(List.range n).flatMap fun (i : Nat) => [(-1 - (i : Int),0,if A[i]? = some 49 then 13 else 9),(-1 - (i : Int),1,if B[i]? = some 49 then 21 else 17)]
theorem trn_succ (A B : List UInt8) (n : Nat) : trn A B (n + 1) = trn A B n ++ [(-1 - (n : Int),0,if A[n]? = some 49 then 13 else 9),(-1 - (n : Int),1,if B[n]? = some 49 then 21 else 17)]:=by simp [trn,List.range_succ]
theorem trn_len (A B : List UInt8) : ∀ n : Nat,(trn A B n).length = 2 * n
 | 0 => rfl
 | n + 1 => by rw [trn_succ,List.length_append,trn_len A B n];simp;omega
theorem trn_mem {A B : List UInt8} {n : Nat} {c : Cel} (h : c ∈ trn A B n) : -(n : Int) ≤ c.1 ∧ c.1 < 0 ∧ 0 ≤ c.2.1 ∧ c.2.1 ≤ 1 ∧ 9 ≤ c.2.2 ∧ c.2.2 ≤ 21:=by
 obtain ⟨x,y,s⟩:=c
 simp only [trn,List.mem_flatMap,List.mem_range,List.mem_cons,List.not_mem_nil,or_false,Prod.mk.injEq] at h
 obtain ⟨i,hi,⟨rfl,rfl,rfl⟩ | ⟨rfl,rfl,rfl⟩⟩:=h
 ·refine ⟨by simp only;omega,by simp only;omega,by simp,by simp,?_,?_⟩ <;> simp only <;> split <;> omega
 ·refine ⟨by simp only;omega,by simp only;omega,by simp,by simp,?_,?_⟩ <;> simp only <;> split <;> omega
theorem trn_apart (A B : List UInt8) (n : Nat) : ApartC (trn A B n):=List.pairwise_flatMap.2 ⟨fun a _ => by
 refine List.pairwise_cons.2 ⟨fun b hb => ?_,by simp⟩
 simp only [List.mem_singleton] at hb
 subst hb;rw [smC_no];simp only;omega,List.pairwise_lt_range.imp fun {a b} h x hx y hy => by
 simp only [List.mem_cons,List.not_mem_nil,or_false] at hx hy
 rw [smC_no]
 rcases hx with rfl | rfl <;> rcases hy with rfl | rfl <;> simp only <;> omega⟩
theorem wiresP_pos {h : Nat} {v : Option Nat} {c : Cel} (hc : c ∈ wiresP h v) : 0 ≤ c.1 ∧ ¬ c.2.2 = 0:=by
 obtain ⟨x,y,s⟩:=c
 cases v with
 | none =>
  simp only [wiresP,List.mem_append,rowA_mem,rowB_mem,Prod.mk.injEq] at hc
  simp only;omega
 | some V =>
  simp only [wiresP,List.mem_append,rowA_mem,rowB_mem,upA_mem,Prod.mk.injEq] at hc
  simp only;omega
theorem loaded_canon (h : Nat) (v : Option Nat) (A B : List UInt8) (n : Nat) : canonC (wiresP h v ++ trn A B n) = canonC (trn A B n ++ canonC (wiresD h v)):=by
 have far : ∀ {a b : Cel},a.1 < 0 → 0 ≤ b.1 → smC a b = false:=fun h1 h2 => by rw [smC_no];omega
 have inD : ∀ c,c ∈ canonC (wiresD h v) ↔ c ∈ wiresP h v:=fun c => by
  rw [← wires_canon,canonC_apart (wiresP_apart h v)]
  exact ⟨fun q => q.1,fun q => ⟨q,(wiresP_pos q).2⟩⟩
 refine canonC_same (List.pairwise_append.2 ⟨wiresP_apart h v,trn_apart A B n,fun a ha b hb => ?_⟩) (List.pairwise_append.2 ⟨trn_apart A B n,ord_apart (canonC_ord _),fun a ha b hb => ?_⟩) fun c => ?_
 ·exact smC_symm (far (trn_mem hb).2.1 (wiresP_pos ha).1)
 ·exact far (trn_mem ha).2.1 (wiresP_pos ((inD b).1 hb)).1
 ·rw [List.mem_append,List.mem_append,inD];exact or_comm
end Go.Proofs.YtpffkpaiihcffaaGreatDoor.VM
end
