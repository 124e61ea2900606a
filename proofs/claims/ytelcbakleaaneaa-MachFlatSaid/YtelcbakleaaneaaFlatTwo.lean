/- Steps of the proof: Nets that CheckNet lets pass: what is known of them. A net's step: what the parts say does not hang on the order. A net's step: rows depend on the parts ahead; letters fit. A net's step: every part's row is there, and its letters fit. A net's step, as the document takes it. A net's step, as the document takes it: all parts. A net's step, as the document takes it: what is under way then. A net's step, as the document takes it: the whole. A net's step, as the program takes it: the letters given so far, in a map. A net's step, as the program takes it: what the map of letters holds. A net's step, as the program takes it: its loops. A net's step, as the program takes it: a part. A net's step, as the program takes it: the whole. Runs of nets: the beginning, and the ports of the net's own pins. Runs of nets, in both programs; the law MachNets; Two machines apart: letters by their numbers; rows turned round; sizes; Two machines apart: the search; Two machines apart: both programs' searches side by side; Two machines apart: the whole; the law MachDiffer. -/
import Derived.Test.YtelcbakleaaneaaFlatOne
import Derived.KernelRfl
set_option linter.unusedVariables false
set_option linter.unusedSimpArgs false
set_option linter.unusedSectionVars false
section
section
namespace Go.Proofs.Ytelcbakleaaneaa
open Go Go.Proofs.Ytelcbakleaaneaa.VM
structure OkL (ms:List TMach) (ps:List TPart) (l:TLink):Prop where
 out:isOutB ms ps l.1 = true
 inn:isInB ms ps l.2.1 = true
 del:0 ≤ l.2.2.1 ∧ l.2.2.1 ≤ 100
 len:((li l.2.2.2.1).length:Int) = l.2.2.1
 init:initOk (li (outAt ms ps l.1).2.1).length (li l.2.2.2.1) = true
 fit:(li (outAt ms ps l.1).2.1).length ≤ (li (inAt ms ps l.2.1).2.1).length
theorem linkC_ok {ms:List TMach} {ps:List TPart} {s:List TPin} {l:TLink} (h:linkC ms ps s l = 0):OkL ms ps l ∧ l.2.1 ∉ s:=by
 unfold linkC at h
 by_cases g1:isOutB ms ps l.1 = false
 ·rw [if_pos g1] at h;omega
 rw [if_neg g1] at h
 by_cases g2:isInB ms ps l.2.1 = false
 ·rw [if_pos g2] at h;omega
 rw [if_neg g2] at h
 by_cases g3:l.2.2.1 < 0
 ·rw [if_pos g3] at h;omega
 rw [if_neg g3] at h
 by_cases g4:100 < l.2.2.1
 ·rw [if_pos g4] at h;omega
 rw [if_neg g4] at h
 by_cases g5:((li l.2.2.2.1).length:Int) ≠ l.2.2.1
 ·rw [if_pos g5] at h;omega
 rw [if_neg g5] at h
 by_cases g6:initOk (li (outAt ms ps l.1).2.1).length (li l.2.2.2.1) = false
 ·rw [if_pos g6] at h;omega
 rw [if_neg g6] at h
 by_cases g7:(li (inAt ms ps l.2.1).2.1).length < (li (outAt ms ps l.1).2.1).length
 ·rw [if_pos g7] at h;omega
 rw [if_neg g7] at h
 by_cases g8:l.2.1 ∈ s
 ·rw [if_pos g8] at h;omega
 exact ⟨⟨by simpa using g1,by simpa using g2,⟨by omega,by omega⟩,Decidable.not_not.1 g5,by simpa using g6,by omega⟩,g8⟩
theorem nodup_snoc {α:Type} {s:List α} {a:α} (h:s.Nodup) (ha:a ∉ s):(s ++ [a]).Nodup:=by
 rw [List.nodup_append]
 exact ⟨h,by simp,fun x hx y hy => by simp at hy;subst hy;exact fun e => ha (e ▸ hx)⟩
theorem linksGo_ok {ms:List TMach} {ps:List TPart}:∀ (ls:List TLink) (s:List TPin),linksGo ms ps s ls = 0 → s.Nodup → (∀ l ∈ ls,OkL ms ps l) ∧ (s ++ fed ls).Nodup
 | [],s,_,hs => ⟨fun l hl => (by cases hl),by simpa [fed] using hs⟩
 | l :: ls,s,h,hs => by
  simp only [linksGo] at h
  by_cases g:linkC ms ps s l ≠ 0
  ·rw [if_pos g] at h;exact absurd h g
  rw [if_neg g] at h
  obtain ⟨k1,k2⟩:=linkC_ok (Decidable.not_not.1 g)
  obtain ⟨j1,j2⟩:=linksGo_ok ls _ h (nodup_snoc hs k2)
  refine ⟨fun x hx => ?_,?_⟩
  ·rcases List.mem_cons.1 hx with rfl | hx
   ·exact k1
   ·exact j1 x hx
  ·simpa [fed] using j2
theorem insGo_ok {ms:List TMach} {ps:List TPart}:∀ (l s:List TPin),insGo ms ps s l = 0 → s.Nodup → (∀ p ∈ l,isInB ms ps p = true) ∧ (s ++ l).Nodup
 | [],s,_,hs => ⟨fun l hl => (by cases hl),by simpa using hs⟩
 | p :: l,s,h,hs => by
  simp only [insGo] at h
  by_cases g1:isInB ms ps p = false
  ·rw [if_pos g1] at h;omega
  rw [if_neg g1] at h
  by_cases g2:p ∈ s
  ·rw [if_pos g2] at h;omega
  rw [if_neg g2] at h
  obtain ⟨j1,j2⟩:=insGo_ok l _ h (nodup_snoc hs g2)
  refine ⟨fun x hx => ?_,?_⟩
  ·rcases List.mem_cons.1 hx with rfl | hx
   ·simpa using g1
   ·exact j1 x hx
  ·simpa using j2
theorem outsGo_ok {ms:List TMach} {ps:List TPart}:∀ (l s:List TPin),outsGo ms ps s l = 0 → ∀ p ∈ l,isOutB ms ps p = true
 | [],s,_ => fun l hl => by cases hl
 | p :: l,s,h => by
  simp only [outsGo] at h
  by_cases g1:isOutB ms ps p = false
  ·rw [if_pos g1] at h;omega
  rw [if_neg g1] at h
  by_cases g2:p ∈ s
  ·rw [if_pos g2] at h;omega
  rw [if_neg g2] at h
  intro x hx
  rcases List.mem_cons.1 hx with rfl | hx
  ·simpa using g1
  ·exact outsGo_ok l _ h x hx
theorem allTo_all {f:Nat → Bool} {n k:Nat} (h:allTo f n k = true) {i:Nat} (h1:k ≤ i) (h2:i < n):f i = true:=by
 unfold allTo at h
 rw [List.all_eq_true] at h
 exact h i (by rw [List.mem_range'_1];omega)
theorem machinesGo_ok:∀ (l:List TMach) (s:List Str),machinesGo s l = 0 → ∀ m ∈ l,checkP m = 0
 | [],_,_ => fun m hm => by cases hm
 | m :: l,s,h => by
  simp only [machinesGo] at h
  by_cases g1:checkP m ≠ 0
  ·rw [if_pos g1] at h;exact absurd h g1
  rw [if_neg g1] at h
  by_cases g2:m.1 ∈ s
  ·rw [if_pos g2] at h;omega
  rw [if_neg g2] at h
  intro x hx
  rcases List.mem_cons.1 hx with rfl | hx
  ·exact Decidable.not_not.1 g1
  ·exact machinesGo_ok l _ h x hx
structure OkN (ms:List TMach) (ps:List TPart) (ls:List TLink) (is os:List TPin):Prop where
 n32:1 ≤ ps.length ∧ ps.length ≤ 32
 pin:PartsIn ms.length ps
 l64:ls.length ≤ 64
 lok:∀ l ∈ ls,OkL ms ps l
 iok:∀ p ∈ is,isInB ms ps p = true
 nd:(fed ls ++ is).Nodup
 ook:∀ p ∈ os,isOutB ms ps p = true
 whole:∀ a b:Nat,a < ps.length → b < (insAt ms ps (a:Int)).length → ((a:Int),(b:Int),()) ∈ fed ls ++ is
 rank:Ranked (EE ls)
theorem okN {ms:List TMach} {nm:Str} {ps:List TPart} {ls:List TLink} {is os:List TPin} (h:netC ms nm ps ls is os = 0):OkN ms ps ls is os:=by
 unfold netC at h
 by_cases g1:isNm nm = false
 ·rw [if_pos g1] at h;omega
 rw [if_neg g1] at h
 by_cases g2:(ps.length:Int) = 0
 ·rw [if_pos g2] at h;omega
 rw [if_neg g2] at h
 by_cases g3:32 < (ps.length:Int)
 ·rw [if_pos g3] at h;omega
 rw [if_neg g3] at h
 by_cases g4:partsGo ms.length [] ps ≠ 0
 ·rw [if_pos g4] at h;exact absurd h g4
 rw [if_neg g4] at h
 by_cases g5:linksC ms ps ls is os ≠ 0
 ·rw [if_pos g5] at h;exact absurd h g5
 rw [if_neg g5] at h
 have hr:Ranked (EE ls):=by
  by_cases g:Ranked (EE ls)
  ·exact g
  ·unfold ordC at h
   have:(@ite Int (Ranked (EE ls)) (Classical.propDecidable _) 0 25) = 25:=if_neg g
   rw [this] at h;omega
 have h5:=Decidable.not_not.1 g5
 unfold linksC at h5
 by_cases k1:64 < ls.length
 ·rw [if_pos k1] at h5;omega
 rw [if_neg k1] at h5
 by_cases k2:linksGo ms ps [] ls ≠ 0
 ·rw [if_pos k2] at h5;exact absurd h5 k2
 rw [if_neg k2] at h5
 by_cases k3:insGo ms ps (fed ls) is ≠ 0
 ·rw [if_pos k3] at h5;exact absurd h5 k3
 rw [if_neg k3] at h5
 by_cases k4:outsGo ms ps [] os ≠ 0
 ·rw [if_pos k4] at h5;exact absurd h5 k4
 rw [if_neg k4] at h5
 have k5:wholeB ms ps (fed ls ++ is) = true:=by
  by_cases g:wholeB ms ps (fed ls ++ is) = true
  ·exact g
  ·rw [if_neg g] at h5;omega
 obtain ⟨j1,j2⟩:=linksGo_ok ls [] (Decidable.not_not.1 k2) (by simp)
 rw [List.nil_append] at j2
 obtain ⟨i1,i2⟩:=insGo_ok is (fed ls) (Decidable.not_not.1 k3) j2
 refine ⟨⟨by omega,by omega⟩,partsGo_in _ _ (Decidable.not_not.1 g4),by omega,j1,i1,i2,outsGo_ok os [] (Decidable.not_not.1 k4),fun a b ha hb => ?_,hr⟩
 have:=allTo_all k5 (Nat.zero_le a) ha
 have:=allTo_all this (Nat.zero_le b) hb
 simpa using this
end Go.Proofs.Ytelcbakleaaneaa
end
section
namespace Go.Proofs.Ytelcbakleaaneaa
open Go Go.Proofs.Ytelcbakleaaneaa.VM
section
variable {α:Type}
def upd (w:Nat → α) (p:Nat) (v:α):Nat → α:=fun i => if i = p then v else w i
theorem upd_at (w:Nat → α) (p:Nat) (v:α):upd w p v p = v:=by simp [upd]
theorem upd_ne (w:Nat → α) {p i:Nat} (v:α) (h:i ≠ p):upd w p v i = w i:=by simp [upd,h]
def wGo (F:(Nat → α) → Nat → α):List Nat → (Nat → α) → Nat → α
 | [],w => w
 | p :: o,w => wGo F o (upd w p (F w p))
theorem wGo_keep (F:(Nat → α) → Nat → α):∀ (o:List Nat) (w:Nat → α) (i:Nat),i ∉ o → wGo F o w i = w i
 | [],w,i,_ => rfl
 | p :: o,w,i,h => by
  simp only [wGo]
  rw [wGo_keep F o _ i (fun g => h (by simp [g])),upd_ne _ _ (fun e => h (by simp [e]))]
variable {E:Nat → Nat → Prop} {F:(Nat → α) → Nat → α} (hF:∀ (w w':Nat → α) p,(∀ u,E u p → w u = w' u) → F w p = F w' p)
include hF
theorem topo_pre {pre o:List Nat} {p:Nat} (ht:Topo E (pre ++ p :: o)) (hp:p ∉ pre) {u:Nat} (e:E u p):u ∈ pre:=by
 obtain ⟨h1,h2⟩:=ht u p e (by simp)
 by_cases g:u ∈ pre
 ·exact g
 ·rw [List.idxOf_append,List.idxOf_append,if_neg g,if_neg hp] at h2
  simp at h2
  omega
theorem wGo_solves:∀ (o pre:List Nat) (w:Nat → α),(pre ++ o).Nodup → Topo E (pre ++ o) → ∀ p ∈ o,wGo F o w p = F (wGo F o w) p
 | [],_,_,_,_ => fun p hp => by cases hp
 | q :: o,pre,w,hn,ht => by
  have hn':((pre ++ [q]) ++ o).Nodup:=by simpa using hn
  have ht':Topo E ((pre ++ [q]) ++ o):=by simpa using ht
  have hnd:=List.nodup_append.1 hn
  have hq:=List.nodup_cons.1 hnd.2.1
  have hqpre:q ∉ pre:=fun g => hnd.2.2 q g q (by simp) rfl
  intro p hp
  simp only [wGo]
  by_cases e:p = q
  ·subst e
   rw [wGo_keep F o _ p hq.1,upd_at]
   refine hF _ _ p fun u hu => ?_
   have hup:=topo_pre hF ht hqpre hu
   have hune:u ≠ p:=fun e => hqpre (e ▸ hup)
   have huo:u ∉ o:=fun g => hnd.2.2 u hup u (by simp [g]) rfl
   rw [wGo_keep F o _ u huo,upd_ne _ _ hune]
  ·have hpo:p ∈ o:=by
    rcases List.mem_cons.1 hp with h | h
    ·exact absurd h e
    ·exact h
   exact wGo_solves o (pre ++ [q]) (upd w q (F w q)) hn' ht' p hpo
theorem wGo_agree {W:Nat → α}:∀ (o pre:List Nat) (w:Nat → α),(pre ++ o).Nodup → Topo E (pre ++ o) → (∀ p ∈ o,W p = F W p) → (∀ i ∈ pre,w i = W i) → ∀ i ∈ pre ++ o,wGo F o w i = W i
 | [],pre,w,_,_,_,h => fun i hi => h i (by simpa using hi)
 | q :: o,pre,w,hn,ht,hW,h => by
  have hn':((pre ++ [q]) ++ o).Nodup:=by simpa using hn
  have ht':Topo E ((pre ++ [q]) ++ o):=by simpa using ht
  have hnd:=List.nodup_append.1 hn
  have hqpre:q ∉ pre:=fun g => hnd.2.2 q g q (by simp) rfl
  have hFq:F w q = W q:=by
   rw [hW q (by simp)]
   exact hF _ _ q fun u hu => h u (topo_pre hF ht hqpre hu)
  intro i hi
  simp only [wGo]
  refine wGo_agree o (pre ++ [q]) _ hn' ht' (fun p hp => hW p (by simp [hp])) (fun j hj => ?_) i (by simpa using hi)
  by_cases e:j = q
  ·subst e;rw [upd_at,hFq]
  ·rw [upd_ne _ _ e]
   exact h j (by
    rcases List.mem_append.1 hj with g | g
    ·exact g
    ·exact absurd (by simpa using g) e)
theorem wGo_same {n:Nat} {o o':List Nat} (h:Ord E n o) (h':Ord E n o') (w:Nat → α):wGo F o w = wGo F o' w:=by
 have hs:=wGo_solves hF o [] w (by simpa using h.nd) (by simpa using h.topo)
 funext i
 by_cases hi:i < n
 ·have:=wGo_agree hF (W:=wGo F o w) o' [] w (by simpa using h'.nd) (by simpa using h'.topo) (fun p hp => hs p (pig_all h.nd h.lt h.len p (h'.lt p hp))) (fun j hj => by cases hj) i (by simpa using pig_all h'.nd h'.lt h'.len i hi)
  exact this.symm
 ·rw [wGo_keep F o w i (fun g => hi (h.lt i g)),wGo_keep F o' w i (fun g => hi (h'.lt i g))]
end
def look (A:List (TPin × Int)) (p:TPin):Int:=((A.find? fun e => decide (e.1 = p)).map Prod.snd).getD 0
theorem look_hit {A:List (TPin × Int)} {p:TPin} {v:Int} (h:p ∉ A.map Prod.fst):look (A ++ [(p,v)]) p = v:=by
 have:A.find? (fun e => decide (e.1 = p)) = none:=by
  rw [List.find?_eq_none]
  intro e he
  simp only [decide_eq_true_eq]
  exact fun g => h (by rw [← g];exact List.mem_map_of_mem he)
 simp [look,List.find?_append,this]
theorem look_other {A:List (TPin × Int)} {p q:TPin} {v:Int} (h:q ≠ p):look (A ++ [(q,v)]) p = look A p:=by
 simp [look,List.find?_append,h]
theorem look_mem:∀ {A:List (TPin × Int)} {p:TPin} {v:Int},(A.map Prod.fst).Nodup → (p,v) ∈ A → look A p = v
 | [],_,_,_,h => by cases h
 | e :: A,p,v,hn,h => by
  rw [List.map_cons,List.nodup_cons] at hn
  rcases List.mem_cons.1 h with rfl | h
  ·simp [look]
  ·have:e.1 ≠ p:=fun g => hn.1 (g ▸ List.mem_map_of_mem (f:=Prod.fst) h)
   have ih:=look_mem hn.2 h
   simp only [look,List.find?_cons,this,decide_false] at ih ⊢
   exact ih
def linkVal (w:Nat → TRow) (q:List Int) (l:TLink):Int:=if l.2.2.1 = 0 then (li (w l.1.1.toNat).2.1).getD l.1.2.1.toNat 0 else q.getD 0 0
def srcLs (w:Nat → TRow) (ls:List TLink) (Q:List (List Int)):List (TPin × Int):=(ls.zip Q).map fun e => (e.1.2.1,linkVal w e.2 e.1)
def mAt (ms:List TMach) (ps:List TPart) (p:Nat):TMach:=ms.getD (ps.getD p ([],0,())).2.1.toNat ([],none,0,none,none,none,())
theorem insAt_mAt (ms:List TMach) (ps:List TPart) (p:Nat):insAt ms ps (p:Int) = li (mAt ms ps p).2.2.2.1:=rfl
theorem outsAt_mAt (ms:List TMach) (ps:List TPart) (p:Nat):outsAt ms ps (p:Int) = li (mAt ms ps p).2.2.2.2.1:=rfl
def vecOf (ms:List TMach) (ps:List TPart) (A:List (TPin × Int)) (p:Nat):List Int:=(List.range (insAt ms ps (p:Int)).length).map fun (k:Nat) => look A ((p:Int),(k:Int),())
def rowOf (ms:List TMach) (ps:List TPart) (is:List TPin) (x:List Int) (ls:List TLink) (Q:List (List Int)) (sts:List Int) (w:Nat → TRow) (p:Nat):TRow :=
 rowAt (insAt ms ps (p:Int)) (li (mAt ms ps p).2.2.2.2.2.1) (sts.getD p 0).toNat (vecOf ms ps (is.zip x ++ srcLs w ls Q) p)
end Go.Proofs.Ytelcbakleaaneaa
end
section
namespace Go.Proofs.Ytelcbakleaaneaa
open Go Go.Proofs.Ytelcbakleaaneaa.VM
theorem find_dep {w w':Nat → TRow} {pin:TPin}:∀ (L:List (TLink × List Int)),(∀ e ∈ L,e.1.2.1 = pin → linkVal w e.2 e.1 = linkVal w' e.2 e.1) →
  ((L.map fun e => ((e.1.2.1,linkVal w e.2 e.1):TPin × Int)).find? fun e => decide (e.1 = pin)) = ((L.map fun e => ((e.1.2.1,linkVal w' e.2 e.1):TPin × Int)).find? fun e => decide (e.1 = pin))
 | [],_ => rfl
 | e :: L,h => by
  have ih:=find_dep L (fun e he => h e (by simp [he]))
  simp only [List.map_cons,List.find?_cons]
  by_cases g:e.1.2.1 = pin
  ·simp only [g,decide_true]
   rw [h e (by simp) g]
  ·simp only [g,decide_false]
   exact ih
theorem rowOf_dep {ms:List TMach} {ps:List TPart} {is:List TPin} {x:List Int} {ls:List TLink} {Q:List (List Int)} {sts:List Int} (hE:EdgesIn ps.length ls) (w w':Nat → TRow) (p:Nat) (h:∀ u,EE ls u p → w u = w' u) :
  rowOf ms ps is x ls Q sts w p = rowOf ms ps is x ls Q sts w' p:=by
 unfold rowOf
 congr 1
 unfold vecOf
 refine List.map_congr_left fun k _ => ?_
 unfold look srcLs
 rw [List.find?_append,List.find?_append,find_dep (w:=w) (w':=w')]
 intro e he g
 have hl:e.1 ∈ ls:=(List.of_mem_zip he).1
 unfold linkVal
 by_cases g1:e.1.2.2.1 = 0
 ·rw [if_pos g1,if_pos g1]
  have hu:=h e.1.1.1.toNat ⟨e.1,hl,g1,by have:=(hE _ hl).1;omega,by rw [g]⟩
  rw [hu]
 ·rw [if_neg g1,if_neg g1]
theorem fitGo_of:∀ {ps:List TPort} {vs:List Int},(∀ (k:Nat) (p:TPort) (v:Int),ps[k]? = some p → vs[k]? = some v → 0 ≤ v ∧ v < ((li p.2.1).length:Int)) → fitGo ps vs = true
 | [],_,_ => by simp [fitGo]
 | _ :: _,[],_ => by simp [fitGo]
 | p :: ps,v :: vs,h => by
  have h0:=h 0 p v rfl rfl
  have ih:=fitGo_of (ps:=ps) (vs:=vs) fun k q u h1 h2 => h (k + 1) q u (by simpa using h1) (by simpa using h2)
  simp only [fitGo,h0.1,h0.2,decide_true,Bool.true_and,ih]
theorem fitGo_get:∀ {ps:List TPort} {vs:List Int},fitGo ps vs = true → ∀ (k:Nat) (p:TPort) (v:Int),ps[k]? = some p → vs[k]? = some v → 0 ≤ v ∧ v < ((li p.2.1).length:Int)
 | [],_,_ => fun k p v h1 _ => by simp at h1
 | _ :: _,[],_ => fun k p v _ h2 => by simp at h2
 | p :: ps,v :: vs,h => by
  simp only [fitGo,Bool.and_eq_true,decide_eq_true_eq] at h
  intro k q u h1 h2
  cases k with
  | zero => simp at h1 h2;subst h1;subst h2;exact h.1
  | succ k => exact fitGo_get h.2 k q u (by simpa using h1) (by simpa using h2)
structure SrcOk (ms:List TMach) (ps:List TPart) (A:List (TPin × Int)) (p:Nat):Prop where
 nd:(A.map Prod.fst).Nodup
 fit:∀ e ∈ A,e.1.1 = (p:Int) → 0 ≤ e.2 ∧ e.2 < ((li (inAt ms ps e.1).2.1).length:Int)
 all:∀ b:Nat,b < (insAt ms ps (p:Int)).length → ((p:Int),(b:Int),()) ∈ A.map Prod.fst
theorem vec_fit {ms:List TMach} {ps:List TPart} {A:List (TPin × Int)} {p:Nat} (h:SrcOk ms ps A p):fitP (insAt ms ps (p:Int)) (vecOf ms ps A p) = true:=by
 simp only [fitP,Bool.and_eq_true,decide_eq_true_eq]
 refine ⟨by simp [vecOf],fitGo_of fun k q v h1 h2 => ?_⟩
 have hk:k < (insAt ms ps (p:Int)).length:=by
  rcases Nat.lt_or_ge k (insAt ms ps (p:Int)).length with g | g
  ·exact g
  ·rw [List.getElem?_eq_none g] at h1;cases h1
 obtain ⟨e,he,hpin⟩:=List.mem_map.1 (h.all k hk)
 have hl:=look_mem (p:=e.1) (v:=e.2) h.nd he
 rw [hpin] at hl
 have hv:v = e.2:=by
  simp only [vecOf,List.getElem?_map,List.getElem?_range hk,Option.map_some,Option.some.injEq] at h2
  rw [← h2,hl]
 have hq:inAt ms ps e.1 = q:=by
  rw [hpin]
  simp only [inAt,List.getD_eq_getElem?_getD,Int.toNat_natCast,h1,Option.getD_some]
 have:=h.fit e he (by rw [hpin])
 rw [hq] at this
 rw [hv]
 exact this
structure StOk (ms:List TMach) (ps:List TPart) (ls:List TLink) (Q:List (List Int)) (sts:List Int):Prop where
 qlen:Q.length = ls.length
 qok:∀ (j:Nat) (l:TLink) (q:List Int),ls[j]? = some l → Q[j]? = some q → (q.length:Int) = l.2.2.1 ∧ ∀ v ∈ q,0 ≤ v ∧ v < ((li (outAt ms ps l.1).2.1).length:Int)
 slen:sts.length = ps.length
 sok:∀ p,p < ps.length → 0 ≤ sts.getD p 0 ∧ sts.getD p 0 < ((li (mAt ms ps p).2.1).length:Int)
theorem srcOk {ms:List TMach} {ps:List TPart} {ls:List TLink} {is os:List TPin} (h:OkN ms ps ls is os) {x:List Int} (hx:fitP (is.map (inAt ms ps)) x = true) {Q:List (List Int)} {sts:List Int} (hs:StOk ms ps ls Q sts)
  {w:Nat → TRow} {p:Nat} (hp:p < ps.length) (hw:∀ u,EE ls u p → fitP (outsAt ms ps (u:Int)) (li (w u).2.1) = true):SrcOk ms ps (is.zip x ++ srcLs w ls Q) p:=by
 simp only [fitP,Bool.and_eq_true,decide_eq_true_eq,List.length_map] at hx
 have hk1:(is.zip x).map Prod.fst = is:=List.map_fst_zip (by omega)
 have hk2:(srcLs w ls Q).map Prod.fst = fed ls:=by
  unfold srcLs fed
  rw [List.map_map,show (Prod.fst ∘ fun e:TLink × List Int => (e.1.2.1,linkVal w e.2 e.1)) = (fun l:TLink => l.2.1) ∘ Prod.fst from rfl,← List.map_map,List.map_fst_zip (by have:=hs.qlen;omega)]
 refine ⟨?_,?_,?_⟩
 ·rw [List.map_append,hk1,hk2]
  have:=h.nd
  rw [List.nodup_append] at this ⊢
  exact ⟨this.2.1,this.1,fun a ha b hb e => this.2.2 b hb a ha e.symm⟩
 ·intro e he hep
  rcases List.mem_append.1 he with he | he
  ·obtain ⟨k,hk⟩:=List.getElem?_of_mem he
   rw [List.getElem?_zip_eq_some] at hk
   exact fitGo_get hx.2 k (inAt ms ps e.1) e.2 (by rw [List.getElem?_map,hk.1];rfl) hk.2
  ·unfold srcLs at he
   obtain ⟨e',he',rfl⟩:=List.mem_map.1 he
   obtain ⟨k,hk⟩:=List.getElem?_of_mem he'
   rw [List.getElem?_zip_eq_some] at hk
   obtain ⟨q1,q2⟩:=hs.qok k e'.1 e'.2 hk.1 hk.2
   have hlm:=List.mem_of_getElem? hk.1
   have hl:=h.lok e'.1 hlm
   have hfit:=hl.fit
   have hdel:=hl.del
   simp only
   unfold linkVal
   by_cases g:e'.1.2.2.1 = 0
   ·rw [if_pos g]
    obtain ⟨o0,o1,o2,o3⟩:=isOutB_iff.1 hl.out
    have hu:=hw e'.1.1.1.toNat ⟨e'.1,hlm,g,by omega,hep⟩
    simp only [fitP,Bool.and_eq_true,decide_eq_true_eq] at hu
    have ecast:((e'.1.1.1.toNat:Nat):Int) = e'.1.1.1:=by omega
    rw [ecast] at hu
    have hk':e'.1.1.2.1.toNat < (outsAt ms ps e'.1.1.1).length:=by omega
    have hg1:(outsAt ms ps e'.1.1.1)[e'.1.1.2.1.toNat]? = some (outAt ms ps e'.1.1):=by
     simp only [outAt,List.getD_eq_getElem?_getD,List.getElem?_eq_getElem hk',Option.getD_some]
    have hk'':e'.1.1.2.1.toNat < (li (w e'.1.1.1.toNat).2.1).length:=by omega
    have:=fitGo_get hu.2 e'.1.1.2.1.toNat _ _ hg1 (List.getElem?_eq_getElem hk'')
    rw [List.getD_eq_getElem?_getD,List.getElem?_eq_getElem hk'',Option.getD_some]
    exact ⟨this.1,by omega⟩
   ·rw [if_neg g]
    have hq0:0 < e'.2.length:=by omega
    rw [List.getD_eq_getElem?_getD,List.getElem?_eq_getElem hq0,Option.getD_some]
    have:=q2 _ (List.getElem_mem hq0)
    exact ⟨this.1,by omega⟩
 ·intro b hb
  rw [List.map_append,hk1,hk2]
  have:=h.whole p b hp hb
  simp only [List.mem_append] at this ⊢
  exact this.symm
end Go.Proofs.Ytelcbakleaaneaa
end
section
namespace Go.Proofs.Ytelcbakleaaneaa
open Go Go.Proofs.Ytelcbakleaaneaa.VM
abbrev OkMs (ms:List TMach):Prop:=∀ m ∈ ms,OkM (li m.2.1) m.2.2.1 (li m.2.2.2.1) (li m.2.2.2.2.1) (li m.2.2.2.2.2.1)
theorem okMs {ms:List TMach} (h:machinesGo [] ms = 0):OkMs ms:=fun m hm => okM (machinesGo_ok ms [] h m hm)
theorem mAt_mem {ms:List TMach} {ps:List TPart} (h:PartsIn ms.length ps) {p:Nat} (hp:p < ps.length):mAt ms ps p ∈ ms:=by
 have h1:ps[p]? = some ps[p]:=List.getElem?_eq_getElem hp
 obtain ⟨k0,k1⟩:=h _ (List.mem_of_getElem? h1)
 have hm0:ps[p].2.1.toNat < ms.length:=by omega
 simp only [mAt,List.getD_eq_getElem?_getD,h1,Option.getD_some,List.getElem?_eq_getElem hm0]
 exact List.getElem_mem hm0
section
variable {ms:List TMach} {ps:List TPart} {ls:List TLink} {is os:List TPin} (h:OkN ms ps ls is os) (hms:OkMs ms) {x:List Int} (hx:fitP (is.map (inAt ms ps)) x = true) {Q:List (List Int)} {sts:List Int} (hs:StOk ms ps ls Q sts)
include h hms hx hs
theorem rowOf_ok {w:Nat → TRow} {p:Nat} (hp:p < ps.length) (hw:∀ u,EE ls u p → fitP (outsAt ms ps (u:Int)) (li (w u).2.1) = true) :
  fitP (insAt ms ps (p:Int)) (vecOf ms ps (is.zip x ++ srcLs w ls Q) p) = true ∧ rowOk (li (mAt ms ps p).2.1).length (outsAt ms ps (p:Int)) (rowOf ms ps is x ls Q sts w p) = true:=by
 have hf:=vec_fit (srcOk h hx hs hp hw)
 refine ⟨hf,?_⟩
 have hm:=hms _ (mAt_mem h.pin hp)
 obtain ⟨s1,s2⟩:=hs.sok p hp
 have hst:(sts.getD p 0).toNat < (li (mAt ms ps p).2.1).length:=by omega
 have:=rowAt_get hm hst (v:=vecOf ms ps (is.zip x ++ srcLs w ls Q) p) hf
 exact hm.rok _ (List.mem_of_getElem? this.1)
theorem sol_ok {W:Nat → TRow} (hW:∀ p,p < ps.length → W p = rowOf ms ps is x ls Q sts W p):∀ p,p < ps.length → fitP (outsAt ms ps (p:Int)) (li (W p).2.1) = true:=by
 obtain ⟨r,hr⟩:=h.rank
 have key:∀ (k p:Nat),r p < k → p < ps.length → fitP (outsAt ms ps (p:Int)) (li (W p).2.1) = true:=by
  intro k
  induction k with
  | zero => intro p hk;omega
  | succ k ih =>
   intro p hk hp
   have:=(rowOf_ok h hms hx hs hp (w:=W) (fun u hu => by
    have h1:=hr u p hu
    refine ih u (by omega) ?_
    obtain ⟨l,hl,_,e2,_⟩:=hu
    have:=isOutB_iff.1 (h.lok l hl).out
    omega)).2
   rw [← hW p hp] at this
   simp only [rowOk,Bool.and_eq_true] at this
   exact this.2
 exact fun p hp => key (r p + 1) p (by omega) hp
end
theorem edges {ms:List TMach} {ps:List TPart} {ls:List TLink} {is os:List TPin} (h:OkN ms ps ls is os):EdgesIn ps.length ls:=fun l hl => by
 have h1:=isOutB_iff.1 (h.lok l hl).out
 have h2:=isInB_iff.1 (h.lok l hl).inn
 exact ⟨h1.1,h1.2.1,h2.1,h2.2.1⟩
def nextS (n:Nat) (W:Nat → TRow):List Int:=(List.range n).map fun p => (W p).1
def nextQ (W:Nat → TRow) (ls:List TLink) (Q:List (List Int)):List (List Int):=(ls.zip Q).map fun e => if 0 < e.1.2.2.1 then e.2.drop 1 ++ [(li (W e.1.1.1.toNat).2.1).getD e.1.1.2.1.toNat 0] else []
def shown (W:Nat → TRow) (os:List TPin):List Int:=os.map fun p => (li (W p.1.toNat).2.1).getD p.2.1.toNat 0
theorem next_ok {ms:List TMach} {ps:List TPart} {ls:List TLink} {is os:List TPin} (h:OkN ms ps ls is os) (hms:OkMs ms) {x:List Int} (hx:fitP (is.map (inAt ms ps)) x = true) {Q:List (List Int)} {sts:List Int} (hs:StOk ms ps ls Q sts)
  {W:Nat → TRow} (hW:∀ p,p < ps.length → W p = rowOf ms ps is x ls Q sts W p):StOk ms ps ls (nextQ W ls Q) (nextS ps.length W):=by
 have hfit:=sol_ok h hms hx hs hW
 refine ⟨by have:=hs.qlen;simp only [nextQ,List.length_map,List.length_zip];omega,?_,by simp [nextS],?_⟩
 ·intro j l q h1 h2
  simp only [nextQ,List.getElem?_map,Option.map_eq_some_iff] at h2
  obtain ⟨e,he,rfl⟩:=h2
  rw [List.getElem?_zip_eq_some] at he
  have hel:e.1 = l:=by rw [he.1] at h1;exact Option.some.inj h1
  obtain ⟨q1,q2⟩:=hs.qok j e.1 e.2 he.1 he.2
  have hlm:=List.mem_of_getElem? he.1
  have hl:=h.lok e.1 hlm
  obtain ⟨o0,o1,o2,o3⟩:=isOutB_iff.1 hl.out
  have hdel:=hl.del
  rw [hel] at *
  by_cases g:0 < l.2.2.1
  ·rw [if_pos g]
   refine ⟨by simp;omega,fun v hv => ?_⟩
   rcases List.mem_append.1 hv with hv | hv
   ·exact q2 v (List.mem_of_mem_drop hv)
   ·simp only [List.mem_singleton] at hv
    have hu:=hfit l.1.1.toNat (by omega)
    simp only [fitP,Bool.and_eq_true,decide_eq_true_eq] at hu
    rw [show ((l.1.1.toNat:Nat):Int) = l.1.1 by omega] at hu
    have hk':l.1.2.1.toNat < (outsAt ms ps l.1.1).length:=by omega
    have hg1:(outsAt ms ps l.1.1)[l.1.2.1.toNat]? = some (outAt ms ps l.1):=by
     simp only [outAt,List.getD_eq_getElem?_getD,List.getElem?_eq_getElem hk',Option.getD_some]
    have hk'':l.1.2.1.toNat < (li (W l.1.1.toNat).2.1).length:=by omega
    have:=fitGo_get hu.2 l.1.2.1.toNat _ _ hg1 (List.getElem?_eq_getElem hk'')
    rw [hv,List.getD_eq_getElem?_getD,List.getElem?_eq_getElem hk'',Option.getD_some]
    exact this
  ·rw [if_neg g]
   exact ⟨by simp;omega,fun v hv => by cases hv⟩
 ·intro p hp
  have:=(rowOf_ok h hms hx hs hp (w:=W) (fun u hu => hfit u (by
   obtain ⟨l,hl,_,e2,_⟩:=hu
   have:=isOutB_iff.1 (h.lok l hl).out
   omega))).2
  rw [← hW p hp] at this
  simp only [rowOk,Bool.and_eq_true,decide_eq_true_eq] at this
  have e:(nextS ps.length W).getD p 0 = (W p).1:=by simp [nextS,List.getD_eq_getElem?_getD,hp]
  rw [e]
  exact this.1
end Go.Proofs.Ytelcbakleaaneaa
end
section
namespace Go.Proofs.Ytelcbakleaaneaa
open Go Go.Proofs.Ytelcbakleaaneaa.VM
def vecV (m:Nat) (A:List (TPin × Int)) (p:Nat):List (List FV):=vec m fun b => I (look A ((p:Int),(b:Int),()))
theorem vecV_set {m:Nat} {A:List (TPin × Int)} {p b:Nat} {v:Int} (h:((p:Int),(b:Int),()) ∉ A.map Prod.fst):(vecV m A p).set b (I v) = vecV m (A ++ [(((p:Int),(b:Int),()),v)]) p:=by
 have:=vec_set (n:=m) (g:=fun b => I (look A ((p:Int),(b:Int),()))) (g':=fun c => I (look (A ++ [(((p:Int),(b:Int),()),v)]) ((p:Int),(c:Int),()))) (i:=b) (fun j hj => by
  rw [look_other]
  intro e
  simp only [Prod.mk.injEq,and_true,true_and] at e
  omega)
 rw [look_hit h] at this
 exact this
theorem vecV_other {m:Nat} {A:List (TPin × Int)} {p:Nat} {q:TPin} {v:Int} (h:q.1 ≠ (p:Int)):vecV m (A ++ [(q,v)]) p = vecV m A p:=by
 unfold vecV
 congr 1
 funext b
 rw [look_other]
 intro e
 exact h (by rw [e])
theorem vecV_idx {m:Nat} {A:List (TPin × Int)} {p:Nat} {b:Int} (h0:0 ≤ b) (h1:b < (m:Int)):rIdx (vecV m A p) (.int .i64 b) = some b.toNat:=by
 have:=rIdx_at (r:=vecV m A p) (k:=b.toNat) (by simp only [vecV,vec_len];omega)
 rwa [show ((b.toNat:Nat):Int) = b by omega] at this
theorem vecV_rSet {m:Nat} {A:List (TPin × Int)} {p b:Nat} (hb:b < m) (v:Int) (h:((p:Int),(b:Int),()) ∉ A.map Prod.fst):rSet (vecV m A p) b 0 [.int .i64 v] = some (vecV m (A ++ [(((p:Int),(b:Int),()),v)]) p):=by
 rw [← vecV_set h]
 exact rSet_one (vec_get hb)
theorem vecV_arr {ms:List TMach} {ps:List TPart} (A:List (TPin × Int)) (p:Nat):FV.arr (vecV (insAt ms ps (p:Int)).length A p) = sl I (some (vecOf ms ps A p)):=by
 simp only [sl,vecV,vec,vecOf,List.map_map]
 rfl
theorem vecV_nil (m p:Nat):List.replicate m [(FV.int .i64 0:FV)] = vecV m [] p:=by
 rw [vec_rep]
 rfl
section
variable {oms:Option (List TMach)} {ops:Option (List TPart)} {ol:Option (List TLink)} {oi oo:Option (List TPin)} {ox:Option (List Int)}
theorem move_L1 (h:OkN (li oms) (li ops) (li ol) (li oi) (li oo)) (hlen:(li oi).length = (li ox).length) (hli:(li oi).length < 1000000000000000) {p:Nat} (hp:p < (li ops).length) (x0 x1 x3 x6 x7 x8 x10 x11 x12:FV) (r13 r14 r15 r16 r17:List (List FV)) (x18 x19 x20 x21 x22 x23:FV) :
  ∀ (t:List TPin) (k:Nat),(li oi).drop k = t →
  ref02_move.L1 x0 x1 (sl I ox) x3 (.int .i64 (p:Int)) (.int .i64 (k:Int)) x6 x7 x8 (sl PN oi) x10 x11 x12 r13 r14 r15 r16 r17 x18 x19 x20 x21 x22 x23 (vecV (insAt (li oms) (li ops) (p:Int)).length (((li oi).zip (li ox)).take k) p) =
   ref02_move.L2 x0 x1 (sl I ox) x3 (.int .i64 (p:Int)) (.int .i64 ((0:Nat):Int)) x6 x7 x8 (sl PN oi) x10 x11 x12 r13 r14 r15 r16 r17 x18 x19 x20 x21 x22 x23 (vecV (insAt (li oms) (li ops) (p:Int)).length ((li oi).zip (li ox)) p):=by
 intro t
 induction t with
 | nil =>
  intro k hd
  have hk:=drop_nil hd
  rw [ref02_move.L1_eq,List.take_of_length_le (by simp;omega)]
  simp only [fLen_sl,bindO_s,fCond_b,fBin_lss,decide_eq_true_eq,Int.ofNat_lt,hk,if_false]
  rfl
 | cons q t ih =>
  intro k hd
  obtain ⟨hk,hn,hs⟩:=drop_cons hd
  have e1:IntKind.i64.wrap ((k:Int) + 1) = ((k + 1:Nat):Int):=wrap64 (by omega) (by omega)
  have hkx:k < (li ox).length:=by omega
  have hx:(li ox)[k]? = some (li ox)[k]:=List.getElem?_eq_getElem hkx
  have hz:((li oi).zip (li ox))[k]? = some (q,(li ox)[k]):=List.getElem?_zip_eq_some.2 ⟨hn,hx⟩
  have htk:((li oi).zip (li ox)).take (k + 1) = ((li oi).zip (li ox)).take k ++ [(q,(li ox)[k])]:=by rw [List.take_add_one,hz];rfl
  have hnd:(((li oi).zip (li ox)).map Prod.fst).Nodup:=by
   rw [List.map_fst_zip (by omega)]
   exact (List.nodup_append.1 h.nd).2.1
  have hnot:q ∉ (((li oi).zip (li ox)).take k).map Prod.fst:=by
   have h1:((((li oi).zip (li ox)).take (k + 1)).map Prod.fst).Nodup:=List.Nodup.sublist ((List.take_sublist _ _).map _) hnd
   rw [htk,List.map_append,List.nodup_append] at h1
   exact fun g => h1.2.2 q g q (by simp) rfl
  have hin:=isInB_iff.1 (h.iok q (List.mem_of_getElem? hn))
  have ih':=ih (k + 1) hs
  rw [htk] at ih'
  rw [ref02_move.L1_eq]
  simp only [fLen_sl,bindO_s,fCond_b,fBin_lss,decide_eq_true_eq,Int.ofNat_lt,hk,if_true,idx_sl hn (PN_len q),PN_zero,PN_one,fBin_eql,idx_sl hx (I_len _),I_zero,fBin_add,e1]
  by_cases g:q.1 = (p:Int)
  ·rw [if_pos g]
   have hb1:q.2.1 < ((insAt (li oms) (li ops) (p:Int)).length:Int):=by rw [← g];exact hin.2.2.2
   have hq:q = ((p:Int),((q.2.1.toNat:Nat):Int),()):=by
    obtain ⟨q1,q2,⟨⟩⟩:=q
    simp only at g hin hb1
    simp only [g,Prod.mk.injEq,true_and,and_true]
    omega
   rw [hq] at hnot ih'
   have hset:=vecV_rSet (m:=(insAt (li oms) (li ops) (p:Int)).length) (show q.2.1.toNat < _ by omega) (li ox)[k] hnot
   simp only [vecV_idx hin.2.2.1 hb1,bindO_s,hset]
   exact ih'
  ·rw [if_neg g]
   rw [vecV_other g] at ih'
   exact ih'
def saidV (n:Nat) (w:Nat → TRow):List (List FV):=vec n fun i => [sl I (w i).2.1]
def goV (n:Nat) (w:Nat → TRow):List (List FV):=vec n fun i => I (w i).1
theorem saidV_get {n:Nat} {w:Nat → TRow} {u:Int} (h0:0 ≤ u) (h1:u < (n:Int)):rIdx (saidV n w) (.int .i64 u) = some u.toNat ∧ rGet (saidV n w) u.toNat 0 = some (sl I (w u.toNat).2.1):=by
 constructor
 ·have:=rIdx_at (r:=saidV n w) (k:=u.toNat) (by simp only [saidV,vec_len];omega)
  rwa [show ((u.toNat:Nat):Int) = u by omega] at this
 ·rw [saidV,rGet_at (vec_get (by omega))];rfl
theorem saidV_set {n:Nat} {w:Nat → TRow} {p:Nat} (hp:p < n) (r:TRow):rSet (saidV n w) p 0 [sl I r.2.1] = some (saidV n (upd w p r)):=by
 have:=vec_set (n:=n) (g:=fun i => [sl I (w i).2.1]) (g':=fun i => [sl I (upd w p r i).2.1]) (i:=p) (fun j hj => by simp only [upd_ne w r hj])
 rw [saidV,rSet_one (vec_get hp)]
 simp only [upd_at] at this
 rw [this]
 rfl
theorem goV_set {n:Nat} {w:Nat → TRow} {p:Nat} (hp:p < n) (r:TRow):rSet (goV n w) p 0 [.int .i64 r.1] = some (goV n (upd w p r)):=by
 have:=vec_set (n:=n) (g:=fun i => I (w i).1) (g':=fun i => I (upd w p r i).1) (i:=p) (fun j hj => by simp only [upd_ne w r hj])
 rw [goV,rSet_one (x:=.int .i64 (w p).1) (vec_get hp)]
 simp only [upd_at] at this
 rw [show [FV.int .i64 r.1] = I r.1 from rfl,this]
 rfl
theorem part_mAt (hin:PartsIn (li oms).length (li ops)) {p:Nat} (hp:p < (li ops).length):∃ q:TPart,fIdxC 2 (sl PT ops) (.int .i64 (p:Int)) = some (PT q) ∧ fIdxC 6 (sl MC oms) (.int .i64 q.2.1) = some (MC (mAt (li oms) (li ops) p)):=by
 have h1:(li ops)[p]? = some (li ops)[p]:=List.getElem?_eq_getElem hp
 obtain ⟨k0,k1⟩:=hin _ (List.mem_of_getElem? h1)
 have hm0:(li ops)[p].2.1.toNat < (li oms).length:=by omega
 have hm:(li oms)[(li ops)[p].2.1.toNat]? = some (mAt (li oms) (li ops) p):=by
  simp only [mAt,List.getD_eq_getElem?_getD,h1,Option.getD_some,List.getElem?_eq_getElem hm0]
 refine ⟨(li ops)[p],idx_sl h1 (PT_len _),?_⟩
 have:=idx_sl hm (MC_len _)
 rwa [show (((li ops)[p].2.1.toNat:Nat):Int) = (li ops)[p].2.1 by omega] at this
theorem move_L2 (h:OkN (li oms) (li ops) (li ol) (li oi) (li oo)) {A0:List (TPin × Int)} {Q:List (List Int)} (hQ:Q.length = (li ol).length) (hq:∀ (j:Nat) (l:TLink) (q:List Int),(li ol)[j]? = some l → Q[j]? = some q → (q.length:Int) = l.2.2.1) {p:Nat} (hp:p < (li ops).length) {w:Nat → TRow} (hnd:((A0 ++ srcLs w (li ol) Q).map Prod.fst).Nodup)
  (hw:∀ u,EE (li ol) u p → fitP (outsAt (li oms) (li ops) (u:Int)) (li (w u).2.1) = true) (x0 x1 x2 x3 x6 x7 x9 x10 x11:FV) (r14 r15 r16 r17:List (List FV)) (x18 x19 x20 x21 x22 x23:FV) :
  ∀ (t:List TLink) (j:Nat),(li ol).drop j = t →
  ref02_move.L2 x0 x1 x2 x3 (.int .i64 (p:Int)) (.int .i64 (j:Int)) x6 x7 (sl LK ol) x9 x10 x11 (.arr (Q.map LL)) (saidV (li ops).length w) r14 r15 r16 r17 x18 x19 x20 x21 x22 x23 (vecV (insAt (li oms) (li ops) (p:Int)).length (A0 ++ (srcLs w (li ol) Q).take j) p) =
   ref02_move.L2 x0 x1 x2 x3 (.int .i64 (p:Int)) (.int .i64 ((li ol).length:Int)) x6 x7 (sl LK ol) x9 x10 x11 (.arr (Q.map LL)) (saidV (li ops).length w) r14 r15 r16 r17 x18 x19 x20 x21 x22 x23 (vecV (insAt (li oms) (li ops) (p:Int)).length (A0 ++ srcLs w (li ol) Q) p):=by
 intro t
 have h64:=h.l64
 induction t with
 | nil =>
  intro j hd
  have hk:=drop_nil hd
  rw [ref02_move.L2_eq,ref02_move.L2_eq,List.take_of_length_le (by simp [srcLs];omega)]
  simp only [fLen_sl,bindO_s,fCond_b,fBin_lss,decide_eq_true_eq,Int.ofNat_lt,hk,Int.lt_irrefl,if_false]
 | cons l t ih =>
  intro j hd
  obtain ⟨hk,hn,hs⟩:=drop_cons hd
  have e1:IntKind.i64.wrap ((j:Int) + 1) = ((j + 1:Nat):Int):=wrap64 (by omega) (by omega)
  have hkQ:j < Q.length:=by omega
  have hQj:Q[j]? = some Q[j]:=List.getElem?_eq_getElem hkQ
  have hz:(srcLs w (li ol) Q)[j]? = some (l.2.1,linkVal w Q[j] l):=by
   have hzz:((li ol).zip Q)[j]? = some (l,Q[j]):=List.getElem?_zip_eq_some.2 ⟨hn,hQj⟩
   simp only [srcLs,List.getElem?_map,hzz,Option.map_some]
  have htk:A0 ++ (srcLs w (li ol) Q).take (j + 1) = A0 ++ (srcLs w (li ol) Q).take j ++ [(l.2.1,linkVal w Q[j] l)]:=by rw [List.take_add_one,hz];simp
  have hnot:l.2.1 ∉ (A0 ++ (srcLs w (li ol) Q).take j).map Prod.fst:=by
   have h1:((A0 ++ (srcLs w (li ol) Q).take (j + 1)).map Prod.fst).Nodup:=List.Nodup.sublist (((List.take_sublist _ _).append_left A0).map _) hnd
   rw [htk,List.map_append,List.nodup_append] at h1
   exact fun g => h1.2.2 _ g l.2.1 (by simp) rfl
  have hlm:=List.mem_of_getElem? hn
  have hl:=h.lok l hlm
  have hin:=isInB_iff.1 hl.inn
  have hout:=isOutB_iff.1 hl.out
  have hdel:=hl.del
  have hqj:=hq j l Q[j] hn hQj
  have ih':=ih (j + 1) hs
  rw [htk] at ih'
  rw [ref02_move.L2_eq]
  simp only [fLen_sl,bindO_s,fCond_b,fBin_lss,decide_eq_true_eq,Int.ofNat_lt,hk,if_true,idx_sl hn (LK_len l),LK_zero,LK_one,LK_two,LK_three,LK_four,LK_five,fBin_neq,fBin_eql,fBin_add,e1]
  by_cases g':l.2.1.1 ≠ (p:Int)
  ·rw [if_pos g']
   rw [vecV_other g'] at ih'
   exact ih'
  rw [if_neg g']
  have g:=Decidable.not_not.1 g'
  have hb1:l.2.1.2.1 < ((insAt (li oms) (li ops) (p:Int)).length:Int):=by rw [← g];exact hin.2.2.2
  have hpin:l.2.1 = ((p:Int),((l.2.1.2.1.toNat:Nat):Int),()):=by
   generalize l.2.1 = r at *
   obtain ⟨q1,q2,⟨⟩⟩:=r
   simp only at g hin hb1
   simp only [g,Prod.mk.injEq,true_and,and_true]
   omega
  rw [hpin] at hnot ih'
  have hset:=vecV_rSet (m:=(insAt (li oms) (li ops) (p:Int)).length) (show l.2.1.2.1.toNat < _ by omega) (linkVal w Q[j] l) hnot
  have hvI:=vecV_idx (m:=(insAt (li oms) (li ops) (p:Int)).length) (A:=A0 ++ (srcLs w (li ol) Q).take j) (p:=p) hin.2.2.1 hb1
  by_cases g2:l.2.2.1 = 0
  ·rw [if_pos g2]
   obtain ⟨s1,s2⟩:=saidV_get (n:=(li ops).length) (w:=w) hout.1 hout.2.1
   have hu:=hw l.1.1.toNat ⟨l,hlm,g2,by omega,g⟩
   simp only [fitP,Bool.and_eq_true,decide_eq_true_eq] at hu
   rw [show ((l.1.1.toNat:Nat):Int) = l.1.1 by omega] at hu
   have hk'':l.1.2.1.toNat < (li (w l.1.1.toNat).2.1).length:=by omega
   have hix:=idx_sl (List.getElem?_eq_getElem hk'') (I_len _)
   rw [show ((l.1.2.1.toNat:Nat):Int) = l.1.2.1 by omega] at hix
   have hval:linkVal w Q[j] l = (li (w l.1.1.toNat).2.1)[l.1.2.1.toNat]:=by
    unfold linkVal
    rw [if_pos g2,List.getD_eq_getElem?_getD,List.getElem?_eq_getElem hk'',Option.getD_some]
   rw [hval] at hset ih'
   simp only [s1,s2,bindO_s,hix,I_zero,hvI,hset]
   exact ih'
  ·rw [if_neg g2]
   have hq0:0 < Q[j].length:=by omega
   have hixQ:fIdxC 1 (.arr (Q.map LL)) (.int .i64 (j:Int)) = some (LL Q[j]):=idx_arr (by simp [hkQ]) rfl
   have hix0:fIdxC 1 (.arr (Q[j].map I)) (.int .i64 0) = some (I Q[j][0]):=idx_arr (k:=0) (by simp [hq0]) rfl
   have hval:linkVal w Q[j] l = Q[j][0]:=by
    unfold linkVal
    rw [if_neg g2,List.getD_eq_getElem?_getD,List.getElem?_eq_getElem hq0,Option.getD_some]
   rw [hval] at hset ih'
   simp only [hixQ,LL_zero,bindO_s,hix0,I_zero,hvI,hset]
   exact ih'
theorem move_part (h:OkN (li oms) (li ops) (li ol) (li oi) (li oo)) (hms:OkMs (li oms)) (hx:fitP ((li oi).map (inAt (li oms) (li ops))) (li ox) = true) {Q:List (List Int)} {sts:List Int} (hs:StOk (li oms) (li ops) (li ol) Q sts) (hli:(li oi).length < 1000000000000000)
  {o:List Nat} {i p:Nat} (hi:i < 1000) (ho:o[i]? = some p) (hp:p < (li ops).length) {w:Nat → TRow} (hw:∀ u,EE (li ol) u p → fitP (outsAt (li oms) (li ops) (u:Int)) (li (w u).2.1) = true) (x4:FV) (r13 r14 r15:List (List FV)) :
  ref02_move.L0 (sl MC oms) (.arr (o.map numR)) (sl I ox) (.int .i64 (i:Int)) x4 (sl PT ops) (sl LK ol) (sl PN oi) (sl PN oo) (.arr (sts.map I)) (.arr (Q.map LL)) (saidV (li ops).length w) (goV (li ops).length w) r13 r14 r15 =
   ref02_move.L0 (sl MC oms) (.arr (o.map numR)) (sl I ox) (.int .i64 ((i + 1:Nat):Int)) x4 (sl PT ops) (sl LK ol) (sl PN oi) (sl PN oo) (.arr (sts.map I)) (.arr (Q.map LL))
    (saidV (li ops).length (upd w p (rowOf (li oms) (li ops) (li oi) (li ox) (li ol) Q sts w p))) (goV (li ops).length (upd w p (rowOf (li oms) (li ops) (li oi) (li ox) (li ol) Q sts w p))) r13 r14 r15:=by
 have hil:i < o.length:=by
  rcases Nat.lt_or_ge i o.length with g | g
  ·exact g
  ·rw [List.getElem?_eq_none g] at ho;cases ho
 have e1:IntKind.i64.wrap ((i:Int) + 1) = ((i + 1:Nat):Int):=wrap64 (by omega) (by omega)
 obtain ⟨q,k1,k2⟩:=part_mAt h.pin hp
 have hm:=hms _ (mAt_mem h.pin hp)
 have hxl:(li oi).length = (li ox).length:=by
  simp only [fitP,Bool.and_eq_true,decide_eq_true_eq,List.length_map] at hx
  exact hx.1
 obtain ⟨hf,hr⟩:=rowOf_ok h hms hx hs hp hw
 obtain ⟨s1,s2⟩:=hs.sok p hp
 have hpl:p < sts.length:=by rw [hs.slen];exact hp
 have hst:(sts.getD p 0).toNat < (li (mAt (li oms) (li ops) p).2.1).length:=by omega
 have hi8:=hm.i8
 have hix:fIdxC 1 (.arr (o.map numR)) (.int .i64 (i:Int)) = some (numR p):=idx_arr (by simp [ho]) rfl
 have hsg:sts[p]? = some (sts.getD p 0):=by simp [List.getD_eq_getElem?_getD,hpl]
 have hixs:fIdxC 1 (.arr (sts.map I)) (.int .i64 (p:Int)) = some (I (sts.getD p 0)):=idx_arr (by rw [List.getElem?_map,hsg];rfl) rfl
 have hroom:(li (mAt (li oms) (li ops) p).2.2.2.1).length * 8 ≤ room:=by unfold room;omega
 have hone:=one_ok (nm:=(mAt (li oms) (li ops) p).1) hm hst (v:=some (vecOf (li oms) (li ops) ((li oi).zip (li ox) ++ srcLs w (li ol) Q) p)) hf
 rw [show (((sts.getD p 0).toNat:Nat):Int) = sts.getD p 0 by omega] at hone
 have hl1:=move_L1 (ox:=ox) h hxl hli hp (sl MC oms) (.arr (o.map numR)) (.int .i64 (i:Int)) x4 (sl PT ops) (sl LK ol) (sl PN oo) (.arr (sts.map I)) (.arr (Q.map LL)) (saidV (li ops).length w) (goV (li ops).length w) r13 r14 r15 (.str (mAt (li oms) (li ops) p).1) (sl S (mAt (li oms) (li ops) p).2.1) (.int .i64 (mAt (li oms) (li ops) p).2.2.1) (sl P (mAt (li oms) (li ops) p).2.2.2.1) (sl P (mAt (li oms) (li ops) p).2.2.2.2.1) (sl RW (mAt (li oms) (li ops) p).2.2.2.2.2.1) _ 0 rfl
 have hl2:=move_L2 h (A0:=(li oi).zip (li ox)) hs.qlen (fun j l q a b => (hs.qok j l q a b).1) hp (srcOk h hx hs hp hw).nd hw (sl MC oms) (.arr (o.map numR)) (sl I ox) (.int .i64 (i:Int)) x4 (sl PT ops) (sl PN oi) (sl PN oo) (.arr (sts.map I)) (goV (li ops).length w) r13 r14 r15 (.str (mAt (li oms) (li ops) p).1) (sl S (mAt (li oms) (li ops) p).2.1) (.int .i64 (mAt (li oms) (li ops) p).2.2.1) (sl P (mAt (li oms) (li ops) p).2.2.2.1) (sl P (mAt (li oms) (li ops) p).2.2.2.2.1) (sl RW (mAt (li oms) (li ops) p).2.2.2.2.2.1) _ 0 rfl
 simp only [List.take_zero,List.append_nil] at hl1 hl2
 rw [ref02_move.L0_eq]
 simp only [fLen_arr,List.length_map,bindO_s,fCond_b,fBin_lss,decide_eq_true_eq,Int.ofNat_lt,hil,if_true,hix,numR,I_zero,k1,PT_one,k2,MC_zero,MC_one,MC_two,MC_three,MC_four,MC_five,fLen_sl,asNat_nat,Nat.le_refl,hroom,decide_true,Bool.and_self,ge_iff_le,gB_t]
 rw [vecV_nil,← insAt_mAt]
 refine Eq.trans hl1 (Eq.trans hl2 ?_)
 rw [ref02_move.L2_eq]
 simp only [fLen_sl,bindO_s,fCond_b,fBin_lss,Int.lt_irrefl,decide_false,Bool.false_eq_true,if_false,hixs,I_zero,vecV_arr,hone,fIsAgg_agg,List.length_cons,List.length_nil,fCell_zero,fCell_succ]
 rw [show (0 + 1 + 1 == 2) = true from rfl,gB_t]
 have hrI1:rIdx (saidV (li ops).length w) (.int .i64 (p:Int)) = some p:=rIdx_at (by simp only [saidV,vec_len];exact hp)
 have hrI2:rIdx (goV (li ops).length w) (.int .i64 (p:Int)) = some p:=rIdx_at (by simp only [goV,vec_len];exact hp)
 have hro:rowAt (li (mAt (li oms) (li ops) p).2.2.2.1) (li (mAt (li oms) (li ops) p).2.2.2.2.2.1) (sts.getD p 0).toNat (li (some (vecOf (li oms) (li ops) ((li oi).zip (li ox) ++ srcLs w (li ol) Q) p))) = rowOf (li oms) (li ops) (li oi) (li ox) (li ol) Q sts w p:=rfl
 rw [hro]
 simp only [hrI1,hrI2,bindO_s,saidV_set hp,goV_set hp,fBin_add,e1]
end
end Go.Proofs.Ytelcbakleaaneaa
end
section
namespace Go.Proofs.Ytelcbakleaaneaa
open Go Go.Proofs.Ytelcbakleaaneaa.VM
def w0:Nat → TRow:=fun _ => (0,none,())
section
variable {oms:Option (List TMach)} {ops:Option (List TPart)} {ol:Option (List TLink)} {oi oo:Option (List TPin)} {ox:Option (List Int)}
theorem move_parts (h:OkN (li oms) (li ops) (li ol) (li oi) (li oo)) (hms:OkMs (li oms)) (hx:fitP ((li oi).map (inAt (li oms) (li ops))) (li ox) = true) {Q:List (List Int)} {sts:List Int} (hs:StOk (li oms) (li ops) (li ol) Q sts) (hli:(li oi).length < 1000000000000000)
  {o:List Nat} (ho:Ord (EE (li ol)) (li ops).length o) {W:Nat → TRow} (hW:∀ p,p < (li ops).length → W p = rowOf (li oms) (li ops) (li oi) (li ox) (li ol) Q sts W p) (x4:FV) (r13 r14 r15:List (List FV)) :
  ∀ (t:List Nat) (i:Nat) (w:Nat → TRow),o.drop i = t → (∀ u ∈ o.take i,w u = W u) → wGo (rowOf (li oms) (li ops) (li oi) (li ox) (li ol) Q sts) t w = W →
  ref02_move.L0 (sl MC oms) (.arr (o.map numR)) (sl I ox) (.int .i64 (i:Int)) x4 (sl PT ops) (sl LK ol) (sl PN oi) (sl PN oo) (.arr (sts.map I)) (.arr (Q.map LL)) (saidV (li ops).length w) (goV (li ops).length w) r13 r14 r15 =
   ref02_move.L0 (sl MC oms) (.arr (o.map numR)) (sl I ox) (.int .i64 (o.length:Int)) x4 (sl PT ops) (sl LK ol) (sl PN oi) (sl PN oo) (.arr (sts.map I)) (.arr (Q.map LL)) (saidV (li ops).length W) (goV (li ops).length W) r13 r14 r15:=by
 have hfit:=sol_ok h hms hx hs hW
 have hE:=edges h
 intro t
 induction t with
 | nil =>
  intro i w hd hw hg
  have hk:=drop_nil hd
  simp only [wGo] at hg
  subst hg
  rw [ref02_move.L0_eq,ref02_move.L0_eq]
  simp only [fLen_arr,List.length_map,bindO_s,fCond_b,fBin_lss,decide_eq_true_eq,Int.ofNat_lt,hk,Int.lt_irrefl,if_false]
 | cons p t ih =>
  intro i w hd hw hg
  obtain ⟨hk,hn,hs'⟩:=drop_cons hd
  have hp:=ho.lt p (List.mem_of_getElem? hn)
  have hsplit:o = o.take i ++ p :: t:=by rw [← hd,List.take_append_drop]
  have htopo:=ho.topo
  have hnd:=ho.nd
  rw [hsplit] at htopo hnd
  have hpre:p ∉ o.take i:=fun g => (List.nodup_append.1 hnd).2.2 p g p (by simp) rfl
  have hpreds:∀ u,EE (li ol) u p → w u = W u:=fun u hu => hw u (topo_pre (F:=rowOf (li oms) (li ops) (li oi) (li ox) (li ol) Q sts) (rowOf_dep hE) htopo hpre hu)
  have hwf:∀ u,EE (li ol) u p → fitP (outsAt (li oms) (li ops) (u:Int)) (li (w u).2.1) = true:=fun u hu => by
   rw [hpreds u hu]
   refine hfit u ?_
   obtain ⟨l,hl,_,e2,_⟩:=hu
   have:=hE l hl
   omega
  have h32:=h.n32
  rw [move_part h hms hx hs hli (by have:=ho.len;omega) hn hp hwf]
  refine ih (i + 1) _ hs' (fun u hu => ?_) hg
  rw [List.take_add_one,hn] at hu
  by_cases e:u = p
  ·subst e
   rw [upd_at,hW u hp]
   exact rowOf_dep hE _ _ _ hpreds
  ·rw [upd_ne _ _ e]
   refine hw u ?_
   rcases List.mem_append.1 hu with g | g
   ·exact g
   ·exact absurd (by simpa using g) e
end
end Go.Proofs.Ytelcbakleaaneaa
end
section
namespace Go.Proofs.Ytelcbakleaaneaa
open Go Go.Proofs.Ytelcbakleaaneaa.VM
section
variable {oms:Option (List TMach)} {ops:Option (List TPart)} {ol:Option (List TLink)} {oi oo:Option (List TPin)} {ox:Option (List Int)}
theorem move_L3 (h:OkN (li oms) (li ops) (li ol) (li oi) (li oo)) {Q:List (List Int)} {sts:List Int} (hs:StOk (li oms) (li ops) (li ol) Q sts) {W:Nat → TRow} (hfit:∀ p,p < (li ops).length → fitP (outsAt (li oms) (li ops) (p:Int)) (li (W p).2.1) = true) (x1 x4 x6:FV) (r9 r10 r11:List (List FV)) :
  ∀ (t:List TLink) (j:Nat),(li ol).drop j = t →
  ref02_move.L3 (.int .i64 (j:Int)) x1 (sl PT ops) (sl LK ol) x4 (sl PN oo) x6 (.arr (Q.map LL)) (saidV (li ops).length W) r9 r10 r11 (((nextQ W (li ol) Q).take j).map LL) =
   ref02_move.L5 (.int .i64 ((0:Nat):Int)) x1 (sl PT ops) (sl LK ol) x4 (sl PN oo) x6 (.arr (Q.map LL)) (saidV (li ops).length W) r9 r10 r11 [] ((nextQ W (li ol) Q).map LL):=by
 intro t
 have h64:=h.l64
 have hql:=hs.qlen
 induction t with
 | nil =>
  intro j hd
  have hk:=drop_nil hd
  rw [ref02_move.L3_eq,List.take_of_length_le (by simp [nextQ];omega)]
  simp only [fLen_sl,bindO_s,fCond_b,fBin_lss,decide_eq_true_eq,Int.ofNat_lt,hk,if_false]
  rfl
 | cons l t ih =>
  intro j hd
  obtain ⟨hk,hn,hs'⟩:=drop_cons hd
  have e1:IntKind.i64.wrap ((j:Int) + 1) = ((j + 1:Nat):Int):=wrap64 (by omega) (by omega)
  have hkQ:j < Q.length:=by omega
  have hQj:Q[j]? = some Q[j]:=List.getElem?_eq_getElem hkQ
  have hzz:((li ol).zip Q)[j]? = some (l,Q[j]):=List.getElem?_zip_eq_some.2 ⟨hn,hQj⟩
  have hlm:=List.mem_of_getElem? hn
  have hl:=h.lok l hlm
  have hout:=isOutB_iff.1 hl.out
  have hdel:=hl.del
  have hqj:=(hs.qok j l Q[j] hn hQj).1
  have ih':=ih (j + 1) hs'
  rw [ref02_move.L3_eq]
  have hlen:(((nextQ W (li ol) Q).take j).length + 1) * 24 ≤ room:=by unfold room;simp;omega
  simp only [fLen_sl,bindO_s,fCond_b,fBin_lss,decide_eq_true_eq,Int.ofNat_lt,hk,if_true,idx_sl hn (LK_len l),LK_zero,LK_one,LK_two,LK_three,LK_four,LK_five,fBin_gtr]
  by_cases g:0 < l.2.2.1
  ·have hz:(nextQ W (li ol) Q)[j]? = some (Q[j].drop 1 ++ [(li (W l.1.1.toNat).2.1).getD l.1.2.1.toNat 0]):=by
    simp only [nextQ,List.getElem?_map,hzz,Option.map_some,g,if_true]
   rw [List.take_add_one,hz] at ih'
   rw [if_pos g]
   obtain ⟨s1,s2⟩:=saidV_get (n:=(li ops).length) (w:=W) hout.1 hout.2.1
   have hu:=hfit l.1.1.toNat (by omega)
   simp only [fitP,Bool.and_eq_true,decide_eq_true_eq] at hu
   rw [show ((l.1.1.toNat:Nat):Int) = l.1.1 by omega] at hu
   have hk'':l.1.2.1.toNat < (li (W l.1.1.toNat).2.1).length:=by omega
   have hix:=idx_sl (List.getElem?_eq_getElem hk'') (I_len _)
   rw [show ((l.1.2.1.toNat:Nat):Int) = l.1.2.1 by omega] at hix
   have hixQ:fIdxC 1 (.arr (Q.map LL)) (.int .i64 (j:Int)) = some (LL Q[j]):=idx_arr (by simp [hkQ]) rfl
   have hcut:=fCut_drop (rowsSz_I Q[j]) (m:=1) (by simp;omega)
   have hv:(li (W l.1.1.toNat).2.1).getD l.1.2.1.toNat 0 = (li (W l.1.1.toNat).2.1)[l.1.2.1.toNat]:=by
    rw [List.getD_eq_getElem?_getD,List.getElem?_eq_getElem hk'',Option.getD_some]
   rw [hv] at ih'
   have hr1:(Q[j].drop 1).length * 8 ≤ room:=by unfold room;simp;omega
   have hr2:((Q[j].drop 1).length + 1) * 8 ≤ room:=by unfold room;simp;omega
   rw [show ((1:Nat):Int) = 1 from rfl,← List.map_drop] at hcut
   simp only [hixQ,LL_zero,bindO_s,hcut,s1,s2,hix,I_zero,asRows_arr,rowsSz_I,gB_t,List.length_map,hr1,hr2,decide_true]
   rw [ref02_move.L4_eq]
   simp only [List.length_map,hlen,decide_true,gB_t,fBin_add,e1,bindO_s]
   rw [← ih']
   simp [LL,I]
  ·have hz:(nextQ W (li ol) Q)[j]? = some []:=by
    simp only [nextQ,List.getElem?_map,hzz,Option.map_some,g,if_false]
   rw [List.take_add_one,hz] at ih'
   rw [if_neg g,ref02_move.L4_eq]
   simp only [List.length_map,hlen,decide_true,gB_t,fBin_add,e1,bindO_s]
   rw [← ih']
   simp [LL]
theorem move_L5 (h:OkN (li oms) (li ops) (li ol) (li oi) (li oo)) {W:Nat → TRow} (hfit:∀ p,p < (li ops).length → fitP (outsAt (li oms) (li ops) (p:Int)) (li (W p).2.1) = true) (hlo:(li oo).length < 10000000000000) (x1 x2 x3 x4 x6 x7:FV) (r9 r10 r11 r13:List (List FV)) :
  ∀ (t:List TPin) (k:Nat),(li oo).drop k = t →
  ref02_move.L5 (.int .i64 (k:Int)) x1 x2 x3 x4 (sl PN oo) x6 x7 (saidV (li ops).length W) r9 r10 r11 ((shown W ((li oo).take k)).map I) r13 =
   some (.tup [.agg [.arr r9,.arr r13],.arr ((shown W (li oo)).map I)]):=by
 intro t
 induction t with
 | nil =>
  intro k hd
  have hk:=drop_nil hd
  rw [ref02_move.L5_eq,List.take_of_length_le (by omega)]
  simp only [fLen_sl,bindO_s,fCond_b,fBin_lss,decide_eq_true_eq,Int.ofNat_lt,hk,if_false]
 | cons q t ih =>
  intro k hd
  obtain ⟨hk,hn,hs'⟩:=drop_cons hd
  have e1:IntKind.i64.wrap ((k:Int) + 1) = ((k + 1:Nat):Int):=wrap64 (by omega) (by omega)
  have hout:=isOutB_iff.1 (h.ook q (List.mem_of_getElem? hn))
  obtain ⟨s1,s2⟩:=saidV_get (n:=(li ops).length) (w:=W) hout.1 hout.2.1
  have hu:=hfit q.1.toNat (by omega)
  simp only [fitP,Bool.and_eq_true,decide_eq_true_eq] at hu
  rw [show ((q.1.toNat:Nat):Int) = q.1 by omega] at hu
  have hk'':q.2.1.toNat < (li (W q.1.toNat).2.1).length:=by omega
  have hix:=idx_sl (List.getElem?_eq_getElem hk'') (I_len _)
  rw [show ((q.2.1.toNat:Nat):Int) = q.2.1 by omega] at hix
  have hv:(li (W q.1.toNat).2.1).getD q.2.1.toNat 0 = (li (W q.1.toNat).2.1)[q.2.1.toNat]:=by
   rw [List.getD_eq_getElem?_getD,List.getElem?_eq_getElem hk'',Option.getD_some]
  have hlen:((shown W ((li oo).take k)).length + 1) * 8 ≤ room:=by unfold room;simp [shown];omega
  have hsh:shown W ((li oo).take (k + 1)) = shown W ((li oo).take k) ++ [(li (W q.1.toNat).2.1)[q.2.1.toNat]]:=by
   rw [List.take_add_one,hn]
   simp only [shown,List.map_append,Option.toList_some,List.map_cons,List.map_nil,hv]
  have ih':=ih (k + 1) hs'
  rw [hsh] at ih'
  rw [ref02_move.L5_eq]
  simp only [fLen_sl,bindO_s,fCond_b,fBin_lss,decide_eq_true_eq,Int.ofNat_lt,hk,if_true,idx_sl hn (PN_len q),PN_zero,PN_one,s1,s2,hix,I_zero,List.length_map,hlen,decide_true,gB_t,fBin_add,e1]
  rw [← ih',List.map_append]
  rfl
end
end Go.Proofs.Ytelcbakleaaneaa
end
section
namespace Go.Proofs.Ytelcbakleaaneaa
open Go Go.Proofs.Ytelcbakleaaneaa.VM
section
variable {oms:Option (List TMach)} {ops:Option (List TPart)} {ol:Option (List TLink)} {oi oo:Option (List TPin)} {ox:Option (List Int)}
theorem goV_map (n:Nat) (W:Nat → TRow):goV n W = (nextS n W).map I:=by simp [goV,vec,nextS]
def solW (ms:List TMach) (ps:List TPart) (is:List TPin) (x:List Int) (ls:List TLink) (Q:List (List Int)) (sts:List Int) (o:List Nat):Nat → TRow:=wGo (rowOf ms ps is x ls Q sts) o w0
theorem solW_eq {ms:List TMach} {ps:List TPart} {ls:List TLink} {is os:List TPin} (h:OkN ms ps ls is os) {x:List Int} {Q:List (List Int)} {sts:List Int} {o:List Nat} (ho:Ord (EE ls) ps.length o):∀ p,p < ps.length → solW ms ps is x ls Q sts o p = rowOf ms ps is x ls Q sts (solW ms ps is x ls Q sts o) p :=
 fun p hp => wGo_solves (rowOf_dep (edges h)) o [] w0 (by simpa using ho.nd) (by simpa using ho.topo) p (pig_all ho.nd ho.lt ho.len p hp)
theorem move_ok (h:OkN (li oms) (li ops) (li ol) (li oi) (li oo)) (hms:OkMs (li oms)) (hx:fitP ((li oi).map (inAt (li oms) (li ops))) (li ox) = true) {Q:List (List Int)} {sts:List Int} (hs:StOk (li oms) (li ops) (li ol) Q sts) (hli:(li oi).length < 1000000000000000) (hlo:(li oo).length < 10000000000000)
  {o:List Nat} (ho:Ord (EE (li ol)) (li ops).length o) (x0:FV) :
  ref02_move (sl MC oms) (.agg [x0,sl PT ops,sl LK ol,sl PN oi,sl PN oo]) (.arr (o.map numR)) (.agg [.arr (sts.map I),.arr (Q.map LL)]) (sl I ox) =
   some (.tup [.agg [.arr ((nextS (li ops).length (solW (li oms) (li ops) (li oi) (li ox) (li ol) Q sts o)).map I),.arr ((nextQ (solW (li oms) (li ops) (li oi) (li ox) (li ol) Q sts o) (li ol) Q).map LL)],.arr ((shown (solW (li oms) (li ops) (li oi) (li ox) (li ol) Q sts o) (li oo)).map I)]):=by
 have hW:=solW_eq (x:=li ox) (Q:=Q) (sts:=sts) h ho
 have hfit:=sol_ok h hms hx hs hW
 have h32:=h.n32
 have hp:=move_parts h hms hx hs hli ho hW x0 [] [] [] o 0 w0 rfl (fun u hu => by simp at hu) rfl
 have h3:=move_L3 h hs hfit x0 (sl PN oi) (.arr (sts.map I)) (goV (li ops).length (solW (li oms) (li ops) (li oi) (li ox) (li ol) Q sts o)) [] [] _ 0 rfl
 have h5:=move_L5 h hfit hlo x0 (sl PT ops) (sl LK ol) (sl PN oi) (.arr (sts.map I)) (.arr (Q.map LL)) (goV (li ops).length (solW (li oms) (li ops) (li oi) (li ox) (li ol) Q sts o)) [] [] ((nextQ (solW (li oms) (li ops) (li oi) (li ox) (li ol) Q sts o) (li ol) Q).map LL) _ 0 rfl
 have hr1:(li ops).length * 24 ≤ room:=by unfold room;omega
 have hr2:(li ops).length * 8 ≤ room:=by unfold room;omega
 rw [ref02_move.eq]
 simp only [fIsAgg_agg,List.length_cons,List.length_nil,fCell_zero,fCell_succ,fLen_sl,bindO_s,asNat_nat,Nat.le_refl,hr1,hr2,decide_true,Bool.and_self,ge_iff_le,gB_t]
 rw [show (0 + 1 + 1 + 1 + 1 + 1 == 5) = true from rfl,gB_t,show (0 + 1 + 1 == 2) = true from rfl,gB_t,vec_rep,vec_rep]
 refine Eq.trans hp ?_
 rw [ref02_move.L0_eq]
 simp only [fLen_arr,List.length_map,bindO_s,fCond_b,fBin_lss,Int.lt_irrefl,decide_false,Bool.false_eq_true,if_false]
 refine Eq.trans h3 ?_
 rw [← goV_map]
 exact h5
end
end Go.Proofs.Ytelcbakleaaneaa
end
section
namespace Go.Proofs.Ytelcbakleaaneaa
open Go Go.Proofs.Ytelcbakleaaneaa.VM
def mapV (A:List (TPin × Int)):List (FV × FV):=A.map fun e => (pinK e.1,.int .i64 e.2)
theorem mFind_val (p:TPin):∀ A:List (TPin × Int),mFind true [.int,.int] (mapV A) (pinK p) = some ((A.find? fun e => decide (e.1 = p)).map fun e => .int .i64 e.2)
 | [] => rfl
 | e :: A => by
  have ih:=mFind_val p A
  simp only [mapV,List.map_cons,mFind,pin_keyEq,bindO_s,List.find?_cons] at ih ⊢
  by_cases g:p = e.1
  ·simp [g]
  ·simp only [g,decide_false,show ¬ e.1 = p from fun h => g h.symm]
   exact ih
theorem mLook_val (p:TPin) (A:List (TPin × Int)):∃ b,mLook true [.int,.int] (mapV A) (pinK p) (.int .i64 0) = some (.int .i64 (look A p),b):=by
 unfold mLook look
 rw [pin_keyOk,mFind_val]
 cases A.find? fun e => decide (e.1 = p) with
 | none => exact ⟨false,rfl⟩
 | some e => exact ⟨true,rfl⟩
theorem mPut_val (p:TPin) (v:Int):∀ A:List (TPin × Int),p ∉ A.map Prod.fst → mPut true [.int,.int] (mapV A) (pinK p) (.int .i64 v) = some (mapV (A ++ [(p,v)]))
 | [],_ => rfl
 | e :: A,h => by
  have ih:=mPut_val p v A (fun g => h (by simp [g]))
  have g:p ≠ e.1:=fun g => h (by simp [g])
  simp only [mapV,List.map_cons,List.cons_append,mPut,pin_keyEq,bindO_s,g,decide_false] at ih ⊢
  rw [ih];rfl
end Go.Proofs.Ytelcbakleaaneaa
end
section
namespace Go.Proofs.Ytelcbakleaaneaa
open Go Go.Proofs.Ytelcbakleaaneaa.VM
structure MInv (is:List TPin) (x:List Int) (ls:List TLink) (Q:List (List Int)) (W:Nat → TRow) (A:List (TPin × Int)) (D:Nat → Prop):Prop where
 nd:(A.map Prod.fst).Nodup
 ins:∀ e ∈ is.zip x,e ∈ A
 lnk:∀ (j:Nat) (l:TLink) (q:List Int),ls[j]? = some l → Q[j]? = some q → D j → (l.2.1,linkVal W q l) ∈ A
 key:∀ k ∈ A.map Prod.fst,k ∈ is ∨ ∃ (j:Nat) (l:TLink),ls[j]? = some l ∧ D j ∧ k = l.2.1
theorem nodup_idx {α β:Type} {f:α → β} {l:List α} (h:(l.map f).Nodup) {i j:Nat} {a b:α} (hi:l[i]? = some a) (hj:l[j]? = some b) (e:f a = f b):i = j:=by
 have h1:i < (l.map f).length:=by
  rcases Nat.lt_or_ge i l.length with g | g
  ·simpa using g
  ·rw [List.getElem?_eq_none g] at hi;cases hi
 have h2:j < (l.map f).length:=by
  rcases Nat.lt_or_ge j l.length with g | g
  ·simpa using g
  ·rw [List.getElem?_eq_none g] at hj;cases hj
 refine (List.getElem_inj h (h₀:=h1) (h₁:=h2)).1 ?_
 have e1:l[i]'(by simpa using h1) = a:=by
  have:=List.getElem?_eq_getElem (l:=l) (i:=i) (by simpa using h1)
  rw [hi] at this;exact (Option.some.inj this).symm
 have e2:l[j]'(by simpa using h2) = b:=by
  have:=List.getElem?_eq_getElem (l:=l) (i:=j) (by simpa using h2)
  rw [hj] at this;exact (Option.some.inj this).symm
 simp only [List.getElem_map,e1,e2,e]
section
variable {is:List TPin} {x:List Int} {ls:List TLink} {Q:List (List Int)} {W:Nat → TRow} {A:List (TPin × Int)} {D:Nat → Prop}
theorem MInv.fresh (h:MInv is x ls Q W A D) (hnd:(fed ls ++ is).Nodup) {j:Nat} {l:TLink} (hl:ls[j]? = some l) (hD:¬ D j):l.2.1 ∉ A.map Prod.fst:=by
 intro g
 have hf:l.2.1 ∈ fed ls:=List.mem_map_of_mem (List.mem_of_getElem? hl)
 rcases h.key _ g with g | ⟨i,l',h1,h2,h3⟩
 ·exact (List.nodup_append.1 hnd).2.2 _ hf _ g rfl
 ·have:=nodup_idx (f:=fun l:TLink => l.2.1) (List.nodup_append.1 hnd).1 hl h1 h3
  subst this
  exact hD h2
theorem MInv.put (h:MInv is x ls Q W A D) (hnd:(fed ls ++ is).Nodup) {j:Nat} {l:TLink} {q:List Int} (hl:ls[j]? = some l) (hq:Q[j]? = some q) (hD:¬ D j):MInv is x ls Q W (A ++ [(l.2.1,linkVal W q l)]) (fun i => D i ∨ i = j):=by
 have hfr:=h.fresh hnd hl hD
 refine ⟨?_,fun e he => by simp [h.ins e he],?_,?_⟩
 ·rw [List.map_append]
  exact nodup_snoc h.nd hfr
 ·intro i l' q' h1 h2 h3
  rcases h3 with h3 | h3
  ·simp [h.lnk i l' q' h1 h2 h3]
  ·subst h3
   rw [hl] at h1;rw [hq] at h2
   cases h1;cases h2
   simp
 ·intro k hk
  rw [List.map_append,List.mem_append] at hk
  rcases hk with hk | hk
  ·rcases h.key k hk with g | ⟨i,l',h1,h2,h3⟩
   ·exact Or.inl g
   ·exact Or.inr ⟨i,l',h1,Or.inl h2,h3⟩
  ·simp only [List.map_cons,List.map_nil,List.mem_singleton] at hk
   exact Or.inr ⟨j,l,hl,Or.inr rfl,hk⟩
theorem MInv.more (h:MInv is x ls Q W A D) {D':Nat → Prop} (hD:∀ j,j < ls.length → (D j ↔ D' j)):MInv is x ls Q W A D':=by
 have hlt:∀ {j:Nat} {l:TLink},ls[j]? = some l → j < ls.length:=fun {j} {l} e => by
  rcases Nat.lt_or_ge j ls.length with g | g
  ·exact g
  ·rw [List.getElem?_eq_none g] at e;cases e
 exact ⟨h.nd,h.ins,fun j l q h1 h2 h3 => h.lnk j l q h1 h2 ((hD j (hlt h1)).2 h3),fun k hk => (h.key k hk).imp id fun ⟨j,l,h1,h2,h3⟩ => ⟨j,l,h1,(hD j (hlt h1)).1 h2,h3⟩⟩
end
def DL (ls:List TLink) (o:List Nat) (i:Nat):Prop:=∃ l,ls[i]? = some l ∧ (0 < l.2.2.1 ∨ l.1.1.toNat ∈ o)
theorem MInv.look {ms:List TMach} {ps:List TPart} {ls:List TLink} {is os:List TPin} (h:OkN ms ps ls is os) {x:List Int} (hx:fitP (is.map (inAt ms ps)) x = true) {Q:List (List Int)} {sts:List Int} (hs:StOk ms ps ls Q sts) {W:Nat → TRow} {A:List (TPin × Int)} {o:List Nat} (hA:MInv is x ls Q W A (DL ls o))
  {p:Nat} (hp:p < ps.length) (hw:∀ u,EE ls u p → fitP (outsAt ms ps (u:Int)) (li (W u).2.1) = true) (ho:∀ u,EE ls u p → u ∈ o) {b:Nat} (hb:b < (insAt ms ps (p:Int)).length):Go.Proofs.Ytelcbakleaaneaa.look A ((p:Int),(b:Int),()) = Go.Proofs.Ytelcbakleaaneaa.look (is.zip x ++ srcLs W ls Q) ((p:Int),(b:Int),()):=by
 have hS:=srcOk h hx hs hp hw
 obtain ⟨e,he,hpin⟩:=List.mem_map.1 (hS.all b hb)
 have hl:=look_mem (p:=e.1) (v:=e.2) hS.nd he
 rw [hpin] at hl
 rw [hl,← hpin]
 refine look_mem hA.nd ?_
 rcases List.mem_append.1 he with he | he
 ·exact hA.ins e he
 ·unfold srcLs at he
  obtain ⟨e',he',rfl⟩:=List.mem_map.1 he
  obtain ⟨j,hj⟩:=List.getElem?_of_mem he'
  rw [List.getElem?_zip_eq_some] at hj
  have hlm:=List.mem_of_getElem? hj.1
  have hok:=h.lok e'.1 hlm
  refine hA.lnk j e'.1 e'.2 hj.1 hj.2 ⟨e'.1,hj.1,?_⟩
  by_cases g:0 < e'.1.2.2.1
  ·exact Or.inl g
  ·refine Or.inr (ho _ ⟨e'.1,hlm,by have:=hok.del;omega,?_,by rw [hpin]⟩)
   have:=isOutB_iff.1 hok.out
   omega
def vecU (m:Nat) (A:List (TPin × Int)) (p k:Nat):List (List FV):=vec m fun b => I (if b < k then look A ((p:Int),(b:Int),()) else 0)
theorem vecU_set {m:Nat} {A:List (TPin × Int)} {p k:Nat} (hk:k < m):rSet (vecU m A p k) k 0 [.int .i64 (look A ((p:Int),(k:Int),()))] = some (vecU m A p (k + 1)):=by
 have:=vec_set (n:=m) (g:=fun b => I (if b < k then look A ((p:Int),(b:Int),()) else 0)) (g':=fun b => I (if b < k + 1 then look A ((p:Int),(b:Int),()) else 0)) (i:=k) (fun j hj => by
  by_cases g:j < k
  ·simp only [g,if_true,show j < k + 1 by omega]
  ·simp only [g,if_false,show ¬ j < k + 1 by omega])
 unfold vecU
 rw [rSet_one (x:=.int .i64 (if k < k then look A ((p:Int),(k:Int),()) else 0)) (vec_get hk),← this]
 simp [I]
theorem vecU_zero (m:Nat) (A:List (TPin × Int)) (p:Nat):List.replicate m [(FV.int .i64 0:FV)] = vecU m A p 0:=by
 rw [vec_rep]
 rfl
theorem vecU_all {ms:List TMach} {ps:List TPart} (A B:List (TPin × Int)) (p:Nat) (h:∀ b:Nat,b < (insAt ms ps (p:Int)).length → look A ((p:Int),(b:Int),()) = look B ((p:Int),(b:Int),())):vecU (insAt ms ps (p:Int)).length A p (insAt ms ps (p:Int)).length = (vecOf ms ps B p).map I:=by
 unfold vecU vec vecOf
 rw [List.map_map]
 refine List.map_congr_left fun b hb => ?_
 have hb':=List.mem_range.1 hb
 simp only [hb',if_true,Function.comp,h b hb']
theorem clone_arr {q:List Int} (h:q.length < 1000000000000):slices_Clone_int (.arr (q.map I)) = some (.arr (q.map I)):=by
 rw [slices_Clone_int.eq]
 simp only [asRows_arr,bindO_s,rowsSz_I,gB_t,List.length_map,show (0 + q.length) * 8 ≤ room by unfold room;omega,decide_true,List.nil_append,onFV_arr]
theorem clone_sl {o:Option (List Int)} (h:(li o).length < 1000000000000):slices_Clone_int (sl I o) = some (.arr ((li o).map I)):=by
 rw [slices_Clone_int.eq]
 simp only [asRows_sl,bindO_s,rowsSz_I,gB_t,List.length_map,show (0 + (li o).length) * 8 ≤ room by unfold room;omega,decide_true,List.nil_append,onFV_sl]
end Go.Proofs.Ytelcbakleaaneaa
end
section
namespace Go.Proofs.Ytelcbakleaaneaa
open Go Go.Proofs.Ytelcbakleaaneaa.VM
section
variable {oms:Option (List TMach)} {ops:Option (List TPart)} {ol:Option (List TLink)} {oi oo:Option (List TPin)} {ox:Option (List Int)}
theorem step_L0 (h:OkN (li oms) (li ops) (li ol) (li oi) (li oo)) (hlen:(li oi).length = (li ox).length) (hli:(li oi).length < 1000000000000000) (x4 x5 x6 x7 x9 x10 x11 x12 x13:FV) (r15 r16:List (List FV)) :
  ∀ (t:List TPin) (k:Nat),(li oi).drop k = t →
  mach_runner_step.L0 (sl I ox) (sl PN oi) (.int .i64 ((li oi).length:Int)) (.int .i64 (k:Int)) x4 x5 x6 x7 (sl LK ol) x9 x10 x11 x12 x13 (mapV (((li oi).zip (li ox)).take k)) r15 r16 =
   mach_runner_step.L1 (sl LK ol) (.int .i64 ((li ol).length:Int)) (.int .i64 ((0:Nat):Int)) x4 x5 x6 x7 (sl LK ol) x9 x10 x11 x12 x13 (mapV ((li oi).zip (li ox))) r15 r16:=by
 intro t
 induction t with
 | nil =>
  intro k hd
  have hk:=drop_nil hd
  rw [mach_runner_step.L0_eq,List.take_of_length_le (by simp;omega)]
  simp only [fLen_sl,bindO_s,fCond_b,fBin_lss,decide_eq_true_eq,Int.ofNat_lt,hk,if_false]
  rfl
 | cons q t ih =>
  intro k hd
  obtain ⟨hk,hn,hs⟩:=drop_cons hd
  have e1:IntKind.i64.wrap ((k:Int) + 1) = ((k + 1:Nat):Int):=wrap64 (by omega) (by omega)
  have hkx:k < (li ox).length:=by omega
  have hx:(li ox)[k]? = some (li ox)[k]:=List.getElem?_eq_getElem hkx
  have hz:((li oi).zip (li ox))[k]? = some (q,(li ox)[k]):=List.getElem?_zip_eq_some.2 ⟨hn,hx⟩
  have htk:((li oi).zip (li ox)).take (k + 1) = ((li oi).zip (li ox)).take k ++ [(q,(li ox)[k])]:=by rw [List.take_add_one,hz];rfl
  have hnd:(((li oi).zip (li ox)).map Prod.fst).Nodup:=by
   rw [List.map_fst_zip (by omega)]
   exact (List.nodup_append.1 h.nd).2.1
  have hnot:q ∉ (((li oi).zip (li ox)).take k).map Prod.fst:=by
   have h1:((((li oi).zip (li ox)).take (k + 1)).map Prod.fst).Nodup:=List.Nodup.sublist ((List.take_sublist _ _).map _) hnd
   rw [htk,List.map_append,List.nodup_append] at h1
   exact fun g => h1.2.2 q g q (by simp) rfl
  have ih':=ih (k + 1) hs
  rw [htk] at ih'
  rw [mach_runner_step.L0_eq]
  simp only [fLen_sl,bindO_s,fCond_b,fBin_lss,decide_eq_true_eq,Int.ofNat_lt,hk,if_true,idx_sl hn (PN_len q),PN_zero,PN_one,idx_sl hx (I_len _),I_zero,fBin_add,e1,pinK_eq,pin_keyOk,gB_t,mPut_val q _ _ hnot]
  exact ih'
theorem step_L1 (h:OkN (li oms) (li ops) (li ol) (li oi) (li oo)) {Q:List (List Int)} {sts:List Int} (hs:StOk (li oms) (li ops) (li ol) Q sts) {W:Nat → TRow} {o:List Nat} (x3 x4 x5 x9 x10 x11:FV) (r14 r15:List (List FV)) :
  ∀ (t:List TLink) (j:Nat) (A:List (TPin × Int)),(li ol).drop j = t → MInv (li oi) (li ox) (li ol) Q W A (fun i => i < j ∧ DL (li ol) [] i) →
  ∃ A',MInv (li oi) (li ox) (li ol) Q W A' (DL (li ol) []) ∧ mach_runner_step.L1 (sl LK ol) (.int .i64 ((li ol).length:Int)) (.int .i64 (j:Int)) x3 x4 x5 (sl PT ops) (sl LK ol) x9 x10 (.arr (o.map numR)) x11 (.arr (Q.map LL)) (mapV A) r14 r15 =
   mach_runner_step.L2 (.arr (o.map numR)) (.int .i64 (o.length:Int)) (.int .i64 ((0:Nat):Int)) x3 x4 x5 (sl PT ops) (sl LK ol) x9 x10 (.arr (o.map numR)) x11 (.arr (Q.map LL)) (mapV A') r14 r15 (List.replicate (li ops).length [(.nilS:FV)]) (List.replicate (li ops).length [(.int .i64 0:FV)]) []:=by
 intro t
 have h64:=h.l64
 have h32:=h.n32
 have hql:=hs.qlen
 induction t with
 | nil =>
  intro j A hd hA
  have hk:=drop_nil hd
  refine ⟨A,hA.more fun i hi => ⟨fun g => g.2,fun g => ⟨by omega,g⟩⟩,?_⟩
  rw [mach_runner_step.L1_eq]
  have hr1:(li ops).length * 24 ≤ room:=by unfold room;omega
  have hr2:(li ops).length * 8 ≤ room:=by unfold room;omega
  simp only [fLen_sl,fLen_arr,List.length_map,bindO_s,fCond_b,fBin_lss,decide_eq_true_eq,Int.ofNat_lt,hk,if_false,asNat_nat,Nat.le_refl,hr1,hr2,decide_true,Bool.and_self,ge_iff_le,gB_t]
  rfl
 | cons l t ih =>
  intro j A hd hA
  obtain ⟨hk,hn,hs'⟩:=drop_cons hd
  have e1:IntKind.i64.wrap ((j:Int) + 1) = ((j + 1:Nat):Int):=wrap64 (by omega) (by omega)
  have hkQ:j < Q.length:=by omega
  have hQj:Q[j]? = some Q[j]:=List.getElem?_eq_getElem hkQ
  have hdel:=(h.lok l (List.mem_of_getElem? hn)).del
  have hqj:=(hs.qok j l Q[j] hn hQj).1
  rw [mach_runner_step.L1_eq]
  by_cases g:0 < l.2.2.1
  ·have hq0:0 < Q[j].length:=by omega
   have hnD:¬ (j < j ∧ DL (li ol) [] j):=by omega
   have hA2:=(hA.put h.nd hn hQj hnD).more (D':=fun i => i < j + 1 ∧ DL (li ol) [] i) fun i hi => by
    constructor
    ·rintro (g1 | rfl)
     ·exact ⟨by omega,g1.2⟩
     ·exact ⟨by omega,l,hn,Or.inl g⟩
    ·rintro ⟨g1,g2⟩
     by_cases e:i = j
     ·exact Or.inr e
     ·exact Or.inl ⟨by omega,g2⟩
   obtain ⟨A',k1,k2⟩:=ih (j + 1) _ hs' hA2
   refine ⟨A',k1,?_⟩
   have hfr:=hA.fresh h.nd hn hnD
   have hixQ:fIdxC 1 (.arr (Q.map LL)) (.int .i64 (j:Int)) = some (LL Q[j]):=idx_arr (by simp [hkQ]) rfl
   have hix0:fIdxC 1 (.arr (Q[j].map I)) (.int .i64 0) = some (I Q[j][0]):=idx_arr (k:=0) (by simp [hq0]) rfl
   have hval:linkVal W Q[j] l = Q[j][0]:=by
    unfold linkVal
    rw [if_neg (by omega),List.getD_eq_getElem?_getD,List.getElem?_eq_getElem hq0,Option.getD_some]
   rw [hval] at k2
   simp only [fLen_sl,bindO_s,fCond_b,fBin_lss,decide_eq_true_eq,Int.ofNat_lt,hk,if_true,idx_sl hn (LK_len l),LK_zero,LK_one,LK_two,LK_three,LK_four,LK_five,fBin_gtr,g,fBin_add,e1,hixQ,LL_zero,hix0,I_zero,pinK_eq,pin_keyOk,gB_t,mPut_val l.2.1 _ _ hfr]
   exact k2
  ·have hA2:=hA.more (D':=fun i => i < j + 1 ∧ DL (li ol) [] i) fun i hi => by
    constructor
    ·exact fun g1 => ⟨by omega,g1.2⟩
    ·rintro ⟨g1,g2⟩
     refine ⟨?_,g2⟩
     by_cases e:i = j
     ·subst e
      obtain ⟨l',e1,e2⟩:=g2
      rw [hn] at e1;cases e1
      rcases e2 with e2 | e2
      ·exact absurd e2 g
      ·cases e2
     ·omega
   obtain ⟨A',k1,k2⟩:=ih (j + 1) _ hs' hA2
   refine ⟨A',k1,?_⟩
   simp only [fLen_sl,bindO_s,fCond_b,fBin_lss,decide_eq_true_eq,Int.ofNat_lt,hk,if_true,idx_sl hn (LK_len l),LK_zero,LK_one,LK_two,LK_three,LK_four,LK_five,fBin_gtr,g,if_false,fBin_add,e1]
   exact k2
end
end Go.Proofs.Ytelcbakleaaneaa
end
section
namespace Go.Proofs.Ytelcbakleaaneaa
open Go Go.Proofs.Ytelcbakleaaneaa.VM
section
variable {oms:Option (List TMach)} {ops:Option (List TPart)} {ol:Option (List TLink)} {oi oo:Option (List TPin)} {ox:Option (List Int)}
theorem step_fill (m:Nat) (hm:m < 1000000000) (A:List (TPin × Int)) (p:Nat) (x1 x2 x3 x6 x7 x8 x9 x10 x11 x12 x13 x14 x15:FV) (r17 r18 r19 r20 r21:List (List FV)) (x22 x23 x24 x25 x26 x27:FV) :
  ∀ (d k:Nat),m - k = d → k ≤ m →
  mach_runner_step.L3 (.int .i64 (p:Int)) x1 x2 x3 (.int .i64 (m:Int)) (.int .i64 (k:Int)) x6 x7 x8 x9 x10 x11 x12 x13 x14 x15 (mapV A) r17 r18 r19 r20 r21 x22 x23 x24 x25 x26 x27 (vecU m A p k) =
   mach_runner_step.L3 (.int .i64 (p:Int)) x1 x2 x3 (.int .i64 (m:Int)) (.int .i64 (m:Int)) x6 x7 x8 x9 x10 x11 x12 x13 x14 x15 (mapV A) r17 r18 r19 r20 r21 x22 x23 x24 x25 x26 x27 (vecU m A p m):=by
 intro d
 induction d with
 | zero =>
  intro k hd hk
  obtain rfl:k = m:=by omega
  rfl
 | succ d ih =>
  intro k hd hk
  have hk':k < m:=by omega
  have e1:IntKind.i64.wrap ((k:Int) + 1) = ((k + 1:Nat):Int):=wrap64 (by omega) (by omega)
  obtain ⟨b,hb⟩:=mLook_val ((p:Int),(k:Int),()) A
  have hrI:rIdx (vecU m A p k) (.int .i64 (k:Int)) = some k:=rIdx_at (by simpa [vecU] using hk')
  have hpk:FV.agg [.int .i64 (p:Int),.int .i64 (k:Int)] = pinK ((p:Int),(k:Int),()):=rfl
  refine Eq.trans ?_ (ih (k + 1) (by omega) (by omega))
  rw [mach_runner_step.L3_eq]
  simp only [bindO_s,fCond_b,fBin_lss,decide_eq_true_eq,Int.ofNat_lt,hk',if_true,hpk,hb,hrI,vecU_set hk',fBin_add,e1]
theorem step_L4 (h:OkN (li oms) (li ops) (li ol) (li oi) (li oo)) {Q:List (List Int)} {sts:List Int} (hs:StOk (li oms) (li ops) (li ol) Q sts) {W:Nat → TRow} {o:List Nat} {p:Nat} (hp:p < (li ops).length) (hpo:p ∉ o) (hfit:fitP (outsAt (li oms) (li ops) (p:Int)) (li (W p).2.1) = true) (x1 x2 x7 x8 x9 x10 x12 x13 x14 x15 x16:FV) {i:Nat} (hi:i < 1000000) (r18 r19 r20 r21 r22:List (List FV)) (x23 x24 x25 x26 x27 x28:FV) (r29:List (List FV)) (x30:FV) :
  ∀ (t:List TLink) (j:Nat) (A:List (TPin × Int)),(li ol).drop j = t → MInv (li oi) (li ox) (li ol) Q W A (fun i => DL (li ol) o i ∨ (i < j ∧ DL (li ol) [p] i)) →
  ∃ A',MInv (li oi) (li ox) (li ol) Q W A' (DL (li ol) (o ++ [p])) ∧ mach_runner_step.L4 (.int .i64 (p:Int)) x1 x2 (.int .i64 (i:Int)) (sl LK ol) (.int .i64 ((li ol).length:Int)) (.int .i64 (j:Int)) x7 x8 x9 x10 (sl LK ol) x12 x13 x14 x15 x16 (mapV A) r18 r19 r20 r21 r22 x23 x24 x25 x26 x27 x28 r29 x30 (sl I (W p).2.1) =
   mach_runner_step.L2 x1 x2 (.int .i64 ((i + 1:Nat):Int)) x7 x8 x9 x10 (sl LK ol) x12 x13 x14 x15 x16 (mapV A') r18 r19 r20 r21 r22:=by
 intro t
 have h64:=h.l64
 have hql:=hs.qlen
 have ei:IntKind.i64.wrap ((i:Int) + 1) = ((i + 1:Nat):Int):=wrap64 (by omega) (by omega)
 induction t with
 | nil =>
  intro j A hd hA
  have hk:=drop_nil hd
  refine ⟨A,hA.more fun i hi => ?_,?_⟩
  ·constructor
   ·rintro (⟨l,e1,e2⟩ | ⟨_,l,e1,e2⟩)
    ·exact ⟨l,e1,e2.imp id fun g => by simp [g]⟩
    ·exact ⟨l,e1,e2.imp id fun g => by simp at g;simp [g]⟩
   ·rintro ⟨l,e1,e2⟩
    rcases e2 with e2 | e2
    ·exact Or.inl ⟨l,e1,Or.inl e2⟩
    ·rcases List.mem_append.1 e2 with g | g
     ·exact Or.inl ⟨l,e1,Or.inr g⟩
     ·exact Or.inr ⟨by omega,l,e1,Or.inr g⟩
  ·rw [mach_runner_step.L4_eq]
   simp only [fLen_sl,bindO_s,fCond_b,fBin_lss,decide_eq_true_eq,Int.ofNat_lt,hk,if_false,fBin_add,ei]
 | cons l t ih =>
  intro j A hd hA
  obtain ⟨hk,hn,hs'⟩:=drop_cons hd
  have e1:IntKind.i64.wrap ((j:Int) + 1) = ((j + 1:Nat):Int):=wrap64 (by omega) (by omega)
  have hkQ:j < Q.length:=by omega
  have hQj:Q[j]? = some Q[j]:=List.getElem?_eq_getElem hkQ
  have hlok:=h.lok l (List.mem_of_getElem? hn)
  have hdel:=hlok.del
  have hout:=isOutB_iff.1 hlok.out
  rw [mach_runner_step.L4_eq]
  have skip:¬ (l.2.2.1 = 0 ∧ l.1.1 = (p:Int)) → MInv (li oi) (li ox) (li ol) Q W A (fun i => DL (li ol) o i ∨ (i < j + 1 ∧ DL (li ol) [p] i)):=fun g => hA.more fun i hi => by
   constructor
   ·rintro (g1 | g1)
    ·exact Or.inl g1
    ·exact Or.inr ⟨by omega,g1.2⟩
   ·rintro (g1 | ⟨g1,g2⟩)
    ·exact Or.inl g1
    ·by_cases e:i = j
     ·subst e
      obtain ⟨l',e1,e2⟩:=g2
      have e1':=e1
      rw [hn] at e1;cases e1
      rcases e2 with e2 | e2
      ·exact Or.inl ⟨l,hn,Or.inl e2⟩
      ·simp only [List.mem_singleton] at e2
       by_cases g0:l.2.2.1 = 0
       ·exact absurd ⟨g0,by omega⟩ g
       ·exact Or.inl ⟨l,hn,Or.inl (by omega)⟩
     ·exact Or.inr ⟨by omega,g2⟩
  by_cases g0:l.2.2.1 = 0
  ·by_cases gp:l.1.1 = (p:Int)
   ·have hnD:¬ (DL (li ol) o j ∨ (j < j ∧ DL (li ol) [p] j)):=by
     rintro (⟨l',e1,e2⟩ | g)
     ·rw [hn] at e1;cases e1
      rcases e2 with e2 | e2
      ·omega
      ·rw [gp,Int.toNat_natCast] at e2
       exact hpo e2
     ·omega
    have hA2:=(hA.put h.nd hn hQj hnD).more (D':=fun i => DL (li ol) o i ∨ (i < j + 1 ∧ DL (li ol) [p] i)) fun i hi => by
     constructor
     ·rintro ((g1 | g1) | rfl)
      ·exact Or.inl g1
      ·exact Or.inr ⟨by omega,g1.2⟩
      ·exact Or.inr ⟨by omega,l,hn,Or.inr (by simp [gp])⟩
     ·rintro (g1 | ⟨g1,g2⟩)
      ·exact Or.inl (Or.inl g1)
      ·by_cases e:i = j
       ·exact Or.inr e
       ·exact Or.inl (Or.inr ⟨by omega,g2⟩)
    obtain ⟨A',k1,k2⟩:=ih (j + 1) _ hs' hA2
    refine ⟨A',k1,?_⟩
    have hfr:=hA.fresh h.nd hn hnD
    simp only [fitP,Bool.and_eq_true,decide_eq_true_eq] at hfit
    have hk'':l.1.2.1.toNat < (li (W p).2.1).length:=by rw [gp] at hout;omega
    have hix:=idx_sl (List.getElem?_eq_getElem hk'') (I_len _)
    rw [show ((l.1.2.1.toNat:Nat):Int) = l.1.2.1 by omega] at hix
    have hval:linkVal W Q[j] l = (li (W p).2.1)[l.1.2.1.toNat]:=by
     unfold linkVal
     rw [if_pos g0,gp,Int.toNat_natCast,List.getD_eq_getElem?_getD,List.getElem?_eq_getElem hk'',Option.getD_some]
    rw [hval] at k2
    simp only [fLen_sl,bindO_s,fCond_b,fBin_lss,decide_eq_true_eq,Int.ofNat_lt,hk,if_true,idx_sl hn (LK_len l),LK_zero,LK_one,LK_two,LK_three,LK_four,LK_five,fBin_eql,g0,gp,hix,I_zero,fBin_add,e1,pinK_eq,pin_keyOk,gB_t,mPut_val l.2.1 _ _ hfr]
    exact k2
   ·obtain ⟨A',k1,k2⟩:=ih (j + 1) _ hs' (skip fun g => gp g.2)
    refine ⟨A',k1,?_⟩
    simp only [fLen_sl,bindO_s,fCond_b,fBin_lss,decide_eq_true_eq,Int.ofNat_lt,hk,if_true,idx_sl hn (LK_len l),LK_zero,LK_one,LK_two,LK_three,LK_four,LK_five,fBin_eql,g0,gp,if_false,fBin_add,e1]
    exact k2
  ·obtain ⟨A',k1,k2⟩:=ih (j + 1) _ hs' (skip fun g => g0 g.1)
   refine ⟨A',k1,?_⟩
   simp only [fLen_sl,bindO_s,fCond_b,fBin_lss,decide_eq_true_eq,Int.ofNat_lt,hk,if_true,idx_sl hn (LK_len l),LK_zero,LK_one,LK_two,LK_three,LK_four,LK_five,fBin_eql,g0,if_false,fBin_add,e1]
   exact k2
theorem step_part (h:OkN (li oms) (li ops) (li ol) (li oi) (li oo)) (hms:OkMs (li oms)) (hx:fitP ((li oi).map (inAt (li oms) (li ops))) (li ox) = true) {Q:List (List Int)} {sts:List Int} (hs:StOk (li oms) (li ops) (li ol) Q sts)
  {W:Nat → TRow} (hW:∀ p,p < (li ops).length → W p = rowOf (li oms) (li ops) (li oi) (li ox) (li ol) Q sts W p) {o:List Nat} {i p:Nat} (hi:o[i]? = some p) (ho:Ord (EE (li ol)) (li ops).length o) {w:Nat → TRow} {A:List (TPin × Int)} (hA:MInv (li oi) (li ox) (li ol) Q W A (DL (li ol) (o.take i))) (x4 x5 x9 x10:FV) (r14 r15 r18:List (List FV)) :
  ∃ A',MInv (li oi) (li ox) (li ol) Q W A' (DL (li ol) (o.take (i + 1))) ∧
  mach_runner_step.L2 (.arr (o.map numR)) (.int .i64 (o.length:Int)) (.int .i64 (i:Int)) (sl MC oms) x4 x5 (sl PT ops) (sl LK ol) x9 x10 (.arr (o.map numR)) (.arr (sts.map I)) (.arr (Q.map LL)) (mapV A) r14 r15 (saidV (li ops).length w) (goV (li ops).length w) r18 =
   mach_runner_step.L2 (.arr (o.map numR)) (.int .i64 (o.length:Int)) (.int .i64 ((i + 1:Nat):Int)) (sl MC oms) x4 x5 (sl PT ops) (sl LK ol) x9 x10 (.arr (o.map numR)) (.arr (sts.map I)) (.arr (Q.map LL)) (mapV A') r14 r15 (saidV (li ops).length (upd w p (W p))) (goV (li ops).length (upd w p (W p))) r18:=by
 have hil:i < o.length:=by
  rcases Nat.lt_or_ge i o.length with g | g
  ·exact g
  ·rw [List.getElem?_eq_none g] at hi;cases hi
 have h32:=h.n32
 have hol:=ho.len
 have hp:=ho.lt p (List.mem_of_getElem? hi)
 obtain ⟨q,k1,k2⟩:=part_mAt h.pin hp
 have hm:=hms _ (mAt_mem h.pin hp)
 have hfit:=sol_ok h hms hx hs hW
 have hEin:=edges h
 have hwf:∀ u,EE (li ol) u p → fitP (outsAt (li oms) (li ops) (u:Int)) (li (W u).2.1) = true:=fun u hu => hfit u (by
  obtain ⟨l,hl,_,e2,_⟩:=hu
  have:=hEin l hl
  omega)
 have hsplit:o = o.take i ++ p :: o.drop (i + 1):=by
  have h1:=List.take_append_drop i o
  rw [List.drop_eq_getElem_cons hil] at h1
  have h2:o[i] = p:=by rw [List.getElem?_eq_getElem hil] at hi;exact Option.some.inj hi
  rw [h2] at h1
  exact h1.symm
 have htopo:=ho.topo
 have hnd:=ho.nd
 rw [hsplit] at htopo hnd
 have hpre:p ∉ o.take i:=fun g => (List.nodup_append.1 hnd).2.2 p g p (by simp) rfl
 have hpreds:∀ u,EE (li ol) u p → u ∈ o.take i:=fun u hu => topo_pre (F:=rowOf (li oms) (li ops) (li oi) (li ox) (li ol) Q sts) (rowOf_dep hEin) htopo hpre hu
 obtain ⟨hf,hr⟩:=rowOf_ok h hms hx hs hp hwf
 obtain ⟨s1,s2⟩:=hs.sok p hp
 have hpl:p < sts.length:=by rw [hs.slen];exact hp
 have hst:(sts.getD p 0).toNat < (li (mAt (li oms) (li ops) p).2.1).length:=by omega
 have hi8:=hm.i8
 have hix:fIdxC 1 (.arr (o.map numR)) (.int .i64 (i:Int)) = some (numR p):=idx_arr (by simp [hi]) rfl
 have hsg:sts[p]? = some (sts.getD p 0):=by simp [List.getD_eq_getElem?_getD,hpl]
 have hixs:fIdxC 1 (.arr (sts.map I)) (.int .i64 (p:Int)) = some (I (sts.getD p 0)):=idx_arr (by rw [List.getElem?_map,hsg];rfl) rfl
 have hroom:(li (mAt (li oms) (li ops) p).2.2.2.1).length * 8 ≤ room:=by unfold room;omega
 have hlens:=hm.lens
 have hsm:=hm.small
 obtain ⟨g1,g2,g3,g4⟩:=rowAt_get hm hst (v:=vecOf (li oms) (li ops) ((li oi).zip (li ox) ++ srcLs W (li ol) Q) p) hf
 have hn1:=hm.n1
 have h5:1 * prodL (li (mAt (li oms) (li ops) p).2.2.2.1) ≤ (li (mAt (li oms) (li ops) p).2.1).length * prodL (li (mAt (li oms) (li ops) p).2.2.2.1):=Nat.mul_le_mul_right _ hn1.1
 have hcap:capP (prodL (li (mAt (li oms) (li ops) p).2.2.2.1)) = prodL (li (mAt (li oms) (li ops) p).2.2.2.1):=by unfold capP;rw [if_neg (by omega)]
 have e1:IntKind.i64.wrap ((sts.getD p 0) * ((prodL (li (mAt (li oms) (li ops) p).2.2.2.1):Nat):Int)) = (((sts.getD p 0).toNat * prodL (li (mAt (li oms) (li ops) p).2.2.2.1):Nat):Int):=by
  have:(sts.getD p 0) = (((sts.getD p 0).toNat:Nat):Int):=by omega
  rw [this,← Int.natCast_mul,wrap64 (by omega) (by omega)]
  rfl
 have e2:IntKind.i64.wrap ((((sts.getD p 0).toNat * prodL (li (mAt (li oms) (li ops) p).2.2.2.1):Nat):Int) + ((numGo (li (mAt (li oms) (li ops) p).2.2.2.1) (vecOf (li oms) (li ops) ((li oi).zip (li ox) ++ srcLs W (li ol) Q) p) 0:Nat):Int)) = (((sts.getD p 0).toNat * prodL (li (mAt (li oms) (li ops) p).2.2.2.1) + numGo (li (mAt (li oms) (li ops) p).2.2.2.1) (vecOf (li oms) (li ops) ((li oi).zip (li ox) ++ srcLs W (li ol) Q) p) 0:Nat):Int):=by rw [wrap64 (by omega) (by omega)];omega
 have hvec:=vecU_all (ms:=li oms) (ps:=li ops) A ((li oi).zip (li ox) ++ srcLs W (li ol) Q) p (fun b hb => MInv.look h hx hs hA hp hwf hpreds hb)
 have hnum:=number_ok (v:=some (vecOf (li oms) (li ops) ((li oi).zip (li ox) ++ srcLs W (li ol) Q) p)) (show (li (mAt (li oms) (li ops) p).2.2.2.1).length < 1000000000000000 by omega) hlens g4 hf
 rw [sl_some,li_some] at hnum
 have hro:rowAt (li (mAt (li oms) (li ops) p).2.2.2.1) (li (mAt (li oms) (li ops) p).2.2.2.2.2.1) (sts.getD p 0).toNat (vecOf (li oms) (li ops) ((li oi).zip (li ox) ++ srcLs W (li ol) Q) p) = W p:=(hW p hp).symm
 rw [hro] at g1
 have hrI1:rIdx (saidV (li ops).length w) (.int .i64 (p:Int)) = some p:=rIdx_at (by simp only [saidV,vec_len];exact hp)
 have hrI2:rIdx (goV (li ops).length w) (.int .i64 (p:Int)) = some p:=rIdx_at (by simp only [goV,vec_len];exact hp)
 have htk:o.take (i + 1) = o.take i ++ [p]:=by rw [List.take_add_one,hi];rfl
 rw [htk]
 have hA4:MInv (li oi) (li ox) (li ol) Q W A (fun i' => DL (li ol) (o.take i) i' ∨ (i' < 0 ∧ DL (li ol) [p] i')):=hA.more fun i hi => ⟨Or.inl,fun g => g.elim id fun g => absurd g.1 (by omega)⟩
 obtain ⟨A',j1,j2⟩:=step_L4 (ox:=ox) h hs hp hpre (hfit p hp) (.arr (o.map numR)) (.int .i64 (o.length:Int)) (sl MC oms) x4 x5 (sl PT ops) x9 x10 (.arr (o.map numR)) (.arr (sts.map I)) (.arr (Q.map LL)) (i:=i) (by omega) r14 r15 (saidV (li ops).length (upd w p (W p))) (goV (li ops).length (upd w p (W p))) r18 (.str (mAt (li oms) (li ops) p).1) (sl S (mAt (li oms) (li ops) p).2.1) (.int .i64 (mAt (li oms) (li ops) p).2.2.1) (sl P (mAt (li oms) (li ops) p).2.2.2.1) (sl P (mAt (li oms) (li ops) p).2.2.2.2.1) (sl RW (mAt (li oms) (li ops) p).2.2.2.2.2.1) ((vecOf (li oms) (li ops) ((li oi).zip (li ox) ++ srcLs W (li ol) Q) p).map I) (.int .i64 (W p).1) _ 0 A rfl hA4
 refine ⟨A',j1,Eq.trans ?_ j2⟩
 have hfill:=step_fill (insAt (li oms) (li ops) (p:Int)).length (by rw [insAt_mAt];omega) A p (.arr (o.map numR)) (.int .i64 (o.length:Int)) (.int .i64 (i:Int)) (sl MC oms) x4 x5 (sl PT ops) (sl LK ol) x9 x10 (.arr (o.map numR)) (.arr (sts.map I)) (.arr (Q.map LL)) r14 r15 (saidV (li ops).length w) (goV (li ops).length w) r18 (.str (mAt (li oms) (li ops) p).1) (sl S (mAt (li oms) (li ops) p).2.1) (.int .i64 (mAt (li oms) (li ops) p).2.2.1) (sl P (mAt (li oms) (li ops) p).2.2.2.1) (sl P (mAt (li oms) (li ops) p).2.2.2.2.1) (sl RW (mAt (li oms) (li ops) p).2.2.2.2.2.1) _ 0 rfl (Nat.zero_le _)
 rw [mach_runner_step.L2_eq]
 simp only [bindO_s,fCond_b,fBin_lss,decide_eq_true_eq,Int.ofNat_lt,hil,if_true,hix,numR,I_zero,k1,PT_one,k2,MC_zero,MC_one,MC_two,MC_three,MC_four,MC_five,fLen_sl,asNat_nat,Nat.le_refl,hroom,decide_true,Bool.and_self,ge_iff_le,gB_t,List.length_replicate]
 rw [← insAt_mAt,vecU_zero _ A p]
 refine Eq.trans hfill ?_
 rw [hvec,mach_runner_step.L3_eq]
 have hpr:=mach_product_ok (o:=(mAt (li oms) (li ops) p).2.2.2.1) (show (li (mAt (li oms) (li ops) p).2.2.2.1).length < 1000000000000000 by omega) hlens
 rw [hcap] at hpr
 simp only [bindO_s,fCond_b,fBin_lss,Int.lt_irrefl,decide_false,Bool.false_eq_true,if_false,hixs,I_zero,hpr,fBin_mul,e1,hnum,fBin_add,e2,idx_sl g1 (RW_len _),RW_zero,RW_one,hrI1,hrI2,saidV_set hp,goV_set hp,fLen_sl]
 rfl
end
end Go.Proofs.Ytelcbakleaaneaa
end
section
namespace Go.Proofs.Ytelcbakleaaneaa
open Go Go.Proofs.Ytelcbakleaaneaa.VM
theorem cut_one {n:Nat} (h:1 ≤ n):cut? n (some (.int .i64 1)) none = some (1,n):=by
 have e:asNat (.int .i64 1) = some 1:=rfl
 simp only [cut?,e,bindO_s]
 rw [if_pos ⟨h,Nat.le_refl _⟩]
theorem saidV_congr {n:Nat} {w W:Nat → TRow} (h:∀ i,i < n → w i = W i):saidV n w = saidV n W ∧ goV n w = goV n W:=by
 constructor
 ·exact List.map_congr_left fun i hi => by rw [h i (List.mem_range.1 hi)]
 ·exact List.map_congr_left fun i hi => by rw [h i (List.mem_range.1 hi)]
section
variable {oms:Option (List TMach)} {ops:Option (List TPart)} {ol:Option (List TLink)} {oi oo:Option (List TPin)} {ox:Option (List Int)}
theorem step_parts (h:OkN (li oms) (li ops) (li ol) (li oi) (li oo)) (hms:OkMs (li oms)) (hx:fitP ((li oi).map (inAt (li oms) (li ops))) (li ox) = true) {Q:List (List Int)} {sts:List Int} (hs:StOk (li oms) (li ops) (li ol) Q sts)
  {W:Nat → TRow} (hW:∀ p,p < (li ops).length → W p = rowOf (li oms) (li ops) (li oi) (li ox) (li ol) Q sts W p) {o:List Nat} (ho:Ord (EE (li ol)) (li ops).length o) (x4 x5 x9 x10:FV) (r14 r15 r18:List (List FV)) :
  ∀ (t:List Nat) (i:Nat) (w:Nat → TRow) (A:List (TPin × Int)),o.drop i = t → (∀ u ∈ o.take i,w u = W u) → MInv (li oi) (li ox) (li ol) Q W A (DL (li ol) (o.take i)) →
  ∃ A',mach_runner_step.L2 (.arr (o.map numR)) (.int .i64 (o.length:Int)) (.int .i64 (i:Int)) (sl MC oms) x4 x5 (sl PT ops) (sl LK ol) x9 x10 (.arr (o.map numR)) (.arr (sts.map I)) (.arr (Q.map LL)) (mapV A) r14 r15 (saidV (li ops).length w) (goV (li ops).length w) r18 =
   mach_runner_step.L5 (sl LK ol) (.int .i64 ((li ol).length:Int)) (.int .i64 ((0:Nat):Int)) (sl MC oms) x4 x5 (sl PT ops) (sl LK ol) x9 x10 (.arr (o.map numR)) (.arr (sts.map I)) (.arr (Q.map LL)) (mapV A') r14 r15 (saidV (li ops).length W) (goV (li ops).length W) r18:=by
 intro t
 induction t with
 | nil =>
  intro i w A hd hw hA
  have hk:=drop_nil hd
  have hcg:=saidV_congr (n:=(li ops).length) (w:=w) (W:=W) fun j hj => hw j (by
   rw [List.take_of_length_le (by omega)]
   exact pig_all ho.nd ho.lt ho.len j hj)
  refine ⟨A,?_⟩
  rw [mach_runner_step.L2_eq,hcg.1,hcg.2]
  simp only [bindO_s,fCond_b,fBin_lss,decide_eq_true_eq,Int.ofNat_lt,hk,if_false,fLen_sl]
  rfl
 | cons p t ih =>
  intro i w A hd hw hA
  obtain ⟨hk,hn,hs'⟩:=drop_cons hd
  have hp:=ho.lt p (List.mem_of_getElem? hn)
  obtain ⟨A1,j1,j2⟩:=step_part h hms hx hs hW hn ho (w:=w) hA x4 x5 x9 x10 r14 r15 r18
  obtain ⟨A2,j3⟩:=ih (i + 1) (upd w p (W p)) A1 hs' (fun u hu => by
   rw [List.take_add_one,hn] at hu
   by_cases e:u = p
   ·subst e;rw [upd_at]
   ·rw [upd_ne _ _ e]
    refine hw u ?_
    rcases List.mem_append.1 hu with g | g
    ·exact g
    ·exact absurd (by simpa using g) e) j1
  exact ⟨A2,j2.trans j3⟩
theorem step_L5 (h:OkN (li oms) (li ops) (li ol) (li oi) (li oo)) {Q:List (List Int)} {sts:List Int} (hs:StOk (li oms) (li ops) (li ol) Q sts) {W:Nat → TRow} (hfit:∀ p,p < (li ops).length → fitP (outsAt (li oms) (li ops) (p:Int)) (li (W p).2.1) = true) (x3 x4 x5 x6 x8 x10 x11:FV) (es13:List (FV × FV)) (r14 r15 r17:List (List FV)) :
  ∀ (t:List TLink) (j:Nat),(li ol).drop j = t →
  mach_runner_step.L5 (sl LK ol) (.int .i64 ((li ol).length:Int)) (.int .i64 (j:Int)) x3 x4 x5 x6 (sl LK ol) x8 (sl PN oo) x10 x11 (.arr (Q.map LL)) es13 r14 r15 (saidV (li ops).length W) r17 (((nextQ W (li ol) Q).take j).map LL) =
   mach_runner_step.L7 (sl PN oo) (.int .i64 ((li oo).length:Int)) (.int .i64 ((0:Nat):Int)) x3 x4 x5 x6 (sl LK ol) x8 (sl PN oo) x10 x11 (.arr (Q.map LL)) es13 r14 r15 (saidV (li ops).length W) r17 [] ((nextQ W (li ol) Q).map LL):=by
 intro t
 have h64:=h.l64
 have hql:=hs.qlen
 induction t with
 | nil =>
  intro j hd
  have hk:=drop_nil hd
  rw [mach_runner_step.L5_eq,List.take_of_length_le (by simp [nextQ];omega)]
  simp only [fLen_sl,bindO_s,fCond_b,fBin_lss,decide_eq_true_eq,Int.ofNat_lt,hk,if_false]
  rfl
 | cons l t ih =>
  intro j hd
  obtain ⟨hk,hn,hs'⟩:=drop_cons hd
  have e1:IntKind.i64.wrap ((j:Int) + 1) = ((j + 1:Nat):Int):=wrap64 (by omega) (by omega)
  have hkQ:j < Q.length:=by omega
  have hQj:Q[j]? = some Q[j]:=List.getElem?_eq_getElem hkQ
  have hzz:((li ol).zip Q)[j]? = some (l,Q[j]):=List.getElem?_zip_eq_some.2 ⟨hn,hQj⟩
  have hl:=h.lok l (List.mem_of_getElem? hn)
  have hout:=isOutB_iff.1 hl.out
  have hdel:=hl.del
  have hqj:=(hs.qok j l Q[j] hn hQj).1
  have ih':=ih (j + 1) hs'
  have hixQ:fIdxC 1 (.arr (Q.map LL)) (.int .i64 (j:Int)) = some (LL Q[j]):=idx_arr (by simp [hkQ]) rfl
  have hcl:=clone_arr (q:=Q[j]) (by omega)
  rw [mach_runner_step.L5_eq]
  have hlen:(((nextQ W (li ol) Q).take j).length + 1) * 24 ≤ room:=by unfold room;simp;omega
  by_cases g:0 < l.2.2.1
  ·have hz:(nextQ W (li ol) Q)[j]? = some (Q[j].drop 1 ++ [(li (W l.1.1.toNat).2.1).getD l.1.2.1.toNat 0]):=by
    simp only [nextQ,List.getElem?_map,hzz,Option.map_some,g,if_true]
   rw [List.take_add_one,hz] at ih'
   obtain ⟨s1,s2⟩:=saidV_get (n:=(li ops).length) (w:=W) hout.1 hout.2.1
   have hu:=hfit l.1.1.toNat (by omega)
   simp only [fitP,Bool.and_eq_true,decide_eq_true_eq] at hu
   rw [show ((l.1.1.toNat:Nat):Int) = l.1.1 by omega] at hu
   have hk'':l.1.2.1.toNat < (li (W l.1.1.toNat).2.1).length:=by omega
   have hix:=idx_sl (List.getElem?_eq_getElem hk'') (I_len _)
   rw [show ((l.1.2.1.toNat:Nat):Int) = l.1.2.1 by omega] at hix
   have hv:(li (W l.1.1.toNat).2.1).getD l.1.2.1.toNat 0 = (li (W l.1.1.toNat).2.1)[l.1.2.1.toNat]:=by
    rw [List.getD_eq_getElem?_getD,List.getElem?_eq_getElem hk'',Option.getD_some]
   rw [hv] at ih'
   have hcut:cut? (Q[j].map I).length (some (.int .i64 1)) none = some (1,(Q[j].map I).length):=cut_one (by simp;omega)
   have hr2:((((Q[j].map I).take (Q[j].map I).length).drop 1).length + 1) * 8 ≤ room:=by unfold room;simp;omega
   simp only [fLen_sl,bindO_s,fCond_b,fBin_lss,decide_eq_true_eq,Int.ofNat_lt,hk,if_true,idx_sl hn (LK_len l),LK_zero,LK_one,LK_two,LK_three,LK_four,LK_five,hixQ,LL_zero,hcl,arrRows_arr,fBin_gtr,g,s1,s2,hix,I_zero,hcut,hr2,decide_true,gB_t]
   rw [mach_runner_step.L6_eq]
   simp only [List.length_map,hlen,decide_true,gB_t,fBin_add,e1,bindO_s]
   rw [← ih',show List.take Q[j].length (Q[j].map I) = Q[j].map I from List.take_of_length_le (by simp),← List.map_drop]
   simp only [LL,I,List.map_append,Option.toList_some,List.map_cons,List.map_nil]
  ·have hz:(nextQ W (li ol) Q)[j]? = some []:=by
    simp only [nextQ,List.getElem?_map,hzz,Option.map_some,g,if_false]
   rw [List.take_add_one,hz] at ih'
   have hq0:Q[j] = []:=List.length_eq_zero_iff.1 (by omega)
   simp only [fLen_sl,bindO_s,fCond_b,fBin_lss,decide_eq_true_eq,Int.ofNat_lt,hk,if_true,idx_sl hn (LK_len l),LK_zero,LK_one,LK_two,LK_three,LK_four,LK_five,hixQ,LL_zero,hcl,arrRows_arr,fBin_gtr,g,if_false]
   rw [mach_runner_step.L6_eq]
   simp only [List.length_map,hlen,decide_true,gB_t,fBin_add,e1,bindO_s]
   rw [← ih',hq0]
   simp [LL]
theorem step_L7 (h:OkN (li oms) (li ops) (li ol) (li oi) (li oo)) {W:Nat → TRow} (hfit:∀ p,p < (li ops).length → fitP (outsAt (li oms) (li ops) (p:Int)) (li (W p).2.1) = true) (hlo:(li oo).length < 10000000000000) (x3 x4 x5 x6 x7 x8 x9 x10 x11 x12:FV) (es13:List (FV × FV)) (r14 r15 r17 r19:List (List FV)) :
  ∀ (t:List TPin) (k:Nat),(li oo).drop k = t →
  mach_runner_step.L7 (sl PN oo) (.int .i64 ((li oo).length:Int)) (.int .i64 (k:Int)) x3 x4 x5 x6 x7 x8 x9 x10 x11 x12 es13 r14 r15 (saidV (li ops).length W) r17 ((shown W ((li oo).take k)).map I) r19 =
   some (.tup [.arr ((shown W (li oo)).map I),.agg [.arr r17,.arr r19]]):=by
 intro t
 induction t with
 | nil =>
  intro k hd
  have hk:=drop_nil hd
  rw [mach_runner_step.L7_eq,List.take_of_length_le (by omega)]
  simp only [fLen_sl,bindO_s,fCond_b,fBin_lss,decide_eq_true_eq,Int.ofNat_lt,hk,if_false]
 | cons q t ih =>
  intro k hd
  obtain ⟨hk,hn,hs'⟩:=drop_cons hd
  have e1:IntKind.i64.wrap ((k:Int) + 1) = ((k + 1:Nat):Int):=wrap64 (by omega) (by omega)
  have hout:=isOutB_iff.1 (h.ook q (List.mem_of_getElem? hn))
  obtain ⟨s1,s2⟩:=saidV_get (n:=(li ops).length) (w:=W) hout.1 hout.2.1
  have hu:=hfit q.1.toNat (by omega)
  simp only [fitP,Bool.and_eq_true,decide_eq_true_eq] at hu
  rw [show ((q.1.toNat:Nat):Int) = q.1 by omega] at hu
  have hk'':q.2.1.toNat < (li (W q.1.toNat).2.1).length:=by omega
  have hix:=idx_sl (List.getElem?_eq_getElem hk'') (I_len _)
  rw [show ((q.2.1.toNat:Nat):Int) = q.2.1 by omega] at hix
  have hv:(li (W q.1.toNat).2.1).getD q.2.1.toNat 0 = (li (W q.1.toNat).2.1)[q.2.1.toNat]:=by
   rw [List.getD_eq_getElem?_getD,List.getElem?_eq_getElem hk'',Option.getD_some]
  have hlen:((shown W ((li oo).take k)).length + 1) * 8 ≤ room:=by unfold room;simp [shown];omega
  have hsh:shown W ((li oo).take (k + 1)) = shown W ((li oo).take k) ++ [(li (W q.1.toNat).2.1)[q.2.1.toNat]]:=by
   rw [List.take_add_one,hn]
   simp only [shown,List.map_append,Option.toList_some,List.map_cons,List.map_nil,hv]
  have ih':=ih (k + 1) hs'
  rw [hsh] at ih'
  rw [mach_runner_step.L7_eq]
  simp only [fLen_sl,bindO_s,fCond_b,fBin_lss,decide_eq_true_eq,Int.ofNat_lt,hk,if_true,idx_sl hn (PN_len q),PN_zero,PN_one,s1,s2,hix,I_zero,List.length_map,hlen,decide_true,gB_t,fBin_add,e1]
  rw [← ih',List.map_append]
  rfl
theorem runner_step_ok (h:OkN (li oms) (li ops) (li ol) (li oi) (li oo)) (hms:OkMs (li oms)) (hx:fitP ((li oi).map (inAt (li oms) (li ops))) (li ox) = true) {Q:List (List Int)} {sts:List Int} (hs:StOk (li oms) (li ops) (li ol) Q sts) (hli:(li oi).length < 1000000000000000) (hlo:(li oo).length < 10000000000000)
  {o:List Nat} (ho:Ord (EE (li ol)) (li ops).length o) {W:Nat → TRow} (hW:∀ p,p < (li ops).length → W p = rowOf (li oms) (li ops) (li oi) (li ox) (li ol) Q sts W p) (xn x0:FV) :
  mach_runner_step (.agg [sl MC oms,xn,x0,sl PT ops,sl LK ol,sl PN oi,sl PN oo,.arr (o.map numR)]) (.agg [.arr (sts.map I),.arr (Q.map LL)]) (sl I ox) =
   some (.tup [.arr ((shown W (li oo)).map I),.agg [.arr ((nextS (li ops).length W).map I),.arr ((nextQ W (li ol) Q).map LL)]]):=by
 have hxl:(li oi).length = (li ox).length:=by
  simp only [fitP,Bool.and_eq_true,decide_eq_true_eq,List.length_map] at hx
  exact hx.1
 have hfit:=sol_ok h hms hx hs hW
 have hA0:MInv (li oi) (li ox) (li ol) Q W ((li oi).zip (li ox)) (fun i => i < 0 ∧ DL (li ol) [] i):=by
  refine ⟨?_,fun e he => he,fun j l q h1 h2 h3 => absurd h3.1 (by omega),fun k hk => ?_⟩
  ·rw [List.map_fst_zip (by omega)]
   exact (List.nodup_append.1 h.nd).2.1
  ·rw [List.map_fst_zip (by omega)] at hk
   exact Or.inl hk
 have h0:=step_L0 (ox:=ox) h hxl hli (sl MC oms) xn x0 (sl PT ops) (sl PN oi) (sl PN oo) (.arr (o.map numR)) (.arr (sts.map I)) (.arr (Q.map LL)) [] [] _ 0 rfl
 obtain ⟨A1,hA1,h1⟩:=step_L1 (ox:=ox) (o:=o) h hs (sl MC oms) xn x0 (sl PN oi) (sl PN oo) (.arr (sts.map I)) [] [] _ 0 _ rfl hA0
 obtain ⟨A2,h2⟩:=step_parts h hms hx hs hW ho xn x0 (sl PN oi) (sl PN oo) [] [] [] _ 0 w0 A1 rfl (fun u hu => by simp at hu) hA1
 have h5:=step_L5 h hs hfit (sl MC oms) xn x0 (sl PT ops) (sl PN oi) (.arr (o.map numR)) (.arr (sts.map I)) (mapV A2) [] [] (goV (li ops).length W) _ 0 rfl
 have h7:=step_L7 h hfit hlo (sl MC oms) xn x0 (sl PT ops) (sl LK ol) (sl PN oi) (sl PN oo) (.arr (o.map numR)) (.arr (sts.map I)) (.arr (Q.map LL)) (mapV A2) [] [] (goV (li ops).length W) ((nextQ W (li ol) Q).map LL) _ 0 rfl
 rw [mach_runner_step.eq]
 simp only [fIsAgg_agg,List.length_cons,List.length_nil,fCell_zero,fCell_succ,fLen_sl,bindO_s]
 rw [show (0 + 1 + 1 + 1 + 1 + 1 + 1 + 1 + 1 == 8) = true from rfl,gB_t,show (0 + 1 + 1 == 2) = true from rfl,gB_t]
 refine Eq.trans h0 (Eq.trans h1 ?_)
 rw [vec_rep,vec_rep]
 refine Eq.trans h2 (Eq.trans h5 ?_)
 rw [← goV_map]
 exact h7
end
end Go.Proofs.Ytelcbakleaaneaa
end
section
namespace Go.Proofs.Ytelcbakleaaneaa
open Go Go.Proofs.Ytelcbakleaaneaa.VM
def sts0 (ms:List TMach) (ps:List TPart):List Int:=(List.range ps.length).map fun p => (mAt ms ps p).2.2.1
def q0 (ls:List TLink):List (List Int):=ls.map fun l => li l.2.2.2.1
theorem st0_ok {ms:List TMach} {ps:List TPart} {ls:List TLink} {is os:List TPin} (h:OkN ms ps ls is os) (hms:OkMs ms):StOk ms ps ls (q0 ls) (sts0 ms ps):=by
 refine ⟨by simp [q0],fun j l q h1 h2 => ?_,by simp [sts0],fun p hp => ?_⟩
 ·simp only [q0,List.getElem?_map,h1,Option.map_some,Option.some.injEq] at h2
  subst h2
  have hl:=h.lok l (List.mem_of_getElem? h1)
  refine ⟨hl.len,fun v hv => ?_⟩
  have:=hl.init
  simp only [initOk,List.all_eq_true,Bool.and_eq_true,decide_eq_true_eq] at this
  exact this v hv
 ·have hm:=hms _ (mAt_mem h.pin hp)
  have e:(sts0 ms ps).getD p 0 = (mAt ms ps p).2.2.1:=by simp [sts0,List.getD_eq_getElem?_getD,hp]
  rw [e]
  exact hm.st
section
variable {oms:Option (List TMach)} {ops:Option (List TPart)} {ol:Option (List TLink)} {oi oo:Option (List TPin)} {ox:Option (List Int)}
theorem first_L0 (h:OkN (li oms) (li ops) (li ol) (li oi) (li oo)) (x2 x4 x5 x6:FV) (r7 r8 r10:List (List FV)):∀ (d k:Nat),(li ops).length - k = d → k ≤ (li ops).length →
  ref02_first.L0 (sl MC oms) (.int .i64 (k:Int)) x2 (sl PT ops) x4 x5 x6 r7 r8 (((sts0 (li oms) (li ops)).take k).map I) r10 = ref02_first.L1 (.int .i64 ((0:Nat):Int)) x2 (sl PT ops) x4 x5 x6 r7 r8 ((sts0 (li oms) (li ops)).map I) r10:=by
 intro d
 have h32:=h.n32
 induction d with
 | zero =>
  intro k hd hk
  rw [ref02_first.L0_eq,List.take_of_length_le (by simp [sts0];omega)]
  simp only [fLen_sl,bindO_s,fCond_b,fBin_lss,decide_eq_true_eq,Int.ofNat_lt,show ¬ k < (li ops).length by omega,if_false]
  rfl
 | succ d ih =>
  intro k hd hk
  have hk':k < (li ops).length:=by omega
  have e1:IntKind.i64.wrap ((k:Int) + 1) = ((k + 1:Nat):Int):=wrap64 (by omega) (by omega)
  obtain ⟨q,k1,k2⟩:=part_mAt h.pin hk'
  have hz:(sts0 (li oms) (li ops))[k]? = some (mAt (li oms) (li ops) k).2.2.1:=by simp [sts0,hk']
  have hlen:(((sts0 (li oms) (li ops)).take k).length + 1) * 8 ≤ room:=by unfold room;simp;omega
  have ih':=ih (k + 1) (by omega) (by omega)
  rw [List.take_add_one,hz] at ih'
  rw [ref02_first.L0_eq]
  simp only [fLen_sl,bindO_s,fCond_b,fBin_lss,decide_eq_true_eq,Int.ofNat_lt,hk',if_true,k1,PT_one,k2,MC_two,List.length_map,hlen,decide_true,gB_t,fBin_add,e1]
  rw [← ih',List.map_append]
  rfl
theorem first_L1 (h:OkN (li oms) (li ops) (li ol) (li oi) (li oo)) (x1 x2 x4 x5:FV) (r6 r7 r8:List (List FV)):∀ (t:List TLink) (k:Nat),(li ol).drop k = t →
  ref02_first.L1 (.int .i64 (k:Int)) x1 x2 (sl LK ol) x4 x5 r6 r7 r8 (((q0 (li ol)).take k).map LL) = some (.agg [.arr r8,.arr ((q0 (li ol)).map LL)]):=by
 intro t
 have h64:=h.l64
 induction t with
 | nil =>
  intro k hd
  have hk:=drop_nil hd
  rw [ref02_first.L1_eq,List.take_of_length_le (by simp [q0];omega)]
  simp only [fLen_sl,bindO_s,fCond_b,fBin_lss,decide_eq_true_eq,Int.ofNat_lt,hk,if_false]
 | cons l t ih =>
  intro k hd
  obtain ⟨hk,hn,hs'⟩:=drop_cons hd
  have e1:IntKind.i64.wrap ((k:Int) + 1) = ((k + 1:Nat):Int):=wrap64 (by omega) (by omega)
  have hl:=h.lok l (List.mem_of_getElem? hn)
  have hz:(q0 (li ol))[k]? = some (li l.2.2.2.1):=by simp [q0,hn]
  have hdel:=hl.del
  have hll:=hl.len
  have hlen:(((q0 (li ol)).take k).length + 1) * 24 ≤ room:=by unfold room;simp;omega
  have hr1:(0 + (li l.2.2.2.1).length) * 8 ≤ room:=by unfold room;omega
  have ih':=ih (k + 1) hs'
  rw [List.take_add_one,hz] at ih'
  rw [ref02_first.L1_eq]
  simp only [fLen_sl,bindO_s,fCond_b,fBin_lss,decide_eq_true_eq,Int.ofNat_lt,hk,if_true,idx_sl hn (LK_len l),LK_five,asRows_sl,rowsSz_I,List.length_map,hr1,hlen,decide_true,gB_t,fBin_add,e1]
  rw [← ih',List.map_append]
  rfl
theorem first_ok (h:OkN (li oms) (li ops) (li ol) (li oi) (li oo)) (x0 x3 x4:FV):ref02_first (sl MC oms) (.agg [x0,sl PT ops,sl LK ol,x3,x4]) = some (.agg [.arr ((sts0 (li oms) (li ops)).map I),.arr ((q0 (li ol)).map LL)]):=by
 have h0:=first_L0 h x0 (sl LK ol) x3 x4 [] [] [] _ 0 rfl (Nat.zero_le _)
 have h1:=first_L1 h x0 (sl PT ops) x3 x4 [] [] ((sts0 (li oms) (li ops)).map I) _ 0 rfl
 rw [ref02_first.eq]
 simp only [fIsAgg_agg,List.length_cons,List.length_nil,fCell_zero,fCell_succ]
 rw [show (0 + 1 + 1 + 1 + 1 + 1 == 5) = true from rfl,gB_t]
 exact h0.trans h1
theorem begin_L0 (h:OkN (li oms) (li ops) (li ol) (li oi) (li oo)) (x4 x5 x8 x9 x10:FV) (r11 r12 r14:List (List FV)):∀ (d k:Nat),(li ops).length - k = d → k ≤ (li ops).length →
  mach_runner_begin.L0 (sl PT ops) (.int .i64 ((li ops).length:Int)) (.int .i64 (k:Int)) (sl MC oms) x4 x5 (sl PT ops) (sl LK ol) x8 x9 x10 r11 r12 (((sts0 (li oms) (li ops)).take k).map I) r14 =
   mach_runner_begin.L1 (sl LK ol) (.int .i64 ((li ol).length:Int)) (.int .i64 ((0:Nat):Int)) (sl MC oms) x4 x5 (sl PT ops) (sl LK ol) x8 x9 x10 r11 r12 ((sts0 (li oms) (li ops)).map I) r14:=by
 intro d
 have h32:=h.n32
 induction d with
 | zero =>
  intro k hd hk
  rw [mach_runner_begin.L0_eq,List.take_of_length_le (by simp [sts0];omega)]
  simp only [fLen_sl,bindO_s,fCond_b,fBin_lss,decide_eq_true_eq,Int.ofNat_lt,show ¬ k < (li ops).length by omega,if_false]
  rfl
 | succ d ih =>
  intro k hd hk
  have hk':k < (li ops).length:=by omega
  have e1:IntKind.i64.wrap ((k:Int) + 1) = ((k + 1:Nat):Int):=wrap64 (by omega) (by omega)
  obtain ⟨q,k1,k2⟩:=part_mAt h.pin hk'
  have hz:(sts0 (li oms) (li ops))[k]? = some (mAt (li oms) (li ops) k).2.2.1:=by simp [sts0,hk']
  have hlen:(((sts0 (li oms) (li ops)).take k).length + 1) * 8 ≤ room:=by unfold room;simp;omega
  have ih':=ih (k + 1) (by omega) (by omega)
  rw [List.take_add_one,hz] at ih'
  rw [mach_runner_begin.L0_eq]
  simp only [fLen_sl,bindO_s,fCond_b,fBin_lss,decide_eq_true_eq,Int.ofNat_lt,hk',if_true,k1,PT_zero,PT_one,k2,MC_two,List.length_map,hlen,decide_true,gB_t,fBin_add,e1]
  rw [← ih',List.map_append]
  rfl
theorem begin_L1 (h:OkN (li oms) (li ops) (li ol) (li oi) (li oo)) (x3 x4 x5 x6 x7 x8 x9 x10:FV) (r11 r12 r13:List (List FV)):∀ (t:List TLink) (k:Nat),(li ol).drop k = t →
  mach_runner_begin.L1 (sl LK ol) (.int .i64 ((li ol).length:Int)) (.int .i64 (k:Int)) x3 x4 x5 x6 x7 x8 x9 x10 r11 r12 r13 (((q0 (li ol)).take k).map LL) = some (.agg [.arr r13,.arr ((q0 (li ol)).map LL)]):=by
 intro t
 have h64:=h.l64
 induction t with
 | nil =>
  intro k hd
  have hk:=drop_nil hd
  rw [mach_runner_begin.L1_eq,List.take_of_length_le (by simp [q0];omega)]
  simp only [fLen_sl,bindO_s,fCond_b,fBin_lss,decide_eq_true_eq,Int.ofNat_lt,hk,if_false]
 | cons l t ih =>
  intro k hd
  obtain ⟨hk,hn,hs'⟩:=drop_cons hd
  have e1:IntKind.i64.wrap ((k:Int) + 1) = ((k + 1:Nat):Int):=wrap64 (by omega) (by omega)
  have hl:=h.lok l (List.mem_of_getElem? hn)
  have hz:(q0 (li ol))[k]? = some (li l.2.2.2.1):=by simp [q0,hn]
  have hdel:=hl.del
  have hll:=hl.len
  have hlen:(((q0 (li ol)).take k).length + 1) * 24 ≤ room:=by unfold room;simp;omega
  have ih':=ih (k + 1) hs'
  rw [List.take_add_one,hz] at ih'
  rw [mach_runner_begin.L1_eq]
  simp only [fLen_sl,bindO_s,fCond_b,fBin_lss,decide_eq_true_eq,Int.ofNat_lt,hk,if_true,idx_sl hn (LK_len l),LK_zero,LK_one,LK_two,LK_three,LK_four,LK_five,clone_sl (o:=l.2.2.2.1) (by omega),arrRows_arr,List.length_map,hlen,decide_true,gB_t,fBin_add,e1]
  rw [← ih',List.map_append]
  rfl
theorem begin_ok (h:OkN (li oms) (li ops) (li ol) (li oi) (li oo)) (xn x0 x3 x4 x5:FV):mach_runner_begin (.agg [sl MC oms,xn,x0,sl PT ops,sl LK ol,x3,x4,x5]) = some (.agg [.arr ((sts0 (li oms) (li ops)).map I),.arr ((q0 (li ol)).map LL)]):=by
 have h0:=begin_L0 h xn x0 x3 x4 x5 [] [] [] _ 0 rfl (Nat.zero_le _)
 have h1:=begin_L1 h (sl MC oms) xn x0 (sl PT ops) (sl LK ol) x3 x4 x5 [] [] ((sts0 (li oms) (li ops)).map I) _ 0 rfl
 rw [mach_runner_begin.eq]
 simp only [fIsAgg_agg,List.length_cons,List.length_nil,fCell_zero,fCell_succ,fLen_sl,bindO_s]
 rw [show (0 + 1 + 1 + 1 + 1 + 1 + 1 + 1 + 1 == 8) = true from rfl,gB_t]
 exact h0.trans h1
theorem netPorts_L0 (h:OkN (li oms) (li ops) (li ol) (li oi) (li oo)) (hli:(li oi).length < 1000000000000) (x2 x4 x6:FV):∀ (t:List TPin) (k:Nat),(li oi).drop k = t →
  ref02_netPorts.L0 (sl MC oms) (.int .i64 (k:Int)) x2 (sl PT ops) x4 (sl PN oi) x6 ((((li oi).take k).map (inAt (li oms) (li ops))).map P) = some (.arr (((li oi).map (inAt (li oms) (li ops))).map P)):=by
 intro t
 induction t with
 | nil =>
  intro k hd
  have hk:=drop_nil hd
  rw [ref02_netPorts.L0_eq,List.take_of_length_le (by omega)]
  simp only [fLen_sl,bindO_s,fCond_b,fBin_lss,decide_eq_true_eq,Int.ofNat_lt,hk,if_false]
 | cons q t ih =>
  intro k hd
  obtain ⟨hk,hn,hs'⟩:=drop_cons hd
  have e1:IntKind.i64.wrap ((k:Int) + 1) = ((k + 1:Nat):Int):=wrap64 (by omega) (by omega)
  obtain ⟨r,m,j1,j2,j3,_,_⟩:=in_get h.pin (h.iok q (List.mem_of_getElem? hn))
  have hlen:(((li oi).take k).length + 1) * 40 ≤ room:=by unfold room;simp;omega
  have ih':=ih (k + 1) hs'
  rw [List.take_add_one,hn] at ih'
  rw [ref02_netPorts.L0_eq]
  simp only [fLen_sl,bindO_s,fCond_b,fBin_lss,decide_eq_true_eq,Int.ofNat_lt,hk,if_true,idx_sl hn (PN_len q),PN_zero,PN_one,j1,PT_one,j2,MC_three,j3,P_zero,P_one,List.length_map,hlen,decide_true,gB_t,fBin_add,e1]
  rw [← ih',List.map_append,List.map_append]
  rfl
theorem netPorts_ok (h:OkN (li oms) (li ops) (li ol) (li oi) (li oo)) (hli:(li oi).length < 1000000000000) (x0 x2 x4:FV):ref02_netPorts (sl MC oms) (.agg [x0,sl PT ops,x2,sl PN oi,x4]) = some (.arr (((li oi).map (inAt (li oms) (li ops))).map P)):=by
 rw [ref02_netPorts.eq]
 simp only [fIsAgg_agg,List.length_cons,List.length_nil,fCell_zero,fCell_succ]
 rw [show (0 + 1 + 1 + 1 + 1 + 1 == 5) = true from rfl,gB_t]
 exact netPorts_L0 h hli x0 x2 x4 _ 0 rfl
theorem dyn_in (a b c d e f g h i:FV):callDyn true (.func 121 []) [.agg [a,b],.agg [c,d,e,f,g],.agg [h,i]] = mach_in (.agg [a,b]) (.agg [c,d,e,f,g]) (.agg [h,i]):=by kernel_rfl
theorem ports_L0 (h:OkN (li oms) (li ops) (li ol) (li oi) (li oo)) (hli:(li oi).length < 1000000000000) (x5 x6 x8 x9 x10 x11:FV):∀ (t:List TPin) (k:Nat),(li oi).drop k = t →
  mach_runner_ports.L0 (.func 121 []) (sl PN oi) (.int .i64 ((li oi).length:Int)) (.int .i64 (k:Int)) (sl MC oms) x5 x6 (sl PT ops) x8 x9 x10 x11 ((((li oi).take k).map (inAt (li oms) (li ops))).map P) = some (.arr (((li oi).map (inAt (li oms) (li ops))).map P)):=by
 intro t
 induction t with
 | nil =>
  intro k hd
  have hk:=drop_nil hd
  rw [mach_runner_ports.L0_eq,List.take_of_length_le (by omega)]
  simp only [fLen_sl,bindO_s,fCond_b,fBin_lss,decide_eq_true_eq,Int.ofNat_lt,hk,if_false]
 | cons q t ih =>
  intro k hd
  obtain ⟨hk,hn,hs'⟩:=drop_cons hd
  have e1:IntKind.i64.wrap ((k:Int) + 1) = ((k + 1:Nat):Int):=wrap64 (by omega) (by omega)
  have hin:=mach_in_ok h.pin x5 x6 x8 x9 x10 (h.iok q (List.mem_of_getElem? hn))
  have hlen:(((li oi).take k).length + 1) * 40 ≤ room:=by unfold room;simp;omega
  have ih':=ih (k + 1) hs'
  rw [List.take_add_one,hn] at ih'
  rw [mach_runner_ports.L0_eq]
  simp only [bindO_s,fCond_b,fBin_lss,decide_eq_true_eq,Int.ofNat_lt,hk,if_true,idx_sl hn (PN_len q),PN_zero,PN_one,dyn_in,hin,P,fIsAgg_agg,List.length_cons,List.length_nil,fCell_zero,fCell_succ,List.length_map,hlen,decide_true,gB_t,fBin_add,e1]
  rw [show (0 + 1 + 1 == 2) = true from rfl,gB_t]
  rw [← ih',List.map_append,List.map_append]
  rfl
theorem ports_ok (h:OkN (li oms) (li ops) (li ol) (li oi) (li oo)) (hli:(li oi).length < 1000000000000) (xn x0 x2 x4 x5:FV):mach_runner_ports (.agg [sl MC oms,xn,x0,sl PT ops,x2,sl PN oi,x4,x5]) (sl PN oi) (.func 121 []) = some (.arr (((li oi).map (inAt (li oms) (li ops))).map P)):=by
 rw [mach_runner_ports.eq]
 simp only [fIsAgg_agg,List.length_cons,List.length_nil,fCell_zero,fCell_succ,fLen_sl,bindO_s]
 rw [show (0 + 1 + 1 + 1 + 1 + 1 + 1 + 1 + 1 == 8) = true from rfl,gB_t]
 exact ports_L0 h hli xn x0 x2 (sl PN oi) x4 x5 _ 0 rfl
end
end Go.Proofs.Ytelcbakleaaneaa
end
section
namespace Go.Proofs.Ytelcbakleaaneaa
open Go Go.Proofs.Ytelcbakleaaneaa.VM
theorem nodup_map_on {α β:Type} {f:α → β}:∀ {l:List α},l.Nodup → (∀ a ∈ l,∀ b ∈ l,f a = f b → a = b) → (l.map f).Nodup
 | [],_,_ => by simp
 | a :: l,h,hf => by
  rw [List.nodup_cons] at h
  rw [List.map_cons,List.nodup_cons]
  refine ⟨fun g => ?_,nodup_map_on h.2 fun x hx y hy => hf x (by simp [hx]) y (by simp [hy])⟩
  obtain ⟨b,hb,e⟩:=List.mem_map.1 g
  have:=hf b (by simp [hb]) a (by simp) e
  exact h.1 (this ▸ hb)
theorem ins_small {ms:List TMach} {ps:List TPart} {ls:List TLink} {is os:List TPin} (h:OkN ms ps ls is os) (hms:OkMs ms):is.length ≤ 256:=by
 have hb:∀ p ∈ is,0 ≤ p.1 ∧ p.1 < 32 ∧ 0 ≤ p.2.1 ∧ p.2.1 < 8:=fun p hp => by
  have h1:=isInB_iff.1 (h.iok p hp)
  have h32:=h.n32
  have hm:=hms _ (mAt_mem h.pin (p:=p.1.toNat) (by omega))
  have h8:=hm.i8
  have e:insAt ms ps p.1 = li (mAt ms ps p.1.toNat).2.2.2.1:=by
   rw [← insAt_mAt,show ((p.1.toNat:Nat):Int) = p.1 by omega]
  rw [e] at h1
  omega
 have hnd:=(List.nodup_append.1 h.nd).2.1
 have:=pig 256 (is.map fun p => p.1.toNat * 8 + p.2.1.toNat) (nodup_map_on hnd fun a ha b hb' e => by
  have h1:=hb a ha
  have h2:=hb b hb'
  obtain ⟨a1,a2,⟨⟩⟩:=a
  obtain ⟨b1,b2,⟨⟩⟩:=b
  simp only at h1 h2 e
  have e1:a1 = b1:=by omega
  have e2:a2 = b2:=by omega
  rw [e1,e2]) (fun x hx => by
  obtain ⟨p,hp,rfl⟩:=List.mem_map.1 hx
  have:=hb p hp
  omega)
 simpa using this
def netGo (ms:List TMach) (ps:List TPart) (ls:List TLink) (is os:List TPin) (o:List Nat):List Int → List (List Int) → List (Option (List Int)) → List (List Int)
 | _,_,[] => []
 | sts,Q,x :: xs => shown (solW ms ps is (li x) ls Q sts o) os :: netGo ms ps ls is os o (nextS ps.length (solW ms ps is (li x) ls Q sts o)) (nextQ (solW ms ps is (li x) ls Q sts o) ls Q) xs
theorem netGo_len (ms:List TMach) (ps:List TPart) (ls:List TLink) (is os:List TPin) (o:List Nat):∀ (xs:List (Option (List Int))) (sts:List Int) (Q:List (List Int)),(netGo ms ps ls is os o sts Q xs).length = xs.length
 | [],_,_ => rfl
 | x :: xs,sts,Q => by simp [netGo,netGo_len ms ps ls is os o xs]
theorem netGo_each (ms:List TMach) (ps:List TPart) (ls:List TLink) (is os:List TPin) (o:List Nat):∀ (xs:List (Option (List Int))) (sts:List Int) (Q:List (List Int)),∀ y ∈ netGo ms ps ls is os o sts Q xs,y.length = os.length
 | [],_,_,y,h => by cases h
 | x :: xs,sts,Q,y,h => by
  simp only [netGo,List.mem_cons] at h
  rcases h with rfl | h
  ·simp [shown]
  ·exact netGo_each ms ps ls is os o xs _ _ y h
theorem netGo_order {ms:List TMach} {ps:List TPart} {ls:List TLink} {is os:List TPin} (h:OkN ms ps ls is os) {o o':List Nat} (ho:Ord (EE ls) ps.length o) (ho':Ord (EE ls) ps.length o'):∀ (xs:List (Option (List Int))) (sts:List Int) (Q:List (List Int)),netGo ms ps ls is os o sts Q xs = netGo ms ps ls is os o' sts Q xs
 | [],_,_ => rfl
 | x :: xs,sts,Q => by
  have e:solW ms ps is (li x) ls Q sts o = solW ms ps is (li x) ls Q sts o':=wGo_same (rowOf_dep (edges h)) ho ho' w0
  simp only [netGo,e,netGo_order h ho ho' xs]
def netF (r:Option (List (List Int)) × Int):FV:=.tup [sl LL r.1,.int .i64 r.2]
def netR (ms:List TMach) (ps:List TPart) (ls:List TLink) (is os:List TPin) (o:List Nat) (xs:List (Option (List Int))):Option (List (List Int)) × Int :=
 if fitAll (is.map (inAt ms ps)) xs then (some (netGo ms ps ls is os o (sts0 ms ps) (q0 ls) xs),0) else (none,27)
section
variable {oms:Option (List TMach)} {ops:Option (List TPart)} {ol:Option (List TLink)} {oi oo:Option (List TPin)} {ox:Option (List (Option (List Int)))}
theorem fit_ports' {is:List TPort} (hl:is.length < 1000000000000000) (v:Option (List Int)):mach_fit (.arr (is.map P)) (sl I v) = some (.bool (fitP is (li v))):=fit_ok (o:=some is) hl
theorem machNet_L0 (h:OkN (li oms) (li ops) (li ol) (li oi) (li oo)) (hms:OkMs (li oms)) (hx:(li ox).length ≤ 4096) (x5 x6 xn x9:FV) (o:List Nat) :
  ∀ (t:List (Option (List Int))) (i:Nat),(li ox).drop i = t →
  mach_RunNet.L0 (sl SI ox) (.arr (((li oi).map (inAt (li oms) (li ops))).map P)) (sl SI ox) (.int .i64 ((li ox).length:Int)) (.int .i64 (i:Int)) x5 x6 (sl MC oms) xn x9 (sl PT ops) (sl LK ol) (sl PN oi) (sl PN oo) (.arr (o.map numR)) =
   if fitAll ((li oi).map (inAt (li oms) (li ops))) t then mach_RunNet.L1 (sl SI ox) (.int .i64 ((li ox).length:Int)) (.int .i64 ((0:Nat):Int)) x5 x6 (sl MC oms) xn x9 (sl PT ops) (sl LK ol) (sl PN oi) (sl PN oo) (.arr (o.map numR)) (.arr ((sts0 (li oms) (li ops)).map I)) (.arr ((q0 (li ol)).map LL)) [] else some (.tup [.nilS,.int .i64 27]):=by
 intro t
 have hli:=ins_small h hms
 induction t with
 | nil =>
  intro i hd
  have hk:=drop_nil hd
  rw [mach_RunNet.L0_eq]
  simp only [fLen_sl,bindO_s,fCond_b,fBin_lss,decide_eq_true_eq,Int.ofNat_lt,hk,if_false,fitAll,List.all_nil,if_true,begin_ok h,fIsAgg_agg,List.length_cons,List.length_nil,fCell_zero,fCell_succ]
  rw [show (0 + 1 + 1 == 2) = true from rfl,gB_t]
  rfl
 | cons x t ih =>
  intro i hd
  obtain ⟨hk,hn,hs'⟩:=drop_cons hd
  have e1:IntKind.i64.wrap ((i:Int) + 1) = ((i + 1:Nat):Int):=wrap64 (by omega) (by omega)
  rw [mach_RunNet.L0_eq]
  simp only [fLen_sl,bindO_s,fCond_b,fBin_lss,decide_eq_true_eq,Int.ofNat_lt,hk,if_true,idx_sl hn (SI_len x),SI_zero,fit_ports' (is:=(li oi).map (inAt (li oms) (li ops))) (by simp;omega),fUn_not,Bool.not_eq_true',fBin_add,e1,ih (i + 1) hs',fitAll,List.all_cons]
  by_cases g:fitP ((li oi).map (inAt (li oms) (li ops))) (li x) = true
  ·simp only [g,if_false,reduceCtorEq,Bool.true_and]
   rfl
  ·simp [g]
theorem machNet_L1 (h:OkN (li oms) (li ops) (li ol) (li oi) (li oo)) (hms:OkMs (li oms)) (hlo:(li oo).length < 10000000000000) {o:List Nat} (ho:Ord (EE (li ol)) (li ops).length o) (hx:(li ox).length ≤ 4096) (x3 x4 xn x7:FV) :
  ∀ (t:List (Option (List Int))) (i:Nat) (sts:List Int) (Q:List (List Int)) (acc:List (List Int)),(li ox).drop i = t → StOk (li oms) (li ops) (li ol) Q sts → acc.length = i → fitAll ((li oi).map (inAt (li oms) (li ops))) t = true →
  mach_RunNet.L1 (sl SI ox) (.int .i64 ((li ox).length:Int)) (.int .i64 (i:Int)) x3 x4 (sl MC oms) xn x7 (sl PT ops) (sl LK ol) (sl PN oi) (sl PN oo) (.arr (o.map numR)) (.arr (sts.map I)) (.arr (Q.map LL)) (acc.map LL) =
   some (.tup [.arr ((acc ++ netGo (li oms) (li ops) (li ol) (li oi) (li oo) o sts Q t).map LL),.int .i64 0]):=by
 intro t
 have hli:=ins_small h hms
 induction t with
 | nil =>
  intro i sts Q acc hd hs hacc hf
  have hk:=drop_nil hd
  rw [mach_RunNet.L1_eq]
  simp only [fLen_sl,bindO_s,fCond_b,fBin_lss,decide_eq_true_eq,Int.ofNat_lt,hk,if_false,netGo,List.append_nil]
 | cons x t ih =>
  intro i sts Q acc hd hs hacc hf
  obtain ⟨hk,hn,hs'⟩:=drop_cons hd
  have e1:IntKind.i64.wrap ((i:Int) + 1) = ((i + 1:Nat):Int):=wrap64 (by omega) (by omega)
  simp only [fitAll,List.all_cons,Bool.and_eq_true] at hf
  obtain ⟨g,hf⟩:=hf
  have hW:=solW_eq (x:=li x) (Q:=Q) (sts:=sts) h ho
  have hst:=runner_step_ok (ox:=x) h hms g hs (by omega) hlo ho hW xn x7
  have ih':=ih (i + 1) (nextS (li ops).length (solW (li oms) (li ops) (li oi) (li x) (li ol) Q sts o)) (nextQ (solW (li oms) (li ops) (li oi) (li x) (li ol) Q sts o) (li ol) Q) (acc ++ [shown (solW (li oms) (li ops) (li oi) (li x) (li ol) Q sts o) (li oo)]) hs' (next_ok h hms g hs hW) (by simp [hacc]) hf
  have hr:(acc.length + 1) * 24 ≤ room:=by unfold room;omega
  rw [mach_RunNet.L1_eq]
  simp only [fLen_sl,bindO_s,fCond_b,fBin_lss,decide_eq_true_eq,Int.ofNat_lt,hk,if_true,idx_sl hn (SI_len x),SI_zero,hst,fIsTup_tup,fIsAgg_agg,List.length_cons,List.length_nil,fTup_zero,fTup_succ,fCell_zero,fCell_succ,List.length_map,hr,decide_true,gB_t,fBin_add,e1]
  rw [show (0 + 1 + 1 == 2) = true from rfl,gB_t,gB_t]
  rw [show acc.map LL ++ [[FV.arr ((shown (solW (li oms) (li ops) (li oi) (li x) (li ol) Q sts o) (li oo)).map I)]] = (acc ++ [shown (solW (li oms) (li ops) (li oi) (li x) (li ol) Q sts o) (li oo)]).map LL by simp [LL]]
  rw [ih']
  simp only [netGo,List.append_assoc,List.singleton_append]
end
def net0:TNet:=([],none,none,none,none,())
noncomputable def netCk (ms:List TMach) (ns:List TNet) (i:Int):Int:=if i < 0 then 21 else if (ns.length:Int) ≤ i then 21 else if machinesGo [] ms ≠ 0 then machinesGo [] ms else
 netC ms (ns.getD i.toNat net0).1 (li (ns.getD i.toNat net0).2.1) (li (ns.getD i.toNat net0).2.2.1) (li (ns.getD i.toNat net0).2.2.2.1) (li (ns.getD i.toNat net0).2.2.2.2.1)
section
variable {oms:Option (List TMach)} {ons:Option (List TNet)} (hlm:(li oms).length < 1000000000000000) (hsm:∀ m ∈ li oms,SmM m) (hns:∀ n ∈ li ons,SmN n) (i:Int)
include hlm hsm hns
theorem checkNet_ok:ref02_CheckNet (.agg [sl MC oms,sl NT ons]) (.int .i64 i) = some (.int .i64 (netCk (li oms) (li ons) i)) ∧ mach_CheckNet (.agg [sl MC oms,sl NT ons]) (.int .i64 i) = some (.int .i64 (netCk (li oms) (li ons) i)):=by
 rw [ref02_CheckNet.eq,mach_CheckNet.eq]
 simp only [fIsAgg_agg,List.length_cons,List.length_nil,fCell_zero,fCell_succ,fLen_sl,bindO_s,fBin_lss,fBin_geq,fCond_b,decide_eq_true_eq,netCk]
 rw [show (0 + 1 + 1 == 2) = true from rfl,gB_t,gB_t]
 by_cases g1:i < 0
 ·exact ⟨by rw [if_pos g1,if_pos g1],by rw [if_pos g1,if_pos g1]⟩
 rw [if_neg g1,if_neg g1,if_neg g1]
 by_cases g2:((li ons).length:Int) ≤ i
 ·exact ⟨by rw [if_pos g2,if_pos g2],by rw [if_pos g2,if_pos g2]⟩
 rw [if_neg g2,if_neg g2,if_neg g2,ref02_CheckNet.L0_eq,mach_CheckNet.L0_eq]
 simp only [ref_machines_ok hlm hsm,mach_book_ok hlm hsm,bindO_s,fBin_neq,fCond_b,decide_eq_true_eq]
 by_cases g3:machinesGo [] (li oms) ≠ 0
 ·exact ⟨by rw [if_pos g3,if_pos g3],by rw [if_pos g3,if_pos g3]⟩
 rw [if_neg g3,if_neg g3,if_neg g3]
 have hi:i.toNat < (li ons).length:=by omega
 have hn:(li ons)[i.toNat]? = some ((li ons).getD i.toNat net0):=by rw [List.getD_eq_getElem?_getD,List.getElem?_eq_getElem hi,Option.getD_some]
 have hix:=idx_sl hn (NT_len _)
 rw [show ((i.toNat:Nat):Int) = i by omega] at hix
 obtain ⟨s1,s2,s3,s4,s5⟩:=hns _ (List.mem_of_getElem? hn)
 rw [hix]
 simp only [bindO_s,NT_zero,NT_one,NT_two,NT_three,NT_four]
 exact ⟨ref_net_ok hsm hlm s2.1 s3.1 s4 s5 s2.2 s3.2 (sl NT ons) s1,mach_net_ok hsm hlm s2.1 s3.1 s4 s5 s2.2 s3.2 (sl NT ons) s1⟩
noncomputable def runNetR (ms:List TMach) (ns:List TNet) (i:Int) (o:List Nat) (xs:List (Option (List Int))):Option (List (List Int)) × Int :=
 if netCk ms ns i ≠ 0 then (none,netCk ms ns i) else if 4096 < (xs.length:Int) then (none,26) else
 netR ms (li (ns.getD i.toNat net0).2.1) (li (ns.getD i.toNat net0).2.2.1) (li (ns.getD i.toNat net0).2.2.2.1) (li (ns.getD i.toNat net0).2.2.2.2.1) o xs
end
end Go.Proofs.Ytelcbakleaaneaa
end
end
section
namespace Go.Proofs.Ytelcbakleaaneaa
open Go Go.Proofs.Ytelcbakleaaneaa.VM
def digs:List TPort → Nat → List Int × Nat
 | [],n => ([],n)
 | p :: ps,n => ((((digs ps n).2 % (li p.2.1).length:Nat):Int) :: (digs ps n).1,(digs ps n).2 / (li p.2.1).length)
theorem digs_len:∀ (ps:List TPort) (n:Nat),(digs ps n).1.length = ps.length
 | [],n => rfl
 | p :: ps,n => by simp [digs,digs_len ps n]
theorem digs_le:∀ (ps:List TPort) (n:Nat),(digs ps n).2 ≤ n
 | [],n => Nat.le_refl _
 | p :: ps,n => Nat.le_trans (Nat.div_le_self _ _) (digs_le ps n)
theorem digs_fitGo:∀ (ps:List TPort) (n:Nat),Lens ps → fitGo ps (digs ps n).1 = true
 | [],n,_ => rfl
 | p :: ps,n,h => by
  have hl:=h p (by simp)
  have ih:=digs_fitGo ps n (fun q hq => h q (by simp [hq]))
  have hm:(digs ps n).2 % (li p.2.1).length < (li p.2.1).length:=Nat.mod_lt _ (by omega)
  simp only [digs,fitGo,ih,Bool.and_true,Bool.and_eq_true,decide_eq_true_eq]
  omega
theorem digs_fit (ps:List TPort) (n:Nat) (h:Lens ps):fitP ps (digs ps n).1 = true:=by
 simp only [fitP,digs_len,digs_fitGo ps n h,decide_true,Bool.and_self]
section
variable {o:Option (List TPort)}
theorem set_mid {α:Type} {l:List α} {j:Nat} {x y:α}:(List.replicate (j + 1) x ++ l).set j y = List.replicate j x ++ y :: l:=by
 rw [List.replicate_succ',List.append_assoc,List.set_append_right _ _ (by simp)]
 simp
theorem dig_step {j:Nat} {l:List Int} {v:Int}:rIdx (List.replicate (j + 1) [(FV.int .i64 0:FV)] ++ l.map I) (.int .i64 (j:Int)) = some j ∧ rSet (List.replicate (j + 1) [(FV.int .i64 0:FV)] ++ l.map I) j 0 [.int .i64 v] = some (List.replicate j [(FV.int .i64 0:FV)] ++ (v :: l).map I):=by
 constructor
 ·exact rIdx_at (by simp;omega)
 ·rw [rSet_one (x:=.int .i64 0) (by rw [List.getElem?_append_left (by simp)];simp),set_mid]
  rfl
theorem parts_L0 (hs:(li o).length < 1000000000000000) (hL:Lens (li o)) {n:Nat} (hn:n < 1000000000000000):∀ j,j ≤ (li o).length →
  ref02_Parts.L0 (sl P o) (.int .i64 ((digs ((li o).drop j) n).2:Int)) (.int .i64 ((j:Int) - 1)) (List.replicate j [(FV.int .i64 0:FV)] ++ (digs ((li o).drop j) n).1.map I) = some (.arr ((digs (li o) n).1.map I)):=by
 intro j
 induction j with
 | zero =>
  intro _
  rw [ref02_Parts.L0_eq]
  simp only [fBin_geq,bindO_s,fCond_b,decide_eq_true_eq]
  rw [if_neg (by omega)]
  rfl
 | succ j ih =>
  intro hj
  have hp:(li o)[j]? = some (li o)[j]:=List.getElem?_eq_getElem (by omega)
  have hd:(li o).drop j = (li o)[j] :: (li o).drop (j + 1):=List.drop_eq_getElem_cons (by omega)
  have ih':=ih (by omega)
  have hl:=hL _ (List.mem_of_getElem? hp)
  rw [hd] at ih'
  simp only [digs] at ih'
  have hle:=digs_le ((li o).drop (j + 1)) n
  generalize (digs ((li o).drop (j + 1)) n).2 = m at *
  generalize (digs ((li o).drop (j + 1)) n).1 = l at *
  have e1:(((j + 1:Nat):Int) - 1) = (j:Int):=by omega
  have w1:IntKind.i64.wrap ((j:Int) - 1) = (j:Int) - 1:=wrap64 (by omega) (by omega)
  have w2:IntKind.i64.wrap (((m:Int)).tdiv ((li (li o)[j].2.1).length:Int)) = ((m / (li (li o)[j].2.1).length:Nat):Int):=by
   rw [← Int.ofNat_tdiv]
   have hq:=Nat.div_le_self m (li (li o)[j].2.1).length
   generalize m / (li (li o)[j].2.1).length = q at *
   exact wrap64 (by omega) (by omega)
  have w3:((m:Int)).tmod ((li (li o)[j].2.1).length:Int) = ((m % (li (li o)[j].2.1).length:Nat):Int):=by rw [Int.ofNat_tmod]
  obtain ⟨d1,d2⟩:=dig_step (j:=j) (l:=l) (v:=((m % (li (li o)[j].2.1).length:Nat):Int))
  rw [ref02_Parts.L0_eq,e1]
  simp only [fBin_geq,bindO_s,fCond_b,decide_eq_true_eq,show (0:Int) ≤ (j:Int) by omega,if_true,idx_sl hp (P_len _),P_one,fLen_sl,fBin_rem,fBin_quo,show ¬ ((li (li o)[j].2.1).length:Int) = 0 by omega,if_false,w2,w3,d1,d2,fBin_sub,w1]
  exact ih'
theorem parts_ok (hs:(li o).length < 1000000000000) (hL:Lens (li o)) {n:Nat} (hn:n < 1000000000000000):ref02_Parts (sl P o) (.int .i64 (n:Int)) = some (.arr ((digs (li o) n).1.map I)):=by
 have h0:=parts_L0 (o:=o) (by omega) hL hn (li o).length (Nat.le_refl _)
 rw [List.drop_eq_nil_of_le (Nat.le_refl _)] at h0
 have w1:IntKind.i64.wrap (((li o).length:Int) - 1) = ((li o).length:Int) - 1:=wrap64 (by omega) (by omega)
 rw [ref02_Parts.eq]
 simp only [fLen_sl,bindO_s,asNat_nat,Nat.le_refl,show (li o).length * 8 ≤ room by unfold room;omega,decide_true,Bool.and_self,ge_iff_le,gB_t,fBin_sub,w1]
 simpa [digs] using h0
theorem digits_L0 (hs:(li o).length < 1000000000000000) (hL:Lens (li o)) {n:Nat} (hn:n < 1000000000000000):∀ j,j ≤ (li o).length →
  mach_digits.L0 (sl P o) (.int .i64 ((digs ((li o).drop j) n).2:Int)) (.int .i64 ((j:Int) - 1)) (List.replicate j [(FV.int .i64 0:FV)] ++ (digs ((li o).drop j) n).1.map I) = some (.arr ((digs (li o) n).1.map I)):=by
 intro j
 induction j with
 | zero =>
  intro _
  rw [mach_digits.L0_eq]
  simp only [fBin_geq,bindO_s,fCond_b,decide_eq_true_eq]
  rw [if_neg (by omega)]
  rfl
 | succ j ih =>
  intro hj
  have hp:(li o)[j]? = some (li o)[j]:=List.getElem?_eq_getElem (by omega)
  have hd:(li o).drop j = (li o)[j] :: (li o).drop (j + 1):=List.drop_eq_getElem_cons (by omega)
  have ih':=ih (by omega)
  have hl:=hL _ (List.mem_of_getElem? hp)
  rw [hd] at ih'
  simp only [digs] at ih'
  have hle:=digs_le ((li o).drop (j + 1)) n
  generalize (digs ((li o).drop (j + 1)) n).2 = m at *
  generalize (digs ((li o).drop (j + 1)) n).1 = l at *
  have e1:(((j + 1:Nat):Int) - 1) = (j:Int):=by omega
  have w1:IntKind.i64.wrap ((j:Int) - 1) = (j:Int) - 1:=wrap64 (by omega) (by omega)
  have w2:IntKind.i64.wrap (((m:Int)).tdiv ((li (li o)[j].2.1).length:Int)) = ((m / (li (li o)[j].2.1).length:Nat):Int):=by
   rw [← Int.ofNat_tdiv]
   have hq:=Nat.div_le_self m (li (li o)[j].2.1).length
   generalize m / (li (li o)[j].2.1).length = q at *
   exact wrap64 (by omega) (by omega)
  have w3:((m:Int)).tmod ((li (li o)[j].2.1).length:Int) = ((m % (li (li o)[j].2.1).length:Nat):Int):=by rw [Int.ofNat_tmod]
  obtain ⟨d1,d2⟩:=dig_step (j:=j) (l:=l) (v:=((m % (li (li o)[j].2.1).length:Nat):Int))
  rw [mach_digits.L0_eq,e1]
  simp only [fBin_geq,bindO_s,fCond_b,decide_eq_true_eq,show (0:Int) ≤ (j:Int) by omega,if_true,idx_sl hp (P_len _),P_one,fLen_sl,fBin_rem,fBin_quo,show ¬ ((li (li o)[j].2.1).length:Int) = 0 by omega,if_false,w2,w3,d1,d2,fBin_sub,w1]
  exact ih'
theorem digits_ok (hs:(li o).length < 1000000000000) (hL:Lens (li o)) {n:Nat} (hn:n < 1000000000000000):mach_digits (sl P o) (.int .i64 (n:Int)) = some (.arr ((digs (li o) n).1.map I)):=by
 have h0:=digits_L0 (o:=o) (by omega) hL hn (li o).length (Nat.le_refl _)
 rw [List.drop_eq_nil_of_le (Nat.le_refl _)] at h0
 have w1:IntKind.i64.wrap (((li o).length:Int) - 1) = ((li o).length:Int) - 1:=wrap64 (by omega) (by omega)
 rw [mach_digits.eq]
 simp only [fLen_sl,bindO_s,asNat_nat,Nat.le_refl,show (li o).length * 8 ≤ room by unfold room;omega,decide_true,Bool.and_self,ge_iff_le,gB_t,fBin_sub,w1]
 simpa [digs] using h0
end
def rvec (n:Nat) (g:Nat → FV):List (List FV):=(List.range n).map fun t => [g t]
theorem rvec_get {n:Nat} {g:Nat → FV} {i:Nat} (h:i < n):(rvec n g)[i]? = some [g i]:=by simp [rvec,h]
theorem rvec_set {n:Nat} {g g':Nat → FV} {i:Nat} (hi:i < n) {x:FV} (h0:g' i = x) (h1:∀ j,j ≠ i → j < n → g' j = g j):rSet (rvec n g) i 0 [x] = some (rvec n g'):=by
 rw [rSet_one (rvec_get hi)]
 congr 1
 apply List.ext_getElem
 ·simp [rvec]
 ·intro j hj1 hj2
  have hj:j < n:=by simpa [rvec] using hj2
  simp only [rvec,List.getElem_set,List.getElem_map,List.getElem_range]
  by_cases e:i = j
  ·subst e;rw [if_pos rfl,h0]
  ·rw [if_neg e,h1 j (fun e' => e e'.symm) hj]
theorem sameI_gen {x y:FV} {l m:List Int} (hx:fLen x = some (.int .i64 (l.length:Int))) (hy:fLen y = some (.int .i64 (m.length:Int))) (ix:∀ (k:Nat) v,l[k]? = some v → fIdxC 1 x (.int .i64 (k:Int)) = some (I v)) (iy:∀ (k:Nat) v,m[k]? = some v → fIdxC 1 y (.int .i64 (k:Int)) = some (I v)) (hl:l.length < 1000000000000000) :
  ref02_sameInts x y = some (.bool (decide (l = m))):=by
 have key:l.length = m.length → ∀ (s t:List Int) (k:Nat),l.drop k = s → m.drop k = t → ref02_sameInts.L0 x y (.int .i64 (k:Int)) = some (.bool (decide (s = t))):=by
  intro hlm s
  induction s with
  | nil =>
   intro t k h1 h2
   have hk:=drop_nil h1
   have ht:t = []:=by rw [← h2];exact List.drop_eq_nil_of_le (by omega)
   rw [ref02_sameInts.L0_eq,ht]
   simp only [hx,bindO_s,fBin_lss,fCond_b,decide_eq_true_eq,Int.ofNat_lt,hk,if_false,decide_true]
  | cons v s ih =>
   intro t k h1 h2
   obtain ⟨hk,hn,hs⟩:=drop_cons h1
   have e:IntKind.i64.wrap ((k:Int) + 1) = ((k + 1:Nat):Int):=wrap64 (by omega) (by omega)
   cases t with
   | nil => exact absurd (drop_nil h2) (by omega)
   | cons u t =>
    obtain ⟨_,hn2,hs2⟩:=drop_cons h2
    have i1:=ih t (k + 1) hs hs2
    rw [ref02_sameInts.L0_eq]
    simp only [hx,bindO_s,fBin_lss,fCond_b,decide_eq_true_eq,Int.ofNat_lt,hk,if_true,ix k v hn,iy k u hn2,I_zero,fBin_neq,fBin_add,e,i1,ne_eq]
    by_cases g:v = u
    ·simp [g]
    ·simp [g]
 rw [ref02_sameInts.eq]
 simp only [hx,hy,bindO_s,fBin_neq,fCond_b,decide_eq_true_eq,ne_eq,Int.ofNat_inj]
 by_cases g:l.length = m.length
 ·rw [if_neg (fun q => q g)]
  exact key g l m 0 rfl rfl
 ·have:decide (l = m) = false:=by simp;intro e;exact g (by rw [e])
  rw [if_pos g,this]
theorem sameI_sl {a b:Option (List Int)} (h:(li a).length < 1000000000000000):ref02_sameInts (sl I a) (sl I b) = some (.bool (decide (li a = li b))) :=
 sameI_gen (fLen_sl _ _) (fLen_sl _ _) (fun k v hv => idx_sl hv (I_len v)) (fun k v hv => idx_sl hv (I_len v)) h
def lenP (p:TPort):Nat:=(li p.2.1).length
def sizesB (a b:List TPort):Bool:=decide (a.map lenP = b.map lenP)
end Go.Proofs.Ytelcbakleaaneaa
end
section
namespace Go.Proofs.Ytelcbakleaaneaa
open Go Go.Proofs.Ytelcbakleaaneaa.VM
structure En where
 a:Nat
 b:Nat
 fr:Int
 pa:Nat
 pb:Nat
 inp:Nat
def keyD (e:En):Nat × Nat:=(e.a,e.b)
theorem pigD:∀ (n:Nat) (l:List Nat),l.Nodup → (∀ x ∈ l,x < n) → l.length ≤ n
 | 0,l,_,h => by
  cases l with
  | nil => simp
  | cons x l => exact absurd (h x (by simp)) (by omega)
 | n + 1,l,hn,h => by
  by_cases g:n ∈ l
  ·have h1:=pigD n (l.erase n) (hn.erase n) (fun x hx => by
    have:=(hn.mem_erase_iff).1 hx
    have:=h x this.2
    omega)
   rw [List.length_erase_of_mem g] at h1
   omega
  ·have:=pigD n l hn (fun x hx => by
    have h2:=h x hx
    have h3:x ≠ n:=fun e => g (e ▸ hx)
    omega)
   omega
def runN (rows:List TRow) (p:Nat):Nat → List Nat → List (List Int) × Nat
 | st,[] => ([],st)
 | st,k :: ks => (li (rows.getD (st * p + k) default).2.1 :: (runN rows p (rows.getD (st * p + k) default).1.toNat ks).1,(runN rows p (rows.getD (st * p + k) default).1.toNat ks).2)
theorem runN_snoc (rows:List TRow) (p:Nat):∀ (ks:List Nat) (st k:Nat),runN rows p st (ks ++ [k]) = ((runN rows p st ks).1 ++ [li (rows.getD ((runN rows p st ks).2 * p + k) default).2.1],(rows.getD ((runN rows p st ks).2 * p + k) default).1.toNat)
 | [],st,k => rfl
 | x :: ks,st,k => by simp [runN,runN_snoc rows p ks]
inductive Path (L:List En):Nat → List Nat → Prop
 | root (e:En):L[0]? = some e → Path L 0 []
 | step (j p:Nat) (e f:En) (l:List Nat):L[j]? = some e → e.fr = (p:Int) → p < j → L[p]? = some f → e.pa = f.a → e.pb = f.b → Path L p l → Path L j (l ++ [e.inp])
theorem Path.len {L:List En} {j:Nat} {l:List Nat} (h:Path L j l):l.length ≤ j:=by
 induction h with
 | root e h => simp
 | step j p e f l h1 h2 h3 h4 h5 h6 h7 ih => simp;omega
section
variable {nA nB:Str} {sA sB:Option (List Str)} {a0 b0:Int} {iA oA iB oB:Option (List TPort)} {wA wB:Option (List TRow)}
def rowN (rows:List TRow) (p st k:Nat):TRow:=rows.getD (st * p + k) default
structure BInv (rA rB:List TRow) (p SA SB:Nat) (a0 b0:Int) (L:List En):Prop where
 root:L[0]? = some ⟨a0.toNat,b0.toNat,-1,a0.toNat,b0.toNat,0⟩
 nd:(L.map keyD).Nodup
 rng:∀ e ∈ L,e.a < SA ∧ e.b < SB
 par:∀ (j:Nat) (e:En),L[j]? = some e → j = 0 ∨ ∃ (q:Nat) (f:En),e.fr = (q:Int) ∧ q < j ∧ L[q]? = some f ∧ e.pa = f.a ∧ e.pb = f.b ∧ e.inp < p ∧ (rowN rA p f.a e.inp).1.toNat = e.a ∧ (rowN rB p f.b e.inp).1.toNat = e.b ∧ li (rowN rA p f.a e.inp).2.1 = li (rowN rB p f.b e.inp).2.1
theorem BInv.path {rA rB:List TRow} {p SA SB:Nat} {a0 b0:Int} {L:List En} (h:BInv rA rB p SA SB a0 b0 L):∀ (n j:Nat) (e:En),j ≤ n → L[j]? = some e → ∃ l,Path L j l ∧ (∀ k ∈ l,k < p) ∧ ∃ outs,runN rA p a0.toNat l = (outs,e.a) ∧ runN rB p b0.toNat l = (outs,e.b)
 | n,j,e,hj,he => by
  rcases h.par j e he with rfl | ⟨q,f,h1,h2,h3,h4,h5,h6,h7,h8,h9⟩
  ·have:=h.root
   rw [he] at this;cases this
   exact ⟨[],.root _ he,by simp,[],rfl,rfl⟩
  ·cases n with
   | zero => omega
   | succ n =>
    obtain ⟨l,g1,g2,outs,g3,g4⟩:=BInv.path h n q f (by omega) h3
    refine ⟨l ++ [e.inp],.step j q e f l he h1 h2 h3 h4 h5 g1,fun k hk => ?_,outs ++ [li (rowN rA p f.a e.inp).2.1],?_,?_⟩
    ·rcases List.mem_append.1 hk with hk | hk
     ·exact g2 k hk
     ·simp at hk;omega
    ·rw [runN_snoc,g3]
     simp only
     unfold rowN at h7 ⊢
     rw [h7]
    ·rw [runN_snoc,g4,h9]
     simp only
     unfold rowN at h8 ⊢
     rw [h8]
def numE (SB:Nat) (e:En):Nat:=e.a * SB + e.b
theorem num_inj {SB a b c d:Nat} (h1:b < SB) (h2:d < SB) (h:a * SB + b = c * SB + d):a = c ∧ b = d:=by
 have e1:(a * SB + b) / SB = a:=by rw [Nat.add_comm,Nat.add_mul_div_right _ _ (by omega),Nat.div_eq_of_lt h1];omega
 have e2:(c * SB + d) / SB = c:=by rw [Nat.add_comm,Nat.add_mul_div_right _ _ (by omega),Nat.div_eq_of_lt h2];omega
 rw [h,e2] at e1
 subst e1
 exact ⟨rfl,by omega⟩
theorem num_lt {SA SB a b:Nat} (h1:a < SA) (h2:b < SB):a * SB + b < SA * SB:=by
 have:(a + 1) * SB ≤ SA * SB:=Nat.mul_le_mul_right _ h1
 rw [Nat.add_mul] at this
 omega
theorem BInv.len {rA rB:List TRow} {p SA SB:Nat} {a0 b0:Int} {L:List En} (h:BInv rA rB p SA SB a0 b0 L):L.length ≤ SA * SB:=by
 have hn:(L.map (numE SB)).Nodup:=by
  have key:∀ M:List En,(∀ e ∈ M,e.b < SB) → (M.map keyD).Nodup → (M.map (numE SB)).Nodup:=by
   intro M
   induction M with
   | nil => intro _ _;simp
   | cons e M ih =>
    intro hb hnd
    rw [List.map_cons,List.nodup_cons] at hnd ⊢
    refine ⟨fun g => hnd.1 ?_,ih (fun x hx => hb x (by simp [hx])) hnd.2⟩
    obtain ⟨f,hf,hfe⟩:=List.mem_map.1 g
    obtain ⟨q1,q2⟩:=num_inj (hb f (by simp [hf])) (hb e (by simp)) hfe
    exact List.mem_map.2 ⟨f,hf,by simp [keyD,q1,q2]⟩
  exact key L (fun e he => (h.rng e he).2) h.nd
 have:=pigD (SA * SB) (L.map (numE SB)) hn (fun x hx => by
  obtain ⟨e,he,rfl⟩:=List.mem_map.1 hx
  exact num_lt (h.rng e he).1 (h.rng e he).2)
 simpa using this
theorem BInv.put {rA rB:List TRow} {p SA SB:Nat} {a0 b0:Int} {L:List En} (h:BInv rA rB p SA SB a0 b0 L) {i k:Nat} {e:En} (he:L[i]? = some e) (hk:k < p) (hA:(rowN rA p e.a k).1.toNat < SA) (hB:(rowN rB p e.b k).1.toNat < SB) (ho:li (rowN rA p e.a k).2.1 = li (rowN rB p e.b k).2.1)
  (hnew:((rowN rA p e.a k).1.toNat,(rowN rB p e.b k).1.toNat) ∉ L.map keyD):BInv rA rB p SA SB a0 b0 (L ++ [⟨(rowN rA p e.a k).1.toNat,(rowN rB p e.b k).1.toNat,(i:Int),e.a,e.b,k⟩]):=by
 have hi:i < L.length:=(List.getElem?_eq_some_iff.1 he).1
 have h0:0 < L.length:=by omega
 have old:∀ {j:Nat} {x:En},L[j]? = some x → (L ++ [(⟨(rowN rA p e.a k).1.toNat,(rowN rB p e.b k).1.toNat,(i:Int),e.a,e.b,k⟩:En)])[j]? = some x:=fun {j x} hx => by
  rw [List.getElem?_append_left (List.getElem?_eq_some_iff.1 hx).1];exact hx
 refine ⟨old h.root,?_,fun x hx => ?_,fun j x hx => ?_⟩
 ·rw [List.map_append,List.nodup_append]
  exact ⟨h.nd,by simp,fun y hy z hz => by simp at hz;subst hz;exact fun g => hnew (by simpa [keyD,g] using hy)⟩
 ·rcases List.mem_append.1 hx with hx | hx
  ·exact h.rng x hx
  ·simp at hx;subst hx;exact ⟨hA,hB⟩
 ·by_cases hj:j < L.length
  ·rw [List.getElem?_append_left hj] at hx
   rcases h.par j x hx with h1 | ⟨q,f,h1,h2,h3,h4⟩
   ·exact .inl h1
   ·exact .inr ⟨q,f,h1,h2,old h3,h4⟩
  ·have hj2:j = L.length:=by
    have:=(List.getElem?_eq_some_iff.1 hx).1
    simp at this;omega
   subst hj2
   simp at hx
   subst hx
   exact .inr ⟨i,e,rfl,hi,old he,rfl,rfl,hk,rfl,rfl,ho⟩
def D (ins:List TPort) (k:Nat):List Int:=(digs ins k).1
end
end Go.Proofs.Ytelcbakleaaneaa
end
section
namespace Go.Proofs.Ytelcbakleaaneaa
open Go Go.Proofs.Ytelcbakleaaneaa.VM
def nextV (rows:List TRow):FV:=.arr (rows.map fun r => I r.1)
def saysV (rows:List TRow):FV:=.arr (rows.map fun r => [sl I r.2.1])
structure Tells (rA rB:List TRow) (p SA SB:Nat) (a0 b0:Int) (l:List Nat):Prop where
 short:l.length ≤ 65536
 small:∀ k ∈ l,k < p
 tell:∃ pre k outs a b,l = pre ++ [k] ∧ a < SA ∧ b < SB ∧ runN rA p a0.toNat pre = (outs,a) ∧ runN rB p b0.toNat pre = (outs,b) ∧ li (rowN rA p a k).2.1 ≠ li (rowN rB p b k).2.1
structure OkW (sts:List Str) (start:Int) (ins outs:List TPort) (rows:List TRow):Prop where
 n1:1 ≤ sts.length ∧ sts.length ≤ 4096
 i8:ins.length ≤ 8
 o8:outs.length ≤ 8
 lens:Lens ins
 olens:Lens outs
 st:0 ≤ start ∧ start < (sts.length:Int)
 p4:prodL ins ≤ 4096
 small:sts.length * prodL ins ≤ 1048576
 rlen:rows.length = sts.length * prodL ins
 rok:∀ r ∈ rows,rowOk sts.length outs r = true
theorem OkM.w {sts:List Str} {start:Int} {ins outs:List TPort} {rows:List TRow} (h:OkM sts start ins outs rows):OkW sts start ins outs rows:=by
 have h1:=h.small
 have h2:1 * prodL ins ≤ sts.length * prodL ins:=Nat.mul_le_mul_right _ h.n1.1
 have h3:=h.n1
 exact ⟨by omega,h.i8,h.o8,h.lens,h.olens,h.st,by omega,by omega,h.rlen,h.rok⟩
section
variable {nm:Str} {sts:Option (List Str)} {start:Int} {ins outs:Option (List TPort)} {rows:Option (List TRow)}
theorem rowW_get (h:OkW (li sts) start (li ins) (li outs) (li rows)) {p:Nat} (hp:p = prodL (li ins)) {a k:Nat} (ha:a < (li sts).length) (hk:k < p):(li rows)[a * p + k]? = some (rowN (li rows) p a k) ∧ a * p + k < 1048576 ∧ a * p ≤ 1048576 ∧ 0 ≤ (rowN (li rows) p a k).1 ∧ (rowN (li rows) p a k).1 < ((li sts).length:Int) ∧ (li (rowN (li rows) p a k).2.1).length ≤ 8:=by
 subst hp
 have h1:=h.rlen
 have h2:=h.small
 have h3:=num_lt ha hk
 have hlt:a * prodL (li ins) + k < (li rows).length:=by omega
 have hg:(li rows)[a * prodL (li ins) + k]? = some (rowN (li rows) (prodL (li ins)) a k):=by simp [rowN,hlt]
 have:=h.rok _ (List.mem_of_getElem? hg)
 simp only [rowOk,fitP,Bool.and_eq_true,decide_eq_true_eq] at this
 have ho:=h.o8
 exact ⟨hg,by omega,by omega,this.1.1,this.1.2,by omega⟩
end
end Go.Proofs.Ytelcbakleaaneaa
end
section
namespace Go.Proofs.Ytelcbakleaaneaa
open Go Go.Proofs.Ytelcbakleaaneaa.VM
end Go.Proofs.Ytelcbakleaaneaa
end
